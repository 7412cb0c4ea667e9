/- Rules of the operations that build values, slices and maps. Generic over the program. -/
import Derived.Test.YtkcbaalbgobndaaEngC
import Derived.Laws.Tables
import Derived.MapKept
import Derived.Laws.MakeOwn
namespace Go.CF
open Go

/-! ### Values that are put together -/

/-- Setting a stretch of cells. -/
inductive SetR : List Value → Nat → List Value → List Value → Prop where
  | z {l : List Value} {k : Nat} : SetR l k [] l
  | c {l l1 l2 r : List Value} {k : Nat} {v : Value} : SetL l k v l1 → SetR l1 (k + 1) r l2 → SetR l k (v :: r) l2

/-- The parts laid, one behind the other. -/
inductive Fill (place : Nat → Option (Nat × Nat)) : List Value → List (Nat × Value) → List Value → Prop where
  | nil {l : List Value} : Fill place l [] l
  | one {l l1 l2 : List Value} {i off : Nat} {v : Value} {r : List (Nat × Value)} : place i = some (off, 1) → v.cells = #[v] → SetL l off v l1 → Fill place l1 r l2 → Fill place l ((i, v) :: r) l2
  | agg {l l1 l2 m : List Value} {i off n : Nat} {r : List (Nat × Value)} : place i = some (off, n + 1) → m.length = n + 1 → SetR l off m l1 → Fill place l1 r l2 → Fill place l ((i, .agg m.toArray) :: r) l2

theorem SetL.arr {l l' : List Value} {k : Nat} {v : Value} (h : SetL l k v l') : l.toArray.setIfInBounds k v = l'.toArray := by
  rw [h.eq.1]; simp
theorem SetL.length {l l' : List Value} {k : Nat} {v : Value} (h : SetL l k v l') : l'.length = l.length := by rw [h.eq.1]; simp

theorem SetR.bound : ∀ {l : List Value} {k : Nat} {m l' : List Value}, SetR l k m l' → m ≠ [] → k + m.length ≤ l.length ∧ l'.length = l.length
  | _, _, _, _, .z, hn => absurd rfl hn
  | _, _, _, _, .c h1 .z, _ => by have := h1.eq.2; have := h1.length; simp; omega
  | _, _, _, _, .c h1 (.c h2 h3), _ => by
    have := SetR.bound (.c h2 h3) (by simp)
    have := h1.length
    simp at *; omega

theorem SetR.fold : ∀ {l : List Value} {k : Nat} {m l' : List Value} (j : Nat), SetR l (k + j) m l' → (m.zipIdx j).foldl (fun (cs : Array Value) x => cs.setIfInBounds (k + x.2) x.1) l.toArray = l'.toArray
  | _, _, _, _, _, .z => by simp
  | l, k, _, _, j, .c h1 h2 => by
    simp only [List.zipIdx_cons, List.foldl_cons, h1.arr]
    exact SetR.fold (k := k) (j + 1) h2

theorem fill_of {place : Nat → Option (Nat × Nat)} : ∀ {l : List Value} {ps : List (Nat × Value)} {l' : List Value}, Fill place l ps l' → Instr.fill place l.toArray ps = some l'.toArray
  | _, _, _, .nil => rfl
  | l, _, _, .one (v := v) (off := off) hp hc hs hr => by
    have := hs.eq.2
    simp only [Instr.fill, hp, hc]
    have e1 : (#[v].zipIdx.foldl (fun cs x => match x with | (c, j) => cs.setIfInBounds (off + j) c) l.toArray) = l.toArray.setIfInBounds off v := by simp
    rw [e1, hs.arr]
    simp only [List.size_toArray, List.length_singleton]
    rw [if_neg (by simp; omega)]
    exact fill_of hr
  | l, _, _, .agg (m := m) (off := off) (l1 := l1) hp hm hs hr => by
    have hb := (hs.bound (by intro h; simp [h] at hm)).1
    simp only [Instr.fill, hp, Value.cells, List.size_toArray, hm]
    have e1 := SetR.fold (k := off) 0 (by simpa using hs)
    rw [if_neg (by simp; omega)]
    have e2 : (Array.foldl (fun (cs : Array Value) x => cs.setIfInBounds (off + x.2) x.1) l.toArray m.toArray.zipIdx) = l1.toArray := by
      rw [← Array.foldl_toList, Array.toList_zipIdx]
      exact e1
    rw [e2]
    exact fill_of hr

theorem run_places' {P : Program} (w : World) : ∀ (fs : List Field), (∀ f ∈ fs, P.cellsOf f.type ≠ 0) →
    (fs.mapM fun f => Prod.mk f.offset <$> sizeOf f.type).run P w = .ok (fs.map fun f => (f.offset, P.cellsOf f.type)) w
  | [], _ => by simp
  | f :: fs, h => by
    have h1 := h f (by simp)
    have ih := run_places' w fs (fun g hg => h g (by simp [hg]))
    unfold Program.cellsOf at h1
    cases hi : P.info? f.type with
    | none => simp [hi] at h1
    | some i =>
      have hs : (sizeOf f.type).run P w = .ok i.size w := by simp [sizeOf, typeInfo, hi]
      simp [List.mapM_cons, hs, ih, Program.cellsOf, hi]

def evP (e : Env) : List (Nat × Operand) → Option (List (Nat × Value))
  | [] => some []
  | (i, x) :: r => match ev e x, evP e r with
    | some v, some l => some ((i, v) :: l)
    | _, _ => none
theorem Agree.evP {n : Nat} {e : Env} {a : Act} (h : Agree n e a) : ∀ {xs : List (Nat × Operand)} {vs : List (Nat × Value)}, CF.evP e xs = some vs → (xs.map fun p => (p.1, a.eval p.2)) = vs
  | [], vs, hx => by simp only [CF.evP, Option.some.injEq] at hx; simp [hx]
  | (i, x) :: r, vs, hx => by
    simp only [CF.evP] at hx
    split at hx
    · rename_i v l h1 h2
      simp only [Option.some.injEq] at hx
      subst hx
      simp [h.ev h1, h.evP h2]
    · cases hx

def allPos : List (Nat × Nat × Nat) → Bool
  | [] => true
  | (_, _, s) :: r => Nat.blt 0 s && allPos r
theorem allPos_spec : ∀ {l : List (Nat × Nat × Nat)}, allPos l = true → ∀ x ∈ l, x.2.2 ≠ 0
  | [], _, _, hx => by cases hx
  | (a, b, s) :: r, h, x, hx => by
    simp only [allPos, Bool.and_eq_true, Nat.blt_eq] at h
    rcases List.mem_cons.1 hx with rfl | hx
    · simp; omega
    · exact allPos_spec h.2 x hx

def plS (fs : List (Nat × Nat × Nat)) (i : Nat) : Option (Nat × Nat) := match fs[i]? with
  | some (o, _, s) => some (o, s)
  | none => none

section
variable {P : Program} {tt : Nat → Option TI} {en : Nat → Bool} {fp : List Nat} {n : Nat} {c : Cls} {env : Env} {h : Heap} {N : Env → Heap → Prop} {d : Tmp} {ty : TypeId} {t u : TypeId} {x y z : Operand} {v : Value}

theorem St.build (G : PgOK P tt en) {ti : TI} {fs : List (Nat × Nat × Nat)} {zl l : List Value} {parts : Array (Nat × Operand)} {ps : List (Nat × Value)} (ht : tt t = some ti) (hk : ti.kind = .struct fs) (hz : ti.zero = .agg zl.toArray) (hpos : allPos fs = true)
    (hp : evP env parts.toList = some ps) (hf : Fill (plS fs) zl ps l) (k : N ((d, .agg l.toArray) :: env) h) : St P n fp c (some d) (.build t parts) ty env h N :=
  .ofPu (v := .agg l.toArray) (fun a w ha => by
    obtain ⟨ff, hu, rfl⟩ := (G.ok _ _ ht).struct hk
    have hz1 := (G.ok _ _ ht).run_zero w
    have hpl := run_places' (P := P) w ff.toList (fun f hf => allPos_spec hpos (f.offset, f.type, P.cellsOf f.type) (List.mem_map.2 ⟨f, hf, rfl⟩))
    have hfl := fill_of hf
    have e1 : (parts.map fun p => (p.1, a.eval p.2)).toList = ps := by simpa using ha.evP hp
    have e2 : (fun (i : Nat) => (ff.toList.map fun f => (f.offset, P.cellsOf f.type)).toArray[i]?) = plS (ff.toList.map fun f => (f.offset, f.type, P.cellsOf f.type)) := by
      funext i
      simp only [plS, List.getElem?_map, List.getElem?_toArray]
      cases ff.toList[i]? <;> rfl
    have e3 : (parts.map fun x => (x.1, a.eval x.2)).toList = ps := e1
    simp only [mkOp, execOp, Instr.build, Sem.run_bind, hz1, Result.andThen_ok, hz, run_underlying hu, Array.mapM_eq_mapM_toList]
    simp only [Sem.run_map, Sem.run_pure, bind_pure_comp, hpl, Result.andThen_ok, Value.cells]
    rw [show (Instr.fill (fun i => (ff.toList.map fun f => (f.offset, P.cellsOf f.type)).toArray[i]?) zl.toArray (parts.map fun x => (x.1, a.eval x.2)).toList) = some l.toArray by rw [e2, e3]; exact hfl]
    rfl) k

/-- The places of a slice's or array's elements. -/
def plA (sz i : Nat) : Option (Nat × Nat) := some (i * sz, sz)

def zeroL (z : List Value) : Nat → List Value
  | 0 => []
  | k + 1 => z ++ zeroL z k
theorem zeroL_length (z : List Value) : ∀ k, (zeroL z k).length = k * z.length
  | 0 => by simp [zeroL]
  | k + 1 => by simp [zeroL, zeroL_length z k, Nat.add_mul]; omega
theorem zeroL_get (z : List Value) : ∀ (k i : Nat), i < k * z.length → (zeroL z k)[i]? = z[i % z.length]?
  | 0, i, h => by simp at h
  | k + 1, i, h => by
    by_cases hz : i < z.length
    · simp [zeroL, List.getElem?_append_left hz, Nat.mod_eq_of_lt hz]
    · rw [zeroL, List.getElem?_append_right (by omega), zeroL_get z k (i - z.length) (by rw [Nat.add_mul] at h; omega)]
      congr 1
      have : i = (i - z.length) + z.length := by omega
      rw [this, Nat.add_sub_cancel, Nat.add_mod_right]

theorem zeroL_arr {z : Value} {zl : List Value} (hz : z.cells.toList = zl) (k m : Nat) (hm : m = k * zl.length) :
    ((Array.range m).map fun i => z.cells[i % z.cells.size]!) = (zeroL zl k).toArray := by
  subst hm
  apply Array.ext'
  apply List.ext_getElem?
  intro i
  simp only [Array.toList_map, Array.toList_range, List.getElem?_map]
  have hl : z.cells.size = zl.length := by rw [← hz]; simp
  by_cases hi : i < k * zl.length
  · rw [List.getElem?_range hi, zeroL_get zl k i hi]
    have hpos : 0 < zl.length := by
      rcases Nat.eq_zero_or_pos zl.length with h0 | h0
      · rw [h0] at hi; simp at hi
      · exact h0
    have hlt := Nat.mod_lt i hpos
    simp only [Option.map_some, hl]
    rw [← hz] at hlt ⊢
    simp only [Array.length_toList] at hlt ⊢
    rw [Array.getElem?_toList, Array.getElem?_eq_getElem hlt, getElem!_pos z.cells _ hlt]
  · rw [List.getElem?_eq_none (by simp; omega), List.getElem?_eq_none (by rw [zeroL_length]; omega)]
    rfl

theorem St.buildSlice (G : PgOK P tt en) {ti te : TI} {e len : Nat} {zl l : List Value} {parts : Array (Nat × Operand)} {ps : List (Nat × Value)} (ht : tt t = some ti) (hk : ti.kind = .slice e) (hte : tt e = some te) (hz : te.zero.cells.toList = zl) (hzl : te.size = zl.length)
    (hb : Nat.ble (len * te.size) 16777216 = true) (hp : evP env parts.toList = some ps) (hf : Fill (plA te.size) (zeroL zl len) ps l) (hc : acts c = true)
    (k : ∀ b h', New h b e l h' → b = h.size → h'.size = h.size + 1 → N ((d, .slice (some ⟨b, 0, none⟩) len len) :: env) h') : St P n fp c (some d) (.buildSlice t len parts) ty env h N :=
  .ofEx hc (ld_new (v := fun h => .slice (some ⟨h.size, 0, none⟩) len len) (T := e) (l := l) (fun a w ha hw => by
    have h1 := (G.ok _ _ ht).slice hk
    have h2 := (G.ok _ _ hte).run_size w
    have h3 := (G.ok _ _ hte).run_zero w
    have hfl := fill_of hf
    have hb' := Nat.le_of_ble_eq_true hb
    have e1 : (parts.map fun p => (p.1, a.eval p.2)).toList = ps := by simpa using ha.evP hp
    have e2 := zeroL_arr (z := te.zero) hz len (len * te.size) (by rw [hzl])
    simp only [mkOp, execOp, Instr.buildSlice, Sem.run_bind, run_underlying h1, Result.andThen_ok, h2]
    rw [if_neg (by omega)]
    by_cases h0 : len * te.size = 0
    · have hl0 : zeroL zl len = [] := by
        apply List.eq_nil_of_length_eq_zero
        rw [zeroL_length, ← hzl]; exact h0
      rw [hl0] at hfl
      simp only [h0, if_true, Sem.run_bind, Sem.run_pure, Result.andThen_ok, Array.range_zero', Array.map_empty]
      rw [show (Instr.fill (fun i => some (i * te.size, te.size)) #[] (parts.map fun x => (x.1, a.eval x.2)).toList) = some l.toArray by rw [show (parts.map fun x => (x.1, a.eval x.2)).toList = ps from e1]; exact hfl]
      simp [newRow, ← hw]
    · simp only [h0, if_false, Sem.run_bind, h3, Sem.run_pure, Result.andThen_ok]
      rw [e2, show (Instr.fill (fun i => some (i * te.size, te.size)) (zeroL zl len).toArray (parts.map fun x => (x.1, a.eval x.2)).toList) = some l.toArray by rw [show (parts.map fun x => (x.1, a.eval x.2)).toList = ps from e1]; exact hfl]
      simp [newRow, ← hw]) (k h.size _ ⟨rfl, rfl⟩ rfl (by simp)))

theorem St.makeSlice (G : PgOK P tt en) {ti te : TI} {e : Nat} {zl : List Value} {m cp : Nat} {k1 k2 : IntKind} {mi ci : Int} (ht : tt t = some ti) (hk : ti.kind = .slice e) (hte : tt e = some te) (hz : te.zero.cells.toList = zl) (hzl : te.size = zl.length)
    (hx : ev env x = some (.int k1 mi)) (hy : ev env y = some (.int k2 ci)) (hmi : mi = (m : Int)) (hci : ci = (cp : Int)) (hmc : m ≤ cp) (hb : te.bytes * cp ≤ 281474976710656) (hb2 : cp ≤ 9223372036854775807) (hc : acts c = true)
    (k : ∀ b h', New h b e (zeroL zl cp) h' → b = h.size → h'.size = h.size + 1 → N ((d, .slice (some ⟨b, 0, none⟩) m cp) :: env) h') : St P n fp c (some d) (.makeSlice t x y) ty env h N :=
  .ofEx hc (ld_new (v := fun h => .slice (some ⟨h.size, 0, none⟩) m cp) (T := e) (l := zeroL zl cp) (fun a w ha hw => by
    subst hmi; subst hci
    obtain ⟨i, d, hi, hd, h1, h2, h3, _⟩ := (G.ok _ _ hte).ok
    have hb' : (i.bytes : Int) * (cp : Int) ≤ 281474976710656 := by
      have h6 : ((i.bytes * cp : Nat) : Int) ≤ 281474976710656 := by rw [h2]; omega
      rwa [Int.natCast_mul] at h6
    have hr := run_make (P := P) w t e i te.zero ((G.ok _ _ ht).slice hk) hi h3 k1 k2 m cp (by omega) (by omega) hb' (by omega)
    have e2 := zeroL_arr (z := te.zero) hz cp (cp * te.size) (by rw [hzl])
    simp only [Int.toNat_natCast, madeCells, h1] at hr
    rw [e2] at hr
    simp [mkOp, execOp, ha.ev hx, ha.ev hy, hr, ← hw]) (k h.size _ ⟨rfl, rfl⟩ rfl (by simp)))

/-! ### Slices -/
/-- Where a part of a slice begins. -/
def subA (p : Option Addr) (sz l m : Nat) : Option Addr := if m = l then p else p.map (·.add (l * sz))

theorem pu_slice (G : PgOK P tt en) {ti te : TI} {e len cap l h m : Nat} {p : Option Addr} {lo hi mx : Option Value} (ht : tt t = some ti) (hk : ti.kind = .slice e) (hte : tt e = some te)
    (hb : ∀ w, (Instr.sliceBounds true len cap lo hi mx).run P w = .ok (l, h, m) w) (w : World) : (Instr.sliceAt t (.slice p len cap) lo hi mx).run P w = .ok (.slice (subA p te.size l m) (h - l) (m - l)) w := by
  have h1 := (G.ok _ _ ht).slice hk
  have he : P.elem t = e := by simp [Program.elem, h1]
  have h2 := (G.ok _ _ hte).run_size w
  have h1' : P.underlying t = some (.slice (P.elem t)) := by rw [he]; exact h1
  rw [run_sliceAt_slice w t _ _ _ _ h1', run_slice_any w t p len cap h1', hb w]
  simp [he, h2, sliced, subA]

section sl
variable {ti te : TI} {e len cap : Nat} {p : Option Addr} {k1 k2 k3 : IntKind} {l' m' m2 : Nat} {li hi mi : Int}
theorem St.sliceL (G : PgOK P tt en) (ht : tt t = some ti) (hk : ti.kind = .slice e) (hte : tt e = some te) (hx : ev env x = some (.slice p len cap)) (hl : ev env y = some (.int k1 li)) (hli : li = (l' : Int)) (hle : l' ≤ len)
    (k : N ((d, .slice (subA p te.size l' cap) (len - l') (cap - l')) :: env) h) : St P n fp c (some d) (.slice t x (some y) none none) ty env h N :=
  .ofPu (v := .slice (subA p te.size l' cap) (len - l') (cap - l')) (fun a w ha => by
    subst hli
    have := pu_slice G ht hk hte (p := p) (lo := some (.int k1 (l' : Int))) (hi := none) (mx := none) (len := len) (cap := cap) (l := l') (h := len) (m := cap) (fun w => by simp [Instr.sliceBounds, run_sliceBound, hle]) w
    simp [mkOp, execOp, ha.ev hx, ha.ev hl, this]) k
theorem St.sliceH (G : PgOK P tt en) (ht : tt t = some ti) (hk : ti.kind = .slice e) (hte : tt e = some te) (hx : ev env x = some (.slice p len cap)) (hh : ev env z = some (.int k2 hi)) (hhi : hi = (m' : Int)) (hle : m' ≤ cap)
    (k : N ((d, .slice (subA p te.size 0 cap) m' cap) :: env) h) : St P n fp c (some d) (.slice t x none (some z) none) ty env h N :=
  .ofPu (v := .slice (subA p te.size 0 cap) m' cap) (fun a w ha => by
    subst hhi
    have := pu_slice G ht hk hte (p := p) (lo := none) (hi := some (.int k2 (m' : Int))) (mx := none) (len := len) (cap := cap) (l := 0) (h := m') (m := cap) (fun w => by simp [Instr.sliceBounds, run_sliceBound, hle]) w
    simp [mkOp, execOp, ha.ev hx, ha.ev hh, this]) k
theorem St.sliceLH (G : PgOK P tt en) (ht : tt t = some ti) (hk : ti.kind = .slice e) (hte : tt e = some te) (hx : ev env x = some (.slice p len cap)) (hl : ev env y = some (.int k1 li)) (hh : ev env z = some (.int k2 hi)) (hli : li = (l' : Int)) (hhi : hi = (m' : Int)) (hlh : l' ≤ m') (hle : m' ≤ cap)
    (k : N ((d, .slice (subA p te.size l' cap) (m' - l') (cap - l')) :: env) h) : St P n fp c (some d) (.slice t x (some y) (some z) none) ty env h N :=
  .ofPu (v := .slice (subA p te.size l' cap) (m' - l') (cap - l')) (fun a w ha => by
    subst hli; subst hhi
    have := pu_slice G ht hk hte (p := p) (lo := some (.int k1 (l' : Int))) (hi := some (.int k2 (m' : Int))) (mx := none) (len := len) (cap := cap) (l := l') (h := m') (m := cap) (fun w => by simp [Instr.sliceBounds, run_sliceBound, hle, hlh]) w
    simp [mkOp, execOp, ha.ev hx, ha.ev hl, ha.ev hh, this]) k
theorem St.sliceHM (G : PgOK P tt en) (ht : tt t = some ti) (hk : ti.kind = .slice e) (hte : tt e = some te) (hx : ev env x = some (.slice p len cap)) (hh : ev env z = some (.int k2 hi)) {q : Operand} (hm : ev env q = some (.int k3 mi)) (hhi : hi = (m' : Int)) (hmi : mi = (m2 : Int)) (hhm : m' ≤ m2) (hle : m2 ≤ cap)
    (k : N ((d, .slice (subA p te.size 0 m2) m' m2) :: env) h) : St P n fp c (some d) (.slice t x none (some z) (some q)) ty env h N :=
  .ofPu (v := .slice (subA p te.size 0 m2) m' m2) (fun a w ha => by
    subst hhi; subst hmi
    have := pu_slice G ht hk hte (p := p) (lo := none) (hi := some (.int k2 (m' : Int))) (mx := some (.int k3 (m2 : Int))) (len := len) (cap := cap) (l := 0) (h := m') (m := m2) (fun w => by simp [Instr.sliceBounds, run_sliceBound, hle, hhm]) w
    simp [mkOp, execOp, ha.ev hx, ha.ev hh, ha.ev hm, this]) k
theorem St.sliceLHM (G : PgOK P tt en) (ht : tt t = some ti) (hk : ti.kind = .slice e) (hte : tt e = some te) (hx : ev env x = some (.slice p len cap)) (hl : ev env y = some (.int k1 li)) (hh : ev env z = some (.int k2 hi)) {q : Operand} (hm : ev env q = some (.int k3 mi)) (hli : li = (l' : Int)) (hhi : hi = (m' : Int)) (hmi : mi = (m2 : Int)) (hlh : l' ≤ m') (hhm : m' ≤ m2) (hle : m2 ≤ cap)
    (k : N ((d, .slice (subA p te.size l' m2) (m' - l') (m2 - l')) :: env) h) : St P n fp c (some d) (.slice t x (some y) (some z) (some q)) ty env h N :=
  .ofPu (v := .slice (subA p te.size l' m2) (m' - l') (m2 - l')) (fun a w ha => by
    subst hli; subst hhi; subst hmi
    have := pu_slice G ht hk hte (p := p) (lo := some (.int k1 (l' : Int))) (hi := some (.int k2 (m' : Int))) (mx := some (.int k3 (m2 : Int))) (len := len) (cap := cap) (l := l') (h := m') (m := m2) (fun w => by simp [Instr.sliceBounds, run_sliceBound, hle, hlh, hhm]) w
    simp [mkOp, execOp, ha.ev hx, ha.ev hl, ha.ev hh, ha.ev hm, this]) k
end sl

/-! ### What a slice holds; a slice that is one's own -/

/-- The block of a slice. -/
def blkOf : Value → List Nat
  | .slice (some a) _ _ => [a.block]
  | _ => []

/-- The block that a slice reads: none where it is empty. -/
def rdOf : Value → List Nat
  | .slice (some a) (_ + 1) _ => [a.block]
  | _ => []
theorem rdOf_blk {v : Value} {c : Nat} (h : c ∈ rdOf v) : c ∈ blkOf v := by
  unfold rdOf at h
  split at h
  · exact h
  · cases h

/-- The slice v has len elements, whose cells are vs. -/
structure Sl (h : Heap) (v : Value) (len : Nat) (vs : List Value) : Prop where
  ok : (∃ p cap, v = .slice p 0 cap ∧ len = 0 ∧ vs = []) ∨ ∃ b o cap, v = .slice (some ⟨b, o, none⟩) len cap ∧ 0 < len ∧ len ≤ cap ∧ b < h.size ∧ Cels h ⟨b, o, none⟩ vs

/-- .. and all that lies in its block is known; it may be written and appended to. -/
structure Own (h : Heap) (v : Value) (T sz len : Nat) (vs : List Value) : Prop where
  len_vs : vs.length = len * sz
  ok : (v = .slice none 0 0 ∧ len = 0) ∨ ∃ b o cap l, v = .slice (some ⟨b, o, none⟩) len cap ∧ Blk h b T l ∧ o + cap * sz ≤ l.length ∧ len ≤ cap ∧ (l.drop o).take (len * sz) = vs

theorem Sl.stp {fp : List Nat} {h h' : Heap} {v : Value} {len : Nat} {vs : List Value} (x : Stp fp h h') (hs : Sl h v len vs) (hn : ∀ b ∈ rdOf v, b ∉ fp) : Sl h' v len vs := by
  rcases hs.ok with h1 | ⟨b, o, cap, rfl, hpos, hle, hlt, hc⟩
  · exact ⟨.inl h1⟩
  · obtain ⟨k, rfl⟩ : ∃ k, len = k + 1 := ⟨len - 1, by omega⟩
    exact ⟨.inr ⟨b, o, cap, rfl, hpos, hle, Nat.lt_of_lt_of_le hlt x.size, hc.stp x (hn b (by simp [rdOf]))⟩⟩
theorem Own.stp {fp : List Nat} {h h' : Heap} {v : Value} {T sz len : Nat} {vs : List Value} (x : Stp fp h h') (hs : Own h v T sz len vs) (hn : ∀ b ∈ blkOf v, b ∉ fp) : Own h' v T sz len vs := by
  rcases hs.ok with h1 | ⟨b, o, cap, l, rfl, hb, h1, h2, h3⟩
  · exact ⟨hs.len_vs, .inl h1⟩
  · exact ⟨hs.len_vs, .inr ⟨b, o, cap, l, rfl, x.blk hb (hn b (by simp [blkOf])), h1, h2, h3⟩⟩
theorem Own.sl {h : Heap} {v : Value} {T sz len : Nat} {vs : List Value} (hs : Own h v T sz len vs) : Sl h v len vs := by
  have hl := hs.len_vs
  rcases hs.ok with ⟨rfl, rfl⟩ | ⟨b, o, cap, l, rfl, hb, h1, h2, h3⟩
  · exact ⟨.inl ⟨_, _, rfl, rfl, List.eq_nil_of_length_eq_zero (by simpa using hl)⟩⟩
  · rcases Nat.eq_zero_or_pos len with rfl | hpos
    · exact ⟨.inl ⟨_, _, rfl, rfl, List.eq_nil_of_length_eq_zero (by simpa using hl)⟩⟩
    · exact ⟨.inr ⟨b, o, cap, rfl, hpos, h2, hb.lt, h3 ▸ hb.cels o (len * sz)⟩⟩
theorem Own.lt {h : Heap} {v : Value} {T sz len : Nat} {vs : List Value} (hs : Own h v T sz len vs) : ∀ b ∈ blkOf v, b < h.size := by
  rcases hs.ok with ⟨rfl, _⟩ | ⟨b, o, cap, l, rfl, hb, _⟩
  · intro b hb; simp [blkOf] at hb
  · intro b' hb'; simp [blkOf] at hb'; subst hb'; exact hb.lt
theorem Sl.lt {h : Heap} {v : Value} {len : Nat} {vs : List Value} (hs : Sl h v len vs) : ∀ b ∈ rdOf v, b < h.size := by
  rcases hs.ok with ⟨p, cap, rfl, _, _⟩ | ⟨b, o, cap, rfl, hpos, _, hlt, _⟩
  · intro b hb; simp [rdOf] at hb
  · obtain ⟨k, rfl⟩ : ∃ k, len = k + 1 := ⟨len - 1, by omega⟩
    intro b' hb; simp [rdOf] at hb; subst hb; exact hlt
theorem Own.nil {h : Heap} {T sz : Nat} : Own h (.slice none 0 0) T sz 0 [] := ⟨by simp, .inl ⟨rfl, rfl⟩⟩
theorem Sl.nil {h : Heap} : Sl h (.slice none 0 0) 0 [] := ⟨.inl ⟨_, _, rfl, rfl, rfl⟩⟩
theorem Sl.shape {h : Heap} {v : Value} {len : Nat} {vs : List Value} (hs : Sl h v len vs) : ∃ p cap, v = .slice p len cap := by
  rcases hs.ok with ⟨p, cap, rfl, rfl, _⟩ | ⟨b, o, cap, rfl, _, hle, _, _⟩
  · exact ⟨p, cap, rfl⟩
  · exact ⟨_, cap, rfl⟩
theorem Sl.ofBlk {h : Heap} {b T len : Nat} {l : List Value} (hb : Blk h b T l) (hp : 0 < len := by decide) : Sl h (.slice (some ⟨b, 0, none⟩) len len) len l :=
  ⟨.inr ⟨b, 0, len, rfl, hp, Nat.le_refl _, hb.lt, hb.cels0⟩⟩
theorem Own.ofBlk {h : Heap} {b T sz len : Nat} {l : List Value} (hb : Blk h b T l) (hl : l.length = len * sz) : Own h (.slice (some ⟨b, 0, none⟩) len len) T sz len l :=
  ⟨hl, .inr ⟨b, 0, len, l, rfl, hb, by omega, Nat.le_refl _, by rw [List.drop_zero, ← hl, List.take_length]⟩⟩

/-- What append leaves. -/
structure App (h h' : Heap) (v v' : Value) (T sz len : Nat) (vs : List Value) : Prop where
  own : Own h' v' T sz len vs
  stp : Stp (blkOf v) h h'
  blk : blkOf v' = blkOf v ∨ ∀ b ∈ blkOf v', h.size ≤ b
  room : ∀ a l0 cap, v = .slice (some a) l0 cap → len ≤ cap → v' = .slice (some a) len cap

theorem World.setRow_heap' {w : World} {g : Nat} {cs cs' : Array Value} {T : TypeId} (hb : w.heap[g]? = some (.cells cs T (0, 0))) :
    (w.setRow g cs').heap = w.heap.setIfInBounds g (.cells cs' T (0, 0)) := by
  have hlt : g < w.heap.size := (Array.getElem?_eq_some_iff.1 hb).1
  have hv : w.heap[g] = .cells cs T (0, 0) := (Array.getElem?_eq_some_iff.1 hb).2
  simp only [World.setRow]
  apply Array.ext
  · simp
  · intro k h1 h2
    rw [Array.getElem_modify, Array.getElem_setIfInBounds]
    · split
      · rename_i hk; subst hk; simp [hv]
      · rfl

theorem zeroCells_list (z : Array Value) (k : Nat) : Builtin.zeroCells z k = (Builtin.zeroCells z k).toList.toArray := by simp

theorem ld_append (G : PgOK P tt en) {ti te : TI} {e len m : Nat} {vs news : List Value} {sv xv : Value} {K : Value → Heap → Prop} (ht : tt t = some ti) (hk : ti.kind = .slice e) (hte : tt e = some te) (hz : te.zero.cells.size = te.size)
    (hx : ev env x = some sv) (hy : ev env y = some xv) (ho : Own h sv e te.size len vs) (hs : Sl h xv m news) (hm : news.length = m * te.size) (h1 : ∀ u ∈ news, u.oneCell' = true) (hb : (len + m) * te.bytes ≤ 140737488355328) (hb2 : len + m ≤ 9223372036854775807)
    (k : ∀ v' h', App h h' sv v' e te.size (len + m) (vs ++ news) → K v' h') : Ld P n (.call { callee := .builtin .append, args := #[x, y], argTypes := #[t, t] }) ty env h K := by
  intro a w oo next Q ha hw hop hty hn
  obtain ⟨i, dd, hi, hd, hi1, hi2, hi3, _⟩ := (G.ok _ _ hte).ok
  have hu := (G.ok _ _ ht).slice hk
  have hlv := ho.len_vs
  have hlen : (vs ++ news).length = (len + m) * te.size := by rw [List.length_append, hlv, hm, Nat.add_mul]
  unfold Oper.wp
  have fin : ∀ v' w', (Builtin.append_ #[t, t] ty #[sv, xv]).run P w = .ok v' w' → Same w w' → App h w'.heap sv v' e te.size (len + m) (vs ++ news) → oo.upon P a next Q ((execOp a.eval oo).run P w) := by
    intro v' w' hr hsm happ
    have hrun : (execOp a.eval (mkOp (.call { callee := .builtin .append, args := #[x, y], argTypes := #[t, t] }) ty)).run P w = .ok (.value v') w' := by
      simp [mkOp, execOp, resolve, invoke, builtin, ha.ev hx, ha.ev hy, hr]
    rw [exec_mk, hop, hty, hrun]
    exact hn v' w' hsm (k v' w'.heap happ)
  -- a new row
  have grown : ∀ cap' w1, (∀ a l0 cap, sv = .slice (some a) l0 cap → ¬ len + m ≤ cap) → len + m ≤ cap' → w1.heap = h → Same w w1 → (Builtin.append_ #[t, t] ty #[sv, xv]).run P w = .ok (.slice (some ⟨w.heap.size, 0, none⟩) (len + m) cap') (w1.alloc (.cells (vs.toArray ++ news.toArray ++ Builtin.zeroCells te.zero.cells (cap' - (len + m))) e)) →
      oo.upon P a next Q ((execOp a.eval oo).run P w) := by
    intro cap' w1 hnr hcap hw1 hsm hr
    have hnew : New h h.size e (vs ++ news ++ (Builtin.zeroCells te.zero.cells (cap' - (len + m))).toList) (w1.alloc (.cells (vs.toArray ++ news.toArray ++ Builtin.zeroCells te.zero.cells (cap' - (len + m))) e)).heap := by
      refine ⟨rfl, ?_⟩
      simp only [World.alloc, hw1]
      congr 2
      apply Array.ext'
      simp
    refine fin _ _ hr ⟨hsm.os, hsm.tape, hsm.output⟩ ⟨⟨hlen, .inr ⟨h.size, 0, cap', _, by rw [hw], hnew.blk, ?_, hcap, ?_⟩⟩, hnew.stp, .inr (fun b hb => ?_), fun a l0 cap he hle => absurd hle (hnr a l0 cap he)⟩
    · simp only [List.length_append, Array.length_toList, size_zeroCells, hz]
      rw [List.length_append] at hlen
      rw [hlen, ← Nat.add_mul]
      have : len + m + (cap' - (len + m)) = cap' := by omega
      rw [this]; omega
    · rw [List.drop_zero, ← hlen]; exact List.take_left
    · simp [blkOf, hw] at hb; omega
  have hxa : ∃ ad mc, (xv = .slice (some ad) m mc ∧ ∀ j u, news[j]? = some u → w.cell? (ad.add j) = some u) ∨ (∃ mc', xv = .slice none 0 mc' ∧ m = 0 ∧ news = []) := by
    rcases hs.ok with ⟨p, cap, h1, h2, h3⟩ | ⟨b, o, cap, h1, _, _, _, hc⟩
    · cases p with
      | none => exact ⟨⟨0, 0, none⟩, 0, .inr ⟨cap, h1, h2, h3⟩⟩
      | some ad => exact ⟨ad, cap, .inl ⟨h2 ▸ h1, fun j u hu => by rw [h3] at hu; simp at hu⟩⟩
    · exact ⟨⟨b, o, none⟩, cap, .inl ⟨h1, fun j u hu => (hc.get j u hu).get w hw⟩⟩
  obtain ⟨ad, mc, ⟨rfl, hnews⟩ | ⟨mc', rfl, rfl, rfl⟩⟩ := hxa
  · rcases ho.ok with ⟨rfl, rfl⟩ | ⟨b, o, cap, l, rfl, hbk, hol, hlc, htk⟩
    · have hv0 : vs = [] := List.eq_nil_of_length_eq_zero (by simpa using hlv)
      subst hv0
      by_cases hm0 : m = 0
      · subst hm0
        have hn0 : news = [] := List.eq_nil_of_length_eq_zero (by simpa using hm)
        subst hn0
        refine fin (.slice none 0 0) w ?_ (Same.refl w) ⟨by simpa using Own.nil, hw ▸ Stp.refl _, .inl rfl, fun a l0 cap he => by cases he⟩
        simp [Builtin.append_, run_underlying hu, sizeOf, typeInfo, hi, Builtin.lenOf, Builtin.firstCells, loadCells, loadCellsFrom]
      · have hr := run_append_nil (P := P) w t ty e i te.zero hu hi hi3 ad m mc news (by rw [hi1]; exact hm) hnews (by omega) (by omega) (by rw [hi2]; simp at hb; omega)
        have hge := grownCap_ge w m 0 e
        refine grown (grownCap w m 0 e) w.drew (fun a l0 cap he => by cases he) (by omega) hw ⟨rfl, rfl, rfl⟩ ?_
        simpa using hr
    · by_cases hroom : len + m ≤ cap
      · have hg : w.heap[b]? = some (.cells l.toArray e (0, 0)) := hbk.heap hw
        have hmul : len * te.size + m * te.size ≤ cap * te.size := by rw [← Nat.add_mul]; exact Nat.mul_le_mul_right _ hroom
        have hfirst := run_firstCells_some (P := P) w i.size m ad m mc news (by rw [hi1]; exact hm) hnews
        have hst := run_storeCells_at P b (o + len * te.size) e news 0 l.toArray w hg (by simp; omega) h1
        have hr : (Builtin.append_ #[t, t] ty #[.slice (some ⟨b, o, none⟩) len cap, .slice (some ad) m mc]).run P w = .ok (.slice (some ⟨b, o, none⟩) (len + m) cap)
            (w.setRow b (l.take (o + len * te.size) ++ news ++ l.drop (o + len * te.size + news.length)).toArray) := by
          simp only [Nat.add_zero] at hst
          simp only [hi1] at hfirst
          simp [Builtin.append_, run_underlying hu, sizeOf, typeInfo, hi, Builtin.lenOf, hroom, hi1, hfirst, addr_add, hst]
        refine fin _ _ hr ⟨rfl, rfl, rfl⟩ ?_
        have hup : Upd h b e (l.take (o + len * te.size) ++ news ++ l.drop (o + len * te.size + news.length)) (w.setRow b (l.take (o + len * te.size) ++ news ++ l.drop (o + len * te.size + news.length)).toArray).heap :=
          ⟨hbk.lt, by rw [World.setRow_heap' hg, hw]⟩
        refine ⟨⟨hlen, .inr ⟨b, o, cap, _, rfl, hup.blk, ?_, hroom, ?_⟩⟩, hup.stp, .inl rfl, fun a l0 cap0 he _ => by cases he; rfl⟩
        · simp only [List.length_append, List.length_take, List.length_drop]; omega
        · have e1 : List.drop o (List.take (o + len * te.size) l ++ news ++ List.drop (o + len * te.size + news.length) l) = vs ++ news ++ List.drop (o + len * te.size + news.length) l := by
            have ho' : o ≤ (List.take (o + len * te.size) l).length := by simp only [List.length_take]; omega
            rw [List.append_assoc, List.drop_append_of_le_length ho', ← List.append_assoc, List.drop_take]
            congr 2
            rw [Nat.add_sub_cancel_left]; exact htk
          rw [e1, ← hlen]; exact List.take_left
      · have hcl : ∀ j v, vs[j]? = some v → w.cell? ((⟨b, o, none⟩ : Addr).add j) = some v := fun j v hv => by
          have := (hbk.cels o (len * te.size)).get j v (by rw [htk]; exact hv)
          exact this.get w hw
        have hr := run_append_grow (P := P) w t ty e i te.zero hu hi hi3 ⟨b, o, none⟩ len cap vs (by rw [hi1]; exact hlv) hcl ad m mc news (by rw [hi1]; exact hm) hnews (by omega) (by omega) (by rw [hi2]; exact growslice_fits (by omega) hb)
        have hge := grownCap_ge w (len + m) cap e
        exact grown (grownCap w (len + m) cap e) w.drew (fun a l0 cap0 he => by cases he; exact hroom) hge hw ⟨rfl, rfl, rfl⟩ hr
  · -- nothing to append
    have hr : (Builtin.append_ #[t, t] ty #[sv, .slice none 0 mc']).run P w = .ok sv w := by
      rcases ho.ok with ⟨rfl, rfl⟩ | ⟨b, o, cap, l, rfl, hbk, hol, hlc, htk⟩
      · simp [Builtin.append_, run_underlying hu, sizeOf, typeInfo, hi, Builtin.lenOf, Builtin.firstCells]
      · simp [Builtin.append_, run_underlying hu, sizeOf, typeInfo, hi, Builtin.lenOf, Builtin.firstCells, hlc, storeCells]
    refine fin _ _ hr (Same.refl w) ⟨by rw [hw]; simpa using ho, hw ▸ Stp.refl _, .inl rfl, fun a l0 cap he _ => ?_⟩
    rcases ho.ok with ⟨rfl, rfl⟩ | ⟨b, o, cap', l, rfl, hbk, hol, hlc, htk⟩
    · cases he
    · cases he; rfl

theorem St.append (G : PgOK P tt en) {ti te : TI} {e len m : Nat} {vs news : List Value} {sv xv : Value} (ht : tt t = some ti) (hk : ti.kind = .slice e) (hte : tt e = some te) (hz : te.zero.cells.size = te.size)
    (hx : ev env x = some sv) (hy : ev env y = some xv) (ho : Own h sv e te.size len vs) (hs : Sl h xv m news) (hm : news.length = m * te.size) (h1 : ∀ u ∈ news, u.oneCell' = true) (hb : (len + m) * te.bytes ≤ 140737488355328) (hb2 : len + m ≤ 9223372036854775807) (hc : isLoud c = true)
    (k : ∀ v' h', App h h' sv v' e te.size (len + m) (vs ++ news) → N ((d, v') :: env) h') : St P n fp c (some d) (.call { callee := .builtin .append, args := #[x, y], argTypes := #[t, t] }) ty env h N :=
  .ofLd hc (ld_append G ht hk hte hz hx hy ho hs hm h1 hb hb2 k)
theorem St.appendX (G : PgOK P tt en) {ti te : TI} {e len m : Nat} {vs news : List Value} {sv xv : Value} (ht : tt t = some ti) (hk : ti.kind = .slice e) (hte : tt e = some te) (hz : te.zero.cells.size = te.size)
    (hx : ev env x = some sv) (hy : ev env y = some xv) (ho : Own h sv e te.size len vs) (hs : Sl h xv m news) (hm : news.length = m * te.size) (h1 : ∀ u ∈ news, u.oneCell' = true) (hb : (len + m) * te.bytes ≤ 140737488355328) (hb2 : len + m ≤ 9223372036854775807) (hc : acts c = true) (hfp : ∀ b ∈ blkOf sv, b ∈ fp)
    (k : ∀ v' h', App h h' sv v' e te.size (len + m) (vs ++ news) → N ((d, v') :: env) h') : St P n fp c (some d) (.call { callee := .builtin .append, args := #[x, y], argTypes := #[t, t] }) ty env h N :=
  .ofEx hc (ld_append G ht hk hte hz hx hy ho hs hm h1 hb hb2 fun v' h' ha => ⟨ha.stp.mono fun b hb => .inl (hfp b hb), k v' h' ha⟩)
end
end Go.CF
