/- Maps whose keys are integers or flat structs of integers, over abstract values. Generic over the program. -/
import Derived.Test.YtkcbaalbgobndaaEngT
namespace Go.CF
open Go

/-- Entries and the keys that they bear. -/
def fE : List MapEntry → List (List Int) → List Int → Nat → Option (Nat × Value)
  | e :: es, k :: ks, xs, i => if xs = k then some (i, e.val) else fE es ks xs (i + 1)
  | _, _, _, _ => none
def lookL {β : Type} (kvs : List (List Int × β)) (xs : List Int) : Option β := (kvs.find? fun p => decide (p.1 = xs)).map (·.2)
def updL {β : Type} : List (List Int × β) → List Int → β → List (List Int × β)
  | [], xs, v => [(xs, v)]
  | (k, u) :: r, xs, v => if k = xs then (k, v) :: r else (k, u) :: updL r xs v
theorem lookL_upd {β : Type} : ∀ (kvs : List (List Int × β)) (xs ys : List Int) (v : β), lookL (updL kvs xs v) ys = if ys = xs then some v else lookL kvs ys
  | [], xs, ys, v => by
    simp only [updL, lookL, List.find?_cons, List.find?_nil]
    by_cases h : xs = ys
    · subst h; simp
    · have h' : ¬ ys = xs := fun e => h e.symm
      simp [h, h']
  | (k, u) :: r, xs, ys, v => by
    have ih := lookL_upd r xs ys v
    simp only [updL]
    by_cases hk : k = xs
    · subst hk
      simp only [if_true, lookL, List.find?_cons]
      by_cases h : k = ys
      · subst h; simp
      · have h' : ¬ ys = k := fun e => h e.symm
        simp [h, h']
    · simp only [hk, if_false, lookL, List.find?_cons] at ih ⊢
      by_cases h : k = ys
      · subst h; simp [hk]
      · simp only [h, decide_false]; exact ih
structure KeysOK (P : Program) (kt : TypeId) (es : List MapEntry) (ks : List (List Int)) : Prop where
  len : es.length = ks.length
  key : ∀ (i : Nat) (e : MapEntry) (k : List Int), es[i]? = some e → ks[i]? = some k → FV P kt k e.key ∧ k.length = P.cellsOf kt
theorem KeysOK.tail {P : Program} {kt : TypeId} {e : MapEntry} {es : List MapEntry} {k : List Int} {ks : List (List Int)} (h : KeysOK P kt (e :: es) (k :: ks)) : KeysOK P kt es ks :=
  ⟨by simpa using h.len, fun i a b h1 h2 => h.key (i + 1) a b (by simpa using h1) (by simpa using h2)⟩
theorem find_flat {P : Program} {kt : TypeId} (hf : flatI P 4 kt = true) {xs : List Int} {kv : Value} (hk : FV P kt xs kv) (hl : xs.length = P.cellsOf kt) (es : List MapEntry) (ks : List (List Int)) (ho : KeysOK P kt es ks) (w : World) :
    (Instr.findKey kt kv es).run P w = .ok (fE es ks xs 0) w := by
  have hask : ∀ (es : List MapEntry) (ks : List (List Int)) (i : Nat), KeysOK P kt es ks → (Instr.findAsking kt kv es i).run P w = .ok (fE es ks xs i) w := by
    intro es
    induction es with
    | nil => intro ks i _; simp [Instr.findAsking, fE]
    | cons e es ih =>
      intro ks i ho
      match ks, ho with
      | [], ho => have := ho.len; simp at this
      | k :: ks, ho =>
        obtain ⟨h1, h2⟩ := ho.key 0 e k rfl rfl
        have he := eq_flat 4 kt hf 10000 (by decide) xs k kv e.key hl h2 hk h1 w
        have ih' := ih ks (i + 1) ho.tail
        simp only [Instr.findAsking, Op.equal, Op.maxDepth, Sem.run_bind, he, Result.andThen_ok, fE]
        by_cases hx : xs = k
        · subst hx; simp
        · simp only [hx, decide_false, Bool.false_eq_true, if_false]; exact ih'
  rcases flatI_cases hf with ⟨hu, hc⟩ | ⟨fs, _, _, hu, _⟩
  · have hnow : ∀ (es : List MapEntry) (ks : List (List Int)) (i : Nat), KeysOK P kt es ks → Instr.findNow (.int .i64) kv es i = some (fE es ks xs i) := by
      intro es
      induction es with
      | nil => intro ks i _; simp [Instr.findNow, fE]
      | cons e es ih =>
        intro ks i ho
        match ks, ho with
        | [], ho => have := ho.len; simp at this
        | k :: ks, ho =>
          obtain ⟨h1, h2⟩ := ho.key 0 e k rfl rfl
          have ih' := ih ks (i + 1) ho.tail
          cases hk with
          | st h' => rw [hu] at h'; cases h'
          | @int x _ =>
            generalize hek : e.key = ek at h1
            cases h1 with
            | st h' => rw [hu] at h'; cases h'
            | @int y _ =>
              simp only [Instr.findNow, hek, Instr.sameNow, if_true, fE]
              by_cases hx : x = y
              · subst hx; simp
              · have h3 : (x == y) = false := by simpa using hx
                have h4 : ¬ [x] = [y] := by simpa using hx
                simp only [h3, h4, if_false]; exact ih'
    simp only [Instr.findKey, Sem.run_bind, run_underlying hu, Result.andThen_ok, hnow es ks 0 ho, Sem.run_pure]
  · cases es with
    | nil =>
      simp only [Instr.findKey, Sem.run_bind, run_underlying hu, Result.andThen_ok, Instr.findNow, Sem.run_pure, fE]
    | cons e es =>
      have hn : Instr.findNow (.struct fs) kv (e :: es) 0 = none := by
        simp [Instr.findNow, Instr.sameNow]
      simp only [Instr.findKey, Sem.run_bind, run_underlying hu, Result.andThen_ok, hn]
      exact hask (e :: es) ks 0 ho
/-- A map of one's own. -/
def mapR (P : Program) {β : Type} (b : Nat) (kt : TypeId) (kvs : List (List Int × β)) (f : β → AV) : Res :=
  ⟨fun h O G => (∀ x, O x ↔ x = b) ∧ ∃ es clock, h[b]? = some (.map es clock) ∧ KeysOK P kt es.toList (kvs.map (·.1)) ∧ ∀ (i : Nat) (e : MapEntry) (p : List Int × β), es.toList[i]? = some e → kvs[i]? = some p → (f p.2).R h G e.val,
   by rintro h h' O G x ⟨ho, es, cl, h1, h2, h3⟩; exact ⟨ho, es, cl, (x.same b (.inl ((ho b).2 rfl)) (Array.getElem?_eq_some_iff.1 h1).1).trans h1, h2, fun i e p g1 g2 => (f p.2).stp (x.mono fun _ => .inr) (h3 i e p g1 g2)⟩,
   by rintro h O G G' x ⟨ho, es, cl, h1, h2, h3⟩; exact ⟨ho, es, cl, h1, h2, fun i e p g1 g2 => (f p.2).mono x (h3 i e p g1 g2)⟩⟩
structure TkM (P : Program) (o : List Res) (b : Nat) (k : ∀ {β : Type}, TypeId → List (List Int × β) → (β → AV) → List Res → Prop) : Prop where
  ok : ∃ (β : Type) (kt : TypeId) (kvs : List (List Int × β)) (f : β → AV) (rest : List Res), Take o (mapR P b kt kvs f) rest ∧ k kt kvs f rest
theorem TkM.r {β : Type} {P : Program} {o rest : List Res} {b : Nat} {k : ∀ {β : Type}, TypeId → List (List Int × β) → (β → AV) → List Res → Prop} {kt : TypeId} {kvs : List (List Int × β)} {f : β → AV} (h : Take o (mapR P b kt kvs f) rest) (hk : k kt kvs f rest) : TkM P o b k := ⟨β, kt, kvs, f, rest, h, hk⟩
structure MkM (k : ∀ {β : Type}, (β → AV) → Prop) : Prop where
  ok : ∃ (β : Type) (f : β → AV), k f
theorem MkM.r {β : Type} {k : ∀ {β : Type}, (β → AV) → Prop} (f : β → AV) (h : k f) : MkM k := ⟨β, f, h⟩
/-- A key. -/
structure Ky (a : AV) (M : List Int → Prop) : Prop where
  ok : ∃ xs, M xs ∧ ((∃ x, xs = [x] ∧ a = .val (.int .i64 x)) ∨ ∃ cs, a = .agg cs ∧ ILit cs xs ∧ 2 ≤ xs.length)
instance {x : Int} {M : List Int → Prop} : Sp (Ky (.val (.int .i64 x)) M) (M [x]) := ⟨fun h => ⟨[x], h, .inl ⟨x, rfl, rfl⟩⟩⟩
instance {cs : List AV} {M : List Int → Prop} : Sp (Ky (.agg cs) M) (Il cs fun xs => Rf (Nat.ble 2 xs.length = true) (M xs)) := ⟨fun ⟨xs, h1, h0, h2⟩ => ⟨xs, h2, .inr ⟨cs, rfl, h1, Nat.le_of_ble_eq_true h0⟩⟩⟩
structure UpV {β : Type} (f : β → AV) (a : AV) (k : β → Prop) : Prop where
  ok : ∃ v, f v = a ∧ k v
theorem UpV.r {β : Type} {f : β → AV} {a : AV} {k : β → Prop} {v : β} (h : f v = a) (hk : k v) : UpV f a k := ⟨v, h, hk⟩
/-- What a map answers. -/
structure LkM {β : Type} (q : Option β) (X : β → Prop) (Y : Prop) : Prop where
  x : ∀ v, q = some v → X v
  y : q = none → Y
theorem LkM.s {β : Type} {q : Option β} {X : β → Prop} {Y : Prop} {v : β} (h : q = some v) (hx : X v) : LkM q X Y := ⟨fun w hw => (by rw [h] at hw; cases hw; exact hx), fun hn => (by rw [h] at hn; cases hn)⟩
theorem LkM.n {β : Type} {q : Option β} {X : β → Prop} {Y : Prop} (h : q = none) (hy : Y) : LkM q X Y := ⟨fun w hw => (by rw [h] at hw; cases hw), fun _ => hy⟩
/-- The types of a map's keys and elements, and the element's zero value. -/
def mpE (tt : Nat → Option TI) (t : Nat) : Option (Nat × Nat × TI) := match tt t with
  | some ti => match ti.kind with
    | .map k e => match tt e with
      | some te => some (k, e, te)
      | none => none
    | _ => none
  | none => none
theorem mpE_spec {tt : Nat → Option TI} {t : Nat} {p : Nat × Nat × TI} (h : mpE tt t = some p) : ∃ ti, tt t = some ti ∧ ti.kind = .map p.1 p.2.1 ∧ tt p.2.1 = some p.2.2 := by
  unfold mpE at h
  split at h
  · rename_i ti h1
    split at h
    · rename_i k e h2
      split at h
      · rename_i te h3
        cases h
        exact ⟨ti, h1, h2, h3⟩
      · cases h
    · cases h
  · cases h
theorem fE_spec {β : Type} : ∀ (es : List MapEntry) (kvs : List (List Int × β)) (xs : List Int) (i : Nat), es.length = kvs.length →
    (fE es (kvs.map (·.1)) xs i = none ∧ lookL kvs xs = none ∧ (∀ v, updL kvs xs v = kvs ++ [(xs, v)])) ∨ ∃ j e v, fE es (kvs.map (·.1)) xs i = some (i + j, e.val) ∧ es[j]? = some e ∧ kvs[j]? = some (xs, v) ∧ lookL kvs xs = some v ∧ ∀ u, updL kvs xs u = kvs.set j (xs, u)
  | [], [], xs, i, _ => .inl ⟨rfl, rfl, fun _ => rfl⟩
  | [], _ :: _, _, _, h => by simp at h
  | _ :: _, [], _, _, h => by simp at h
  | e :: es, (k, v) :: kvs, xs, i, h => by
    by_cases hx : xs = k
    · subst hx
      refine .inr ⟨0, e, v, ?_, rfl, rfl, ?_, fun u => ?_⟩
      · simp [fE]
      · simp [lookL]
      · simp [updL]
    · have hx' : ¬ k = xs := fun e => hx e.symm
      rcases fE_spec es kvs xs (i + 1) (by simpa using h) with ⟨h1, h2, h3⟩ | ⟨j, e', v', h1, h2, h3, h4, h5⟩
      · refine .inl ⟨?_, ?_, fun u => ?_⟩
        · simp only [List.map_cons, fE, hx, if_false]; exact h1
        · simp only [lookL, List.find?_cons, hx', decide_false] at h2 ⊢; exact h2
        · simp only [updL, hx', if_false, h3 u, List.cons_append]
      · refine .inr ⟨j + 1, e', v', ?_, by simpa using h2, by simpa using h3, ?_, fun u => ?_⟩
        · simp only [List.map_cons, fE, hx, if_false, h1]; congr 2; omega
        · simp only [lookL, List.find?_cons, hx', decide_false] at h4 ⊢; exact h4
        · simp only [updL, hx', if_false, h5 u, List.set_cons_succ]
theorem updL_none {β : Type} : ∀ (kvs : List (List Int × β)) (xs : List Int) (v : β), lookL kvs xs = none → updL kvs xs v = kvs ++ [(xs, v)]
  | [], _, _, _ => rfl
  | (k, u) :: r, xs, v, h => by
    have hk : ¬ k = xs := fun e => by subst e; simp [lookL] at h
    have h' : lookL r xs = none := by simp only [lookL, List.find?_cons, hk, decide_false] at h ⊢; exact h
    simp only [updL, hk, if_false, updL_none r xs v h', List.cons_append]
theorem lookL_map {α : Type} (g : α → List Int) (l : List α) (k : List Int) : lookL (l.map fun e => (g e, e)) k = l.find? fun e => decide (g e = k) := by
  induction l with
  | nil => rfl
  | cons a l ih =>
    simp only [lookL, List.map_cons, List.find?_cons] at ih ⊢
    by_cases h : g a = k
    · simp [h]
    · simp only [h, decide_false]; exact ih
theorem fv_same {P : Program} {kt : TypeId} {xs : List Int} {v w : Value} (h1 : FV P kt xs v) (h2 : FV P kt xs w) : v = w := by
  cases h1 with
  | int hu => cases h2 with
    | int _ => rfl
    | st h' => rw [hu] at h'; cases h'
  | st hu => cases h2 with
    | int h' => rw [hu] at h'; cases h'
    | st _ => rfl
theorem same_bits {P : Program} {kt : TypeId} {xs : List Int} {v : Value} (h : FV P kt xs v) : Instr.sameBits 10000 v v = true := by
  cases h with
  | int _ => simp [Instr.sameBits]
  | st _ =>
    simp only [Instr.sameBits, beq_self_eq_true, Bool.true_and, List.all_eq_true]
    intro p hp
    obtain ⟨a, b⟩ := p
    have hab : a = b ∧ a ∈ xs.map (Value.int .i64) := by
      generalize (xs.map (Value.int .i64)) = l at hp
      induction l with
      | nil => simp at hp
      | cons q l ih =>
        simp only [List.zip_cons_cons, List.mem_cons, Prod.mk.injEq] at hp
        rcases hp with ⟨rfl, rfl⟩ | hp
        · exact ⟨rfl, by simp⟩
        · obtain ⟨h1, h2⟩ := ih hp; exact ⟨h1, by simp [h2]⟩
    obtain ⟨rfl, hm⟩ := hab
    obtain ⟨x, _, rfl⟩ := List.mem_map.1 hm
    simp [Instr.sameBits]

section
variable {Γ : Cx} {k : List KI} {e : EA} {o : List Res} {N : NA} {c : Cls} {d : Tmp} {ty : TypeId} {x y z : Operand} {t u : TypeId}
instance : Sp (SA Γ c (some d) (.makeMap t none) ty e o N) (Rf (acts c = true) (Lk (mpE Γ.tt t) fun p => MkM fun {_} f => All fun b : Nat => N ((d, .val (.map (some b))) :: e) (mapR Γ.P b p.1 [] f :: o))) := ⟨fun ⟨hc, p, hp, β, f, hn⟩ => ⟨fun env hh G Os cn => by
  refine St.makeMap hc .i64 fun b h' hm hst hb hsz => ?_
  obtain ⟨es, cl, h1, h2⟩ := hm.ok
  have he : es = #[] := by
    have : es.toList = [] := by simpa using h2
    exact Array.ext' this
  subst he
  have cn2 := cn.emp.upd (h' := h') (R' := mapR Γ.P b p.1 ([] : List (List Int × β)) f) (O' := fun y => y = b) ⟨hst.size, fun y _ hl => hst.same y hl (by simp)⟩ (fun y hy => by subst hy; omega) ⟨fun y => Iff.rfl, #[], cl, h1, ⟨rfl, fun i e k h => by simp at h⟩, fun i e p h => by simp at h⟩
  exact CN.mk (cn2.put d (a := .val _) rfl) (hn.ok b)⟩⟩
/-- An entry is set. -/
structure Mup (Γ : Cx) (c : Cls) (op : Op) (t : TypeId) (x y z : Operand) (ty : TypeId) (e : EA) (o : List Res) (N : NA) (m key v : AV) : Prop where
  h : (op = .insert t x y z ∨ op = .mapUpdate t x y z) → evA e x = some m → evA e y = some key → evA e z = some v → isLoud c = true → SA Γ c none op ty e o N
instance : Sp (SA Γ c none (.mapUpdate t x y z) ty e o N) (Rf (isLoud c = true) (Lk (evA e x) fun m => Lk (evA e y) fun key => Lk (evA e z) fun v => Mup Γ c (.mapUpdate t x y z) t x y z ty e o N m key v)) := ⟨fun ⟨hc, _, h1, _, h2, _, h3, h⟩ => h.h (.inr rfl) h1 h2 h3 hc⟩
instance : Sp (SA Γ c none (.insert t x y z) ty e o N) (Rf (isLoud c = true) (Lk (evA e x) fun m => Lk (evA e y) fun key => Lk (evA e z) fun v => Mup Γ c (.insert t x y z) t x y z ty e o N m key v)) := ⟨fun ⟨hc, _, h1, _, h2, _, h3, h⟩ => h.h (.inl rfl) h1 h2 h3 hc⟩
/-- Is it an integer's type? -/
def isI (P : Program) (t : TypeId) : Bool := match P.underlying t with
  | some (.int .i64) => true
  | _ => false
theorem isI_spec {P : Program} {t : TypeId} (h : isI P t = true) : P.underlying t = some (.int .i64) := by
  unfold isI at h
  split at h
  · assumption
  · cases h
/-- The keys of a map, checked. -/
def kyOK (P : Program) (kt : TypeId) (n : Nat) : Bool := flatI P 4 kt && Nat.beq n (P.cellsOf kt) && (Nat.ble 2 n || isI P kt)
theorem kyOK_fv {P : Program} {kt : TypeId} {a : AV} {xs : List Int} {h : Heap} {G : Nat → Prop} {v : Value} (hk : kyOK P kt xs.length = true) (h2 : (∃ x, xs = [x] ∧ a = .val (.int .i64 x)) ∨ ∃ cs, a = .agg cs ∧ ILit cs xs ∧ 2 ≤ xs.length) (hr : a.R h G v) : flatI P 4 kt = true ∧ xs.length = P.cellsOf kt ∧ FV P kt xs v := by
  simp only [kyOK, Bool.and_eq_true, Bool.or_eq_true] at hk
  obtain ⟨⟨h3, h4⟩, h5⟩ := hk
  have h4 := Nat.eq_of_beq_eq_true h4
  refine ⟨h3, h4, ?_⟩
  rcases h2 with ⟨x, rfl, rfl⟩ | ⟨cs, rfl, hi, h6⟩
  · have hr : v = _ := hr
    subst hr
    rcases h5 with h5 | h5
    · simp at h5
    · exact .int (isI_spec h5)
  · obtain ⟨vs, rfl, hv⟩ := hr
    obtain ⟨fs, hu⟩ := flat_st h3 (by omega)
    rw [hi.rep hv.t]
    exact .st hu
theorem ld_mapU {P : Program} {tt : Nat → Option TI} {en : Nat → Bool} (ok : PgOK P tt en) {n : Nat} {env : Env} {h : Heap} {op : Op} {K : Value → Heap → Prop} {p : Nat × Nat × TI} {b : Nat} {xs : List Int} {kv vv : Value} {es : Array MapEntry} {cl : Nat} {ks : List (List Int)} (hop : op = .insert t x y z ∨ op = .mapUpdate t x y z) (hp : mpE tt t = some p) (hf : flatI P 4 p.1 = true) (hl : xs.length = P.cellsOf p.1) (hfv : FV P p.1 xs kv)
    (hx : ev env x = some (.map (some b))) (hy : ev env y = some kv) (hz : ev env z = some vv) (hb : h[b]? = some (.map es cl)) (ho : KeysOK P p.1 es.toList ks)
    (kn : fE es.toList ks xs 0 = none → ∀ h', h' = h.setIfInBounds b (.map (es.push { key := kv, val := vv, born := cl }) (cl + 1)) → K undef h')
    (ks' : ∀ j u, fE es.toList ks xs 0 = some (j, u) → (∃ e, es[j]? = some e ∧ e.key = kv) ∧ ∀ h', h' = h.setIfInBounds b (.map (es.modify j fun e => { e with key := kv, val := vv }) cl) → K undef h') : Ld P n op ty env h K := by
  intro a w oo next Q ha hw hoo hty hn
  obtain ⟨ti, t1, t2, t3⟩ := mpE_spec hp
  have hmu := (ok.ok _ _ t1).map t2
  have hb' : w.heap[b]? = some (.map es cl) := hw ▸ hb
  have hfk := find_flat hf hfv hl es.toList ks ho w
  have hck : ∀ bb, (Instr.checkKey bb 10000 p.1 kv).run P w = .ok () w := fun bb => check_flat bb 4 p.1 hf 10000 (by decide) xs kv hl hfv w
  have fin : ∀ es' cl', (Instr.mapUpdate t (.map (some b)) kv vv).run P w = .ok () { w with heap := w.heap.setIfInBounds b (.map es' cl') } → K undef (h.setIfInBounds b (.map es' cl')) → oo.upon P a next Q ((execOp a.eval oo).run P w) := by
    intro es' cl' hr hk
    have hrun : (execOp a.eval (mkOp op ty)).run P w = .ok .skip { w with heap := w.heap.setIfInBounds b (.map es' cl') } := by
      rcases hop with rfl | rfl <;> simp [mkOp, execOp, ha.ev hx, ha.ev hy, ha.ev hz, hr]
    rw [exec_mk, hoo, hty, hrun]
    exact hn _ _ ⟨rfl, rfl, rfl⟩ (by simp only [hw]; exact hk)
  unfold Oper.wp
  cases hfe : fE es.toList ks xs 0 with
  | none =>
    rw [hfe] at hfk
    refine fin _ _ ?_ (kn hfe _ rfl)
    simp only [Instr.mapUpdate, Sem.run_bind, run_underlying hmu, Result.andThen_ok, MapKept.run_getObj_map hb', hck, hfk, MapKept.run_setObj_map _ hb']
  | some q =>
    obtain ⟨j, u⟩ := q
    rw [hfe] at hfk
    obtain ⟨⟨e0, he0, he0'⟩, hk⟩ := ks' j u hfe
    refine fin _ _ ?_ (hk _ rfl)
    have hkeep : (Instr.keyThatStays kv kv).run P w = .ok kv w := by
      unfold Instr.keyThatStays
      rw [same_bits hfv]; simp
    simp only [Instr.mapUpdate, Sem.run_bind, run_underlying hmu, Result.andThen_ok, MapKept.run_getObj_map hb', hck, hfk, he0, Option.map_some, Option.getD_some, he0', hkeep, MapKept.run_setObj_map _ hb']
instance {op : Op} {b : Nat} {key v : AV} : Sp (Mup Γ c op t x y z ty e o N (.val (.map (some b))) key v) (Lk (mpE Γ.tt t) fun p => TkM Γ.P o b fun kt kvs f rest => Ky key fun xs => Rf (kt = p.1) (Kf (kyOK Γ.P kt xs.length = true) (UpV f v fun w => N e (mapR Γ.P b kt (updL kvs xs w) f :: rest)))) := ⟨fun ⟨p, hp, β, kt, kvs, f, rest, tk, xs, ⟨hkt, hky, v', hv', hn⟩, h2⟩ => ⟨fun hop ha hb hv hc => ⟨fun env hh G Os cn => by
  subst hkt
  obtain ⟨m, g1, rfl⟩ := cn.get ha
  obtain ⟨kv, g2, r2⟩ := cn.get hb
  obtain ⟨vv, g3, r3⟩ := cn.get hv
  obtain ⟨hf, hl, hfv⟩ := kyOK_fv hky h2 r2
  obtain ⟨O, Os', cn2⟩ := cn.take tk
  obtain ⟨⟨ho, es, cl, hb0, hko, hvs⟩, _⟩ := cn2.hp.own
  have hlt := (Array.getElem?_eq_some_iff.1 hb0).1
  have hlen : es.toList.length = kvs.length := by have := hko.len; simpa using this
  have fin : ∀ es' cl' kvs' h', h' = hh.setIfInBounds b (.map es' cl') → KeysOK Γ.P p.1 es'.toList (kvs'.map (·.1)) → (∀ (i : Nat) (en : MapEntry) (q : List Int × β), es'.toList[i]? = some en → kvs'[i]? = some q → (f q.2).R hh G en.val) → kvs' = updL kvs xs v' → CN Γ N env h' := by
    intro es' cl' kvs' h' e1 hk' hv2 e2
    subst e1; subst e2
    have hx : FPx (fun y => ¬ O y) hh (hh.setIfInBounds b (.map es' cl')) := ⟨by simp, fun y hy hl => by rw [Array.getElem?_setIfInBounds, if_neg (fun e9 => hy ((ho y).2 e9.symm))]⟩
    have hg : FPx G hh (hh.setIfInBounds b (.map es' cl')) := hx.mono fun y hy hoy => (cn2.hp.o O (by simp) y hoy).2.2 hy
    exact CN.mk (cn2.upd (R' := mapR Γ.P b p.1 (updL kvs xs v') f) (O' := O) hx (fun y hy => ⟨by have := (cn2.hp.o O (by simp) y hy).1; simpa using this, .inl hy⟩) ⟨ho, es', cl', by simp [hlt], hk', fun i en q h7 h8 => AV.stp _ hg (hv2 i en q h7 h8)⟩) hn
  refine .ofLd hc (ld_mapU Γ.ok hop hp hf hl hfv g1 g2 g3 hb0 hko (fun hfe h' he => ?_) (fun j u hfe => ?_))
  · rcases fE_spec es.toList kvs xs 0 hlen with ⟨_, _, q3⟩ | ⟨j, en, v, q1, _⟩
    · refine fin _ _ (kvs ++ [(xs, v')]) h' he ⟨by simp; simpa using hlen, fun i en k h7 h8 => ?_⟩ (fun i en q h7 h8 => ?_) (q3 v').symm
      · rw [Array.toList_push] at h7
        rw [List.map_append] at h8
        by_cases hi : i < es.toList.length
        · rw [List.getElem?_append_left hi] at h7
          rw [List.getElem?_append_left (by rw [List.length_map, ← hlen]; exact hi)] at h8
          exact hko.key i en k h7 h8
        · rw [List.getElem?_append_right (by omega)] at h7
          rw [List.getElem?_append_right (by rw [List.length_map]; omega), List.length_map, ← hlen] at h8
          obtain ⟨m, hm⟩ : ∃ m, i - es.toList.length = m := ⟨_, rfl⟩
          rw [hm] at h7 h8
          cases m with
          | zero => simp at h7 h8; subst h7; subst h8; exact ⟨hfv, hl⟩
          | succ m => simp at h7
      · rw [Array.toList_push] at h7
        by_cases hi : i < es.toList.length
        · rw [List.getElem?_append_left hi] at h7
          rw [List.getElem?_append_left (by omega)] at h8
          exact hvs i en q h7 h8
        · rw [List.getElem?_append_right (by omega)] at h7
          rw [List.getElem?_append_right (by omega), ← hlen] at h8
          obtain ⟨m, hm⟩ : ∃ m, i - es.toList.length = m := ⟨_, rfl⟩
          rw [hm] at h7 h8
          cases m with
          | zero => simp at h7 h8; subst h7; subst h8; rw [hv']; exact r3
          | succ m => simp at h7
    · rw [hfe] at q1; cases q1
  · rcases fE_spec es.toList kvs xs 0 hlen with ⟨q1, _, _⟩ | ⟨j', en, v, q1, q2, q3, q4, q5⟩
    · rw [hfe] at q1; cases q1
    · rw [hfe] at q1
      simp only [Nat.zero_add, Option.some.injEq, Prod.mk.injEq] at q1
      obtain ⟨rfl, _⟩ := q1
      have hjl := (List.getElem?_eq_some_iff.1 q2).1
      refine ⟨⟨en, by simpa using q2, fv_same (hko.key j en xs q2 (by simp [q3])).1 hfv⟩, fun h' he => fin _ _ (kvs.set j (xs, v')) h' he ⟨by simp; simpa using hlen, fun i e1 k h7 h8 => ?_⟩ (fun i e1 q h7 h8 => ?_) (q5 v').symm⟩
      · rw [Array.toList_modify, List.getElem?_modify] at h7
        rw [List.map_set, List.getElem?_set] at h8
        by_cases hij : j = i
        · subst hij
          rw [if_pos rfl] at h8
          simp only [if_true, q2, Option.map_eq_map, Option.map_some, Option.some.injEq] at h7
          subst h7
          rw [if_pos (by rw [List.length_map]; omega)] at h8
          simp only [Option.some.injEq] at h8
          subst h8
          exact ⟨hfv, hl⟩
        · rw [if_neg hij] at h8
          simp only [hij, if_false, Option.map_eq_map, Option.map_id'] at h7
          exact hko.key i e1 k (by simpa using h7) h8
      · rw [Array.toList_modify, List.getElem?_modify] at h7
        rw [List.getElem?_set] at h8
        by_cases hij : j = i
        · subst hij
          rw [if_pos rfl] at h8
          simp only [if_true, q2, Option.map_eq_map, Option.map_some, Option.some.injEq] at h7
          subst h7
          rw [if_pos (by omega)] at h8
          simp only [Option.some.injEq] at h8
          subst h8
          rw [hv']; exact r3
        · rw [if_neg hij] at h8
          simp only [hij, if_false, Option.map_eq_map, Option.map_id'] at h7
          exact hvs i e1 q (by simpa using h7) h8⟩⟩⟩
/-- A zero value. -/
structure Zx (v : Value) (k : AV → Prop) : Prop where
  ok : ∃ a, k a ∧ ∀ h G, a.R h G v
theorem Zx.agg {v : Value} {k : AV → Prop} {cs : List Value} {l : List AV} (h : v = .agg cs.toArray) (h1 : cs.all Value.oneCell' = true) (hn : LN (cs.map AV.val) l) (hk : k (.agg l)) : Zx v k := ⟨.agg l, hk, fun _ _ => by subst h; rw [← hn.eq]; exact ⟨cs, rfl, repL_vals cs h1⟩⟩
theorem Zx.one {v : Value} {k : AV → Prop} (hk : k (.val v)) : Zx v k := ⟨.val v, hk, fun _ _ => rfl⟩
/-- A lookup. -/
structure Lup (Γ : Cx) (c : Cls) (d : Tmp) (t : TypeId) (x y : Operand) (ok : Bool) (ty : TypeId) (e : EA) (o : List Res) (N : NA) (m key : AV) : Prop where
  h : evA e x = some m → evA e y = some key → notPure c = true → SA Γ c (some d) (.lookup t x y ok) ty e o N
instance {ok : Bool} : Sp (SA Γ c (some d) (.lookup t x y ok) ty e o N) (Rf (notPure c = true) (Lk (evA e x) fun m => Lk (evA e y) fun key => Lup Γ c d t x y ok ty e o N m key)) := ⟨fun ⟨hc, _, h1, _, h2, h⟩ => h.h h1 h2 hc⟩
theorem St.lookupF {P : Program} {tt : Nat → Option TI} {en : Nat → Bool} (pok : PgOK P tt en) {n : Nat} {env : Env} {h : Heap} {N' : Env → Heap → Prop} {p : Nat × Nat × TI} {b : Nat} {xs : List Int} {kv : Value} {es : Array MapEntry} {cl : Nat} {ks : List (List Int)} (hc : notPure c = true) (hp : mpE tt t = some p) (hf : flatI P 4 p.1 = true) (hl : xs.length = P.cellsOf p.1) (hfv : FV P p.1 xs kv)
    (hx : ev env x = some (.map (some b))) (hy : ev env y = some kv) (hb : h[b]? = some (.map es cl)) (ho : KeysOK P p.1 es.toList ks) (ok : Bool) (vv : Value) (bb : Bool) (hv : (fE es.toList ks xs 0 = none ∧ vv = p.2.2.zero ∧ bb = false) ∨ ∃ j, fE es.toList ks xs 0 = some (j, vv) ∧ bb = true)
    (k : N' ((d, if ok then .tuple #[vv, .bool bb] else vv) :: env) h) : St P n [] c (some d) (.lookup t x y ok) ty env h N' := by
  refine .ofRd hc (v := if ok then .tuple #[vv, .bool bb] else vv) (fun a w ha hw => ?_) k
  obtain ⟨ti, t1, t2, t3⟩ := mpE_spec hp
  have hmu := (pok.ok _ _ t1).map t2
  have hlt := (Array.getElem?_eq_some_iff.1 hb).1
  have hb' : w.heap[b]? = some (.map es cl) := (hw.same b hlt (by simp)).trans hb
  have hfk := find_flat hf hfv hl es.toList ks ho w
  have hck : ∀ bb, (Instr.checkKey bb 10000 p.1 kv).run P w = .ok () w := fun bb => check_flat bb 4 p.1 hf 10000 (by decide) xs kv hl hfv w
  have hzr := (pok.ok _ _ t3).run_zero w
  rcases hv with ⟨h1, rfl, rfl⟩ | ⟨j, h1, rfl⟩
  · rw [h1] at hfk
    simp only [mkOp, execOp, ha.ev hx, ha.ev hy, Instr.lookup, Sem.run_bind, run_underlying hmu, Result.andThen_ok, MapKept.run_getObj_map hb', Sem.run_pure, hck, hfk, hzr]
    try (cases ok <;> rfl)
  · rw [h1] at hfk
    simp only [mkOp, execOp, ha.ev hx, ha.ev hy, Instr.lookup, Sem.run_bind, run_underlying hmu, Result.andThen_ok, MapKept.run_getObj_map hb', Sem.run_pure, hck, hfk]
    try (cases ok <;> rfl)
theorem lup_at {b : Nat} {key : AV} {ok : Bool} {p : Nat × Nat × TI} (hp : mpE Γ.tt t = some p) {β : Type} {kvs : List (List Int × β)} {f : β → AV} {rest : List Res} (tk : Take o (mapR Γ.P b p.1 kvs f) rest) {xs : List Int} (hky : kyOK Γ.P p.1 xs.length = true) (h2 : (∃ x, xs = [x] ∧ key = .val (.int .i64 x)) ∨ ∃ cs, key = .agg cs ∧ ILit cs xs ∧ 2 ≤ xs.length) (ha : evA e x = some (.val (.map (some b)))) (hb : evA e y = some key) (hc : notPure c = true)
    (hx : ∀ v, lookL kvs xs = some v → N ((d, if ok then .tup [f v, .val (.bool true)] else f v) :: e) o) (hy : lookL kvs xs = none → Zx p.2.2.zero fun z => N ((d, if ok then .tup [z, .val (.bool false)] else z) :: e) o) : SA Γ c (some d) (.lookup t x y ok) ty e o N := ⟨fun env hh G Os cn => by
  obtain ⟨m, g1, rfl⟩ := cn.get ha
  obtain ⟨kv, g2, r2⟩ := cn.get hb
  obtain ⟨hf, hl, hfv⟩ := kyOK_fv hky h2 r2
  obtain ⟨O, Os', cn2⟩ := cn.take tk
  obtain ⟨⟨ho, es, cl, hb0, hko, hvs⟩, _⟩ := cn2.hp.own
  have hlen : es.toList.length = kvs.length := by have := hko.len; simpa using this
  rcases fE_spec es.toList kvs xs 0 hlen with ⟨q1, q2, _⟩ | ⟨j, en, v, q1, q2, q3, q4, _⟩
  · refine St.lookupF Γ.ok hc hp hf hl hfv g1 g2 hb0 hko ok _ false (.inl ⟨q1, rfl, rfl⟩) ?_
    obtain ⟨z, hz1, hz2⟩ := (hy q2).ok
    cases ok with
    | true => exact CN.mk (cn.put d (a := .tup [z, .val (.bool false)]) ⟨[_, _], rfl, hz2 _ _, rfl, trivial⟩) hz1
    | false => exact CN.mk (cn.put d (a := z) (hz2 _ _)) hz1
  · have hr := hvs j en _ q2 q3
    refine St.lookupF Γ.ok hc hp hf hl hfv g1 g2 hb0 hko ok _ true (.inr ⟨_, q1, rfl⟩) ?_
    cases ok with
    | true => exact CN.mk (cn.put d (a := .tup [f v, .val (.bool true)]) ⟨[_, _], rfl, hr, rfl, trivial⟩) (hx v q4)
    | false => exact CN.mk (cn.put d (a := f v) hr) (hx v q4)⟩
instance {b : Nat} {key : AV} : Sp (Lup Γ c d t x y true ty e o N (.val (.map (some b))) key) (Lk (mpE Γ.tt t) fun p => TkM Γ.P o b fun kt kvs f _ => Ky key fun xs => Rf (kt = p.1) (Kf (kyOK Γ.P kt xs.length = true) (LkM (lookL kvs xs) (fun v => N ((d, .tup [f v, .val (.bool true)]) :: e) o) (Zx p.2.2.zero fun z => N ((d, .tup [z, .val (.bool false)]) :: e) o)))) := ⟨fun ⟨p, hp, β, kt, kvs, f, rest, tk, xs, ⟨hkt, hky, hn⟩, h2⟩ => ⟨fun ha hb hc => by
  subst hkt
  exact lup_at (ok := true) hp tk hky h2 ha hb hc hn.x hn.y⟩⟩
instance {b : Nat} {key : AV} : Sp (Lup Γ c d t x y false ty e o N (.val (.map (some b))) key) (Lk (mpE Γ.tt t) fun p => TkM Γ.P o b fun kt kvs f _ => Ky key fun xs => Rf (kt = p.1) (Kf (kyOK Γ.P kt xs.length = true) (LkM (lookL kvs xs) (fun v => N ((d, f v) :: e) o) (Zx p.2.2.zero fun z => N ((d, z) :: e) o)))) := ⟨fun ⟨p, hp, β, kt, kvs, f, rest, tk, xs, ⟨hkt, hky, hn⟩, h2⟩ => ⟨fun ha hb hc => by
  subst hkt
  exact lup_at (ok := false) hp tk hky h2 ha hb hc hn.x hn.y⟩⟩
end
end Go.CF
