/- Rules of walks over abstract values: memory, calls, loops. Generic over the program. -/
import Derived.Test.YtkcbaalbgobndaaEngO
import Derived.Test.YtkcbaalbgobndaaEngL
namespace Go.CF
open Go

/-! ### What the table of types says -/
def slE (tt : Nat → Option TI) (t : Nat) : Option (Nat × TI) := match tt t with
  | some ti => match ti.kind with
    | .slice e => match tt e with
      | some te => some (e, te)
      | none => none
    | _ => none
  | none => none
theorem slE_spec {tt : Nat → Option TI} {t : Nat} {p : Nat × TI} (h : slE tt t = some p) : ∃ ti, tt t = some ti ∧ ti.kind = .slice p.1 ∧ tt p.1 = some p.2 := by
  unfold slE at h
  split at h
  · rename_i ti h1
    split at h
    · rename_i e h2
      split at h
      · rename_i te h3
        cases h
        exact ⟨ti, h1, h2, h3⟩
      · cases h
    · cases h
  · cases h
def fldO (tt : Nat → Option TI) (t i : Nat) : Option Nat := match tt t with
  | some ti => match ti.kind with
    | .struct fs => match fs[i]? with
      | some (off, _, _ + 1) => some off
      | _ => none
    | _ => none
  | none => none
theorem fldO_spec {tt : Nat → Option TI} {t i off : Nat} (h : fldO tt t i = some off) : ∃ ti fs ft sz, tt t = some ti ∧ ti.kind = .struct fs ∧ fs[i]? = some (off, ft, sz + 1) := by
  unfold fldO at h
  split at h
  · rename_i ti h1
    split at h
    · rename_i fs h2
      split at h
      · rename_i off' ft sz h3
        cases h
        exact ⟨ti, fs, ft, sz, h1, h2, h3⟩
      · cases h
    · cases h
  · cases h
/-- What is loaded: a single value (none), or a struct of so many cells. -/
def ldK (tt : Nat → Option TI) (t : Nat) : Option (Option Nat) := match tt t with
  | some ti => match ti.kind with
    | .struct _ => some (some ti.size)
    | .array _ _ => none
    | .other => none
    | _ => some none
  | none => none
theorem ldK_none {tt : Nat → Option TI} {t : Nat} (h : ldK tt t = some none) : ∃ ti, tt t = some ti ∧ ti.kind.agg = false := by
  unfold ldK at h
  split at h
  · rename_i ti h1
    refine ⟨ti, h1, ?_⟩
    split at h
    · cases h
    · cases h
    · cases h
    · rename_i h2 h3 h4
      cases hk : ti.kind <;> simp_all [TK.agg]
  · cases h
theorem ldK_some {tt : Nat → Option TI} {t n : Nat} (h : ldK tt t = some (some n)) : ∃ ti fs, tt t = some ti ∧ ti.kind = .struct fs ∧ ti.size = n := by
  unfold ldK at h
  split at h
  · rename_i ti h1
    split at h
    · rename_i fs h2; cases h; exact ⟨ti, fs, h1, h2, rfl⟩
    · cases h
    · cases h
    · cases h
  · cases h
/-- The cells of the zero value. -/
def zrA (tt : Nat → Option TI) (t : Nat) : Option (List Value) := match tt t with
  | some ti => some ti.zero.cells.toList
  | none => none
/-- A list, written out. -/
inductive LN {α : Type} : List α → List α → Prop where
  | nil : LN [] []
  | cons {a : α} {l l' : List α} : LN l l' → LN (a :: l) (a :: l')
theorem LN.eq {α : Type} : ∀ {l l' : List α}, LN l l' → l = l'
  | _, _, .nil => rfl
  | _, _, .cons h => by rw [h.eq]
structure Nm {α : Type} (l : List α) (k : List α → Prop) : Prop where
  ok : k l
theorem Nm.r {α : Type} {l l' : List α} {k : List α → Prop} (h : LN l l') (hk : k l') : Nm l k := ⟨h.eq ▸ hk⟩
/-- The element at an index. -/
structure Ix {α : Type} (l : List α) (i : Int) (k : Nat → α → Prop) : Prop where
  ok : ∃ (j : Nat) (x : α), l[j]? = some x ∧ i = (j : Int) ∧ k j x
theorem Ix.r {α : Type} {l : List α} {i : Int} {k : Nat → α → Prop} {j : Nat} {x : α} (h : l[j]? = some x) (hi : i = (j : Int)) (hk : k j x) : Ix l i k := ⟨j, x, h, hi, hk⟩
theorem Ix.q {α : Type} {l : List α} {i : Int} {k : Nat → α → Prop} {j : Nat} {x : α} (hi : i = (j : Int)) (h : l[j]? = some x) (hk : k j x) : Ix l i k := ⟨j, x, h, hi, hk⟩
structure At {α : Type} (l : List α) (j : Nat) (k : α → Prop) : Prop where
  ok : ∃ x : α, l[j]? = some x ∧ k x
theorem At.r {α : Type} {l : List α} {k : α → Prop} {j : Nat} {x : α} (h : l[j]? = some x) (hk : k x) : At l j k := ⟨x, h, hk⟩
/-- A number that is a length. -/
structure Jx (i : Int) (n : Nat) (k : Nat → Prop) : Prop where
  ok : ∃ j : Nat, i = (j : Int) ∧ j ≤ n ∧ k j
theorem Jx.r {i : Int} {n : Nat} {k : Nat → Prop} {j : Nat} (h : i = (j : Int)) (hl : j ≤ n) (hk : k j) : Jx i n k := ⟨j, h, hl, hk⟩
structure TkB (o : List Res) (b : Nat) (k : TypeId → List AV → List Res → Prop) : Prop where
  ok : ∃ T cs rest, Take o (blkR b T cs) rest ∧ k T cs rest
theorem TkB.r {o rest : List Res} {b : Nat} {k : TypeId → List AV → List Res → Prop} {T : TypeId} {cs : List AV} (h : Take o (blkR b T cs) rest) (hk : k T cs rest) : TkB o b k := ⟨T, cs, rest, h, hk⟩
structure TkA (o : List Res) (v : Value) (k : ∀ {α : Type}, TypeId → Nat → List α → (α → List AV) → List Res → Prop) : Prop where
  ok : ∃ (α : Type) (T : TypeId) (sz : Nat) (l : List α) (f : α → List AV) (rest : List Res), Take o (arrR v T sz l f) rest ∧ k T sz l f rest
theorem TkA.r {α : Type} {o rest : List Res} {v : Value} {k : ∀ {α : Type}, TypeId → Nat → List α → (α → List AV) → List Res → Prop} {T : TypeId} {sz : Nat} {l : List α} {f : α → List AV} (h : Take o (arrR v T sz l f) rest) (hk : k T sz l f rest) : TkA o v k := ⟨α, T, sz, l, f, rest, h, hk⟩
structure All {α : Type} (k : α → Prop) : Prop where
  ok : ∀ x, k x
/-- Either way will do. -/
structure Ch (p X Y : Prop) : Prop where
  ok : (p ∧ X) ∨ Y
theorem Ch.l {p X Y : Prop} (h : p) (x : X) : Ch p X Y := ⟨.inl ⟨h, x⟩⟩
theorem Ch.r {p X Y : Prop} (y : Y) : Ch p X Y := ⟨.inr y⟩
/-- Its values fill one cell. -/
class OneA (a : AV) : Prop where
  h : ∀ h G v, a.R h G v → v.oneCell' = true
instance {k : IntKind} {i : Int} : OneA (.val (.int k i)) := ⟨by rintro h G v rfl; rfl⟩
instance {b : Bool} : OneA (.val (.bool b)) := ⟨by rintro h G v rfl; rfl⟩
instance {p : Option Addr} : OneA (.val (.pointer p)) := ⟨by rintro h G v rfl; rfl⟩
instance {p : Option Addr} {l c : Nat} : OneA (.val (.slice p l c)) := ⟨by rintro h G v rfl; rfl⟩
instance {p : Option Nat} : OneA (.val (.map p)) := ⟨by rintro h G v rfl; rfl⟩
instance {v : Value} : OneA (.ow v) := ⟨by rintro h G u ⟨rfl, p, l, c, rfl⟩; rfl⟩
instance {α : Type} {sz : Nat} {l : List α} {f : α → List AV} : OneA (.sl sz l f) := ⟨by rintro h G u ⟨_, ⟨_, p, c, rfl⟩ | ⟨b, o, cap, rows, rfl, _⟩⟩ <;> rfl⟩
instance {cs : List AV} {k : Nat} : OneA (.ad cs k) := ⟨by rintro h G u ⟨b, o, vs, rfl, _⟩; rfl⟩
instance {f : FuncId} {cs : List AV} : OneA (.fn f cs) := ⟨by rintro h G u ⟨vs, rfl, _⟩; rfl⟩

section
variable {Γ : Cx} {k : List KI} {e : EA} {o : List Res} {N : NA} {c : Cls} {d : Tmp} {ty : TypeId} {x y z : Operand} {t u : TypeId} {kk : IntKind} {i : Int}

theorem AV.sl_stp {α : Type} {sz : Nat} {l : List α} {f : α → List AV} {h : Heap} {G : Nat → Prop} {v : Value} (hr : (AV.sl sz l f).R h G v) : ∃ rows, Sl h v l.length rows.flatten ∧ Rows h G sz rows l f ∧ l.length ≤ 9223372036854775807 := by
  obtain ⟨hm, ⟨rfl, p, cap, rfl⟩ | ⟨b, of, cap, rows, rfl, h1, h2, h3, h4, h5, h6⟩⟩ := hr
  · exact ⟨[], ⟨.inl ⟨p, cap, rfl, rfl, rfl⟩⟩, Rows.nil, hm⟩
  · exact ⟨rows, ⟨.inr ⟨b, of, cap, rfl, h1, h2, h4, h5⟩⟩, h6, hm⟩
/-! ### Lengths -/
instance : Sp (SA Γ c (some d) (.call { callee := .builtin .len, args := #[x], argTypes := #[t] }) ty e o N) (Lk (evA e x) fun a => Ap1 Γ c d (.call { callee := .builtin .len, args := #[x], argTypes := #[t] }) ty e o N x a) := ⟨fun ⟨_, ha, h⟩ => h.h ha⟩
instance {α : Type} {sz : Nat} {l : List α} {f : α → List AV} : Sp (Ap1 Γ c d (.call { callee := .builtin .len, args := #[x], argTypes := #[t] }) ty e o N x (.sl sz l f)) (Lk (slE Γ.tt t) fun _ => Im (l.length ≤ 9223372036854775807) (N ((d, .val (.int .i64 (l.length : Int))) :: e) o)) := ⟨fun ⟨p, hp, hn⟩ => ⟨fun ha => ⟨fun env hh G Os cn => by
  obtain ⟨v, h1, h2⟩ := cn.get ha
  obtain ⟨rows, hs, _, hm⟩ := AV.sl_stp h2
  obtain ⟨q, cap, rfl⟩ := hs.shape
  obtain ⟨ti, t1, t2, t3⟩ := slE_spec hp
  exact St.len Γ.ok t1 t2 h1 (CN.mk (cn.put d (a := .val _) rfl) (hn.k hm))⟩⟩⟩
instance {p : Option Addr} {m cap : Nat} : Sp (Ap1 Γ c d (.call { callee := .builtin .len, args := #[x], argTypes := #[t] }) ty e o N x (.val (.slice p m cap))) (Lk (slE Γ.tt t) fun _ => N ((d, .val (.int .i64 (m : Int))) :: e) o) := ⟨fun ⟨p, hp, hn⟩ => puv1 (fun _ _ => rfl) hn fun _ _ _ h k => by
  obtain ⟨ti, t1, t2, t3⟩ := slE_spec hp
  exact St.len Γ.ok t1 t2 h k⟩
instance {v : Value} : Sp (Ap1 Γ c d (.call { callee := .builtin .len, args := #[x], argTypes := #[t] }) ty e o N x (.ow v)) (Lk (slE Γ.tt t) fun _ => TkA o v fun _ _ l _ _ => N ((d, .val (.int .i64 (l.length : Int))) :: e) o) := ⟨fun ⟨p, hp, α, T, sz, l, f, rest, tk, hn⟩ => ⟨fun ha => ⟨fun env hh G Os cn => by
  obtain ⟨w, h1, rfl, h2⟩ := cn.get ha
  obtain ⟨O, Os', cn2⟩ := cn.take tk
  obtain ⟨⟨_, rows, hw, _⟩, _⟩ := cn2.hp.own
  obtain ⟨q, cap, rfl⟩ := hw.sl.shape
  obtain ⟨ti, t1, t2, t3⟩ := slE_spec hp
  exact St.len Γ.ok t1 t2 h1 (CN.mk (cn.put d (a := .val _) rfl) hn)⟩⟩⟩

/-! ### Addresses -/
instance {i : Nat} : Sp (SA Γ c (some d) (.fieldAddr t x i) ty e o N) (Lk (evA e x) fun a => Lk (fldO Γ.tt t i) fun q => Ap2 Γ c d (.fieldAddr t x i) ty e o N x a (.const (.int .i64 q)) (.val (.int .i64 q))) := ⟨fun ⟨_, ha, _, _, h⟩ => h.h ha rfl⟩
instance {i b k q : Nat} : Sp (Ap2 Γ c d (.fieldAddr t x i) ty e o N x (.val (.pointer (some ⟨b, k, none⟩))) y (.val (.int .i64 (Nat.cast q)))) (Rf (fldO Γ.tt t i = some q) (N ((d, .val (.pointer (some ⟨b, k + q, none⟩))) :: e) o)) := ⟨fun hn => puv2 hn.k fun _ _ _ h _ k => by
  obtain ⟨ti, fs, ft, sz, t1, t2, t3⟩ := fldO_spec hn.p
  exact St.fieldAddr Γ.ok t1 t2 t3 h k⟩
instance {i k q : Nat} {cs : List AV} : Sp (Ap2 Γ c d (.fieldAddr t x i) ty e o N x (.ad cs k) y (.val (.int .i64 (Nat.cast q)))) (Rf (fldO Γ.tt t i = some q) (N ((d, .ad cs (k + q)) :: e) o)) := ⟨fun hn => pu2 fun env h G v w h1 _ h2 _ => by
  obtain ⟨ti, fs, ft, sz, t1, t2, t3⟩ := fldO_spec hn.p
  obtain ⟨b, of, vs, rfl, hr⟩ := h2
  exact ⟨.ad cs (k + q), .pointer (some ⟨b, of + (k + q), none⟩), ⟨b, of, vs, rfl, hr⟩, hn.k, fun _ hk => St.fieldAddr Γ.ok t1 t2 t3 h1 (by rw [Nat.add_assoc]; exact hk)⟩⟩
instance {i q s j r : Nat} {v : Value} : Sp (Ap2 Γ c d (.fieldAddr t x i) ty e o N x (.oe v s j r) y (.val (.int .i64 (Nat.cast q)))) (Rf (fldO Γ.tt t i = some q) (N ((d, .oe v s j (r + q)) :: e) o)) := ⟨fun hn => pu2 fun env h G v' w h1 _ h2 _ => by
  obtain ⟨ti, fs, ft, sz, t1, t2, t3⟩ := fldO_spec hn.p
  obtain ⟨b, of, len, cap, rfl, rfl⟩ := h2
  exact ⟨.oe _ s j (r + q), .pointer (some ⟨b, of + j * s + (r + q), none⟩), ⟨b, of, len, cap, rfl, rfl⟩, hn.k, fun _ hk => St.fieldAddr Γ.ok t1 t2 t3 h1 (by rw [Nat.add_assoc (of + j * s)]; exact hk)⟩⟩
instance : Sp (SA Γ c (some d) (.indexAddr t x y) ty e o N) (Lk (evA e x) fun a => Lk (evA e y) fun b => Ap2 Γ c d (.indexAddr t x y) ty e o N x a y b) := ⟨fun ⟨_, ha, _, hb, h⟩ => h.h ha hb⟩
theorem rows_at_cels {h : Heap} {G : Nat → Prop} {α : Type} {sz b of : Nat} {rows : List (List Value)} {l : List α} {f : α → List AV} (hc : Cels h ⟨b, of, none⟩ rows.flatten) (hr : Rows h G sz rows l f) {j : Nat} {x : α} (hj : l[j]? = some x) : ∃ row, RepL h G row (f x) ∧ row.length = sz ∧ Cels h ⟨b, of + j * sz, none⟩ row := by
  obtain ⟨row, h1, h2, h3⟩ := hr.at hj
  refine ⟨row, h2, h3, ⟨fun i v hv => ?_⟩⟩
  have := hc.cell (rows_flat rows j i row v (fun r hm => hr.sz r hm) h1 hv)
  rw [addr_add, show of + j * sz + i = of + (j * sz + i) by omega]
  exact this
instance {α : Type} {sz : Nat} {l : List α} {f : α → List AV} : Sp (Ap2 Γ c d (.indexAddr t x y) ty e o N x (.sl sz l f) y (.val (.int kk i))) (Lk (slE Γ.tt t) fun p => Rf (p.2.size = sz) (Ix l i fun _ a => N ((d, .ad (f a) 0) :: e) o)) := ⟨fun ⟨p, hp, hz, j, a, hj, hi, hn⟩ => pu2 fun env h G v w h1 h1' h2 h2' => by
  obtain ⟨ti, t1, t2, t3⟩ := slE_spec hp
  have hw : w = .int kk i := h2'
  subst hw
  have hlt := (List.getElem?_eq_some_iff.1 hj).1
  obtain ⟨_, ⟨rfl, _⟩ | ⟨b, of, cap, rows, rfl, g1, g2, g3, g4, g5, g6⟩⟩ := h2
  · simp at hlt
  obtain ⟨row, k1, k2, k3⟩ := rows_at_cels g5 g6 hj
  exact ⟨.ad (f a) 0, .pointer (some ⟨b, of + j * sz, none⟩), ⟨b, of + j * sz, row, rfl, g3, g4, k3, k1⟩, hn, fun _ hk => St.indexAddr Γ.ok t1 t2 t3 h1 h1' hi hlt (by rw [hz]; exact hk)⟩⟩
instance {v : Value} : Sp (Ap2 Γ c d (.indexAddr t x y) ty e o N x (.ow v) y (.val (.int kk i))) (Lk (slE Γ.tt t) fun p => TkA o v fun _ sz l _ _ => Rf (p.2.size = sz) (Ix l i fun j _ => N ((d, .oe v sz j 0) :: e) o)) := ⟨fun ⟨p, hp, α, T, sz, l, f, rest, tk, hz, j, a, hj, hi, hn⟩ => ⟨fun ha hb => ⟨fun env hh G Os cn => by
  obtain ⟨w, h1, rfl, h2⟩ := cn.get ha
  obtain ⟨w', h1', h2'⟩ := cn.get hb
  have hw : w' = .int kk i := h2'
  subst hw
  obtain ⟨O, Os', cn2⟩ := cn.take tk
  obtain ⟨⟨_, rows, hw, _⟩, _⟩ := cn2.hp.own
  obtain ⟨ti, t1, t2, t3⟩ := slE_spec hp
  have hlt := (List.getElem?_eq_some_iff.1 hj).1
  rcases hw.ok with ⟨_, h0⟩ | ⟨b, of, cap, L, rfl, _, _, _, _⟩
  · omega
  · exact St.indexAddr Γ.ok t1 t2 t3 h1 h1' hi hlt (CN.mk (cn.put d (a := .oe _ sz j 0) ⟨b, of, _, cap, rfl, by rw [hz]; rfl⟩) hn)⟩⟩⟩

/-! ### Loading -/
structure LdX (m : Option Nat) (cs : List AV) (k : Nat) (N : AV → Prop) : Prop where
  ok : match m with
    | none => ∃ a, cs[k]? = some a ∧ N a
    | some n => N (.agg ((cs.drop k).take n)) ∧ k + n ≤ cs.length
instance {cs : List AV} {k : Nat} {M : AV → Prop} : Sp (LdX none cs k M) (Lk cs[k]? fun a => M a) := ⟨fun ⟨a, h1, h2⟩ => ⟨a, h1, h2⟩⟩
instance {n k : Nat} {cs : List AV} {M : AV → Prop} : Sp (LdX (some n) cs k M) (Rf (Nat.ble (k + n) cs.length = true) (Ch (k = 0 ∧ n = cs.length) (M (.agg cs)) (M (.agg ((cs.drop k).take n))))) := ⟨fun ⟨h0, h⟩ => ⟨⟨by
  rcases h.ok with ⟨⟨h1, h2⟩, g⟩ | g
  · rw [h1, h2, List.drop_zero, List.take_length]; exact g
  · exact g, Nat.le_of_ble_eq_true h0⟩⟩⟩
structure Ldp (Γ : Cx) (c : Cls) (d : Tmp) (t : TypeId) (x : Operand) (ty : TypeId) (e : EA) (o : List Res) (N : NA) (a : AV) (m : Option Nat) : Prop where
  h : evA e x = some a → ldK Γ.tt t = some m → notPure c = true → SA Γ c (some d) (.load t x) ty e o N
instance : Sp (SA Γ c (some d) (.load t x) ty e o N) (Rf (notPure c = true) (Lk (evA e x) fun a => Lk (ldK Γ.tt t) fun m => Ldp Γ c d t x ty e o N a m)) := ⟨fun ⟨h1, _, ha, _, hm, h⟩ => h.h ha hm h1⟩
theorem load_at {m : Option Nat} {env : Env} {hh : Heap} {G : Nat → Prop} {Os : List (Nat → Prop)} {b of k : Nat} {vs : List Value} {cs : List AV} (ht : ldK Γ.tt t = some m) (hc : notPure c = true) (h1 : ev env x = some (.pointer (some ⟨b, of + k, none⟩))) (hcs : Cels hh ⟨b, of, none⟩ vs) (hr : RepL hh G vs cs) (hx : LdX m cs k fun r => N ((d, r) :: e) o) (cn : Con Γ ⟨e, o⟩ env hh G Os) :
    St Γ.P Γ.n [] c (some d) (.load t x) ty env hh (CN Γ N) := by
  cases m with
  | none =>
    obtain ⟨ti, t1, t2⟩ := ldK_none ht
    obtain ⟨a, g1, g2⟩ := hx.ok
    obtain ⟨v, g3, g4⟩ := hr.t.get g1
    exact St.load Γ.ok t1 t2 h1 (hcs.cell g3) List.not_mem_nil hc (CN.mk (cn.put d g4) g2)
  | some n =>
    obtain ⟨ti, fs, t1, t2, t3⟩ := ldK_some ht
    obtain ⟨g1, g2⟩ := hx.ok
    have hl := hr.t.len
    refine St.loadS Γ.ok t1 t2 h1 (l := (vs.drop k).take n) ⟨fun j v hv => ?_⟩ List.not_mem_nil (by rw [t3]; simp; omega) hc (CN.mk (cn.put d (a := .agg ((cs.drop k).take n)) ⟨_, rfl, (hr.t.drop k).take n, fun u hu => hr.one u (List.mem_of_mem_drop (List.mem_of_mem_take hu))⟩) g1)
    rw [List.getElem?_take] at hv
    split at hv
    · rw [List.getElem?_drop] at hv
      have := hcs.cell hv
      rw [addr_add, show of + k + j = of + (k + j) by omega]
      exact this
    · cases hv
instance {m : Option Nat} {cs : List AV} {k : Nat} : Sp (Ldp Γ c d t x ty e o N (.ad cs k) m) (LdX m cs k fun r => N ((d, r) :: e) o) := ⟨fun hn => ⟨fun ha hm hc => ⟨fun env hh G Os cn => by
  obtain ⟨v, h1, b, of, vs, rfl, g1, g2, g3, g4⟩ := cn.get ha
  exact load_at hm hc h1 g3 g4 hn cn⟩⟩⟩
instance {m : Option Nat} {b k : Nat} : Sp (Ldp Γ c d t x ty e o N (.val (.pointer (some ⟨b, k, none⟩))) m) (TkB o b fun _ cs _ => LdX m cs k fun r => N ((d, r) :: e) o) := ⟨fun ⟨T, cs, rest, tk, hn⟩ => ⟨fun ha hm hc => ⟨fun env hh G Os cn => by
  obtain ⟨v, h1, rfl⟩ := cn.get ha
  obtain ⟨O, Os', cn2⟩ := cn.take tk
  obtain ⟨⟨_, vs, hb, hr⟩, _⟩ := cn2.hp.own
  exact load_at (of := 0) hm hc (by rw [Nat.zero_add]; exact h1) hb.cels0 hr hn cn⟩⟩⟩
instance {m : Option Nat} {v : Value} {s j r : Nat} : Sp (Ldp Γ c d t x ty e o N (.oe v s j r) m) (TkA o v fun _ sz l f _ => Rf (s = sz) (At l j fun a => LdX m (f a) r fun q => N ((d, q) :: e) o)) := ⟨fun ⟨α, T, sz, l, f, rest, tk, hs, a, hj, hn⟩ => ⟨fun ha hm hc => ⟨fun env hh G Os cn => by
  obtain ⟨w, h1, b, of, len, cap, rfl, rfl⟩ := cn.get ha
  subst hs
  obtain ⟨O, Os', cn2⟩ := cn.take tk
  obtain ⟨⟨_, rows, hw, hrr⟩, _⟩ := cn2.hp.own
  rcases hw.sl.ok with ⟨p, cap', e1, e2, _⟩ | ⟨b', of', cap', e1, _, _, _, hcs⟩
  · have := (List.getElem?_eq_some_iff.1 hj).1; omega
  · cases e1
    obtain ⟨row, k1, k2, k3⟩ := rows_at_cels hcs hrr hj
    exact load_at hm hc h1 k3 k1 hn cn⟩⟩⟩

/-! ### Storing -/
inductive SetA : List AV → Nat → AV → List AV → Prop where
  | z {x v : AV} {r : List AV} : SetA (x :: r) 0 v (v :: r)
  | s {x v : AV} {r r' : List AV} {k : Nat} : SetA r k v r' → SetA (x :: r) (k + 1) v (x :: r')
theorem SetA.eq : ∀ {l : List AV} {k : Nat} {v : AV} {l' : List AV}, SetA l k v l' → l' = l.set k v ∧ k < l.length
  | _, _, _, _, .z => by simp
  | _, _, _, _, .s hs => by obtain ⟨h1, h2⟩ := hs.eq; exact ⟨by rw [h1]; rfl, by simp; omega⟩
inductive SetAs : List AV → Nat → List AV → List AV → Prop where
  | z {l : List AV} {k : Nat} : SetAs l k [] l
  | c {l l1 l2 r : List AV} {k : Nat} {v : AV} : SetA l k v l1 → SetAs l1 (k + 1) r l2 → SetAs l k (v :: r) l2
theorem setL_mk : ∀ {l : List Value} {k : Nat} {v : Value}, k < l.length → SetL l k v (l.set k v)
  | _ :: _, 0, _, _ => .z
  | _ :: l, k + 1, _, h => .s (setL_mk (l := l) (by simpa using h))
theorem SetA.rep {h : Heap} {G : Nat → Prop} {cs cs' : List AV} {k : Nat} {a : AV} {vs : List Value} {v : Value} (s : SetA cs k a cs') (hr : RepL h G vs cs) (ha : a.R h G v) (h1 : v.oneCell' = true) : ∃ vs', SetL vs k v vs' ∧ RepL h G vs' cs' := by
  obtain ⟨rfl, hk⟩ := s.eq
  have := hr.t.len
  refine ⟨vs.set k v, setL_mk (by omega), hr.t.set k ha, fun u hu => ?_⟩
  rcases List.mem_or_eq_of_mem_set hu with h2 | rfl
  · exact hr.one u h2
  · exact h1
theorem SetAs.rep {h : Heap} {G : Nat → Prop} : ∀ {cs cs' as : List AV} {k : Nat} {vs us : List Value}, SetAs cs k as cs' → RepL h G vs cs → RepL h G us as → ∃ vs', SetR vs k us vs' ∧ RepL h G vs' cs'
  | _, _, _, _, vs, us, .z, hr, hu => by
    match us, hu.t with
    | [], _ => exact ⟨vs, .z, hr⟩
  | _, _, _, _, vs, us, .c h1 h2, hr, hu => by
    match us, hu with
    | u :: us, ⟨⟨g1, g2⟩, g3⟩ =>
      obtain ⟨vs1, k1, k2⟩ := h1.rep hr g1 (g3 u (by simp))
      obtain ⟨vs2, k3, k4⟩ := h2.rep k2 ⟨g2, fun w hw => g3 w (by simp [hw])⟩
      exact ⟨vs2, .c k1 k3, k4⟩
structure SetAk (l : List AV) (k : Nat) (v : AV) (M : List AV → Prop) : Prop where
  ok : ∃ l', SetA l k v l' ∧ M l'
theorem SetAk.r {l : List AV} {k : Nat} {v : AV} {M : List AV → Prop} {l' : List AV} (h : SetA l k v l') (hm : M l') : SetAk l k v M := ⟨l', h, hm⟩
structure SetAsk (l : List AV) (k : Nat) (m : List AV) (M : List AV → Prop) : Prop where
  ok : ∃ l', SetAs l k m l' ∧ M l'
theorem SetAsk.r {l : List AV} {k : Nat} {m : List AV} {M : List AV → Prop} {l' : List AV} (h : SetAs l k m l') (hm : M l') : SetAsk l k m M := ⟨l', h, hm⟩
/-- An element whose cells are these. -/
structure Up {α : Type} (f : α → List AV) (cs : List AV) (k : α → Prop) : Prop where
  ok : ∃ x, f x = cs ∧ k x
theorem Up.r {α : Type} {f : α → List AV} {cs : List AV} {k : α → Prop} {x : α} (h : f x = cs) (hk : k x) : Up f cs k := ⟨x, h, hk⟩
/-- The element that has these cells. -/
class Inv {α : Type} (f : α → List AV) (cs : List AV) (x : outParam α) : Prop where
  eq : f x = cs
theorem Up.inv {α : Type} {f : α → List AV} {cs cs' : List AV} {k : α → Prop} {x : α} (hl : LN cs cs') (h : Inv f cs' x) (hk : k x) : Up f cs k := ⟨x, h.eq.trans hl.eq.symm, hk⟩
/-- What is to be stored: one value, or a struct. -/
structure StX (tt : Nat → Option TI) (t : TypeId) (a : AV) (cs : List AV) (k : Nat) (M : List AV → Prop) : Prop where
  ok : ∃ ti cs', tt t = some ti ∧ M cs' ∧ ((ti.size = 1 ∧ (∀ h G v, a.R h G v → v.oneCell' = true) ∧ SetA cs k a cs') ∨ ∃ as, a = .agg as ∧ ti.size = as.length ∧ as ≠ [] ∧ SetAs cs k as cs')
instance {tt : Nat → Option TI} {a : AV} {cs : List AV} {k : Nat} {M : List AV → Prop} [OneA a] : Sp (StX tt t a cs k M) (Lk (tt t) fun ti => Rf (ti.size = 1) (SetAk cs k a M)) := ⟨fun ⟨ti, h1, h2, l, h3, h4⟩ => ⟨ti, l, h1, h4, .inl ⟨h2, OneA.h, h3⟩⟩⟩
instance {tt : Nat → Option TI} {as cs : List AV} {k : Nat} {M : List AV → Prop} : Sp (StX tt t (.agg as) cs k M) (Lk (tt t) fun ti => Rf (Nat.beq ti.size as.length && Nat.blt 0 as.length) (SetAsk cs k as M)) := ⟨fun ⟨ti, h1, h2, l, h3, h4⟩ => ⟨ti, l, h1, h4, .inr ⟨as, rfl, by simp at h2; exact h2.1, fun h => by subst h; simp at h2, h3⟩⟩⟩
structure Stp' (Γ : Cx) (c : Cls) (t : TypeId) (x y : Operand) (ty : TypeId) (e : EA) (o : List Res) (N : NA) (a b : AV) : Prop where
  h : evA e x = some a → evA e y = some b → isLoud c = true → SA Γ c none (.store t x y) ty e o N
instance : Sp (SA Γ c none (.store t x y) ty e o N) (Rf (isLoud c = true) (Lk (evA e x) fun a => Lk (evA e y) fun b => Stp' Γ c t x y ty e o N a b)) := ⟨fun ⟨h1, _, ha, _, hb, h⟩ => h.h ha hb h1⟩
theorem store_at {env : Env} {hh : Heap} {G : Nat → Prop} {b k : Nat} {T : TypeId} {vs : List Value} {cs : List AV} {a : AV} {v : Value} {M : List AV → Prop} {N' : Env → Heap → Prop} (hc : isLoud c = true) (h1 : ev env x = some (.pointer (some ⟨b, k, none⟩))) (h2 : ev env y = some v) (ha : a.R hh G v) (hb : Blk hh b T vs) {pre post us : List Value} (hv : vs = pre ++ us ++ post) {k' : Nat} (hk : k = pre.length + k') (hr : RepL hh G us cs)
    (hx : StX Γ.tt t a cs k' M) (hn : ∀ us' cs' h', Upd hh b T (pre ++ us' ++ post) h' → RepL hh G us' cs' → us'.length = us.length → M cs' → N' env h') : St Γ.P Γ.n [] c none (.store t x y) ty env hh N' := by
  subst hk
  have setL_app : ∀ {us us' : List Value} {i : Nat} {w : Value} (post : List Value), SetL us i w us' → SetL (us ++ post) i w (us' ++ post) := by
    intro us us' i w post hs
    induction hs with
    | z => exact .z
    | s _ ih => exact .s ih
  have setL_pre : ∀ {us us' : List Value} {i : Nat} {w : Value} (pre : List Value), SetL us i w us' → SetL (pre ++ us) (pre.length + i) w (pre ++ us') := by
    intro us us' i w pre hs
    induction pre with
    | nil => simpa using hs
    | cons q pre ih => rw [List.length_cons, show pre.length + 1 + i = pre.length + i + 1 by omega]; exact .s ih
  have setR_all : ∀ {us us' : List Value} {i : Nat} {m : List Value} (pre post : List Value), SetR us i m us' → SetR (pre ++ us ++ post) (pre.length + i) m (pre ++ us' ++ post) := by
    intro us us' i m pre post hs
    induction hs with
    | z => exact .z
    | c g1 _ ih => exact .c (setL_app post (setL_pre pre g1)) (by rw [Nat.add_assoc]; exact ih)
  obtain ⟨ti, cs', t1, hm, ⟨t2, t3, t4⟩ | ⟨as, rfl, t2, t3, t4⟩⟩ := hx.ok
  · obtain ⟨us', g1, g2⟩ := t4.rep hr ha (t3 _ _ _ ha)
    exact St.store Γ.ok t1 t2 h1 h2 (t3 _ _ _ ha) (hv ▸ hb) (setL_app post (setL_pre pre g1)) hc fun h' hu _ => hn us' cs' h' hu g2 (by rw [g1.eq.1]; simp) hm
  · obtain ⟨ws, rfl, hws⟩ := ha
    obtain ⟨us', g1, g2⟩ := t4.rep hr hws
    have hl := hws.t.len
    have hne : ws ≠ [] := fun h => by subst h; exact t3 (List.eq_nil_of_length_eq_zero (by simpa using hl.symm))
    exact St.storeS Γ.ok t1 h1 h2 (by rw [t2, hl]) hne hws.one (hv ▸ hb) (setR_all pre post g1) hc fun h' hu _ => hn us' cs' h' hu g2 (g1.bound hne).2 hm
instance {b k : Nat} {a : AV} : Sp (Stp' Γ c t x y ty e o N (.val (.pointer (some ⟨b, k, none⟩))) a) (TkB o b fun T cs rest => StX Γ.tt t a cs k fun cs' => N e (blkR b T cs' :: rest)) := ⟨fun ⟨T, cs, rest, tk, hn⟩ => ⟨fun ha hb hc => ⟨fun env hh G Os cn => by
  obtain ⟨v, h1, rfl⟩ := cn.get ha
  obtain ⟨w, h2, h3⟩ := cn.get hb
  obtain ⟨O, Os', cn2⟩ := cn.take tk
  obtain ⟨⟨ho, vs, hbk, hr⟩, _⟩ := cn2.hp.own
  refine store_at hc h1 h2 h3 hbk (pre := []) (post := []) (us := vs) (by simp) (by simp) hr hn fun us' cs' h' hu hr' _ hm => ?_
  rw [List.nil_append, List.append_nil] at hu
  have hst := hu.stp
  have hx : FPx (fun y => ¬ O y) hh h' := ⟨hst.size, fun y hy hl => hst.same y hl (fun hm => hy ((ho y).2 (by simpa using hm)))⟩
  have hg : FPx G hh h' := hx.mono fun y hy hoy => (cn2.hp.o O (by simp) y hoy).2.2 hy
  exact CN.mk (cn2.upd (R' := blkR b T cs') (O' := O) hx (fun y hy => ⟨Nat.lt_of_lt_of_le (cn2.hp.o O (by simp) y hy).1 hst.size, .inl hy⟩) ⟨ho, us', hu.blk, hr'.stp hg⟩) hm⟩⟩⟩
end
end Go.CF
