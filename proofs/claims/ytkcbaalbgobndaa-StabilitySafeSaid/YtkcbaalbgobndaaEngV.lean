/- Calls that are given for ever what they read; arrays in structs. Generic over the program. -/
import Derived.Test.YtkcbaalbgobndaaEngU
namespace Go.CF
open Go
section
variable {Γ : Cx} {k : List KI} {e : EA} {o : List Res} {N : NA} {c : Cls} {d : Tmp} {ty : TypeId} {x y z : Operand} {t u : TypeId} {kk : IntKind} {i : Int}
/-- Arguments: own slices that stay readable for ever. -/
inductive FZ : List Res → List AV → List AV → List Res → Prop where
  | nil {o : List Res} : FZ o [] [] o
  | same {o own : List Res} {a : AV} {l l' : List AV} : FZ o l l' own → FZ o (a :: l) (a :: l') own
  | fz {o rest own : List Res} {l l' : List AV} {α : Type} {v : Value} {T sz : Nat} {xs : List α} {f : α → List AV} : Take o (arrR v T sz xs f) rest → xs.length ≤ 9223372036854775807 → FZ rest l l' own → FZ o (.ow v :: l) (.sl sz xs f :: l') own
  | fzm {o rest own : List Res} {l l' : List AV} {α β : Type} {v : Value} {T sz : Nat} {xs : List α} {f : α → List AV} {ys : List β} {g : β → List AV} : Take o (arrR v T sz xs f) rest → ys.map g = xs.map f → xs.length ≤ 9223372036854775807 → FZ rest l l' own → FZ o (.ow v :: l) (.sl sz ys g :: l') own
  | agg {o o1 own : List Res} {cs cs' l l' : List AV} : FZ o cs cs' o1 → FZ o1 l l' own → FZ o (.agg cs :: l) (.agg cs' :: l') own
theorem FZ.rep {h0 : Heap} {G0 O0 : Nat → Prop} {h : Heap} {o own : List Res} {l l' : List AV} (x : FZ o l l' own) : ∀ {G : Nat → Prop} {Os : List (Nat → Prop)} {vs : List Value}, HpOK h0 G0 O0 o h G Os → RepT h G vs l → ∃ G' Os', HpOK h0 G0 O0 own h G' Os' ∧ RepT h G' vs l' ∧ ∀ b, G b → G' b := by
  induction x with
  | nil => exact fun {G Os vs} c hr => ⟨G, Os, c, hr, fun _ h => h⟩
  | same _ ih =>
    intro G Os vs c hr
    match vs, hr with
    | v :: vs, ⟨r1, r2⟩ =>
      obtain ⟨G', Os', h1, h2, h3⟩ := ih c r2
      exact ⟨G', Os', h1, ⟨AV.mono _ h3 r1, h2⟩, h3⟩
  | fz tk hl _ ih =>
    intro G Os vs c hr
    match vs, hr with
    | v :: vs, ⟨⟨r1, _⟩, r2⟩ =>
      subst r1
      obtain ⟨O, os', c2⟩ := c.take tk
      have hrr := c2.own.1
      obtain ⟨G', Os', h1, h2, h3⟩ := ih c2.freeze (r2.mono fun _ => .inl)
      exact ⟨G', Os', h1, ⟨AV.mono _ h3 (sl_of_own hrr hl), h2⟩, fun b hb => h3 b (.inl hb)⟩
  | fzm tk he hl _ ih =>
    intro G Os vs c hr
    match vs, hr with
    | v :: vs, ⟨⟨r1, _⟩, r2⟩ =>
      subst r1
      obtain ⟨O, os', c2⟩ := c.take tk
      have hrr := c2.own.1
      obtain ⟨G', Os', h1, h2, h3⟩ := ih c2.freeze (r2.mono fun _ => .inl)
      exact ⟨G', Os', h1, ⟨AV.mono _ h3 (AV.sl_map he (sl_of_own hrr hl)), h2⟩, fun b hb => h3 b (.inl hb)⟩
  | agg _ _ ih1 ih =>
    intro G Os vs c hr
    match vs, hr with
    | v :: vs, ⟨⟨ws, r1, r3⟩, r2⟩ =>
      obtain ⟨G1, Os1, h1, h2, h3⟩ := ih1 c r3.t
      obtain ⟨G2, Os2, h4, h5, h6⟩ := ih h1 (r2.mono h3)
      exact ⟨G2, Os2, h4, ⟨⟨ws, r1, h2.mono h6, r3.one⟩, h5⟩, fun b hb => h6 b (h3 b hb)⟩
theorem Cl.fz {f : FuncId} {as as' : List AV} {o own : List Res} {M : AV → List Res → Prop} (x : FZ o as as' own) (hc : Cl Γ c f as' own M) : Cl Γ c f as o M := by
  refine ⟨fun {h0 G0 O0 h G Os vs} hp hr => ?_⟩
  obtain ⟨G1, Os1, k1, k2, k3⟩ := x.rep hp hr
  refine (hc.ok k1 k2).mono fun v h' ⟨g1, r, o', G', Os', g2, g3, g4, g5, g6⟩ => ?_
  exact ⟨g1, r, o', G', Os', g2, g3, g4, g5.mono k3, fun b hb => g6 b (k3 b hb)⟩
/-- Rows of cells. -/
def RepLL (h : Heap) (G : Nat → Prop) : List (List Value) → List (List AV) → Prop
  | [], [] => True
  | v :: vs, c :: cs => RepL h G v c ∧ RepLL h G vs cs
  | _, _ => False
theorem RepLL.of {h : Heap} {G : Nat → Prop} {α : Type} {sz : Nat} {f : α → List AV} : ∀ {rows : List (List Value)} {l : List α}, Rows h G sz rows l f → RepLL h G rows (l.map f)
  | [], [], _ => trivial
  | [], _ :: _, r => by have := r.len; simp at this
  | _ :: _, [], r => by have := r.len; simp at this
  | v :: vs, x :: l, r => ⟨r.row 0 v x rfl rfl, RepLL.of (rows := vs) (l := l) ⟨by have := r.len; simpa using this, fun i a b h1 h2 => r.row (i + 1) a b h1 h2, fun a ha => r.sz a (by simp [ha])⟩⟩
theorem RepLL.to {h : Heap} {G : Nat → Prop} {α : Type} {sz : Nat} {f : α → List AV} : ∀ {rows : List (List Value)} {l : List α}, RepLL h G rows (l.map f) → (∀ r ∈ rows, r.length = sz) → Rows h G sz rows l f
  | [], [], _, _ => Rows.nil
  | v :: vs, x :: l, r, hs => by
    have ih := RepLL.to (rows := vs) (l := l) r.2 fun a ha => hs a (by simp [ha])
    refine ⟨by have := ih.len; simpa using this, fun i a b h1 h2 => ?_, hs⟩
    cases i with
    | zero => cases h1; cases h2; exact r.1
    | succ i => exact ih.row i a b h1 h2
theorem RepLL.mono {h : Heap} {G G' : Nat → Prop} (hg : ∀ b, G b → G' b) : ∀ {vs : List (List Value)} {cs : List (List AV)}, RepLL h G vs cs → RepLL h G' vs cs
  | [], [], _ => trivial
  | _ :: _, _ :: _, r => ⟨r.1.mono hg, RepLL.mono hg r.2⟩
inductive FR : List Res → List (List AV) → List (List AV) → List Res → Prop where
  | nil {o : List Res} : FR o [] [] o
  | cons {o o1 own : List Res} {c c' : List AV} {l l' : List (List AV)} : FZ o c c' o1 → FR o1 l l' own → FR o (c :: l) (c' :: l') own
theorem FR.rep {h0 : Heap} {G0 O0 : Nat → Prop} {h : Heap} {o own : List Res} {l l' : List (List AV)} (x : FR o l l' own) : ∀ {G : Nat → Prop} {Os : List (Nat → Prop)} {vs : List (List Value)}, HpOK h0 G0 O0 o h G Os → RepLL h G vs l → ∃ G' Os', HpOK h0 G0 O0 own h G' Os' ∧ RepLL h G' vs l' ∧ ∀ b, G b → G' b := by
  induction x with
  | nil => exact fun {G Os vs} c hr => ⟨G, Os, c, hr, fun _ h => h⟩
  | cons hz _ ih =>
    intro G Os vs c hr
    match vs, hr with
    | v :: vs, ⟨r1, r2⟩ =>
      obtain ⟨G1, Os1, h1, h2, h3⟩ := hz.rep c r1.t
      obtain ⟨G2, Os2, h4, h5, h6⟩ := ih h1 (r2.mono h3)
      exact ⟨G2, Os2, h4, ⟨⟨h2.mono h6, r1.one⟩, h5⟩, fun b hb => h6 b (h3 b hb)⟩
/-- Arguments: own slices, and those in their cells, that stay readable for ever. -/
inductive FD : List Res → List AV → List AV → List Res → Prop where
  | nil {o : List Res} : FD o [] [] o
  | z {o o1 own : List Res} {a a' : AV} {l l' : List AV} : FZ o [a] [a'] o1 → FD o1 l l' own → FD o (a :: l) (a' :: l') own
  | d {o rest o1 own : List Res} {l l' : List AV} {α β : Type} {v : Value} {T sz : Nat} {xs : List α} {f : α → List AV} {ys : List β} {g : β → List AV} : Take o (arrR v T sz xs f) rest → xs.length ≤ 9223372036854775807 → FR rest (xs.map f) (ys.map g) o1 → FD o1 l l' own → FD o (.ow v :: l) (.sl sz ys g :: l') own
theorem FR.len {o own : List Res} {l l' : List (List AV)} (x : FR o l l' own) : l.length = l'.length := by
  induction x with
  | nil => rfl
  | cons _ _ ih => simp [ih]
theorem FD.rep {h0 : Heap} {G0 O0 : Nat → Prop} {h : Heap} {o own : List Res} {l l' : List AV} (x : FD o l l' own) : ∀ {G : Nat → Prop} {Os : List (Nat → Prop)} {vs : List Value}, HpOK h0 G0 O0 o h G Os → RepT h G vs l → ∃ G' Os', HpOK h0 G0 O0 own h G' Os' ∧ RepT h G' vs l' ∧ ∀ b, G b → G' b := by
  induction x with
  | nil => exact fun {G Os vs} c hr => ⟨G, Os, c, hr, fun _ h => h⟩
  | z hz _ ih =>
    intro G Os vs c hr
    match vs, hr with
    | v :: vs, ⟨r1, r2⟩ =>
      obtain ⟨G1, Os1, h1, h2, h3⟩ := hz.rep (vs := [v]) c ⟨r1, trivial⟩
      obtain ⟨G2, Os2, h4, h5, h6⟩ := ih h1 (r2.mono h3)
      exact ⟨G2, Os2, h4, ⟨AV.mono _ h6 h2.1, h5⟩, fun b hb => h6 b (h3 b hb)⟩
  | d tk hl hf _ ih =>
    intro G Os vs c hr
    match vs, hr with
    | v :: vs, ⟨⟨r1, _⟩, r2⟩ =>
      subst r1
      obtain ⟨O, os', c2⟩ := c.take tk
      have hrr := c2.own.1
      have hlen : _ = _ := hf.len
      simp only [List.length_map] at hlen
      obtain ⟨g1, ⟨g2, p, cap, g3⟩ | ⟨b, of, cap, rows, g2, g3, g4, g5, g6, g7, g8⟩⟩ := sl_of_own hrr hl
      · obtain ⟨G1, Os1, h1, _, h3⟩ := hf.rep (vs := []) c2.freeze (by rw [g2]; trivial)
        obtain ⟨G2, Os2, h4, h5, h6⟩ := ih h1 (r2.mono fun b hb => h3 b (.inl hb))
        refine ⟨G2, Os2, h4, ⟨⟨by omega, .inl ⟨List.eq_nil_of_length_eq_zero (by rw [← hlen, g2]; rfl), p, cap, g3⟩⟩, h5⟩, fun b hb => h6 b (h3 b (.inl hb))⟩
      · obtain ⟨G1, Os1, h1, h2, h3⟩ := hf.rep c2.freeze (RepLL.of g8)
        obtain ⟨G2, Os2, h4, h5, h6⟩ := ih h1 (r2.mono fun b hb => h3 b (.inl hb))
        refine ⟨G2, Os2, h4, ⟨⟨by omega, .inr ⟨b, of, cap, rows, by rw [← hlen]; exact g2, by omega, by omega, h6 _ (h3 _ g5), g6, g7, (RepLL.to h2 g8.sz).mono h6⟩⟩, h5⟩, fun b hb => h6 b (h3 b (.inl hb))⟩
theorem Cl.fd {f : FuncId} {as as' : List AV} {o own : List Res} {M : AV → List Res → Prop} (x : FD o as as' own) (hc : Cl Γ c f as' own M) : Cl Γ c f as o M := by
  refine ⟨fun {h0 G0 O0 h G Os vs} hp hr => ?_⟩
  obtain ⟨G1, Os1, k1, k2, k3⟩ := x.rep hp hr
  refine (hc.ok k1 k2).mono fun v h' ⟨g1, r, o', G', Os', g2, g3, g4, g5, g6⟩ => ?_
  exact ⟨g1, r, o', G', Os', g2, g3, g4, g5.mono k3, fun b hb => g6 b (k3 b hb)⟩
/-- A result that nobody is to change. -/
theorem CallA.fz {P : Program} {f : FuncId} {as : List AV} {own : List Res} {α : Type} {T sz : Nat} {l : List α} {g : α → List AV} (hl : l.length ≤ 9223372036854775807)
    (h : CallA P f as own fun r o => ∃ v, r = .ow v ∧ o = [arrR v T sz l g]) : CallA P f as own fun q o => q = .sl sz l g ∧ o = [] :=
  ⟨fun hh G Os vs h1 h2 => (h.run hh G Os vs h1 h2).mono fun v' h' ⟨r, o, G', Os', ⟨v, e1, e2⟩, g1, g2⟩ => by
    subst e1; subst e2
    have g1 : (AV.ow v).R h' G' v' := g1
    match Os', g2.own with
    | O :: [], ho =>
      have c3 := g2.freeze
      refine ⟨_, _, _, _, ⟨rfl, rfl⟩, ?_, c3⟩
      obtain ⟨rfl, _⟩ := g1
      exact sl_of_own ho.1 hl⟩
theorem CallA.fzt {P : Program} {f : FuncId} {as : List AV} {own : List Res} {α : Type} {T sz : Nat} {l : List α} {g : α → List AV} {a : AV} (hl : l.length ≤ 9223372036854775807)
    (h : CallA P f as own fun r o => ∃ v, r = .tup [.ow v, a] ∧ o = [arrR v T sz l g]) : CallA P f as own fun q o => q = .tup [.sl sz l g, a] ∧ o = [] :=
  ⟨fun hh G Os vs h1 h2 => (h.run hh G Os vs h1 h2).mono fun v' h' ⟨r, o, G', Os', ⟨v, e1, e2⟩, g1, g2⟩ => by
    subst e1; subst e2
    obtain ⟨ws, rfl, hw⟩ := g1
    match Os', g2.own with
    | O :: [], ho =>
      have c3 := g2.freeze
      refine ⟨_, _, _, _, ⟨rfl, rfl⟩, ?_, c3⟩
      match ws, hw with
      | [w1, w2], ⟨⟨k1, _⟩, k2, _⟩ =>
        subst k1
        exact ⟨_, rfl, sl_of_own ho.1 hl, AV.mono _ (fun _ => .inl) k2, trivial⟩⟩
/-! ### Arrays -/
def arE (tt : Nat → Option TI) (t : Nat) : Option (Nat × TI) := match tt t with
  | some ti => match ti.kind with
    | .array n e => match tt e with
      | some te => some (n, te)
      | none => none
    | _ => none
  | none => none
theorem arE_spec {tt : Nat → Option TI} {t : Nat} {p : Nat × TI} (h : arE tt t = some p) : ∃ ti e, tt t = some ti ∧ ti.kind = .array p.1 e ∧ tt e = some p.2 := by
  unfold arE at h
  split at h
  · rename_i ti h1
    split at h
    · rename_i n e h2
      split at h
      · rename_i te h3
        cases h
        exact ⟨ti, e, h1, h2, h3⟩
      · cases h
    · cases h
  · cases h
instance {b q : Nat} : Sp (Ap2 Γ c d (.indexAddr t x y) ty e o N x (.val (.pointer (some ⟨b, q, none⟩))) y (.val (.int kk i))) (Lk (arE Γ.tt t) fun p => Rf ((Nat.blt 0 p.1 && Nat.beq p.2.size 1) = true) (Jx i (p.1 - 1) fun j => N ((d, .val (.pointer (some ⟨b, q + j, none⟩))) :: e) o)) := ⟨fun ⟨p, hp, hz, j, hi, hj, hn⟩ => pu2 fun env h G v w h1 h1' h2 h2' => by
  obtain ⟨ti, e, t1, t2, t3⟩ := arE_spec hp
  have h2 : v = _ := h2
  have h2' : w = _ := h2'
  subst h2; subst h2'
  simp at hz
  exact ⟨_, _, rfl, hn, fun _ hk => St.indexAddrA1 Γ.ok t1 t2 t3 hz.2 h1 h1' hi (by omega) hk⟩⟩
instance {cs : List AV} {q : Nat} : Sp (Ap2 Γ c d (.indexAddr t x y) ty e o N x (.ad cs q) y (.val (.int kk i))) (Lk (arE Γ.tt t) fun p => Rf ((Nat.blt 0 p.1 && Nat.beq p.2.size 1) = true) (Jx i (p.1 - 1) fun j => N ((d, .ad cs (q + j)) :: e) o)) := ⟨fun ⟨p, hp, hz, j, hi, hj, hn⟩ => pu2 fun env h G v w h1 h1' h2 h2' => by
  obtain ⟨ti, e, t1, t2, t3⟩ := arE_spec hp
  have h2' : w = _ := h2'
  subst h2'
  obtain ⟨b, of, vs, rfl, g1, g2, g3, g4⟩ := h2
  simp at hz
  exact ⟨.ad cs (q + j), .pointer (some ⟨b, of + (q + j), none⟩), ⟨b, of, vs, rfl, g1, g2, g3, g4⟩, hn, fun _ hk => St.indexAddrA1 Γ.ok t1 t2 t3 hz.2 h1 h1' hi (by omega) (by rw [Nat.add_assoc]; exact hk)⟩⟩
instance {hi : Operand} {cs : List AV} {q : Nat} : Sp (Slp Γ c d t x none (some hi) ty e o N (.ad cs q)) (Lk (arE Γ.tt t) fun p => Lk (evA e hi) fun a => Nb a fun i => Jx i p.1 fun m => Om (q + p.1 ≤ cs.length ∧ p.1 ≤ 9223372036854775807) (N ((d, .sl 1 ((cs.drop q).take m) fun a => [a]) :: e) o)) := ⟨fun ⟨p, hp, a, ha, kk, i, hk, m, hi, hm, ⟨hz, hz2⟩, hn⟩ => ⟨fun hax => ⟨fun env hh G Os cn => by
  obtain ⟨ti, e, t1, t2, t3⟩ := arE_spec hp
  obtain ⟨v, g1, b, of, vs, rfl, k1, k2, k3, k4⟩ := cn.get hax
  obtain ⟨w, g2, g3⟩ := cn.get ha
  rw [hk] at g3
  have g3 : w = _ := g3
  subst g3
  have hlen := k4.t.len
  refine St.sliceAH Γ.ok t1 t2 t3 g1 g2 hi hm (CN.mk (cn.put d (a := .sl 1 ((cs.drop q).take m) fun a => [a]) ⟨?_, ?_⟩) hn)
  · simp; omega
  · have hl : ((cs.drop q).take m).length = m := by simp; omega
    rcases Nat.eq_zero_or_pos m with h9 | h9
    · subst h9; exact .inl ⟨by simp, _, _, rfl⟩
    · refine .inr ⟨b, of + q, p.1, ((vs.drop q).take m).map fun v => [v], by rw [hl], by omega, by omega, k1, k2, ?_, ?_⟩
      · have : ∀ l : List Value, (l.map fun v => [v]).flatten = l := by intro l; induction l with
          | nil => rfl
          | cons a l ih => simp [ih]
        rw [this]
        refine ⟨fun j v hv => ?_⟩
        rw [List.getElem?_take] at hv
        split at hv
        · rw [List.getElem?_drop] at hv
          have := k3.cell hv
          rw [addr_add, show of + q + j = of + (q + j) by omega]
          exact this
        · cases hv
      · refine ⟨by simp; omega, fun j r a h1 h2 => ?_, fun r hr => by obtain ⟨v, -, rfl⟩ := List.mem_map.1 hr; rfl⟩
        rw [List.getElem?_map] at h1
        rw [List.getElem?_take] at h1 h2
        split at h2
        · rename_i hjm
          rw [if_pos hjm, List.getElem?_drop] at h1
          rw [List.getElem?_drop] at h2
          obtain ⟨v, g4, g5⟩ := k4.t.get h2
          rw [g4] at h1; cases h1
          exact ⟨⟨g5, trivial⟩, fun u hu => by rw [List.mem_singleton.1 hu]; exact k4.one v (List.mem_of_getElem? g4)⟩
        · cases h2⟩⟩⟩
theorem CA.freezeB {y' : Code} (q : Tmp) {b m : Nat} {T : TypeId} {cs : List AV} {rest : List Res} (ht : lookA e q = some (.val (.pointer (some ⟨b, m, none⟩)))) (tk : Take o (blkR b T cs) rest) (h : CA Γ k y' ((q, .ad cs m) :: e) rest) : CA Γ k y' e o := by
  refine ⟨fun env hh G Os cn => ?_⟩
  obtain ⟨O, Os', cn2⟩ := cn.take tk
  obtain ⟨ho, vs, hb, hr⟩ := cn2.hp.own.1
  have c3 := cn2.freeze
  refine h.h env hh _ Os' (con_re (σ := ⟨e, rest⟩) c3 q (fun w hw => ?_) ht)
  obtain ⟨w', g1, g2⟩ := cn.env q _ ht
  have g2 : w' = _ := g2
  rw [hw] at g1; cases g1; subst g2
  exact ⟨b, 0, vs, by rw [Nat.zero_add], .inr ((ho b).2 rfl), hb.lt, hb.cels0, hr.mono fun _ => .inl⟩
theorem SetA.mk : ∀ {l : List AV} {k : Nat} {v : AV}, k < l.length → SetA l k v (l.set k v)
  | _ :: _, 0, _, _ => .z
  | _ :: l, k + 1, _, h => .s (SetA.mk (l := l) (by simpa using h))
/-- The same cells, said in other words. -/
inductive Wk : List AV → List AV → Prop where
  | nil : Wk [] []
  | same {a : AV} {l l' : List AV} : Wk l l' → Wk (a :: l) (a :: l')
  | sl {α : Type} {sz : Nat} {f : α → List AV} {l l' : List AV} : Wk l l' → Wk (.val (.slice none 0 0) :: l) (.sl sz [] f :: l')
theorem Wk.rep {h : Heap} {G : Nat → Prop} {cs cs' : List AV} (w : Wk cs cs') : ∀ {vs : List Value}, RepT h G vs cs → RepT h G vs cs' := by
  induction w with
  | nil => exact fun h => h
  | same _ ih =>
    intro vs hr
    match vs, hr with
    | v :: vs, ⟨h1, h2⟩ => exact ⟨h1, ih h2⟩
  | sl _ ih =>
    intro vs hr
    match vs, hr with
    | v :: vs, ⟨h1, h2⟩ => exact ⟨⟨by simp, .inl ⟨rfl, _, _, h1⟩⟩, ih h2⟩
theorem CA.recell {y : Code} {b : Nat} {T : TypeId} {cs cs' : List AV} {rest : List Res} (tk : Take o (blkR b T cs) rest) (w : Wk cs cs') (h : CA Γ k y e (blkR b T cs' :: rest)) : CA Γ k y e o := by
  refine ⟨fun env hh G Os cn => ?_⟩
  obtain ⟨O, Os', cn2⟩ := cn.take tk
  obtain ⟨⟨ho, vs, hb, hr⟩, hrest⟩ := cn2.hp.own
  exact h.h env hh G (O :: Os') ⟨cn2.hp.perm ⟨⟨ho, vs, hb, ⟨w.rep hr.t, hr.one⟩⟩, hrest⟩ (List.Perm.refl _), cn.env⟩
end
end Go.CF
