/- Rules of walks over abstract values: what is built, appended, cut; calls; loops. Generic over the program. -/
import Derived.Test.YtkcbaalbgobndaaEngP
namespace Go.CF
open Go
section
variable {Γ : Cx} {k : List KI} {e : EA} {o : List Res} {N : NA} {c : Cls} {d : Tmp} {ty : TypeId} {x y z : Operand} {t u : TypeId} {kk : IntKind} {i : Int}

theorem flatten_parts {sz : Nat} : ∀ (rows : List (List Value)) (j : Nat) (row : List Value), rows[j]? = some row → ∃ r1 r2 : List (List Value), rows = r1 ++ row :: r2 ∧ r1.length = j
  | [], j, _, h => by simp at h
  | a :: rs, 0, row, h => ⟨[], rs, by simp at h; simp [h], rfl⟩
  | a :: rs, j + 1, row, h => by
    obtain ⟨r1, r2, e, hl⟩ := flatten_parts (sz := sz) rs j row (by simpa using h)
    exact ⟨a :: r1, r2, by simp [e], by simp [hl]⟩
theorem flat_len {sz : Nat} : ∀ (rows : List (List Value)), (∀ r ∈ rows, r.length = sz) → rows.flatten.length = rows.length * sz
  | [], _ => by simp
  | a :: rs, h => by rw [List.flatten_cons, List.length_append, h a (by simp), flat_len rs (fun r hr => h r (by simp [hr])), List.length_cons, Nat.add_mul]; omega
instance {v : Value} {s j r : Nat} {a : AV} : Sp (Stp' Γ c t x y ty e o N (.oe v s j r) a) (TkA o v fun T sz l f rest => Rf (s = sz) (At l j fun q => StX Γ.tt t a (f q) r fun cs' => Up f cs' fun q' => N e (arrR v T sz (l.set j q') f :: rest))) := ⟨fun ⟨α, T, sz, l, f, rest, tk, hs, q, hj, hn⟩ => ⟨fun ha hb hc => ⟨fun env hh G Os cn => by
  obtain ⟨v, h1, b, of, len, cap, rfl, rfl⟩ := cn.get ha
  obtain ⟨w, h2, h3⟩ := cn.get hb
  subst hs
  obtain ⟨O, Os', cn2⟩ := cn.take tk
  obtain ⟨⟨ho, rows, hw, hrr⟩, _⟩ := cn2.hp.own
  obtain ⟨row, k1, k2, k3⟩ := hrr.at hj
  obtain ⟨r1, r2, er, hl⟩ := flatten_parts (sz := s) rows j row k1
  have hlv := hw.len_vs
  rcases hw.ok with ⟨e1, _⟩ | ⟨b', of', cap', L, e1, hbk, g1, g2, g3⟩
  · cases e1
  cases e1
  have hcl : l.length * s ≤ cap * s := Nat.mul_le_mul_right _ g2
  have hL : L = L.take of ++ rows.flatten ++ L.drop (of + l.length * s) := by
    rw [← g3]
    conv => lhs; rw [← List.take_append_drop of L, ← List.take_append_drop (l.length * s) (L.drop of)]
    rw [List.drop_drop, List.append_assoc]
  have hr1 : r1.flatten.length = j * s := by rw [flat_len r1 (fun r hr => hrr.sz r (by rw [er]; simp [hr])), hl]
  refine store_at hc h1 h2 h3 hbk (pre := L.take of ++ r1.flatten) (post := r2.flatten ++ L.drop (of + l.length * s)) (us := row) (hL.trans (by rw [er]; simp)) (by simp [hr1]; omega) k2 hn fun us' cs' h' hu hr' hlen hm => ?_
  obtain ⟨q', hq, hm⟩ := hm
  have hst := hu.stp
  have hx : FPx (fun y => ¬ O y) hh h' := ⟨hst.size, fun y hy hl => hst.same y hl (fun hm => hy ((ho y).2 (by simpa [blkOf] using hm)))⟩
  have hg : FPx G hh h' := hx.mono fun y hy hoy => (cn2.hp.o O (by simp) y hoy).2.2 hy
  have hrows : rows.set j us' = r1 ++ us' :: r2 := by rw [er, ← hl]; simp
  have hnew : Rows h' G s (rows.set j us') (l.set j q') f := (hrr.stp hg).set (hq ▸ hr'.stp hg) (by rw [hlen, k3])
  refine CN.mk (cn2.upd (R' := arrR _ T s (l.set j q') f) (O' := O) hx (fun y hy => ⟨Nat.lt_of_lt_of_le (cn2.hp.o O (by simp) y hy).1 hst.size, .inl hy⟩) ⟨ho, rows.set j us', ⟨by rw [hnew.flen], .inr ⟨b, of, cap, _, by rw [List.length_set], hu.blk, ?_, by rw [List.length_set]; exact g2, ?_⟩⟩, hnew⟩) hm
  · have := congrArg List.length hL
    simp only [List.length_append, er, List.flatten_append, List.flatten_cons] at this ⊢
    omega
  · rw [List.length_set, hrows]
    have e2 : (L.take of ++ r1.flatten ++ us' ++ (r2.flatten ++ L.drop (of + l.length * s))) = L.take of ++ ((r1 ++ us' :: r2).flatten ++ L.drop (of + l.length * s)) := by simp
    have ht : (L.take of).length = of := by rw [List.length_take]; omega
    rw [e2, List.drop_append_of_le_length (by omega), List.drop_of_length_le (by omega), List.nil_append]
    have e3 : l.length * s = (r1 ++ us' :: r2).flatten.length := by rw [← hrows, hnew.flen, List.length_set]
    rw [e3, List.take_left]⟩⟩⟩

/-! ### New blocks -/
instance : Sp (SA Γ c (some d) (.alloc t) ty e o N) (Rf (acts c = true) (Lk (zrA Γ.tt t) fun zs => Rf (zs.all Value.oneCell' = true) (Nm (zs.map AV.val) fun cs => All fun b : Nat => N ((d, .val (.pointer (some ⟨b, 0, none⟩))) :: e) (blkR b t cs :: o)))) := ⟨fun ⟨hc, zs, hz, h1, hn⟩ => ⟨fun env hh G Os cn => by
  unfold zrA at hz
  split at hz
  · rename_i ti ht
    cases hz
    refine St.alloc Γ.ok ht hc rfl fun b h' hnew hb hsz => ?_
    refine CN.mk ((cn.new (R := blkR b t _) (O := fun y => y = b) hnew (fun y h => h) ⟨fun y => Iff.rfl, _, hnew.blk, ?_, fun u hu => List.all_eq_true.1 h1 u hu⟩).put d (a := .val _) rfl) (hn.ok.ok b)
    generalize ti.zero.cells.toList = zs
    induction zs with
    | nil => trivial
    | cons z zs ih => exact ⟨rfl, ih⟩
  · cases hz⟩⟩
structure BxX (a : AV) (k : List AV → Prop) : Prop where
  ok : ∃ cs, k cs ∧ ∀ h G v, a.R h G v → ∃ vs, v.cells.toList = vs ∧ RepL h G vs cs
theorem cells_one {v : Value} (h : v.oneCell' = true) : v.cells = #[v] := by cases v <;> first | rfl | (simp [Value.oneCell'] at h)
instance {cs : List AV} {M : List AV → Prop} : Sp (BxX (.agg cs) M) (M cs) := ⟨fun h => ⟨cs, h, by rintro h G v ⟨vs, rfl, hr⟩; exact ⟨vs, rfl, hr⟩⟩⟩
instance {a : AV} {M : List AV → Prop} [OneA a] : Sp (BxX a M) (M [a]) := ⟨fun h => ⟨[a], h, fun hh G v hv => by
  have h1 := OneA.h hh G v hv
  exact ⟨[v], by rw [cells_one h1], ⟨hv, trivial⟩, fun u hu => by simp at hu; subst hu; exact h1⟩⟩⟩
instance : Sp (SA Γ c (some d) (.box t x) ty e o N) (Rf (acts c = true) (Lk (evA e x) fun a => BxX a fun cs => All fun b : Nat => N ((d, .val (.pointer (some ⟨b, 0, none⟩))) :: e) (blkR b t cs :: o))) := ⟨fun ⟨hc, a, ha, cs, hn, hr⟩ => ⟨fun env hh G Os cn => by
  obtain ⟨v, h1, h2⟩ := cn.get ha
  obtain ⟨vs, h3, h4⟩ := hr _ _ _ h2
  refine St.box h1 hc h3 fun b h' hnew hb hsz => ?_
  exact CN.mk ((cn.new (R := blkR b t cs) (O := fun y => y = b) hnew (fun y h => h) ⟨fun y => Iff.rfl, vs, hnew.blk, h4.stp (cn.gnew hnew)⟩).put d (a := .val _) rfl) (hn.ok b)⟩⟩

/-! ### What is built -/
def evAP (e : EA) : List (Nat × Operand) → Option (List (Nat × AV))
  | [] => some []
  | (i, x) :: r => match evA e x, evAP e r with
    | some v, some l => some ((i, v) :: l)
    | _, _ => none
inductive RepP (h : Heap) (G : Nat → Prop) : List (Nat × Value) → List (Nat × AV) → Prop where
  | nil : RepP h G [] []
  | cons {i : Nat} {v : Value} {a : AV} {vs : List (Nat × Value)} {as : List (Nat × AV)} : a.R h G v → RepP h G vs as → RepP h G ((i, v) :: vs) ((i, a) :: as)
theorem Con.getP {env : Env} {h : Heap} {G : Nat → Prop} {Os : List (Nat → Prop)} (cn : Con Γ ⟨e, o⟩ env h G Os) : ∀ {xs : List (Nat × Operand)} {as : List (Nat × AV)}, evAP e xs = some as → ∃ vs, evP env xs = some vs ∧ RepP h G vs as
  | [], as, hx => by simp only [evAP, Option.some.injEq] at hx; subst hx; exact ⟨[], rfl, .nil⟩
  | (i, x) :: r, as, hx => by
    simp only [evAP] at hx
    split at hx
    · rename_i a l h1 h2
      simp only [Option.some.injEq] at hx
      subst hx
      obtain ⟨v, e1, r1⟩ := cn.get h1
      obtain ⟨vs, e2, r2⟩ := cn.getP h2
      exact ⟨(i, v) :: vs, by simp [evP, e1, e2], .cons r1 r2⟩
    · cases hx
inductive FillA (place : Nat → Option (Nat × Nat)) : List AV → List (Nat × AV) → List AV → Prop where
  | nil {l : List AV} : FillA place l [] l
  | agg {l l1 l2 m : List AV} {i off n : Nat} {r : List (Nat × AV)} : place i = some (off, n + 1) → m.length = n + 1 → SetAs l off m l1 → FillA place l1 r l2 → FillA place l ((i, .agg m) :: r) l2
  | one {l l1 l2 : List AV} {i off : Nat} {a : AV} {r : List (Nat × AV)} : place i = some (off, 1) → OneA a → SetA l off a l1 → FillA place l1 r l2 → FillA place l ((i, a) :: r) l2
theorem FillA.rep {h : Heap} {G : Nat → Prop} {place : Nat → Option (Nat × Nat)} {cs cs' : List AV} {ps : List (Nat × AV)} (f : FillA place cs ps cs') : ∀ {vs : List Value} {qs : List (Nat × Value)}, RepL h G vs cs → RepP h G qs ps → ∃ vs', Fill place vs qs vs' ∧ RepL h G vs' cs' := by
  induction f with
  | nil => intro vs qs hr hp; cases hp; exact ⟨vs, .nil, hr⟩
  | agg h1 h2 h3 _ ih =>
    intro vs qs hr hp
    cases hp with
    | cons g1 g2 =>
      obtain ⟨ws, rfl, hws⟩ := g1
      obtain ⟨vs1, k1, k2⟩ := h3.rep hr hws
      obtain ⟨vs2, k3, k4⟩ := ih k2 g2
      exact ⟨vs2, .agg h1 (by rw [hws.t.len, h2]) k1 k3, k4⟩
  | one h1 h2 h3 _ ih =>
    intro vs qs hr hp
    cases hp with
    | cons g1 g2 =>
      have ho := h2.h _ _ _ g1
      obtain ⟨vs1, k1, k2⟩ := h3.rep hr g1 ho
      obtain ⟨vs2, k3, k4⟩ := ih k2 g2
      exact ⟨vs2, .one h1 (cells_one ho) k1 k3, k4⟩
structure Fk (place : Nat → Option (Nat × Nat)) (l : List AV) (ps : List (Nat × AV)) (k : List AV → Prop) : Prop where
  ok : ∃ l', FillA place l ps l' ∧ k l'
theorem Fk.r {place : Nat → Option (Nat × Nat)} {l l' : List AV} {ps : List (Nat × AV)} {k : List AV → Prop} (h : FillA place l ps l') (hk : k l') : Fk place l ps k := ⟨l', h, hk⟩
theorem repL_vals {h : Heap} {G : Nat → Prop} : ∀ (zs : List Value), zs.all Value.oneCell' = true → RepL h G zs (zs.map AV.val)
  | [], _ => ⟨trivial, by simp⟩
  | z :: zs, hz => by
    simp only [List.all_cons, Bool.and_eq_true] at hz
    have ih := repL_vals (h := h) (G := G) zs hz.2
    exact ⟨⟨rfl, ih.t⟩, fun u hu => (List.mem_cons.1 hu).elim (fun e => e ▸ hz.1) (ih.one u)⟩
/-- The fields of a struct, and its zero value. -/
def stI (tt : Nat → Option TI) (t : Nat) : Option (List (Nat × Nat × Nat) × List Value) := match tt t with
  | some ti => match ti.kind, ti.zero with
    | .struct fs, .agg zl => if allPos fs = true then some (fs, zl.toList) else none
    | _, _ => none
  | none => none
theorem stI_spec {tt : Nat → Option TI} {t : Nat} {p : List (Nat × Nat × Nat) × List Value} (h : stI tt t = some p) : ∃ ti, tt t = some ti ∧ ti.kind = .struct p.1 ∧ ti.zero = .agg p.2.toArray ∧ allPos p.1 = true := by
  unfold stI at h
  split at h
  · rename_i ti h1
    split at h
    · rename_i fs zl h2 h3
      split at h
      · rename_i h4
        cases h
        exact ⟨ti, h1, h2, by simp [h3], h4⟩
      · cases h
    · cases h
  · cases h
instance {parts : Array (Nat × Operand)} : Sp (SA Γ c (some d) (.build t parts) ty e o N) (Lk (evAP e parts.toList) fun ps => Lk (stI Γ.tt t) fun q => Rf (q.2.all Value.oneCell' = true) (Fk (plS q.1) (q.2.map AV.val) ps fun cs => N ((d, .agg cs) :: e) o)) := ⟨fun ⟨ps, hps, q, hq, h1, cs, hf, hn⟩ => ⟨fun env hh G Os cn => by
  obtain ⟨ti, t1, t2, t3, t4⟩ := stI_spec hq
  obtain ⟨vs, g1, g2⟩ := cn.getP hps
  obtain ⟨vs', k1, k2⟩ := hf.rep (repL_vals (h := hh) (G := G) q.2 h1) g2
  exact St.build Γ.ok t1 t2 t3 t4 g1 k1 (CN.mk (cn.put d (a := .agg cs) ⟨vs', rfl, k2⟩) hn)⟩⟩
/-- Rows of so many cells. -/
def chunk {β : Type} (sz : Nat) : Nat → List β → List (List β)
  | 0, _ => []
  | n + 1, l => l.take sz :: chunk sz n (l.drop sz)
theorem chunk_rows {h : Heap} {G : Nat → Prop} {sz : Nat} : ∀ (n : Nat) {vs : List Value} {cs : List AV}, RepL h G vs cs → vs.length = n * sz → Rows h G sz (chunk sz n vs) (chunk sz n cs) id ∧ (chunk sz n vs).flatten = vs ∧ (chunk sz n cs).length = n
  | 0, vs, cs, hr, hl => by
    have : vs = [] := List.eq_nil_of_length_eq_zero (by simpa using hl)
    subst this
    exact ⟨Rows.nil, rfl, rfl⟩
  | n + 1, vs, cs, hr, hl => by
    rw [Nat.add_mul] at hl
    obtain ⟨h1, h2, h3⟩ := chunk_rows (sz := sz) n (vs := vs.drop sz) (cs := cs.drop sz) ⟨hr.t.drop sz, fun u hu => hr.one u (List.mem_of_mem_drop hu)⟩ (by rw [List.length_drop]; omega)
    refine ⟨⟨by simp [chunk, h1.len], fun i a b e1 e2 => ?_, fun a ha => ?_⟩, by simp [chunk, h2], by simp [chunk, h3]⟩
    · cases i with
      | zero => simp [chunk] at e1 e2; subst e1; subst e2; exact ⟨hr.t.take sz, fun u hu => hr.one u (List.mem_of_mem_take hu)⟩
      | succ i => exact h1.row i a b (by simpa [chunk] using e1) (by simpa [chunk] using e2)
    · rcases List.mem_cons.1 ha with rfl | ha
      · rw [List.length_take]; omega
      · exact h1.sz a ha
theorem all_zeroL {z : List Value} (hz : z.all Value.oneCell' = true) : ∀ n, (zeroL z n).all Value.oneCell' = true
  | 0 => rfl
  | n + 1 => by simp [zeroL, List.all_append, hz, all_zeroL hz n]
instance {m : Nat} {parts : Array (Nat × Operand)} : Sp (SA Γ c (some d) (.buildSlice t m parts) ty e o N) (Rf (acts c = true) (Lk (evAP e parts.toList) fun ps => Lk (slE Γ.tt t) fun p => Rf (p.2.zero.cells.toList.all Value.oneCell' = true ∧ p.2.size = p.2.zero.cells.toList.length ∧ Nat.ble (m * p.2.size) 16777216 = true) (Fk (plA p.2.size) ((zeroL p.2.zero.cells.toList m).map AV.val) ps fun cs => All fun v : Value => N ((d, .ow v) :: e) (arrR v p.1 p.2.size (chunk p.2.size m cs) id :: o)))) := ⟨fun ⟨hc, ps, hps, p, hp, ⟨h1, h2, h3⟩, cs, hf, hn⟩ => ⟨fun env hh G Os cn => by
  obtain ⟨ti, t1, t2, t3⟩ := slE_spec hp
  obtain ⟨vs, g1, g2⟩ := cn.getP hps
  obtain ⟨vs', k1, k2⟩ := hf.rep (repL_vals (h := hh) (G := G) _ (all_zeroL h1 m)) g2
  refine St.buildSlice Γ.ok t1 t2 t3 rfl h2 h3 g1 k1 hc fun b h' hnew hb hsz => ?_
  have hl : vs'.length = m * p.2.size := by
    clear hn
    have key : ∀ {pl : Nat → Option (Nat × Nat)} {l l' : List Value} {q : List (Nat × Value)}, Fill pl l q l' → l'.length = l.length := by
      intro pl l l' q hf
      induction hf with
      | nil => rfl
      | one _ _ hs _ ih => rw [ih, hs.length]
      | agg _ hm hs _ ih => rw [ih, (hs.bound (by intro h; simp [h] at hm)).2]
    rw [key k1, zeroL_length, ← h2]
  obtain ⟨r1, r2, r3⟩ := chunk_rows m k2 hl
  refine CN.mk ((cn.new (R := arrR (.slice (some ⟨b, 0, none⟩) m m) p.1 p.2.size (chunk p.2.size m cs) id) (O := fun y => y = b) hnew (fun y h => h) ⟨fun y => by simp [blkOf], _, ?_, r1.stp (cn.gnew hnew)⟩).put d (a := .ow _) ⟨rfl, _, _, _, rfl⟩) (hn.ok _)
  rw [r2, r3]
  exact Own.ofBlk hnew.blk hl⟩⟩
/-- A zero element. -/
structure MkS (zs : List AV) (k : ∀ {α : Type}, α → (α → List AV) → Prop) : Prop where
  ok : ∃ (α : Type) (x : α) (f : α → List AV), f x = zs ∧ k x f
theorem MkS.r {α : Type} {zs : List AV} {k : ∀ {α : Type}, α → (α → List AV) → Prop} (f : α → List AV) (x : α) (h : f x = zs) (hk : k x f) : MkS zs k := ⟨α, x, f, h, hk⟩
theorem rows_zero {h : Heap} {G : Nat → Prop} {α : Type} {f : α → List AV} {a : α} {zl : List Value} (hz : zl.all Value.oneCell' = true) (hf : f a = zl.map AV.val) (m : Nat) : Rows h G zl.length (List.replicate m zl) (List.replicate m a) f :=
  ⟨by simp, fun i r b e1 e2 => by
    have h1 := List.eq_of_mem_replicate (List.mem_of_getElem? e1)
    have h2 := List.eq_of_mem_replicate (List.mem_of_getElem? e2)
    subst h1; subst h2
    rw [hf]; exact repL_vals _ hz, fun r hr => by rw [List.eq_of_mem_replicate hr]⟩
theorem zeroL_flat (z : List Value) : ∀ m, zeroL z m = (List.replicate m z).flatten
  | 0 => rfl
  | m + 1 => by rw [zeroL, zeroL_flat z m, List.replicate_succ, List.flatten_cons]
instance : Sp (SA Γ c (some d) (.makeSlice t x y) ty e o N) (Rf (acts c = true) (Lk (evA e x) fun a => Lk (evA e y) fun b => Ap2 Γ c d (.makeSlice t x y) ty e o N x a y b)) := ⟨fun ⟨_, _, ha, _, hb, h⟩ => h.h ha hb⟩
instance {k1 k2 : IntKind} {m n : Int} : Sp (Ap2 Γ c d (.makeSlice t x y) ty e o N x (.val (.int k1 m)) y (.val (.int k2 n))) (Rf (acts c = true) (Lk (slE Γ.tt t) fun p => Rf (p.2.zero.cells.toList.all Value.oneCell' = true ∧ p.2.size = p.2.zero.cells.toList.length ∧ Nat.ble p.2.bytes 100000 = true) (Jx n 1000000000 fun cp => Jx m cp fun len => Nm (p.2.zero.cells.toList.map AV.val) fun zs => MkS zs fun {_} a f => All fun v : Value => N ((d, .ow v) :: e) (arrR v p.1 p.2.size (List.replicate len a) f :: o)))) := ⟨fun ⟨hc, p, hp, ⟨h1, h2, h3⟩, cp, hcp, hcl, len, hlen, hll, hn⟩ => ⟨fun ha hb => ⟨fun env hh G Os cn => by
  obtain ⟨v, g1, g2⟩ := cn.get ha
  obtain ⟨w, g3, g4⟩ := cn.get hb
  have g2 : v = .int k1 m := g2
  have g4 : w = .int k2 n := g4
  subst g2; subst g4
  obtain ⟨ti, t1, t2, t3⟩ := slE_spec hp
  obtain ⟨α, a, f, hf, hn⟩ := hn.ok.ok
  refine St.makeS Γ.ok t1 t2 t3 rfl h2 h3 g1 g3 hlen hcp hll hcl hc fun b h' hnew hb hsz => ?_
  have hr := rows_zero (h := h') (G := G) h1 hf len
  refine CN.mk ((cn.new (R := arrR (.slice (some ⟨b, 0, none⟩) len cp) p.1 p.2.size (List.replicate len a) f) (O := fun y => y = b) hnew (fun y h => h) ⟨fun y => by simp [blkOf], List.replicate len p.2.zero.cells.toList, ?_, h2 ▸ hr⟩).put d (a := .ow _) ⟨rfl, _, _, _, rfl⟩) (hn.ok _)
  have e1 : (zeroL p.2.zero.cells.toList cp).length = cp * p.2.size := by rw [zeroL_length, h2]
  refine ⟨by rw [hr.flen, h2], .inr ⟨b, 0, cp, _, by simp, hnew.blk, by omega, by simpa using hll, ?_⟩⟩
  rw [List.drop_zero, List.length_replicate, zeroL_flat, ← Nat.sub_add_cancel hll, Nat.add_comm, ← List.replicate_append_replicate, List.flatten_append]
  have e2 : len * p.2.size = (List.replicate len p.2.zero.cells.toList).flatten.length := by rw [hr.flen, h2]; simp
  rw [e2, List.take_left]⟩⟩⟩
end
end Go.CF
