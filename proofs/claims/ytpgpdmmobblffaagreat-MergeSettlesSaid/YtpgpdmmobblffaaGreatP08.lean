/- Part 8 of the ground of this proof: what its texts say of the model, the program and the plain data; conditions: those that are named. -/
import Derived.Test.YtpgpdmmobblffaaGreatP07
namespace Go.Proofs.YtpgpdmmobblffaaGreat
open Go Go.CF
set_option maxRecDepth 20000
theorem perm4 {α : Type} (a b c d : List α) : ((a ++ b) ++ (c ++ d)).Perm ((a ++ c) ++ (b ++ d)) := by
  simp only [List.append_assoc]
  refine List.Perm.append_left a ?_
  rw [← List.append_assoc, ← List.append_assoc]
  exact List.Perm.append_right d List.perm_append_comm
theorem srt_mem {l : List EvS} (h : SrtE l) {i j : Nat} {x y : EvS} (hij : i ≤ j) (hx : l[i]? = some x) (hy : l[j]? = some y) : ¬ LtE y x := by
  rcases Nat.lt_or_ge i j with h1 | h1
  · obtain ⟨i1, rfl⟩ := List.getElem?_eq_some_iff.1 hx
    obtain ⟨j1, rfl⟩ := List.getElem?_eq_some_iff.1 hy
    exact List.pairwise_iff_getElem.1 h i j i1 j1 h1
  · have : i = j := by omega
    subst this
    rw [hx] at hy; cases hy
    unfold LtE; omega
set_option maxHeartbeats 8000000 in
theorem symMerge_n : ∀ (N : Nat) (v : Value) (L p A B q : List EvS) (a m b : Nat), A.length + B.length ≤ N → L = p ++ (A ++ (B ++ q)) → a = p.length → m = p.length + A.length → b = p.length + A.length + B.length → 0 < A.length → 0 < B.length → SrtE A → SrtE B → L.length ≤ 100000 →
    CallA Tryz.prog 132 [.ow v, it a, it m, it b, .fn 66 []] [eR v L] fun r o => ∃ S, r = .tup [] ∧ o = [eR v (p ++ (S ++ q))] ∧ (A ++ B).Perm S ∧ SrtE S := by
  intro N
  induction N with
  | zero => intro v L p A B q a m b h0; omega
  | succ N ih =>
  intro v L p A B q a m b hN hL ha hm hb hA hB sA sB hl
  by_cases hA1 : A.length = 1
  · obtain ⟨x, rfl⟩ := List.length_eq_one_iff.1 hA1
    exact merge1_a v L p B q x a m b (by simpa using hL) ha hm (by simpa using hb) sB hl
  by_cases hB1 : B.length = 1
  · obtain ⟨y, rfl⟩ := List.length_eq_one_iff.1 hB1
    exact merge2_a v L p A q y a m b (by simpa using hL) ha hm (by simpa using hb) hA1 sA hl
  have hll : L.length = p.length + A.length + B.length + q.length := by rw [hL]; simp; omega
  obtain ⟨mid, hmid⟩ : ∃ mid, mid = (a + b) / 2 := ⟨_, rfl⟩
  have e0 : ((a : Int) + (b : Int)) / 2 = ((mid : Nat) : Int) := by omega
  refine CallA.of pg ord132 Tryz.func132 rfl Tryz.ntmps132 Tryz.results132 rfl fun h0 G0 O0 => ?_
  (repeat' (first | (show CA _ _ (Code.cond (Operand.tmp 140) _ _) _ _; apply Stopped.out) | refine Sp.h ?_ | refine Lk.r rfl ?_ | refine Rf.mk rfl ?_ | (apply Bd.f; (focus (first | assumption | omega | exact Bool.false_ne_true))) | (apply Ov.n; (focus first | omega | (simp <;> omega))) | (apply Cvk.i64; (focus rfl); (focus omega)) | (apply Cvk.u64; (focus rfl); (focus omega)) | fail)); any_goals apply Stopped.mk
  rw [e0]
  refine CA.cut (fun s : Nat × Nat => ⟨[(0, .ow v), (1, it a), (2, it m), (3, it b), (4, .fn 66 []), (18, it mid), (19, it ((mid : Int) + (m : Int))), (20, it s.1), (21, it s.2)], [eR v L]⟩) (fun s => mid < m ∧ s.1 = mid + m - b ∧ s.2 = mid ∨ m ≤ mid ∧ s.1 = a ∧ s.2 = m) ?_ ?_
  · by_cases hc : mid < m
    · have e1 : (mid : Int) + (m : Int) - (b : Int) = ((mid + m - b : Nat) : Int) := by omega
      repeat' (first | refine Sp.h ?_ | refine Lk.r rfl ?_ | refine Rf.mk rfl ?_ | (apply Bd.t; (focus (first | assumption | omega | rfl))) | (apply Ov.n; (focus first | omega | (simp <;> omega))) | fail)
      rw [e1]
      exact PA.lp (mid + m - b, mid) ⟨by (repeat (first | exact trivial | refine ⟨rfl, ?_⟩)), by (repeat (first | exact Subl.nil | refine Subl.cons (by (repeat (first | exact Take.here | apply Take.there))) ?_))⟩ (.inl ⟨hc, rfl, rfl⟩)
    · repeat' (first | refine Sp.h ?_ | refine Lk.r rfl ?_ | refine Rf.mk rfl ?_ | (apply Bd.f; (focus (first | assumption | omega | exact Bool.false_ne_true))) | fail)
      exact PA.lp (a, m) ⟨by (repeat (first | exact trivial | refine ⟨rfl, ?_⟩)), by (repeat (first | exact Subl.nil | refine Subl.cons (by (repeat (first | exact Take.here | apply Take.there))) ?_))⟩ (.inr ⟨by omega, rfl, rfl⟩)
  rintro ⟨s0, r0⟩ hs0
  simp only at hs0
  simp only
  -- what two places hold
  have hAx : ∀ c, a ≤ c → c < m → ∃ x, L[c]? = some x ∧ A[c - a]? = some x := fun c h1 h2 => by
    obtain ⟨x, hx⟩ := get_of (l := A) (i := c - a) (by omega)
    refine ⟨x, ?_, hx⟩
    rw [hL, List.getElem?_append_right (by omega), List.getElem?_append_left (by omega), ← ha]; exact hx
  have hBx : ∀ c, m ≤ c → c < b → ∃ x, L[c]? = some x ∧ B[c - m]? = some x := fun c h1 h2 => by
    obtain ⟨x, hx⟩ := get_of (l := B) (i := c - m) (by omega)
    refine ⟨x, ?_, hx⟩
    rw [hL, List.getElem?_append_right (by omega), List.getElem?_append_right (by omega), List.getElem?_append_left (by omega), show c - p.length - A.length = c - m by omega]; exact hx
  repeat' (first | refine Sp.h ?_ | refine Lk.r rfl ?_ | refine Rf.mk rfl ?_ | (apply Ov.n; (focus first | omega | (simp <;> omega))) | fail)
  refine CA.loop (fun s : Nat × Nat => ⟨[(0, .ow v), (1, it a), (2, it m), (3, it b), (4, .fn 66 []), (18, it mid), (19, it ((mid : Int) + (m : Int))), (20, it s.1), (21, it s.2), (22, it ((mid : Int) + (m : Int) - 1))], [eR v L]⟩)
    (fun s => s0 ≤ s.1 ∧ s.1 ≤ s.2 ∧ s.2 ≤ r0 ∧ (s.1 = s0 ∨ ∃ x y, A[s.1 - 1 - a]? = some x ∧ B[mid + m - s.1 - m]? = some y ∧ ¬ LtE y x) ∧ (s.2 = r0 ∨ ∃ x y, A[s.2 - a]? = some x ∧ B[mid + m - 1 - s.2 - m]? = some y ∧ LtE y x)) (fun s => s.2 - s.1) (s0, r0) ⟨by (repeat (first | exact trivial | refine ⟨rfl, ?_⟩)), by (repeat (first | exact Subl.nil | refine Subl.cons (by (repeat (first | exact Take.here | apply Take.there))) ?_))⟩ ⟨Nat.le_refl _, by simp only; omega, Nat.le_refl _, .inl rfl, .inl rfl⟩ ?_
  rintro ⟨s, r⟩ ⟨g1, g2, g3, g4, g5⟩
  simp only at g1 g2 g3 g4 g5
  simp only
  by_cases hsr : s < r
  · obtain ⟨x, hx, hxA⟩ := hAx ((s + r) / 2) (by omega) (by omega)
    obtain ⟨y, hy, hyB⟩ := hBx (mid + m - 1 - (s + r) / 2) (by omega) (by omega)
    have e1 : ((s : Int) + (r : Int)) / 2 = (((s + r) / 2 : Nat) : Int) := by omega
    have e2 : (mid : Int) + (m : Int) - 1 - ((s : Int) + (r : Int)) / 2 = ((mid + m - 1 - (s + r) / 2 : Nat) : Int) := by omega
    have hcm := cmpE_neg (a := y) (b := x)
    by_cases hlt : LtE y x
    · have hc := hcm.2 hlt
      repeat' (first | refine Sp.h ?_ | refine Lk.r rfl ?_ | refine Rf.mk rfl ?_ | (apply Bd.t; (focus (first | assumption | omega | rfl))) | refine OpK.r rfl ?_ | (apply TkA.r; (focus (repeat (first | exact Take.here | apply Take.there)))) | (apply Ix.q; (focus exact rfl); (focus assumption)) | (apply Ix.r; (focus assumption); (focus omega)) | (apply At.r; (focus assumption)) | refine Ch.l ⟨rfl, rfl⟩ ?_ | (apply CA.draw; (focus rfl); (focus kernel_rfl); (focus kernel_rfl); (focus repeat' (first | apply ON.one | exact ON.done | exact ON.none | apply ON.alt)); (focus rfl)) | (apply Ov.n; (focus first | omega | (simp <;> omega))) | (apply Cvk.i64; (focus rfl); (focus omega)) | (apply Cvk.u64; (focus rfl); (focus omega)) | fail | (apply Cl.p (order1_p _ _); (focus repeat' (first | exact Lend.nil | apply Lend.keep | fail))))
      exact PA.lp (s, (s + r) / 2) ⟨by (repeat (first | exact trivial | refine ⟨rfl, ?_⟩)), by (repeat (first | exact Subl.nil | refine Subl.cons (by (repeat (first | exact Take.here | apply Take.there))) ?_))⟩ ⟨⟨g1, by simp only; omega, by simp only; omega, g4, .inr ⟨x, y, hxA, hyB, hlt⟩⟩, by simp only; omega⟩
    · have hc : ¬ cmpE y x < 0 := fun h => hlt (hcm.1 h)
      repeat' (first | refine Sp.h ?_ | refine Lk.r rfl ?_ | refine Rf.mk rfl ?_ | (apply Bd.t; (focus (first | assumption | omega | rfl))) | (apply Bd.f; (focus (first | assumption | omega | exact Bool.false_ne_true))) | refine OpK.r rfl ?_ | (apply TkA.r; (focus (repeat (first | exact Take.here | apply Take.there)))) | (apply Ix.q; (focus exact rfl); (focus assumption)) | (apply Ix.r; (focus assumption); (focus omega)) | (apply At.r; (focus assumption)) | refine Ch.l ⟨rfl, rfl⟩ ?_ | (apply CA.draw; (focus rfl); (focus kernel_rfl); (focus kernel_rfl); (focus repeat' (first | apply ON.one | exact ON.done | exact ON.none | apply ON.alt)); (focus rfl)) | (apply Ov.n; (focus first | omega | (simp <;> omega))) | (apply Cvk.i64; (focus rfl); (focus omega)) | (apply Cvk.u64; (focus rfl); (focus omega)) | fail | (apply Cl.p (order1_p _ _); (focus repeat' (first | exact Lend.nil | apply Lend.keep | fail))))
      exact PA.lp ((s + r) / 2 + 1, r) ⟨by (repeat (first | exact trivial | refine ⟨rfl, ?_⟩)), by (repeat (first | exact Subl.nil | refine Subl.cons (by (repeat (first | exact Take.here | apply Take.there))) ?_))⟩ ⟨⟨by simp only; omega, by simp only; omega, g3, .inr ⟨x, y, by simp only; rw [show (s + r) / 2 + 1 - 1 = (s + r) / 2 by omega]; exact hxA, by simp only; rw [show mid + m - ((s + r) / 2 + 1) - m = mid + m - 1 - (s + r) / 2 - m by omega]; exact hyB, hlt⟩, g5⟩, by simp only; omega⟩
  have hsre : s = r := by omega
  subst hsre
  obtain ⟨E, hE⟩ : ∃ E, E = mid + m - s := ⟨_, rfl⟩
  have e3 : (mid : Int) + (m : Int) - (s : Int) = ((E : Nat) : Int) := by omega
  obtain ⟨A1, A2, hA12, lA1⟩ := split_at A (s - a) (by omega)
  obtain ⟨B1, B2, hB12, lB1⟩ := split_at B (E - m) (by omega)
  have lA := congrArg List.length hA12
  have lB := congrArg List.length hB12
  rw [List.length_append] at lA lB
  have c1 : ∀ x ∈ A1, ∀ y ∈ B2, ¬ LtE y x := fun x hx y hy => by
    obtain ⟨i, hi⟩ := List.getElem?_of_mem hx
    obtain ⟨j, hj⟩ := List.getElem?_of_mem hy
    have hi1 := (List.getElem?_eq_some_iff.1 hi).1
    have hj1 := (List.getElem?_eq_some_iff.1 hj).1
    have hi2 : A[i]? = some x := by rw [hA12, List.getElem?_append_left hi1]; exact hi
    have hj2 : B[B1.length + j]? = some y := by rw [hB12, List.getElem?_append_right (by omega), Nat.add_sub_cancel_left]; exact hj
    rcases g4 with h | ⟨u, w, hu, hw, huw⟩
    · rcases hs0 with ⟨h2, h3, h4⟩ | ⟨h2, h3, h4⟩ <;> omega
    · have k1 := srt_mem sA (i := i) (j := s - 1 - a) (by omega) hi2 hu
      have k2 := srt_mem sB (i := mid + m - s - m) (j := B1.length + j) (by omega) hw hj2
      unfold LtE at *; omega
  have c2 : ∀ x ∈ A2, ∀ y ∈ B1, LtE y x := fun x hx y hy => by
    obtain ⟨i, hi⟩ := List.getElem?_of_mem hx
    obtain ⟨j, hj⟩ := List.getElem?_of_mem hy
    have hi1 := (List.getElem?_eq_some_iff.1 hi).1
    have hj1 := (List.getElem?_eq_some_iff.1 hj).1
    have hi2 : A[A1.length + i]? = some x := by rw [hA12, List.getElem?_append_right (by omega), Nat.add_sub_cancel_left]; exact hi
    have hj2 : B[j]? = some y := by rw [hB12, List.getElem?_append_left hj1]; exact hj
    rcases g5 with h | ⟨u, w, hu, hw, huw⟩
    · rcases hs0 with ⟨h2, h3, h4⟩ | ⟨h2, h3, h4⟩ <;> omega
    · have k1 := srt_mem sA (i := s - a) (j := A1.length + i) (by omega) hu hi2
      have k2 := srt_mem sB (i := j) (j := mid + m - 1 - s - m) (by omega) hj2 hw
      unfold LtE at *; omega
  rw [hA12] at sA
  rw [hB12] at sB
  obtain ⟨sA1, sA2, sA3⟩ := List.pairwise_append.1 sA
  obtain ⟨sB1, sB2, sB3⟩ := List.pairwise_append.1 sB
  obtain ⟨L2, hL2⟩ : ∃ L2, L2 = p ++ (A1 ++ (B1 ++ (A2 ++ (B2 ++ q)))) := ⟨_, rfl⟩
  have hL1 : L = (p ++ A1) ++ (A2 ++ (B1 ++ (B2 ++ q))) := by rw [hL, hA12, hB12]; simp
  have hL2l : L2.length = L.length := by rw [hL2, hll]; simp only [List.length_append]; omega
  (repeat' (first | (show CA _ _ (Code.region 39 _ _) _ _; apply Stopped.out) | refine Sp.h ?_ | refine Lk.r rfl ?_ | refine Rf.mk rfl ?_ | (apply Bd.f; (focus (first | assumption | omega | exact Bool.false_ne_true))) | (apply Ov.n; (focus first | omega | (simp <;> omega))) | fail)); any_goals apply Stopped.mk
  rw [e3]
  refine CA.cut (fun c : Bool => ⟨[(0, .ow v), (1, it a), (2, it m), (3, it b), (4, .fn 66 []), (18, it mid), (20, it s), (24, it E), (185, bl c)], [eR v L]⟩) (fun c => c = true ↔ s < m ∧ m < E) ?_ ?_
  · repeat' (first | refine Sp.h ?_ | refine Lk.r rfl ?_ | refine Rf.mk rfl ?_ | (apply Bd.t; (focus (first | assumption | omega | rfl))) | (apply Bd.f; (focus (first | assumption | omega | exact Bool.false_ne_true))) | (refine Bd.mk ?_ ?_ <;> intro _) | fail)
    all_goals exact PA.lp _ ⟨by (repeat (first | exact trivial | refine ⟨rfl, ?_⟩)), by (repeat (first | exact Subl.nil | refine Subl.cons (by (repeat (first | exact Take.here | apply Take.there))) ?_))⟩ (by simp; omega)
  rintro c hc
  simp only
  refine Sp.h ?_
  refine CA.cut (fun _ : Unit => ⟨[(0, .ow v), (1, it a), (2, it m), (3, it b), (4, .fn 66 []), (18, it mid), (20, it s), (24, it E)], [eR v L2]⟩) (fun _ => True) ?_ ?_
  · cases c
    · have hn : ¬ (s < m ∧ m < E) := fun h => by have := hc.2 h; cases this
      have hLL : L = L2 := by
        rw [hL1, hL2]
        by_cases h : m ≤ s
        · have : A2 = [] := List.eq_nil_of_length_eq_zero (by omega)
          subst this; simp
        · have : B1 = [] := List.eq_nil_of_length_eq_zero (by omega)
          subst this; simp
      repeat' (first | refine Sp.h ?_ | refine Lk.r rfl ?_ | fail)
      rw [hLL]
      exact PA.lp () ⟨by (repeat (first | exact trivial | refine ⟨rfl, ?_⟩)), by (repeat (first | exact Subl.nil | refine Subl.cons (by (repeat (first | exact Take.here | apply Take.there))) ?_))⟩ trivial
    · have hy := hc.1 rfl
      have hro := rotate_a v L (p ++ A1) A2 B1 (B2 ++ q) s m E hL1 (by rw [List.length_append]; omega) (by rw [List.length_append]; omega) (by rw [List.length_append]; omega) (by omega) (by omega) hl
      have hLL : p ++ A1 ++ (B1 ++ (A2 ++ (B2 ++ q))) = L2 := by rw [hL2]; simp
      rw [hLL] at hro
      repeat' (first | refine Sp.h ?_ | refine Lk.r rfl ?_ | refine Rf.mk rfl ?_ | fail)
      (apply Cl.use (hro); (focus repeat' (first | exact Lend.nil | apply Lend.keep | fail)); (focus (repeat (first | exact Takes.nil | (apply Takes.cons; (focus (repeat (first | exact Take.here | apply Take.there))))))); (focus rfl))
      rintro _ _ ⟨rfl, rfl⟩
      repeat' (first | refine Sp.h ?_ | fail)
      exact PA.lp () ⟨by (repeat (first | exact trivial | refine ⟨rfl, ?_⟩)), by (repeat (first | exact Subl.nil | refine Subl.cons (by (repeat (first | exact Take.here | apply Take.there))) ?_))⟩ trivial
  rintro ⟨⟩ -
  simp only
  (repeat' (first | (show CA _ _ (Code.region 41 _ _) _ _; apply Stopped.out) | refine Sp.h ?_ | fail)); any_goals apply Stopped.mk
  refine CA.cut (fun c : Bool => ⟨[(0, .ow v), (1, it a), (2, it m), (3, it b), (4, .fn 66 []), (18, it mid), (20, it s), (24, it E), (199, bl c)], [eR v L2]⟩) (fun c => c = true ↔ a < s ∧ s < mid) ?_ ?_
  · repeat' (first | refine Sp.h ?_ | refine Lk.r rfl ?_ | refine Rf.mk rfl ?_ | (apply Bd.t; (focus (first | assumption | omega | rfl))) | (apply Bd.f; (focus (first | assumption | omega | exact Bool.false_ne_true))) | (refine Bd.mk ?_ ?_ <;> intro _) | fail)
    all_goals exact PA.lp _ ⟨by (repeat (first | exact trivial | refine ⟨rfl, ?_⟩)), by (repeat (first | exact Subl.nil | refine Subl.cons (by (repeat (first | exact Take.here | apply Take.there))) ?_))⟩ (by simp; omega)
  rintro c hc
  simp only
  refine Sp.h ?_
  refine CA.cut (fun S1 : List EvS => ⟨[(0, .ow v), (3, it b), (4, .fn 66 []), (18, it mid), (24, it E)], [eR v (p ++ (S1 ++ (A2 ++ (B2 ++ q))))]⟩) (fun S1 => (A1 ++ B1).Perm S1 ∧ SrtE S1) ?_ ?_
  · cases c
    · have hn : ¬ (a < s ∧ s < mid) := fun h => by have := hc.2 h; cases this
      have hLL : L2 = p ++ ((A1 ++ B1) ++ (A2 ++ (B2 ++ q))) := by rw [hL2]; simp
      have hss : SrtE (A1 ++ B1) := by
        by_cases h : s ≤ a
        · have : A1 = [] := List.eq_nil_of_length_eq_zero (by omega)
          subst this; simpa using sB1
        · have : B1 = [] := List.eq_nil_of_length_eq_zero (by omega)
          subst this; simpa using sA1
      repeat' (first | refine Sp.h ?_ | refine Lk.r rfl ?_ | fail)
      rw [hLL]
      exact PA.lp (A1 ++ B1) ⟨by (repeat (first | exact trivial | refine ⟨rfl, ?_⟩)), by (repeat (first | exact Subl.nil | refine Subl.cons (by (repeat (first | exact Take.here | apply Take.there))) ?_))⟩ ⟨List.Perm.refl _, hss⟩
    · have hy := hc.1 rfl
      have hre := ih v L2 p A1 B1 (A2 ++ (B2 ++ q)) a s mid (by omega) hL2 ha (by omega) (by omega) (by omega) (by omega) sA1 sB1 (by omega)
      repeat' (first | refine Sp.h ?_ | refine Lk.r rfl ?_ | refine Rf.mk rfl ?_ | fail)
      (apply Cl.use (hre); (focus repeat' (first | exact Lend.nil | apply Lend.keep | fail)); (focus (repeat (first | exact Takes.nil | (apply Takes.cons; (focus (repeat (first | exact Take.here | apply Take.there))))))); (focus rfl))
      rintro _ _ ⟨S1, rfl, rfl, h1, h2⟩
      repeat' (first | refine Sp.h ?_ | fail)
      exact PA.lp S1 ⟨by (repeat (first | exact trivial | refine ⟨rfl, ?_⟩)), by (repeat (first | exact Subl.nil | refine Subl.cons (by (repeat (first | exact Take.here | apply Take.there))) ?_))⟩ ⟨h1, h2⟩
  rintro S1 ⟨p1, s1⟩
  simp only
  have l1 := p1.length_eq
  rw [List.length_append] at l1
  (repeat' (first | (show CA _ _ (Code.region 43 _ _) _ _; apply Stopped.out) | refine Sp.h ?_ | fail)); any_goals apply Stopped.mk
  refine CA.cut (fun c : Bool => ⟨[(0, .ow v), (3, it b), (4, .fn 66 []), (18, it mid), (24, it E), (213, bl c)], [eR v (p ++ (S1 ++ (A2 ++ (B2 ++ q))))]⟩) (fun c => c = true ↔ mid < E ∧ E < b) ?_ ?_
  · repeat' (first | refine Sp.h ?_ | refine Lk.r rfl ?_ | refine Rf.mk rfl ?_ | (apply Bd.t; (focus (first | assumption | omega | rfl))) | (apply Bd.f; (focus (first | assumption | omega | exact Bool.false_ne_true))) | (refine Bd.mk ?_ ?_ <;> intro _) | fail)
    all_goals exact PA.lp _ ⟨by (repeat (first | exact trivial | refine ⟨rfl, ?_⟩)), by (repeat (first | exact Subl.nil | refine Subl.cons (by (repeat (first | exact Take.here | apply Take.there))) ?_))⟩ (by simp; omega)
  rintro c hc
  simp only
  have hfin : ∀ S2, (A2 ++ B2).Perm S2 → SrtE S2 → (A ++ B).Perm (S1 ++ S2) ∧ SrtE (S1 ++ S2) := fun S2 p2 s2 => by
    refine ⟨?_, List.pairwise_append.2 ⟨s1, s2, fun x hx y hy => ?_⟩⟩
    · rw [hA12, hB12]
      exact (perm4 A1 A2 B1 B2).trans (List.Perm.append p1 p2)
    · have hx := p1.mem_iff.2 hx
      have hy := p2.mem_iff.2 hy
      rcases List.mem_append.1 hx with hx | hx <;> rcases List.mem_append.1 hy with hy | hy
      · exact sA3 x hx y hy
      · exact c1 x hx y hy
      · exact (c2 y hy x hx).asymm
      · exact sB3 x hx y hy
  cases c
  · have hn : ¬ (mid < E ∧ E < b) := fun h => by have := hc.2 h; cases this
    have hss : SrtE (A2 ++ B2) := by
      by_cases h : E ≤ mid
      · have : A2 = [] := List.eq_nil_of_length_eq_zero (by omega)
        subst this; simpa using sB2
      · have : B2 = [] := List.eq_nil_of_length_eq_zero (by omega)
        subst this; simpa using sA2
    repeat' (first | refine Sp.h ?_ | refine Lk.r rfl ?_ | (apply Nm.r; (focus repeat (first | apply LN.cons | exact LN.nil))) | fail)
    refine ⟨_, [eR v (p ++ (S1 ++ (A2 ++ (B2 ++ q))))], .tup (.nil (by (repeat (first | exact Subl.nil | refine Subl.cons (by (repeat (first | exact Take.here | apply Take.there))) ?_)))), S1 ++ (A2 ++ B2), rfl, by simp, hfin _ (List.Perm.refl _) hss⟩
  · have hy := hc.1 rfl
    have hre := ih v (p ++ (S1 ++ (A2 ++ (B2 ++ q)))) (p ++ S1) A2 B2 q mid E b (by omega) (by simp) (by rw [List.length_append]; omega) (by rw [List.length_append]; omega) (by rw [List.length_append]; omega) (by omega) (by omega) sA2 sB2 (by simp only [List.length_append]; omega)
    repeat' (first | refine Sp.h ?_ | refine Lk.r rfl ?_ | refine Rf.mk rfl ?_ | fail)
    (apply Cl.use (hre); (focus repeat' (first | exact Lend.nil | apply Lend.keep | fail)); (focus (repeat (first | exact Takes.nil | (apply Takes.cons; (focus (repeat (first | exact Take.here | apply Take.there))))))); (focus rfl))
    rintro _ _ ⟨S2, rfl, rfl, h1, h2⟩
    repeat' (first | refine Sp.h ?_ | (apply Nm.r; (focus repeat (first | apply LN.cons | exact LN.nil))) | fail)
    refine ⟨_, [eR v (p ++ S1 ++ (S2 ++ q))], .tup (.nil (by (repeat (first | exact Subl.nil | refine Subl.cons (by (repeat (first | exact Take.here | apply Take.there))) ?_)))), S1 ++ S2, rfl, by simp, hfin _ h1 h2⟩
end Go.Proofs.YtpgpdmmobblffaaGreat
namespace Go.Proofs.YtpgpdmmobblffaaGreat
open Go Go.CF
set_option maxRecDepth 20000
theorem ovF_mark : OvF Tryz.prog 145 42 :=
  ⟨_, 4, Tryz.func145, by kernel_rfl, by kernel_rfl, by kernel_rfl, by kernel_rfl⟩
instance (priority := 2000) {T : Nat → Ord × (Nat → Cls)} {n : Nat} {rs : Array ResultVar} {K : AV → List Res → Prop} {h0 : Heap} {G0 O0 : Nat → Prop} {d : Tmp} {x y : Operand} {tys : Array TypeId} {ty : TypeId} {e : EA} {o : List Res} {N : NA} :
    Sp (SA ⟨Tryz.prog, tt, en, pg, T, n, rs, K, h0, G0, O0, ⟨none⟩⟩ .loud (some d) (.call { callee := .value (.func 145), args := #[x, y], argTypes := tys }) ty e o N)
      (Lk (evA e x) fun a => Lk (evA e y) fun b => Ovl o a b (N ((d, .val (.bool false)) :: e) o)) := ⟨fun h => SA.ovl ovF_mark (tS := 42) rfl rfl h⟩
theorem ins_eq {α : Type} {L : List α} {r : α} {i : Nat} (hi : i < L.length) (a b c : Nat) (ha : a = L.length - i) (hb : b = 1) (hc : c = 1) :
    (L.take (i + c) ++ (L.drop i).take a).take i ++ [r].take b ++ (L.take (i + c) ++ (L.drop i).take a).drop (i + b) = L.take i ++ r :: L.drop i := by
  subst ha; subst hb; subst hc
  have h1 : (L.drop i).take (L.length - i) = L.drop i := List.take_of_length_le (by simp)
  have h2 : (L.take (i + 1)).length = i + 1 := by simp; omega
  rw [h1, List.take_append_of_le_length (by omega), List.take_take, Nat.min_eq_left (by omega), List.drop_append_of_le_length (by omega), List.drop_of_length_le (by omega)]
  simp
theorem ins_eq2 {α : Type} {L : List α} {r : α} {i : Nat} (hi : i < L.length) (a b c d e g : Nat) (hg : g = i) (he : e = 1) (hd : d = L.length - i) (hb : b = L.length - i) (ha : a = i) (hc : c = 1) :
    (((L.take g).take a ++ [r].take e).take (i + c) ++ ((L.drop i).take d).take b) = L.take i ++ r :: L.drop i := by
  subst ha; subst hb; subst hc; subst hd; subst he; subst hg
  have h1 : (L.drop g).take (L.length - g) = L.drop g := List.take_of_length_le (by simp)
  rw [h1, h1, List.take_take, Nat.min_self, List.take_of_length_le (l := List.take g L ++ List.take 1 [r]) (by simp; omega)]
  simp
set_option maxHeartbeats 1000000 in
theorem insertV_a (w u : Value) (L : List (List Value)) (r : List Value) (i : Nat) (hi : i ≤ L.length) (hl : L.length ≤ 1000000) :
    CallA Tryz.prog 126 [.ow w, it i, .ow u] [arrR w 47 4 L valR, arrR u 47 4 [r] valR] fun q own => ∃ w', q = .ow w' ∧ own = [arrR w' 47 4 (L.take i ++ r :: L.drop i) valR] := by
  refine CallA.of pg ord126 Tryz.func126 rfl Tryz.ntmps126 Tryz.results126 rfl fun h0 G0 O0 => ?_
  have h1r : ([r] : List (List Value)).length = 1 := rfl
  by_cases hin : i = L.length
  · subst hin
    rw [List.take_length, List.drop_length]
    repeat' (first | refine Sp.h ?_ | refine Lk.r rfl ?_ | refine Rf.mk rfl ?_ | (apply Bd.t; (focus (first | assumption | omega | rfl))) | (apply Bd.f; (focus (first | assumption | omega | exact Bool.false_ne_true))) | (apply Om.mk; (focus first | omega | (simp <;> omega))) | (refine All.mk ?_; intro _) | (apply TkA.r; (focus (repeat (first | exact Take.here | apply Take.there)))) | refine Ce.r ?_ | (apply Nm.r; (focus repeat (first | apply LN.cons | exact LN.nil))) | refine Rf.mk ⟨rfl, rfl⟩ ?_ | (apply Jx.r; (focus exact rfl); (focus first | omega | (simp; done) | (simp; omega))) | refine Mp.same ?_ | fail)
    exact ⟨_, _, .one (.same (.nil (by (repeat (first | exact Subl.nil | refine Subl.cons (by (repeat (first | exact Take.here | apply Take.there))) ?_))))), _, rfl, rfl⟩
  have hin : i < L.length := by omega
  by_cases hc : capV w < L.length + 1
  · repeat' (first | refine Sp.h ?_ | refine Lk.r rfl ?_ | refine Rf.mk rfl ?_ | (apply Bd.t; (focus (first | assumption | omega | rfl))) | (apply Bd.f; (focus (first | assumption | omega | exact Bool.false_ne_true))) | (refine Im.mk ?_; intro _) | (apply TkA.r; (focus (repeat (first | exact Take.here | apply Take.there)))) | refine Rf.mk ⟨rfl, rfl⟩ ?_ | refine Rf.mk ⟨rfl, rfl, rfl⟩ ?_ | (apply Jx.r; (focus exact rfl); (focus first | omega | (simp; done) | (simp; omega))) | refine Mp.same ?_ | (apply Ov.n; (focus first | omega | (simp <;> omega))) | fail)
    refine Jx.r (j := L.length + [r].length - i) (by omega) (by omega) ?_
    (repeat' (first | (show CA _ _ (Code.region 12 _ _) _ _; apply Stopped.out) | refine Sp.h ?_ | refine Lk.r rfl ?_ | refine Rf.mk rfl ?_ | refine OpK.r rfl ?_ | (apply Om.mk; (focus first | omega | (simp <;> omega))) | (refine All.mk ?_; intro _) | (apply TkA.r; (focus (repeat (first | exact Take.here | apply Take.there)))) | refine Rf.mk ⟨rfl, rfl⟩ ?_ | refine Rf.mk ⟨rfl, rfl, rfl⟩ ?_ | (apply Jx.r; (focus exact rfl); (focus first | omega | (simp; done) | (simp; omega))) | refine Mp.same ?_ | (apply CA.draw; (focus rfl); (focus kernel_rfl); (focus kernel_rfl); (focus repeat' (first | apply ON.one | exact ON.done | exact ON.none | apply ON.alt)); (focus rfl)) | (apply Ov.n; (focus first | omega | (simp <;> omega))) | (apply CpS.part; (focus ((repeat (first | exact Take.here | apply Take.there)); done))) | (apply TkX.r; (focus (repeat (first | exact Take.here | apply Take.there)))) | fail)); any_goals apply Stopped.mk
    apply CA.ofX 9
    focus rfl
    focus (repeat (first | exact Take.here | apply Take.there))
    focus (simp; omega)
    repeat' (first | refine Sp.h ?_ | refine Lk.r rfl ?_ | refine Rf.mk rfl ?_ | (apply Nm.r; (focus repeat (first | apply LN.cons | exact LN.nil))) | fail)
    rw [ins_eq2 hin _ _ _ _ _ _ (by omega) (by omega) (by omega) (by simp; omega) (by omega) h1r]
    exact ⟨_, _, .one (.same (.nil (by (repeat (first | exact Subl.nil | refine Subl.cons (by (repeat (first | exact Take.here | apply Take.there))) ?_))))), _, rfl, rfl⟩
  · (repeat' (first | (show CA _ _ (Code.region 13 _ _) _ _; apply Stopped.out) | refine Sp.h ?_ | refine Lk.r rfl ?_ | refine Rf.mk rfl ?_ | (apply Bd.f; (focus (first | assumption | omega | exact Bool.false_ne_true))) | (refine Im.mk ?_; intro _) | (apply TkA.r; (focus (repeat (first | exact Take.here | apply Take.there)))) | (apply Jx.r; (focus exact rfl); (focus first | omega | (simp; done) | (simp; omega))) | (apply Ov.n; (focus first | omega | (simp <;> omega))) | fail)); any_goals apply Stopped.mk
    apply CA.toX 0
    focus rfl
    focus (repeat (first | exact Take.here | apply Take.there))
    intro _
    (repeat' (first | (show CA _ _ (Code.region 16 _ _) _ _; apply Stopped.out) | refine Sp.h ?_ | refine Lk.r rfl ?_ | refine Rf.mk rfl ?_ | (apply Bd.f; (focus (first | assumption | omega | exact Bool.false_ne_true))) | refine OpK.r rfl ?_ | (apply Om.mk; (focus first | omega | (simp <;> omega))) | refine Rf.mk ⟨rfl, rfl, rfl⟩ ?_ | (apply Jx.r; (focus exact rfl); (focus first | omega | (simp; done) | (simp; omega))) | (apply CA.draw; (focus rfl); (focus kernel_rfl); (focus kernel_rfl); (focus repeat' (first | apply ON.one | exact ON.done | exact ON.none | apply ON.alt)); (focus rfl)) | (apply Ov.n; (focus first | omega | (simp <;> omega))) | (apply CpS.part; (focus ((repeat (first | exact Take.here | apply Take.there)); done))) | (apply TkX.r; (focus (repeat (first | exact Take.here | apply Take.there)))) | (apply ExX.long; (focus rfl); (focus first | omega | (simp <;> omega)); (focus first | omega | (simp <;> omega))) | (apply Ovl.mk'; (focus (repeat (first | exact Take.here | apply Take.there))); (focus (repeat (first | exact Take.here | apply Take.there))); (focus decide)) | fail)); any_goals apply Stopped.mk
    refine CA.sub ⟨[(0, .ow _), (1, it i), (2, .ow u)], [arrR _ 47 4 _ valR, arrR u 47 4 [r] valR]⟩ ⟨by (repeat (first | exact trivial | refine ⟨rfl, ?_⟩)), by (repeat (first | exact Subl.nil | refine Subl.cons (by (repeat (first | exact Take.here | apply Take.there))) ?_))⟩ ?_
    repeat' (first | refine Sp.h ?_ | refine Lk.r rfl ?_ | refine Rf.mk rfl ?_ | (apply TkA.r; (focus (repeat (first | exact Take.here | apply Take.there)))) | (apply Nm.r; (focus repeat (first | apply LN.cons | exact LN.nil))) | refine Rf.mk ⟨rfl, rfl, rfl⟩ ?_ | (apply Jx.r; (focus exact rfl); (focus first | omega | (simp; done) | (simp; omega))) | refine Mp.same ?_ | (apply CpS.all; (focus ((repeat (first | exact Take.here | apply Take.there)); done))) | fail)
    rw [ins_eq hin _ _ _ (by omega) (by simp; omega) h1r]
    exact ⟨_, _, .one (.same (.nil (by (repeat (first | exact Subl.nil | refine Subl.cons (by (repeat (first | exact Take.here | apply Take.there))) ?_))))), _, rfl, rfl⟩
end Go.Proofs.YtpgpdmmobblffaaGreat
namespace Go.Proofs.YtpgpdmmobblffaaGreat
open Go Go.CF
set_option maxRecDepth 20000
def idxN {α : Type} (p : α → Bool) : List α → Nat
  | [] => 0
  | a :: l => if p a then 0 else idxN p l + 1
def idxI {α : Type} (p : α → Bool) (l : List α) : Int := if idxN p l < l.length then idxN p l else -1
theorem idxN_of {α : Type} {p : α → Bool} : ∀ {l : List α} {i : Nat} {x : α}, l[i]? = some x → p x = true → (∀ j y, j < i → l[j]? = some y → p y = false) → idxN p l = i := by
  intro l
  induction l with
  | nil => intro i x h; cases h
  | cons a l ih =>
    intro i x h1 h2 h3
    cases i with
    | zero => cases h1; simp [idxN, h2]
    | succ i =>
      have := h3 0 a (by omega) rfl
      simp [idxN, this, ih h1 h2 fun j y hj hy => h3 (j + 1) y (by omega) hy]
theorem idxN_none {α : Type} {p : α → Bool} : ∀ {l : List α}, (∀ x ∈ l, p x = false) → idxN p l = l.length := by
  intro l
  induction l with
  | nil => intro _; rfl
  | cons a l ih => intro h; simp [idxN, h a (by simp), ih fun x hx => h x (by simp [hx])]
theorem idxN_at {α : Type} {p : α → Bool} : ∀ {l : List α}, idxN p l < l.length → ∃ x, l[idxN p l]? = some x ∧ p x = true ∧ ∀ j y, j < idxN p l → l[j]? = some y → p y = false := by
  intro l
  induction l with
  | nil => intro h; simp at h
  | cons a l ih =>
    intro h
    by_cases ha : p a = true
    · exact ⟨a, by simp [idxN, ha], ha, fun j y hj => by simp [idxN, ha] at hj⟩
    · have he : idxN p (a :: l) = idxN p l + 1 := by simp [idxN, ha]
      obtain ⟨x, h1, h2, h3⟩ := ih (by rw [he] at h; simpa using h)
      refine ⟨x, by rw [he]; exact h1, h2, fun j y hj hy => ?_⟩
      cases j with
      | zero => cases hy; simpa using ha
      | succ j => exact h3 j y (by omega) hy
theorem idxN_le {α : Type} (p : α → Bool) : ∀ l : List α, idxN p l ≤ l.length := by
  intro l
  induction l with
  | nil => exact Nat.le_refl _
  | cons a l ih => simp only [idxN, List.length_cons]; split <;> omega
theorem indexF_p {g : FuncId} {cap : AV} {p : EvS → Bool} (hg : ∀ e, CallP Tryz.prog g [evA' e, cap] (.val (.bool (p e)))) (he : en g = true) (l : List EvS) :
    CallP Tryz.prog 63 [evs l, .fn g [cap]] (.val (.int .i64 (idxI p l))) := by
  refine CallA.of pg ord63 Tryz.func63 rfl Tryz.ntmps63 Tryz.results63 rfl fun h0 G0 O0 => ?_
  repeat' (first | refine Sp.h ?_ | refine Lk.r rfl ?_ | refine Rf.mk rfl ?_ | (refine Im.mk ?_; intro _) | fail)
  rename_i hll
  refine CA.loop (fun i : Nat => ⟨[(0, evs l), (1, .fn g [cap]), (7, .val (.int .i64 l.length)), (8, .val (.int .i64 i))], []⟩)
    (fun i => i ≤ l.length ∧ ∀ j y, j < i → l[j]? = some y → p y = false) (fun i => l.length - i) 0 ⟨by (repeat (first | exact trivial | refine ⟨rfl, ?_⟩)), by (repeat (first | exact Subl.nil | refine Subl.cons (by (repeat (first | exact Take.here | apply Take.there))) ?_))⟩ ⟨Nat.zero_le _, fun j y h => by omega⟩ ?_
  rintro i ⟨hi, hj⟩
  by_cases hin : i < l.length
  · obtain ⟨e, hx⟩ := get_of hin
    repeat' (first | refine Sp.h ?_ | refine Lk.r rfl ?_ | refine Rf.mk rfl ?_ | (apply Bd.t; (focus (first | assumption | omega | rfl))) | (refine Bd.mk ?_ ?_ <;> intro _) | (apply Ix.q; (focus exact rfl); (focus assumption)) | refine Ch.l ⟨rfl, rfl⟩ ?_ | (apply Nm.r; (focus repeat (first | apply LN.cons | exact LN.nil))) | (apply Rf.mk; (focus assumption)) | (apply Ov.n; (focus first | omega | (simp <;> omega))) | fail | (apply Cl.p (hg e); (focus repeat' (first | exact Lend.nil | apply Lend.keep | fail))))
    · rename_i hp
      exact Fin.p rfl (by rw [idxI, idxN_of hx hp hj, if_pos hin])
    · rename_i hp
      refine PA.lp (i + 1) ⟨by (repeat (first | exact trivial | refine ⟨rfl, ?_⟩)), by (repeat (first | exact Subl.nil | refine Subl.cons (by (repeat (first | exact Take.here | apply Take.there))) ?_))⟩ ⟨⟨hin, fun j y h1 h2 => ?_⟩, by omega⟩
      by_cases hij : j = i
      · subst hij; rw [hx] at h2; cases h2; simpa using hp
      · exact hj j y (by omega) h2
  · repeat' (first | refine Sp.h ?_ | refine Lk.r rfl ?_ | refine Rf.mk rfl ?_ | (apply Bd.f; (focus (first | assumption | omega | exact Bool.false_ne_true))) | (apply Nm.r; (focus repeat (first | apply LN.cons | exact LN.nil))) | fail)
    exact Fin.p rfl (by rw [idxI, idxN_none (fun x hx => by obtain ⟨j, hx⟩ := List.getElem?_of_mem hx; exact hj j x (by have := (List.getElem?_eq_some_iff.1 hx).1; omega) hx), if_neg (by omega)])
end Go.Proofs.YtpgpdmmobblffaaGreat
namespace Go.Proofs.YtpgpdmmobblffaaGreat
open Go Go.CF
set_option maxRecDepth 20000
abbrev mA (x : MkS) : AV := .agg (mkC x)
theorem indexK_p {g : FuncId} {cap : AV} {p : MkS → Bool} (hg : ∀ x, CallP Tryz.prog g [mA x, cap] (bl (p x))) (he : en g = true) (l : List MkS) :
    CallP Tryz.prog 92 [mks l, .fn g [cap]] (it (idxI p l)) := by
  refine CallA.of pg ord92 Tryz.func92 rfl Tryz.ntmps92 Tryz.results92 rfl fun h0 G0 O0 => ?_
  repeat' (first | refine Sp.h ?_ | refine Lk.r rfl ?_ | refine Rf.mk rfl ?_ | (refine Im.mk ?_; intro _) | fail)
  refine CA.loop (fun i : Nat => ⟨[(0, mks l), (1, .fn g [cap]), (7, it (l.length : Nat)), (8, it i)], []⟩)
    (fun i => i ≤ l.length ∧ ∀ j y, j < i → l[j]? = some y → p y = false) (fun i => l.length - i) 0 ⟨by (repeat (first | exact trivial | refine ⟨rfl, ?_⟩)), by (repeat (first | exact Subl.nil | refine Subl.cons (by (repeat (first | exact Take.here | apply Take.there))) ?_))⟩ ⟨Nat.zero_le _, fun j y h => by omega⟩ ?_
  rintro i ⟨hi, hj⟩
  by_cases hin : i < l.length
  · obtain ⟨e, hx⟩ := get_of hin
    repeat' (first | refine Sp.h ?_ | refine Lk.r rfl ?_ | refine Rf.mk rfl ?_ | (apply Bd.t; (focus (first | assumption | omega | rfl))) | (refine Bd.mk ?_ ?_ <;> intro _) | (apply Ix.q; (focus exact rfl); (focus assumption)) | refine Ch.l ⟨rfl, rfl⟩ ?_ | (apply Nm.r; (focus repeat (first | apply LN.cons | exact LN.nil))) | (apply Rf.mk; (focus assumption)) | (apply Ov.n; (focus first | omega | (simp <;> omega))) | fail | (apply Cl.p (hg e); (focus repeat' (first | exact Lend.nil | apply Lend.keep | fail))))
    · rename_i hp
      exact Fin.p rfl (by rw [idxI, idxN_of hx hp hj, if_pos hin])
    · rename_i hp
      refine PA.lp (i + 1) ⟨by (repeat (first | exact trivial | refine ⟨rfl, ?_⟩)), by (repeat (first | exact Subl.nil | refine Subl.cons (by (repeat (first | exact Take.here | apply Take.there))) ?_))⟩ ⟨⟨hin, fun j y h1 h2 => ?_⟩, by omega⟩
      by_cases hij : j = i
      · subst hij; rw [hx] at h2; cases h2; simpa using hp
      · exact hj j y (by omega) h2
  · repeat' (first | refine Sp.h ?_ | refine Lk.r rfl ?_ | refine Rf.mk rfl ?_ | (apply Bd.f; (focus (first | assumption | omega | exact Bool.false_ne_true))) | (apply Nm.r; (focus repeat (first | apply LN.cons | exact LN.nil))) | fail)
    exact Fin.p rfl (by rw [idxI, idxN_none (fun x hx => by obtain ⟨j, hx⟩ := List.getElem?_of_mem hx; exact hj j x (by have := (List.getElem?_eq_some_iff.1 hx).1; omega) hx), if_neg (by omega)])
theorem containsK_p {g : FuncId} {cap : AV} {p : MkS → Bool} (hg : ∀ x, CallP Tryz.prog g [mA x, cap] (bl (p x))) (he : en g = true) (l : List MkS) :
    CallP Tryz.prog 123 [mks l, .fn g [cap]] (bl (decide (idxN p l < l.length))) := by
  refine CallA.of pg ord123 Tryz.func123 rfl Tryz.ntmps123 Tryz.results123 rfl fun h0 G0 O0 => ?_
  repeat' (first | refine Sp.h ?_ | refine Lk.r rfl ?_ | refine Rf.mk rfl ?_ | (apply Nm.r; (focus repeat (first | apply LN.cons | exact LN.nil))) | fail | (apply Cl.p (indexK_p hg he l); (focus repeat' (first | exact Lend.nil | apply Lend.keep | fail))))
  refine Fin.p rfl (vb (decide_eq_decide.2 ?_))
  unfold idxI
  split <;> omega
theorem idxN_lt {α : Type} {p : α → Bool} {l : List α} : idxN p l < l.length ↔ ∃ x ∈ l, p x = true := by
  constructor
  · intro h
    obtain ⟨x, h1, h2, _⟩ := idxN_at h
    exact ⟨x, List.mem_of_getElem? h1, h2⟩
  · rintro ⟨x, hx, hp⟩
    refine Classical.byContradiction fun h => ?_
    have hle := idxN_le p l
    have he : idxN p l = l.length := by omega
    have key : ∀ l : List α, idxN p l = l.length → ∀ x ∈ l, p x = false := by
      intro l
      induction l with
      | nil => intro _ x h; cases h
      | cons a l ih =>
        intro h x hx
        by_cases ha : p a = true
        · simp [idxN, ha] at h
        · have ha' : p a = false := by simpa using ha
          simp [idxN, ha'] at h
          rcases List.mem_cons.1 hx with rfl | hx
          · exact ha'
          · exact ih h x hx
    rw [key l he x hx] at hp
    cases hp
def mkV (x : MkS) : List Value := [.int .i64 x.rep, .int .i64 x.num, .int .i64 x.time, .int .i64 x.val]
theorem mkV_map (l : List MkS) : (l.map mkV).map valR = l.map mkC := by rw [List.map_map]; rfl
/-- Before the place where the first one goes, all stay. -/
theorem filt_idx {α : Type} {p : α → Bool} : ∀ {l : List α}, idxN p l < l.length → (l.take (idxN p l + 1)).filter (fun x => !p x) = l.take (idxN p l) := by
  intro l
  induction l with
  | nil => intro h; simp at h
  | cons a l ih =>
    intro h
    by_cases ha : p a = true
    · simp [idxN, ha]
    · have ha' : p a = false := by simpa using ha
      have he : idxN p (a :: l) = idxN p l + 1 := by simp [idxN, ha']
      rw [he] at h ⊢
      have := ih (by simpa using h)
      rw [List.take_succ_cons, List.filter_cons, List.take_succ_cons, this]
      simp [ha']
set_option maxHeartbeats 1000000 in
theorem deleteK_a {g : FuncId} {cap : AV} {p : MkS → Bool} (hg : ∀ x, CallP Tryz.prog g [mA x, cap] (bl (p x))) (he : en g = true) (w : Value) (l : List MkS) (hl : l.length ≤ 1000000) :
    CallA Tryz.prog 49 [.ow w, .fn g [cap]] [arrR w 47 4 l mkC] fun q own => ∃ w', q = .ow w' ∧ own = [arrR w' 47 4 (l.filter fun x => !p x) mkC] := by
  have hix := indexK_p hg he l
  refine CallA.of pg ord49 Tryz.func49 rfl Tryz.ntmps49 Tryz.results49 rfl fun h0 G0 O0 => ?_
  repeat' (first | refine Sp.h ?_ | refine Lk.r rfl ?_ | refine Rf.mk rfl ?_ | fail)
  (apply Cl.lend (hix); (focus repeat' (first | exact Lend.nil | apply Lend.keep | (apply Lend.lend; (focus (repeat (first | exact Take.here | apply Take.there))); (focus first | omega | (simp; omega))) | fail)))
  by_cases hn : idxN p l < l.length
  · have hI : idxI p l = (idxN p l : Nat) := if_pos hn
    rw [hI]
    repeat' (first | refine Sp.h ?_ | refine Lk.r rfl ?_ | refine Rf.mk rfl ?_ | (apply Bd.f; (focus (first | assumption | omega | exact Bool.false_ne_true))) | (apply Ov.n; (focus first | omega | (simp <;> omega))) | fail)
    refine CA.loop (fun x : Nat × Nat × List MkS => ⟨[(0, .ow w), (1, .fn g [cap]), (5, it x.1), (6, it x.2.1)], [arrR w 47 4 x.2.2 mkC]⟩)
      (fun x => x.1 < x.2.1 ∧ x.2.1 ≤ l.length ∧ x.2.2.length = l.length ∧ x.2.2.take x.1 = (l.take x.2.1).filter (fun x => !p x) ∧ x.2.2.drop x.2.1 = l.drop x.2.1) (fun x => l.length - x.2.1) (idxN p l, idxN p l + 1, l) ⟨by (repeat (first | exact trivial | refine ⟨rfl, ?_⟩)), by (repeat (first | exact Subl.nil | refine Subl.cons (by (repeat (first | exact Take.here | apply Take.there))) ?_))⟩ ⟨Nat.lt_succ_self _, hn, rfl, (filt_idx hn).symm, rfl⟩ ?_
    rintro ⟨i, j, cur⟩ ⟨h1, h2, h3, h4, h5⟩
    simp only at h1 h2 h3 h4 h5
    simp only
    by_cases hj : j < l.length
    · obtain ⟨x, hx⟩ := get_of hj
      have hcx : cur[j]? = some x := by
        have := congrArg (fun z => z[0]?) h5
        simpa [List.getElem?_drop, hx] using this
      obtain ⟨y, hy⟩ := get_of (l := cur) (i := i) (by omega)
      have h6 : cur.drop (j + 1) = l.drop (j + 1) := by rw [← List.drop_drop, h5, List.drop_drop]
      have h7 : l.take (j + 1) = l.take j ++ [x] := by rw [List.take_add_one, hx]; rfl
      repeat' (first | refine Sp.h ?_ | refine Lk.r rfl ?_ | refine Rf.mk rfl ?_ | (apply Bd.t; (focus (first | assumption | omega | rfl))) | (refine Bd.mk ?_ ?_ <;> intro _) | (refine All.mk ?_; intro _) | (apply TkA.r; (focus (repeat (first | exact Take.here | apply Take.there)))) | (apply TkB.r; (focus (repeat (first | exact Take.here | apply Take.there)))) | (apply Ix.q; (focus exact rfl); (focus assumption)) | (apply At.r; (focus assumption)) | refine Ch.l ⟨rfl, rfl⟩ ?_ | (apply SetAsk.r; (focus (repeat (first | exact SetAs.z | (apply SetAs.c; (focus (repeat (first | assumption | exact SetA.z | apply SetA.s)))))))) | (apply Nm.r; (focus repeat (first | apply LN.cons | exact LN.nil))) | refine Up.r rfl ?_ | (apply Rf.mk; (focus assumption)) | (apply Ov.n; (focus first | omega | (simp <;> omega))) | fail | (apply Cl.p (hg x); (focus repeat' (first | exact Lend.nil | apply Lend.keep | fail))))
      · rename_i hp
        exact PA.lp (i, j + 1, cur) ⟨by (repeat (first | exact trivial | refine ⟨rfl, ?_⟩)), by (repeat (first | exact Subl.nil | refine Subl.cons (by (repeat (first | exact Take.here | apply Take.there))) ?_))⟩ ⟨⟨by simp only; omega, hj, h3, by simp only; rw [h7, List.filter_append, h4]; simp [hp], h6⟩, by simp only; omega⟩
      · rename_i hp
        have hp : p x = false := by simpa using hp
        have h8 : (cur.set i x).take (i + 1) = cur.take i ++ [x] := by
          rw [List.take_add_one, List.getElem?_set, if_pos rfl, if_pos (by omega), List.take_set_of_le (Nat.le_refl _)]; rfl
        exact PA.lp (i + 1, j + 1, cur.set i x) ⟨by (repeat (first | exact trivial | refine ⟨rfl, ?_⟩)), by (repeat (first | exact Subl.nil | refine Subl.cons (by (repeat (first | exact Take.here | apply Take.there))) ?_))⟩ ⟨⟨by simp only; omega, hj, by simp only; rw [List.length_set]; exact h3, by simp only; rw [h7, List.filter_append, h8, h4]; simp [hp], by simp only; rw [List.drop_set_of_lt (by omega)]; exact h6⟩, by simp only; omega⟩
    · have hje : j = l.length := by omega
      subst hje
      rw [List.take_length] at h4
      (repeat' (first | (show CA _ _ (Code.region 11 _ _) _ _; apply Stopped.out) | refine Sp.h ?_ | refine Lk.r rfl ?_ | refine Rf.mk rfl ?_ | (apply Bd.f; (focus (first | assumption | omega | exact Bool.false_ne_true))) | (apply TkA.r; (focus (repeat (first | exact Take.here | apply Take.there)))) | fail)); any_goals apply Stopped.mk
      apply CA.retype (m := cur.map mkV) (g := valR)
      focus (repeat (first | exact Take.here | apply Take.there))
      focus exact mkV_map cur
      apply CA.toX 0
      focus rfl
      focus (repeat (first | exact Take.here | apply Take.there))
      intro hcap
      rw [List.length_map] at hcap
      (repeat' (first | (show CA _ _ Code.ret _ _; apply Stopped.out) | refine Sp.h ?_ | refine Lk.r rfl ?_ | refine Rf.mk rfl ?_ | (apply Om.mk; (focus first | omega | (simp <;> omega))) | refine Rf.mk ⟨rfl, rfl⟩ ?_ | refine Rf.mk ⟨rfl, rfl, rfl⟩ ?_ | (apply Jx.r; (focus exact rfl); (focus first | omega | (simp; done) | (simp; omega))) | (apply TkX.r; (focus (repeat (first | exact Take.here | apply Take.there)))) | (apply ExX.short; (focus rfl); (focus first | omega | (simp <;> omega)); (focus first | omega | (simp <;> omega))) | fail)); any_goals apply Stopped.mk
      apply CA.retype (m := l.filter fun x => !p x) (g := mkC)
      focus (repeat (first | exact Take.here | apply Take.there))
      focus (rw [← h4, ← mkV_map, List.map_take]; simp [List.take_take])
      repeat' (first | refine Sp.h ?_ | refine Lk.r rfl ?_ | (apply Nm.r; (focus repeat (first | apply LN.cons | exact LN.nil))) | fail)
      exact ⟨_, _, .one (.same (.nil (by (repeat (first | exact Subl.nil | refine Subl.cons (by (repeat (first | exact Take.here | apply Take.there))) ?_))))), _, rfl, rfl⟩
  · have hI : idxI p l = -1 := if_neg hn
    have hall : l.filter (fun x => !p x) = l := List.filter_eq_self.2 fun x hx => by
      have h9 : ¬ ∃ x ∈ l, p x = true := fun h => hn (idxN_lt.2 h)
      cases hpx : p x
      · rfl
      · exact absurd ⟨x, hx, hpx⟩ h9
    rw [hI, hall]
    repeat' (first | refine Sp.h ?_ | refine Lk.r rfl ?_ | refine Rf.mk rfl ?_ | (apply Bd.t; (focus (first | assumption | omega | rfl))) | (apply Nm.r; (focus repeat (first | apply LN.cons | exact LN.nil))) | fail)
    exact ⟨_, _, .one (.same (.nil (by (repeat (first | exact Subl.nil | refine Subl.cons (by (repeat (first | exact Take.here | apply Take.there))) ?_))))), _, rfl, rfl⟩
end Go.Proofs.YtpgpdmmobblffaaGreat
namespace Go.CF
open Go
/-- Several things, asx one. -/
def bunR (rs : List Res) : Res :=
  ⟨fun h O G => ∃ Os, OwnL h G rs Os ∧ Apart Os ∧ ∀ b, O b ↔ U Os b,
   fun {_ _ _ _} x ⟨Os, h1, h2, h3⟩ => ⟨Os, OwnL.stp (fun O' hO' => x.mono fun b hb => hb.imp (fun h => (h3 b).2 ⟨O', hO', h⟩) id) h1, h2, h3⟩,
   fun x ⟨Os, h1, h2, h3⟩ => ⟨Os, h1.mono x, h2, h3⟩⟩
section
variable {h0 : Heap} {G0 O0 : Nat → Prop} {h : Heap} {G : Nat → Prop} {Os : List (Nat → Prop)} {rs rest : List Res} {O : Nat → Prop}
theorem HpOK.unbun (c : HpOK h0 G0 O0 (bunR rs :: rest) h G (O :: Os)) : ∃ Os', OwnL h G rs Os' ∧ HpOK h0 G0 O0 (rs ++ rest) h G (Os' ++ Os) := by
  obtain ⟨⟨Os', h1, h2, h3⟩, hrest⟩ := c.own
  have hd := List.pairwise_cons.1 c.d
  refine ⟨Os', h1, h1.app hrest, c.g, c.g0, fun X hX b hb => ?_, List.pairwise_append.2 ⟨h2, hd.2, fun A hA B hB b ha hb => hd.1 B hB b ((h3 b).2 ⟨A, hA, ha⟩) hb⟩, c.fp⟩
  rcases List.mem_append.1 hX with hX | hX
  · exact c.o O (by simp) b ((h3 b).2 ⟨X, hX, hb⟩)
  · exact c.o X (by simp [hX]) b hb
theorem HpOK.bun {Os1 Os2 : List (Nat → Prop)} (c : HpOK h0 G0 O0 (rs ++ rest) h G (Os1 ++ Os2)) (h1 : OwnL h G rs Os1) (h2 : OwnL h G rest Os2) : HpOK h0 G0 O0 (bunR rs :: rest) h G (U Os1 :: Os2) := by
  obtain ⟨d1, d2, d3⟩ := List.pairwise_append.1 c.d
  refine ⟨⟨⟨Os1, h1, d1, fun b => Iff.rfl⟩, h2⟩, c.g, c.g0, fun X hX b hb => ?_, List.pairwise_cons.2 ⟨fun B hB b ⟨A, hA, ha⟩ hb => d3 A hA B hB b ha hb, d2⟩, c.fp⟩
  rcases List.mem_cons.1 hX with rfl | hX
  · obtain ⟨A, hA, ha⟩ := hb
    exact c.o A (by simp [hA]) b ha
  · exact c.o X (by simp [hX]) b hb
end
section
variable {Γ : Cx} {k : List KI} {e : EA} {o : List Res} {α : Type} {l : List α} {g : α → Res}
theorem CA.bunTake {y : Code} {i : Nat} {x : α} {rest : List Res} (tk : Take o (bunR (l.map g)) rest) (hx : l[i]? = some x) (h : CA Γ k y e (g x :: bunR ((l.eraseIdx i).map g) :: rest)) : CA Γ k y e o := by
  refine ⟨fun env hh G Os cn => ?_⟩
  obtain ⟨O, Os', cn2⟩ := cn.take tk
  obtain ⟨Os1, g1, g2⟩ := cn2.hp.unbun
  have hil := (List.getElem?_eq_some_iff.1 hx).1
  have hsp : l = l.take i ++ x :: l.drop (i + 1) := by
    have h9 := List.drop_eq_getElem_cons hil
    rw [(List.getElem?_eq_some_iff.1 hx).2] at h9
    rw [← h9, List.take_append_drop]
  have hrest := cn2.hp.own.2
  rw [hsp, List.map_append, List.map_cons] at g1
  obtain ⟨A, B, rfl, a1, a2⟩ := OwnL.split g1
  match B, a2 with
  | X :: B, ⟨b1, b2⟩ =>
    have hp : (A ++ X :: B ++ Os').Perm (X :: ((A ++ B) ++ Os')) := by
      rw [List.append_assoc, List.cons_append]
      exact List.perm_middle.trans (by rw [List.append_assoc])
    have herase : (l.eraseIdx i).map g = (l.take i).map g ++ (l.drop (i + 1)).map g := by rw [List.eraseIdx_eq_take_drop_succ, List.map_append]
    have c3 : HpOK Γ.h0 Γ.G0 Γ.O0 (g x :: ((l.eraseIdx i).map g ++ rest)) hh G (X :: ((A ++ B) ++ Os')) :=
      g2.perm ⟨b1, by rw [herase]; exact (a1.app b2).app hrest⟩ hp
    have c4 : HpOK Γ.h0 Γ.G0 Γ.O0 (((l.eraseIdx i).map g) ++ (g x :: rest)) hh G ((A ++ B) ++ (X :: Os')) :=
      c3.perm (by rw [herase]; exact (a1.app b2).app ⟨b1, hrest⟩) List.perm_middle.symm
    have c5 := c4.bun (by rw [herase]; exact a1.app b2) ⟨b1, hrest⟩
    have c6 : HpOK Γ.h0 Γ.G0 Γ.O0 (g x :: bunR ((l.eraseIdx i).map g) :: rest) hh G (X :: U (A ++ B) :: Os') :=
      c5.perm ⟨b1, c5.own.1, hrest⟩ (List.Perm.swap _ _ _)
    exact h.h env hh G _ ⟨c6, cn.env, cn.nf⟩
theorem CA.bunPush {y : Code} {x : α} {rest1 rest2 : List Res} (tk1 : Take o (bunR (l.map g)) rest1) (tk2 : Take rest1 (g x) rest2) (h : CA Γ k y e (bunR ((l ++ [x]).map g) :: rest2)) : CA Γ k y e o := by
  refine ⟨fun env hh G Os cn => ?_⟩
  obtain ⟨O, Os', cn2⟩ := cn.take tk1
  obtain ⟨X, Os2, r1, r2, r3⟩ := tk2.own cn2.hp.own.2
  have c2 : HpOK Γ.h0 Γ.G0 Γ.O0 (bunR (l.map g) :: g x :: rest2) hh G (O :: X :: Os2) := cn2.hp.perm ⟨cn2.hp.own.1, r1, r2⟩ (List.Perm.cons O r3)
  obtain ⟨A, g1, g2⟩ := c2.unbun
  have c3 : HpOK Γ.h0 Γ.G0 Γ.O0 ((l.map g ++ [g x]) ++ rest2) hh G ((A ++ [X]) ++ Os2) := by
    rw [List.append_assoc, List.append_assoc]; exact g2
  have c4 := c3.bun (g1.app (r1 := l.map g) (r2 := [g x]) ⟨r1, trivial⟩) r2
  rw [show l.map g ++ [g x] = (l ++ [x]).map g by simp] at c4
  exact h.h env hh G _ ⟨c4, cn.env, cn.nf⟩
theorem CA.bunPut {y : Code} {i : Nat} {x : α} {rest1 rest2 : List Res} (tk1 : Take o (bunR ((l.eraseIdx i).map g)) rest1) (tk2 : Take rest1 (g x) rest2) (hi : i < l.length) (h : CA Γ k y e (bunR ((l.set i x).map g) :: rest2)) : CA Γ k y e o := by
  refine ⟨fun env hh G Os cn => ?_⟩
  obtain ⟨O, Os', cn2⟩ := cn.take tk1
  obtain ⟨X, Os2, r1, r2, r3⟩ := tk2.own cn2.hp.own.2
  have c2 : HpOK Γ.h0 Γ.G0 Γ.O0 (bunR ((l.eraseIdx i).map g) :: g x :: rest2) hh G (O :: X :: Os2) := cn2.hp.perm ⟨cn2.hp.own.1, r1, r2⟩ (List.Perm.cons O r3)
  obtain ⟨A, g1, g2⟩ := c2.unbun
  have herase : (l.eraseIdx i).map g = (l.take i).map g ++ (l.drop (i + 1)).map g := by rw [List.eraseIdx_eq_take_drop_succ, List.map_append]
  have hset : (l.set i x).map g = (l.take i).map g ++ g x :: (l.drop (i + 1)).map g := by
    rw [List.set_eq_take_append_cons_drop, if_pos hi, List.map_append, List.map_cons]
  rw [herase] at g1 g2
  obtain ⟨B, C, rfl, b1, b2⟩ := OwnL.split g1
  have hp : (B ++ C ++ X :: Os2).Perm ((B ++ X :: C) ++ Os2) := by
    rw [List.append_assoc, List.append_assoc, List.cons_append]
    exact List.Perm.append_left B List.perm_middle
  have c3 : HpOK Γ.h0 Γ.G0 Γ.O0 ((l.set i x).map g ++ rest2) hh G ((B ++ X :: C) ++ Os2) := g2.perm (by rw [hset]; exact OwnL.app (OwnL.app b1 (show OwnL hh G (g x :: (l.drop (i + 1)).map g) (X :: C) from ⟨r1, b2⟩)) r2) hp
  have c4 := c3.bun (by rw [hset]; exact OwnL.app b1 (show OwnL hh G (g x :: (l.drop (i + 1)).map g) (X :: C) from ⟨r1, b2⟩)) r2
  exact h.h env hh G _ ⟨c4, cn.env, cn.nf⟩
theorem CA.bunNil {y : Code} (g : α → Res) (h : CA Γ k y e (bunR (([] : List α).map g) :: o)) : CA Γ k y e o := by
  refine ⟨fun env hh G Os cn => ?_⟩
  have c4 : HpOK Γ.h0 Γ.G0 Γ.O0 (bunR (([] : List α).map g) :: o) hh G (U [] :: Os) := HpOK.bun (rs := []) (Os1 := []) cn.hp trivial cn.hp.own
  exact h.h env hh G _ ⟨c4, cn.env, cn.nf⟩
end
end Go.CF
namespace Go.Proofs.YtpgpdmmobblffaaGreat
open Go Go.CF
set_option maxRecDepth 20000
theorem cloneK_o (l : List MkS) (hl : l.length ≤ 1000000000) : CallO Tryz.prog 11 [mks l] 47 4 l mkC := by
  refine CallA.of pg ord11 Tryz.func11 rfl Tryz.ntmps11 Tryz.results11 rfl fun h0 G0 O0 => ?_
  repeat' (first | refine Sp.h ?_ | refine Lk.r rfl ?_ | refine Rf.mk rfl ?_ | (refine Bd.mk ?_ ?_ <;> intro _) | (apply Om.mk; (focus first | omega | (simp <;> omega))) | (refine Im.mk ?_; intro _) | (refine All.mk ?_; intro _) | (apply TkA.r; (focus (repeat (first | exact Take.here | apply Take.there)))) | refine Ce.l rfl ?_ | (apply Fk.r; (focus (repeat (first | exact FillA.nil | (apply FillA.agg; (focus rfl); (focus rfl); (focus (repeat (first | exact SetAs.z | (apply SetAs.c; (focus (repeat (first | assumption | exact SetA.z | apply SetA.s)))))))) | (apply FillA.one; (focus rfl); (focus infer_instance); (focus (repeat (first | assumption | exact SetA.z | apply SetA.s)))))))) | (apply Nm.r; (focus repeat (first | apply LN.cons | exact LN.nil))) | refine Rf.mk ⟨rfl, rfl⟩ ?_ | refine Rf.mk ⟨rfl, rfl, rfl⟩ ?_ | refine Mp.same ?_ | fail)
  · rename_i b hb hbt
    have hl0 : l = [] := Decidable.byContradiction fun h => by rw [hb h] at hbt; cases hbt
    subst hl0
    exact ⟨_, _, .one (.nils (.nil (by (repeat (first | exact Subl.nil | refine Subl.cons (by (repeat (first | exact Take.here | apply Take.there))) ?_))))), _, rfl, rfl⟩
  · repeat' (first | fail)
    exact ⟨_, _, .one (.same (.nil (by (repeat (first | exact Subl.nil | refine Subl.cons (by (repeat (first | exact Take.here | apply Take.there))) ?_))))), _, rfl, rfl⟩
theorem cloneG_o (l : List MgS) (hl : l.length ≤ 1000000000) : CallO Tryz.prog 83 [mgs l] 44 3 l mgC := by
  refine CallA.of pg ord83 Tryz.func83 rfl Tryz.ntmps83 Tryz.results83 rfl fun h0 G0 O0 => ?_
  repeat' (first | refine Sp.h ?_ | refine Lk.r rfl ?_ | refine Rf.mk rfl ?_ | (refine Bd.mk ?_ ?_ <;> intro _) | (apply Om.mk; (focus first | omega | (simp <;> omega))) | (refine Im.mk ?_; intro _) | (refine All.mk ?_; intro _) | (apply TkA.r; (focus (repeat (first | exact Take.here | apply Take.there)))) | refine Ce.l rfl ?_ | (apply Fk.r; (focus (repeat (first | exact FillA.nil | (apply FillA.agg; (focus rfl); (focus rfl); (focus (repeat (first | exact SetAs.z | (apply SetAs.c; (focus (repeat (first | assumption | exact SetA.z | apply SetA.s)))))))) | (apply FillA.one; (focus rfl); (focus infer_instance); (focus (repeat (first | assumption | exact SetA.z | apply SetA.s)))))))) | (apply Nm.r; (focus repeat (first | apply LN.cons | exact LN.nil))) | refine Rf.mk ⟨rfl, rfl⟩ ?_ | refine Rf.mk ⟨rfl, rfl, rfl⟩ ?_ | refine Mp.same ?_ | fail)
  · rename_i b hb hbt
    have hl0 : l = [] := Decidable.byContradiction fun h => by rw [hb h] at hbt; cases hbt
    subst hl0
    exact ⟨_, _, .one (.nils (.nil (by (repeat (first | exact Subl.nil | refine Subl.cons (by (repeat (first | exact Take.here | apply Take.there))) ?_))))), _, rfl, rfl⟩
  · repeat' (first | fail)
    exact ⟨_, _, .one (.same (.nil (by (repeat (first | exact Subl.nil | refine Subl.cons (by (repeat (first | exact Take.here | apply Take.there))) ?_))))), _, rfl, rfl⟩
/-- What is known of a cell, in a list of one's own, with marks of one's own. -/
structure MgE where
  put : Bool
  drop : Bool
  w : Value
  marks : List MkS
def MgE.g (e : MgE) : MgS := ⟨e.put, e.drop, e.marks⟩
def mgeC (e : MgE) : List AV := [bl e.put, bl e.drop, .ow e.w]
abbrev mgeR (e : MgE) : Res := arrR e.w 47 4 e.marks mkC
def ogC (x : Bool × Bool × AV) : List AV := [bl x.1, bl x.2.1, x.2.2]
instance {a b : Bool} {c : AV} : Inv ogC [bl a, bl b, c] (a, b, c) := ⟨rfl⟩
def ogE (e : MgE) : Bool × Bool × AV := (e.put, e.drop, .ow e.w)
def ogG (g : MgS) : Bool × Bool × AV := (g.put, g.drop, mks g.marks)
theorem ogE_map (l : List MgE) : l.map mgeC = (l.map ogE).map ogC := by rw [List.map_map]; rfl
theorem ogG_map (l : List MgS) : (l.map ogG).map ogC = l.map mgC := by rw [List.map_map]; rfl
abbrev outR (v : Value) (L : List MgE) : List Res := [arrR v 44 3 L mgeC, bunR (L.map mgeR)]
theorem clone34_a (l : List MgS) (hl : l.length ≤ 1000000) (hm : ∀ g ∈ l, g.marks.length ≤ 1000000) :
    CallA Tryz.prog 41 [mgs l] [] fun r own => ∃ v L, r = .ow v ∧ L.map MgE.g = l ∧ own = outR v L := by
  have hc := cloneG_o l (by omega)
  refine CallA.of pg ord41 Tryz.func41 rfl Tryz.ntmps41 Tryz.results41 rfl fun h0 G0 O0 => ?_
  repeat' (first | refine Sp.h ?_ | refine Lk.r rfl ?_ | refine Rf.mk rfl ?_ | fail)
  (refine Cl.use (hc) (by repeat' (first | exact Lend.nil | apply Lend.keep | fail)) .nil rfl ?_; rintro _ _ ⟨_, rfl, rfl⟩)
  repeat' (first | refine Sp.h ?_ | refine Lk.r rfl ?_ | refine Rf.mk rfl ?_ | (apply TkA.r; (focus (repeat (first | exact Take.here | apply Take.there)))) | fail)
  rename_i v
  apply CA.retype (m := l.map ogG) (g := ogC)
  focus (repeat (first | exact Take.here | apply Take.there))
  focus exact ogG_map l
  refine CA.bunNil mgeR ?_
  refine CA.loop (fun x : Nat × List MgE => ⟨[(3, .ow v), (8, it (l.length : Nat)), (9, it x.1)], [arrR v 44 3 (x.2.map ogE ++ (l.drop x.1).map ogG) ogC, bunR (x.2.map mgeR)]⟩)
    (fun x => x.1 ≤ l.length ∧ x.2.map MgE.g = l.take x.1) (fun x => l.length - x.1) (0, []) ⟨by (repeat (first | exact trivial | refine ⟨rfl, ?_⟩)), by (repeat (first | exact Subl.nil | refine Subl.cons (by (repeat (first | exact Take.here | apply Take.there))) ?_))⟩ ⟨Nat.zero_le _, by simp⟩ ?_
  rintro ⟨i, D⟩ ⟨hi, hD⟩
  simp only at hi hD
  simp only
  by_cases hin : i < l.length
  · obtain ⟨g, hg⟩ := get_of hin
    have hgm := hm g (List.mem_of_getElem? hg)
    have hDl : D.length = i := by have := congrArg List.length hD; simp at this; omega
    have hdr : (l.drop i).map ogG = ogG g :: (l.drop (i + 1)).map ogG := by
      have h9 := List.drop_eq_getElem_cons hin
      rw [(List.getElem?_eq_some_iff.1 hg).2] at h9
      rw [h9, List.map_cons]
    have hrow : (D.map ogE ++ (l.drop i).map ogG)[i]? = some (g.put, g.drop, mks g.marks) := by
      rw [hdr, List.getElem?_append_right (by simp; omega)]; simp [hDl, ogG]
    have hcl := cloneK_o g.marks (by omega)
    repeat' (first | refine Sp.h ?_ | refine Lk.r rfl ?_ | refine Rf.mk rfl ?_ | (apply Bd.t; (focus (first | assumption | omega | rfl))) | (apply TkA.r; (focus (repeat (first | exact Take.here | apply Take.there)))) | (apply Ix.q; (focus exact rfl); (focus assumption)) | (apply At.r; (focus assumption)) | fail)
    (refine Cl.use (hcl) (by repeat' (first | exact Lend.nil | apply Lend.keep | fail)) .nil rfl ?_; rintro _ _ ⟨_, rfl, rfl⟩)
    (repeat' (first | (show CA _ _ (Code.region 6 _ _) _ _; apply Stopped.out) | refine Sp.h ?_ | refine Lk.r rfl ?_ | refine Rf.mk rfl ?_ | (apply TkA.r; (focus (repeat (first | exact Take.here | apply Take.there)))) | (apply Ix.q; (focus exact rfl); (focus assumption)) | (apply At.r; (focus assumption)) | (apply SetAk.r; (focus (repeat (first | assumption | exact SetA.z | apply SetA.s)))) | (apply Up.inv; (focus repeat (first | apply LN.cons | exact LN.nil)); (focus infer_instance)) | fail)); any_goals apply Stopped.mk
    rename_i w2
    have hset : (D.map ogE ++ (l.drop i).map ogG).set i (g.put, g.drop, .ow w2) = (D ++ [(MgE.mk g.put g.drop w2 g.marks)]).map ogE ++ (l.drop (i + 1)).map ogG := by
      rw [hdr, List.set_append, if_neg (by simp; omega)]
      simp [hDl, ogE]
    rw [hset]
    apply CA.bunPush (g := mgeR) (x := (MgE.mk g.put g.drop w2 g.marks))
    focus (repeat (first | exact Take.here | apply Take.there))
    focus (repeat (first | exact Take.here | apply Take.there))
    repeat' (first | refine Sp.h ?_ | refine Lk.r rfl ?_ | refine Rf.mk rfl ?_ | (apply Ov.n; (focus first | omega | (simp <;> omega))) | fail)
    exact PA.lp (i + 1, D ++ [(MgE.mk g.put g.drop w2 g.marks)]) ⟨by (repeat (first | exact trivial | refine ⟨rfl, ?_⟩)), by (repeat (first | exact Subl.nil | refine Subl.cons (by (repeat (first | exact Take.here | apply Take.there))) ?_))⟩ ⟨⟨hin, by simp only; rw [List.map_append, hD, List.take_add_one, hg]; rfl⟩, by simp only; omega⟩
  · have hie : i = l.length := by omega
    subst hie
    rw [List.take_length] at hD
    rw [List.drop_length, List.map_nil, List.append_nil]
    (repeat' (first | (show CA _ _ (Code.region 7 _ _) _ _; apply Stopped.out) | refine Sp.h ?_ | refine Lk.r rfl ?_ | refine Rf.mk rfl ?_ | (apply Bd.f; (focus (first | assumption | omega | exact Bool.false_ne_true))) | fail)); any_goals apply Stopped.mk
    apply CA.retype (m := D) (g := mgeC)
    focus (repeat (first | exact Take.here | apply Take.there))
    focus exact ogE_map D
    repeat' (first | refine Sp.h ?_ | refine Lk.r rfl ?_ | refine Rf.mk rfl ?_ | (apply Nm.r; (focus repeat (first | apply LN.cons | exact LN.nil))) | fail)
    exact ⟨_, _, .one (.same (.nil (by (repeat (first | exact Subl.nil | refine Subl.cons (by (repeat (first | exact Take.here | apply Take.there))) ?_))))), _, D, rfl, hD, rfl⟩
end Go.Proofs.YtpgpdmmobblffaaGreat
namespace Go.Proofs.YtpgpdmmobblffaaGreat
open Go Go.CF
set_option maxRecDepth 20000
instance {a b : AV} [ha : Flat a] [hb : Flat b] : Flat (.tup [a, b]) := ⟨by
  rintro h h' G G' v ⟨vs, rfl, hr⟩
  match vs, hr with
  | [x, y], ⟨h1, h2, _⟩ => exact ⟨[x, y], rfl, ha.h _ _ _ _ _ h1, hb.h _ _ _ _ _ h2, trivial⟩⟩
/-- Where a mark goes in a list. -/
noncomputable def posK (l : List MkS) (x : MkS) : Nat := idxN (fun y => decide (¬ LtK y x)) l
def MonoK (l : List MkS) (x : MkS) : Prop := ∀ (i j : Nat) (a b : MkS), i ≤ j → l[i]? = some a → l[j]? = some b → LtK b x → LtK a x
theorem posK_of {l : List MkS} {x : MkS} {n : Nat} (hn : n ≤ l.length) (h1 : ∀ (q : Nat) y, q < n → l[q]? = some y → LtK y x) (h2 : ∀ (q : Nat) y, n ≤ q → l[q]? = some y → ¬ LtK y x) : posK l x = n := by
  by_cases hnl : n < l.length
  · obtain ⟨y, hy⟩ := get_of hnl
    exact idxN_of hy (decide_eq_true (h2 n y (Nat.le_refl _) hy)) fun j z hj hz => decide_eq_false (fun h => h (h1 j z hj hz))
  · have hne : n = l.length := by omega
    rw [hne]
    exact idxN_none fun y hy => by
      obtain ⟨j, hj⟩ := List.getElem?_of_mem hy
      exact decide_eq_false (fun h => h (h1 j y (by have := (List.getElem?_eq_some_iff.1 hj).1; omega) hj))
noncomputable def fndK (l : List MkS) (x : MkS) : Bool := decide (∃ y, l[posK l x]? = some y ∧ cmpK y x = 0)
theorem binK_p (l : List MkS) (x : MkS) (hm : MonoK l x) (hl : l.length ≤ 1000000) :
    CallP Tryz.prog 125 [mks l, mA x, .fn 95 []] (.tup [it (posK l x : Nat), bl (fndK l x)]) := by
  refine CallA.of pg ord125 Tryz.func125 rfl Tryz.ntmps125 Tryz.results125 rfl fun h0 G0 O0 => ?_
  repeat' (first | refine Sp.h ?_ | refine Lk.r rfl ?_ | refine Rf.mk rfl ?_ | (refine Im.mk ?_; intro _) | (refine All.mk ?_; intro _) | fail)
  refine CA.loop (fun p : Nat × Nat => ⟨[(0, mks l), (2, .fn 95 []), (4, pm _), (8, it (l.length : Nat)), (9, it p.1), (10, it p.2)], [blkR _ 47 (mkC x)]⟩)
    (fun p => p.1 ≤ p.2 ∧ p.2 ≤ l.length ∧ (∀ (q : Nat) y, q < p.1 → l[q]? = some y → LtK y x) ∧ ∀ (q : Nat) y, p.2 ≤ q → l[q]? = some y → ¬ LtK y x) (fun p => p.2 - p.1) (0, l.length) ⟨by (repeat (first | exact trivial | refine ⟨rfl, ?_⟩)), by (repeat (first | exact Subl.nil | refine Subl.cons (by (repeat (first | exact Take.here | apply Take.there))) ?_))⟩
    ⟨Nat.zero_le _, Nat.le_refl _, fun q y h => absurd h (Nat.not_lt_zero q), fun q y h h' => by have := (List.getElem?_eq_some_iff.1 h').1; simp only at h; omega⟩ ?_
  rintro ⟨i, j⟩ ⟨h1, h2, h3, h4⟩
  simp only at h1 h2 h3 h4
  simp only
  by_cases hij : i < j
  · obtain ⟨y, hy⟩ := get_of (l := l) (i := (i + j) / 2) (by omega)
    have hcm := cmpK_neg (a := y) (b := x)
    have e1 : ((i : Int) + (j : Int)) / 2 = (((i + j) / 2 : Nat) : Int) := by omega
    repeat' (first | refine Sp.h ?_ | refine Lk.r rfl ?_ | refine Rf.mk rfl ?_ | (apply Bd.t; (focus (first | assumption | omega | rfl))) | (refine Bd.mk ?_ ?_ <;> intro _) | refine OpK.r rfl ?_ | (apply TkB.r; (focus (repeat (first | exact Take.here | apply Take.there)))) | (apply Ix.q; (focus exact rfl); (focus assumption)) | refine Ch.l ⟨rfl, rfl⟩ ?_ | (apply CA.draw; (focus rfl); (focus kernel_rfl); (focus kernel_rfl); (focus repeat' (first | apply ON.one | exact ON.done | exact ON.none | apply ON.alt)); (focus rfl)) | (apply Ov.n; (focus first | omega | (simp <;> omega))) | (apply Cvk.i64; (focus rfl); (focus omega)) | (apply Cvk.u64; (focus rfl); (focus omega)) | fail | (apply Cl.p (compareK_p _ _); (focus repeat' (first | exact Lend.nil | apply Lend.keep | fail))))
    · rename_i hlt
      have hyx := hcm.1 hlt
      exact PA.lp ((i + j) / 2 + 1, j) ⟨by (repeat (first | exact trivial | refine ⟨rfl, ?_⟩)), by (repeat (first | exact Subl.nil | refine Subl.cons (by (repeat (first | exact Take.here | apply Take.there))) ?_))⟩ ⟨⟨by simp only; omega, h2, fun q z hq hz => hm q ((i + j) / 2) z y (by simp only at hq; omega) hz hy hyx, h4⟩, by simp only; omega⟩
    · rename_i hlt
      have hyx : ¬ LtK y x := fun h => hlt (hcm.2 h)
      exact PA.lp (i, (i + j) / 2) ⟨by (repeat (first | exact trivial | refine ⟨rfl, ?_⟩)), by (repeat (first | exact Subl.nil | refine Subl.cons (by (repeat (first | exact Take.here | apply Take.there))) ?_))⟩ ⟨⟨by simp only; omega, by simp only; omega, h3, fun q z hq hz h => hyx (hm ((i + j) / 2) q y z (by simp only at hq; omega) hy hz h)⟩, by simp only; omega⟩
  · have hije : i = j := by omega
    subst hije
    have hpos := posK_of h2 h3 h4
    by_cases hin : i < l.length
    · obtain ⟨y, hy⟩ := get_of hin
      repeat' (first | refine Sp.h ?_ | refine Lk.r rfl ?_ | refine Rf.mk rfl ?_ | (apply Bd.t; (focus (first | assumption | omega | rfl))) | (apply Bd.f; (focus (first | assumption | omega | exact Bool.false_ne_true))) | refine OpK.r rfl ?_ | (apply TkB.r; (focus (repeat (first | exact Take.here | apply Take.there)))) | (apply Ix.q; (focus exact rfl); (focus assumption)) | refine Ch.l ⟨rfl, rfl⟩ ?_ | (apply Nm.r; (focus repeat (first | apply LN.cons | exact LN.nil))) | (apply CA.draw; (focus rfl); (focus kernel_rfl); (focus kernel_rfl); (focus repeat' (first | apply ON.one | exact ON.done | exact ON.none | apply ON.alt)); (focus rfl)) | fail | (apply Cl.p (compareK_p _ _); (focus repeat' (first | exact Lend.nil | apply Lend.keep | fail))))
      refine Fin.p rfl ?_
      rw [hpos]
      have : fndK l x = decide (cmpK y x = 0) := decide_eq_decide.2 (by rw [hpos, hy]; simp)
      rw [this]
    · repeat' (first | refine Sp.h ?_ | refine Lk.r rfl ?_ | refine Rf.mk rfl ?_ | (apply Bd.f; (focus (first | assumption | omega | exact Bool.false_ne_true))) | refine OpK.r rfl ?_ | (apply Nm.r; (focus repeat (first | apply LN.cons | exact LN.nil))) | (apply CA.draw; (focus rfl); (focus kernel_rfl); (focus kernel_rfl); (focus repeat' (first | apply ON.one | exact ON.done | exact ON.none | apply ON.alt)); (focus rfl)) | fail | (apply Cl.p (compareK_p _ _); (focus repeat' (first | fail))))
      refine Fin.p rfl ?_
      rw [hpos]
      have : fndK l x = false := decide_eq_false (by rw [hpos]; rintro ⟨y, hy, _⟩; have := (List.getElem?_eq_some_iff.1 hy).1; omega)
      rw [this]
end Go.Proofs.YtpgpdmmobblffaaGreat
namespace Go.Proofs.YtpgpdmmobblffaaGreat
open Go Go.CF
set_option maxRecDepth 20000
theorem insertV_b {β : Type} (w u : Value) (L : List (List Value)) (r : List Value) (r' : β) (g : β → List AV) (hr : g r' = valR r) (i : Nat) (hi : i ≤ L.length) (hl : L.length ≤ 1000000) :
    CallA Tryz.prog 126 [.ow w, it i, .ow u] [arrR w 47 4 L valR, arrR u 47 4 [r'] g] fun q own => ∃ w', q = .ow w' ∧ own = [arrR w' 47 4 (L.take i ++ r :: L.drop i) valR] := by
  refine ⟨fun h G Os vs h1 h2 => ?_⟩
  match Os, h2.own with
  | [O1, O2], ⟨k1, ⟨ho, rows, hw, hrr⟩, _⟩ =>
    exact (insertV_a w u L r i hi hl).run h G [O1, O2] vs h1 ⟨⟨k1, ⟨ho, rows, hw, hrr.map (by simp [hr])⟩, trivial⟩, h2.g, h2.g0, h2.o, h2.d, h2.fp⟩
/-- An update of a cell that is under way. -/
def chC (kp : AV) (e : EvS) (m : MkS) : List AV := [kp, iv e.rep, iv e.num, iv e.time, ints e.past, iv e.kind, iv e.action, iv e.gk, iv e.gi, iv e.ge, iv e.ga, iv e.to, iv e.place, iv e.serial, it m.rep, it m.num, it m.time, it m.val]
noncomputable instance (x y : MkS) : Decidable (Nm x y) := Classical.propDecidable _
theorem add1_p (kp : AV) (e : EvS) (m x : MkS) : CallP Tryz.prog 124 [mA x, .ad (chC kp e m) 0] (bl (decide (Nm x m))) := by
  refine CallA.of pg ord124 Tryz.func124 rfl Tryz.ntmps124 Tryz.results124 rfl fun h0 G0 O0 => ?_
  repeat' (first | refine Sp.h ?_ | refine Lk.r rfl ?_ | refine Rf.mk rfl ?_ | refine OpK.r rfl ?_ | (refine All.mk ?_; intro _) | (apply TkB.r; (focus (repeat (first | exact Take.here | apply Take.there)))) | refine Ch.l ⟨rfl, rfl⟩ ?_ | refine Ch.r ?_ | (apply Nm.r; (focus repeat (first | apply LN.cons | exact LN.nil))) | (apply Il.r; (focus repeat (first | apply ILit.cons | exact ILit.nil))) | (apply Kf.mk; (focus kernel_rfl)) | (apply CA.draw; (focus rfl); (focus kernel_rfl); (focus kernel_rfl); (focus repeat' (first | apply ON.one | exact ON.done | exact ON.none | apply ON.alt)); (focus rfl)) | fail | (apply Cl.p (dot_p _); (focus repeat' (first | exact Lend.nil | apply Lend.keep | fail))))
  refine Fin.p rfl (vb (decide_eq_decide.2 ?_))
  unfold Nm
  simp
noncomputable def insK (l : List MkS) (x : MkS) : List MkS := l.take (posK l x) ++ x :: l.drop (posK l x)
noncomputable def addF (l : List MkS) (x : MkS) : Int × List MkS := if HasNm l x then (6, l) else if 1024 ≤ l.length then (8, l) else (0, insK l x)
theorem posK_le (l : List MkS) (x : MkS) : posK l x ≤ l.length := idxN_le _ l
theorem insK_map (l : List MkS) (x : MkS) : (insK l x).map mkV = (l.map mkV).take (posK l x) ++ mkV x :: (l.map mkV).drop (posK l x) := by
  simp [insK, List.map_take, List.map_drop]
theorem has_idx (l : List MkS) (m : MkS) : idxN (fun x => decide (Nm x m)) l < l.length ↔ HasNm l m := idxN_lt.trans (by simp [HasNm])
set_option maxHeartbeats 2000000 in
theorem add_a (v : Value) (i : Nat) (e : EvS) (m : MkS) (L : List MgE) (x : MgE) (hx : L[i]? = some x) (hm : MonoK x.marks m) (hl : x.marks.length ≤ 1024) :
    CallA Tryz.prog 84 [.agg (chC (.oe v 3 i 0) e m)] [arrR v 44 3 L mgeC, mgeR x] fun r own => ∃ w', r = it (addF x.marks m).1 ∧ own = [arrR v 44 3 (L.set i ⟨x.put, x.drop, w', (addF x.marks m).2⟩) mgeC, arrR w' 47 4 (addF x.marks m).2 mkC] := by
  have hcon := containsK_p (add1_p (.oe v 3 i 0) e m) rfl x.marks
  have hbin := binK_p x.marks m hm (by omega)
  have hsame : L.set i ⟨x.put, x.drop, x.w, x.marks⟩ = L := by
    have := (List.getElem?_eq_some_iff.1 hx)
    apply List.ext_getElem?
    intro j
    rw [List.getElem?_set]
    split
    · rename_i hj; subst hj; rw [if_pos this.1, hx]
    · rfl
  refine CallA.of pg ord84 Tryz.func84 rfl Tryz.ntmps84 Tryz.results84 rfl fun h0 G0 O0 => ?_
  repeat' (first | refine Sp.h ?_ | refine Lk.r rfl ?_ | refine Rf.mk rfl ?_ | (refine All.mk ?_; intro _) | (apply TkA.r; (focus (repeat (first | exact Take.here | apply Take.there)))) | (apply TkB.r; (focus (repeat (first | exact Take.here | apply Take.there)))) | (apply At.r; (focus assumption)) | fail)
  (apply Cl.lend (hcon); (focus repeat' (first | exact Lend.nil | apply Lend.keep | (apply Lend.lend; (focus (repeat (first | exact Take.here | apply Take.there))); (focus first | omega | (simp; omega))) | (apply Lend.cell; (focus (repeat (first | exact Take.here | apply Take.there)))) | refine Lend.fn ?_ ?_ | fail)))
  have hid := has_idx x.marks m
  by_cases hhas : HasNm x.marks m
  · have h6 : addF x.marks m = (6, x.marks) := if_pos hhas
    have hlt := hid.2 hhas
    rw [h6]
    repeat' (first | refine Sp.h ?_ | refine Lk.r rfl ?_ | refine Rf.mk rfl ?_ | (apply Bd.t; (focus (first | assumption | omega | rfl))) | (apply Nm.r; (focus repeat (first | apply LN.cons | exact LN.nil))) | fail)
    exact ⟨_, _, .one (.same (.nil (by (repeat (first | exact Subl.nil | refine Subl.cons (by (repeat (first | exact Take.here | apply Take.there))) ?_))))), x.w, rfl, congrArg (fun z => [arrR v 44 3 z mgeC, mgeR x]) hsame.symm⟩
  · have hlt : ¬ idxN (fun x => decide (Nm x m)) x.marks < x.marks.length := fun h => hhas (hid.1 h)
    by_cases hbig : 1024 ≤ x.marks.length
    · have h8 : addF x.marks m = (8, x.marks) := by rw [addF, if_neg hhas, if_pos hbig]
      rw [h8]
      repeat' (first | refine Sp.h ?_ | refine Lk.r rfl ?_ | refine Rf.mk rfl ?_ | (apply Bd.t; (focus (first | assumption | omega | rfl))) | (apply Bd.f; (focus (first | assumption | omega | exact Bool.false_ne_true))) | (apply TkA.r; (focus (repeat (first | exact Take.here | apply Take.there)))) | (apply TkB.r; (focus (repeat (first | exact Take.here | apply Take.there)))) | (apply At.r; (focus assumption)) | (apply Nm.r; (focus repeat (first | apply LN.cons | exact LN.nil))) | fail)
      exact ⟨_, _, .one (.same (.nil (by (repeat (first | exact Subl.nil | refine Subl.cons (by (repeat (first | exact Take.here | apply Take.there))) ?_))))), x.w, rfl, congrArg (fun z => [arrR v 44 3 z mgeC, mgeR x]) hsame.symm⟩
    · have h0 : addF x.marks m = (0, insK x.marks m) := by rw [addF, if_neg hhas, if_neg hbig]
      rw [h0]
      repeat' (first | refine Sp.h ?_ | refine Lk.r rfl ?_ | refine Rf.mk rfl ?_ | (apply Bd.f; (focus (first | assumption | omega | exact Bool.false_ne_true))) | refine OpK.r rfl ?_ | (apply TkA.r; (focus (repeat (first | exact Take.here | apply Take.there)))) | (apply TkB.r; (focus (repeat (first | exact Take.here | apply Take.there)))) | (apply At.r; (focus assumption)) | refine Ch.r ?_ | (apply CA.draw; (focus rfl); (focus kernel_rfl); (focus kernel_rfl); (focus repeat' (first | apply ON.one | exact ON.done | exact ON.none | apply ON.alt)); (focus rfl)) | fail)
      (apply Cl.lend (hbin); (focus repeat' (first | exact Lend.nil | apply Lend.keep | (apply Lend.lend; (focus (repeat (first | exact Take.here | apply Take.there))); (focus first | omega | (simp; omega))) | fail)))
      (repeat' (first | (show CA _ _ (Code.region 6 _ _) _ _; apply Stopped.out) | refine Sp.h ?_ | refine Lk.r rfl ?_ | refine OpK.r rfl ?_ | fail)); any_goals apply Stopped.mk
      apply CA.retype (v := x.w) (m := x.marks.map mkV) (g := valR)
      focus (repeat (first | exact Take.here | apply Take.there))
      focus exact mkV_map x.marks
      repeat' (first | refine Sp.h ?_ | refine Lk.r rfl ?_ | refine Rf.mk rfl ?_ | refine OpK.r rfl ?_ | (refine All.mk ?_; intro _) | (apply TkA.r; (focus (repeat (first | exact Take.here | apply Take.there)))) | (apply TkB.r; (focus (repeat (first | exact Take.here | apply Take.there)))) | (apply At.r; (focus assumption)) | refine Ch.r ?_ | (apply Fk.r; (focus (repeat (first | exact FillA.nil | (apply FillA.agg; (focus rfl); (focus rfl); (focus (repeat (first | exact SetAs.z | (apply SetAs.c; (focus (repeat (first | assumption | exact SetA.z | apply SetA.s)))))))) | (apply FillA.one; (focus rfl); (focus infer_instance); (focus (repeat (first | assumption | exact SetA.z | apply SetA.s)))))))) | refine Rf.mk ⟨rfl, rfl, rfl⟩ ?_ | (apply CA.draw; (focus rfl); (focus kernel_rfl); (focus kernel_rfl); (focus repeat' (first | apply ON.one | exact ON.done | exact ON.none | apply ON.alt)); (focus rfl)) | exact trivial | apply RA'.both | fail)
      all_goals
        rename_i u
        have hins := insertV_b x.w u (x.marks.map mkV) (mkV m) (mkC m) id rfl (posK x.marks m) (by rw [List.length_map]; exact posK_le _ _) (by rw [List.length_map]; omega)
        rw [← insK_map] at hins
        (apply Cl.use (hins); (focus repeat' (first | exact Lend.nil | apply Lend.keep | fail)); (focus (repeat (first | exact Takes.nil | (apply Takes.cons; (focus (repeat (first | exact Take.here | apply Take.there))))))); (focus rfl))
        rintro _ _ ⟨w', rfl, rfl⟩
        have inv : Inv mgeC [bl x.put, bl x.drop, .ow w'] ⟨x.put, x.drop, w', insK x.marks m⟩ := ⟨rfl⟩
        (repeat' (first | (show CA _ _ (Code.region 7 _ _) _ _; apply Stopped.out) | refine Sp.h ?_ | refine Lk.r rfl ?_ | refine Rf.mk rfl ?_ | refine OpK.r rfl ?_ | (apply TkA.r; (focus (repeat (first | exact Take.here | apply Take.there)))) | (apply TkB.r; (focus (repeat (first | exact Take.here | apply Take.there)))) | (apply At.r; (focus assumption)) | (apply SetAk.r; (focus (repeat (first | assumption | exact SetA.z | apply SetA.s)))) | (apply Up.inv; (focus repeat (first | apply LN.cons | exact LN.nil)); (focus infer_instance)) | fail)); any_goals apply Stopped.mk
        apply CA.retype (v := w') (m := insK x.marks m) (g := mkC)
        focus (repeat (first | exact Take.here | apply Take.there))
        focus exact (mkV_map _).symm
        repeat' (first | refine Sp.h ?_ | refine Lk.r rfl ?_ | refine Rf.mk rfl ?_ | (apply Nm.r; (focus repeat (first | apply LN.cons | exact LN.nil))) | fail)
        exact ⟨_, _, .one (.same (.nil (by (repeat (first | exact Subl.nil | refine Subl.cons (by (repeat (first | exact Take.here | apply Take.there))) ?_))))), w', rfl, rfl⟩
end Go.Proofs.YtpgpdmmobblffaaGreat
namespace Go.Proofs.YtpgpdmmobblffaaGreat
open Go Go.CF
set_option maxRecDepth 20000
/-- What stands behind an update of a cell. -/
abbrev ChO (v : Value) (i : Nat) (L : List MgE) (p d : Bool) (l : List MkS) (own : List Res) : Prop := ∃ w', own = [arrR v 44 3 (L.set i ⟨p, d, w', l⟩) mgeC, arrR w' 47 4 l mkC]
noncomputable def fgK (past : List Int) (l : List MkS) : List MkS := l.filter fun x => !decide (HasC past x.rep x.num)
theorem forget1_p (kp : AV) (e : EvS) (m x : MkS) : CallP Tryz.prog 147 [mA x, .ad (chC kp e m) 0] (bl (decide (HasC e.past x.rep x.num))) := by
  refine CallA.of pg ord147 Tryz.func147 rfl Tryz.ntmps147 Tryz.results147 rfl fun h0 G0 O0 => ?_
  repeat' (first | refine Sp.h ?_ | refine Lk.r rfl ?_ | refine Rf.mk rfl ?_ | refine OpK.r rfl ?_ | (refine All.mk ?_; intro _) | (apply TkB.r; (focus (repeat (first | exact Take.here | apply Take.there)))) | refine Ch.l ⟨rfl, rfl⟩ ?_ | (apply Nm.r; (focus repeat (first | apply LN.cons | exact LN.nil))) | (apply CA.draw; (focus rfl); (focus kernel_rfl); (focus kernel_rfl); (focus repeat' (first | apply ON.one | exact ON.done | exact ON.none | apply ON.alt)); (focus rfl)) | fail | (apply Cl.p (dot_p _); (focus repeat' (first | exact Lend.nil | apply Lend.keep | fail))) | (apply Cl.p (hasC_p _ _ _); (focus repeat' (first | exact Lend.nil | apply Lend.keep | fail))))
  exact Fin.p rfl rfl
theorem forget_a (v : Value) (i : Nat) (e : EvS) (m : MkS) (L : List MgE) (x : MgE) (hx : L[i]? = some x) (hl : x.marks.length ≤ 1024) :
    CallA Tryz.prog 127 [.agg (chC (.oe v 3 i 0) e m)] [arrR v 44 3 L mgeC, mgeR x] fun _ own => ChO v i L x.put x.drop (fgK e.past x.marks) own := by
  have hdel := deleteK_a (forget1_p (.oe v 3 i 0) e m) rfl x.w x.marks (by omega)
  refine CallA.of pg ord127 Tryz.func127 rfl Tryz.ntmps127 Tryz.results127 rfl fun h0 G0 O0 => ?_
  (repeat' (first | (show CA _ _ (Code.region 1 _ _) _ _; apply Stopped.out) | refine Sp.h ?_ | refine Lk.r rfl ?_ | refine Rf.mk rfl ?_ | (refine All.mk ?_; intro _) | fail)); any_goals apply Stopped.mk
  apply CA.freezeB 1
  focus rfl
  focus (repeat (first | exact Take.here | apply Take.there))
  repeat' (first | refine Sp.h ?_ | refine Lk.r rfl ?_ | refine Rf.mk rfl ?_ | refine OpK.r rfl ?_ | (apply TkA.r; (focus (repeat (first | exact Take.here | apply Take.there)))) | (apply At.r; (focus assumption)) | (apply CA.draw; (focus rfl); (focus kernel_rfl); (focus kernel_rfl); (focus repeat' (first | apply ON.one | exact ON.done | exact ON.none | apply ON.alt)); (focus rfl)) | exact trivial | apply RA'.both | fail)
  all_goals
    (apply Cl.use (hdel); (focus repeat' (first | exact Lend.nil | apply Lend.keep | fail)); (focus (repeat (first | exact Takes.nil | (apply Takes.cons; (focus (repeat (first | exact Take.here | apply Take.there))))))); (focus rfl))
    rintro _ _ ⟨w', rfl, rfl⟩
    have inv : Inv mgeC [bl x.put, bl x.drop, .ow w'] ⟨x.put, x.drop, w', fgK e.past x.marks⟩ := ⟨rfl⟩
    repeat' (first | refine Sp.h ?_ | refine Lk.r rfl ?_ | refine Rf.mk rfl ?_ | refine OpK.r rfl ?_ | (apply TkA.r; (focus (repeat (first | exact Take.here | apply Take.there)))) | (apply At.r; (focus assumption)) | (apply SetAk.r; (focus (repeat (first | assumption | exact SetA.z | apply SetA.s)))) | (apply Nm.r; (focus repeat (first | apply LN.cons | exact LN.nil))) | (apply Up.inv; (focus repeat (first | apply LN.cons | exact LN.nil)); (focus infer_instance)) | fail)
    exact ⟨_, _, .tup (.nil (by (repeat (first | exact Subl.nil | refine Subl.cons (by (repeat (first | exact Take.here | apply Take.there))) ?_)))), w', rfl⟩
theorem drop_a (v : Value) (i : Nat) (e : EvS) (m : MkS) (L : List MgE) (x : MgE) (hx : L[i]? = some x) (hl : x.marks.length ≤ 1024) :
    CallA Tryz.prog 85 [.agg (chC (.oe v 3 i 0) e m)] [arrR v 44 3 L mgeC, mgeR x] fun q own => q = it 0 ∧ ChO v i L false x.drop (fgK e.past x.marks) own := by
  have hi := (List.getElem?_eq_some_iff.1 hx).1
  have inv : Inv mgeC [bl false, bl x.drop, .ow x.w] ⟨false, x.drop, x.w, x.marks⟩ := ⟨rfl⟩
  have hf := forget_a v i e m (L.set i ⟨false, x.drop, x.w, x.marks⟩) ⟨false, x.drop, x.w, x.marks⟩ (by rw [List.getElem?_set, if_pos rfl, if_pos hi]) hl
  refine CallA.of pg ord85 Tryz.func85 rfl Tryz.ntmps85 Tryz.results85 rfl fun h0 G0 O0 => ?_
  repeat' (first | refine Sp.h ?_ | refine Lk.r rfl ?_ | refine Rf.mk rfl ?_ | (refine All.mk ?_; intro _) | (apply TkA.r; (focus (repeat (first | exact Take.here | apply Take.there)))) | (apply TkB.r; (focus (repeat (first | exact Take.here | apply Take.there)))) | (apply At.r; (focus assumption)) | refine Ch.l ⟨rfl, rfl⟩ ?_ | (apply SetAk.r; (focus (repeat (first | assumption | exact SetA.z | apply SetA.s)))) | (apply Up.inv; (focus repeat (first | apply LN.cons | exact LN.nil)); (focus infer_instance)) | fail)
  (apply Cl.use (hf); (focus repeat' (first | exact Lend.nil | apply Lend.keep | fail)); (focus (repeat (first | exact Takes.nil | (apply Takes.cons; (focus (repeat (first | exact Take.here | apply Take.there))))))); (focus rfl))
  rintro _ _ ⟨w', rfl⟩
  rw [List.set_set]
  repeat' (first | refine Sp.h ?_ | refine Lk.r rfl ?_ | refine Rf.mk rfl ?_ | (apply Nm.r; (focus repeat (first | apply LN.cons | exact LN.nil))) | fail)
  exact ⟨_, _, .one (.same (.nil (by (repeat (first | exact Subl.nil | refine Subl.cons (by (repeat (first | exact Take.here | apply Take.there))) ?_))))), rfl, w', rfl⟩
theorem put_a (v : Value) (i : Nat) (e : EvS) (m : MkS) (L : List MgE) (x : MgE) (hx : L[i]? = some x) (hl : x.marks.length ≤ 1024) :
    CallA Tryz.prog 86 [.agg (chC (.oe v 3 i 0) e m)] [arrR v 44 3 L mgeC, mgeR x] fun q own => q = it 0 ∧ ChO v i L true false (fgK e.past x.marks) own := by
  have hi := (List.getElem?_eq_some_iff.1 hx).1
  have inv : Inv mgeC [bl true, bl x.drop, .ow x.w] ⟨true, x.drop, x.w, x.marks⟩ := ⟨rfl⟩
  have inv2 : Inv mgeC [bl true, bl false, .ow x.w] ⟨true, false, x.w, x.marks⟩ := ⟨rfl⟩
  have inv3 : Inv mgeC [bl x.put, bl false, .ow x.w] ⟨x.put, false, x.w, x.marks⟩ := ⟨rfl⟩
  have hf := forget_a v i e m (L.set i ⟨true, false, x.w, x.marks⟩) ⟨true, false, x.w, x.marks⟩ (by rw [List.getElem?_set, if_pos rfl, if_pos hi]) hl
  have hx1 : ∀ y : MgE, (L.set i y)[i]? = some y := fun y => by rw [List.getElem?_set, if_pos rfl, if_pos hi]
  have h1 := hx1 ⟨true, x.drop, x.w, x.marks⟩
  have h3 := hx1 ⟨x.put, false, x.w, x.marks⟩
  refine CallA.of pg ord86 Tryz.func86 rfl Tryz.ntmps86 Tryz.results86 rfl fun h0 G0 O0 => ?_
  repeat' (first | refine Sp.h ?_ | refine Lk.r rfl ?_ | refine Rf.mk rfl ?_ | refine OpK.r rfl ?_ | (refine All.mk ?_; intro _) | (apply TkA.r; (focus (repeat (first | exact Take.here | apply Take.there)))) | (apply TkB.r; (focus (repeat (first | exact Take.here | apply Take.there)))) | (apply At.r; (focus assumption)) | refine Ch.l ⟨rfl, rfl⟩ ?_ | (apply SetAk.r; (focus (repeat (first | assumption | exact SetA.z | apply SetA.s)))) | (apply Up.inv; (focus repeat (first | apply LN.cons | exact LN.nil)); (focus infer_instance)) | (apply CA.draw; (focus rfl); (focus kernel_rfl); (focus kernel_rfl); (focus repeat' (first | apply ON.one | exact ON.done | exact ON.none | apply ON.alt)); (focus rfl)) | exact trivial | apply RA'.both | fail)
  all_goals rw [List.set_set]
  all_goals
    (apply Cl.use (hf); (focus repeat' (first | exact Lend.nil | apply Lend.keep | fail)); (focus (repeat (first | exact Takes.nil | (apply Takes.cons; (focus (repeat (first | exact Take.here | apply Take.there))))))); (focus rfl))
    rintro _ _ ⟨w', rfl⟩
    rw [List.set_set]
    repeat' (first | refine Sp.h ?_ | refine Lk.r rfl ?_ | refine Rf.mk rfl ?_ | (apply Nm.r; (focus repeat (first | apply LN.cons | exact LN.nil))) | fail)
    exact ⟨_, _, .one (.same (.nil (by (repeat (first | exact Subl.nil | refine Subl.cons (by (repeat (first | exact Take.here | apply Take.there))) ?_))))), rfl, w', rfl⟩
theorem multi_a (v : Value) (i : Nat) (e : EvS) (m : MkS) (L : List MgE) (x : MgE) (hx : L[i]? = some x) (hl : x.marks.length ≤ 1024) (hm : MonoK (fgK e.past x.marks) m) :
    CallA Tryz.prog 88 [.agg (chC (.oe v 3 i 0) e m)] [arrR v 44 3 L mgeC, mgeR x] fun q own => q = it (addF (fgK e.past x.marks) m).1 ∧ ChO v i L x.put x.drop (addF (fgK e.past x.marks) m).2 own := by
  have hi := (List.getElem?_eq_some_iff.1 hx).1
  have hf := forget_a v i e m L x hx hl
  have hle : (fgK e.past x.marks).length ≤ 1024 := Nat.le_trans (List.length_filter_le _ _) hl
  refine CallA.of pg ord88 Tryz.func88 rfl Tryz.ntmps88 Tryz.results88 rfl fun h0 G0 O0 => ?_
  repeat' (first | refine Sp.h ?_ | refine Lk.r rfl ?_ | refine Rf.mk rfl ?_ | (refine All.mk ?_; intro _) | (apply TkB.r; (focus (repeat (first | exact Take.here | apply Take.there)))) | refine Ch.l ⟨rfl, rfl⟩ ?_ | fail)
  (apply Cl.use (hf); (focus repeat' (first | exact Lend.nil | apply Lend.keep | fail)); (focus (repeat (first | exact Takes.nil | (apply Takes.cons; (focus (repeat (first | exact Take.here | apply Take.there))))))); (focus rfl))
  rintro _ _ ⟨w', rfl⟩
  have ha := add_a v i e m (L.set i ⟨x.put, x.drop, w', fgK e.past x.marks⟩) ⟨x.put, x.drop, w', fgK e.past x.marks⟩ (by rw [List.getElem?_set, if_pos rfl, if_pos hi]) hm hle
  repeat' (first | refine Sp.h ?_ | refine Lk.r rfl ?_ | refine Rf.mk rfl ?_ | (apply TkB.r; (focus (repeat (first | exact Take.here | apply Take.there)))) | refine Ch.l ⟨rfl, rfl⟩ ?_ | fail)
  (apply Cl.use (ha); (focus repeat' (first | exact Lend.nil | apply Lend.keep | fail)); (focus (repeat (first | exact Takes.nil | (apply Takes.cons; (focus (repeat (first | exact Take.here | apply Take.there))))))); (focus rfl))
  rintro _ _ ⟨w2, rfl, rfl⟩
  rw [List.set_set]
  repeat' (first | refine Sp.h ?_ | refine Lk.r rfl ?_ | (apply Nm.r; (focus repeat (first | apply LN.cons | exact LN.nil))) | fail)
  exact ⟨_, _, .one (.same (.nil (by (repeat (first | exact Subl.nil | refine Subl.cons (by (repeat (first | exact Take.here | apply Take.there))) ?_))))), rfl, w2, rfl⟩
end Go.Proofs.YtpgpdmmobblffaaGreat
namespace Go.CF
open Go
theorem ON.refl : ∀ a : Ord, ON a a
  | .done => .done
  | .none => .none
  | .one _ r => .one (ON.refl r)
  | .alt _ r m => .alt (ON.refl r) (ON.refl m)
def altsT (f : Nat → Ord) : List Nat → Ord
  | [] => .none
  | i :: l => .alt i (f i) (altsT f l)
/-- All orders of some operations, then the rest. -/
def fillT (rest : Ord) : Nat → List Nat → Ord
  | 0, _ => rest
  | 1, [i] => .one i rest
  | n + 1, ps => altsT (fun i => fillT rest n (ps.erase i)) ps
section
variable {ops : Array Oper} {cl : Nat → Cls}
/-- What is listed, when some of the operations are left. -/
def arrL (l0 : Array Bool) (ps0 ps : List Nat) : Array Bool := ((List.range l0.size).map fun j => l0.getD j false || (ps0.contains j && !ps.contains j)).toArray
def subsL : List Nat → List (List Nat)
  | [] => [[]]
  | a :: l => (subsL l).map (a :: ·) ++ subsL l
theorem subsL_mem {ps ps0 : List Nat} (h : List.Sublist ps ps0) : ps ∈ subsL ps0 := by
  induction h with
  | slnil => simp [subsL]
  | cons a _ ih => simp [subsL, ih]
  | cons_cons a _ ih => simp [subsL, ih]
def chkM (ops : Array Oper) (cl : Nat → Cls) (rest : Ord) (fuel : Nat) (l0 : Array Bool) (ps0 : List Nat) : Bool :=
  ((subsL ps0).all fun ps => ps.isEmpty || Region.ready .any ops (arrL l0 ps0 ps) == ps) && ps0.all (fun i => acts (cl i) && !l0.getD i true) && chk ops cl rest fuel true (arrL l0 ps0 [])
theorem arrL_all {l0 : Array Bool} {ps0 : List Nat} : arrL l0 ps0 ps0 = l0 := by
  apply Array.ext_getElem?
  intro j
  simp only [arrL, List.getElem?_toArray, List.getElem?_map, Bool.and_not_self, Bool.or_false]
  by_cases hj : j < l0.size
  · simp [Array.getD, hj]
  · simp [hj]
theorem arrL_set {l0 : Array Bool} {ps0 ps : List Nat} {i : Nat} (hn : ps.Nodup) (h0 : i ∈ ps0) (_hi : i ∈ ps) : (arrL l0 ps0 ps).setIfInBounds i true = arrL l0 ps0 (ps.erase i) := by
  apply Array.ext_getElem?
  intro j
  rw [Array.getElem?_setIfInBounds]
  simp only [arrL, List.getElem?_toArray, List.getElem?_map, List.size_toArray, List.length_map, List.length_range]
  by_cases hij : i = j
  · subst hij
    by_cases hj : i < l0.size
    · have : (ps.erase i).contains i = false := by simpa using hn.not_mem_erase
      simp [hj, h0, hn.not_mem_erase]
    · simp [hj]
  · rw [if_neg hij]
    have hc : (ps.erase i).contains j = ps.contains j := by
      simp only [List.contains_eq_mem, List.mem_erase_of_ne (Ne.symm hij)]
    by_cases hj : j < l0.size
    · simp only [List.getElem?_range hj, Option.map_some, hc]
    · simp [hj]
def oneOK (ops : Array Oper) (cl : Nat → Cls) (i : Nat) (listed : Array Bool) : Bool := match cl i with
  | .pure => (Region.ready .any ops listed).contains i && Region.free .any ops listed i
  | .read => (Region.ready .any ops listed).contains i && Region.free .any ops listed i && (List.range ops.size).all fun j => listed.getD j true || !isLoud (cl j) || waitsB ops i ops.size j
  | _ => Region.ready .any ops listed == [i]
theorem chk_one_eq {i : Nat} {r : Ord} {fuel : Nat} {listed : Array Bool} : chk ops cl (.one i r) (fuel + 1) true listed = (oneOK ops cl i listed && chk ops cl r fuel true (listed.setIfInBounds i true)) := by
  simp only [chk, oneOK]
  cases cl i <;> simp
theorem altsT_heads {f : Nat → Ord} : ∀ l, (altsT f l).heads = l
  | [] => rfl
  | i :: l => by simp [altsT, Ord.heads, altsT_heads l]
theorem chk_alts {f : Nat → Ord} {fuel : Nat} {listed : Array Bool} : ∀ {l : List Nat}, (∀ i ∈ l, acts (cl i) = true ∧ chk ops cl (f i) fuel true (listed.setIfInBounds i true) = true) → chk ops cl (altsT f l) (fuel + 1) false listed = true
  | [], _ => by simp [altsT, chk]
  | i :: l, h => by
    simp only [altsT, chk, Bool.not_false, Bool.true_or, Bool.true_and, Bool.and_eq_true]
    exact ⟨h i (by simp), chk_alts fun j hj => h j (by simp [hj])⟩
theorem chk_fill {rest : Ord} {fuel : Nat} {l0 : Array Bool} {ps0 : List Nat} (hn : ps0.Nodup) (h : chkM ops cl rest fuel l0 ps0 = true) : chk ops cl (fillT rest ps0.length ps0) (fuel + ps0.length) true l0 = true := by
  simp only [chkM, Bool.and_eq_true, List.all_eq_true, Bool.or_eq_true] at h
  obtain ⟨⟨h1, h2⟩, h3⟩ := h
  have key : ∀ (n : Nat) (ps : List Nat), ps.length = n → List.Sublist ps ps0 → chk ops cl (fillT rest n ps) (fuel + n) true (arrL l0 ps0 ps) = true := by
    intro n
    induction n with
    | zero =>
      intro ps hl _
      have : ps = [] := List.length_eq_zero_iff.1 hl
      subst this
      exact h3
    | succ n ih =>
      intro ps hl hs
      have hnp : ps.Nodup := List.Sublist.nodup hs hn
      have hready : Region.ready .any ops (arrL l0 ps0 ps) = ps := by
        rcases h1 ps (subsL_mem hs) with h9 | h9
        · rw [List.isEmpty_iff] at h9; subst h9; simp at hl
        · exact eq_of_beq h9
      have sub : ∀ i ∈ ps, acts (cl i) = true ∧ chk ops cl (fillT rest n (ps.erase i)) (fuel + n) true ((arrL l0 ps0 ps).setIfInBounds i true) = true := by
        intro i hi
        refine ⟨(h2 i (hs.mem hi)).1, ?_⟩
        rw [arrL_set hnp (hs.mem hi) hi]
        exact ih _ (by rw [List.length_erase_of_mem hi]; omega) ((List.erase_sublist).trans hs)
      have gen : 2 ≤ ps.length → chk ops cl (altsT (fun i => fillT rest n (ps.erase i)) ps) (fuel + n + 1) true (arrL l0 ps0 ps) = true := by
        intro h2l
        match ps, hready, sub with
        | i :: l, hready, sub =>
          simp only [altsT, chk, altsT_heads, hready, beq_self_eq_true, Bool.or_true, Bool.true_and, Bool.and_eq_true]
          exact ⟨sub i (by simp), chk_alts fun j hj => sub j (by simp [hj])⟩
      match n, ps, hl, gen, sub, hready with
      | 0, [i], _, _, sub, hready =>
        obtain ⟨g1, g2⟩ := sub i (by simp)
        have g3 : oneOK ops cl i (arrL l0 ps0 [i]) = true := by
          revert g1
          unfold oneOK
          cases cl i <;> simp [acts, hready]
        show chk ops cl (.one i rest) (fuel + 1) true (arrL l0 ps0 [i]) = true
        rw [chk_one_eq, g3]
        simpa [fillT] using g2
      | n + 1, ps, hl, gen, _, _ => exact gen (by omega)
  have := key _ ps0 rfl (List.Sublist.refl _)
  rwa [arrL_all] at this
theorem chk_one {i : Nat} {r : Ord} {fuel : Nat} {listed : Array Bool} (h1 : oneOK ops cl i listed = true) (h2 : chk ops cl r fuel true (listed.setIfInBounds i true) = true) : chk ops cl (.one i r) (fuel + 1) true listed = true := by
  rw [chk_one_eq, h1, h2]; rfl
end
section
variable {Γ : Cx} {k : List KI} {e : EA} {o : List Res} {ops : Array Oper} {cl : Nat → Cls}
theorem RA'.alts {f : Nat → Ord} : ∀ {ps : List Nat}, (∀ i ∈ ps, RA' Γ k ops cl (.one i (f i)) e o) → RA' Γ k ops cl (altsT f ps) e o
  | [], _ => show RA' Γ k ops cl .none e o from Sp.h (s := True) trivial
  | i :: l, h => show RA' Γ k ops cl (.alt i (f i) (altsT f l)) e o from Sp.h (s := RA' Γ k ops cl (.one i (f i)) e o ∧ RA' Γ k ops cl (altsT f l) e o) ⟨h i (by simp), RA'.alts fun j hj => h j (by simp [hj])⟩
theorem lookL_mem {β : Type} {kvs : List (List Int × β)} (hn : kvs.Pairwise fun a b => a.1 ≠ b.1) {key : List Int} {v : β} (h : (key, v) ∈ kvs) : lookL kvs key = some v := by
  induction kvs with
  | nil => cases h
  | cons a l ih =>
    obtain ⟨h1, h2⟩ := List.pairwise_cons.1 hn
    simp only [lookL, List.find?_cons] at ih ⊢
    rcases List.mem_cons.1 h with rfl | h
    · simp
    · have h3 := h1 _ h
      have h4 : decide (a.1 = key) = false := by simpa using h3
      rw [h4]
      exact ih h2 h
theorem lookL_nil {β : Type} {kvs : List (List Int × β)} {key : List Int} (h : ∀ p ∈ kvs, p.1 ≠ key) : lookL kvs key = none := by
  unfold lookL
  rw [List.find?_eq_none.2 fun p hp => by simpa using h p hp]
  rfl
theorem lookL_perm {β : Type} {a b : List (List Int × β)} (hp : a.Perm b) (hn : b.Pairwise fun x y => x.1 ≠ y.1) (key : List Int) : lookL a key = lookL b key := by
  have hna : a.Pairwise fun x y => x.1 ≠ y.1 := hp.symm.pairwise hn fun h => fun h' => h h'.symm
  by_cases h : ∃ v, (key, v) ∈ b
  · obtain ⟨v, hv⟩ := h
    rw [lookL_mem hn hv, lookL_mem hna (hp.mem_iff.2 hv)]
  · rw [lookL_nil (kvs := b) (key := key) fun p hp' hk => h ⟨p.2, by subst hk; exact hp'⟩, lookL_nil (kvs := a) (key := key) fun p hp' hk => h ⟨p.2, by subst hk; exact hp.mem_iff.1 hp'⟩]
theorem RA'.fill {β : Type} {b : Nat} {kt : TypeId} {f : β → AV} {rest : Ord} (items : Nat → List Int × β) (ps0 : List Nat) (hnd : (ps0.map items).Pairwise fun x y => x.1 ≠ y.1)
    (hs : ∀ i ∈ ps0, ∀ kvs r, RA' Γ k ops cl r e (mapR Γ.P b kt (updL kvs (items i).1 (items i).2) f :: o) → RA' Γ k ops cl (.one i r) e (mapR Γ.P b kt kvs f :: o))
    (h : ∀ kvs, kvs.Perm (ps0.map items) → RA' Γ k ops cl rest e (mapR Γ.P b kt kvs f :: o)) :
    RA' Γ k ops cl (fillT rest ps0.length ps0) e (mapR Γ.P b kt [] f :: o) := by
  have key : ∀ (n : Nat) (ps : List Nat) (kvs : List (List Int × β)), ps.length = n → (kvs ++ ps.map items).Perm (ps0.map items) → (∀ i ∈ ps, i ∈ ps0) → RA' Γ k ops cl (fillT rest n ps) e (mapR Γ.P b kt kvs f :: o) := by
    intro n
    induction n with
    | zero =>
      intro ps kvs hl hp _
      have : ps = [] := List.length_eq_zero_iff.1 hl
      subst this
      exact h kvs (by simpa using hp)
    | succ n ih =>
      intro ps kvs hl hp hm
      have step : ∀ i ∈ ps, ∀ r, RA' Γ k ops cl r e (mapR Γ.P b kt (kvs ++ [items i]) f :: o) → RA' Γ k ops cl (.one i r) e (mapR Γ.P b kt kvs f :: o) := by
        intro i hi r hr
        refine hs i (hm i hi) kvs r ?_
        have hnk : lookL kvs (items i).1 = none := by
          refine lookL_nil fun p hpm hk => ?_
          have hna : (kvs ++ ps.map items).Pairwise fun x y => x.1 ≠ y.1 := hp.symm.pairwise hnd fun h => fun h' => h h'.symm
          exact (List.pairwise_append.1 hna).2.2 p hpm (items i) (List.mem_map_of_mem hi) hk
        rw [updL_none _ _ _ hnk]
        exact hr
      have sub : ∀ i ∈ ps, RA' Γ k ops cl (fillT rest n (ps.erase i)) e (mapR Γ.P b kt (kvs ++ [items i]) f :: o) := by
        intro i hi
        refine ih _ _ (by rw [List.length_erase_of_mem hi]; omega) ?_ fun j hj => hm j (List.mem_of_mem_erase hj)
        refine List.Perm.trans ?_ hp
        rw [List.append_assoc]
        refine List.Perm.append_left kvs ?_
        have := (List.perm_cons_erase hi).map items
        exact this.symm
      have gen : RA' Γ k ops cl (altsT (fun i => fillT rest n (ps.erase i)) ps) e (mapR Γ.P b kt kvs f :: o) := RA'.alts fun i hi => step i hi _ (sub i hi)
      match n, ps, hl, gen, sub, step with
      | 0, [i], _, _, sub, step => exact step i (by simp) _ (sub i (by simp))
      | n + 1, ps, _, gen, _, _ => exact gen
  exact key _ ps0 [] rfl (by simp) fun _ h => h
end
end Go.CF
namespace Go.Proofs.YtpgpdmmobblffaaGreat
open Go Go.CF
set_option maxRecDepth 20000
abbrev fnV (g : FuncId) : AV := .fn g []
def rulesL : List (List Int × FuncId) := [([2, 0], 84), ([2, 1], 85), ([3, 0], 86), ([3, 1], 84), ([4, 2], 87), ([5, 2], 88)]
def rulesI (i : Nat) : List Int × FuncId := (rulesL[i / 2 - 1]?).getD ([], 0)
def rulesT : Ord := .one 1 (.one 3 (.one 5 (.one 7 (.one 9 (.one 11 (.one 0 (fillT (.one 13 (.one 14 .done)) 6 [2, 4, 6, 8, 10, 12])))))))
def rulesO : Nat → Ord × (Nat → Cls) := fun id => bif Nat.beq id 1 then (rulesT, clOf [.ext, .pure, .loud, .pure, .loud, .pure, .loud, .pure, .loud, .pure, .loud, .pure, .loud, .pure, .pure]) else (.done, clOf [])
set_option maxHeartbeats 1000000 in
theorem rules_a : CallA Tryz.prog 43 [] [] fun r own => ∃ b kvs, r = .val (.map (some b)) ∧ own = [mapR Tryz.prog b 108 kvs fnV] ∧ ∀ key, lookL kvs key = lookL rulesL key := by
  refine CallA.of pg rulesO Tryz.func43 rfl Tryz.ntmps43 Tryz.results43 rfl fun h0 G0 O0 => ?_
  (repeat' (first | (show CA _ _ (Code.region 1 _ _) _ _; apply Stopped.out) | refine Sp.h ?_ | refine Lk.r rfl ?_ | refine Rf.mk rfl ?_ | fail)); any_goals apply Stopped.mk
  apply CA.draw (t := rulesT)
  focus rfl
  focus kernel_rfl
  focus
    show chk _ _ rulesT 15 _ _ = true
    refine chk_one (fuel := 14) (by kernel_rfl) (chk_one (fuel := 13) (by kernel_rfl) (chk_one (fuel := 12) (by kernel_rfl) (chk_one (fuel := 11) (by kernel_rfl) (chk_one (fuel := 10) (by kernel_rfl) (chk_one (fuel := 9) (by kernel_rfl) (chk_one (fuel := 8) (by kernel_rfl) ?_))))))
    exact chk_fill (fuel := 2) (ps0 := [2, 4, 6, 8, 10, 12]) (by decide) (by kernel_rfl)
  focus exact ON.refl _
  focus rfl
  unfold rulesT
  repeat' (first | refine Sp.h ?_ | refine Lk.r rfl ?_ | refine Rf.mk rfl ?_ | refine OpK.r rfl ?_ | (apply Fk.r; (focus (repeat (first | exact FillA.nil | (apply FillA.agg; (focus rfl); (focus rfl); (focus (repeat (first | exact SetAs.z | (apply SetAs.c; (focus (repeat (first | assumption | exact SetA.z | apply SetA.s)))))))) | (apply FillA.one; (focus rfl); (focus infer_instance); (focus (repeat (first | assumption | exact SetA.z | apply SetA.s)))))))) | fail)
  refine MkM.r fnV ?_
  repeat' (first | (refine All.mk ?_; intro _) | fail)
  apply RA'.fill rulesI [2, 4, 6, 8, 10, 12]
  · decide
  · intro i hi kvs r h
    simp only [List.mem_cons, List.not_mem_nil, or_false] at hi
    rcases hi with rfl | rfl | rfl | rfl | rfl | rfl
    all_goals repeat' (first | refine Sp.h ?_ | refine Lk.r rfl ?_ | refine Rf.mk rfl ?_ | refine OpK.r rfl ?_ | (apply Il.r; (focus repeat (first | apply ILit.cons | exact ILit.nil))) | (apply Kf.mk; (focus kernel_rfl)) | (apply TkM.r; (focus (repeat (first | exact Take.here | apply Take.there)))) | refine UpV.r rfl ?_ | fail)
    all_goals exact h
  · intro kvs hp
    have hlk : ∀ key, lookL kvs key = lookL rulesL key := fun key => lookL_perm hp (by decide) key
    repeat' (first | refine Sp.h ?_ | refine Lk.r rfl ?_ | refine OpK.r rfl ?_ | (apply Nm.r; (focus repeat (first | apply LN.cons | exact LN.nil))) | fail)
    exact ⟨_, _, .one (.same (.nil (by (repeat (first | exact Subl.nil | refine Subl.cons (by (repeat (first | exact Take.here | apply Take.there))) ?_))))), _, kvs, rfl, rfl, hlk⟩
end Go.Proofs.YtpgpdmmobblffaaGreat
namespace Go.Proofs.YtpgpdmmobblffaaGreat
open Go Go.CF
set_option maxRecDepth 20000
def cmp2 (a b : MkS) : Int := orI [cmpI a.time b.time, cmpI a.rep b.rep]
noncomputable def lastF (l : List MkS) (m : MkS) : Int × List MkS := match l with
  | [] => addF [] m
  | x :: r => (0, if cmp2 x m < 0 then m :: r else x :: r)
set_option maxHeartbeats 2000000 in
theorem last_a (v : Value) (i : Nat) (e : EvS) (m : MkS) (L : List MgE) (x : MgE) (hx : L[i]? = some x) (hl : x.marks.length ≤ 1024) :
    CallA Tryz.prog 87 [.agg (chC (.oe v 3 i 0) e m)] [arrR v 44 3 L mgeC, mgeR x] fun q own => q = it (lastF x.marks m).1 ∧ ChO v i L x.put x.drop (lastF x.marks m).2 own := by
  have hi := (List.getElem?_eq_some_iff.1 hx).1
  have hsame : L.set i ⟨x.put, x.drop, x.w, x.marks⟩ = L := by
    apply List.ext_getElem?
    intro j
    rw [List.getElem?_set]
    split
    · rename_i hj; subst hj; first | rw [if_pos hi, hx] | rw [hx]
    · rfl
  obtain ⟨p, d, w, l⟩ := x
  simp only at hl hsame
  match l, hl, hx, hsame with
  | [], hl, hx, hsame =>
    have ha := add_a v i e m L ⟨p, d, w, []⟩ hx (fun i j a b _ h => by simp at h) hl
    refine CallA.of pg ord87 Tryz.func87 rfl Tryz.ntmps87 Tryz.results87 rfl fun h0 G0 O0 => ?_
    repeat' (first | refine Sp.h ?_ | refine Lk.r rfl ?_ | refine Rf.mk rfl ?_ | (apply Bd.t; (focus (first | assumption | omega | rfl))) | (refine All.mk ?_; intro _) | (apply TkA.r; (focus (repeat (first | exact Take.here | apply Take.there)))) | (apply TkB.r; (focus (repeat (first | exact Take.here | apply Take.there)))) | (apply At.r; (focus assumption)) | refine Ch.l ⟨rfl, rfl⟩ ?_ | fail)
    (apply Cl.use (ha); (focus repeat' (first | exact Lend.nil | apply Lend.keep | fail)); (focus (repeat (first | exact Takes.nil | (apply Takes.cons; (focus (repeat (first | exact Take.here | apply Take.there))))))); (focus rfl))
    rintro _ _ ⟨w2, rfl, rfl⟩
    repeat' (first | refine Sp.h ?_ | refine Lk.r rfl ?_ | (apply Nm.r; (focus repeat (first | apply LN.cons | exact LN.nil))) | fail)
    exact ⟨_, _, .one (.same (.nil (by (repeat (first | exact Subl.nil | refine Subl.cons (by (repeat (first | exact Take.here | apply Take.there))) ?_))))), rfl, w2, rfl⟩
  | y :: r, hl, hx, hsame =>
    have h0 : (y :: r)[0]? = some y := rfl
    have hne : ¬ ((({ put := p, drop := d, w := w, marks := y :: r } : MgE).marks.length : Int) = 0) := by simp only [List.length_cons]; omega
    have ho := orI_p [cmpI y.time m.time, cmpI y.rep m.rep]
    by_cases hc : cmp2 y m < 0
    · have hF : lastF (y :: r) m = (0, m :: r) := by simp [lastF, hc]
      have hc2 : orI [cmpI y.time m.time, cmpI y.rep m.rep] < 0 := hc
      rw [hF]
      refine CallA.of pg ord87 Tryz.func87 rfl Tryz.ntmps87 Tryz.results87 rfl fun h0 G0 O0 => ?_
      repeat' (first | refine Sp.h ?_ | refine Lk.r rfl ?_ | refine Rf.mk rfl ?_ | (apply Bd.f; (focus (first | assumption | omega | exact Bool.false_ne_true))) | refine OpK.r rfl ?_ | (refine All.mk ?_; intro _) | (apply TkA.r; (focus (repeat (first | exact Take.here | apply Take.there)))) | (apply TkB.r; (focus (repeat (first | exact Take.here | apply Take.there)))) | (apply Ix.q; (focus exact rfl); (focus assumption)) | (apply At.r; (focus assumption)) | refine Ch.l ⟨rfl, rfl⟩ ?_ | (apply SetAsk.r; (focus (repeat (first | exact SetAs.z | (apply SetAs.c; (focus (repeat (first | assumption | exact SetA.z | apply SetA.s)))))))) | (apply Fk.r; (focus (repeat (first | exact FillA.nil | (apply FillA.agg; (focus rfl); (focus rfl); (focus (repeat (first | exact SetAs.z | (apply SetAs.c; (focus (repeat (first | assumption | exact SetA.z | apply SetA.s)))))))) | (apply FillA.one; (focus rfl); (focus infer_instance); (focus (repeat (first | assumption | exact SetA.z | apply SetA.s)))))))) | (apply Nm.r; (focus repeat (first | apply LN.cons | exact LN.nil))) | refine Rf.mk ⟨rfl, rfl, rfl⟩ ?_ | (apply CA.draw; (focus rfl); (focus kernel_rfl); (focus kernel_rfl); (focus repeat' (first | apply ON.one | exact ON.done | exact ON.none | apply ON.alt)); (focus rfl)) | fail | (apply Cl.p (compareI_p _ _); (focus repeat' (first | exact Lend.nil | apply Lend.keep | fail))))
      (apply Cl.lend (ho); (focus repeat' (first | exact Lend.nil | (apply Lend.lendm; (focus (repeat (first | exact Take.here | apply Take.there))); (focus rfl); (focus first | omega | decide | (simp; omega) | exact Nat.le_of_ble_eq_true rfl)) | fail)))
      (repeat' (first | (show CA _ _ (Code.region 6 _ _) _ _; apply Stopped.out) | refine Sp.h ?_ | refine Lk.r rfl ?_ | refine Rf.mk rfl ?_ | (apply Bd.t; (focus (first | assumption | omega | rfl))) | refine OpK.r rfl ?_ | (apply TkA.r; (focus (repeat (first | exact Take.here | apply Take.there)))) | (apply TkB.r; (focus (repeat (first | exact Take.here | apply Take.there)))) | (apply Ix.q; (focus exact rfl); (focus assumption)) | (apply At.r; (focus assumption)) | refine Ch.r ?_ | (apply SetAsk.r; (focus (repeat (first | exact SetAs.z | (apply SetAs.c; (focus (repeat (first | assumption | exact SetA.z | apply SetA.s)))))))) | refine Up.r rfl ?_ | (apply CA.draw; (focus rfl); (focus kernel_rfl); (focus kernel_rfl); (focus repeat' (first | apply ON.one | exact ON.done | exact ON.none | apply ON.alt)); (focus rfl)) | fail)); any_goals apply Stopped.mk
      have hmap : (L.set i ⟨p, d, w, m :: r⟩).map mgeC = L.map mgeC := by
        rw [List.map_set]
        show (L.map mgeC).set i (mgeC ⟨p, d, w, y :: r⟩) = L.map mgeC
        rw [← List.map_set, hsame]
      apply CA.retype (v := v) (m := L.set i ⟨p, d, w, m :: r⟩) (g := mgeC)
      focus (repeat (first | exact Take.here | apply Take.there))
      focus exact hmap
      repeat' (first | refine Sp.h ?_ | refine Lk.r rfl ?_ | refine Rf.mk rfl ?_ | (apply Nm.r; (focus repeat (first | apply LN.cons | exact LN.nil))) | fail)
      exact ⟨_, _, .one (.same (.nil (by (repeat (first | exact Subl.nil | refine Subl.cons (by (repeat (first | exact Take.here | apply Take.there))) ?_))))), rfl, w, rfl⟩
    · have hF : lastF (y :: r) m = (0, y :: r) := by simp [lastF, hc]
      have hc2 : ¬ orI [cmpI y.time m.time, cmpI y.rep m.rep] < 0 := hc
      rw [hF]
      refine CallA.of pg ord87 Tryz.func87 rfl Tryz.ntmps87 Tryz.results87 rfl fun h0 G0 O0 => ?_
      repeat' (first | refine Sp.h ?_ | refine Lk.r rfl ?_ | refine Rf.mk rfl ?_ | (apply Bd.f; (focus (first | assumption | omega | exact Bool.false_ne_true))) | refine OpK.r rfl ?_ | (refine All.mk ?_; intro _) | (apply TkA.r; (focus (repeat (first | exact Take.here | apply Take.there)))) | (apply TkB.r; (focus (repeat (first | exact Take.here | apply Take.there)))) | (apply Ix.q; (focus exact rfl); (focus assumption)) | (apply At.r; (focus assumption)) | refine Ch.l ⟨rfl, rfl⟩ ?_ | (apply SetAsk.r; (focus (repeat (first | exact SetAs.z | (apply SetAs.c; (focus (repeat (first | assumption | exact SetA.z | apply SetA.s)))))))) | (apply Fk.r; (focus (repeat (first | exact FillA.nil | (apply FillA.agg; (focus rfl); (focus rfl); (focus (repeat (first | exact SetAs.z | (apply SetAs.c; (focus (repeat (first | assumption | exact SetA.z | apply SetA.s)))))))) | (apply FillA.one; (focus rfl); (focus infer_instance); (focus (repeat (first | assumption | exact SetA.z | apply SetA.s)))))))) | (apply Nm.r; (focus repeat (first | apply LN.cons | exact LN.nil))) | refine Rf.mk ⟨rfl, rfl, rfl⟩ ?_ | (apply CA.draw; (focus rfl); (focus kernel_rfl); (focus kernel_rfl); (focus repeat' (first | apply ON.one | exact ON.done | exact ON.none | apply ON.alt)); (focus rfl)) | fail | (apply Cl.p (compareI_p _ _); (focus repeat' (first | exact Lend.nil | apply Lend.keep | fail))))
      (apply Cl.lend (ho); (focus repeat' (first | exact Lend.nil | (apply Lend.lendm; (focus (repeat (first | exact Take.here | apply Take.there))); (focus rfl); (focus first | omega | decide | (simp; omega) | exact Nat.le_of_ble_eq_true rfl)) | fail)))
      repeat' (first | refine Sp.h ?_ | refine Lk.r rfl ?_ | refine Rf.mk rfl ?_ | (apply Bd.f; (focus (first | assumption | omega | exact Bool.false_ne_true))) | refine OpK.r rfl ?_ | (apply Nm.r; (focus repeat (first | apply LN.cons | exact LN.nil))) | fail)
      all_goals exact ⟨_, _, .one (.same (.nil (by (repeat (first | exact Subl.nil | refine Subl.cons (by (repeat (first | exact Take.here | apply Take.there))) ?_))))), rfl, w, congrArg (fun z => [arrR v 44 3 z mgeC, arrR w 47 4 (y :: r) mkC]) (hsame).symm⟩
end Go.Proofs.YtpgpdmmobblffaaGreat
namespace Go.Proofs.YtpgpdmmobblffaaGreat
open Go Go.CF
set_option maxRecDepth 20000
def EvV (m : ModS) (n : Int) (e : EvS) : Prop := FormedE e ∧ (e.past.length : Int) = n ∧ (e.kind = 0 → e.action < (m.acts.length : Nat))
noncomputable instance (m : ModS) (n : Int) (e : EvS) : Decidable (EvV m n e) := Classical.propDecidable _
theorem evalid_p (m : ModS) (n : Int) (e : EvS) : CallP Tryz.prog 40 [mdl m, it n, evA' e] (bl (decide (EvV m n e))) := by
  have hf := formed_p e
  refine CallA.of pg ord40 Tryz.func40 rfl Tryz.ntmps40 Tryz.results40 rfl fun h0 G0 O0 => ?_
  repeat' (first | refine Sp.h ?_ | refine Lk.r rfl ?_ | refine Rf.mk rfl ?_ | (apply Bd.t; (focus (first | assumption | omega | rfl))) | (apply Bd.f; (focus (first | assumption | omega | exact Bool.false_ne_true))) | (refine Bd.mk ?_ ?_ <;> intro _) | (refine Im.mk ?_; intro _) | (refine All.mk ?_; intro _) | (apply TkB.r; (focus (repeat (first | exact Take.here | apply Take.there)))) | refine Ch.l ⟨rfl, rfl⟩ ?_ | (apply Nm.r; (focus repeat (first | apply LN.cons | exact LN.nil))) | fail | (apply Cl.p (hf); (focus repeat' (first | exact Lend.nil | apply Lend.keep | fail))))
  all_goals refine Fin.p rfl (vb ?_)
  all_goals first
    | exact (decide_eq_false (fun h => by
        obtain ⟨h1, h2, h3⟩ := h
        first
          | exact absurd h1 (by assumption)
          | omega)).symm
    | exact (decide_eq_true ⟨by assumption, by omega, by omega⟩).symm
    | exact decide_eq_decide.2 ⟨fun h => ⟨by assumption, by omega, by omega⟩, fun h => by
        obtain ⟨h1, h2, h3⟩ := h
        omega⟩
    | skip
abbrev UpS := Int × Int × Int
/-- The last update of a cell. -/
def updF (us : List UpS) (c : Int) : Option UpS := us.reverse.find? fun u => decide (u.2.1 = c)
def updT (us : List UpS) : List (List Int × UpS) := us.foldl (fun kvs u => updL kvs [u.2.1] u) []
theorem updT_look (us : List UpS) (c : Int) : lookL (updT us) [c] = updF us c := by
  have key : ∀ us : List UpS, lookL (updT us.reverse) [c] = updF us.reverse c := by
    intro us
    induction us with
    | nil => rfl
    | cons u us ih =>
      rw [List.reverse_cons, updT, List.foldl_append, updF, List.reverse_append]
      simp only [List.foldl_cons, List.foldl_nil, List.reverse_cons, List.reverse_nil, List.nil_append, List.cons_append, List.find?_cons]
      rw [lookL_upd]
      by_cases h : u.2.1 = c
      · simp [h]
      · have h2 : ¬ [c] = [u.2.1] := by simpa using fun h9 : c = u.2.1 => h h9.symm
        rw [if_neg h2]
        simp only [h, decide_false]
        exact ih
  have := key us.reverse
  rwa [List.reverse_reverse] at this
theorem rules_cases (a b : Int) : lookL rulesL [a, b] = none ∨ (a = 2 ∧ b = 0 ∧ lookL rulesL [a, b] = some 84) ∨ (a = 2 ∧ b = 1 ∧ lookL rulesL [a, b] = some 85) ∨ (a = 3 ∧ b = 0 ∧ lookL rulesL [a, b] = some 86)
    ∨ (a = 3 ∧ b = 1 ∧ lookL rulesL [a, b] = some 84) ∨ (a = 4 ∧ b = 2 ∧ lookL rulesL [a, b] = some 87) ∨ (a = 5 ∧ b = 2 ∧ lookL rulesL [a, b] = some 88) := by
  cases h : lookL rulesL [a, b] with
  | none => exact .inl rfl
  | some g =>
    refine .inr ?_
    have hm := List.mem_of_find?_eq_some (p := fun p : List Int × FuncId => decide (p.1 = [a, b])) (l := rulesL) (a := ([a, b], g)) (by
      unfold lookL at h
      cases h9 : rulesL.find? (fun p => decide (p.1 = [a, b])) with
      | none => rw [h9] at h; cases h
      | some q =>
        rw [h9] at h
        have h1 : q.1 = [a, b] := by simpa using List.find?_some h9
        have h2 : q.2 = g := by simpa using h
        rw [← h1, ← h2])
    simp only [rulesL, List.mem_cons, Prod.mk.injEq, List.cons.injEq, List.not_mem_nil, or_false, and_true] at hm
    rcases hm with ⟨⟨h1, h2⟩, h3⟩ | ⟨⟨h1, h2⟩, h3⟩ | ⟨⟨h1, h2⟩, h3⟩ | ⟨⟨h1, h2⟩, h3⟩ | ⟨⟨h1, h2⟩, h3⟩ | ⟨⟨h1, h2⟩, h3⟩ <;> subst h1 <;> subst h2 <;> subst h3 <;> simp
theorem LtK.trans {a b c : MkS} (h1 : LtK a b) (h2 : LtK b c) : LtK a c := by unfold LtK at *; omega
theorem LtK.cotrans {a b : MkS} (c : MkS) (h : LtK a b) : LtK a c ∨ LtK c b := by unfold LtK at *; omega
/-- Marks in order. -/
def SrtK (l : List MkS) : Prop := l.Pairwise fun a b => ¬ LtK b a
theorem SrtK.mono {l : List MkS} (h : SrtK l) (m : MkS) : MonoK l m := by
  intro i j a b hij ha hb hlt
  rcases Nat.lt_or_ge i j with h1 | h1
  · have hi := (List.getElem?_eq_some_iff.1 ha)
    have hj := (List.getElem?_eq_some_iff.1 hb)
    have := List.pairwise_iff_getElem.1 h i j hi.1 hj.1 h1
    rw [hi.2, hj.2] at this
    rcases hlt.cotrans a with h2 | h2
    · exact absurd h2 this
    · exact h2
  · have : i = j := by omega
    subst this
    rw [ha] at hb; cases hb; exact hlt
theorem srt_of {l : List MkS} (h : ∀ (i : Nat) (x y : MkS), l[i]? = some x → l[i + 1]? = some y → ¬ LtK y x) : SrtK l := by
  induction l with
  | nil => exact List.Pairwise.nil
  | cons a l ih =>
    have hl : SrtK l := ih fun i x y hx hy => h (i + 1) x y hx hy
    refine List.pairwise_cons.2 ⟨fun b hb => ?_, hl⟩
    match l, hl, h with
    | [], _, _ => cases hb
    | c :: l, hl, h =>
      have h0 := h 0 a c rfl rfl
      rcases List.mem_cons.1 hb with rfl | hb
      · exact h0
      · have h1 := (List.pairwise_cons.1 hl).1 b hb
        intro h2
        rcases h2.cotrans c with h3 | h3
        · exact h1 h3
        · exact h0 h3
theorem ValG.srt {t : TblS} {g : MgS} (h : ValG t g) : SrtK g.marks := by
  refine srt_of fun i x y hx hy => ?_
  have hi := (List.getElem?_eq_some_iff.1 hy).1
  exact (h.2 (i + 1) y hi hy).2.2 x (by omega) (by simpa using hx)
theorem SrtK.filter {l : List MkS} (h : SrtK l) (p : MkS → Bool) : SrtK (l.filter p) := List.Pairwise.filter p h
/-- What an event does to a cell. -/
noncomputable def cellF (e : EvS) (t : TblS) (u : Option UpS) (g : MgS) : Int × MgS := match u with
  | none => (0, g)
  | some u =>
    let m : MkS := ⟨e.rep, e.num, e.time, if isReg t.kind then u.2.2 else 0⟩
    if t.kind = 2 ∧ u.1 = 0 ∨ t.kind = 3 ∧ u.1 = 1 then ((addF g.marks m).1, ⟨g.put, g.drop, (addF g.marks m).2⟩)
    else if t.kind = 2 ∧ u.1 = 1 then (0, ⟨false, g.drop, fgK e.past g.marks⟩)
    else if t.kind = 3 ∧ u.1 = 0 then (0, ⟨true, false, fgK e.past g.marks⟩)
    else if t.kind = 4 ∧ u.1 = 2 then ((lastF g.marks m).1, ⟨g.put, g.drop, (lastF g.marks m).2⟩)
    else if t.kind = 5 ∧ u.1 = 2 then ((addF (fgK e.past g.marks) m).1, ⟨g.put, g.drop, (addF (fgK e.past g.marks) m).2⟩)
    else (0, g)
end Go.Proofs.YtpgpdmmobblffaaGreat
