/- Part 10 of the ground of this proof: what its texts say of the model, the program and the plain data; conditions: those that are named. -/
import Derived.Test.YtpgpdmmobblffaaGreatP09
namespace Go.Proofs.YtpgpdmmobblffaaGreat
open Go Go.CF
set_option maxRecDepth 20000
def laysSortK_ren : Go.Shelf.Ren := ⟨fun | 6 => 134 | 15 => 129 | 14 => 162 | 28 => 157 | 29 => 158 | 20 => 172 | 21 => 173 | 22 => 174 | 23 => 175 | 24 => 176 | 25 => 177 | 26 => 178 | 27 => 179 | 46 => 184 | 47 => 167 | 48 => 168 | 49 => 185 | 50 => 186 | 57 => 192 | n => n, fun | 22 => 42 | 24 => 47 | 25 => 153 | 3 => 3 | 39 => 195 | 0 => 0 | 53 => 217 | 55 => 219 | 4 => 4 | 46 => 211 | 45 => 210 | 50 => 190 | 5 => 5 | 9 => 9 | 66 => 229 | 70 => 233 | 76 => 244 | 77 => 241 | n => n, fun | n => n⟩
theorem laysSortK : Go.Proofs.SlLaysF0.n6 Tryz.prog laysSortK_ren := {
  mixed := by kernel_rfl,
  f6 := ⟨Tryz.f134.name, by decide, Tryz.func134.trans (congrArg some (by kernel_rfl))⟩,
  f14 := ⟨Tryz.f162.name, by decide, Tryz.func162.trans (congrArg some (by kernel_rfl))⟩,
  f15 := Tryz.func129.trans (congrArg some (by kernel_rfl)),
  f20 := ⟨Tryz.f172.name, by decide, Tryz.func172.trans (congrArg some (by kernel_rfl))⟩,
  f21 := ⟨Tryz.f173.name, by decide, Tryz.func173.trans (congrArg some (by kernel_rfl))⟩,
  f22 := ⟨Tryz.f174.name, by decide, Tryz.func174.trans (congrArg some (by kernel_rfl))⟩,
  f23 := ⟨Tryz.f175.name, by decide, Tryz.func175.trans (congrArg some (by kernel_rfl))⟩,
  f24 := ⟨Tryz.f176.name, by decide, Tryz.func176.trans (congrArg some (by kernel_rfl))⟩,
  f25 := ⟨Tryz.f177.name, by decide, Tryz.func177.trans (congrArg some (by kernel_rfl))⟩,
  f26 := ⟨Tryz.f178.name, by decide, Tryz.func178.trans (congrArg some (by kernel_rfl))⟩,
  f27 := ⟨Tryz.f179.name, by decide, Tryz.func179.trans (congrArg some (by kernel_rfl))⟩,
  f28 := Tryz.func157.trans (congrArg some (by kernel_rfl)),
  f29 := Tryz.func158.trans (congrArg some (by kernel_rfl)),
  f46 := ⟨Tryz.f184.name, by decide, Tryz.func184.trans (congrArg some (by kernel_rfl))⟩,
  f47 := Tryz.func167.trans (congrArg some (by kernel_rfl)),
  f48 := Tryz.func168.trans (congrArg some (by kernel_rfl)),
  f49 := ⟨Tryz.f185.name, by decide, Tryz.func185.trans (congrArg some (by kernel_rfl))⟩,
  f50 := ⟨Tryz.f186.name, by decide, Tryz.func186.trans (congrArg some (by kernel_rfl))⟩,
  f57 := ⟨Tryz.f192.name, by decide, Tryz.func192.trans (congrArg some (by kernel_rfl))⟩,
  t0 := Tryz.underlying0,
  a0 := Tryz.isAgg0,
  z0 := Tryz.sizeOf0,
  v0 := Tryz.zeroValue0,
  t3 := Tryz.underlying3,
  a3 := Tryz.isAgg3,
  z3 := Tryz.sizeOf3,
  v3 := Tryz.zeroValue3,
  t4 := Tryz.underlying4,
  a4 := Tryz.isAgg4,
  z4 := Tryz.sizeOf4,
  v4 := Tryz.zeroValue4,
  t5 := Tryz.underlying5,
  a5 := Tryz.isAgg5,
  z5 := Tryz.sizeOf5,
  v5 := Tryz.zeroValue5,
  t9 := Tryz.underlying9,
  a9 := Tryz.isAgg9,
  z9 := Tryz.sizeOf9,
  v9 := Tryz.zeroValue9,
  t22 := Tryz.underlying42,
  a22 := Tryz.isAgg42,
  z22 := Tryz.sizeOf42,
  v22 := Tryz.zeroValue42,
  t25 := Tryz.underlying153,
  a25 := Tryz.isAgg153,
  z25 := Tryz.sizeOf153,
  v25 := Tryz.zeroValue153,
  t39 := Tryz.underlying195,
  a39 := Tryz.isAgg195,
  z39 := Tryz.sizeOf195,
  v39 := Tryz.zeroValue195,
  t45 := Tryz.underlying210,
  a45 := Tryz.isAgg210,
  z45 := Tryz.sizeOf210,
  v45 := Tryz.zeroValue210,
  t46 := Tryz.underlying211,
  a46 := Tryz.isAgg211,
  z46 := Tryz.sizeOf211,
  v46 := Tryz.zeroValue211,
  t50 := Tryz.underlying190,
  a50 := Tryz.isAgg190,
  z50 := Tryz.sizeOf190,
  v50 := Tryz.zeroValue190,
  t53 := Tryz.underlying217,
  a53 := Tryz.isAgg217,
  z53 := Tryz.sizeOf217,
  v53 := Tryz.zeroValue217,
  t55 := Tryz.underlying219,
  a55 := Tryz.isAgg219,
  z55 := Tryz.sizeOf219,
  v55 := Tryz.zeroValue219,
  t66 := Tryz.underlying229,
  a66 := Tryz.isAgg229,
  z66 := Tryz.sizeOf229,
  v66 := Tryz.zeroValue229,
  t70 := Tryz.underlying233,
  a70 := Tryz.isAgg233,
  z70 := Tryz.sizeOf233,
  v70 := Tryz.zeroValue233,
  t76 := Tryz.underlying244,
  a76 := Tryz.isAgg244,
  z76 := Tryz.sizeOf244,
  v76 := Tryz.zeroValue244,
  t77 := Tryz.underlying241,
  a77 := Tryz.isAgg241,
  z77 := Tryz.sizeOf241,
  v77 := Tryz.zeroValue241 }
theorem pw_uniq {α : Type} {R : α → α → Prop} (has : ∀ a b, R a b → ¬ R b a) : ∀ s t : List α, s.Pairwise R → t.Pairwise R → (∀ x, x ∈ s ↔ x ∈ t) → s = t := by
  intro s
  induction s with
  | nil =>
    intro t _ _ h
    cases t with
    | nil => rfl
    | cons b t => exact absurd ((h b).2 (by simp)) (by simp)
  | cons a s ih =>
    intro t hs ht h
    cases t with
    | nil => exact absurd ((h a).1 (by simp)) (by simp)
    | cons b t =>
      obtain ⟨h1, h2⟩ := List.pairwise_cons.1 hs
      obtain ⟨h3, h4⟩ := List.pairwise_cons.1 ht
      have hab : a = b := by
        rcases List.mem_cons.1 ((h a).1 (by simp)) with e | e
        · exact e
        · rcases List.mem_cons.1 ((h b).2 (by simp)) with e2 | e2
          · exact e2.symm
          · exact absurd (h3 a e) (has _ _ (h1 b e2))
      subst hab
      rw [ih t h2 h4 fun x => ?_]
      have := h x
      simp only [List.mem_cons] at this
      constructor
      · intro hx
        rcases this.1 (.inr hx) with e | e
        · subst e; exact absurd (h1 _ hx) (fun h9 => has _ _ h9 h9)
        · exact e
      · intro hx
        rcases this.2 (.inr hx) with e | e
        · subst e; exact absurd (h3 _ hx) (fun h9 => has _ _ h9 h9)
        · exact e
theorem grow0_a (n : Nat) (hn : n ≤ 1000000) : CallA Tryz.prog 161 [.val (.slice none 0 0), it n] [] fun r own => ∃ w, r = .ow w ∧ own = [arrR w 47 4 ([] : List MkS) mkC] := by
  refine CallA.of pg ord161 Tryz.func161 rfl Tryz.ntmps161 Tryz.results161 rfl fun h0 G0 O0 => ?_
  by_cases h0 : n = 0
  · subst h0
    repeat' (first | refine Sp.h ?_ | refine Lk.r rfl ?_ | refine Rf.mk rfl ?_ | (apply Bd.f; (focus (first | assumption | omega | exact Bool.false_ne_true))) | (apply Nm.r; (focus repeat (first | apply LN.cons | exact LN.nil))) | (apply Ov.n; (focus first | omega | (simp <;> omega))) | fail)
    exact ⟨_, _, .one (.nils (.nil (by (repeat (first | exact Subl.nil | refine Subl.cons (by (repeat (first | exact Take.here | apply Take.there))) ?_))))), _, rfl, rfl⟩
  · (repeat' (first | (show CA _ _ Code.ret _ _; apply Stopped.out) | refine Sp.h ?_ | refine Lk.r rfl ?_ | refine Rf.mk rfl ?_ | (apply Bd.t; (focus (first | assumption | omega | rfl))) | (apply Bd.f; (focus (first | assumption | omega | exact Bool.false_ne_true))) | (apply Om.mk; (focus first | omega | (simp <;> omega))) | (refine All.mk ?_; intro _) | refine Rf.mk ⟨rfl, rfl⟩ ?_ | (apply Jx.r; (focus exact rfl); (focus first | omega | (simp; done) | (simp; omega))) | (apply Ov.n; (focus first | omega | (simp <;> omega))) | (apply TkX.r; (focus (repeat (first | exact Take.here | apply Take.there)))) | (apply ExX.short; (focus rfl); (focus first | omega | (simp <;> omega)); (focus first | omega | (simp <;> omega))) | fail)); any_goals apply Stopped.mk
    apply CA.retype (m := ([] : List MkS)) (g := mkC)
    focus (repeat (first | exact Take.here | apply Take.there))
    focus rfl
    repeat' (first | refine Sp.h ?_ | refine Lk.r rfl ?_ | (apply Nm.r; (focus repeat (first | apply LN.cons | exact LN.nil))) | fail)
    exact ⟨_, _, .one (.same (.nil (by (repeat (first | exact Subl.nil | refine Subl.cons (by (repeat (first | exact Take.here | apply Take.there))) ?_))))), _, rfl, rfl⟩
abbrev mkss (ll : List (List MkS)) : AV := .sl 1 ll fun l => [mks l]
theorem flat_le {α : Type} (ll : List (List α)) (i : Nat) : (ll.take i).flatten.length ≤ ll.flatten.length := by
  have h := congrArg (fun z => z.flatten.length) (List.take_append_drop i ll)
  simp only [List.flatten_append, List.length_append] at h
  omega
theorem flat_succ {α : Type} {ll : List (List α)} {i : Nat} {l : List α} (h : ll[i]? = some l) : (ll.take (i + 1)).flatten = (ll.take i).flatten ++ l := by
  rw [List.take_add_one, h]; simp
theorem concat_a (ll : List (List MkS)) (hl : ll.flatten.length ≤ 100000) : CallA Tryz.prog 133 [mkss ll] [] fun r own => ∃ w, r = .ow w ∧ own = [arrR w 47 4 ll.flatten mkC] := by
  have hg := grow0_a ll.flatten.length (by omega)
  refine CallA.of pg ord133 Tryz.func133 rfl Tryz.ntmps133 Tryz.results133 rfl fun h0 G0 O0 => ?_
  repeat' (first | refine Sp.h ?_ | refine Lk.r rfl ?_ | refine Rf.mk rfl ?_ | (refine Im.mk ?_; intro _) | fail)
  refine CA.loop (fun i : Nat => ⟨[(0, mkss ll), (3, it ((ll.take i).flatten.length : Nat)), (9, mkss ll), (10, it (ll.length : Nat)), (11, it i)], []⟩) (fun i => i ≤ ll.length) (fun i => ll.length - i) 0 ⟨by (repeat (first | exact trivial | refine ⟨rfl, ?_⟩)), by (repeat (first | exact Subl.nil | refine Subl.cons (by (repeat (first | exact Take.here | apply Take.there))) ?_))⟩ (Nat.zero_le _) ?_
  intro i hi
  have hf := flat_le ll i
  by_cases hin : i < ll.length
  · obtain ⟨l, hx⟩ := get_of hin
    have hs : (((ll.take (i + 1)).flatten.length : Nat) : Int) = ((ll.take i).flatten.length : Nat) + (l.length : Nat) := by rw [flat_succ hx]; simp
    have hf2 := flat_le ll (i + 1)
    repeat' (first | refine Sp.h ?_ | refine Lk.r rfl ?_ | refine Rf.mk rfl ?_ | (apply Bd.t; (focus (first | assumption | omega | rfl))) | (apply Bd.f; (focus (first | assumption | omega | exact Bool.false_ne_true))) | (refine Im.mk ?_; intro _) | (apply Ix.q; (focus exact rfl); (focus assumption)) | (apply Ov.n; (focus first | omega | (simp <;> omega))) | fail)
    rw [← hs]
    exact PA.lp (i + 1) ⟨by (repeat (first | exact trivial | refine ⟨rfl, ?_⟩)), by (repeat (first | exact Subl.nil | refine Subl.cons (by (repeat (first | exact Take.here | apply Take.there))) ?_))⟩ ⟨hin, by omega⟩
  · have hie : i = ll.length := by omega
    subst hie
    rw [List.take_length]
    repeat' (first | refine Sp.h ?_ | refine Lk.r rfl ?_ | refine Rf.mk rfl ?_ | (apply Bd.f; (focus (first | assumption | omega | exact Bool.false_ne_true))) | fail)
    (apply Cl.use (hg); (focus repeat' (first | exact Lend.nil | apply Lend.keep | fail)); (focus (repeat (first | exact Takes.nil | (apply Takes.cons; (focus (repeat (first | exact Take.here | apply Take.there))))))); (focus rfl))
    rintro _ _ ⟨w0, rfl, rfl⟩
    repeat' (first | refine Sp.h ?_ | refine Lk.r rfl ?_ | refine Rf.mk rfl ?_ | (refine Im.mk ?_; intro _) | fail)
    refine CA.loop (fun x : Nat × Value => ⟨[(6, .ow x.2), (25, mkss ll), (26, it (ll.length : Nat)), (27, it x.1)], [arrR x.2 47 4 (ll.take x.1).flatten mkC]⟩) (fun x => x.1 ≤ ll.length) (fun x => ll.length - x.1) (0, w0) ⟨by (repeat (first | exact trivial | refine ⟨rfl, ?_⟩)), by (repeat (first | exact Subl.nil | refine Subl.cons (by (repeat (first | exact Take.here | apply Take.there))) ?_))⟩ (Nat.zero_le _) ?_
    rintro ⟨i, w⟩ hi
    simp only at hi
    simp only
    have hf := flat_le ll i
    by_cases hin : i < ll.length
    · obtain ⟨l, hx⟩ := get_of hin
      have hs := flat_succ hx
      have hf2 := flat_le ll (i + 1)
      rw [hs, List.length_append] at hf2
      repeat' (first | refine Sp.h ?_ | refine Lk.r rfl ?_ | refine Rf.mk rfl ?_ | (apply Bd.t; (focus (first | assumption | omega | rfl))) | (apply Om.mk; (focus first | omega | (simp <;> omega))) | (refine All.mk ?_; intro _) | (apply TkA.r; (focus (repeat (first | exact Take.here | apply Take.there)))) | (apply Ix.q; (focus exact rfl); (focus assumption)) | refine Ce.r ?_ | refine Rf.mk ⟨rfl, rfl⟩ ?_ | refine Mp.same ?_ | (apply Ov.n; (focus first | omega | (simp <;> omega))) | fail)
      rw [← hs]
      exact PA.lp (i + 1, _) ⟨by (repeat (first | exact trivial | refine ⟨rfl, ?_⟩)), by (repeat (first | exact Subl.nil | refine Subl.cons (by (repeat (first | exact Take.here | apply Take.there))) ?_))⟩ ⟨hin, by simp only; omega⟩
    · have hie : i = ll.length := by omega
      subst hie
      rw [List.take_length]
      repeat' (first | refine Sp.h ?_ | refine Lk.r rfl ?_ | refine Rf.mk rfl ?_ | (apply Bd.f; (focus (first | assumption | omega | exact Bool.false_ne_true))) | (apply Nm.r; (focus repeat (first | apply LN.cons | exact LN.nil))) | fail)
      exact ⟨_, _, .one (.same (.nil (by (repeat (first | exact Subl.nil | refine Subl.cons (by (repeat (first | exact Take.here | apply Take.there))) ?_))))), _, rfl, rfl⟩
instance : Inhabited MkS := ⟨⟨0, 0, 0, 0⟩⟩
theorem cmpK_swo : Sort.SWO (Go.Proofs.ltOf cmpK) where
  irrefl x := by simp only [Go.Proofs.ltOf, decide_eq_false_iff_not, cmpK_neg, LtK]; omega
  trans x y z h1 h2 := by simp only [Go.Proofs.ltOf, decide_eq_true_eq, cmpK_neg, LtK] at *; omega
  ntrans x y z h1 h2 := by simp only [Go.Proofs.ltOf, decide_eq_false_iff_not, cmpK_neg, LtK] at *; omega
theorem sortM_a (v : Value) (l : List MkS) (hl : l.length ≤ 1000000) : CallA Tryz.prog 134 [.ow v, .fn 95 []] [arrR v 47 4 l mkC] fun r own => ∃ s : List MkS, l.Perm s ∧ s.Pairwise (fun x y => cmpK y x < 0 → False) ∧ r = .tup [] ∧ own = [arrR v 47 4 s mkC] :=
  sortK_a laysSortK 4 Tryz.isAgg47 Tryz.sizeOf47 mkV (fun _ => rfl) (fun x u hu => by simp [mkV] at hu; rcases hu with rfl | rfl | rfl | rfl <;> rfl) cmpK cmpK_swo (Proofs.enters_of Tryz.func95 (by kernel_rfl) rfl) (fun x y => compareK_p x y) v 47 l hl
set_option maxHeartbeats 2000000 in
theorem compactK_a (w : Value) (l : List MkS) (hl : l.length ≤ 1000000) : CallA Tryz.prog 135 [.ow w] [arrR w 47 4 l mkC] fun q own => ∃ w', q = .ow w' ∧ own = [arrR w' 47 4 (dd l) mkC] := by
  refine CallA.of pg ord135 Tryz.func135 rfl Tryz.ntmps135 Tryz.results135 rfl fun h0 G0 O0 => ?_
  by_cases h2 : l.length < 2
  · have he : dd l = l := by
      rw [dd, ddN_take (Nat.le_refl _) (fun j h1 h3 => by omega), List.take_length]
    rw [he]
    repeat' (first | refine Sp.h ?_ | refine Lk.r rfl ?_ | refine Rf.mk rfl ?_ | (apply Bd.t; (focus (first | assumption | omega | rfl))) | (apply TkA.r; (focus (repeat (first | exact Take.here | apply Take.there)))) | (apply Nm.r; (focus repeat (first | apply LN.cons | exact LN.nil))) | fail)
    exact ⟨_, _, .one (.same (.nil (by (repeat (first | exact Subl.nil | refine Subl.cons (by (repeat (first | exact Take.here | apply Take.there))) ?_))))), _, rfl, rfl⟩
  repeat' (first | refine Sp.h ?_ | refine Lk.r rfl ?_ | refine Rf.mk rfl ?_ | (apply Bd.f; (focus (first | assumption | omega | exact Bool.false_ne_true))) | (apply TkA.r; (focus (repeat (first | exact Take.here | apply Take.there)))) | fail)
  refine CA.loop (fun k : Nat => ⟨[(0, .ow w), (3, it k)], [arrR w 47 4 l mkC]⟩) (fun k => 1 ≤ k ∧ k ≤ l.length ∧ ∀ j, 0 < j → j < k → l[j]? ≠ l[j - 1]?) (fun k => l.length - k) 1 ⟨by (repeat (first | exact trivial | refine ⟨rfl, ?_⟩)), by (repeat (first | exact Subl.nil | refine Subl.cons (by (repeat (first | exact Take.here | apply Take.there))) ?_))⟩ ⟨Nat.le_refl _, by omega, fun j h1 h3 => by omega⟩ ?_
  rintro k ⟨h1, h3, h4⟩
  by_cases hk : k < l.length
  rotate_left
  · have hke : k = l.length := by omega
    have he : dd l = l := by rw [dd, ← hke, ddN_take h3 h4, hke, List.take_length]
    rw [he]
    repeat' (first | refine Sp.h ?_ | refine Lk.r rfl ?_ | refine Rf.mk rfl ?_ | (apply Bd.f; (focus (first | assumption | omega | exact Bool.false_ne_true))) | (apply TkA.r; (focus (repeat (first | exact Take.here | apply Take.there)))) | (apply Nm.r; (focus repeat (first | apply LN.cons | exact LN.nil))) | fail)
    exact ⟨_, _, .one (.same (.nil (by (repeat (first | exact Subl.nil | refine Subl.cons (by (repeat (first | exact Take.here | apply Take.there))) ?_))))), _, rfl, rfl⟩
  obtain ⟨x, hx⟩ := get_of hk
  obtain ⟨y, hy⟩ := get_of (l := l) (i := k - 1) (by omega)
  by_cases hxy : x = y
  rotate_left
  · have hv : ¬ [x.rep, x.num, x.time, x.val] = [y.rep, y.num, y.time, y.val] := fun h9 => hxy (by simp only [List.cons.injEq, and_true] at h9; exact mks_ext h9.1 h9.2.1 h9.2.2.1 h9.2.2.2)
    repeat' (first | refine Sp.h ?_ | refine Lk.r rfl ?_ | refine Rf.mk rfl ?_ | (apply Bd.t; (focus (first | assumption | omega | rfl))) | (apply Bd.f; (focus (first | assumption | omega | exact Bool.false_ne_true))) | refine OpK.r rfl ?_ | (apply TkA.r; (focus (repeat (first | exact Take.here | apply Take.there)))) | (apply Ix.q; (focus exact rfl); (focus assumption)) | (apply Ix.r; (focus assumption); (focus omega)) | (apply At.r; (focus assumption)) | refine Ch.l ⟨rfl, rfl⟩ ?_ | (apply Il.r; (focus repeat (first | apply ILit.cons | exact ILit.nil))) | (apply Kf.mk; (focus kernel_rfl)) | (apply CA.draw; (focus rfl); (focus kernel_rfl); (focus kernel_rfl); (focus repeat' (first | apply ON.one | exact ON.done | exact ON.none | apply ON.alt)); (focus rfl)) | (apply Ov.n; (focus first | omega | (simp <;> omega))) | fail)
    refine PA.lp (k + 1) ⟨by (repeat (first | exact trivial | refine ⟨rfl, ?_⟩)), by (repeat (first | exact Subl.nil | refine Subl.cons (by (repeat (first | exact Take.here | apply Take.there))) ?_))⟩ ⟨⟨by omega, hk, fun j g1 g2 => ?_⟩, by omega⟩
    by_cases hj : j = k
    · subst hj; rw [hx, hy]; exact fun e => hxy (by cases e; rfl)
    · exact h4 j g1 (by omega)
  have hv : [x.rep, x.num, x.time, x.val] = [y.rep, y.num, y.time, y.val] := by rw [hxy]
  repeat' (first | refine Sp.h ?_ | refine Lk.r rfl ?_ | refine Rf.mk rfl ?_ | (apply Bd.t; (focus (first | assumption | omega | rfl))) | refine OpK.r rfl ?_ | (apply TkA.r; (focus (repeat (first | exact Take.here | apply Take.there)))) | (apply Ix.q; (focus exact rfl); (focus assumption)) | (apply Ix.r; (focus assumption); (focus omega)) | (apply At.r; (focus assumption)) | refine Ch.l ⟨rfl, rfl⟩ ?_ | (apply Jx.r; (focus exact rfl); (focus first | omega | (simp; done) | (simp; omega))) | (apply Il.r; (focus repeat (first | apply ILit.cons | exact ILit.nil))) | (apply Kf.mk; (focus kernel_rfl)) | (apply CA.draw; (focus rfl); (focus kernel_rfl); (focus kernel_rfl); (focus repeat' (first | apply ON.one | exact ON.done | exact ON.none | apply ON.alt)); (focus rfl)) | (apply Ov.n; (focus first | omega | (simp <;> omega))) | fail)
  refine CA.loop (fun q : Nat × Nat × List MkS => ⟨[(0, .ow w), (3, it q.1), (4, .os w 4 k (l.length - k)), (5, it q.2.1)], [arrR w 47 4 q.2.2 mkC]⟩)
    (fun q => 1 ≤ q.2.1 ∧ q.1 < k + q.2.1 ∧ k + q.2.1 ≤ l.length ∧ q.2.2.length = l.length ∧ q.2.2.take q.1 = ddN l (k + q.2.1) ∧ q.2.2.drop (k + q.2.1 - 1) = l.drop (k + q.2.1 - 1)) (fun q => l.length - q.2.1) (k, 1, l) ⟨by (repeat (first | exact trivial | refine ⟨rfl, ?_⟩)), by (repeat (first | exact Subl.nil | refine Subl.cons (by (repeat (first | exact Take.here | apply Take.there))) ?_))⟩
    ⟨Nat.le_refl _, by simp only; omega, by simp only; omega, rfl, by simp only; rw [ddN_eq (by omega) (by rw [hx, hy, hxy]), ddN_take h3 h4], rfl⟩ ?_
  rintro ⟨i, m, cur⟩ ⟨g1, g2, g3, g4, g5, g6⟩
  simp only at g1 g2 g3 g4 g5 g6
  simp only
  by_cases hm : k + m < l.length
  · obtain ⟨a, ha⟩ := get_of hm
    obtain ⟨b, hb⟩ := get_of (l := l) (i := k + m - 1) (by omega)
    have hca : cur[k + m]? = some a := by
      have := congrArg (fun z => z[1]?) g6
      simp only [List.getElem?_drop] at this
      rw [show k + m - 1 + 1 = k + m by omega] at this
      rw [this, ha]
    have hcb : cur[k + (m - 1)]? = some b := by
      have := congrArg (fun z => z[0]?) g6
      simp only [List.getElem?_drop, Nat.add_zero] at this
      rw [show k + (m - 1) = k + m - 1 by omega, this, hb]
    have h7 : cur.drop (k + m) = l.drop (k + m) := by
      have := congrArg (List.drop 1) g6
      rw [List.drop_drop, List.drop_drop] at this
      rwa [show k + m - 1 + 1 = k + m by omega] at this
    obtain ⟨z, hz⟩ := get_of (l := cur) (i := i) (by omega)
    have hm1 : ((m : Int) - 1) = ((m - 1 : Nat) : Int) := by omega
    by_cases hab : a = b
    · have hv : [a.rep, a.num, a.time, a.val] = [b.rep, b.num, b.time, b.val] := by rw [hab]
      repeat' (first | refine Sp.h ?_ | refine Lk.r rfl ?_ | refine Rf.mk rfl ?_ | (apply Bd.t; (focus (first | assumption | omega | rfl))) | refine OpK.r rfl ?_ | (apply TkA.r; (focus (repeat (first | exact Take.here | apply Take.there)))) | (apply At.r; (focus assumption)) | refine Ch.l ⟨rfl, rfl⟩ ?_ | refine Rf.mk ⟨rfl, rfl⟩ ?_ | (apply Il.r; (focus repeat (first | apply ILit.cons | exact ILit.nil))) | (apply Kf.mk; (focus kernel_rfl)) | (apply CA.draw; (focus rfl); (focus kernel_rfl); (focus kernel_rfl); (focus repeat' (first | apply ON.one | exact ON.done | exact ON.none | apply ON.alt)); (focus rfl)) | (apply Sx.r; (focus exact rfl); (focus first | omega | (simp; omega))) | (apply Ov.n; (focus first | omega | (simp <;> omega))) | (apply Sx.r; (focus assumption); (focus first | omega | (simp; omega))) | fail)
      exact PA.lp (i, m + 1, cur) ⟨by (repeat (first | exact trivial | refine ⟨rfl, ?_⟩)), by (repeat (first | exact Subl.nil | refine Subl.cons (by (repeat (first | exact Take.here | apply Take.there))) ?_))⟩ ⟨⟨by simp only; omega, by simp only; omega, by simp only; omega, g4, by simp only; rw [← Nat.add_assoc, ddN_eq (by omega) (by rw [ha, hb, hab])]; exact g5, by simp only; rw [show k + (m + 1) - 1 = k + m by omega]; exact h7⟩, by simp only; omega⟩
    · have hv : ¬ [a.rep, a.num, a.time, a.val] = [b.rep, b.num, b.time, b.val] := fun h9 => hab (by simp only [List.cons.injEq, and_true] at h9; exact mks_ext h9.1 h9.2.1 h9.2.2.1 h9.2.2.2)
      repeat' (first | refine Sp.h ?_ | refine Lk.r rfl ?_ | refine Rf.mk rfl ?_ | (apply Bd.t; (focus (first | assumption | omega | rfl))) | (apply Bd.f; (focus (first | assumption | omega | exact Bool.false_ne_true))) | refine OpK.r rfl ?_ | (apply TkA.r; (focus (repeat (first | exact Take.here | apply Take.there)))) | (apply Ix.q; (focus exact rfl); (focus assumption)) | (apply At.r; (focus assumption)) | refine Ch.l ⟨rfl, rfl⟩ ?_ | (apply SetAsk.r; (focus (repeat (first | exact SetAs.z | (apply SetAs.c; (focus (repeat (first | assumption | exact SetA.z | apply SetA.s)))))))) | refine Rf.mk ⟨rfl, rfl⟩ ?_ | refine Up.r rfl ?_ | (apply Il.r; (focus repeat (first | apply ILit.cons | exact ILit.nil))) | (apply Kf.mk; (focus kernel_rfl)) | (apply CA.draw; (focus rfl); (focus kernel_rfl); (focus kernel_rfl); (focus repeat' (first | apply ON.one | exact ON.done | exact ON.none | apply ON.alt)); (focus rfl)) | (apply Sx.r; (focus exact rfl); (focus first | omega | (simp; omega))) | (apply Ov.n; (focus first | omega | (simp <;> omega))) | (apply Sx.r; (focus assumption); (focus first | omega | (simp; omega))) | fail)
      have h8 : (cur.set i a).take (i + 1) = cur.take i ++ [a] := by
        rw [List.take_add_one, List.getElem?_set, if_pos rfl, if_pos (by omega), List.take_set_of_le (Nat.le_refl _)]; rfl
      refine PA.lp (i + 1, m + 1, cur.set i a) ⟨by (repeat (first | exact trivial | refine ⟨rfl, ?_⟩)), by (repeat (first | exact Subl.nil | refine Subl.cons (by (repeat (first | exact Take.here | apply Take.there))) ?_))⟩ ⟨⟨by simp only; omega, by simp only; omega, by simp only; omega, by simp only; rw [List.length_set]; exact g4, ?_, ?_⟩, by simp only; omega⟩
      · simp only
        rw [h8, g5, ← Nat.add_assoc, ddN_ne ha (fun _ => by rw [ha, hb]; exact fun e => hab (by cases e; rfl))]
      · simp only
        rw [show k + (m + 1) - 1 = k + m by omega, List.drop_set_of_lt (by omega)]; exact h7
  · have hme : k + m = l.length := by omega
    rw [hme] at g5
    (repeat' (first | (show CA _ _ (Code.region 14 _ _) _ _; apply Stopped.out) | refine Sp.h ?_ | refine Lk.r rfl ?_ | refine Rf.mk rfl ?_ | (apply Bd.f; (focus (first | assumption | omega | exact Bool.false_ne_true))) | fail)); any_goals apply Stopped.mk
    apply CA.retype (m := cur.map mkV) (g := valR)
    focus (repeat (first | exact Take.here | apply Take.there))
    focus exact mkV_map cur
    apply CA.toX 0
    focus rfl
    focus (repeat (first | exact Take.here | apply Take.there))
    intro hcap
    rw [List.length_map] at hcap
    (repeat' (first | (show CA _ _ Code.ret _ _; apply Stopped.out) | refine Sp.h ?_ | refine Lk.r rfl ?_ | refine Rf.mk rfl ?_ | (apply Om.mk; (focus first | omega | (simp <;> omega))) | refine Rf.mk ⟨rfl, rfl⟩ ?_ | refine Rf.mk ⟨rfl, rfl, rfl⟩ ?_ | (apply Jx.r; (focus exact rfl); (focus first | omega | (simp; done) | (simp; omega))) | (apply TkX.r; (focus (repeat (first | exact Take.here | apply Take.there)))) | (apply ExX.short; (focus rfl); (focus first | omega | (simp <;> omega)); (focus first | omega | (simp <;> omega))) | fail)); any_goals apply Stopped.mk
    apply CA.retype (m := dd l) (g := mkC)
    focus (repeat (first | exact Take.here | apply Take.there))
    focus (rw [dd, ← g5, ← mkV_map, List.map_take]; simp [List.take_take])
    repeat' (first | refine Sp.h ?_ | refine Lk.r rfl ?_ | (apply Nm.r; (focus repeat (first | apply LN.cons | exact LN.nil))) | fail)
    exact ⟨_, _, .one (.same (.nil (by (repeat (first | exact Subl.nil | refine Subl.cons (by (repeat (first | exact Take.here | apply Take.there))) ?_))))), _, rfl, rfl⟩
/-- Sorted, without what stands twice: strictly increasing. -/
theorem ddN_pw {α : Type} {R : α → α → Prop} {l : List α} (hs : l.Pairwise fun a b => ¬ R b a) (ht : ∀ a ∈ l, ∀ b ∈ l, a = b ∨ R a b ∨ R b a) :
    ∀ i, i ≤ l.length → (ddN l i).Pairwise R ∧ ∀ x, x ∈ ddN l i ↔ x ∈ l.take i := by
  intro i
  induction i with
  | zero => intro _; exact ⟨List.Pairwise.nil, fun x => by simp [ddN]⟩
  | succ i ih =>
    intro hi
    obtain ⟨h1, h2⟩ := ih (by omega)
    obtain ⟨x, hx⟩ := get_of (l := l) (i := i) (by omega)
    have htk : l.take (i + 1) = l.take i ++ [x] := by rw [List.take_add_one, hx]; rfl
    by_cases hc : 0 < i ∧ l[i]? = l[i - 1]?
    · rw [ddN_eq hc.1 hc.2, htk]
      refine ⟨h1, fun y => (h2 y).trans ?_⟩
      have hxm : x ∈ l.take i := List.mem_of_getElem? (i := i - 1) (by rw [List.getElem?_take, if_pos (by omega), ← hc.2, hx])
      simp only [List.mem_append, List.mem_singleton]
      exact ⟨.inl, fun h => h.elim id fun e => e ▸ hxm⟩
    · rw [ddN_ne hx (fun h0 e => hc ⟨h0, e⟩), htk]
      refine ⟨List.pairwise_append.2 ⟨h1, by simp, fun a ha b hb => ?_⟩, fun y => by simp [h2]⟩
      have hb : b = x := by simpa using hb
      subst hb
      have ha := (h2 a).1 ha
      obtain ⟨j, hj⟩ := List.getElem?_of_mem ha
      have hjl : j < i := by have := (List.getElem?_eq_some_iff.1 hj).1; simp at this; omega
      rw [List.getElem?_take, if_pos hjl] at hj
      have hle : ∀ (p q : Nat) (u v : α), p < q → l[p]? = some u → l[q]? = some v → ¬ R v u := fun p q u v hpq hu hv => by
        obtain ⟨p1, rfl⟩ := List.getElem?_eq_some_iff.1 hu
        obtain ⟨q1, rfl⟩ := List.getElem?_eq_some_iff.1 hv
        exact List.pairwise_iff_getElem.1 hs p q p1 q1 hpq
      have hab := hle j i a b hjl hj hx
      rcases ht a (List.mem_of_getElem? hj) b (List.mem_of_getElem? hx) with e | h | h
      · subst e
        obtain ⟨z, hz⟩ := get_of (l := l) (i := i - 1) (by omega)
        have h5 : a ≠ z := fun e => hc ⟨by omega, by rw [hx, hz, e]⟩
        have h3 := hle (i - 1) i z a (by omega) hz hx
        have h4 : ¬ R z a := by
          by_cases hji : j = i - 1
          · subst hji; rw [hj] at hz; exact absurd (Option.some.inj hz) h5
          · exact hle j (i - 1) a z (by omega) hj hz
        rcases ht a (List.mem_of_getElem? hx) z (List.mem_of_getElem? hz) with e | h | h
        · exact absurd e h5
        · exact absurd h h3
        · exact absurd h h4
      · exact h
      · exact absurd h hab
theorem LtK_asymm (a b : MkS) : LtK a b → ¬ LtK b a := by unfold LtK; omega
/-- The marks of some kind, in order. -/
noncomputable def canK (p : MkS → Prop) : List MkS := Classical.epsilon fun s => s.Pairwise LtK ∧ ∀ x, x ∈ s ↔ p x
theorem canK_eq {p : MkS → Prop} {s : List MkS} (h1 : s.Pairwise LtK) (h2 : ∀ x, x ∈ s ↔ p x) : canK p = s := by
  have h := Classical.epsilon_spec (p := fun s : List MkS => s.Pairwise LtK ∧ ∀ x, x ∈ s ↔ p x) ⟨s, h1, h2⟩
  exact pw_uniq LtK_asymm _ _ h.1 h1 fun x => (h.2 x).trans (h2 x).symm
noncomputable def unionF (a b : List MkS) : List MkS := canK fun x => x ∈ a ∨ x ∈ b
/-- No two different marks have one place in the order. -/
def TotK (l : List MkS) : Prop := ∀ x ∈ l, ∀ y ∈ l, x = y ∨ LtK x y ∨ LtK y x
theorem union_dd {a b s : List MkS} (ht : TotK (a ++ b)) (hp : (a ++ b).Perm s) (hs : s.Pairwise fun x y => cmpK y x < 0 → False) : unionF a b = dd s ∧ (dd s).length ≤ a.length + b.length := by
  have h1 : s.Pairwise fun x y => ¬ LtK y x := hs.imp fun h h9 => h (cmpK_neg.2 h9)
  obtain ⟨h2, h3⟩ := ddN_pw h1 (fun x hx y hy => ht x (hp.mem_iff.2 hx) y (hp.mem_iff.2 hy)) s.length (Nat.le_refl _)
  rw [List.take_length] at h3
  refine ⟨canK_eq h2 fun x => (h3 x).trans ?_, ?_⟩
  · rw [← hp.mem_iff, List.mem_append]
  · have h4 := ddN_len (l := s) s.length
    have h5 := hp.length_eq
    rw [List.length_append] at h5
    show (ddN s s.length).length ≤ _
    omega
theorem union_ex (a b : List MkS) (ht : TotK (a ++ b)) : (unionF a b).Pairwise LtK ∧ (∀ x, x ∈ unionF a b ↔ x ∈ a ∨ x ∈ b) ∧ (unionF a b).length ≤ a.length + b.length := by
  have hp : (a ++ b).Perm ((a ++ b).mergeSort fun x y => decide (¬ LtK y x)) := (List.mergeSort_perm _ _).symm
  have hs : ((a ++ b).mergeSort fun x y => decide (¬ LtK y x)).Pairwise fun x y => cmpK y x < 0 → False := by
    have := List.pairwise_mergeSort (le := fun x y : MkS => decide (¬ LtK y x)) (fun a b c h1 h2 => by simp [LtK] at *; omega) (fun a b => by simp [LtK]; omega) (a ++ b)
    exact this.imp fun h h9 => by simp at h; exact h (cmpK_neg.1 h9)
  obtain ⟨h1, h2⟩ := union_dd ht hp hs
  have h3 : _ := hs.imp (S := fun x y => ¬ LtK y x) fun h h9 => h (cmpK_neg.2 h9)
  obtain ⟨h4, h5⟩ := ddN_pw h3 (fun x hx y hy => ht x (hp.mem_iff.2 hx) y (hp.mem_iff.2 hy)) _ (Nat.le_refl _)
  rw [List.take_length] at h5
  rw [h1]
  exact ⟨h4, fun x => (h5 x).trans (by rw [← hp.mem_iff, List.mem_append]), h2⟩
theorem union_p (a b : List MkS) (ht : TotK (a ++ b)) (hl : a.length + b.length ≤ 100000) : CallP Tryz.prog 101 [mks a, mks b] (mks (unionF a b)) := by
  obtain ⟨-, -, hln⟩ := union_ex a b ht
  refine CallA.fz (T := 47) (by omega) ?_
  have hco := concat_a [a, b] (by simp; omega)
  simp only [List.flatten_cons, List.flatten_nil, List.append_nil] at hco
  refine CallA.of pg ord101 Tryz.func101 rfl Tryz.ntmps101 Tryz.results101 rfl fun h0 G0 O0 => ?_
  repeat' (first | refine Sp.h ?_ | refine Lk.r rfl ?_ | refine Rf.mk rfl ?_ | (refine All.mk ?_; intro _) | (apply Fk.r; (focus (repeat (first | exact FillA.nil | (apply FillA.agg; (focus rfl); (focus rfl); (focus (repeat (first | exact SetAs.z | (apply SetAs.c; (focus (repeat (first | assumption | exact SetA.z | apply SetA.s)))))))) | (apply FillA.one; (focus rfl); (focus infer_instance); (focus (repeat (first | assumption | exact SetA.z | apply SetA.s)))))))) | refine Rf.mk ⟨rfl, rfl, rfl⟩ ?_ | fail)
  (apply Cl.fz; (focus repeat' (first | exact FZ.nil | (apply FZ.fz; (focus (repeat (first | exact Take.here | apply Take.there))); (focus first | omega | decide | exact Nat.le_of_ble_eq_true rfl | (simp <;> omega))) | apply FZ.agg | apply FZ.same)))
  (apply Cl.use (hco); (focus repeat' (first | exact Lend.nil | (apply Lend.mp; (focus rfl)) | fail)); (focus (repeat (first | exact Takes.nil | (apply Takes.cons; (focus (repeat (first | exact Take.here | apply Take.there))))))); (focus rfl))
  rintro _ _ ⟨w, rfl, rfl⟩
  have hso := sortM_a w (a ++ b) (by simp; omega)
  repeat' (first | refine Sp.h ?_ | refine Lk.r rfl ?_ | refine Rf.mk rfl ?_ | fail)
  (apply Cl.use (hso); (focus repeat' (first | exact Lend.nil | apply Lend.keep | fail)); (focus (repeat (first | exact Takes.nil | (apply Takes.cons; (focus (repeat (first | exact Take.here | apply Take.there))))))); (focus rfl))
  rintro _ _ ⟨s, hp, hs, rfl, rfl⟩
  have hcm := compactK_a w s (by have := hp.length_eq; simp at this; omega)
  repeat' (first | refine Sp.h ?_ | refine Lk.r rfl ?_ | refine Rf.mk rfl ?_ | fail)
  (apply Cl.use (hcm); (focus repeat' (first | exact Lend.nil | apply Lend.keep | fail)); (focus (repeat (first | exact Takes.nil | (apply Takes.cons; (focus (repeat (first | exact Take.here | apply Take.there))))))); (focus rfl))
  rintro _ _ ⟨w2, rfl, rfl⟩
  rw [(union_dd ht hp hs).1]
  repeat' (first | refine Sp.h ?_ | refine Lk.r rfl ?_ | (apply Nm.r; (focus repeat (first | apply LN.cons | exact LN.nil))) | fail)
  exact ⟨_, _, .one (.same (.nil (by (repeat (first | exact Subl.nil | refine Subl.cons (by (repeat (first | exact Take.here | apply Take.there))) ?_))))), _, rfl, rfl⟩
end Go.Proofs.YtpgpdmmobblffaaGreat
namespace Go.Proofs.YtpgpdmmobblffaaGreat
open Go Go.CF
set_option maxRecDepth 20000
theorem symMerge_a (v : Value) (L p A B q : List EvS) (a m b : Int) (hL : L = p ++ (A ++ (B ++ q))) (ha : a = p.length) (hm : m = p.length + A.length) (hb : b = p.length + A.length + B.length) (hA : 0 < A.length) (hB : 0 < B.length) (sA : SrtE A) (sB : SrtE B) (hl : L.length ≤ 100000) :
    CallA Tryz.prog 132 [.ow v, it a, it m, it b, .fn 66 []] [eR v L] fun r o => ∃ S, r = .tup [] ∧ o = [eR v (p ++ (S ++ q))] ∧ (A ++ B).Perm S ∧ SrtE S := by
  obtain ⟨A', rfl⟩ : ∃ A : Nat, a = A := ⟨_, ha⟩
  obtain ⟨M, rfl⟩ : ∃ M : Nat, m = M := ⟨p.length + A.length, by omega⟩
  obtain ⟨B', rfl⟩ : ∃ B : Nat, b = B := ⟨p.length + A.length + B.length, by omega⟩
  exact symMerge_n _ v L p A B q A' M B' (Nat.le_refl _) hL (by omega) (by omega) (by omega) hA hB sA sB hl
/-- Sorted pieces of one length, the last one shorter. -/
inductive Bks (w : Nat) : List EvS → Prop
  | last {l : List EvS} : l.length ≤ w → SrtE l → Bks w l
  | cons {c l : List EvS} : c.length = w → SrtE c → Bks w l → Bks w (c ++ l)
theorem Bks.one {w : Nat} {l : List EvS} (h : Bks w l) (hl : l.length ≤ w) : SrtE l := by
  cases h with
  | last _ h => exact h
  | @cons c l h1 h2 _ =>
    rw [List.length_append] at hl
    have : l = [] := List.eq_nil_of_length_eq_zero (by omega)
    subst this; simpa using h2
theorem Bks.two {w : Nat} {l : List EvS} (h : Bks w l) (hl : w < l.length) : ∃ c m, l = c ++ m ∧ c.length = w ∧ SrtE c ∧ Bks w m := by
  cases h with
  | last h _ => omega
  | @cons c l h1 h2 h3 => exact ⟨c, l, rfl, h1, h2, h3⟩
set_option maxHeartbeats 4000000 in
theorem stable_a (v : Value) (L : List EvS) (hl : L.length ≤ 10000) :
    CallA Tryz.prog 98 [.ow v, it (L.length : Nat), .fn 66 []] [eR v L] fun r o => ∃ S, r = .tup [] ∧ o = [eR v S] ∧ L.Perm S ∧ SrtE S := by
  obtain ⟨n, hn⟩ : ∃ n, n = L.length := ⟨_, rfl⟩
  rw [← hn]
  refine CallA.of pg ord98 Tryz.func98 rfl Tryz.ntmps98 Tryz.results98 rfl fun h0 G0 O0 => ?_
  repeat' (first | refine Sp.h ?_ | refine Lk.r rfl ?_ | refine Rf.mk rfl ?_ | fail)
  refine CA.loop (fun s : Nat × List EvS => ⟨[(0, .ow v), (1, it n), (2, .fn 66 []), (6, it 20), (7, it s.1), (8, it ((s.1 + 20 : Nat) : Int))], [eR v s.2]⟩)
    (fun s => ∃ P R, s.2 = P ++ R ∧ s.1 = P.length ∧ L.Perm s.2 ∧ ∀ Q, Bks 20 Q → Bks 20 (P ++ Q)) (fun s => n - s.1) (0, L) ⟨by (repeat (first | exact trivial | refine ⟨rfl, ?_⟩)), by (repeat (first | exact Subl.nil | refine Subl.cons (by (repeat (first | exact Take.here | apply Take.there))) ?_))⟩ ⟨[], L, rfl, rfl, List.Perm.refl _, fun Q h => h⟩ ?_
  rintro ⟨a, D⟩ ⟨P, R, h1, h2, h3, h4⟩
  simp only at h1 h2 h3
  simp only
  have hDl := h3.length_eq
  have hPR := congrArg List.length h1
  rw [List.length_append] at hPR
  by_cases han : a + 20 ≤ n
  · obtain ⟨A, R', rfl, hA⟩ := split_at R 20 (by omega)
    have hin := insSort_a v D P A R' a ((a + 20 : Nat) : Int) (by rw [h1]; simp) (by omega) (by omega) (by omega)
    repeat' (first | refine Sp.h ?_ | refine Lk.r rfl ?_ | refine Rf.mk rfl ?_ | (apply Bd.t; (focus (first | assumption | omega | rfl))) | fail)
    (apply Cl.use (hin); (focus repeat' (first | exact Lend.nil | apply Lend.keep | fail)); (focus (repeat (first | exact Takes.nil | (apply Takes.cons; (focus (repeat (first | exact Take.here | apply Take.there))))))); (focus rfl))
    rintro _ _ ⟨L', S, rfl, rfl, g1, g2, g3⟩
    have hSl := g2.length_eq
    repeat' (first | refine Sp.h ?_ | refine Lk.r rfl ?_ | refine Rf.mk rfl ?_ | (apply Ov.n; (focus first | omega | (simp <;> omega))) | fail)
    refine PA.lp (a + 20, L') ⟨by (repeat (first | exact trivial | refine ⟨rfl, ?_⟩)), by (repeat (first | exact Subl.nil | refine Subl.cons (by (repeat (first | exact Take.here | apply Take.there))) ?_))⟩ ⟨⟨P ++ S, R', g1, by simp; omega, h3.trans ?_, fun Q hQ => ?_⟩, by simp only; omega⟩
    · simp only
      rw [h1, g1, ← List.append_assoc]
      exact List.Perm.append_right R' (List.Perm.append_left P g2)
    · rw [List.append_assoc]
      exact h4 _ (.cons (by omega) g3 hQ)
  have hin := insSort_a v D P R [] a n (by rw [h1]; simp) (by omega) (by omega) (by omega)
  repeat' (first | refine Sp.h ?_ | refine Lk.r rfl ?_ | refine Rf.mk rfl ?_ | (apply Bd.f; (focus (first | assumption | omega | exact Bool.false_ne_true))) | fail)
  (apply Cl.use (hin); (focus repeat' (first | exact Lend.nil | apply Lend.keep | fail)); (focus (repeat (first | exact Takes.nil | (apply Takes.cons; (focus (repeat (first | exact Take.here | apply Take.there))))))); (focus rfl))
  rintro _ _ ⟨L', S, rfl, rfl, g1, g2, g3⟩
  have hSl := g2.length_eq
  have hB : Bks 20 L' := by rw [g1, List.append_nil]; exact h4 _ (.last (by omega) g3)
  have hP' : L.Perm L' := h3.trans (by rw [h1, g1, List.append_nil]; exact List.Perm.append_left P g2)
  repeat' (first | refine Sp.h ?_ | fail)
  refine CA.loop (fun s : Nat × List EvS => ⟨[(0, .ow v), (1, it n), (2, .fn 66 []), (6, it s.1)], [eR v s.2]⟩)
    (fun s => 0 < s.1 ∧ s.1 ≤ 20000 ∧ L.Perm s.2 ∧ Bks s.1 s.2) (fun s => n - s.1) (20, L') ⟨by (repeat (first | exact trivial | refine ⟨rfl, ?_⟩)), by (repeat (first | exact Subl.nil | refine Subl.cons (by (repeat (first | exact Take.here | apply Take.there))) ?_))⟩ ⟨by simp only; omega, by simp only; omega, hP', hB⟩ ?_
  clear h1 h2 h3 h4 hDl hPR han hin g1 g2 g3 hSl hB hP'
  clear S P R a D L'
  rintro ⟨w, D⟩ ⟨h1, h2, h3, h4⟩
  simp only at h1 h2 h3 h4
  simp only
  have hDl := h3.length_eq
  by_cases hwn : w < n
  rotate_left
  · repeat' (first | refine Sp.h ?_ | refine Lk.r rfl ?_ | refine Rf.mk rfl ?_ | (apply Bd.f; (focus (first | assumption | omega | exact Bool.false_ne_true))) | (apply Nm.r; (focus repeat (first | apply LN.cons | exact LN.nil))) | fail)
    exact ⟨_, [eR v D], .tup (.nil (by (repeat (first | exact Subl.nil | refine Subl.cons (by (repeat (first | exact Take.here | apply Take.there))) ?_)))), D, rfl, rfl, h3, h4.one (by omega)⟩
  repeat' (first | refine Sp.h ?_ | refine Lk.r rfl ?_ | refine Rf.mk rfl ?_ | (apply Bd.t; (focus (first | assumption | omega | rfl))) | (apply Om.mk; (focus first | omega | (simp <;> omega))) | fail)
  refine CA.loop (fun s : Nat × Nat × List EvS => ⟨[(0, .ow v), (1, it n), (2, .fn 66 []), (6, it w), (7, it s.1), (8, it s.2.1)], [eR v s.2.2]⟩)
    (fun s => s.2.1 = s.1 + 2 * w ∧ ∃ P R, s.2.2 = P ++ R ∧ s.1 = P.length ∧ L.Perm s.2.2 ∧ Bks w R ∧ ∀ Q, Bks (2 * w) Q → Bks (2 * w) (P ++ Q)) (fun s => n - s.1) (0, 2 * w, D) ⟨by (repeat (first | exact trivial | refine ⟨rfl, ?_⟩)), by (repeat (first | exact Subl.nil | refine Subl.cons (by (repeat (first | exact Take.here | apply Take.there))) ?_))⟩ ⟨by simp, [], D, rfl, rfl, h3, h4, fun Q h => h⟩ ?_
  clear h3 h4 hDl
  clear D
  rintro ⟨a, b, D⟩ ⟨hb, P, R, g1, g2, g3, g4, g5⟩
  simp only at hb g1 g2 g3
  subst hb
  simp only
  have hDl := g3.length_eq
  have hPR := congrArg List.length g1
  rw [List.length_append] at hPR
  by_cases han : a + 2 * w ≤ n
  · obtain ⟨c1, R1, rfl, k1, k2, k3⟩ := g4.two (by omega)
    rw [List.length_append] at hPR
    have hk : ∃ c2 R2, R1 = c2 ++ R2 ∧ c2.length = w ∧ SrtE c2 ∧ Bks w R2 := by
      by_cases h : w < R1.length
      · exact k3.two h
      · exact ⟨R1, [], by simp, by omega, k3.one (by omega), .last (by simp) List.Pairwise.nil⟩
    obtain ⟨c2, R2, rfl, k4, k5, k6⟩ := hk
    have hsm := symMerge_a v D P c1 c2 R2 a ((a : Int) + (w : Int)) ((a + 2 * w : Nat) : Int) g1 (by omega) (by omega) (by omega) (by omega) (by omega) k2 k5 (by omega)
    repeat' (first | refine Sp.h ?_ | refine Lk.r rfl ?_ | refine Rf.mk rfl ?_ | (apply Bd.t; (focus (first | assumption | omega | rfl))) | (apply Ov.n; (focus first | omega | (simp <;> omega))) | fail)
    (apply Cl.use (hsm); (focus repeat' (first | exact Lend.nil | apply Lend.keep | fail)); (focus (repeat (first | exact Takes.nil | (apply Takes.cons; (focus (repeat (first | exact Take.here | apply Take.there))))))); (focus rfl))
    rintro _ _ ⟨S, rfl, rfl, p1, p2⟩
    have hSl := p1.length_eq
    rw [List.length_append] at hSl
    repeat' (first | refine Sp.h ?_ | refine Lk.r rfl ?_ | refine Rf.mk rfl ?_ | (apply Om.mk; (focus first | omega | (simp <;> omega))) | (apply Ov.n; (focus first | omega | (simp <;> omega))) | fail)
    refine PA.lp (a + 2 * w, a + 2 * w + 2 * w, P ++ (S ++ R2)) ⟨by (repeat (first | exact trivial | refine ⟨rfl, ?_⟩)), by (repeat (first | exact Subl.nil | refine Subl.cons (by (repeat (first | exact Take.here | apply Take.there))) ?_))⟩ ⟨⟨rfl, P ++ S, R2, by simp, by simp; omega, g3.trans ?_, k6, fun Q hQ => ?_⟩, by simp only; omega⟩
    · simp only
      rw [g1]
      refine List.Perm.append_left P ?_
      rw [← List.append_assoc]
      exact List.Perm.append_right R2 p1
    · rw [List.append_assoc]
      exact g5 _ (.cons (by omega) p2 hQ)
  · by_cases hmn : a + w < n
    · obtain ⟨c1, R1, rfl, k1, k2, k3⟩ := g4.two (by omega)
      rw [List.length_append] at hPR
      have hsm := symMerge_a v D P c1 R1 [] a ((a : Int) + (w : Int)) n (by rw [g1]; simp) (by omega) (by omega) (by omega) (by omega) (by omega) k2 (k3.one (by omega)) (by omega)
      repeat' (first | refine Sp.h ?_ | refine Lk.r rfl ?_ | refine Rf.mk rfl ?_ | (apply Bd.t; (focus (first | assumption | omega | rfl))) | (apply Bd.f; (focus (first | assumption | omega | exact Bool.false_ne_true))) | (apply Ov.n; (focus first | omega | (simp <;> omega))) | fail)
      (apply Cl.use (hsm); (focus repeat' (first | exact Lend.nil | apply Lend.keep | fail)); (focus (repeat (first | exact Takes.nil | (apply Takes.cons; (focus (repeat (first | exact Take.here | apply Take.there))))))); (focus rfl))
      rintro _ _ ⟨S, rfl, rfl, p1, p2⟩
      have hSl := p1.length_eq
      rw [List.length_append] at hSl
      repeat' (first | refine Sp.h ?_ | refine Lk.r rfl ?_ | refine Rf.mk rfl ?_ | (apply Om.mk; (focus first | omega | (simp <;> omega))) | fail)
      refine PA.lp (w * 2, P ++ (S ++ [])) ⟨by (repeat (first | exact trivial | refine ⟨rfl, ?_⟩)), by (repeat (first | exact Subl.nil | refine Subl.cons (by (repeat (first | exact Take.here | apply Take.there))) ?_))⟩ ⟨⟨by simp only; omega, by simp only; omega, ?_, ?_⟩, by simp only; omega⟩
      · simp only
        rw [List.append_nil]
        exact g3.trans (by rw [g1]; exact List.Perm.append_left P p1)
      · simp only
        rw [List.append_nil, Nat.mul_comm]
        exact g5 _ (.last (by omega) p2)
    · repeat' (first | refine Sp.h ?_ | refine Lk.r rfl ?_ | refine Rf.mk rfl ?_ | (apply Bd.f; (focus (first | assumption | omega | exact Bool.false_ne_true))) | (apply Om.mk; (focus first | omega | (simp <;> omega))) | (apply Ov.n; (focus first | omega | (simp <;> omega))) | fail)
      refine PA.lp (w * 2, D) ⟨by (repeat (first | exact trivial | refine ⟨rfl, ?_⟩)), by (repeat (first | exact Subl.nil | refine Subl.cons (by (repeat (first | exact Take.here | apply Take.there))) ?_))⟩ ⟨⟨by simp only; omega, by simp only; omega, g3, ?_⟩, by simp only; omega⟩
      simp only
      rw [g1, Nat.mul_comm]
      exact g5 _ (.last (by omega) (g4.one (by omega)))
theorem sortStable_a (v : Value) (L : List EvS) (hl : L.length ≤ 10000) :
    CallA Tryz.prog 65 [.ow v, .fn 66 []] [eR v L] fun r o => ∃ S, r = .tup [] ∧ o = [eR v S] ∧ L.Perm S ∧ SrtE S := by
  have h := stable_a v L hl
  refine CallA.of pg ord65 Tryz.func65 rfl Tryz.ntmps65 Tryz.results65 rfl fun h0 G0 O0 => ?_
  repeat' (first | refine Sp.h ?_ | refine Lk.r rfl ?_ | refine Rf.mk rfl ?_ | (apply TkA.r; (focus (repeat (first | exact Take.here | apply Take.there)))) | fail)
  (apply Cl.use (h); (focus repeat' (first | exact Lend.nil | apply Lend.keep | fail)); (focus (repeat (first | exact Takes.nil | (apply Takes.cons; (focus (repeat (first | exact Take.here | apply Take.there))))))); (focus rfl))
  rintro _ _ ⟨S, rfl, rfl, h1, h2⟩
  repeat' (first | refine Sp.h ?_ | (apply Nm.r; (focus repeat (first | apply LN.cons | exact LN.nil))) | fail)
  exact ⟨_, [eR v S], .tup (.nil (by (repeat (first | exact Subl.nil | refine Subl.cons (by (repeat (first | exact Take.here | apply Take.there))) ?_)))), S, rfl, rfl, h1, h2⟩
theorem cloneE_o (l : List EvS) (hl : l.length ≤ 1000000000) : CallO Tryz.prog 64 [evs l] 37 13 l evC := by
  refine CallA.of pg ord64 Tryz.func64 rfl Tryz.ntmps64 Tryz.results64 rfl fun h0 G0 O0 => ?_
  repeat' (first | refine Sp.h ?_ | refine Lk.r rfl ?_ | refine Rf.mk rfl ?_ | (refine Bd.mk ?_ ?_ <;> intro _) | (apply Om.mk; (focus first | omega | (simp <;> omega))) | (refine Im.mk ?_; intro _) | (refine All.mk ?_; intro _) | (apply TkA.r; (focus (repeat (first | exact Take.here | apply Take.there)))) | refine Ce.l rfl ?_ | (apply Fk.r; (focus (repeat (first | exact FillA.nil | (apply FillA.agg; (focus rfl); (focus rfl); (focus (repeat (first | exact SetAs.z | (apply SetAs.c; (focus (repeat (first | assumption | exact SetA.z | apply SetA.s)))))))) | (apply FillA.one; (focus rfl); (focus infer_instance); (focus (repeat (first | assumption | exact SetA.z | apply SetA.s)))))))) | (apply Nm.r; (focus repeat (first | apply LN.cons | exact LN.nil))) | refine Rf.mk ⟨rfl, rfl⟩ ?_ | refine Rf.mk ⟨rfl, rfl, rfl⟩ ?_ | refine Mp.same ?_ | fail)
  · rename_i b hb hbt
    have hl0 : l = [] := Decidable.byContradiction fun h => by rw [hb h] at hbt; cases hbt
    subst hl0
    exact ⟨_, _, .one (.nils (.nil (by (repeat (first | exact Subl.nil | refine Subl.cons (by (repeat (first | exact Take.here | apply Take.there))) ?_))))), _, rfl, rfl⟩
  · repeat' (first | fail)
    exact ⟨_, _, .one (.same (.nil (by (repeat (first | exact Subl.nil | refine Subl.cons (by (repeat (first | exact Take.here | apply Take.there))) ?_))))), _, rfl, rfl⟩
/-- Events in the order. -/
noncomputable def ordE (l : List EvS) : List EvS := l.mergeSort fun a b => decide (¬ LtE b a)
theorem ordE_perm (l : List EvS) : l.Perm (ordE l) := (List.mergeSort_perm _ _).symm
theorem ordE_srt (l : List EvS) : SrtE (ordE l) := by
  have := List.pairwise_mergeSort (le := fun a b : EvS => decide (¬ LtE b a)) (fun a b c h1 h2 => by simp [LtE] at *; omega) (fun a b => by simp [LtE]; omega) l
  exact this.imp fun h => by simpa using h
theorem srt_lt {l : List EvS} (hu : Uniq l) {S : List EvS} (hp : l.Perm S) (hs : SrtE S) : S.Pairwise LtE := by
  have hu1 : l.Pairwise fun a b => nm a ≠ nm b := by
    rw [List.pairwise_iff_getElem]
    intro i j hi hj hij h
    have := hu i j _ _ (List.getElem?_eq_getElem hi) (List.getElem?_eq_getElem hj) h
    omega
  have hu2 : S.Pairwise fun a b => nm a ≠ nm b := hp.pairwise hu1 (fun h => h.symm)
  refine (hs.and hu2).imp fun ⟨h1, h2⟩ => ?_
  simp only [nm, ne_eq, List.cons.injEq, and_true] at h2
  unfold LtE at *
  omega
theorem ordE_uniq {l S : List EvS} (hu : Uniq l) (hp : l.Perm S) (hs : SrtE S) : S = ordE l :=
  pw_uniq (fun _ _ => LtE.asymm) _ _ (srt_lt hu hp hs) (srt_lt hu (ordE_perm l) (ordE_srt l)) fun x => (hp.mem_iff).symm.trans (ordE_perm l).mem_iff
theorem order_p (l : List EvS) (hu : Uniq l) (hl : l.length ≤ 10000) : CallP Tryz.prog 27 [evs l] (evs (ordE l)) := by
  refine CallA.fz (T := 37) (by rw [← (ordE_perm l).length_eq]; omega) ?_
  have hc := cloneE_o l (by omega)
  refine CallA.of pg ord27 Tryz.func27 rfl Tryz.ntmps27 Tryz.results27 rfl fun h0 G0 O0 => ?_
  repeat' (first | refine Sp.h ?_ | refine Lk.r rfl ?_ | refine Rf.mk rfl ?_ | fail)
  (apply Cl.use (hc); (focus repeat' (first | exact Lend.nil | apply Lend.keep | fail)); (focus (repeat (first | exact Takes.nil | (apply Takes.cons; (focus (repeat (first | exact Take.here | apply Take.there))))))); (focus rfl))
  rintro _ _ ⟨w, rfl, rfl⟩
  have hs := sortStable_a w l hl
  repeat' (first | refine Sp.h ?_ | refine Lk.r rfl ?_ | refine Rf.mk rfl ?_ | fail)
  (apply Cl.use (hs); (focus repeat' (first | exact Lend.nil | apply Lend.keep | fail)); (focus (repeat (first | exact Takes.nil | (apply Takes.cons; (focus (repeat (first | exact Take.here | apply Take.there))))))); (focus rfl))
  rintro _ _ ⟨S, rfl, rfl, h1, h2⟩
  rw [ordE_uniq hu h1 h2]
  repeat' (first | refine Sp.h ?_ | refine Lk.r rfl ?_ | refine Rf.mk rfl ?_ | (apply Nm.r; (focus repeat (first | apply LN.cons | exact LN.nil))) | fail)
  exact ⟨_, _, .one (.same (.nil (by (repeat (first | exact Subl.nil | refine Subl.cons (by (repeat (first | exact Take.here | apply Take.there))) ?_))))), _, rfl, rfl⟩
end Go.Proofs.YtpgpdmmobblffaaGreat
namespace Go.Proofs.YtpgpdmmobblffaaGreat
open Go Go.CF
set_option maxRecDepth 20000
/-- The update of a cell by an event. -/
def updE (m : ModS) (e : EvS) (i : Nat) : Option UpS := if e.kind = 0 then updF (usF m e) i else none
noncomputable def mkE (t : TblS) (e : EvS) (u : UpS) : MkS := ⟨e.rep, e.num, e.time, if isReg t.kind then u.2.2 else 0⟩
/-- The kind of the updates that make marks, and of those that let them go. -/
def bK (k : Int) : Int := if k = 2 then 0 else if k = 3 then 1 else 2
def kK (k : Int) : Int := if k = 2 then 1 else if k = 3 then 0 else 2
def Asg (m : ModS) (t : TblS) (i : Nat) (P : List EvS) (x : MkS) : Prop := ∃ e ∈ P, ∃ u, updE m e i = some u ∧ u.1 = bK t.kind ∧ x = mkE t e u
def Liv (m : ModS) (t : TblS) (i : Nat) (P : List EvS) (x : MkS) : Prop := ∃ e ∈ P, ∃ u, updE m e i = some u ∧ u.1 = bK t.kind ∧ x = mkE t e u ∧ ∀ d ∈ P, ∀ w, updE m d i = some w → w.1 = kK t.kind → ¬ HasC d.past e.rep e.num
def PutP (m : ModS) (t : TblS) (i : Nat) (P : List EvS) : Prop := t.kind = 3 ∧ ∃ e ∈ P, ∃ u, updE m e i = some u ∧ u.1 = 0
def Kn4 (m : ModS) (t : TblS) (i : Nat) (P : List EvS) (l : List MkS) : Prop := (l = [] ∧ ∀ x, ¬ Asg m t i P x) ∨ ∃ x, l = [x] ∧ Asg m t i P x ∧ ∀ y, Asg m t i P y → ¬ LtK x y
/-- What is known of a cell by events. -/
structure Kn (m : ModS) (t : TblS) (i : Nat) (P : List EvS) (g : MgS) : Prop where
  put : g.put = true ↔ PutP m t i P
  drop : g.drop = false
  srt : g.marks.Pairwise LtK
  four : t.kind = 4 → Kn4 m t i P g.marks
  liv : t.kind ≠ 4 → ∀ x, x ∈ g.marks ↔ Liv m t i P x
def UniqP (P : List EvS) : Prop := ∀ a ∈ P, ∀ b ∈ P, a.rep = b.rep → a.num = b.num → a = b
theorem asg_nm {m : ModS} {t : TblS} {i : Nat} {P : List EvS} (hu : UniqP P) {x y : MkS} (hx : Asg m t i P x) (hy : Asg m t i P y) (hn : Nm x y) : x = y := by
  obtain ⟨e, he, u, h1, _, rfl⟩ := hx
  obtain ⟨d, hd, w, h3, _, rfl⟩ := hy
  have := hu e he d hd hn.1 hn.2
  subst this
  rw [h1] at h3; cases h3; rfl
theorem liv_asg {m : ModS} {t : TblS} {i : Nat} {P : List EvS} {x : MkS} (h : Liv m t i P x) : Asg m t i P x := by
  obtain ⟨e, he, u, h1, h2, h3, _⟩ := h
  exact ⟨e, he, u, h1, h2, h3⟩
theorem asg_iff {m : ModS} {t : TblS} {i : Nat} {P Q : List EvS} (h : ∀ e, e ∈ P ↔ e ∈ Q) (x : MkS) : Asg m t i P x ↔ Asg m t i Q x := by
  unfold Asg; simp only [h]
theorem liv_iff {m : ModS} {t : TblS} {i : Nat} {P Q : List EvS} (h : ∀ e, e ∈ P ↔ e ∈ Q) (x : MkS) : Liv m t i P x ↔ Liv m t i Q x := by
  unfold Liv; simp only [h]
theorem putP_iff {m : ModS} {t : TblS} {i : Nat} {P Q : List EvS} (h : ∀ e, e ∈ P ↔ e ∈ Q) : PutP m t i P ↔ PutP m t i Q := by
  unfold PutP; simp only [h]
theorem Kn.mem {m : ModS} {t : TblS} {i : Nat} {P : List EvS} {g : MgS} (h : Kn m t i P g) {x : MkS} (hx : x ∈ g.marks) : Asg m t i P x := by
  by_cases k4 : t.kind = 4
  · rcases h.four k4 with ⟨h1, _⟩ | ⟨y, h1, h2, _⟩
    · rw [h1] at hx; cases hx
    · rw [h1, List.mem_singleton] at hx; subst hx; exact h2
  · exact liv_asg ((h.liv k4 x).1 hx)
/-- What is known is determined by the events. -/
theorem Kn.uniq {m : ModS} {t : TblS} {i : Nat} {P Q : List EvS} {g g' : MgS} (hu : UniqP P) (hPQ : ∀ e, e ∈ P ↔ e ∈ Q) (h : Kn m t i P g) (h' : Kn m t i Q g') : g = g' := by
  obtain ⟨gp, gd, gm⟩ := g
  obtain ⟨gp', gd', gm'⟩ := g'
  have e1 : gp = gp' := by
    have := h.put.trans ((putP_iff hPQ).trans h'.put.symm)
    simp only at this
    exact Bool.eq_iff_iff.2 this
  have e2 : gd = gd' := h.drop.trans h'.drop.symm
  have e3 : gm = gm' := by
    by_cases k4 : t.kind = 4
    · rcases h.four k4 with ⟨h1, h2⟩ | ⟨x, h1, h2, h3⟩ <;> rcases h'.four k4 with ⟨h4, h5⟩ | ⟨y, h4, h5, h6⟩
      · exact h1.trans h4.symm
      · exact absurd ((asg_iff hPQ y).2 h5) (h2 y)
      · exact absurd ((asg_iff hPQ x).1 h2) (h5 x)
      · have hy := (asg_iff hPQ y).2 h5
        have k1 := h3 y hy
        have k2 := h6 x ((asg_iff hPQ x).1 h2)
        have : x = y := asg_nm hu h2 hy (by unfold LtK at k1 k2; unfold Nm; omega)
        rw [show gm = [x] from h1, show gm' = [y] from h4, this]
    · exact pw_uniq LtK_asymm _ _ h.srt h'.srt fun x => (h.liv k4 x).trans ((liv_iff hPQ x).trans (h'.liv k4 x).symm)
  rw [e1, e2, e3]
/-- An event that comes next. -/
structure Nxt (P : List EvS) (e : EvS) : Prop where
  nm : ∀ p ∈ P, ¬ (p.rep = e.rep ∧ p.num = e.num)
  past : ∀ p ∈ P, ¬ HasC p.past e.rep e.num
  tm : ∀ p ∈ P, ¬ (p.time = e.time ∧ p.rep = e.rep)
  self : ¬ HasC e.past e.rep e.num
theorem asg_snoc {m : ModS} {t : TblS} {i : Nat} {P : List EvS} {e : EvS} {x : MkS} : Asg m t i (P ++ [e]) x ↔ Asg m t i P x ∨ ∃ u, updE m e i = some u ∧ u.1 = bK t.kind ∧ x = mkE t e u := by
  unfold Asg
  simp only [List.mem_append, List.mem_singleton]
  constructor
  · rintro ⟨d, hd | rfl, h⟩
    · exact .inl ⟨d, hd, h⟩
    · exact .inr h
  · rintro (⟨d, hd, h⟩ | h)
    · exact ⟨d, .inl hd, h⟩
    · exact ⟨e, .inr rfl, h⟩
theorem putP_snoc {m : ModS} {t : TblS} {i : Nat} {P : List EvS} {e : EvS} : PutP m t i (P ++ [e]) ↔ PutP m t i P ∨ t.kind = 3 ∧ ∃ u, updE m e i = some u ∧ u.1 = 0 := by
  unfold PutP
  simp only [List.mem_append, List.mem_singleton]
  constructor
  · rintro ⟨hk, d, hd | rfl, h⟩
    · exact .inl ⟨hk, d, hd, h⟩
    · exact .inr ⟨hk, h⟩
  · rintro (⟨hk, d, hd, h⟩ | ⟨hk, h⟩)
    · exact ⟨hk, d, .inl hd, h⟩
    · exact ⟨hk, e, .inr rfl, h⟩
theorem liv_snoc {m : ModS} {t : TblS} {i : Nat} {P : List EvS} {e : EvS} (hn : Nxt P e) {x : MkS} :
    Liv m t i (P ++ [e]) x ↔ (Liv m t i P x ∧ ∀ u, updE m e i = some u → u.1 = kK t.kind → ¬ HasC e.past x.rep x.num) ∨ ∃ u, updE m e i = some u ∧ u.1 = bK t.kind ∧ x = mkE t e u := by
  constructor
  · rintro ⟨d, hd, u, h1, h2, h3, h4⟩
    rcases List.mem_append.1 hd with hd | hd
    · refine .inl ⟨⟨d, hd, u, h1, h2, h3, fun d' hd' => h4 d' (List.mem_append.2 (.inl hd'))⟩, fun w hw hk => ?_⟩
      rw [h3]; exact h4 e (by simp) w hw hk
    · rw [List.mem_singleton.1 hd] at h1 h3
      exact .inr ⟨u, h1, h2, h3⟩
  · rintro (⟨⟨d, hd, u, h1, h2, h3, h4⟩, h5⟩ | ⟨u, h1, h2, h3⟩)
    · refine ⟨d, List.mem_append.2 (.inl hd), u, h1, h2, h3, fun d' hd' w hw hk => ?_⟩
      rcases List.mem_append.1 hd' with hd' | hd'
      · exact h4 d' hd' w hw hk
      · rw [List.mem_singleton.1 hd'] at hw ⊢
        have := h5 w hw hk
        rw [h3] at this; exact this
    · refine ⟨e, by simp, u, h1, h2, h3, fun d' hd' w hw hk => ?_⟩
      rcases List.mem_append.1 hd' with hd' | hd'
      · exact hn.past d' hd'
      · rw [List.mem_singleton.1 hd']; exact hn.self
theorem ins_lt {l : List MkS} {x : MkS} (hs : l.Pairwise LtK) (hn : ¬ HasNm l x) : (insK l x).Pairwise LtK ∧ ∀ y, y ∈ insK l x ↔ y ∈ l ∨ y = x := by
  have hsK : SrtK l := hs.imp fun h => LtK_asymm _ _ h
  have hm := hsK.mono x
  have hlt : ∀ y ∈ l, LtK x y ∨ LtK y x := fun y hy => by
    have h : ¬ Nm y x := fun h => hn ⟨y, hy, h⟩
    unfold Nm at h; unfold LtK; omega
  have h1 : ∀ y ∈ l.take (posK l x), LtK y x := fun y hy => by
    obtain ⟨j, hj⟩ := List.getElem?_of_mem hy
    have hjl : j < posK l x := by have := (List.getElem?_eq_some_iff.1 hj).1; simp at this; omega
    rw [List.getElem?_take, if_pos hjl] at hj
    by_cases h9 : LtK y x
    · exact h9
    · have : idxN (fun y => decide (¬ LtK y x)) l ≤ j := by
        rcases Nat.lt_or_ge j (idxN (fun y => decide (¬ LtK y x)) l) with hlt9 | h
        · exfalso
          have hle := idxN_le (fun y => decide (¬ LtK y x)) l
          by_cases hlen : idxN (fun y => decide (¬ LtK y x)) l < l.length
          · obtain ⟨z, _, _, hz3⟩ := idxN_at hlen
            have := hz3 j y hlt9 hj
            simp at this; exact h9 this
          · have hnone : ∀ z ∈ l, LtK z x := fun z hz => Classical.byContradiction fun h => hlen (idxN_lt.2 ⟨z, hz, by simpa using h⟩)
            exact h9 (hnone y (List.mem_of_getElem? hj))
        · exact h
      unfold posK at hjl; omega
  have h2 : ∀ y ∈ l.drop (posK l x), LtK x y := fun y hy => by
    obtain ⟨j, hj⟩ := List.getElem?_of_mem hy
    rw [List.getElem?_drop] at hj
    have hym := List.mem_of_getElem? hj
    refine (hlt y hym).resolve_right fun h9 => ?_
    have hp : posK l x < l.length := by have := (List.getElem?_eq_some_iff.1 hj).1; omega
    obtain ⟨z, hz, hz2, _⟩ := idxN_at (p := fun y => decide (¬ LtK y x)) (l := l) hp
    have hz2 : ¬ LtK z x := by simpa using hz2
    exact hz2 (hm _ _ z y (Nat.le_add_right (posK l x) j) hz hj h9)
  have htd := List.take_append_drop (posK l x) l
  have hs' := hs
  rw [← htd] at hs'
  obtain ⟨s1, s2, s3⟩ := List.pairwise_append.1 hs'
  refine ⟨List.pairwise_append.2 ⟨s1, List.pairwise_cons.2 ⟨h2, s2⟩, fun a ha b hb => ?_⟩, fun y => ?_⟩
  · rcases List.mem_cons.1 hb with rfl | hb
    · exact h1 a ha
    · exact s3 a ha b hb
  · rw [insK, List.mem_append, List.mem_cons]
    constructor
    · rintro (h | rfl | h)
      · exact .inl (List.mem_of_mem_take h)
      · exact .inr rfl
      · exact .inl (List.mem_of_mem_drop h)
    · rintro (h | rfl)
      · rw [← htd, List.mem_append] at h
        exact h.elim .inl fun h => .inr (.inr h)
      · exact .inr (.inl rfl)
end Go.Proofs.YtpgpdmmobblffaaGreat
namespace Go.Proofs.YtpgpdmmobblffaaGreat
open Go Go.CF
set_option maxRecDepth 20000
theorem cmp2_neg {a b : MkS} : cmp2 a b < 0 ↔ a.time < b.time ∨ a.time = b.time ∧ a.rep < b.rep := by
  unfold cmp2 orI cmpI
  by_cases h1 : a.time < b.time
  · simp [h1]
  by_cases h2 : b.time < a.time
  · simp [h1, h2]; omega
  have h3 : a.time = b.time := by omega
  by_cases h4 : a.rep < b.rep
  · simp [h3, h4]
  by_cases h5 : b.rep < a.rep
  · simp [h3, h4, h5]
  have h6 : a.rep = b.rep := by omega
  simp [h3, h6]
def Kd (t : TblS) : Prop := t.kind = 2 ∨ t.kind = 3 ∨ t.kind = 4 ∨ t.kind = 5
theorem cell_step {m : ModS} {t : TblS} {i : Nat} {P : List EvS} {g : MgS} {e : EvS} (hk : Kd t) (h : Kn m t i P g) (hl : g.marks.length < 1024) (hn : Nxt P e) :
    ∃ g', cellF e t (updE m e i) g = (0, g') ∧ Kn m t i (P ++ [e]) g' ∧ g'.marks.length ≤ g.marks.length + 1 := by
  cases hu : updE m e i with
  | none =>
    refine ⟨g, rfl, ⟨?_, h.drop, h.srt, fun k4 => ?_, fun k4 x => ?_⟩, by omega⟩
    · rw [putP_snoc, hu]; simp [h.put]
    · have he : ∀ x, Asg m t i (P ++ [e]) x ↔ Asg m t i P x := fun x => by rw [asg_snoc, hu]; simp
      rcases h.four k4 with ⟨h1, h2⟩ | ⟨x, h1, h2, h3⟩
      · exact .inl ⟨h1, fun x hx => h2 x ((he x).1 hx)⟩
      · exact .inr ⟨x, h1, (he x).2 h2, fun y hy => h3 y ((he y).1 hy)⟩
    · rw [liv_snoc hn, hu]; simp [h.liv k4]
  | some u =>
    have hno : ¬ HasNm g.marks (mkE t e u) := fun ⟨x, hx, hxn⟩ => by
      obtain ⟨p, hp, w, _, _, rfl⟩ := h.mem hx
      exact hn.nm p hp hxn
    have hadd : addF g.marks (mkE t e u) = (0, insK g.marks (mkE t e u)) := by rw [addF, if_neg hno, if_neg (by omega)]
    have hil : ∀ (l : List MkS) x, (insK l x).length = l.length + 1 := fun l x => by
      have := posK_le l x
      simp [insK]; omega
    obtain ⟨i1, i2⟩ := ins_lt h.srt hno
    have hfl : ∀ c, (fgK c g.marks).length ≤ g.marks.length := fun c => List.length_filter_le _ _
    have hfm : ∀ c x, x ∈ fgK c g.marks ↔ x ∈ g.marks ∧ ¬ HasC c x.rep x.num := fun c x => by simp [fgK, List.mem_filter]
    have hput : t.kind ≠ 3 → g.put = false := fun h3 => by
      have := h.put
      cases hp : g.put
      · rfl
      · exact absurd (this.1 hp).1 h3
    have hmk : mkE t e u = ⟨e.rep, e.num, e.time, if isReg t.kind then u.2.2 else 0⟩ := rfl
    have hlv : ∀ x, Liv m t i (P ++ [e]) x ↔ (Liv m t i P x ∧ (u.1 = kK t.kind → ¬ HasC e.past x.rep x.num)) ∨ (u.1 = bK t.kind ∧ x = mkE t e u) := fun x => by
      rw [liv_snoc hn, hu]; simp
    have hpt : PutP m t i (P ++ [e]) ↔ PutP m t i P ∨ t.kind = 3 ∧ u.1 = 0 := by rw [putP_snoc, hu]; simp
    have hsame : cellF e t (some u) g = (0, g) → (t.kind ≠ 4 → u.1 ≠ bK t.kind ∧ u.1 ≠ kK t.kind) → (t.kind = 4 → u.1 ≠ 2) → (t.kind = 3 → u.1 ≠ 0) → ∃ g', cellF e t (some u) g = (0, g') ∧ Kn m t i (P ++ [e]) g' ∧ g'.marks.length ≤ g.marks.length + 1 := fun h1 h2 h3 h4 => by
      refine ⟨g, h1, ⟨?_, h.drop, h.srt, fun k4 => ?_, fun k4 x => ?_⟩, by omega⟩
      · rw [hpt, h.put]; exact ⟨.inl, fun h => h.elim id fun h => absurd h.2 (h4 h.1)⟩
      · have hb : bK t.kind = 2 := by rw [k4]; rfl
        have he : ∀ x, Asg m t i (P ++ [e]) x ↔ Asg m t i P x := fun x => by
          rw [asg_snoc, hu]
          refine ⟨fun h => h.elim id fun ⟨w, hw, hw2, _⟩ => ?_, .inl⟩
          cases hw
          exact absurd (hw2.trans hb) (h3 k4)
        rcases h.four k4 with ⟨h1, h2⟩ | ⟨x, h1, h2, h3⟩
        · exact .inl ⟨h1, fun x hx => h2 x ((he x).1 hx)⟩
        · exact .inr ⟨x, h1, (he x).2 h2, fun y hy => h3 y ((he y).1 hy)⟩
      · rw [hlv, h.liv k4]
        exact ⟨fun h9 => .inl ⟨h9, fun h => absurd h (h2 k4).2⟩, fun h9 => h9.elim (·.1) fun h => absurd h.1 (h2 k4).1⟩
    rcases hk with k | k | k | k
    · have nb : bK t.kind = 0 := by rw [k]; rfl
      have nk : kK t.kind = 1 := by rw [k]; rfl
      by_cases u0 : u.1 = 0
      · refine ⟨⟨g.put, g.drop, insK g.marks (mkE t e u)⟩, ?_, ⟨?_, h.drop, i1, fun k4 => by omega, fun _ x => ?_⟩, by simp [hil]⟩
        · simp only [cellF, k, u0, true_and, true_or, if_true]
          rw [← k, ← hmk, hadd]
        · rw [hpt, h.put]; exact ⟨.inl, fun h => h.elim id fun h => by omega⟩
        · rw [hlv]
          show x ∈ insK g.marks (mkE t e u) ↔ _
          rw [i2, h.liv (by omega)]
          exact ⟨fun h9 => h9.elim (fun h9 => .inl ⟨h9, fun h => by omega⟩) fun h9 => .inr ⟨by omega, h9⟩, fun h9 => h9.elim (fun h9 => .inl h9.1) fun h9 => .inr h9.2⟩
      by_cases u1 : u.1 = 1
      · refine ⟨⟨false, g.drop, fgK e.past g.marks⟩, ?_, ⟨?_, h.drop, h.srt.filter _, fun k4 => by omega, fun _ x => ?_⟩, by simp only; have := hfl e.past; omega⟩
        · simp [cellF, k, u1]
        · rw [hpt, ← h.put, hput (by omega)]
          simp only [Bool.false_eq_true, false_or, false_iff]
          omega
        · rw [hlv]
          show x ∈ fgK e.past g.marks ↔ _
          rw [hfm, h.liv (by omega)]
          exact ⟨fun h9 => .inl ⟨h9.1, fun _ => h9.2⟩, fun h9 => h9.elim (fun h9 => ⟨h9.1, h9.2 (by omega)⟩) fun h9 => by omega⟩
      · exact hsame (by simp [cellF, k, u0, u1]) (fun _ => ⟨by omega, by omega⟩) (fun h => by omega) (fun h => by omega)
    · have nb : bK t.kind = 1 := by rw [k]; rfl
      have nk : kK t.kind = 0 := by rw [k]; rfl
      by_cases u1 : u.1 = 1
      · refine ⟨⟨g.put, g.drop, insK g.marks (mkE t e u)⟩, ?_, ⟨?_, h.drop, i1, fun k4 => by omega, fun _ x => ?_⟩, by simp [hil]⟩
        · simp only [cellF, k, u1, true_and, or_true, if_true]
          rw [← k, ← hmk, hadd]
        · rw [hpt, h.put]; exact ⟨.inl, fun h => h.elim id fun h => by omega⟩
        · rw [hlv]
          show x ∈ insK g.marks (mkE t e u) ↔ _
          rw [i2, h.liv (by omega)]
          exact ⟨fun h9 => h9.elim (fun h9 => .inl ⟨h9, fun h => by omega⟩) fun h9 => .inr ⟨by omega, h9⟩, fun h9 => h9.elim (fun h9 => .inl h9.1) fun h9 => .inr h9.2⟩
      by_cases u0 : u.1 = 0
      · refine ⟨⟨true, false, fgK e.past g.marks⟩, ?_, ⟨?_, rfl, h.srt.filter _, fun k4 => by omega, fun _ x => ?_⟩, by simp only; have := hfl e.past; omega⟩
        · simp [cellF, k, u0]
        · rw [hpt]; simp [k, u0]
        · rw [hlv]
          show x ∈ fgK e.past g.marks ↔ _
          rw [hfm, h.liv (by omega)]
          exact ⟨fun h9 => .inl ⟨h9.1, fun _ => h9.2⟩, fun h9 => h9.elim (fun h9 => ⟨h9.1, h9.2 (by omega)⟩) fun h9 => by omega⟩
      · exact hsame (by simp [cellF, k, u0, u1]) (fun _ => ⟨by omega, by omega⟩) (fun h => by omega) (fun _ => u0)
    · have nb : bK t.kind = 2 := by rw [k]; rfl
      by_cases u2 : u.1 = 2
      · have hc : ∀ q, lastF g.marks (mkE t e u) = (0, q) → cellF e t (some u) g = (0, ⟨g.put, g.drop, q⟩) := fun q hq => by
          simp only [cellF, k, u2]
          rw [← k, ← hmk, hq]; simp [k]
        have hx : ∀ x, Asg m t i (P ++ [e]) x ↔ Asg m t i P x ∨ x = mkE t e u := fun x => by rw [asg_snoc, hu]; simp [nb, u2]
        have hpp : g.put = true ↔ PutP m t i (P ++ [e]) := by rw [hpt, h.put]; exact ⟨.inl, fun h => h.elim id fun h => by omega⟩
        rcases h.four k with ⟨h1, h2⟩ | ⟨x, h1, h2, h3⟩
        · refine ⟨⟨g.put, g.drop, [mkE t e u]⟩, hc _ ?_, ⟨hpp, h.drop, by simp, fun _ => .inr ⟨_, rfl, (hx _).2 (.inr rfl), fun y hy => ?_⟩, fun h => absurd k h⟩, by simp⟩
          · rw [h1] at hadd ⊢
            rw [lastF, hadd]
            simp [insK, posK, idxN]
          · rcases (hx y).1 hy with hy | rfl
            · exact absurd hy (h2 y)
            · exact fun h => LtK_asymm _ _ h h
        · by_cases hc2 : cmp2 x (mkE t e u) < 0
          · have hlt : LtK x (mkE t e u) := by have := cmp2_neg.1 hc2; unfold LtK; omega
            refine ⟨⟨g.put, g.drop, [mkE t e u]⟩, hc _ (by rw [h1, lastF, if_pos hc2]), ⟨hpp, h.drop, by simp, fun _ => .inr ⟨_, rfl, (hx _).2 (.inr rfl), fun y hy h9 => ?_⟩, fun h => absurd k h⟩, by simp⟩
            rcases (hx y).1 hy with hy | rfl
            · exact h3 y hy (hlt.trans h9)
            · exact LtK_asymm _ _ h9 h9
          · refine ⟨⟨g.put, g.drop, [x]⟩, hc _ (by rw [h1, lastF, if_neg hc2]), ⟨hpp, h.drop, by simp, fun _ => .inr ⟨x, rfl, (hx _).2 (.inl h2), fun y hy h9 => ?_⟩, fun h => absurd k h⟩, by simp⟩
            rcases (hx y).1 hy with hy | rfl
            · exact h3 y hy h9
            · obtain ⟨p, hp, w, _, _, rfl⟩ := h2
              have a1 := hn.tm p hp
              rw [cmp2_neg] at hc2
              unfold LtK at h9
              simp only [mkE] at hc2 h9
              omega
      · exact hsame (by simp [cellF, k, u2]) (fun h => absurd k h) (fun _ => u2) (fun h => by omega)
    · have nb : bK t.kind = 2 := by rw [k]; rfl
      have nk : kK t.kind = 2 := by rw [k]; rfl
      by_cases u2 : u.1 = 2
      · have hno2 : ¬ HasNm (fgK e.past g.marks) (mkE t e u) := fun ⟨x, hx, hxn⟩ => hno ⟨x, ((hfm _ _).1 hx).1, hxn⟩
        have hfl2 := hfl e.past
        have hadd2 : addF (fgK e.past g.marks) (mkE t e u) = (0, insK (fgK e.past g.marks) (mkE t e u)) := by rw [addF, if_neg hno2, if_neg (by omega)]
        obtain ⟨j1, j2⟩ := ins_lt (l := fgK e.past g.marks) (h.srt.filter _) hno2
        refine ⟨⟨g.put, g.drop, insK (fgK e.past g.marks) (mkE t e u)⟩, ?_, ⟨?_, h.drop, j1, fun k4 => by omega, fun _ x => ?_⟩, by simp only [hil]; omega⟩
        · simp only [cellF, k, u2]
          rw [← k, ← hmk, hadd2]; simp [k]
        · rw [hpt, h.put]; exact ⟨.inl, fun h => h.elim id fun h => by omega⟩
        · rw [hlv]
          show x ∈ insK (fgK e.past g.marks) (mkE t e u) ↔ _
          rw [show x ∈ insK (fgK e.past g.marks) (mkE t e u) ↔ x ∈ fgK e.past g.marks ∨ x = mkE t e u from j2 x, hfm, h.liv (by omega)]
          exact ⟨fun h9 => h9.elim (fun h9 => .inl ⟨h9.1, fun _ => h9.2⟩) fun h9 => .inr ⟨by omega, h9⟩, fun h9 => h9.elim (fun h9 => .inl ⟨h9.1, h9.2 (by omega)⟩) fun h9 => .inr h9.2⟩
      · exact hsame (by simp [cellF, k, u2]) (fun _ => ⟨by omega, by omega⟩) (fun h => by omega) (fun h => by omega)
end Go.Proofs.YtpgpdmmobblffaaGreat
namespace Go.Proofs.YtpgpdmmobblffaaGreat
open Go Go.CF
set_option maxRecDepth 20000
def fndN (l : List MkS) (r n : Int) : Option MkS := l.find? fun y => decide (y.rep = r ∧ y.num = n)
def mk0 : MkS := ⟨0, 0, 0, 0⟩
theorem idx_find {α : Type} {p : α → Bool} : ∀ l : List α, l[idxN p l]? = l.find? p
  | [] => rfl
  | a :: l => by
    by_cases ha : p a = true
    · simp [idxN, ha]
    · have ha' : p a = false := by simpa using ha
      have := idx_find (p := p) l
      simp [idxN, ha', this]
theorem fndN_has {l : List MkS} {x : MkS} : (fndN l x.rep x.num).isSome = true ↔ HasNm l x := by
  rw [fndN, List.find?_isSome]
  constructor
  · rintro ⟨y, h1, h2⟩; exact ⟨y, h1, by simpa [Nm] using h2⟩
  · rintro ⟨y, h1, h2⟩; exact ⟨y, h1, by simpa [Nm] using h2⟩
theorem fndN_some {l : List MkS} {x y : MkS} (h : fndN l x.rep x.num = some y) : y ∈ l ∧ Nm y x :=
  ⟨List.mem_of_find?_eq_some h, by simpa [Nm] using List.find?_some h⟩
abbrev sideC (k : MgS) (c : List Int) : List AV := [bl k.put, bl k.drop, mks k.marks, ints c]
theorem find1_p (x : MkS) (r n : Int) : CallP Tryz.prog 100 [mA x, .ad [it r, it n] 0] (bl (decide (x.rep = r ∧ x.num = n))) := by
  refine CallA.of pg ord100 Tryz.func100 rfl Tryz.ntmps100 Tryz.results100 rfl fun h0 G0 O0 => ?_
  repeat' (first | refine Sp.h ?_ | refine Lk.r rfl ?_ | refine Rf.mk rfl ?_ | refine OpK.r rfl ?_ | (refine All.mk ?_; intro _) | (apply TkB.r; (focus (repeat (first | exact Take.here | apply Take.there)))) | refine Ch.l ⟨rfl, rfl⟩ ?_ | (apply Nm.r; (focus repeat (first | apply LN.cons | exact LN.nil))) | (apply Il.r; (focus repeat (first | apply ILit.cons | exact ILit.nil))) | (apply Kf.mk; (focus kernel_rfl)) | (apply CA.draw; (focus rfl); (focus kernel_rfl); (focus kernel_rfl); (focus repeat' (first | apply ON.one | exact ON.done | exact ON.none | apply ON.alt)); (focus rfl)) | fail | (apply Cl.p (dot_p _); (focus repeat' (first | exact Lend.nil | apply Lend.keep | fail))))
  refine Fin.p rfl (vb (decide_eq_decide.2 ?_))
  simp
theorem findS_p (k : MgS) (c : List Int) (r n : Int) : CallP Tryz.prog 71 [.agg (sideC k c), dotC r n] (.tup [.agg (mkC ((fndN k.marks r n).getD mk0)), bl (fndN k.marks r n).isSome]) := by
  have hix := indexK_p (fun x => find1_p x r n) rfl k.marks
  have hfd := idx_find (p := fun y : MkS => decide (y.rep = r ∧ y.num = n)) k.marks
  refine CallA.of pg ord71 Tryz.func71 rfl Tryz.ntmps71 Tryz.results71 rfl fun h0 G0 O0 => ?_
  (repeat' (first | (show CA _ _ (Code.region 1 _ _) _ _; apply Stopped.out) | refine Sp.h ?_ | refine Lk.r rfl ?_ | refine Rf.mk rfl ?_ | (refine All.mk ?_; intro _) | (apply Nm.r; (focus repeat (first | apply LN.cons | exact LN.nil))) | fail)); any_goals apply Stopped.mk
  apply CA.freezeB 3
  focus rfl
  focus (repeat (first | exact Take.here | apply Take.there))
  by_cases hn : idxN (fun y : MkS => decide (y.rep = r ∧ y.num = n)) k.marks < k.marks.length
  · have hI : idxI (fun y : MkS => decide (y.rep = r ∧ y.num = n)) k.marks = (idxN (fun y : MkS => decide (y.rep = r ∧ y.num = n)) k.marks : Nat) := if_pos hn
    obtain ⟨x, hx⟩ := get_of hn
    have hf : fndN k.marks r n = some x := by rw [fndN, ← hfd, hx]
    rw [hI] at hix
    rw [hf]
    repeat' (first | refine Sp.h ?_ | refine Lk.r rfl ?_ | refine Rf.mk rfl ?_ | (apply Bd.f; (focus (first | assumption | omega | exact Bool.false_ne_true))) | (apply TkB.r; (focus (repeat (first | exact Take.here | apply Take.there)))) | (apply Ix.q; (focus exact rfl); (focus assumption)) | refine Ch.l ⟨rfl, rfl⟩ ?_ | (apply SetAsk.r; (focus (repeat (first | exact SetAs.z | (apply SetAs.c; (focus (repeat (first | assumption | exact SetA.z | apply SetA.s)))))))) | (apply Nm.r; (focus repeat (first | apply LN.cons | exact LN.nil))) | fail | (apply Cl.p (hix); (focus repeat' (first | exact Lend.nil | apply Lend.keep | fail))))
    exact ⟨_, _, .tup (.same (.same (.nil (by (repeat (first | exact Subl.nil | refine Subl.cons (by (repeat (first | exact Take.here | apply Take.there))) ?_)))))), rfl, rfl⟩
  · have hI : idxI (fun y : MkS => decide (y.rep = r ∧ y.num = n)) k.marks = -1 := if_neg hn
    have hf : fndN k.marks r n = none := by rw [fndN, ← hfd, List.getElem?_eq_none (by omega)]
    rw [hI] at hix
    rw [hf]
    repeat' (first | refine Sp.h ?_ | refine Lk.r rfl ?_ | refine Rf.mk rfl ?_ | (apply Bd.t; (focus (first | assumption | omega | rfl))) | (apply TkB.r; (focus (repeat (first | exact Take.here | apply Take.there)))) | (apply SetAsk.r; (focus (repeat (first | exact SetAs.z | (apply SetAs.c; (focus (repeat (first | assumption | exact SetA.z | apply SetA.s)))))))) | (apply Fk.r; (focus (repeat (first | exact FillA.nil | (apply FillA.agg; (focus rfl); (focus rfl); (focus (repeat (first | exact SetAs.z | (apply SetAs.c; (focus (repeat (first | assumption | exact SetA.z | apply SetA.s)))))))) | (apply FillA.one; (focus rfl); (focus infer_instance); (focus (repeat (first | assumption | exact SetA.z | apply SetA.s)))))))) | (apply Nm.r; (focus repeat (first | apply LN.cons | exact LN.nil))) | fail | (apply Cl.p (hix); (focus repeat' (first | exact Lend.nil | apply Lend.keep | fail))))
    exact ⟨_, _, .tup (.same (.same (.nil (by (repeat (first | exact Subl.nil | refine Subl.cons (by (repeat (first | exact Take.here | apply Take.there))) ?_)))))), rfl, rfl⟩
/-- The marks of l that stand in l2, too, or that c has not seen. -/
noncomputable def ownF (l l2 : List MkS) (c : List Int) : List MkS := l.filter fun x => decide (HasNm l2 x ∨ ¬ HasC c x.rep x.num)
theorem ownF_len (l l2 : List MkS) (c : List Int) : (ownF l l2 c).length ≤ l.length := List.length_filter_le _ _
theorem ownF_mem {l l2 : List MkS} {c : List Int} {x : MkS} : x ∈ ownF l l2 c ↔ x ∈ l ∧ (HasNm l2 x ∨ ¬ HasC c x.rep x.num) := by simp [ownF, List.mem_filter]
theorem ownF_succ {l l2 : List MkS} {c : List Int} {i : Nat} {x : MkS} (hx : l[i]? = some x) : ownF (l.take (i + 1)) l2 c = ownF (l.take i) l2 c ++ if HasNm l2 x ∨ ¬ HasC c x.rep x.num then [x] else [] := by
  rw [List.take_add_one, hx, ownF, List.filter_append]
  by_cases h : HasNm l2 x ∨ ¬ HasC c x.rep x.num
  · rw [if_pos h]; simp [ownF, h]
  · rw [if_neg h]; simp [ownF, h]
set_option maxHeartbeats 2000000 in
theorem own_p (k k2 : MgS) (c c2 : List Int) (hl : k.marks.length ≤ 100000) : CallP Tryz.prog 102 [.agg (sideC k c), .agg (sideC k2 c2)] (mks (ownF k.marks k2.marks c2)) := by
  have hln := ownF_len k.marks k2.marks c2
  refine CallA.fz (T := 47) (by omega) ?_
  refine CallA.of pg ord102 Tryz.func102 rfl Tryz.ntmps102 Tryz.results102 rfl fun h0 G0 O0 => ?_
  repeat' (first | refine Sp.h ?_ | refine Lk.r rfl ?_ | refine Rf.mk rfl ?_ | (refine Im.mk ?_; intro _) | (refine All.mk ?_; intro _) | (apply TkB.r; (focus (repeat (first | exact Take.here | apply Take.there)))) | fail)
  rename_i b2 b3 _
  refine CA.nilOwn 5 47 4 mkC rfl fun v => ?_
  refine CA.loop (fun x : Nat × Value => ⟨[(3, pm b3), (5, .ow x.2), (12, mks k.marks), (13, it (k.marks.length : Nat)), (14, it x.1)], [blkR b3 136 (sideC k2 c2), arrR x.2 47 4 (ownF (k.marks.take x.1) k2.marks c2) mkC]⟩) (fun x => x.1 ≤ k.marks.length) (fun x => k.marks.length - x.1) (0, v) ⟨by (repeat (first | exact trivial | refine ⟨rfl, ?_⟩)), by (repeat (first | exact Subl.nil | refine Subl.cons (by (repeat (first | exact Take.here | apply Take.there))) ?_))⟩ (Nat.zero_le _) ?_
  rintro ⟨i, w⟩ hi
  simp only at hi
  simp only
  by_cases hin : i < k.marks.length
  · obtain ⟨x, hx⟩ := get_of hin
    have hsu := ownF_succ (l2 := k2.marks) (c := c2) hx
    have hll := ownF_len (k.marks.take i) k2.marks c2
    rw [List.length_take] at hll
    have hfs := findS_p k2 c2 x.rep x.num
    have hhas := fndN_has (l := k2.marks) (x := x)
    by_cases hs : (fndN k2.marks x.rep x.num).isSome = true
    · rw [if_pos (.inl (hhas.1 hs))] at hsu
      rw [hs] at hfs
      repeat' (first | refine Sp.h ?_ | refine Lk.r rfl ?_ | refine Rf.mk rfl ?_ | (apply Bd.t; (focus (first | assumption | omega | rfl))) | refine OpK.r rfl ?_ | (apply Om.mk; (focus first | omega | (simp <;> omega))) | (refine All.mk ?_; intro _) | (apply TkA.r; (focus (repeat (first | exact Take.here | apply Take.there)))) | (apply TkB.r; (focus (repeat (first | exact Take.here | apply Take.there)))) | (apply Ix.q; (focus exact rfl); (focus assumption)) | refine Ce.r ?_ | refine Ch.l ⟨rfl, rfl⟩ ?_ | (apply SetAsk.r; (focus (repeat (first | exact SetAs.z | (apply SetAs.c; (focus (repeat (first | assumption | exact SetA.z | apply SetA.s)))))))) | (apply Fk.r; (focus (repeat (first | exact FillA.nil | (apply FillA.agg; (focus rfl); (focus rfl); (focus (repeat (first | exact SetAs.z | (apply SetAs.c; (focus (repeat (first | assumption | exact SetA.z | apply SetA.s)))))))) | (apply FillA.one; (focus rfl); (focus infer_instance); (focus (repeat (first | assumption | exact SetA.z | apply SetA.s)))))))) | (apply Nm.r; (focus repeat (first | apply LN.cons | exact LN.nil))) | refine Rf.mk ⟨rfl, rfl⟩ ?_ | refine Rf.mk ⟨rfl, rfl, rfl⟩ ?_ | (apply Mp.lit; (focus repeat (first | exact MpL.nil | (apply MpL.cons; (focus rfl)) | (apply MpL.inv; (focus repeat (first | apply LN.cons | exact LN.nil)); (focus infer_instance))))) | (apply CA.draw; (focus rfl); (focus kernel_rfl); (focus kernel_rfl); (focus repeat' (first | apply ON.one | exact ON.done | exact ON.none | apply ON.alt)); (focus rfl)) | exact trivial | apply RA'.both | (apply Ov.n; (focus first | omega | (simp <;> omega))) | fail | (apply Cl.p (dot_p x); (focus repeat' (first | exact Lend.nil | apply Lend.keep | fail))) | (apply Cl.p (hfs); (focus repeat' (first | exact Lend.nil | apply Lend.keep | fail))))
      all_goals rw [← hsu]
      all_goals exact PA.lp (i + 1, _) ⟨by (repeat (first | exact trivial | refine ⟨rfl, ?_⟩)), by (repeat (first | exact Subl.nil | refine Subl.cons (by (repeat (first | exact Take.here | apply Take.there))) ?_))⟩ ⟨hin, by simp only; omega⟩
    · have hs' : (fndN k2.marks x.rep x.num).isSome = false := by simpa using hs
      have hno : ¬ HasNm k2.marks x := fun h => hs (hhas.2 h)
      rw [hs'] at hfs
      by_cases hh : HasC c2 x.rep x.num
      · rw [if_neg (fun h => h.elim hno (fun h => h hh)), List.append_nil] at hsu
        repeat' (first | refine Sp.h ?_ | refine Lk.r rfl ?_ | refine Rf.mk rfl ?_ | (apply Bd.t; (focus (first | assumption | omega | rfl))) | refine OpK.r rfl ?_ | (refine All.mk ?_; intro _) | (apply TkB.r; (focus (repeat (first | exact Take.here | apply Take.there)))) | (apply Ix.q; (focus exact rfl); (focus assumption)) | refine Ch.l ⟨rfl, rfl⟩ ?_ | (apply SetAsk.r; (focus (repeat (first | exact SetAs.z | (apply SetAs.c; (focus (repeat (first | assumption | exact SetA.z | apply SetA.s)))))))) | (apply Nm.r; (focus repeat (first | apply LN.cons | exact LN.nil))) | (apply CA.draw; (focus rfl); (focus kernel_rfl); (focus kernel_rfl); (focus repeat' (first | apply ON.one | exact ON.done | exact ON.none | apply ON.alt)); (focus rfl)) | exact trivial | apply RA'.both | (apply Ov.n; (focus first | omega | (simp <;> omega))) | fail | (apply Cl.p (dot_p x); (focus repeat' (first | exact Lend.nil | apply Lend.keep | fail))) | (apply Cl.p (hfs); (focus repeat' (first | exact Lend.nil | apply Lend.keep | fail))) | (apply Cl.p (hasC_p _ _ _); (focus repeat' (first | exact Lend.nil | apply Lend.keep | fail))))
        all_goals rw [← hsu]
        all_goals exact PA.lp (i + 1, w) ⟨by (repeat (first | exact trivial | refine ⟨rfl, ?_⟩)), by (repeat (first | exact Subl.nil | refine Subl.cons (by (repeat (first | exact Take.here | apply Take.there))) ?_))⟩ ⟨hin, by simp only; omega⟩
      · rw [if_pos (.inr hh)] at hsu
        repeat' (first | refine Sp.h ?_ | refine Lk.r rfl ?_ | refine Rf.mk rfl ?_ | (apply Bd.t; (focus (first | assumption | omega | rfl))) | (apply Bd.f; (focus (first | assumption | omega | exact Bool.false_ne_true))) | refine OpK.r rfl ?_ | (apply Om.mk; (focus first | omega | (simp <;> omega))) | (refine All.mk ?_; intro _) | (apply TkA.r; (focus (repeat (first | exact Take.here | apply Take.there)))) | (apply TkB.r; (focus (repeat (first | exact Take.here | apply Take.there)))) | (apply Ix.q; (focus exact rfl); (focus assumption)) | refine Ce.r ?_ | refine Ch.l ⟨rfl, rfl⟩ ?_ | (apply SetAsk.r; (focus (repeat (first | exact SetAs.z | (apply SetAs.c; (focus (repeat (first | assumption | exact SetA.z | apply SetA.s)))))))) | (apply Fk.r; (focus (repeat (first | exact FillA.nil | (apply FillA.agg; (focus rfl); (focus rfl); (focus (repeat (first | exact SetAs.z | (apply SetAs.c; (focus (repeat (first | assumption | exact SetA.z | apply SetA.s)))))))) | (apply FillA.one; (focus rfl); (focus infer_instance); (focus (repeat (first | assumption | exact SetA.z | apply SetA.s)))))))) | (apply Nm.r; (focus repeat (first | apply LN.cons | exact LN.nil))) | refine Rf.mk ⟨rfl, rfl⟩ ?_ | refine Rf.mk ⟨rfl, rfl, rfl⟩ ?_ | (apply Mp.lit; (focus repeat (first | exact MpL.nil | (apply MpL.cons; (focus rfl)) | (apply MpL.inv; (focus repeat (first | apply LN.cons | exact LN.nil)); (focus infer_instance))))) | (apply CA.draw; (focus rfl); (focus kernel_rfl); (focus kernel_rfl); (focus repeat' (first | apply ON.one | exact ON.done | exact ON.none | apply ON.alt)); (focus rfl)) | exact trivial | apply RA'.both | (apply Ov.n; (focus first | omega | (simp <;> omega))) | fail | (apply Cl.p (dot_p x); (focus repeat' (first | exact Lend.nil | apply Lend.keep | fail))) | (apply Cl.p (hfs); (focus repeat' (first | exact Lend.nil | apply Lend.keep | fail))) | (apply Cl.p (hasC_p _ _ _); (focus repeat' (first | exact Lend.nil | apply Lend.keep | fail))))
        all_goals rw [← hsu]
        all_goals exact PA.lp (i + 1, _) ⟨by (repeat (first | exact trivial | refine ⟨rfl, ?_⟩)), by (repeat (first | exact Subl.nil | refine Subl.cons (by (repeat (first | exact Take.here | apply Take.there))) ?_))⟩ ⟨hin, by simp only; omega⟩
  · have hie : i = k.marks.length := by omega
    subst hie
    rw [List.take_length]
    repeat' (first | refine Sp.h ?_ | refine Lk.r rfl ?_ | refine Rf.mk rfl ?_ | (apply Bd.f; (focus (first | assumption | omega | exact Bool.false_ne_true))) | (apply Nm.r; (focus repeat (first | apply LN.cons | exact LN.nil))) | fail)
    exact ⟨_, _, .one (.same (.nil (by (repeat (first | exact Subl.nil | refine Subl.cons (by (repeat (first | exact Take.here | apply Take.there))) ?_))))), _, rfl, rfl⟩
end Go.Proofs.YtpgpdmmobblffaaGreat
namespace Go.Proofs.YtpgpdmmobblffaaGreat
open Go Go.CF
set_option maxRecDepth 20000
noncomputable def jnG (t : TblS) (a : MgS) (ac : List Int) (b : MgS) (bc : List Int) : MgS :=
  if t.kind = 4 then ⟨false, false, (unionF a.marks b.marks).drop ((unionF a.marks b.marks).length - 1)⟩
  else if t.kind = 3 then ⟨a.put || b.put, a.drop && b.drop, unionF (ownF a.marks b.marks bc) (ownF b.marks a.marks ac)⟩
  else ⟨a.put && b.put, false, unionF (ownF a.marks b.marks bc) (ownF b.marks a.marks ac)⟩
theorem totK_own {a b : List MkS} (ht : TotK (a ++ b)) (c c2 : List Int) : TotK (ownF a b c ++ ownF b a c2) := by
  intro x hx y hy
  have key : ∀ z, z ∈ ownF a b c ++ ownF b a c2 → z ∈ a ++ b := fun z hz => by
    rcases List.mem_append.1 hz with h | h
    · exact List.mem_append.2 (.inl (ownF_mem.1 h).1)
    · exact List.mem_append.2 (.inr (ownF_mem.1 h).1)
  exact ht x (key x hx) y (key y hy)
set_option maxHeartbeats 2000000 in
theorem join_p (t : TblS) (a b : MgS) (ac bc : List Int) (ht : TotK (a.marks ++ b.marks)) (ha : a.marks.length ≤ 10000) (hb : b.marks.length ≤ 10000) :
    CallP Tryz.prog 72 [.agg (tblC t), .agg (sideC a ac), .agg (sideC b bc)] (.agg (mgC (jnG t a ac b bc))) := by
  have hu := union_p a.marks b.marks ht (by omega)
  have hla := ownF_len a.marks b.marks bc
  have hlb := ownF_len b.marks a.marks ac
  have h1 := own_p a b ac bc (by omega)
  have h2 := own_p b a bc ac (by omega)
  have h3 := union_p (ownF a.marks b.marks bc) (ownF b.marks a.marks ac) (totK_own ht _ _) (by omega)
  by_cases k4 : t.kind = 4
  · have he : jnG t a ac b bc = ⟨false, false, (unionF a.marks b.marks).drop ((unionF a.marks b.marks).length - 1)⟩ := if_pos k4
    rw [he]
    have hm : max 0 (((unionF a.marks b.marks).length : Nat) - 1 : Int) = (((unionF a.marks b.marks).length - 1 : Nat) : Int) := by omega
    refine CallA.of pg ord72 Tryz.func72 rfl Tryz.ntmps72 Tryz.results72 rfl fun h0 G0 O0 => ?_
    have hd : ((unionF a.marks b.marks).drop ((unionF a.marks b.marks).length - 1)).take ((unionF a.marks b.marks).length - ((unionF a.marks b.marks).length - 1)) = (unionF a.marks b.marks).drop ((unionF a.marks b.marks).length - 1) := List.take_of_length_le (by simp)
    repeat' (first | refine Sp.h ?_ | refine Lk.r rfl ?_ | refine Rf.mk rfl ?_ | (apply Bd.t; (focus (first | assumption | omega | rfl))) | (refine Im.mk ?_; intro _) | (refine All.mk ?_; intro _) | (apply TkB.r; (focus (repeat (first | exact Take.here | apply Take.there)))) | (apply Nm.r; (focus repeat (first | apply LN.cons | exact LN.nil))) | (apply Ov.n; (focus first | omega | (simp <;> omega))) | fail | (apply Cl.p (hu); (focus repeat' (first | exact Lend.nil | apply Lend.keep | fail))))
    refine Jx.r hm (by omega) ?_
    rw [hd]
    repeat' (first | refine Sp.h ?_ | refine Lk.r rfl ?_ | refine Rf.mk rfl ?_ | (apply TkB.r; (focus (repeat (first | exact Take.here | apply Take.there)))) | (apply SetAsk.r; (focus (repeat (first | exact SetAs.z | (apply SetAs.c; (focus (repeat (first | assumption | exact SetA.z | apply SetA.s)))))))) | (apply Fk.r; (focus (repeat (first | exact FillA.nil | (apply FillA.agg; (focus rfl); (focus rfl); (focus (repeat (first | exact SetAs.z | (apply SetAs.c; (focus (repeat (first | assumption | exact SetA.z | apply SetA.s)))))))) | (apply FillA.one; (focus rfl); (focus infer_instance); (focus (repeat (first | assumption | exact SetA.z | apply SetA.s)))))))) | (apply Nm.r; (focus repeat (first | apply LN.cons | exact LN.nil))) | fail)
    exact ⟨_, _, .one (.same (.nil (by (repeat (first | exact Subl.nil | refine Subl.cons (by (repeat (first | exact Take.here | apply Take.there))) ?_))))), rfl, rfl⟩
  by_cases k3 : t.kind = 3
  · have he : jnG t a ac b bc = ⟨a.put || b.put, a.drop && b.drop, unionF (ownF a.marks b.marks bc) (ownF b.marks a.marks ac)⟩ := by rw [jnG, if_neg k4, if_pos k3]
    rw [he]
    obtain ⟨put, drop, l⟩ := a
    refine CallA.of pg ord72 Tryz.func72 rfl Tryz.ntmps72 Tryz.results72 rfl fun h0 G0 O0 => ?_
    cases put <;> cases drop
    all_goals repeat' (first | refine Sp.h ?_ | refine Lk.r rfl ?_ | refine Rf.mk rfl ?_ | (apply Bd.t; (focus (first | assumption | omega | rfl))) | (apply Bd.f; (focus (first | assumption | omega | exact Bool.false_ne_true))) | refine OpK.r rfl ?_ | (refine All.mk ?_; intro _) | (apply TkB.r; (focus (repeat (first | exact Take.here | apply Take.there)))) | refine Ch.l ⟨rfl, rfl⟩ ?_ | (apply SetAsk.r; (focus (repeat (first | exact SetAs.z | (apply SetAs.c; (focus (repeat (first | assumption | exact SetA.z | apply SetA.s)))))))) | (apply Fk.r; (focus (repeat (first | exact FillA.nil | (apply FillA.agg; (focus rfl); (focus rfl); (focus (repeat (first | exact SetAs.z | (apply SetAs.c; (focus (repeat (first | assumption | exact SetA.z | apply SetA.s)))))))) | (apply FillA.one; (focus rfl); (focus infer_instance); (focus (repeat (first | assumption | exact SetA.z | apply SetA.s)))))))) | (apply Nm.r; (focus repeat (first | apply LN.cons | exact LN.nil))) | (apply CA.draw; (focus rfl); (focus kernel_rfl); (focus kernel_rfl); (focus repeat' (first | apply ON.one | exact ON.done | exact ON.none | apply ON.alt)); (focus rfl)) | fail | (apply Cl.p (h1); (focus ((repeat' (first | exact Lend.nil | apply Lend.keep | apply Lend.agg | fail)); done))) | (apply Cl.p (h2); (focus ((repeat' (first | exact Lend.nil | apply Lend.keep | fail)); done))) | (apply Cl.p (h3); (focus ((repeat' (first | exact Lend.nil | apply Lend.keep | fail)); done))))
    all_goals exact ⟨_, _, .one (.same (.nil (by (repeat (first | exact Subl.nil | refine Subl.cons (by (repeat (first | exact Take.here | apply Take.there))) ?_))))), rfl, rfl⟩
  · have he : jnG t a ac b bc = ⟨a.put && b.put, false, unionF (ownF a.marks b.marks bc) (ownF b.marks a.marks ac)⟩ := by rw [jnG, if_neg k4, if_neg k3]
    rw [he]
    obtain ⟨put, drop, l⟩ := a
    refine CallA.of pg ord72 Tryz.func72 rfl Tryz.ntmps72 Tryz.results72 rfl fun h0 G0 O0 => ?_
    cases put
    all_goals repeat' (first | refine Sp.h ?_ | refine Lk.r rfl ?_ | refine Rf.mk rfl ?_ | (apply Bd.f; (focus (first | assumption | omega | exact Bool.false_ne_true))) | refine OpK.r rfl ?_ | (refine All.mk ?_; intro _) | (apply TkB.r; (focus (repeat (first | exact Take.here | apply Take.there)))) | refine Ch.l ⟨rfl, rfl⟩ ?_ | (apply SetAsk.r; (focus (repeat (first | exact SetAs.z | (apply SetAs.c; (focus (repeat (first | assumption | exact SetA.z | apply SetA.s)))))))) | (apply Fk.r; (focus (repeat (first | exact FillA.nil | (apply FillA.agg; (focus rfl); (focus rfl); (focus (repeat (first | exact SetAs.z | (apply SetAs.c; (focus (repeat (first | assumption | exact SetA.z | apply SetA.s)))))))) | (apply FillA.one; (focus rfl); (focus infer_instance); (focus (repeat (first | assumption | exact SetA.z | apply SetA.s)))))))) | (apply Nm.r; (focus repeat (first | apply LN.cons | exact LN.nil))) | (apply CA.draw; (focus rfl); (focus kernel_rfl); (focus kernel_rfl); (focus repeat' (first | apply ON.one | exact ON.done | exact ON.none | apply ON.alt)); (focus rfl)) | fail | (apply Cl.p (h1); (focus ((repeat' (first | exact Lend.nil | apply Lend.keep | apply Lend.agg | fail)); done))) | (apply Cl.p (h2); (focus ((repeat' (first | exact Lend.nil | apply Lend.keep | fail)); done))) | (apply Cl.p (h3); (focus ((repeat' (first | exact Lend.nil | apply Lend.keep | fail)); done))))
    all_goals exact ⟨_, _, .one (.same (.nil (by (repeat (first | exact Subl.nil | refine Subl.cons (by (repeat (first | exact Take.here | apply Take.there))) ?_))))), rfl, rfl⟩
end Go.Proofs.YtpgpdmmobblffaaGreat
namespace Go.Proofs.YtpgpdmmobblffaaGreat
open Go Go.CF
set_option maxRecDepth 20000
/-- Marks of a cell: in order, each name once. -/
def GoodK (l : List MkS) : Prop := l.Pairwise LtK ∧ l.Pairwise fun x y => ¬ Nm x y
theorem GoodK.nm {l : List MkS} (h : GoodK l) {x y : MkS} (hx : x ∈ l) (hy : y ∈ l) (hn : Nm x y) : x = y := by
  obtain ⟨i, hi⟩ := List.getElem?_of_mem hx
  obtain ⟨j, hj⟩ := List.getElem?_of_mem hy
  obtain ⟨i1, rfl⟩ := List.getElem?_eq_some_iff.1 hi
  obtain ⟨j1, rfl⟩ := List.getElem?_eq_some_iff.1 hj
  rcases Nat.lt_trichotomy i j with h9 | h9 | h9
  · exact absurd hn (List.pairwise_iff_getElem.1 h.2 i j i1 j1 h9)
  · subst h9; rfl
  · exact absurd (show Nm _ _ from ⟨hn.1.symm, hn.2.symm⟩) (List.pairwise_iff_getElem.1 h.2 j i j1 i1 h9)
/-- A mark of both that differs. -/
def OddK (a b : List MkS) : Prop := ∃ x ∈ a, ∃ y ∈ b, Nm y x ∧ x ≠ y
end Go.Proofs.YtpgpdmmobblffaaGreat
namespace Go.Proofs.YtpgpdmmobblffaaGreat
open Go Go.CF
set_option maxRecDepth 20000
def joinC (a b : List Int) : List Int := zipC max a b
theorem join_z {a b : List Int} (h : AlikeC [a, b]) : CallP Tryz.prog 36 [clks [a, b]] (ints (joinC a b)) :=
  CallA.fz (by have := ((alike2 a b).1 h).1.2; simp [joinC, zipC]; omega) (join_o [a, b] h)
end Go.Proofs.YtpgpdmmobblffaaGreat
namespace Go.Proofs.YtpgpdmmobblffaaGreat
open Go Go.CF
set_option maxRecDepth 20000
theorem ValG.good {t : TblS} {g : MgS} (h : ValG t g) : GoodK g.marks := by
  have h1 : g.marks.Pairwise fun x y => ¬ Nm x y := by
    rw [List.pairwise_iff_getElem]
    intro i j hi hj hij
    exact (h.2 j g.marks[j] hj (List.getElem?_eq_getElem hj)).2.1 i g.marks[i] hij (List.getElem?_eq_getElem hi)
  refine ⟨?_, h1⟩
  have h2 := h.srt
  rw [SrtK, List.pairwise_iff_getElem] at h2
  rw [List.pairwise_iff_getElem] at h1 ⊢
  intro i j hi hj hij
  have a1 := h1 i j hi hj hij
  have a2 := h2 i j hi hj hij
  unfold Nm at a1
  unfold LtK at a2 ⊢
  omega
theorem totK_of {a b : List MkS} (ha : GoodK a) (hb : GoodK b) (ho : ¬ OddK a b) : TotK (a ++ b) := by
  have key : ∀ x y : MkS, (Nm x y → x = y) → x = y ∨ LtK x y ∨ LtK y x := fun x y h => by
    by_cases hn : Nm x y
    · exact .inl (h hn)
    · unfold Nm at hn; unfold LtK; omega
  intro x hx y hy
  refine key x y fun hn => ?_
  rcases List.mem_append.1 hx with h1 | h1 <;> rcases List.mem_append.1 hy with h2 | h2
  · exact ha.nm h1 h2 hn
  · exact Classical.byContradiction fun h => ho ⟨x, h1, y, h2, ⟨hn.1.symm, hn.2.symm⟩, h⟩
  · exact Classical.byContradiction fun h => ho ⟨y, h2, x, h1, hn, fun e => h e.symm⟩
  · exact hb.nm h1 h2 hn
def OddL (a b : List MgS) : Prop := ∃ (i : Nat) (g h : MgS), a[i]? = some g ∧ b[i]? = some h ∧ OddK g.marks h.marks
def JoinOK (m : ModS) (a : List MgS) (ac : List Int) (b : List MgS) (bc : List Int) : Prop := ValL (mrgF m) a ∧ ValL (mrgF m) b ∧ AlikeC [ac, bc] ∧ ¬ OddL a b
noncomputable def joinL (ts : List TblS) (a : List MgS) (ac : List Int) (b : List MgS) (bc : List Int) : List MgS := (ts.zip (a.zip b)).map fun p => jnG p.1 p.2.1 ac p.2.2 bc
noncomputable def joinQ (m : ModS) (a : List MgS) (ac : List Int) (b : List MgS) (bc : List Int) : Int × List MgS := @ite _ (JoinOK m a ac b bc) (Classical.propDecidable _) (0, joinL (mrgF m) a ac b bc) (1, [])
theorem joinQ_ok {m : ModS} {a b : List MgS} {ac bc : List Int} (h : JoinOK m a ac b bc) : joinQ m a ac b bc = (0, joinL (mrgF m) a ac b bc) := @if_pos _ (Classical.propDecidable _) h _ _ _
theorem joinQ_bad {m : ModS} {a b : List MgS} {ac bc : List Int} (h : ¬ JoinOK m a ac b bc) : joinQ m a ac b bc = (1, []) := @if_neg _ (Classical.propDecidable _) h _ _ _
theorem joinL_succ {ts : List TblS} {a b : List MgS} {ac bc : List Int} {i : Nat} {t : TblS} {g h : MgS} (ht : ts[i]? = some t) (hg : a[i]? = some g) (hh : b[i]? = some h) :
    joinL (ts.take (i + 1)) (a.take (i + 1)) ac (b.take (i + 1)) bc = joinL (ts.take i) (a.take i) ac (b.take i) bc ++ [jnG t g ac h bc] := by
  have h1 := (List.getElem?_eq_some_iff.1 ht).1
  have h2 := (List.getElem?_eq_some_iff.1 hg).1
  have h3 := (List.getElem?_eq_some_iff.1 hh).1
  have e1 : (a.take i ++ [g]).zip (b.take i ++ [h]) = (a.take i).zip (b.take i) ++ [(g, h)] := by rw [List.zip_append (by simp; omega)]; rfl
  rw [List.take_add_one, List.take_add_one, List.take_add_one, ht, hg, hh, joinL, Option.toList_some, Option.toList_some, Option.toList_some, e1, List.zip_append (by simp; omega), List.map_append]
  rfl
theorem joinL_len (ts : List TblS) (a : List MgS) (ac : List Int) (b : List MgS) (bc : List Int) : (joinL ts a ac b bc).length = min ts.length (min a.length b.length) := by simp [joinL]
theorem jnG_len {t : TblS} {g h : MgS} {ac bc : List Int} (ht : TotK (g.marks ++ h.marks)) (h1 : g.marks.length ≤ 100) (h2 : h.marks.length ≤ 100) : (jnG t g ac h bc).marks.length ≤ 200 := by
  have a1 := (union_ex _ _ ht).2.2
  have a2 := (union_ex _ _ (totK_own ht bc ac)).2.2
  have a3 := ownF_len g.marks h.marks bc
  have a4 := ownF_len h.marks g.marks ac
  unfold jnG
  split
  · simp; omega
  · split <;> (simp only; omega)
theorem joinC_ne {ac bc : List Int} (h : AlikeC [ac, bc]) : joinC ac bc ≠ [] := by
  have h2 := (alike2 ac bc).1 h
  have h3 := h2.1.2
  have h4 := h2.2.1.2
  intro e
  simp [joinC, zipC] at e
  rcases e with rfl | rfl
  · simp at h3
  · simp at h4
/-- Not too many marks. -/
def SmK (l : List MgS) : Prop := ∀ g ∈ l, g.marks.length ≤ 100
set_option maxHeartbeats 4000000 in
theorem joinP_o (m : ModS) (a b : List MgS) (ac bc : List Int) (hm : MOK m) (hok : JoinOK m a ac b bc) (hka : SmK a) (hkb : SmK b) :
    CallA Tryz.prog 33 [mdl m, mgs a, ints ac, mgs b, ints bc] [] fun r o => ∃ v, r = .tup [.ow v, it 0] ∧ o = [arrR v 44 3 (joinL (mrgF m) a ac b bc) mgC] := by
  obtain ⟨h1, h2, h3, h4⟩ := hok
  have hva := validM_p m a hm.lay
  have hvb := validM_p m b hm.lay
  have hjn := join_z h3
  have hne := joinC_ne h3
  have hce := cells_p m hm.lay
  have hla := h1.1
  have hlb := h2.1
  have hm20 := hm.mrg
  refine CallA.of pg ord33 Tryz.func33 rfl Tryz.ntmps33 Tryz.results33 rfl fun h0 G0 O0 => ?_
  repeat' (first | refine Sp.h ?_ | refine Lk.r rfl ?_ | refine Rf.mk rfl ?_ | (apply Bd.t; (focus (first | assumption | omega | rfl))) | (refine All.mk ?_; intro _) | (apply TkB.r; (focus (repeat (first | exact Take.here | apply Take.there)))) | refine Ch.l ⟨rfl, rfl⟩ ?_ | (apply Fk.r; (focus (repeat (first | exact FillA.nil | (apply FillA.agg; (focus rfl); (focus rfl); (focus (repeat (first | exact SetAs.z | (apply SetAs.c; (focus (repeat (first | assumption | exact SetA.z | apply SetA.s)))))))) | (apply FillA.one; (focus rfl); (focus infer_instance); (focus (repeat (first | assumption | exact SetA.z | apply SetA.s)))))))) | refine Rf.mk ⟨rfl, rfl, rfl⟩ ?_ | fail | (apply Cl.p (hva); (focus ((repeat' (first | exact Lend.nil | apply Lend.keep | fail)); done))) | (apply Cl.p (hvb); (focus ((repeat' (first | exact Lend.nil | apply Lend.keep | fail)); done))))
  (apply Cl.fz; (focus repeat' (first | exact FZ.nil | (apply FZ.fz; (focus (repeat (first | exact Take.here | apply Take.there))); (focus first | omega | decide | exact Nat.le_of_ble_eq_true rfl | (simp <;> omega))) | apply FZ.agg | apply FZ.same)))
  repeat' (first | refine Sp.h ?_ | refine Lk.r rfl ?_ | refine Rf.mk rfl ?_ | (apply Bd.t; (focus (first | assumption | omega | rfl))) | (refine Bd.mk ?_ ?_ <;> intro _) | (refine Im.mk ?_; intro _) | (refine All.mk ?_; intro _) | (apply Nm.r; (focus repeat (first | apply LN.cons | exact LN.nil))) | fail | (apply Cl.p (hjn); (focus repeat' (first | exact Lend.nil | (apply Lend.mp; (focus rfl)) | fail))))
  · rename_i hbn hbt
    rw [hbn hne] at hbt; cases hbt
  have hgood : ∀ (i : Nat) g h t, a[i]? = some g → b[i]? = some h → (mrgF m)[i]? = some t → GoodK g.marks ∧ GoodK h.marks ∧ g.marks.length ≤ 100 ∧ h.marks.length ≤ 100 ∧ ¬ OddK g.marks h.marks := fun i g h t hg hh ht =>
    ⟨(h1.2 i t g ht hg).good, (h2.2 i t h ht hh).good, hka g (List.mem_of_getElem? hg), hkb h (List.mem_of_getElem? hh), fun ho => h4 ⟨i, g, h, hg, hh, ho⟩⟩
  rename_i b5 _ _ _ _ _
  refine CA.loop (fun i : Nat => ⟨[(1, mgs a), (2, ints ac), (3, mgs b), (4, ints bc), (5, pm b5), (12, .val (.slice none 0 0)), (39, it (a.length : Nat)), (40, it i)], [mR b5 m]⟩) (fun i => i ≤ a.length) (fun i => a.length - i) 0 ⟨by (repeat (first | exact trivial | refine ⟨rfl, ?_⟩)), by (repeat (first | exact Subl.nil | refine Subl.cons (by (repeat (first | exact Take.here | apply Take.there))) ?_))⟩ (Nat.zero_le _) ?_
  intro i hi
  by_cases hin : i < a.length
  · obtain ⟨g, hg⟩ := get_of hin
    obtain ⟨h, hh⟩ := get_of (l := b) (i := i) (by omega)
    obtain ⟨t, ht⟩ := get_of (l := mrgF m) (i := i) (by omega)
    obtain ⟨gg, gh, lg, lh, hno⟩ := hgood i g h t hg hh ht
    repeat' (first | refine Sp.h ?_ | refine Lk.r rfl ?_ | refine Rf.mk rfl ?_ | (apply Bd.t; (focus (first | assumption | omega | rfl))) | (refine Im.mk ?_; intro _) | (apply Ix.q; (focus exact rfl); (focus assumption)) | fail)
    refine CA.loop (fun n : Nat => ⟨[(1, mgs a), (2, ints ac), (3, mgs b), (4, ints bc), (5, pm b5), (12, .val (.slice none 0 0)), (13, it i), (39, it (a.length : Nat)), (40, it i), (47, mks g.marks), (48, it (g.marks.length : Nat)), (49, it n)], [mR b5 m]⟩) (fun n => n ≤ g.marks.length) (fun n => g.marks.length - n) 0 ⟨by (repeat (first | exact trivial | refine ⟨rfl, ?_⟩)), by (repeat (first | exact Subl.nil | refine Subl.cons (by (repeat (first | exact Take.here | apply Take.there))) ?_))⟩ (Nat.zero_le _) ?_
    intro n hn
    by_cases hnn : n < g.marks.length
    · obtain ⟨x, hx⟩ := get_of hnn
      have hfs := findS_p h bc x.rep x.num
      have hxm := List.mem_of_getElem? hx
      cases hfh : fndN h.marks x.rep x.num with
      | some y =>
        obtain ⟨hy, hyn⟩ := fndN_some hfh
        have hxy : x = y := Classical.byContradiction fun hne => hno ⟨x, hxm, y, hy, hyn, hne⟩
        subst hxy
        rw [hfh] at hfs
        have hv : [x.rep, x.num, x.time, x.val] = [x.rep, x.num, x.time, x.val] := rfl
        repeat' (first | refine Sp.h ?_ | refine Lk.r rfl ?_ | refine Rf.mk rfl ?_ | (apply Bd.t; (focus (first | assumption | omega | rfl))) | refine OpK.r rfl ?_ | (refine All.mk ?_; intro _) | (apply TkB.r; (focus (repeat (first | exact Take.here | apply Take.there)))) | (apply Ix.q; (focus exact rfl); (focus assumption)) | refine Ch.l ⟨rfl, rfl⟩ ?_ | (apply SetAsk.r; (focus (repeat (first | exact SetAs.z | (apply SetAs.c; (focus (repeat (first | assumption | exact SetA.z | apply SetA.s)))))))) | (apply Fk.r; (focus (repeat (first | exact FillA.nil | (apply FillA.agg; (focus rfl); (focus rfl); (focus (repeat (first | exact SetAs.z | (apply SetAs.c; (focus (repeat (first | assumption | exact SetA.z | apply SetA.s)))))))) | (apply FillA.one; (focus rfl); (focus infer_instance); (focus (repeat (first | assumption | exact SetA.z | apply SetA.s)))))))) | (apply Nm.r; (focus repeat (first | apply LN.cons | exact LN.nil))) | (apply Il.r; (focus repeat (first | apply ILit.cons | exact ILit.nil))) | (apply Kf.mk; (focus kernel_rfl)) | (apply CA.draw; (focus rfl); (focus kernel_rfl); (focus kernel_rfl); (focus repeat' (first | apply ON.one | exact ON.done | exact ON.none | apply ON.alt)); (focus rfl)) | exact trivial | apply RA'.both | (apply Ov.n; (focus first | omega | (simp <;> omega))) | fail | (apply Cl.p (dot_p x); (focus ((repeat' (first | exact Lend.nil | apply Lend.keep | fail)); done))) | (apply Cl.p (hfs); (focus ((repeat' (first | exact Lend.nil | apply Lend.keep | fail)); done))))
        all_goals exact PA.lp (n + 1) ⟨by (repeat (first | exact trivial | refine ⟨rfl, ?_⟩)), by (repeat (first | exact Subl.nil | refine Subl.cons (by (repeat (first | exact Take.here | apply Take.there))) ?_))⟩ ⟨hnn, by omega⟩
      | none =>
        rw [hfh] at hfs
        repeat' (first | refine Sp.h ?_ | refine Lk.r rfl ?_ | refine Rf.mk rfl ?_ | (apply Bd.t; (focus (first | assumption | omega | rfl))) | (apply Bd.f; (focus (first | assumption | omega | exact Bool.false_ne_true))) | refine OpK.r rfl ?_ | (refine All.mk ?_; intro _) | (apply TkB.r; (focus (repeat (first | exact Take.here | apply Take.there)))) | (apply Ix.q; (focus exact rfl); (focus assumption)) | refine Ch.l ⟨rfl, rfl⟩ ?_ | (apply SetAsk.r; (focus (repeat (first | exact SetAs.z | (apply SetAs.c; (focus (repeat (first | assumption | exact SetA.z | apply SetA.s)))))))) | (apply Fk.r; (focus (repeat (first | exact FillA.nil | (apply FillA.agg; (focus rfl); (focus rfl); (focus (repeat (first | exact SetAs.z | (apply SetAs.c; (focus (repeat (first | assumption | exact SetA.z | apply SetA.s)))))))) | (apply FillA.one; (focus rfl); (focus infer_instance); (focus (repeat (first | assumption | exact SetA.z | apply SetA.s)))))))) | (apply Nm.r; (focus repeat (first | apply LN.cons | exact LN.nil))) | (apply CA.draw; (focus rfl); (focus kernel_rfl); (focus kernel_rfl); (focus repeat' (first | apply ON.one | exact ON.done | exact ON.none | apply ON.alt)); (focus rfl)) | exact trivial | apply RA'.both | (apply Ov.n; (focus first | omega | (simp <;> omega))) | fail | (apply Cl.p (dot_p x); (focus ((repeat' (first | exact Lend.nil | apply Lend.keep | fail)); done))) | (apply Cl.p (hfs); (focus ((repeat' (first | exact Lend.nil | apply Lend.keep | fail)); done))))
        all_goals exact PA.lp (n + 1) ⟨by (repeat (first | exact trivial | refine ⟨rfl, ?_⟩)), by (repeat (first | exact Subl.nil | refine Subl.cons (by (repeat (first | exact Take.here | apply Take.there))) ?_))⟩ ⟨hnn, by omega⟩
    · have hne : n = g.marks.length := by omega
      subst hne
      repeat' (first | refine Sp.h ?_ | refine Lk.r rfl ?_ | refine Rf.mk rfl ?_ | (apply Bd.f; (focus (first | assumption | omega | exact Bool.false_ne_true))) | (apply Ov.n; (focus first | omega | (simp <;> omega))) | fail)
      exact PA.lp (i + 1) ⟨by (repeat (first | exact trivial | refine ⟨rfl, ?_⟩)), by (repeat (first | exact Subl.nil | refine Subl.cons (by (repeat (first | exact Take.here | apply Take.there))) ?_))⟩ ⟨hin, by omega⟩
  have hie : i = a.length := by omega
  subst hie
  repeat' (first | refine Sp.h ?_ | refine Lk.r rfl ?_ | refine Rf.mk rfl ?_ | (apply Bd.f; (focus (first | assumption | omega | exact Bool.false_ne_true))) | (refine Im.mk ?_; intro _) | (apply TkB.r; (focus (repeat (first | exact Take.here | apply Take.there)))) | refine Ch.l ⟨rfl, rfl⟩ ?_ | fail | (apply Cl.p (hce); (focus repeat' (first | exact Lend.nil | apply Lend.keep | fail))))
  refine CA.nilOwn 12 44 3 mgC rfl fun v => ?_
  refine CA.loop (fun x : Nat × Value => ⟨[(1, mgs a), (2, ints ac), (3, mgs b), (4, ints bc), (12, .ow x.2), (74, tbls (mrgF m)), (75, it ((mrgF m).length : Nat)), (76, it x.1)], [arrR x.2 44 3 (joinL ((mrgF m).take x.1) (a.take x.1) ac (b.take x.1) bc) mgC]⟩) (fun x => x.1 ≤ (mrgF m).length) (fun x => (mrgF m).length - x.1) (0, v) ⟨by (repeat (first | exact trivial | refine ⟨rfl, ?_⟩)), by (repeat (first | exact Subl.nil | refine Subl.cons (by (repeat (first | exact Take.here | apply Take.there))) ?_))⟩ (Nat.zero_le _) ?_
  rintro ⟨i, w⟩ hi
  simp only at hi
  simp only
  by_cases hin : i < (mrgF m).length
  · obtain ⟨t, ht⟩ := get_of hin
    obtain ⟨g, hg⟩ := get_of (l := a) (i := i) (by omega)
    obtain ⟨h, hh⟩ := get_of (l := b) (i := i) (by omega)
    obtain ⟨gg, gh, lg, lh, hno⟩ := hgood i g h t hg hh ht
    have hto := totK_of gg gh hno
    have hj := join_p t g h ac bc hto (by omega) (by omega)
    have hjl := jnG_len (t := t) (ac := ac) (bc := bc) hto lg lh
    have hsu := joinL_succ (ac := ac) (bc := bc) ht hg hh
    have hln := joinL_len ((mrgF m).take i) (a.take i) ac (b.take i) bc
    rw [List.length_take] at hln
    repeat' (first | refine Sp.h ?_ | refine Lk.r rfl ?_ | refine Rf.mk rfl ?_ | (apply Bd.t; (focus (first | assumption | omega | rfl))) | (apply Bd.f; (focus (first | assumption | omega | exact Bool.false_ne_true))) | refine OpK.r rfl ?_ | (apply Om.mk; (focus first | omega | (simp <;> omega))) | (refine Im.mk ?_; intro _) | (refine All.mk ?_; intro _) | (apply TkA.r; (focus (repeat (first | exact Take.here | apply Take.there)))) | (apply TkB.r; (focus (repeat (first | exact Take.here | apply Take.there)))) | (apply Ix.q; (focus exact rfl); (focus assumption)) | refine Ce.r ?_ | refine Ch.l ⟨rfl, rfl⟩ ?_ | (apply SetAsk.r; (focus (repeat (first | exact SetAs.z | (apply SetAs.c; (focus (repeat (first | assumption | exact SetA.z | apply SetA.s)))))))) | (apply Fk.r; (focus (repeat (first | exact FillA.nil | (apply FillA.agg; (focus rfl); (focus rfl); (focus (repeat (first | exact SetAs.z | (apply SetAs.c; (focus (repeat (first | assumption | exact SetA.z | apply SetA.s)))))))) | (apply FillA.one; (focus rfl); (focus infer_instance); (focus (repeat (first | assumption | exact SetA.z | apply SetA.s)))))))) | (apply Nm.r; (focus repeat (first | apply LN.cons | exact LN.nil))) | refine Rf.mk ⟨rfl, rfl⟩ ?_ | refine Rf.mk ⟨rfl, rfl, rfl⟩ ?_ | (apply Mp.lit; (focus repeat (first | exact MpL.nil | (apply MpL.cons; (focus rfl)) | (apply MpL.inv; (focus repeat (first | apply LN.cons | exact LN.nil)); (focus infer_instance))))) | (apply CA.draw; (focus rfl); (focus kernel_rfl); (focus kernel_rfl); (focus repeat' (first | apply ON.one | exact ON.done | exact ON.none | apply ON.alt)); (focus rfl)) | exact trivial | apply RA'.both | (apply Ov.n; (focus first | omega | (simp <;> omega))) | fail | (apply Cl.p (hj); (focus repeat' (first | exact Lend.nil | apply Lend.keep | fail))))
    all_goals rw [← hsu]
    all_goals exact PA.lp (i + 1, _) ⟨by (repeat (first | exact trivial | refine ⟨rfl, ?_⟩)), by (repeat (first | exact Subl.nil | refine Subl.cons (by (repeat (first | exact Take.here | apply Take.there))) ?_))⟩ ⟨hin, by simp only; omega⟩
  · have hie : i = (mrgF m).length := by omega
    subst hie
    rw [List.take_length, List.take_of_length_le (l := a) (by omega), List.take_of_length_le (l := b) (by omega)]
    repeat' (first | refine Sp.h ?_ | refine Lk.r rfl ?_ | refine Rf.mk rfl ?_ | (apply Bd.f; (focus (first | assumption | omega | exact Bool.false_ne_true))) | (apply Nm.r; (focus repeat (first | apply LN.cons | exact LN.nil))) | fail)
    exact ⟨_, _, .tup (.same (.same (.nil (by (repeat (first | exact Subl.nil | refine Subl.cons (by (repeat (first | exact Take.here | apply Take.there))) ?_)))))), _, rfl, rfl⟩
end Go.Proofs.YtpgpdmmobblffaaGreat
namespace Go.Proofs.YtpgpdmmobblffaaGreat
open Go Go.CF
set_option maxRecDepth 20000
set_option maxHeartbeats 4000000 in
theorem joinP_e (m : ModS) (a b : List MgS) (ac bc : List Int) (hm : MOK m) (hno : ¬ JoinOK m a ac b bc) (hka : SmK a) :
    CallA Tryz.prog 33 [mdl m, mgs a, ints ac, mgs b, ints bc] [] fun r o => r = .tup [.val (.slice none 0 0), it 1] ∧ o = [] := by
  have hva := validM_p m a hm.lay
  have hvb := validM_p m b hm.lay
  by_cases h1 : ValL (mrgF m) a
  rotate_left
  · refine CallA.of pg ord33 Tryz.func33 rfl Tryz.ntmps33 Tryz.results33 rfl fun h0 G0 O0 => ?_
    repeat' (first | refine Sp.h ?_ | refine Lk.r rfl ?_ | refine Rf.mk rfl ?_ | (apply Bd.f; (focus (first | assumption | omega | exact Bool.false_ne_true))) | (refine All.mk ?_; intro _) | (apply TkB.r; (focus (repeat (first | exact Take.here | apply Take.there)))) | refine Ch.l ⟨rfl, rfl⟩ ?_ | (apply Nm.r; (focus repeat (first | apply LN.cons | exact LN.nil))) | fail | (apply Cl.p (hva); (focus ((repeat' (first | exact Lend.nil | apply Lend.keep | fail)); done))) | (apply Cl.p (hvb); (focus ((repeat' (first | fail)); done))))
    all_goals exact Fin.p rfl rfl
  by_cases h2 : ValL (mrgF m) b
  rotate_left
  · refine CallA.of pg ord33 Tryz.func33 rfl Tryz.ntmps33 Tryz.results33 rfl fun h0 G0 O0 => ?_
    repeat' (first | refine Sp.h ?_ | refine Lk.r rfl ?_ | refine Rf.mk rfl ?_ | (apply Bd.t; (focus (first | assumption | omega | rfl))) | (apply Bd.f; (focus (first | assumption | omega | exact Bool.false_ne_true))) | (refine All.mk ?_; intro _) | (apply TkB.r; (focus (repeat (first | exact Take.here | apply Take.there)))) | refine Ch.l ⟨rfl, rfl⟩ ?_ | (apply Nm.r; (focus repeat (first | apply LN.cons | exact LN.nil))) | fail | (apply Cl.p (hva); (focus ((repeat' (first | exact Lend.nil | apply Lend.keep | fail)); done))) | (apply Cl.p (hvb); (focus ((repeat' (first | exact Lend.nil | apply Lend.keep | fail)); done))))
    all_goals exact Fin.p rfl rfl
  by_cases h3 : AlikeC [ac, bc]
  rotate_left
  · have hjn := join_nil _ h3
    refine CallA.of pg ord33 Tryz.func33 rfl Tryz.ntmps33 Tryz.results33 rfl fun h0 G0 O0 => ?_
    repeat' (first | refine Sp.h ?_ | refine Lk.r rfl ?_ | refine Rf.mk rfl ?_ | (apply Bd.t; (focus (first | assumption | omega | rfl))) | (refine All.mk ?_; intro _) | (apply TkB.r; (focus (repeat (first | exact Take.here | apply Take.there)))) | refine Ch.l ⟨rfl, rfl⟩ ?_ | (apply Fk.r; (focus (repeat (first | exact FillA.nil | (apply FillA.agg; (focus rfl); (focus rfl); (focus (repeat (first | exact SetAs.z | (apply SetAs.c; (focus (repeat (first | assumption | exact SetA.z | apply SetA.s)))))))) | (apply FillA.one; (focus rfl); (focus infer_instance); (focus (repeat (first | assumption | exact SetA.z | apply SetA.s)))))))) | refine Rf.mk ⟨rfl, rfl, rfl⟩ ?_ | fail | (apply Cl.p (hva); (focus ((repeat' (first | exact Lend.nil | apply Lend.keep | fail)); done))) | (apply Cl.p (hvb); (focus ((repeat' (first | exact Lend.nil | apply Lend.keep | fail)); done))))
    (apply Cl.fz; (focus repeat' (first | exact FZ.nil | (apply FZ.fz; (focus (repeat (first | exact Take.here | apply Take.there))); (focus first | omega | decide | exact Nat.le_of_ble_eq_true rfl | (simp <;> omega))) | apply FZ.agg | apply FZ.same)))
    repeat' (first | refine Sp.h ?_ | refine Lk.r rfl ?_ | refine Rf.mk rfl ?_ | (apply Bd.t; (focus (first | assumption | omega | rfl))) | (apply Nm.r; (focus repeat (first | apply LN.cons | exact LN.nil))) | fail | (apply Cl.p (hjn); (focus repeat' (first | exact Lend.nil | (apply Lend.mp; (focus rfl)) | fail))))
    all_goals exact Fin.p rfl rfl
  have h4 : OddL a b := Classical.byContradiction fun h => hno ⟨h1, h2, h3, h⟩
  have hjn := join_z h3
  have hne := joinC_ne h3
  have hla := h1.1
  have hlb := h2.1
  have hm20 := hm.mrg
  refine CallA.of pg ord33 Tryz.func33 rfl Tryz.ntmps33 Tryz.results33 rfl fun h0 G0 O0 => ?_
  repeat' (first | refine Sp.h ?_ | refine Lk.r rfl ?_ | refine Rf.mk rfl ?_ | (apply Bd.t; (focus (first | assumption | omega | rfl))) | (refine All.mk ?_; intro _) | (apply TkB.r; (focus (repeat (first | exact Take.here | apply Take.there)))) | refine Ch.l ⟨rfl, rfl⟩ ?_ | (apply Fk.r; (focus (repeat (first | exact FillA.nil | (apply FillA.agg; (focus rfl); (focus rfl); (focus (repeat (first | exact SetAs.z | (apply SetAs.c; (focus (repeat (first | assumption | exact SetA.z | apply SetA.s)))))))) | (apply FillA.one; (focus rfl); (focus infer_instance); (focus (repeat (first | assumption | exact SetA.z | apply SetA.s)))))))) | refine Rf.mk ⟨rfl, rfl, rfl⟩ ?_ | fail | (apply Cl.p (hva); (focus ((repeat' (first | exact Lend.nil | apply Lend.keep | fail)); done))) | (apply Cl.p (hvb); (focus ((repeat' (first | exact Lend.nil | apply Lend.keep | fail)); done))))
  (apply Cl.fz; (focus repeat' (first | exact FZ.nil | (apply FZ.fz; (focus (repeat (first | exact Take.here | apply Take.there))); (focus first | omega | decide | exact Nat.le_of_ble_eq_true rfl | (simp <;> omega))) | apply FZ.agg | apply FZ.same)))
  repeat' (first | refine Sp.h ?_ | refine Lk.r rfl ?_ | refine Rf.mk rfl ?_ | (apply Bd.t; (focus (first | assumption | omega | rfl))) | (refine Bd.mk ?_ ?_ <;> intro _) | (refine Im.mk ?_; intro _) | (refine All.mk ?_; intro _) | (apply Nm.r; (focus repeat (first | apply LN.cons | exact LN.nil))) | fail | (apply Cl.p (hjn); (focus repeat' (first | exact Lend.nil | (apply Lend.mp; (focus rfl)) | fail))))
  · rename_i hbn hbt
    rw [hbn hne] at hbt; cases hbt
  have hgood : ∀ (i : Nat) g h t, a[i]? = some g → b[i]? = some h → (mrgF m)[i]? = some t → GoodK g.marks ∧ GoodK h.marks ∧ g.marks.length ≤ 100 := fun i g h t hg hh ht =>
    ⟨(h1.2 i t g ht hg).good, (h2.2 i t h ht hh).good, hka g (List.mem_of_getElem? hg)⟩
  rename_i b5 _ _ _ _ _
  refine CA.loop (fun i : Nat => ⟨[(1, mgs a), (2, ints ac), (3, mgs b), (4, ints bc), (5, pm b5), (12, .val (.slice none 0 0)), (39, it (a.length : Nat)), (40, it i)], [mR b5 m]⟩) (fun i => i ≤ a.length ∧ ∀ (j : Nat) (g h : MgS), j < i → a[j]? = some g → b[j]? = some h → ¬ OddK g.marks h.marks) (fun i => a.length - i) 0 ⟨by (repeat (first | exact trivial | refine ⟨rfl, ?_⟩)), by (repeat (first | exact Subl.nil | refine Subl.cons (by (repeat (first | exact Take.here | apply Take.there))) ?_))⟩ ⟨Nat.zero_le _, fun j g h hj => by omega⟩ ?_
  rintro i ⟨hi, hal⟩
  by_cases hin : i < a.length
  · obtain ⟨g, hg⟩ := get_of hin
    obtain ⟨h, hh⟩ := get_of (l := b) (i := i) (by omega)
    obtain ⟨t, ht⟩ := get_of (l := mrgF m) (i := i) (by omega)
    obtain ⟨gg, gh, lg⟩ := hgood i g h t hg hh ht
    repeat' (first | refine Sp.h ?_ | refine Lk.r rfl ?_ | refine Rf.mk rfl ?_ | (apply Bd.t; (focus (first | assumption | omega | rfl))) | (refine Im.mk ?_; intro _) | (apply Ix.q; (focus exact rfl); (focus assumption)) | fail)
    refine CA.loop (fun n : Nat => ⟨[(1, mgs a), (2, ints ac), (3, mgs b), (4, ints bc), (5, pm b5), (12, .val (.slice none 0 0)), (13, it i), (39, it (a.length : Nat)), (40, it i), (47, mks g.marks), (48, it (g.marks.length : Nat)), (49, it n)], [mR b5 m]⟩) (fun n => n ≤ g.marks.length ∧ ∀ x ∈ g.marks.take n, ∀ y ∈ h.marks, Nm y x → x = y) (fun n => g.marks.length - n) 0 ⟨by (repeat (first | exact trivial | refine ⟨rfl, ?_⟩)), by (repeat (first | exact Subl.nil | refine Subl.cons (by (repeat (first | exact Take.here | apply Take.there))) ?_))⟩ ⟨Nat.zero_le _, by simp⟩ ?_
    rintro n ⟨hn, han⟩
    by_cases hnn : n < g.marks.length
    · obtain ⟨x, hx⟩ := get_of hnn
      have hfs := findS_p h bc x.rep x.num
      cases hfh : fndN h.marks x.rep x.num with
      | some y =>
        obtain ⟨hy, hyn⟩ := fndN_some hfh
        rw [hfh] at hfs
        by_cases hxy : x = y
        · subst hxy
          have hv : [x.rep, x.num, x.time, x.val] = [x.rep, x.num, x.time, x.val] := rfl
          repeat' (first | refine Sp.h ?_ | refine Lk.r rfl ?_ | refine Rf.mk rfl ?_ | (apply Bd.t; (focus (first | assumption | omega | rfl))) | refine OpK.r rfl ?_ | (refine All.mk ?_; intro _) | (apply TkB.r; (focus (repeat (first | exact Take.here | apply Take.there)))) | (apply Ix.q; (focus exact rfl); (focus assumption)) | refine Ch.l ⟨rfl, rfl⟩ ?_ | (apply SetAsk.r; (focus (repeat (first | exact SetAs.z | (apply SetAs.c; (focus (repeat (first | assumption | exact SetA.z | apply SetA.s)))))))) | (apply Fk.r; (focus (repeat (first | exact FillA.nil | (apply FillA.agg; (focus rfl); (focus rfl); (focus (repeat (first | exact SetAs.z | (apply SetAs.c; (focus (repeat (first | assumption | exact SetA.z | apply SetA.s)))))))) | (apply FillA.one; (focus rfl); (focus infer_instance); (focus (repeat (first | assumption | exact SetA.z | apply SetA.s)))))))) | (apply Nm.r; (focus repeat (first | apply LN.cons | exact LN.nil))) | (apply Il.r; (focus repeat (first | apply ILit.cons | exact ILit.nil))) | (apply Kf.mk; (focus kernel_rfl)) | (apply CA.draw; (focus rfl); (focus kernel_rfl); (focus kernel_rfl); (focus repeat' (first | apply ON.one | exact ON.done | exact ON.none | apply ON.alt)); (focus rfl)) | exact trivial | apply RA'.both | (apply Ov.n; (focus first | omega | (simp <;> omega))) | fail | (apply Cl.p (dot_p x); (focus ((repeat' (first | exact Lend.nil | apply Lend.keep | fail)); done))) | (apply Cl.p (hfs); (focus ((repeat' (first | exact Lend.nil | apply Lend.keep | fail)); done))))
          all_goals exact PA.lp (n + 1) ⟨by (repeat (first | exact trivial | refine ⟨rfl, ?_⟩)), by (repeat (first | exact Subl.nil | refine Subl.cons (by (repeat (first | exact Take.here | apply Take.there))) ?_))⟩ ⟨⟨hnn, all_succ hx han fun z hz hzn => gh.nm hy hz ⟨hzn.1.symm, hzn.2.symm⟩⟩, by omega⟩
        · have hv : ¬ [x.rep, x.num, x.time, x.val] = [y.rep, y.num, y.time, y.val] := fun h9 => hxy (by simp only [List.cons.injEq, and_true] at h9; exact mks_ext h9.1 h9.2.1 h9.2.2.1 h9.2.2.2)
          repeat' (first | refine Sp.h ?_ | refine Lk.r rfl ?_ | refine Rf.mk rfl ?_ | (apply Bd.t; (focus (first | assumption | omega | rfl))) | (apply Bd.f; (focus (first | assumption | omega | exact Bool.false_ne_true))) | refine OpK.r rfl ?_ | (refine All.mk ?_; intro _) | (apply TkB.r; (focus (repeat (first | exact Take.here | apply Take.there)))) | (apply Ix.q; (focus exact rfl); (focus assumption)) | refine Ch.l ⟨rfl, rfl⟩ ?_ | (apply SetAsk.r; (focus (repeat (first | exact SetAs.z | (apply SetAs.c; (focus (repeat (first | assumption | exact SetA.z | apply SetA.s)))))))) | (apply Fk.r; (focus (repeat (first | exact FillA.nil | (apply FillA.agg; (focus rfl); (focus rfl); (focus (repeat (first | exact SetAs.z | (apply SetAs.c; (focus (repeat (first | assumption | exact SetA.z | apply SetA.s)))))))) | (apply FillA.one; (focus rfl); (focus infer_instance); (focus (repeat (first | assumption | exact SetA.z | apply SetA.s)))))))) | (apply Nm.r; (focus repeat (first | apply LN.cons | exact LN.nil))) | (apply Il.r; (focus repeat (first | apply ILit.cons | exact ILit.nil))) | (apply Kf.mk; (focus kernel_rfl)) | (apply CA.draw; (focus rfl); (focus kernel_rfl); (focus kernel_rfl); (focus repeat' (first | apply ON.one | exact ON.done | exact ON.none | apply ON.alt)); (focus rfl)) | exact trivial | apply RA'.both | fail | (apply Cl.p (dot_p x); (focus ((repeat' (first | exact Lend.nil | apply Lend.keep | fail)); done))) | (apply Cl.p (hfs); (focus ((repeat' (first | exact Lend.nil | apply Lend.keep | fail)); done))))
          all_goals exact Fin.p rfl rfl
      | none =>
        rw [hfh] at hfs
        have hno : ¬ HasNm h.marks x := fun h9 => by have := fndN_has.2 h9; rw [hfh] at this; cases this
        repeat' (first | refine Sp.h ?_ | refine Lk.r rfl ?_ | refine Rf.mk rfl ?_ | (apply Bd.t; (focus (first | assumption | omega | rfl))) | (apply Bd.f; (focus (first | assumption | omega | exact Bool.false_ne_true))) | refine OpK.r rfl ?_ | (refine All.mk ?_; intro _) | (apply TkB.r; (focus (repeat (first | exact Take.here | apply Take.there)))) | (apply Ix.q; (focus exact rfl); (focus assumption)) | refine Ch.l ⟨rfl, rfl⟩ ?_ | (apply SetAsk.r; (focus (repeat (first | exact SetAs.z | (apply SetAs.c; (focus (repeat (first | assumption | exact SetA.z | apply SetA.s)))))))) | (apply Fk.r; (focus (repeat (first | exact FillA.nil | (apply FillA.agg; (focus rfl); (focus rfl); (focus (repeat (first | exact SetAs.z | (apply SetAs.c; (focus (repeat (first | assumption | exact SetA.z | apply SetA.s)))))))) | (apply FillA.one; (focus rfl); (focus infer_instance); (focus (repeat (first | assumption | exact SetA.z | apply SetA.s)))))))) | (apply Nm.r; (focus repeat (first | apply LN.cons | exact LN.nil))) | (apply CA.draw; (focus rfl); (focus kernel_rfl); (focus kernel_rfl); (focus repeat' (first | apply ON.one | exact ON.done | exact ON.none | apply ON.alt)); (focus rfl)) | exact trivial | apply RA'.both | (apply Ov.n; (focus first | omega | (simp <;> omega))) | fail | (apply Cl.p (dot_p x); (focus ((repeat' (first | exact Lend.nil | apply Lend.keep | fail)); done))) | (apply Cl.p (hfs); (focus ((repeat' (first | exact Lend.nil | apply Lend.keep | fail)); done))))
        all_goals exact PA.lp (n + 1) ⟨by (repeat (first | exact trivial | refine ⟨rfl, ?_⟩)), by (repeat (first | exact Subl.nil | refine Subl.cons (by (repeat (first | exact Take.here | apply Take.there))) ?_))⟩ ⟨⟨hnn, all_succ hx han fun z hz hzn => absurd ⟨z, hz, hzn⟩ hno⟩, by omega⟩
    · have hne : n = g.marks.length := by omega
      subst hne
      rw [List.take_length] at han
      repeat' (first | refine Sp.h ?_ | refine Lk.r rfl ?_ | refine Rf.mk rfl ?_ | (apply Bd.f; (focus (first | assumption | omega | exact Bool.false_ne_true))) | (apply Ov.n; (focus first | omega | (simp <;> omega))) | fail)
      refine PA.lp (i + 1) ⟨by (repeat (first | exact trivial | refine ⟨rfl, ?_⟩)), by (repeat (first | exact Subl.nil | refine Subl.cons (by (repeat (first | exact Take.here | apply Take.there))) ?_))⟩ ⟨⟨hin, fun j g' h' hj hg' hh' => ?_⟩, by omega⟩
      by_cases hji : j = i
      · subst hji
        rw [hg] at hg'; rw [hh] at hh'; cases hg'; cases hh'
        rintro ⟨x, hx, y, hy, hn, hne⟩
        exact hne (han x hx y hy hn)
      · exact hal j g' h' (by omega) hg' hh'
  · exfalso
    obtain ⟨j, g, h, hg, hh, ho⟩ := h4
    exact hal j g h (by have := (List.getElem?_eq_some_iff.1 hg).1; omega) hg hh ho
theorem joinL_at {ts : List TblS} {a b : List MgS} {ac bc : List Int} {i : Nat} {t : TblS} {g h : MgS} (ht : ts[i]? = some t) (hg : a[i]? = some g) (hh : b[i]? = some h) : (joinL ts a ac b bc)[i]? = some (jnG t g ac h bc) := by
  have e1 : (a.zip b)[i]? = some (g, h) := (List.getElem?_zip_eq_some (z := (g, h))).2 ⟨hg, hh⟩
  rw [joinL, List.getElem?_map, (List.getElem?_zip_eq_some (z := (t, (g, h)))).2 ⟨ht, e1⟩]; rfl
theorem joinP_p (m : ModS) (a b : List MgS) (ac bc : List Int) (hm : MOK m) (hka : SmK a) (hkb : SmK b) :
    CallP Tryz.prog 33 [mdl m, mgs a, ints ac, mgs b, ints bc] (resG (joinQ m a ac b bc)) := by
  by_cases hok : JoinOK m a ac b bc
  · rw [joinQ_ok hok]
    refine CallA.fzt (T := 44) (by have := hm.mrg; rw [joinL_len]; omega) (joinP_o m a b ac bc hm hok hka hkb)
  · rw [joinQ_bad hok]
    exact CallA.conv (a := .tup [.val (.slice none 0 0), it 1]) (.tup (.cons ALe.nil (.cons (ALe.refl _) .nil))) (joinP_e m a b ac bc hm hok hka)
end Go.Proofs.YtpgpdmmobblffaaGreat
namespace Go.Proofs.YtpgpdmmobblffaaGreat
open Go Go.CF
set_option maxRecDepth 20000
theorem u00 : unionF [] [] = [] := canK_eq .nil (by simp)
theorem ux0 (x : MkS) : unionF [x] [] = [x] := canK_eq (by simp) (by simp)
theorem u0x (x : MkS) : unionF [] [x] = [x] := canK_eq (by simp) (by simp)
theorem uxx (x : MkS) : unionF [x] [x] = [x] := canK_eq (by simp) (by simp)
theorem uxy {x y : MkS} (h : LtK x y) : unionF [x] [y] = [x, y] := canK_eq (by simp [h]) (by simp)
theorem uyx {x y : MkS} (h : LtK y x) : unionF [x] [y] = [y, x] := canK_eq (by simp [h]) (by simp [or_comm])
end Go.Proofs.YtpgpdmmobblffaaGreat
