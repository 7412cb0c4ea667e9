/- Part 11 of the ground of this proof: what its texts say of the model, the program and the plain data; conditions: those that are named. -/
import Derived.Test.YtmllihbhphnolaaGreatP10
namespace Go.Proofs.YtmllihbhphnolaaGreat
open Go Go.CF
set_option maxRecDepth 20000
structure SuitS (m : ModS) (ld : List Int) (l : List EvS) : Prop where
  e : SuitE m l
  ne : 0 < l.length
  ln : ld.length = strF m
  ld : ∀ x ∈ ld, -1000 ≤ x ∧ x ≤ 1000
  sm : ∀ a ∈ m.acts, ∀ p ∈ a.eff.delta, -1000 ≤ p.2 ∧ p.2 ≤ 1000
theorem SuitS.smd {m : ModS} {ld : List Int} {l : List EvS} (h : SuitS m ld l) : SmD m := fun a ha => ⟨(h.e.1.eff a ha).dl, h.sm a ha⟩
set_option maxHeartbeats 8000000 in
theorem suits35_c (m : ModS) (ld : List Int) (l : List EvS) : CallF Tryz.prog 14 [mdl m, ints ld, evs l] (SuitS m ld l) := by
  have hfe := few32_c m l
  refine CallA.of pg ord14 Tryz.func14 rfl Tryz.ntmps14 Tryz.results14 rfl fun h0 G0 O0 => ?_
  repeat' (first|refine Sp.h ?_|refine Lk.r rfl ?_|refine Rf.mk rfl ?_|(refine All.mk ?_;intro _)|(apply TkB.r;(focus repeat first|exact .here|apply Take.there))|refine Ch.l ⟨rfl, rfl⟩ ?_|fail)
  rename_i b3
  (apply Cl.use (hfe);(focus repeat' (first|exact Lend.nil|apply Lend.keep|fail));(focus (repeat (first|exact Takes.nil|(apply Takes.cons;(focus repeat first|exact .here|apply Take.there)))));(focus rfl))
  rintro _ _ ⟨b, rfl, rfl, h1⟩
  cases b
  · repeat' (first|refine Sp.h ?_|refine Lk.r rfl ?_|refine Rf.mk rfl ?_|(apply Bd.f;(focus first|assumption|omega|exact Bool.false_ne_true))|(apply Nm.r;focus repeat first|apply LN.cons|exact LN.nil)|fail)
    exact ⟨_, _, .one (.same (.nil (by (repeat first|exact .nil|refine .cons (by repeat first|exact .here|apply Take.there) ?_)))), _, rfl, rfl, fun h => by cases h⟩
  obtain ⟨hm, hf⟩ := h1 rfl
  have hcl := closed_p l
  have hst := strict32_p m hm.lay
  have hmg := merged32_p m hm.lay
  by_cases hl0 : l.length = 0
  · repeat' (first|refine Sp.h ?_|refine Lk.r rfl ?_|refine Rf.mk rfl ?_|(apply Bd.t;(focus first|assumption|omega|rfl))|(refine Im.mk ?_;intro _)|(apply Nm.r;focus repeat first|apply LN.cons|exact LN.nil)|fail)
    exact ⟨_, _, .one (.same (.nil (by (repeat first|exact .nil|refine .cons (by repeat first|exact .here|apply Take.there) ?_)))), _, rfl, rfl, fun h => by cases h⟩
  by_cases hc : ClosedE l
  rotate_left
  · rw [decide_eq_false hc] at hcl
    repeat' (first|refine Sp.h ?_|refine Lk.r rfl ?_|refine Rf.mk rfl ?_|(apply Bd.t;(focus first|assumption|omega|rfl))|(apply Bd.f;(focus first|assumption|omega|exact Bool.false_ne_true))|(refine Im.mk ?_;intro _)|(apply Nm.r;focus repeat first|apply LN.cons|exact LN.nil)|(apply Cl.p (hcl);(focus ((repeat' (first|exact Lend.nil|apply Lend.keep|fail));done)))|(apply Cl.p (hst);(focus ((repeat' (first|exact Lend.nil|apply Lend.keep|fail));done))))
    exact ⟨_, _, .one (.same (.nil (by (repeat first|exact .nil|refine .cons (by repeat first|exact .here|apply Take.there) ?_)))), _, rfl, rfl, fun h => by cases h⟩
  rw [decide_eq_true hc] at hcl
  by_cases hln : ld.length = strF m
  rotate_left
  · repeat' (first|refine Sp.h ?_|refine Lk.r rfl ?_|refine Rf.mk rfl ?_|(apply Bd.t;(focus first|assumption|omega|rfl))|(apply Bd.f;(focus first|assumption|omega|exact Bool.false_ne_true))|(refine Im.mk ?_;intro _)|(apply TkB.r;(focus repeat first|exact .here|apply Take.there))|refine Ch.l ⟨rfl, rfl⟩ ?_|(apply Nm.r;focus repeat first|apply LN.cons|exact LN.nil)|(apply Cl.p (hcl);(focus ((repeat' (first|exact Lend.nil|apply Lend.keep|fail));done)))|(apply Cl.p (hst);(focus ((repeat' (first|exact Lend.nil|apply Lend.keep|fail));done))))
    exact ⟨_, _, .one (.same (.nil (by (repeat first|exact .nil|refine .cons (by repeat first|exact .here|apply Take.there) ?_)))), _, rfl, rfl, fun h => by cases h⟩
  repeat' (first|refine Sp.h ?_|refine Lk.r rfl ?_|refine Rf.mk rfl ?_|(apply Bd.t;(focus first|assumption|omega|rfl))|(apply Bd.f;(focus first|assumption|omega|exact Bool.false_ne_true))|(refine Im.mk ?_;intro _)|(apply TkB.r;(focus repeat first|exact .here|apply Take.there))|refine Ch.l ⟨rfl, rfl⟩ ?_|(apply Cl.p (hcl);(focus ((repeat' (first|exact Lend.nil|apply Lend.keep|fail));done)))|(apply Cl.p (hst);(focus ((repeat' (first|exact Lend.nil|apply Lend.keep|fail));done))))
  refine CA.loop (fun i : Nat => ⟨[(2, evs l), (3, pm b3), (40, ints ld), (41, it (ld.length : Nat)), (42, it i)], [mR b3 m]⟩) (fun i => i ≤ ld.length ∧ ∀ x ∈ ld.take i, -1000 ≤ x ∧ x ≤ 1000) (fun i => ld.length - i) 0 ⟨by repeat first|trivial|refine ⟨rfl,?_⟩,by repeat first|exact .nil|refine .cons (by repeat first|exact .here|apply Take.there) ?_⟩ ⟨Nat.zero_le _, by simp⟩ ?_
  rintro i ⟨hi, ha⟩
  by_cases hin : i < ld.length
  · obtain ⟨x, hx⟩ := get_of hin
    repeat' (first|refine Sp.h ?_|refine Lk.r rfl ?_|refine Rf.mk rfl ?_|(apply Bd.t;(focus first|assumption|omega|rfl))|(apply Bd.f;(focus first|assumption|omega|exact Bool.false_ne_true))|(refine Bd.mk ?_ ?_ <;> intro _)|(apply Ix.q;(focus exact rfl);(focus assumption))|(apply Nm.r;focus repeat first|apply LN.cons|exact LN.nil)|(apply Ov.n;(focus first|omega|(simp <;> omega)))|fail)
    all_goals first
      | exact ⟨_, _, .one (.same (.nil (by (repeat first|exact .nil|refine .cons (by repeat first|exact .here|apply Take.there) ?_)))), _, rfl, rfl, fun h => by cases h⟩
      | exact PA.lp (i + 1) ⟨by repeat first|trivial|refine ⟨rfl,?_⟩,by repeat first|exact .nil|refine .cons (by repeat first|exact .here|apply Take.there) ?_⟩ ⟨⟨hin, all_succ hx ha ⟨by omega, by omega⟩⟩, by omega⟩
  have hie : i = ld.length := by omega
  subst hie
  rw [List.take_length] at ha
  repeat' (first|refine Sp.h ?_|refine Lk.r rfl ?_|refine Rf.mk rfl ?_|(apply Bd.f;(focus first|assumption|omega|exact Bool.false_ne_true))|(refine Im.mk ?_;intro _)|fail)
  refine CA.loop (fun i : Nat => ⟨[(2, evs l), (3, pm b3), (53, evs l), (54, it (l.length : Nat)), (55, it i)], [mR b3 m]⟩) (fun i => i ≤ l.length ∧ ∀ e ∈ l.take i, EvV m (n0 l : Nat) e) (fun i => l.length - i) 0 ⟨by repeat first|trivial|refine ⟨rfl,?_⟩,by repeat first|exact .nil|refine .cons (by repeat first|exact .here|apply Take.there) ?_⟩ ⟨Nat.zero_le _, by simp⟩ ?_
  rintro i ⟨hi, hev⟩
  by_cases hin : i < l.length
  · obtain ⟨e, he⟩ := get_of hin
    obtain ⟨d, hd⟩ := get_of (l := l) (i := 0) (by omega)
    have hn : n0 l = d.past.length := by rw [n0, hd];rfl
    have hvv := evalid_p m (d.past.length : Nat) e
    by_cases hv : EvV m (d.past.length : Nat) e
    · repeat' (first|refine Sp.h ?_|refine Lk.r rfl ?_|refine Rf.mk rfl ?_|(apply Bd.t;(focus first|assumption|omega|rfl))|refine OpK.r rfl ?_|(refine Im.mk ?_;intro _)|(refine All.mk ?_;intro _)|(apply TkB.r;(focus repeat first|exact .here|apply Take.there))|(apply Ix.q;(focus exact rfl);(focus assumption))|refine Ch.l ⟨rfl, rfl⟩ ?_|(apply SetAsk.r;(focus (repeat (first|exact SetAs.z|(apply SetAs.c;(focus (repeat first|assumption|exact SetA.z|apply SetA.s)))))))|(apply Nm.r;focus repeat first|apply LN.cons|exact LN.nil)|(apply CA.draw;(focus rfl);(focus kernel_rfl);(focus kernel_rfl);(focus repeat' (first|apply ON.one|exact ON.done|exact ON.none|apply ON.alt));(focus rfl))|(apply Ov.n;(focus first|omega|(simp <;> omega)))|(apply Cl.p (hvv);(focus repeat' (first|exact Lend.nil|apply Lend.keep|fail))))
      all_goals exact PA.lp (i + 1) ⟨by repeat first|trivial|refine ⟨rfl,?_⟩,by repeat first|exact .nil|refine .cons (by repeat first|exact .here|apply Take.there) ?_⟩ ⟨⟨hin, all_succ he hev (by rw [hn];exact hv)⟩, by omega⟩
    · repeat' (first|refine Sp.h ?_|refine Lk.r rfl ?_|refine Rf.mk rfl ?_|(apply Bd.t;(focus first|assumption|omega|rfl))|(apply Bd.f;(focus first|assumption|omega|exact Bool.false_ne_true))|refine OpK.r rfl ?_|(refine Im.mk ?_;intro _)|(refine All.mk ?_;intro _)|(apply TkB.r;(focus repeat first|exact .here|apply Take.there))|(apply Ix.q;(focus exact rfl);(focus assumption))|refine Ch.l ⟨rfl, rfl⟩ ?_|(apply SetAsk.r;(focus (repeat (first|exact SetAs.z|(apply SetAs.c;(focus (repeat first|assumption|exact SetA.z|apply SetA.s)))))))|(apply Nm.r;focus repeat first|apply LN.cons|exact LN.nil)|(apply CA.draw;(focus rfl);(focus kernel_rfl);(focus kernel_rfl);(focus repeat' (first|apply ON.one|exact ON.done|exact ON.none|apply ON.alt));(focus rfl))|(apply Cl.p (hvv);(focus repeat' (first|exact Lend.nil|apply Lend.keep|fail))))
      all_goals exact ⟨_, _, .one (.same (.nil (by (repeat first|exact .nil|refine .cons (by repeat first|exact .here|apply Take.there) ?_)))), _, rfl, rfl, fun h => by cases h⟩
  have hie : i = l.length := by omega
  subst hie
  rw [List.take_length] at hev
  repeat' (first|refine Sp.h ?_|refine Lk.r rfl ?_|refine Rf.mk rfl ?_|(apply Bd.f;(focus first|assumption|omega|exact Bool.false_ne_true))|(refine Im.mk ?_;intro _)|(apply TkB.r;(focus repeat first|exact .here|apply Take.there))|fail)
  refine CA.loop (fun i : Nat => ⟨[(3, pm b3), (70, .sl 5 m.acts actC), (71, it (m.acts.length : Nat)), (72, it i)], [mR b3 m]⟩) (fun i => i ≤ m.acts.length ∧ ∀ a ∈ m.acts.take i, (∀ u ∈ a.eff.updates, ∀ (i : Nat) t, u.2.1 = i → (mrgF m)[i]? = some t → FitO t u) ∧ ∀ p ∈ a.eff.delta, -1000 ≤ p.2 ∧ p.2 ≤ 1000) (fun i => m.acts.length - i) 0 ⟨by repeat first|trivial|refine ⟨rfl,?_⟩,by repeat first|exact .nil|refine .cons (by repeat first|exact .here|apply Take.there) ?_⟩ ⟨Nat.zero_le _, by simp⟩ ?_
  rintro i ⟨hi, hac⟩
  by_cases hin : i < m.acts.length
  · obtain ⟨a, hx⟩ := get_of hin
    have heo := hm.eff a (List.mem_of_getElem? hx)
    repeat' (first|refine Sp.h ?_|refine Lk.r rfl ?_|refine Rf.mk rfl ?_|(apply Bd.t;(focus first|assumption|omega|rfl))|(refine Im.mk ?_;intro _)|(refine All.mk ?_;intro _)|(apply TkB.r;(focus repeat first|exact .here|apply Take.there))|(apply Ix.q;(focus exact rfl);(focus assumption))|refine Ch.l ⟨rfl, rfl⟩ ?_|(apply SetAsk.r;(focus (repeat (first|exact SetAs.z|(apply SetAs.c;(focus (repeat first|assumption|exact SetA.z|apply SetA.s)))))))|(apply Nm.r;focus repeat first|apply LN.cons|exact LN.nil)|fail)
    rename_i b12 _
    refine CA.loop (fun k : Nat => ⟨[(3, pm b3), (12, pm b12), (70, .sl 5 m.acts actC), (71, it (m.acts.length : Nat)), (72, it i), (78, .sl 3 a.eff.updates updC), (79, it (a.eff.updates.length : Nat)), (80, it k)], [mR b3 m, blkR b12 151 (actC a)]⟩) (fun k => k ≤ a.eff.updates.length ∧ ∀ u ∈ a.eff.updates.take k, ∀ (i : Nat) t, u.2.1 = i → (mrgF m)[i]? = some t → FitO t u) (fun k => a.eff.updates.length - k) 0 ⟨by repeat first|trivial|refine ⟨rfl,?_⟩,by repeat first|exact .nil|refine .cons (by repeat first|exact .here|apply Take.there) ?_⟩ ⟨Nat.zero_le _, by simp⟩ ?_
    rintro k ⟨hk, hb⟩
    by_cases hkn : k < a.eff.updates.length
    · obtain ⟨u, hu⟩ := get_of hkn
      obtain ⟨u1, u2⟩ := heo.u u (List.mem_of_getElem? hu)
      obtain ⟨t, ht⟩ := get_of (l := mrgF m) (i := u.2.1.toNat) (by omega)
      obtain ⟨uk, uc, uv⟩ := u
      simp only at u1 u2 ht
      (repeat' (first|(show CA _ _ (Code.region 21 _ _) _ _;apply Stopped.out)|refine Sp.h ?_|refine Lk.r rfl ?_|refine Rf.mk rfl ?_|(apply Bd.t;(focus first|assumption|omega|rfl))|(refine All.mk ?_;intro _)|(apply TkB.r;(focus repeat first|exact .here|apply Take.there))|(apply Ix.q;(focus exact rfl);(focus assumption))|refine Ch.l ⟨rfl, rfl⟩ ?_|(apply SetAsk.r;(focus (repeat (first|exact SetAs.z|(apply SetAs.c;(focus (repeat first|assumption|exact SetA.z|apply SetA.s)))))))|(apply Nm.r;focus repeat first|apply LN.cons|exact LN.nil)|fail));any_goals apply Stopped.mk
      rename_i b14
      refine CA.cut (fun b15 : Nat => ⟨[(3, pm b3), (12, pm b12), (14, pm b14), (15, pm b15), (70, .sl 5 m.acts actC), (71, it (m.acts.length : Nat)), (72, it i), (78, .sl 3 a.eff.updates updC), (79, it (a.eff.updates.length : Nat)), (80, it k)], [mR b3 m, blkR b12 151 (actC a), blkR b14 153 (updC (uk, uc, uv)), blkR b15 157 (tblC t)]⟩) (fun _ => True) ?_ ?_
      · repeat' (first|refine Sp.h ?_|refine Lk.r rfl ?_|refine Rf.mk rfl ?_|refine OpK.r rfl ?_|(refine All.mk ?_;intro _)|(apply TkB.r;(focus repeat first|exact .here|apply Take.there))|(apply Ix.r;(focus assumption);(focus omega))|refine Ch.l ⟨rfl, rfl⟩ ?_|(apply SetAsk.r;(focus (repeat (first|exact SetAs.z|(apply SetAs.c;(focus (repeat first|assumption|exact SetA.z|apply SetA.s)))))))|(apply Nm.r;focus repeat first|apply LN.cons|exact LN.nil)|(apply CA.draw;(focus rfl);(focus kernel_rfl);(focus kernel_rfl);(focus repeat' (first|apply ON.one|exact ON.done|exact ON.none|apply ON.alt));(focus rfl))|exact trivial|apply RA'.both|(apply Cl.p (hmg);(focus repeat' (first|exact Lend.nil|apply Lend.keep|fail))))
        all_goals exact PA.lp _ ⟨by repeat first|trivial|refine ⟨rfl,?_⟩,by repeat first|exact .nil|refine .cons (by repeat first|exact .here|apply Take.there) ?_⟩ trivial
      intro b15 _
      simp only
      (repeat' (first|(show CA _ _ (Code.region 22 _ _) _ _;apply Stopped.out)|refine Sp.h ?_|fail));any_goals apply Stopped.mk
      refine CA.cut (fun b : Bool => ⟨[(3, pm b3), (12, pm b12), (14, pm b14), (15, pm b15), (16, bl b), (70, .sl 5 m.acts actC), (71, it (m.acts.length : Nat)), (72, it i), (78, .sl 3 a.eff.updates updC), (79, it (a.eff.updates.length : Nat)), (80, it k)], [mR b3 m, blkR b12 151 (actC a), blkR b14 153 (updC (uk, uc, uv)), blkR b15 157 (tblC t)]⟩) (fun b => b = true ↔ isSt t.kind) ?_ ?_
      · repeat' (first|refine Sp.h ?_|refine Lk.r rfl ?_|refine Rf.mk rfl ?_|(apply Bd.t;(focus first|assumption|omega|rfl))|(apply Bd.f;(focus first|assumption|omega|exact Bool.false_ne_true))|(refine Bd.mk ?_ ?_ <;> intro _)|(apply TkB.r;(focus repeat first|exact .here|apply Take.there))|fail)
        all_goals exact PA.lp _ ⟨by repeat first|trivial|refine ⟨rfl,?_⟩,by repeat first|exact .nil|refine .cons (by repeat first|exact .here|apply Take.there) ?_⟩ (by unfold isSt;simp;omega)
      rintro b hb1
      simp only
      (repeat' (first|(show CA _ _ (Code.region 23 _ _) _ _;apply Stopped.out)|refine Sp.h ?_|fail));any_goals apply Stopped.mk
      refine CA.cut (fun c : Bool => ⟨[(3, pm b3), (12, pm b12), (70, .sl 5 m.acts actC), (71, it (m.acts.length : Nat)), (72, it i), (78, .sl 3 a.eff.updates updC), (79, it (a.eff.updates.length : Nat)), (80, it k), (127, bl c)], [mR b3 m, blkR b12 151 (actC a)]⟩) (fun c => c = false → FitO t (uk, uc, uv)) ?_ ?_
      · have hf : FitO t (uk, uc, uv) ↔ (b = true ↔ uk = 0 ∨ uk = 1) ∧ (b ≠ true → t.lo ≤ uv ∧ uv ≤ t.hi) := by unfold FitO;simp only;rw [← hb1]
        cases b
        all_goals repeat' (first|refine Sp.h ?_|refine Lk.r rfl ?_|refine Rf.mk rfl ?_|(apply Bd.t;(focus first|assumption|omega|rfl))|(apply Bd.f;(focus first|assumption|omega|exact Bool.false_ne_true))|(refine Bd.mk ?_ ?_ <;> intro _)|(apply TkB.r;(focus repeat first|exact .here|apply Take.there))|fail)
        all_goals exact PA.lp _ ⟨by repeat first|trivial|refine ⟨rfl,?_⟩,by repeat first|exact .nil|refine .cons (by repeat first|exact .here|apply Take.there) ?_⟩ (by rw [hf];first|(simp;done)|(simp;omega)|(simp at *;omega))
      rintro c hc
      simp only
      cases c
      · repeat' (first|refine Sp.h ?_|refine Lk.r rfl ?_|refine Rf.mk rfl ?_|(apply Ov.n;(focus first|omega|(simp <;> omega)))|fail)
        refine PA.lp (k + 1) ⟨by repeat first|trivial|refine ⟨rfl,?_⟩,by repeat first|exact .nil|refine .cons (by repeat first|exact .here|apply Take.there) ?_⟩ ⟨⟨hkn, all_succ hu hb fun j t' hj ht' => ?_⟩, by omega⟩
        have : uc.toNat = j := by simp only at hj;omega
        rw [this] at ht
        rw [ht] at ht';cases ht'
        exact hc rfl
      · repeat' (first|refine Sp.h ?_|refine Lk.r rfl ?_|refine Rf.mk rfl ?_|(apply Nm.r;focus repeat first|apply LN.cons|exact LN.nil)|fail)
        exact ⟨_, _, .one (.same (.nil (by (repeat first|exact .nil|refine .cons (by repeat first|exact .here|apply Take.there) ?_)))), _, rfl, rfl, fun h => by cases h⟩
    have hke : k = a.eff.updates.length := by omega
    subst hke
    rw [List.take_length] at hb
    repeat' (first|refine Sp.h ?_|refine Lk.r rfl ?_|refine Rf.mk rfl ?_|(apply Bd.f;(focus first|assumption|omega|exact Bool.false_ne_true))|(refine Im.mk ?_;intro _)|(apply TkB.r;(focus repeat first|exact .here|apply Take.there))|fail)
    refine CA.loop (fun k : Nat => ⟨[(3, pm b3), (70, .sl 5 m.acts actC), (71, it (m.acts.length : Nat)), (72, it i), (131, terms a.eff.delta), (132, it (a.eff.delta.length : Nat)), (133, it k)], [mR b3 m]⟩) (fun k => k ≤ a.eff.delta.length ∧ ∀ p ∈ a.eff.delta.take k, -1000 ≤ p.2 ∧ p.2 ≤ 1000) (fun k => a.eff.delta.length - k) 0 ⟨by repeat first|trivial|refine ⟨rfl,?_⟩,by repeat first|exact .nil|refine .cons (by repeat first|exact .here|apply Take.there) ?_⟩ ⟨Nat.zero_le _, by simp⟩ ?_
    rintro k ⟨hk2, hd⟩
    by_cases hkn : k < a.eff.delta.length
    · obtain ⟨p, hp⟩ := get_of hkn
      repeat' (first|refine Sp.h ?_|refine Lk.r rfl ?_|refine Rf.mk rfl ?_|(apply Bd.t;(focus first|assumption|omega|rfl))|(apply Bd.f;(focus first|assumption|omega|exact Bool.false_ne_true))|(refine Bd.mk ?_ ?_ <;> intro _)|(refine All.mk ?_;intro _)|(apply TkB.r;(focus repeat first|exact .here|apply Take.there))|(apply Ix.q;(focus exact rfl);(focus assumption))|refine Ch.l ⟨rfl, rfl⟩ ?_|(apply SetAsk.r;(focus (repeat (first|exact SetAs.z|(apply SetAs.c;(focus (repeat first|assumption|exact SetA.z|apply SetA.s)))))))|(apply Nm.r;focus repeat first|apply LN.cons|exact LN.nil)|(apply Ov.n;(focus first|omega|(simp <;> omega)))|fail)
      all_goals first
        | exact ⟨_, _, .one (.same (.nil (by (repeat first|exact .nil|refine .cons (by repeat first|exact .here|apply Take.there) ?_)))), _, rfl, rfl, fun h => by cases h⟩
        | exact PA.lp (k + 1) ⟨by repeat first|trivial|refine ⟨rfl,?_⟩,by repeat first|exact .nil|refine .cons (by repeat first|exact .here|apply Take.there) ?_⟩ ⟨⟨hkn, all_succ hp hd ⟨by omega, by omega⟩⟩, by omega⟩
    have hke : k = a.eff.delta.length := by omega
    subst hke
    rw [List.take_length] at hd
    repeat' (first|refine Sp.h ?_|refine Lk.r rfl ?_|refine Rf.mk rfl ?_|(apply Bd.f;(focus first|assumption|omega|exact Bool.false_ne_true))|(apply Ov.n;(focus first|omega|(simp <;> omega)))|fail)
    exact PA.lp (i + 1) ⟨by repeat first|trivial|refine ⟨rfl,?_⟩,by repeat first|exact .nil|refine .cons (by repeat first|exact .here|apply Take.there) ?_⟩ ⟨⟨hin, all_succ hx hac ⟨hb, hd⟩⟩, by omega⟩
  have hie : i = m.acts.length := by omega
  subst hie
  rw [List.take_length] at hac
  repeat' (first|refine Sp.h ?_|refine Lk.r rfl ?_|refine Rf.mk rfl ?_|(apply Bd.f;(focus first|assumption|omega|exact Bool.false_ne_true))|(apply Nm.r;focus repeat first|apply LN.cons|exact LN.nil)|fail)
  exact ⟨_, _, .one (.same (.nil (by (repeat first|exact .nil|refine .cons (by repeat first|exact .here|apply Take.there) ?_)))), _, rfl, rfl, fun _ => ⟨⟨hm, hf, hc, fun a h => (hac a h).1, hev⟩, by omega, hln, ha, fun a h => (hac a h).2⟩⟩
end Go.Proofs.YtmllihbhphnolaaGreat
namespace Go.Proofs.YtmllihbhphnolaaGreat
open Go Go.CF
set_option maxRecDepth 20000
noncomputable def stN (m : ModS) (n : Nat) (ld : List Int) (X : List EvS) : NowS := ⟨clkE n X, X.foldl (fun t e => max t e.time) 0, X.foldl (addE m) ld, X.foldl (mrg1 m) (List.replicate (mrgF m).length mg0), X.foldl plE []⟩
theorem deliver_st {m : ModS} {evl : List EvS} {w : NowS} {e : EvS} (h : (deliverF m evl w e).1 = 0) : (deliverF m evl w e).2 = ⟨cntF w.clock e, max w.time e.time, addE m w.state e, (applyF m w.merged e).2, plE w.places e⟩ := by
  unfold deliverF at h ⊢
  repeat' split
  all_goals first
    | rfl
    | (exfalso;simp_all;done)
theorem deliver_ok' {m : ModS} {evl : List EvS} {w : NowS} {e : EvS} (h : (deliverF m evl w e).1 = 0) : ValL (mrgF m) w.merged ∧ EvV m (w.clock.length : Nat) e ∧ (applyF m w.merged e).1 = 0 := by
  have key : EvV m (w.clock.length : Nat) e ∧ (applyF m w.merged e).1 = 0 := by
    unfold deliverF at h
    repeat' split at h
    all_goals first
      | (exfalso;simp at h;done)
      | (rename_i h1 _ _ _ _ h6;exact ⟨Classical.not_not.1 h1, Classical.not_not.1 h6⟩)
      | (rename_i h6;exact absurd h h6)
  exact ⟨(applyF_ok key.2).1, key⟩
theorem stN_snoc (m : ModS) (n : Nat) (ld : List Int) (X : List EvS) (e : EvS) : stN m n ld (X ++ [e]) = ⟨cntF (stN m n ld X).clock e, max (stN m n ld X).time e.time, addE m (stN m n ld X).state e, (applyF m (stN m n ld X).merged e).2, plE (stN m n ld X).places e⟩ := by
  simp only [stN, clkE, List.foldl_append, List.foldl_cons, List.foldl_nil, cntF, mrg1]
theorem plL_len (l : List EvS) : (plL l).length ≤ l.length := by unfold plL;rw [List.length_map];exact List.length_filter_le _ _
theorem foldE_len (m : ModS) (X : List EvS) : ∀ ld : List Int, (X.foldl (addE m) ld).length = ld.length := by
  induction X with
  | nil => exact fun _ => rfl
  | cons e X ih => intro ld;rw [List.foldl_cons, ih, addE_len]
theorem stN_ok {m : ModS} {l X : List EvS} {ld : List Int} (hs : SuitS m ld l) (hX : ∀ e ∈ X, e ∈ l) (hl : X.length ≤ 1000) : NowOK m (stN m (n0 l) ld X) := by
  obtain ⟨e, he⟩ := get_of (l := l) (i := 0) hs.ne
  have hr := n0_rng hs.e.2.2.1 (List.mem_of_getElem? he)
  refine ⟨clk_valC hs.e.2.2.1 hX hr, by simp only [stN, foldE_len];exact hs.ln, ?_, ?_⟩
  · simp only [stN, places_srt];exact (srtD_si _).1
  · simp only [stN, places_srt]
    have := srtD_len (plL X);have := plL_len X
    omega
theorem fill_sto {m : ModS} {l X : List EvS} {ld : List Int} (hs : SuitS m ld l) (hl : X.length ≤ 100) (hX : ExtO l X) : ∀ i, i ≤ X.length → StoA m l ld (X.take i) (stN m (n0 l) ld (X.take i)) ∧ ∀ e, X[i]? = some e → deliverF m (X.take i) (stN m (n0 l) ld (X.take i)) e = (0, stN m (n0 l) ld (X.take (i + 1))) := by
  have step : ∀ i e, X[i]? = some e → StoA m l ld (X.take i) (stN m (n0 l) ld (X.take i)) → deliverF m (X.take i) (stN m (n0 l) ld (X.take i)) e = (0, stN m (n0 l) ld (X.take (i + 1))) ∧ StoA m l ld (X.take (i + 1)) (stN m (n0 l) ld (X.take (i + 1))) := by
    intro i e he hst
    have hil := (List.getElem?_eq_some_iff.1 he).1
    have hel := hX.sub e (List.mem_of_getElem? he)
    obtain ⟨h1, h2⟩ := hX.nxt i e he
    obtain ⟨w', d1, d2⟩ := deliver_ok hs.e (by have := hs.e.2.1.1;omega) hs.smd hs.ld hst (by rw [List.length_take];omega) (hX.cau i) hel h1 h2
    have hsu : X.take (i + 1) = X.take i ++ [e] := by rw [List.take_add_one, he];rfl
    have hw : w' = stN m (n0 l) ld (X.take (i + 1)) := by
      have := deliver_st (m := m) (evl := X.take i) (w := stN m (n0 l) ld (X.take i)) (e := e) (by rw [d1])
      rw [d1] at this
      rw [hsu, stN_snoc]
      exact this
    rw [hw] at d1 d2
    rw [← hsu] at d2
    exact ⟨d1, d2⟩
  intro i
  induction i with
  | zero =>
    intro _
    have h0 : StoA m l ld (X.take 0) (stN m (n0 l) ld (X.take 0)) := sto0 m l ld
    exact ⟨h0, fun e he => (step 0 e he h0).1⟩
  | succ i ih =>
    intro hi
    obtain ⟨e, he⟩ := get_of (l := X) (i := i) (by omega)
    have h1 := (step i e he (ih (by omega)).1).2
    exact ⟨h1, fun d hd => (step (i + 1) d hd h1).1⟩
theorem insS_ld {ld : List Int} (h : ∀ x ∈ ld, -1000 ≤ x ∧ x ≤ 1000) : insS ld := fun x hx => by have := h x hx;omega
set_option maxHeartbeats 4000000 in
theorem fill_a (m : ModS) (ld : List Int) (l : List EvS) (order : List Int) (X : List EvS) (hs : SuitS m ld l) (ho : ∀ x ∈ order, 0 ≤ x ∧ x ≤ 255) (hx : ExtR order [] (ordE l) X) (hX : ExtO l X) (hp : X.Perm l) :
    CallA Tryz.prog 15 [mdl m, ints ld, evs l, u8s order] [] fun q own => ∃ p v, q = pm p ∧ own = [stoR p m (stN m (n0 l) ld []) v (stN m (n0 l) ld X), arrR v 37 13 X evC] := by
  obtain ⟨d, hd⟩ := get_of (l := l) (i := 0) hs.ne
  have hn : n0 l = d.past.length := by rw [n0, hd];rfl
  have hr := n0_rng hs.e.2.2.1 (List.mem_of_getElem? hd)
  have hl60 := hs.e.2.1.1
  have hXl := hp.length_eq
  have hne := hs.ne
  have h1 := new35_a m (n0 l) ld hs.e.1 hr hs.ln (insS_ld hs.ld)
  rw [hn] at h1
  have h2 := extension_o l order X hs.e.2.2.1.2.1 (by omega) ho hx
  refine CallA.of pg ord15 Tryz.func15 rfl Tryz.ntmps15 Tryz.results15 rfl fun h0 G0 O0 => ?_
  repeat' (first|refine Sp.h ?_|refine Lk.r rfl ?_|refine Rf.mk rfl ?_|(apply Bd.f;(focus first|assumption|omega|exact Bool.false_ne_true))|refine OpK.r rfl ?_|(refine Im.mk ?_;intro _)|(refine All.mk ?_;intro _)|(apply TkB.r;(focus repeat first|exact .here|apply Take.there))|(apply Ix.q;(focus exact rfl);(focus assumption))|refine Ch.l ⟨rfl, rfl⟩ ?_|(apply CA.draw;(focus rfl);(focus kernel_rfl);(focus kernel_rfl);(focus repeat' (first|apply ON.one|exact ON.done|exact ON.none|apply ON.alt));(focus rfl))|fail)
  (apply Cl.use (h1);(focus repeat' (first|exact Lend.nil|apply Lend.keep|fail));(focus (repeat (first|exact Takes.nil|(apply Takes.cons;(focus repeat first|exact .here|apply Take.there)))));(focus rfl))
  rintro _ _ ⟨p, v, rfl, rfl⟩
  repeat' (first|refine Sp.h ?_|refine Lk.r rfl ?_|refine Rf.mk rfl ?_|(apply Bd.t;(focus first|assumption|omega|rfl))|refine OpK.r rfl ?_|fail)
  (apply Cl.use (h2);(focus repeat' (first|exact Lend.nil|apply Lend.keep|fail));(focus (repeat (first|exact Takes.nil|(apply Takes.cons;(focus repeat first|exact .here|apply Take.there)))));(focus rfl))
  rintro _ _ ⟨vx, rfl, rfl⟩
  repeat' (first|refine Sp.h ?_|refine Lk.r rfl ?_|(apply TkA.r;(focus repeat first|exact .here|apply Take.there))|fail)
  refine CA.loop (fun x : Nat × Value => ⟨[(9, pm p), (31, .ow vx), (32, it (X.length : Nat)), (33, it x.1)], [stoR p m (stN m (n0 l) ld []) x.2 (stN m (n0 l) ld (X.take x.1)), arrR x.2 37 13 (X.take x.1) evC, arrR vx 37 13 X evC]⟩) (fun x => x.1 ≤ X.length) (fun x => X.length - x.1) (0, v) ?_ (Nat.zero_le _) ?_
  · rw [hn];exact ⟨by repeat first|trivial|refine ⟨rfl,?_⟩,by repeat first|exact .nil|refine .cons (by repeat first|exact .here|apply Take.there) ?_⟩
  rintro ⟨i, u⟩ hi
  simp only at hi
  simp only
  obtain ⟨f1, f2⟩ := fill_sto hs (by omega) hX i hi
  by_cases hin : i < X.length
  · obtain ⟨e, he⟩ := get_of hin
    have hdl := deliver_a p m (stN m (n0 l) ld []) u (X.take i) (stN m (n0 l) ld (X.take i)) e hs.e.1 (stN_ok hs (fun e he => hX.sub e (List.mem_of_mem_take he)) (by rw [List.length_take];omega)) (by rw [List.length_take];omega)
    rw [evsD, f2 e he, if_pos rfl] at hdl
    have hsu : X.take (i + 1) = X.take i ++ [e] := by rw [List.take_add_one, he];rfl
    rw [← hsu] at hdl
    repeat' (first|refine Sp.h ?_|refine Lk.r rfl ?_|refine Rf.mk rfl ?_|(apply Bd.t;(focus first|assumption|omega|rfl))|(refine All.mk ?_;intro _)|(apply TkA.r;(focus repeat first|exact .here|apply Take.there))|(apply TkB.r;(focus repeat first|exact .here|apply Take.there))|(apply Ix.q;(focus exact rfl);(focus assumption))|(apply At.r;(focus assumption))|refine Ch.l ⟨rfl, rfl⟩ ?_|(apply SetAsk.r;(focus (repeat (first|exact SetAs.z|(apply SetAs.c;(focus (repeat first|assumption|exact SetA.z|apply SetA.s)))))))|(apply Nm.r;focus repeat first|apply LN.cons|exact LN.nil)|fail)
    (apply Cl.use (hdl);(focus repeat' (first|exact Lend.nil|apply Lend.keep|fail));(focus (repeat (first|exact Takes.nil|(apply Takes.cons;(focus repeat first|exact .here|apply Take.there)))));(focus rfl))
    rintro _ _ ⟨rfl, u', rfl⟩
    repeat' (first|refine Sp.h ?_|refine Lk.r rfl ?_|refine Rf.mk rfl ?_|(apply Bd.t;(focus first|assumption|omega|rfl))|(apply Ov.n;(focus first|omega|(simp <;> omega)))|fail)
    exact PA.lp (i + 1, u') ⟨by repeat first|trivial|refine ⟨rfl,?_⟩,by repeat first|exact .nil|refine .cons (by repeat first|exact .here|apply Take.there) ?_⟩ ⟨hin, by simp only;omega⟩
  · have hie : i = X.length := by omega
    subst hie
    simp only [List.take_length]
    repeat' (first|refine Sp.h ?_|refine Lk.r rfl ?_|refine Rf.mk rfl ?_|(apply Bd.f;(focus first|assumption|omega|exact Bool.false_ne_true))|(apply Nm.r;focus repeat first|apply LN.cons|exact LN.nil)|fail)
    exact ⟨_, _, .one (.same (.nil (by (repeat first|exact .nil|refine .cons (by repeat first|exact .here|apply Take.there) ?_)))), p, u, rfl, rfl⟩
end Go.Proofs.YtmllihbhphnolaaGreat
namespace Go.Proofs.YtmllihbhphnolaaGreat
open Go Go.CF
set_option maxRecDepth 20000
def SzM (k : List MgS) : Prop := k.length ≤ 100000 ∧ ∀ g ∈ k, g.marks.length ≤ 1000000
theorem mrg1_sz {m : ModS} {k : List MgS} {e : EvS} (h : SzM k) : SzM (mrg1 m k e) := by
  unfold mrg1
  by_cases h0 : (applyF m k e).1 = 0
  · obtain ⟨_, _, h3, _, h5⟩ := applyF_ok h0
    exact ⟨by rw [h3];exact h.1, h5⟩
  · have h2 : (applyF m k e).2 = [] := by
      unfold applyF at h0 ⊢
      split
      · rfl
      · rename_i h1
        rw [if_neg h1] at h0
        split
        · rename_i h2;rw [if_pos h2] at h0;exact absurd rfl h0
        · rename_i h2
          rw [if_neg h2] at h0
          unfold gatherF at h0 ⊢
          split
          · rfl
          · rename_i h3
            rw [h3] at h0
            simp only at h0
            split
            · rfl
            · rename_i h4;rw [if_neg h4] at h0;exact absurd rfl h0
    rw [h2]
    exact ⟨by simp, by simp⟩
structure BasOK (m : ModS) (n : Nat) (b : NowS) : Prop where
  clk : ValC b.clock
  len : b.clock.length = n
  st : b.state.length = strF m
  mg : SzM b.merged
  pls : SrtI b.places
  pll : b.places.length ≤ 10000
theorem withP_srt {l : List Int} {n : Int} (h : SrtI l) : SrtI (withP l n) := (withP_si (l := l) (s := l) (n := n) ⟨h, fun _ => Iff.rfl⟩).1
theorem withP_le {l : List Int} {n : Int} (h : SrtI l) : (withP l n).length ≤ l.length + 1 := by
  by_cases hn : n ∈ l
  · rw [show withP l n = l from if_pos hn];omega
  · rw [with_eq h hn];simp;have := idxN_le (fun y => decide (¬ y < n)) l;unfold posI;omega
theorem plE_srt {l : List Int} {e : EvS} (h : SrtI l) : SrtI (plE l e) ∧ (plE l e).length ≤ l.length + 1 := by
  unfold plE
  split
  · exact ⟨withP_srt h, withP_le h⟩
  · exact ⟨h, by omega⟩
theorem inL_succ {c : List Int} {l : List EvS} {i : Nat} {e : EvS} (h : l[i]? = some e) : inL c (l.take (i + 1)) = inL c (l.take i) ++ if HasC c e.rep e.num then [e] else [] := by
  rw [inL, filter_succ h]
  by_cases hh : HasC c e.rep e.num <;> simp [hh, inL]
theorem outL_succ {c : List Int} {l : List EvS} {i : Nat} {e : EvS} (h : l[i]? = some e) : outL c (l.take (i + 1)) = outL c (l.take i) ++ if HasC c e.rep e.num then [] else [e] := by
  rw [outL, filter_succ h]
  by_cases hh : HasC c e.rep e.num <;> simp [hh, outL]
structure MidOK (m : ModS) (b x : NowS) (i : Nat) : Prop where
  ck : x.clock = b.clock
  st : x.state.length = strF m
  mg : SzM x.merged
  pls : SrtI x.places
  pll : x.places.length ≤ b.places.length + i
theorem mid_step {m : ModS} {b x : NowS} {i : Nat} {e : EvS} (h : MidOK m b x i) : MidOK m b (cmp1 m x e) (i + 1) :=
  ⟨h.ck, by simp only [cmp1, addE_len];exact h.st, mrg1_sz h.mg, (plE_srt h.pls).1, by have := (plE_srt (e := e) h.pls).2;have := h.pll;simp only [cmp1];omega⟩
theorem fits35_p (s : Nat) (m : ModS) (b : NowS) (v : Value) (w : NowS) (c : List Int) :
    CallA Tryz.prog 125 [pm s, ints c] [stoR s m b v w] fun r own => r = bl (decide (ValC c ∧ c.length = w.clock.length)) ∧ own = [stoR s m b v w] := by
  have h := validC_p c
  by_cases h1 : ValC c
  · rw [decide_eq_true h1] at h
    refine CallA.of pg ord125 Tryz.func125 rfl Tryz.ntmps125 Tryz.results125 rfl fun h0 G0 O0 => ?_
    repeat' (first|refine Sp.h ?_|refine Lk.r rfl ?_|refine Rf.mk rfl ?_|(refine Im.mk ?_;intro _)|(apply TkB.r;(focus repeat first|exact .here|apply Take.there))|(apply Nm.r;focus repeat first|apply LN.cons|exact LN.nil)|(apply Cl.p (h);(focus repeat' (first|exact Lend.nil|apply Lend.keep|fail))))
    refine ⟨_, _, .one (.same (.nil (by (repeat first|exact .nil|refine .cons (by repeat first|exact .here|apply Take.there) ?_)))), vb (decide_eq_decide.2 ⟨fun h => ⟨h1, by omega⟩, fun h => by omega⟩), rfl⟩
  · rw [decide_eq_false h1] at h
    rw [decide_eq_false (fun h9 => h1 h9.1)]
    refine CallA.of pg ord125 Tryz.func125 rfl Tryz.ntmps125 Tryz.results125 rfl fun h0 G0 O0 => ?_
    repeat' (first|refine Sp.h ?_|refine Lk.r rfl ?_|refine Rf.mk rfl ?_|(apply Nm.r;focus repeat first|apply LN.cons|exact LN.nil)|(apply Cl.p (h);(focus repeat' (first|exact Lend.nil|apply Lend.keep|fail))))
    exact ⟨_, _, .one (.same (.nil (by (repeat first|exact .nil|refine .cons (by repeat first|exact .here|apply Take.there) ?_)))), rfl, rfl⟩
abbrev midC (x : NowS) (u : Value) : List AV := [ints x.clock, it x.time, .ow u, mgs x.merged, nl0, nl0, ints x.places]
set_option maxHeartbeats 16000000 in
theorem compact_a (s : Nat) (m : ModS) (b : NowS) (v : Value) (evl : List EvS) (w : NowS) (c : List Int) (hm : MOK m) (hw : NowOK m w) (hb : BasOK m w.clock.length b) (hl : evl.length ≤ 1000) (hev : ∀ e ∈ evl, EvV m (w.clock.length : Nat) e) :
    CallA Tryz.prog 66 [pm s, ints c] [stoR s m b v w, arrR v 37 13 evl evC] fun r own => r = it (compactF m ⟨b, evl, w⟩ c).1 ∧ ∃ v', own = [stoR s m (compactF m ⟨b, evl, w⟩ c).2.base v' (compactF m ⟨b, evl, w⟩ c).2.now, arrR v' 37 13 (compactF m ⟨b, evl, w⟩ c).2.evs evC] := by
  have hfi := fits35_p s m b v w c
  have hstr := hm.str
  by_cases h1 : ValC c ∧ c.length = w.clock.length
  rotate_left
  · have hF : compactF m ⟨b, evl, w⟩ c = (1, ⟨b, evl, w⟩) := @if_pos _ (Classical.propDecidable _) h1 _ _ _
    rw [hF]
    rw [decide_eq_false h1] at hfi
    refine CallA.of pg ord66 Tryz.func66 rfl Tryz.ntmps66 Tryz.results66 rfl fun h0 G0 O0 => ?_
    repeat' (first|refine Sp.h ?_|refine Lk.r rfl ?_|refine Rf.mk rfl ?_|fail)
    (apply Cl.use (hfi);(focus repeat' (first|exact Lend.nil|apply Lend.keep|fail));(focus (repeat (first|exact Takes.nil|(apply Takes.cons;(focus repeat first|exact .here|apply Take.there)))));(focus rfl))
    rintro _ _ ⟨rfl, rfl⟩
    repeat' (first|refine Sp.h ?_|refine Lk.r rfl ?_|refine Rf.mk rfl ?_|(apply Bd.f;(focus first|assumption|omega|exact Bool.false_ne_true))|(apply Nm.r;focus repeat first|apply LN.cons|exact LN.nil)|fail)
    exact ⟨_, _, .one (.same (.nil (by (repeat first|exact .nil|refine .cons (by repeat first|exact .here|apply Take.there) ?_)))), rfl, v, rfl⟩
  rw [decide_eq_true h1] at hfi
  have hF9 : ¬ (Ins b.clock c ∧ Ins c w.clock ∧ ∀ e ∈ evl, HasC c e.rep e.num → Ins e.past c) → compactF m ⟨b, evl, w⟩ c = (9, ⟨b, evl, w⟩) := fun h =>
    (@if_neg _ (Classical.propDecidable _) (fun h9 => h9 h1) _ _ _).trans (@if_pos _ (Classical.propDecidable _) h _ _ _)
  have hm1 := missing_o c b.clock
  have hm2 := missing_o w.clock c
  have hbl := hb.len
  have hal1 : AlikeC [c, b.clock] := (alike2 _ _).2 ⟨h1.1, hb.clk, by omega⟩
  have hal2 : AlikeC [w.clock, c] := (alike2 _ _).2 ⟨hw.clk, h1.1, by omega⟩
  by_cases h2 : Ins b.clock c
  rotate_left
  · rw [hF9 (fun h => h2 h.1)]
    refine CallA.of pg ord66 Tryz.func66 rfl Tryz.ntmps66 Tryz.results66 rfl fun h0 G0 O0 => ?_
    repeat' (first|refine Sp.h ?_|refine Lk.r rfl ?_|refine Rf.mk rfl ?_|fail)
    (apply Cl.use (hfi);(focus repeat' (first|exact Lend.nil|apply Lend.keep|fail));(focus (repeat (first|exact Takes.nil|(apply Takes.cons;(focus repeat first|exact .here|apply Take.there)))));(focus rfl))
    rintro _ _ ⟨rfl, rfl⟩
    repeat' (first|refine Sp.h ?_|refine Lk.r rfl ?_|refine Rf.mk rfl ?_|(apply Bd.t;(focus first|assumption|omega|rfl))|(apply TkB.r;(focus repeat first|exact .here|apply Take.there))|fail)
    (apply Cl.use (hm1);(focus repeat' (first|exact Lend.nil|apply Lend.keep|fail));(focus (repeat (first|exact Takes.nil|(apply Takes.cons;(focus repeat first|exact .here|apply Take.there)))));(focus rfl))
    rintro _ _ ⟨u, l, rfl, rfl, k1, k2⟩
    have k0 : 0 < l.length := List.length_pos_iff.2 fun h => h2 (k1.1 h hal1)
    repeat' (first|refine Sp.h ?_|refine Lk.r rfl ?_|refine Rf.mk rfl ?_|(apply Bd.t;(focus first|assumption|omega|rfl))|(apply TkA.r;(focus repeat first|exact .here|apply Take.there))|(apply Nm.r;focus repeat first|apply LN.cons|exact LN.nil)|fail)
    exact ⟨_, _, .one (.same (.nil (by (repeat first|exact .nil|refine .cons (by repeat first|exact .here|apply Take.there) ?_)))), rfl, v, rfl⟩
  by_cases h3 : Ins c w.clock
  rotate_left
  · rw [hF9 (fun h => h3 h.2.1)]
    refine CallA.of pg ord66 Tryz.func66 rfl Tryz.ntmps66 Tryz.results66 rfl fun h0 G0 O0 => ?_
    repeat' (first|refine Sp.h ?_|refine Lk.r rfl ?_|refine Rf.mk rfl ?_|fail)
    (apply Cl.use (hfi);(focus repeat' (first|exact Lend.nil|apply Lend.keep|fail));(focus (repeat (first|exact Takes.nil|(apply Takes.cons;(focus repeat first|exact .here|apply Take.there)))));(focus rfl))
    rintro _ _ ⟨rfl, rfl⟩
    repeat' (first|refine Sp.h ?_|refine Lk.r rfl ?_|refine Rf.mk rfl ?_|(apply Bd.t;(focus first|assumption|omega|rfl))|(apply TkB.r;(focus repeat first|exact .here|apply Take.there))|fail)
    (apply Cl.use (hm1);(focus repeat' (first|exact Lend.nil|apply Lend.keep|fail));(focus (repeat (first|exact Takes.nil|(apply Takes.cons;(focus repeat first|exact .here|apply Take.there)))));(focus rfl))
    rintro _ _ ⟨u, l, rfl, rfl, k1, k2⟩
    have k0 : l.length = 0 := by rw [k1.2 fun _ => h2];rfl
    repeat' (first|refine Sp.h ?_|refine Lk.r rfl ?_|refine Rf.mk rfl ?_|(apply Bd.f;(focus first|assumption|omega|exact Bool.false_ne_true))|(apply TkA.r;(focus repeat first|exact .here|apply Take.there))|(apply TkB.r;(focus repeat first|exact .here|apply Take.there))|fail)
    (apply Cl.use (hm2);(focus repeat' (first|exact Lend.nil|apply Lend.keep|fail));(focus (repeat (first|exact Takes.nil|(apply Takes.cons;(focus repeat first|exact .here|apply Take.there)))));(focus rfl))
    rintro _ _ ⟨u2, l2, rfl, rfl, j1, j2⟩
    have j0 : 0 < l2.length := List.length_pos_iff.2 fun h => h3 (j1.1 h hal2)
    repeat' (first|refine Sp.h ?_|refine Lk.r rfl ?_|refine Rf.mk rfl ?_|(apply Bd.t;(focus first|assumption|omega|rfl))|(apply Bd.f;(focus first|assumption|omega|exact Bool.false_ne_true))|(apply TkA.r;(focus repeat first|exact .here|apply Take.there))|(apply Nm.r;focus repeat first|apply LN.cons|exact LN.nil)|fail)
    exact ⟨_, _, .one (.same (.nil (by (repeat first|exact .nil|refine .cons (by repeat first|exact .here|apply Take.there) ?_)))), rfl, v, rfl⟩
  have hcb := cloneBase_a b nl0 nl0 ⟨by have := hb.clk.2.2;omega, by have := hb.st;omega, hb.mg.1, hb.mg.2, by have := hb.pll;omega⟩
  have hcc := clone_o c (by have := h1.1.2.2;omega)
  refine CallA.of pg ord66 Tryz.func66 rfl Tryz.ntmps66 Tryz.results66 rfl fun h0 G0 O0 => ?_
  repeat' (first|refine Sp.h ?_|refine Lk.r rfl ?_|refine Rf.mk rfl ?_|fail)
  (apply Cl.use (hfi);(focus repeat' (first|exact Lend.nil|apply Lend.keep|fail));(focus (repeat (first|exact Takes.nil|(apply Takes.cons;(focus repeat first|exact .here|apply Take.there)))));(focus rfl))
  rintro _ _ ⟨rfl, rfl⟩
  repeat' (first|refine Sp.h ?_|refine Lk.r rfl ?_|refine Rf.mk rfl ?_|(apply Bd.t;(focus first|assumption|omega|rfl))|(apply TkB.r;(focus repeat first|exact .here|apply Take.there))|fail)
  (apply Cl.use (hm1);(focus repeat' (first|exact Lend.nil|apply Lend.keep|fail));(focus (repeat (first|exact Takes.nil|(apply Takes.cons;(focus repeat first|exact .here|apply Take.there)))));(focus rfl))
  rintro _ _ ⟨u1, l1, rfl, rfl, k1, k2⟩
  have k0 : l1.length = 0 := by rw [k1.2 fun _ => h2];rfl
  repeat' (first|refine Sp.h ?_|refine Lk.r rfl ?_|refine Rf.mk rfl ?_|(apply Bd.f;(focus first|assumption|omega|exact Bool.false_ne_true))|(apply TkA.r;(focus repeat first|exact .here|apply Take.there))|(apply TkB.r;(focus repeat first|exact .here|apply Take.there))|fail)
  (apply Cl.use (hm2);(focus repeat' (first|exact Lend.nil|apply Lend.keep|fail));(focus (repeat (first|exact Takes.nil|(apply Takes.cons;(focus repeat first|exact .here|apply Take.there)))));(focus rfl))
  rintro _ _ ⟨u2, l2, rfl, rfl, j1, j2⟩
  have j0 : l2.length = 0 := by rw [j1.2 fun _ => h3];rfl
  repeat' (first|refine Sp.h ?_|refine Lk.r rfl ?_|refine Rf.mk rfl ?_|(apply Bd.f;(focus first|assumption|omega|exact Bool.false_ne_true))|(apply TkA.r;(focus repeat first|exact .here|apply Take.there))|(apply TkB.r;(focus repeat first|exact .here|apply Take.there))|refine Ch.r ?_|fail)
  (apply Cl.use (hcb);(focus repeat' (first|exact Lend.nil|apply Lend.keep|fail));(focus (repeat (first|exact Takes.nil|(apply Takes.cons;(focus repeat first|exact .here|apply Take.there)))));(focus rfl))
  rintro _ _ ⟨v1, v2, v3, L, v4, rfl, hL, rfl⟩
  (repeat' (first|(show CA _ _ (Code.region 6 _ _) _ _;apply Stopped.out)|refine Sp.h ?_|refine Lk.r rfl ?_|refine Rf.mk rfl ?_|(refine All.mk ?_;intro _)|(apply TkB.r;(focus repeat first|exact .here|apply Take.there))|(apply SetAsk.r;(focus (repeat (first|exact SetAs.z|(apply SetAs.c;(focus (repeat first|assumption|exact SetA.z|apply SetA.s)))))))|(apply Nm.r;focus repeat first|apply LN.cons|exact LN.nil)|fail));any_goals apply Stopped.mk
  rename_i b5
  have hLl : L.length ≤ 1000000 := by have h8 := congrArg List.length hL;rw [List.length_map] at h8;have := hb.mg.1;omega
  have hLk : ∀ x ∈ L, x.marks.length ≤ 1000000 := fun x hx => hb.mg.2 x.g (by rw [← hL];exact List.mem_map_of_mem hx)
  have hbc := hb.clk.2.2
  have hbp := hb.pll
  have hbs := hb.st
  apply CA.own
  focus (apply OX.blk (b := b5);(focus repeat first|exact .here|apply Take.there);(focus (apply FX.s1;(focus repeat first|exact .here|apply Take.there);(focus omega);apply FX.k;apply FX.k;apply out_fx2;(focus repeat first|exact .here|apply Take.there);(focus repeat first|exact .here|apply Take.there);(focus exact hLl);(focus exact hLk);apply FX.k;apply FX.k;apply FX.s1;(focus repeat first|exact .here|apply Take.there);(focus omega);exact FX.nil));(focus repeat first|exact .here|apply Take.there))
  rw [hL]
  repeat' (first|refine Sp.h ?_|refine Lk.r rfl ?_|refine Rf.mk rfl ?_|(apply TkA.r;(focus repeat first|exact .here|apply Take.there))|(apply TkB.r;(focus repeat first|exact .here|apply Take.there))|fail)
  refine CA.nilOwn 6 37 13 evC rfl fun vr => ?_
  refine CA.loop (fun x : Nat × Value × NowS => ⟨[(0, pm s), (1, ints c), (5, pm b5), (6, .ow x.2.1), (46, .ow v), (47, it (evl.length : Nat)), (48, it x.1)], [stoR s m b v w, arrR v 37 13 evl evC, blkR b5 75 (midC x.2.2 v2), arrR v2 3 1 x.2.2.state intC, arrR x.2.1 37 13 (outL c (evl.take x.1)) evC]⟩)
    (fun x => x.1 ≤ evl.length ∧ (∀ e ∈ evl.take x.1, HasC c e.rep e.num → Ins e.past c) ∧ MidOK m b x.2.2 x.1 ∧ x.2.2 = (inL c (evl.take x.1)).foldl (cmp1 m) b) (fun x => evl.length - x.1) (0, vr, b) ⟨by repeat first|trivial|refine ⟨rfl,?_⟩,by repeat first|exact .nil|refine .cons (by repeat first|exact .here|apply Take.there) ?_⟩ ⟨Nat.zero_le _, by simp, ⟨rfl, hb.st, hb.mg, hb.pls, by simp⟩, rfl⟩ ?_
  rintro ⟨i, vr, y⟩ ⟨hi, hin0, hmid, hy⟩
  simp only at hi hin0 hmid hy
  simp only
  have hyp := hmid.pll
  have hys := hmid.st
  by_cases hil : i < evl.length
  · obtain ⟨e, he⟩ := get_of hil
    have heV := hev e (List.mem_of_getElem? he)
    have hn := name35_p e
    have hh := hasC_p c e.rep e.num
    have hsi := inL_succ (c := c) he
    have hso := outL_succ (c := c) he
    have hol : (outL c (evl.take i)).length ≤ i := by
      have := List.length_filter_le (fun e : EvS => decide (¬ HasC c e.rep e.num)) (evl.take i)
      rw [List.length_take] at this
      unfold outL;omega
    by_cases hhc : HasC c e.rep e.num
    rotate_left
    · rw [decide_eq_false hhc] at hh
      rw [if_neg hhc] at hsi hso
      rw [List.append_nil] at hsi
      repeat' (first|refine Sp.h ?_|refine Lk.r rfl ?_|refine Rf.mk rfl ?_|(apply Bd.t;(focus first|assumption|omega|rfl))|(apply Bd.f;(focus first|assumption|omega|exact Bool.false_ne_true))|(apply Om.mk;(focus first|omega|(simp <;> omega)))|(refine All.mk ?_;intro _)|(apply TkA.r;(focus repeat first|exact .here|apply Take.there))|(apply TkB.r;(focus repeat first|exact .here|apply Take.there))|(apply Ix.q;(focus exact rfl);(focus assumption))|(apply At.r;(focus assumption))|refine Ce.r ?_|refine Ch.l ⟨rfl, rfl⟩ ?_|(apply SetAsk.r;(focus (repeat (first|exact SetAs.z|(apply SetAs.c;(focus (repeat first|assumption|exact SetA.z|apply SetA.s)))))))|(apply Fk.r;(focus (repeat (first|exact FillA.nil|(apply FillA.agg;(focus rfl);(focus rfl);(focus (repeat (first|exact SetAs.z|(apply SetAs.c;(focus (repeat first|assumption|exact SetA.z|apply SetA.s)))))))|(apply FillA.one;(focus rfl);(focus infer_instance);(focus (repeat first|assumption|exact SetA.z|apply SetA.s)))))))|(apply Nm.r;focus repeat first|apply LN.cons|exact LN.nil)|refine Rf.mk ⟨rfl, rfl⟩ ?_|refine Rf.mk ⟨rfl, rfl, rfl⟩ ?_|(apply Mp.lit;(focus repeat (first|exact MpL.nil|(apply MpL.cons;(focus rfl))|(apply MpL.inv;(focus repeat (first|apply LN.cons|exact LN.nil));(focus infer_instance)))))|(apply Ov.n;(focus first|omega|(simp <;> omega)))|(apply Cl.p (hn);(focus ((repeat' (first|exact Lend.nil|apply Lend.keep|fail));done)))|(apply Cl.p (hh);(focus ((repeat' (first|exact Lend.nil|apply Lend.keep|fail));done))))
      rw [← hso]
      exact PA.lp (i + 1, _, y) ⟨by repeat first|trivial|refine ⟨rfl,?_⟩,by repeat first|exact .nil|refine .cons (by repeat first|exact .here|apply Take.there) ?_⟩ ⟨⟨hil, all_succ he hin0 (fun h => absurd h hhc), ⟨hmid.ck, hmid.st, hmid.mg, hmid.pls, by simp only;omega⟩, by simp only;rw [hsi];exact hy⟩, by simp only;omega⟩
    rw [decide_eq_true hhc] at hh
    rw [if_pos hhc] at hsi hso
    rw [List.append_nil] at hso
    have hm3 := missing_o c e.past
    have hal3 : AlikeC [c, e.past] := (alike2 _ _).2 ⟨h1.1, heV.1.1, by have := heV.2.1;omega⟩
    by_cases hie : Ins e.past c
    rotate_left
    · rw [hF9 (fun h => hie (h.2.2 e (List.mem_of_getElem? he) hhc))]
      repeat' (first|refine Sp.h ?_|refine Lk.r rfl ?_|refine Rf.mk rfl ?_|(apply Bd.t;(focus first|assumption|omega|rfl))|(refine All.mk ?_;intro _)|(apply TkA.r;(focus repeat first|exact .here|apply Take.there))|(apply TkB.r;(focus repeat first|exact .here|apply Take.there))|(apply Ix.q;(focus exact rfl);(focus assumption))|(apply At.r;(focus assumption))|refine Ch.l ⟨rfl, rfl⟩ ?_|(apply SetAsk.r;(focus (repeat (first|exact SetAs.z|(apply SetAs.c;(focus (repeat first|assumption|exact SetA.z|apply SetA.s)))))))|(apply Nm.r;focus repeat first|apply LN.cons|exact LN.nil)|(apply Cl.p (hn);(focus ((repeat' (first|exact Lend.nil|apply Lend.keep|fail));done)))|(apply Cl.p (hh);(focus ((repeat' (first|exact Lend.nil|apply Lend.keep|fail));done))))
      (apply Cl.use (hm3);(focus repeat' (first|exact Lend.nil|apply Lend.keep|fail));(focus (repeat (first|exact Takes.nil|(apply Takes.cons;(focus repeat first|exact .here|apply Take.there)))));(focus rfl))
      rintro _ _ ⟨u3, l3, rfl, rfl, q1, q2⟩
      have q0 : 0 < l3.length := List.length_pos_iff.2 fun h => hie (q1.1 h hal3)
      repeat' (first|refine Sp.h ?_|refine Lk.r rfl ?_|refine Rf.mk rfl ?_|(apply Bd.t;(focus first|assumption|omega|rfl))|(apply TkA.r;(focus repeat first|exact .here|apply Take.there))|(apply Nm.r;focus repeat first|apply LN.cons|exact LN.nil)|fail)
      exact ⟨_, _, .one (.same (.nil (by (repeat first|exact .nil|refine .cons (by repeat first|exact .here|apply Take.there) ?_)))), rfl, v, rfl⟩
    have hap := applyT_p m y.merged e hm
    have hwi := with_p y.places e.place hmid.pls (by omega)
    have hst := mid_step (e := e) hmid
    have hfd : cmp1 m y e = (inL c (evl.take (i + 1))).foldl (cmp1 m) b := by rw [hsi, List.foldl_append, ← hy];rfl
    have hnx : ∀ d ∈ evl.take (i + 1), HasC c d.rep d.num → Ins d.past c := all_succ he hin0 (fun _ => hie)
    repeat' (first|refine Sp.h ?_|refine Lk.r rfl ?_|refine Rf.mk rfl ?_|(apply Bd.t;(focus first|assumption|omega|rfl))|(refine All.mk ?_;intro _)|(apply TkA.r;(focus repeat first|exact .here|apply Take.there))|(apply TkB.r;(focus repeat first|exact .here|apply Take.there))|(apply Ix.q;(focus exact rfl);(focus assumption))|(apply At.r;(focus assumption))|refine Ch.l ⟨rfl, rfl⟩ ?_|(apply SetAsk.r;(focus (repeat (first|exact SetAs.z|(apply SetAs.c;(focus (repeat first|assumption|exact SetA.z|apply SetA.s)))))))|(apply Nm.r;focus repeat first|apply LN.cons|exact LN.nil)|(apply Cl.p (hn);(focus ((repeat' (first|exact Lend.nil|apply Lend.keep|fail));done)))|(apply Cl.p (hh);(focus ((repeat' (first|exact Lend.nil|apply Lend.keep|fail));done))))
    (apply Cl.use (hm3);(focus repeat' (first|exact Lend.nil|apply Lend.keep|fail));(focus (repeat (first|exact Takes.nil|(apply Takes.cons;(focus repeat first|exact .here|apply Take.there)))));(focus rfl))
    rintro _ _ ⟨u3, l3, rfl, rfl, q1, q2⟩
    have q0 : l3.length = 0 := by rw [q1.2 fun _ => hie];rfl
    by_cases hk : e.kind = 0
    rotate_left
    · have hadd : addE m y.state e = y.state := if_neg hk
      by_cases hpl : 0 < e.place
      · repeat' (first|refine Sp.h ?_|refine Lk.r rfl ?_|refine Rf.mk rfl ?_|(apply Bd.t;(focus first|assumption|omega|rfl))|(apply Bd.f;(focus first|assumption|omega|exact Bool.false_ne_true))|refine OpK.r rfl ?_|(apply TkA.r;(focus repeat first|exact .here|apply Take.there))|(apply TkB.r;(focus repeat first|exact .here|apply Take.there))|refine Ch.l ⟨rfl, rfl⟩ ?_|refine Ch.r ?_|(apply SetAk.r;(focus (repeat first|assumption|exact SetA.z|apply SetA.s)))|(apply CA.draw;(focus rfl);(focus kernel_rfl);(focus kernel_rfl);(focus repeat' (first|apply ON.one|exact ON.done|exact ON.none|apply ON.alt));(focus rfl))|(apply Ov.n;(focus first|omega|(simp <;> omega)))|(apply Cl.p (hap);(focus ((repeat' (first|exact Lend.nil|apply Lend.keep|fail));done)))|(apply Cl.p (hwi);(focus ((repeat' (first|exact Lend.nil|apply Lend.keep|fail));done))))
        have hz : (⟨y.clock, max y.time e.time, y.state, (applyF m y.merged e).2, withP y.places e.place⟩ : NowS) = cmp1 m y e := by rw [cmp1, hadd, plE, if_pos hpl];rfl
        all_goals rw [← hso]
        all_goals exact PA.lp (i + 1, vr, ⟨y.clock, max y.time e.time, y.state, (applyF m y.merged e).2, withP y.places e.place⟩) ⟨by repeat first|trivial|refine ⟨rfl,?_⟩,by repeat first|exact .nil|refine .cons (by repeat first|exact .here|apply Take.there) ?_⟩ ⟨⟨hil, hnx, by simp only;rw [hz];exact hst, by simp only;rw [hz];exact hfd⟩, by simp only;omega⟩
      · repeat' (first|refine Sp.h ?_|refine Lk.r rfl ?_|refine Rf.mk rfl ?_|(apply Bd.f;(focus first|assumption|omega|exact Bool.false_ne_true))|refine OpK.r rfl ?_|(apply TkA.r;(focus repeat first|exact .here|apply Take.there))|(apply TkB.r;(focus repeat first|exact .here|apply Take.there))|refine Ch.l ⟨rfl, rfl⟩ ?_|refine Ch.r ?_|(apply SetAk.r;(focus (repeat first|assumption|exact SetA.z|apply SetA.s)))|(apply CA.draw;(focus rfl);(focus kernel_rfl);(focus kernel_rfl);(focus repeat' (first|apply ON.one|exact ON.done|exact ON.none|apply ON.alt));(focus rfl))|(apply Ov.n;(focus first|omega|(simp <;> omega)))|(apply Cl.p (hap);(focus ((repeat' (first|exact Lend.nil|apply Lend.keep|fail));done)))|(apply Cl.p (hwi);(focus ((repeat' (first|exact Lend.nil|apply Lend.keep|fail));done))))
        have hz : (⟨y.clock, max y.time e.time, y.state, (applyF m y.merged e).2, y.places⟩ : NowS) = cmp1 m y e := by rw [cmp1, hadd, plE, if_neg hpl];rfl
        all_goals rw [← hso]
        all_goals exact PA.lp (i + 1, vr, ⟨y.clock, max y.time e.time, y.state, (applyF m y.merged e).2, y.places⟩) ⟨by repeat first|trivial|refine ⟨rfl,?_⟩,by repeat first|exact .nil|refine .cons (by repeat first|exact .here|apply Take.there) ?_⟩ ⟨⟨hil, hnx, by simp only;rw [hz];exact hst, by simp only;rw [hz];exact hfd⟩, by simp only;omega⟩
    have hact := act_rng heV.1 hk
    have hact2 := heV.2.2 hk
    obtain ⟨a, ha⟩ := get_of (l := m.acts) (i := e.action.toNat) (by omega)
    have hd := dltF_at ha
    have heo := hm.eff a (List.mem_of_getElem? ha)
    have hadd : addE m y.state e = addD y.state a.eff.delta := by rw [addE, if_pos hk, hd]
    repeat' (first|refine Sp.h ?_|refine Lk.r rfl ?_|refine Rf.mk rfl ?_|(apply Bd.t;(focus first|assumption|omega|rfl))|(apply Bd.f;(focus first|assumption|omega|exact Bool.false_ne_true))|refine OpK.r rfl ?_|(refine Im.mk ?_;intro _)|(apply TkA.r;(focus repeat first|exact .here|apply Take.there))|(apply TkB.r;(focus repeat first|exact .here|apply Take.there))|(apply Ix.r;(focus assumption);(focus omega))|(apply SetAk.r;(focus (repeat first|assumption|exact SetA.z|apply SetA.s)))|(apply CA.draw;(focus rfl);(focus kernel_rfl);(focus kernel_rfl);(focus repeat' (first|apply ON.one|exact ON.done|exact ON.none|apply ON.alt));(focus rfl))|fail)
    refine CA.loop (fun k : Nat => ⟨[(0, pm s), (1, ints c), (5, pm b5), (6, .ow vr), (8, pm _), (46, .ow v), (47, it (evl.length : Nat)), (48, it i), (86, terms a.eff.delta), (87, it (a.eff.delta.length : Nat)), (88, it k)], [stoR s m b v w, arrR v 37 13 evl evC, blkR b5 75 (midC { y with time := max y.time e.time } v2), arrR v2 3 1 (addD y.state (a.eff.delta.take k)) intC, arrR vr 37 13 (outL c (evl.take i)) evC, blkR _ 37 (evC e)]⟩) (fun k => k ≤ a.eff.delta.length) (fun k => a.eff.delta.length - k) 0 ⟨by repeat first|trivial|refine ⟨rfl,?_⟩,by repeat first|exact .nil|refine .cons (by repeat first|exact .here|apply Take.there) ?_⟩ (Nat.zero_le _) ?_
    intro k hk2
    have hlen := addD_length (a.eff.delta.take k) y.state
    by_cases hkl : k < a.eff.delta.length
    · obtain ⟨p, hp⟩ := get_of hkl
      obtain ⟨p1, p2⟩ := heo.d p (List.mem_of_getElem? hp)
      obtain ⟨z, hz⟩ := get_of (l := addD y.state (a.eff.delta.take k)) (i := p.1.toNat) (by omega)
      have hsd := addD_succ (s := y.state) hp
      rw [show add1 (addD y.state (a.eff.delta.take k)) p = (addD y.state (a.eff.delta.take k)).set p.1.toNat (IntKind.i64.wrap (z + p.2)) by rw [add1, hz];rfl] at hsd
      repeat' (first|refine Sp.h ?_|refine Lk.r rfl ?_|refine Rf.mk rfl ?_|(apply Bd.t;(focus first|assumption|omega|rfl))|refine OpK.r rfl ?_|(refine All.mk ?_;intro _)|(apply TkA.r;(focus repeat first|exact .here|apply Take.there))|(apply TkB.r;(focus repeat first|exact .here|apply Take.there))|(apply Ix.q;(focus exact rfl);(focus assumption))|(apply Ix.r;(focus assumption);(focus omega))|(apply At.r;(focus assumption))|refine Ch.l ⟨rfl, rfl⟩ ?_|(apply SetAsk.r;(focus (repeat (first|exact SetAs.z|(apply SetAs.c;(focus (repeat first|assumption|exact SetA.z|apply SetA.s)))))))|(apply Nm.r;focus repeat first|apply LN.cons|exact LN.nil)|(apply CA.draw;(focus rfl);(focus kernel_rfl);(focus kernel_rfl);(focus repeat' (first|apply ON.one|exact ON.done|exact ON.none|apply ON.alt));(focus rfl))|fail)
      refine ⟨?_⟩
      repeat' (first|refine Sp.h ?_|refine Lk.r rfl ?_|refine Rf.mk rfl ?_|refine OpK.r rfl ?_|(apply TkA.r;(focus repeat first|exact .here|apply Take.there))|(apply Ix.r;(focus assumption);(focus omega))|(apply At.r;(focus assumption))|(apply SetAk.r;(focus (repeat first|assumption|exact SetA.z|apply SetA.s)))|refine Up.r rfl ?_|(apply Ov.n;(focus first|omega|(simp <;> omega)))|fail)
      rw [← hsd]
      exact PA.lp (k + 1) ⟨by repeat first|trivial|refine ⟨rfl,?_⟩,by repeat first|exact .nil|refine .cons (by repeat first|exact .here|apply Take.there) ?_⟩ ⟨hkl, by omega⟩
    · have hke : k = a.eff.delta.length := by omega
      subst hke
      rw [List.take_length]
      by_cases hpl : 0 < e.place
      · repeat' (first|refine Sp.h ?_|refine Lk.r rfl ?_|refine Rf.mk rfl ?_|(apply Bd.t;(focus first|assumption|omega|rfl))|(apply Bd.f;(focus first|assumption|omega|exact Bool.false_ne_true))|refine OpK.r rfl ?_|(apply TkB.r;(focus repeat first|exact .here|apply Take.there))|refine Ch.l ⟨rfl, rfl⟩ ?_|refine Ch.r ?_|(apply SetAk.r;(focus (repeat first|assumption|exact SetA.z|apply SetA.s)))|(apply CA.draw;(focus rfl);(focus kernel_rfl);(focus kernel_rfl);(focus repeat' (first|apply ON.one|exact ON.done|exact ON.none|apply ON.alt));(focus rfl))|(apply Ov.n;(focus first|omega|(simp <;> omega)))|(apply Cl.p (hap);(focus ((repeat' (first|exact Lend.nil|apply Lend.keep|fail));done)))|(apply Cl.p (hwi);(focus ((repeat' (first|exact Lend.nil|apply Lend.keep|fail));done))))
        have hz : (⟨y.clock, max y.time e.time, addD y.state a.eff.delta, (applyF m y.merged e).2, withP y.places e.place⟩ : NowS) = cmp1 m y e := by rw [cmp1, hadd, plE, if_pos hpl];rfl
        all_goals rw [← hso]
        all_goals exact PA.lp (i + 1, vr, ⟨y.clock, max y.time e.time, addD y.state a.eff.delta, (applyF m y.merged e).2, withP y.places e.place⟩) ⟨by repeat first|trivial|refine ⟨rfl,?_⟩,by repeat first|exact .nil|refine .cons (by repeat first|exact .here|apply Take.there) ?_⟩ ⟨⟨hil, hnx, by simp only;rw [hz];exact hst, by simp only;rw [hz];exact hfd⟩, by simp only;omega⟩
      · repeat' (first|refine Sp.h ?_|refine Lk.r rfl ?_|refine Rf.mk rfl ?_|(apply Bd.f;(focus first|assumption|omega|exact Bool.false_ne_true))|refine OpK.r rfl ?_|(apply TkB.r;(focus repeat first|exact .here|apply Take.there))|refine Ch.l ⟨rfl, rfl⟩ ?_|refine Ch.r ?_|(apply SetAk.r;(focus (repeat first|assumption|exact SetA.z|apply SetA.s)))|(apply CA.draw;(focus rfl);(focus kernel_rfl);(focus kernel_rfl);(focus repeat' (first|apply ON.one|exact ON.done|exact ON.none|apply ON.alt));(focus rfl))|(apply Ov.n;(focus first|omega|(simp <;> omega)))|(apply Cl.p (hap);(focus ((repeat' (first|exact Lend.nil|apply Lend.keep|fail));done)))|(apply Cl.p (hwi);(focus ((repeat' (first|exact Lend.nil|apply Lend.keep|fail));done))))
        have hz : (⟨y.clock, max y.time e.time, addD y.state a.eff.delta, (applyF m y.merged e).2, y.places⟩ : NowS) = cmp1 m y e := by rw [cmp1, hadd, plE, if_neg hpl];rfl
        all_goals rw [← hso]
        all_goals exact PA.lp (i + 1, vr, ⟨y.clock, max y.time e.time, addD y.state a.eff.delta, (applyF m y.merged e).2, y.places⟩) ⟨by repeat first|trivial|refine ⟨rfl,?_⟩,by repeat first|exact .nil|refine .cons (by repeat first|exact .here|apply Take.there) ?_⟩ ⟨⟨hil, hnx, by simp only;rw [hz];exact hst, by simp only;rw [hz];exact hfd⟩, by simp only;omega⟩
  · have hie : i = evl.length := by omega
    subst hie
    rw [List.take_length] at hin0 hy ⊢
    have hcl := h1.1.2.2
    have hout : (outL c evl).length ≤ 1000 := by
      have := List.length_filter_le (fun e : EvS => decide (¬ HasC c e.rep e.num)) evl
      unfold outL;omega
    have hF0 : compactF m ⟨b, evl, w⟩ c = (0, ⟨{ y with clock := c }, outL c evl, { w with merged := (outL c evl).foldl (mrg1 m) y.merged }⟩) := by
      refine (@if_neg _ (Classical.propDecidable _) (fun h9 => h9 h1) _ _ _).trans ((@if_neg _ (Classical.propDecidable _) (fun h9 => h9 ⟨h2, h3, hin0⟩) _ _ _).trans ?_)
      rw [cmpB, ← hy]
    rw [hF0]
    repeat' (first|refine Sp.h ?_|refine Lk.r rfl ?_|refine Rf.mk rfl ?_|(apply Bd.f;(focus first|assumption|omega|exact Bool.false_ne_true))|fail)
    (refine Cl.use (hcc) (by repeat' (first|exact Lend.nil|apply Lend.keep|fail)) .nil rfl ?_;rintro _ _ ⟨_, rfl, rfl⟩)
    (repeat' (first|(show CA _ _ (Code.region 26 _ _) _ _;apply Stopped.out)|refine Sp.h ?_|refine Lk.r rfl ?_|refine Rf.mk rfl ?_|(apply TkB.r;(focus repeat first|exact .here|apply Take.there))|(apply SetAk.r;(focus (repeat first|assumption|exact SetA.z|apply SetA.s)))|fail));any_goals apply Stopped.mk
    (apply CA.own;(focus (apply OX.blk (b := b5);(focus repeat first|exact .here|apply Take.there);(focus (repeat' (first|exact FX.nil|(apply FX.s1;(focus repeat first|exact .here|apply Take.there);(focus first|omega|(simp;done)|(simp;omega)))|apply FX.k)));(focus repeat first|exact .here|apply Take.there))))
    repeat' (first|refine Sp.h ?_|refine Lk.r rfl ?_|refine Rf.mk rfl ?_|(apply TkA.r;(focus repeat first|exact .here|apply Take.there))|(apply TkB.r;(focus repeat first|exact .here|apply Take.there))|fail)
    refine CA.loop (fun x : Nat × List MgS => ⟨[(0, pm s), (5, pm b5), (6, .ow vr), (11, mgs x.2), (130, .ow vr), (131, it ((outL c evl).length : Nat)), (132, it x.1)], [stoR s m b v w, arrR v 37 13 evl evC, blkR b5 75 (basC { y with clock := c }), arrR vr 37 13 (outL c evl) evC]⟩)
      (fun x => x.1 ≤ (outL c evl).length ∧ SzM x.2 ∧ x.2 = ((outL c evl).take x.1).foldl (mrg1 m) y.merged) (fun x => (outL c evl).length - x.1) (0, y.merged) ⟨by repeat first|trivial|refine ⟨rfl,?_⟩,by repeat first|exact .nil|refine .cons (by repeat first|exact .here|apply Take.there) ?_⟩ ⟨Nat.zero_le _, hmid.mg, rfl⟩ ?_
    rintro ⟨j, k⟩ ⟨hj, hkz, hk⟩
    simp only at hj hkz hk
    simp only
    by_cases hjl : j < (outL c evl).length
    · obtain ⟨e, he⟩ := get_of hjl
      have hap := applyT_p m k e hm
      repeat' (first|refine Sp.h ?_|refine Lk.r rfl ?_|refine Rf.mk rfl ?_|(apply Bd.t;(focus first|assumption|omega|rfl))|refine OpK.r rfl ?_|(refine All.mk ?_;intro _)|(apply TkA.r;(focus repeat first|exact .here|apply Take.there))|(apply TkB.r;(focus repeat first|exact .here|apply Take.there))|(apply Ix.q;(focus exact rfl);(focus assumption))|(apply At.r;(focus assumption))|refine Ch.l ⟨rfl, rfl⟩ ?_|refine Ch.r ?_|(apply SetAsk.r;(focus (repeat (first|exact SetAs.z|(apply SetAs.c;(focus (repeat first|assumption|exact SetA.z|apply SetA.s)))))))|(apply Nm.r;focus repeat first|apply LN.cons|exact LN.nil)|(apply CA.draw;(focus rfl);(focus kernel_rfl);(focus kernel_rfl);(focus repeat' (first|apply ON.one|exact ON.done|exact ON.none|apply ON.alt));(focus rfl))|(apply Ov.n;(focus first|omega|(simp <;> omega)))|(apply Cl.p (hap);(focus repeat' (first|exact Lend.nil|apply Lend.keep|fail))))
      all_goals exact PA.lp (j + 1, mrg1 m k e) ⟨by repeat first|trivial|refine ⟨rfl,?_⟩,by repeat first|exact .nil|refine .cons (by repeat first|exact .here|apply Take.there) ?_⟩ ⟨⟨hjl, mrg1_sz hkz, by simp only;rw [List.take_add_one, he, Option.toList_some, List.foldl_append, ← hk];rfl⟩, by simp only;omega⟩
    · have hje : j = (outL c evl).length := by omega
      subst hje
      rw [List.take_length] at hk
      have hcm := cloneM_p k (by have := hkz.1;omega) hkz.2
      rw [← hk]
      repeat' (first|refine Sp.h ?_|refine Lk.r rfl ?_|refine Rf.mk rfl ?_|(apply Bd.f;(focus first|assumption|omega|exact Bool.false_ne_true))|refine OpK.r rfl ?_|(apply TkB.r;(focus repeat first|exact .here|apply Take.there))|refine Ch.l ⟨rfl, rfl⟩ ?_|(apply SetAk.r;(focus (repeat first|assumption|exact SetA.z|apply SetA.s)))|(apply SetAsk.r;(focus (repeat (first|exact SetAs.z|(apply SetAs.c;(focus (repeat first|assumption|exact SetA.z|apply SetA.s)))))))|(apply Nm.r;focus repeat first|apply LN.cons|exact LN.nil)|(apply CA.draw;(focus rfl);(focus kernel_rfl);(focus kernel_rfl);(focus repeat' (first|apply ON.one|exact ON.done|exact ON.none|apply ON.alt));(focus rfl))|(apply Cl.p (hcm);(focus repeat' (first|exact Lend.nil|apply Lend.keep|fail))))
      all_goals exact ⟨_, _, .one (.same (.nil (by (repeat first|exact .nil|refine .cons (by repeat first|exact .here|apply Take.there) ?_)))), rfl, vr, rfl⟩
end Go.Proofs.YtmllihbhphnolaaGreat
namespace Go.CF
open Go
def fldE (tt : Nat → Option TI) (t i : Nat) : Option (Nat × Nat × TI) := match tt t with
  | some ti => match ti.kind with
    | .struct fs => match fs[i]? with
      | some (off, ft, _) => match tt ft with
        | some te => if te.kind.agg = false then some (off, ft, te) else none
        | none => none
      | none => none
    | _ => none
  | none => none
theorem fldE_spec {tt : Nat → Option TI} {t i : Nat} {p : Nat × Nat × TI} (h : fldE tt t i = some p) : ∃ ti fs sz, tt t = some ti ∧ ti.kind = .struct fs ∧ fs[i]? = some (p.1, p.2.1, sz) ∧ tt p.2.1 = some p.2.2 ∧ p.2.2.kind.agg = false := by
  unfold fldE at h
  split at h
  · rename_i ti h1
    split at h
    · rename_i fs h2
      split at h
      · rename_i off ft sz h3
        split at h
        · rename_i te h4
          split at h
          · rename_i h5
            cases h
            exact ⟨ti, fs, sz, h1, h2, h3, h4, h5⟩
          · cases h
        · cases h
      · cases h
    · cases h
  · cases h
section
variable {Γ : Cx} {k : List KI} {e : EA} {o : List Res} {N : NA} {c : Cls} {d : Tmp} {ty : TypeId} {x : Operand} {t : TypeId}
theorem St.field {P : Program} {tt : Nat → Option TI} {en : Nat → Bool} (G : PgOK P tt en) {γ : Type} [Membership Nat γ] {fp : γ} {n : Nat} {env : Env} {h : Heap} {N : Env → Heap → Prop} {i : Nat} {p : Nat × Nat × TI} {vs : List Value} {v : Value} (hp : fldE tt t i = some p)
    (hx : ev env x = some (.agg vs.toArray)) (hv : vs[p.1]? = some v) (k : N ((d, v) :: env) h) : St P n fp c (some d) (.field t x i) ty env h N :=
  .ofPu (v := v) (fun a w ha => by
    obtain ⟨ti, fs, sz, h1, h2, h3, h4, h5⟩ := fldE_spec hp
    obtain ⟨ff, hu, rfl⟩ := (G.ok _ _ h1).struct h2
    rw [List.getElem?_map] at h3
    obtain ⟨f, hf1, hf2⟩ := Option.map_eq_some_iff.1 h3
    simp only [Prod.mk.injEq] at hf2
    have hf3 : ff[i]? = some f := by simpa using hf1
    have hag := (G.ok _ _ h4).run_agg w h5
    rw [← hf2.2.1] at hag
    have hv2 : vs[f.offset]? = some v := by rw [hf2.1];exact hv
    simp [mkOp, execOp, ha.ev hx, Instr.field, run_underlying hu, hf3, part, hag, asAgg, hv2]) k
instance {i : Nat} : Sp (SA Γ c (some d) (.field t x i) ty e o N) (Lk (evA e x) fun a => Ap1 Γ c d (.field t x i) ty e o N x a) := ⟨fun ⟨_, ha, h⟩ => h.h ha⟩
instance {i : Nat} {cs : List AV} : Sp (Ap1 Γ c d (.field t x i) ty e o N x (.agg cs)) (Lk (fldE Γ.tt t i) fun p => Lk cs[p.1]? fun a => N ((d, a) :: e) o) := ⟨fun ⟨p, hp, a, ha, hn⟩ => pu1 fun env h G v h1 h2 => by
  obtain ⟨vs, rfl, hr⟩ := h2
  obtain ⟨w, h3, h4⟩ := hr.t.get ha
  exact ⟨a, w, h4, hn, fun _ k => St.field Γ.ok hp h1 h3 k⟩⟩
end
end Go.CF
namespace Go.Proofs.YtmllihbhphnolaaGreat
open Go Go.CF
set_option maxRecDepth 20000
/-! ### The model -/
def tC : TblS := ⟨⟨#[99]⟩, 1, [], 0, 9, 0⟩
def cntM : ModS := ⟨[], [tC], [⟨#[99]⟩], [⟨0, 0, ⟨[(0, -1)], 0⟩, 0, 0⟩, ⟨0, 0, ⟨[(0, 1)], 9⟩, 0, 0⟩], [⟨⟨#[111]⟩, false, []⟩, ⟨⟨#[112]⟩, false, []⟩], [⟨0, [], ⟨[(0, 2)], [], []⟩⟩, ⟨1, [], ⟨[(0, -1)], [], []⟩⟩], []⟩
theorem cnt_a : CallA Tryz.prog 78 [] [] fun r own => ∃ vt vf t1 t2 vc vo d1 d2 va, r = .agg [nl0, .ow vt, .ow vf, .ow vc, .ow vo, .ow va, nl0] ∧ own = [
    arrR va 151 5 [[it 0, nl0, .ow d1, nl0, nl0], [it 1, nl0, .ow d2, nl0, nl0]] id,
    arrR d2 160 2 [[it 0, it (-1)]] id,
    arrR d1 160 2 [[it 0, it 2]] id,
    arrR vo 227 3 [[sv ⟨#[111]⟩, bl false, nl0], [sv ⟨#[112]⟩, bl false, nl0]] id,
    arrR vc 225 6 [[it 0, it 0, .ow t1, it 0, it 0, it 0], [it 0, it 0, .ow t2, it 9, it 0, it 0]] id,
    arrR t2 220 2 [[it 0, it 1]] id,
    arrR t1 220 2 [[it 0, it (-1)]] id,
    arrR vf 9 1 [[sv ⟨#[99]⟩]] id,
    arrR vt 157 6 [[sv ⟨#[99]⟩, it 1, nl0, it 0, it 9, it 0]] id] := by
  refine CallA.of pg ord78 Tryz.func78 rfl Tryz.ntmps78 Tryz.results78 rfl fun h0 G0 O0 => ?_
  repeat' (first|refine Sp.h ?_|refine Lk.r rfl ?_|refine Rf.mk rfl ?_|(refine All.mk ?_;intro _)|(apply TkB.r;(focus repeat first|exact .here|apply Take.there))|(apply SetAsk.r;(focus (repeat (first|exact SetAs.z|(apply SetAs.c;(focus (repeat first|assumption|exact SetA.z|apply SetA.s)))))))|(apply Fk.r;(focus (repeat (first|exact FillA.nil|(apply FillA.agg;(focus rfl);(focus rfl);(focus (repeat (first|exact SetAs.z|(apply SetAs.c;(focus (repeat first|assumption|exact SetA.z|apply SetA.s)))))))|(apply FillA.one;(focus rfl);(focus infer_instance);(focus (repeat first|assumption|exact SetA.z|apply SetA.s)))))))|(apply Nm.r;focus repeat first|apply LN.cons|exact LN.nil)|refine Rf.mk ⟨rfl, rfl, rfl⟩ ?_|fail)
  exact ⟨_, _, .one (.same (.nil (by (repeat first|exact .nil|refine .cons (by repeat first|exact .here|apply Take.there) ?_)))), _, _, _, _, _, _, _, _, _, rfl, rfl⟩
theorem cnt_p : CallP Tryz.prog 78 [] (mdl cntM) := by
  refine CallA.fx cnt_a ?_
  rintro _ _ ⟨vt, vf, t1, t2, vc, vo, d1, d2, va, rfl, rfl⟩
  repeat' (first
    | exact FX.nil
    | (apply FX.sl;(focus repeat first|exact .here|apply Take.there);(focus exact Nat.le_of_ble_eq_true rfl))
    | apply FX.agg
    | (apply FX.le;(focus first|exact ALe.nil|exact ALe.refl _)))
theorem cnt_mrg : mrgF cntM = [] := by simp [mrgF, mrgL, cntM, isStrict, tC]
theorem cnt_str : strF cntM = 1 := by simp [strF, strN, cntM, isStrict, szF, prodF, tC]
theorem cnt_lay : LayOK cntM.sorts cntM.tables := by
  refine ⟨by simp [cntM], fun x hx => by simp [cntM] at hx, by simp [cntM], fun t ht => ?_⟩
  simp only [cntM, List.mem_cons, List.not_mem_nil, or_false] at ht
  subst ht
  simp [TabOK, ColOK, Sound, cntM, tC]
theorem cnt_ok : MOK cntM := by
  refine ⟨cnt_lay, by simp [cntM], by simp [cntM], fun a ha => ?_, by rw [cnt_str];decide, by rw [cnt_mrg];decide⟩
  simp only [cntM, List.mem_cons, List.not_mem_nil, or_false] at ha
  rcases ha with rfl|rfl
  all_goals
    refine ⟨by simp, by simp, by simp, fun p hp => ?_, fun p hp => by simp at hp⟩
    simp only [List.mem_cons, List.not_mem_nil, or_false] at hp
    subst hp
    rw [cnt_str];decide
/-! ### Two events -/
def ca : EvS := ⟨0, 1, 1, [0, 0], 0, 0, 0, 0, 0, 0, 0, 0, 1⟩
def cb : EvS := ⟨1, 1, 1, [0, 0], 0, 1, 0, 0, 0, 0, 0, 0, 1⟩
theorem val2 (a b : Int) (ha : 0 ≤ a ∧ a ≤ 1024) (hb : 0 ≤ b ∧ b ≤ 1024) : ValC [a, b] := ⟨fun x hx => by
  simp only [List.mem_cons, List.not_mem_nil, or_false] at hx
  unfold rngK
  omega, by simp, by simp⟩
theorem ca_f : FormedE ca := ⟨val2 0 0 (by decide) (by decide), by decide, ⟨0, rfl, rfl⟩, by decide, by unfold Btw ca;decide, .inl ⟨rfl, by unfold Sub0 Btw ca;decide, by unfold GiveZ ca;decide⟩⟩
theorem cb_f : FormedE cb := ⟨val2 0 0 (by decide) (by decide), by decide, ⟨0, rfl, rfl⟩, by decide, by unfold Btw cb;decide, .inl ⟨rfl, by unfold Sub0 Btw cb;decide, by unfold GiveZ cb;decide⟩⟩
theorem cab_suit : SuitS cntM [3] [ca, cb] := by
  have hc : ClosedE [ca, cb] := by
    refine ⟨by simp, fun i j a b hi hj hab => ?_, fun e he => ?_, fun e he r n hr i h1 h2 => ?_⟩
    · match i, j with
      | 0, 0 => rfl
      | 1, 1 => rfl
      | 0, 1 => simp at hi hj;subst hi;subst hj;simp [nm, ca, cb] at hab
      | 1, 0 => simp at hi hj;subst hi;subst hj;simp [nm, ca, cb] at hab
      | i + 2, _ => simp at hi
      | 0, j + 2 => simp at hj
      | 1, j + 2 => simp at hj
    · simp only [List.mem_cons, List.not_mem_nil, or_false] at he
      rcases he with rfl|rfl
      · exact ⟨ca_f, rfl⟩
      · exact ⟨cb_f, rfl⟩
    · exfalso
      simp only [List.mem_cons, List.not_mem_nil, or_false] at he
      have hn : n = 0 := by
        rcases he with rfl|rfl
        all_goals
          have := List.mem_of_getElem? hr
          simp [ca, cb] at this
          exact this
      omega
  refine ⟨⟨cnt_ok, ⟨by simp, fun e he => ?_⟩, hc, fun a ha u hu i t _ ht => ?_, fun e he => ?_⟩, by simp, by rw [cnt_str];rfl, by simp, fun a ha p hp => ?_⟩
  · simp only [List.mem_cons, List.not_mem_nil, or_false] at he
    rcases he with rfl|rfl <;> simp [ca, cb]
  · rw [cnt_mrg] at ht;simp at ht
  · simp only [List.mem_cons, List.not_mem_nil, or_false] at he
    rcases he with rfl|rfl
    · exact ⟨ca_f, rfl, fun _ => by decide⟩
    · exact ⟨cb_f, rfl, fun _ => by decide⟩
  · simp only [cntM, List.mem_cons, List.not_mem_nil, or_false] at ha
    rcases ha with rfl|rfl <;> (simp at hp;subst hp;decide)
theorem cab_ext : ExtO [ca, cb] [ca, cb] := by
  have hno : ∀ e, e = ca ∨ e = cb → ∀ d : EvS, ¬ HasC e.past d.rep d.num := fun e he d ⟨_, _, h1, x, hx, h2⟩ => by
    have h3 : e.past = [0, 0] := by rcases he with rfl|rfl <;> rfl
    rw [h3] at hx
    have := List.mem_of_getElem? hx
    simp at this
    omega
  refine ⟨fun e he => he, fun i e he => ⟨?_, fun d hd hh => absurd hh (hno e (by have := List.mem_of_getElem? he;simpa using this) d)⟩⟩
  match i with
  | 0 => simp
  | 1 => simp at he;subst he;simp [ca, cb]
  | i + 2 => simp at he
theorem cab_1 : deliverF cntM [] (stN cntM 2 [3] []) ca = (0, stN cntM 2 [3] [ca]) := (fill_sto cab_suit (by simp) cab_ext 0 (by simp)).2 ca rfl
theorem cab_2 : deliverF cntM [ca] (stN cntM 2 [3] [ca]) cb = (0, stN cntM 2 [3] [ca, cb]) := (fill_sto cab_suit (by simp) cab_ext 1 (by simp)).2 cb rfl
theorem st_cab : (stN cntM 2 [3] [ca, cb]).clock = [1, 1] ∧ (stN cntM 2 [3] [ca, cb]).state = [4] := by
  exact ⟨rfl, rfl⟩
theorem has_2 (x y : Int) (hx : 0 ≤ x ∧ x ≤ 1024) (hy : 0 ≤ y ∧ y ≤ 1024) : (HasC [x, y] 0 1 ↔ 1 ≤ x) ∧ (HasC [x, y] 1 1 ↔ 1 ≤ y) :=
  ⟨⟨fun ⟨_, _, _, z, h1, h2⟩ => by simp at h1;omega, fun h => ⟨val2 x y hx hy, by decide, by decide, x, rfl, h⟩⟩, ⟨fun ⟨_, _, _, z, h1, h2⟩ => by simp at h1;omega, fun h => ⟨val2 x y hx hy, by decide, by decide, y, rfl, h⟩⟩⟩
theorem ins_2 {a b c d : Int} (h1 : a ≤ c) (h2 : b ≤ d) : Ins [a, b] [c, d] := fun i x y hx hy => by
  match i with
  | 0 => simp at hx hy;omega
  | 1 => simp at hx hy;omega
  | i + 2 => simp at hx
theorem cab_3 : ∃ B N, compactF cntM ⟨stN cntM 2 [3] [], [ca, cb], stN cntM 2 [3] [ca, cb]⟩ [1, 0] = (0, ⟨B, [cb], N⟩) ∧ B.state = [5] ∧ SzN B ∧ N.clock = [1, 1] := by
  have hb : (stN cntM 2 [3] []).clock = [0, 0] := rfl
  obtain ⟨h1, h2⟩ := has_2 1 0 (by decide) (by decide)
  have e1 : inL [1, 0] [ca, cb] = [ca] := by
    have a1 : HasC [1, 0] ca.rep ca.num := h1.2 (by decide)
    have a2 : ¬ HasC [1, 0] cb.rep cb.num := fun h => absurd (h2.1 h) (by decide)
    simp [inL, a1, a2]
  have e2 : outL [1, 0] [ca, cb] = [cb] := by
    have a1 : HasC [1, 0] ca.rep ca.num := h1.2 (by decide)
    have a2 : ¬ HasC [1, 0] cb.rep cb.num := fun h => absurd (h2.1 h) (by decide)
    simp [outL, a1, a2]
  refine ⟨cmpB cntM (stN cntM 2 [3] []) [1, 0] [ca, cb], { stN cntM 2 [3] [ca, cb] with merged := [cb].foldl (mrg1 cntM) (cmpB cntM (stN cntM 2 [3] []) [1, 0] [ca, cb]).merged }, ?_, ?_, ?_, st_cab.1⟩
  · have q1 : ValC [1, 0] ∧ ([1, 0] : List Int).length = (stN cntM 2 [3] [ca, cb]).clock.length := ⟨val2 1 0 (by decide) (by decide), rfl⟩
    have q2 : Ins (stN cntM 2 [3] []).clock [1, 0] ∧ Ins [1, 0] (stN cntM 2 [3] [ca, cb]).clock ∧ ∀ e ∈ [ca, cb], HasC [1, 0] e.rep e.num → Ins e.past [1, 0] := by
      refine ⟨by rw [hb];exact ins_2 (by decide) (by decide), by rw [st_cab.1];exact ins_2 (by decide) (by decide), fun e he _ => ?_⟩
      simp only [List.mem_cons, List.not_mem_nil, or_false] at he
      rcases he with rfl|rfl <;> exact ins_2 (by decide) (by decide)
    refine (@if_neg _ (Classical.propDecidable _) (fun h9 => h9 q1) _ _ _).trans ((@if_neg _ (Classical.propDecidable _) (fun h9 => h9 q2) _ _ _).trans ?_)
    simp only [e2]
  · rw [cmpB, e1];rfl
  · rw [cmpB, e1]
    have hsz : SzM (mrg1 cntM (stN cntM 2 [3] []).merged ca) := mrg1_sz (by
      simp only [stN, List.foldl_nil, cnt_mrg]
      exact ⟨by simp, by simp⟩)
    exact ⟨by simp, by simp only [List.foldl_cons, List.foldl_nil, cmp1, addE_len];simp [stN], hsz.1, hsz.2, by simp only [List.foldl_cons, List.foldl_nil, cmp1];simp [stN, plE, ca]⟩
theorem cmk : makeF cntM (stN cntM 2 [3] []) 0 { ev0 with serial := 1 } = (0, ca) := by
  have hm : mkN (stN cntM 2 [3] []) 0 { ev0 with serial := 1 } = ca := rfl
  rw [makeF, if_neg (by show ¬ ((0:Int) < 0 ∨ (2:Int) ≤ 0);decide), if_neg (by show ¬ ((1024:Int) ≤ 0 ∨ (1073741824 : Int) ≤ 0);decide), hm, if_neg (fun h => h ⟨ca_f, rfl, fun _ => by decide⟩)]
end Go.Proofs.YtmllihbhphnolaaGreat
namespace Go.Proofs.YtmllihbhphnolaaGreat
open Go Go.CF
set_option maxRecDepth 20000
set_option maxHeartbeats 2000000 in
theorem equal32_p (a b : EvS) : CallP Tryz.prog 113 [evA' a, evA' b] (.val (.bool (decide (a = b)))) := by
  refine CallA.of pg ord113 Tryz.func113 rfl Tryz.ntmps113 Tryz.results113 rfl fun h0 G0 O0 => ?_
  repeat' (first|refine Sp.h ?_|refine Lk.r rfl ?_|refine Rf.mk rfl ?_|(apply Bd.t;(focus first|assumption|omega|rfl))|(apply Bd.f;(focus first|assumption|omega|exact Bool.false_ne_true))|(refine Bd.mk ?_ ?_ <;> intro _)|(refine All.mk ?_;intro _)|(apply TkB.r;(focus repeat first|exact .here|apply Take.there))|(apply Nm.r;focus repeat first|apply LN.cons|exact LN.nil)|fail)
  (apply Cl.p (intsR_p _ _);(focus repeat' (first|exact Lend.nil|apply Lend.keep|fail)))
  repeat' (first|refine Sp.h ?_|refine Lk.r rfl ?_|refine Rf.mk rfl ?_|(apply Bd.t;(focus first|assumption|omega|rfl))|(apply Bd.f;(focus first|assumption|omega|exact Bool.false_ne_true))|(refine Bd.mk ?_ ?_ <;> intro _)|(apply TkB.r;(focus repeat first|exact .here|apply Take.there))|refine Ch.r ?_|(apply Nm.r;focus repeat first|apply LN.cons|exact LN.nil)|(apply Il.r;(focus repeat (first|apply ILit.cons|exact ILit.nil)))|(apply Kf.mk;(focus kernel_rfl))|fail)
  all_goals refine Fin.p rfl (vb ?_)
  · refine decide_eq_decide.2 ⟨fun h => ?_, fun h => by rw [h]⟩
    cases a;cases b;simp_all
  all_goals exact (decide_eq_false (fun h => by subst h;first|contradiction|simp_all)).symm
theorem same32_p (a b : List EvS) : CallP Tryz.prog 41 [evs a, evs b] (bl (decide (a = b))) := by
  refine CallA.of pg ord41 Tryz.func41 rfl Tryz.ntmps41 Tryz.results41 rfl fun h0 G0 O0 => ?_
  by_cases hl : a.length = b.length
  rotate_left
  · repeat' (first|refine Sp.h ?_|refine Lk.r rfl ?_|refine Rf.mk rfl ?_|(apply Bd.f;(focus first|assumption|omega|exact Bool.false_ne_true))|(refine Im.mk ?_;intro _)|(apply Nm.r;focus repeat first|apply LN.cons|exact LN.nil)|fail)
    exact Fin.p rfl (vb (decide_eq_false (fun e => hl (by rw [e]))).symm)
  repeat' (first|refine Sp.h ?_|refine Lk.r rfl ?_|refine Rf.mk rfl ?_|(apply Bd.t;(focus first|assumption|omega|rfl))|(refine Im.mk ?_;intro _)|fail)
  refine CA.loop (fun i : Nat => ⟨[(0, evs a), (1, evs b), (5, it i)], []⟩) (fun i => i ≤ a.length ∧ ∀ (j : Nat) x y, j < i → a[j]? = some x → b[j]? = some y → x = y) (fun i => a.length - i) 0 ⟨by repeat first|trivial|refine ⟨rfl,?_⟩,by repeat first|exact .nil|refine .cons (by repeat first|exact .here|apply Take.there) ?_⟩ ⟨Nat.zero_le _, fun j x y h => by omega⟩ ?_
  rintro i ⟨hi, ha⟩
  by_cases hin : i < a.length
  · obtain ⟨x, hx⟩ := get_of hin
    obtain ⟨y, hy⟩ := get_of (l := b) (i := i) (by omega)
    have he := equal32_p x y
    by_cases hxy : x = y
    · rw [decide_eq_true hxy] at he
      repeat' (first|refine Sp.h ?_|refine Lk.r rfl ?_|refine Rf.mk rfl ?_|(apply Bd.t;(focus first|assumption|omega|rfl))|refine OpK.r rfl ?_|(refine Im.mk ?_;intro _)|(apply Ix.q;(focus exact rfl);(focus assumption))|refine Ch.l ⟨rfl, rfl⟩ ?_|(apply CA.draw;(focus rfl);(focus kernel_rfl);(focus kernel_rfl);(focus repeat' (first|apply ON.one|exact ON.done|exact ON.none|apply ON.alt));(focus rfl))|(apply Ov.n;(focus first|omega|(simp <;> omega)))|(apply Cl.p (he);(focus repeat' (first|exact Lend.nil|apply Lend.keep|fail))))
      all_goals
        refine PA.lp (i + 1) ⟨by repeat first|trivial|refine ⟨rfl,?_⟩,by repeat first|exact .nil|refine .cons (by repeat first|exact .here|apply Take.there) ?_⟩ ⟨⟨hin, fun j x' y' h1 h2 h3 => ?_⟩, by omega⟩
        by_cases hij : j = i
        · subst hij;rw [hx] at h2;rw [hy] at h3;cases h2;cases h3;exact hxy
        · exact ha j x' y' (by omega) h2 h3
    · rw [decide_eq_false hxy] at he
      repeat' (first|refine Sp.h ?_|refine Lk.r rfl ?_|refine Rf.mk rfl ?_|(apply Bd.t;(focus first|assumption|omega|rfl))|(apply Bd.f;(focus first|assumption|omega|exact Bool.false_ne_true))|refine OpK.r rfl ?_|(refine Im.mk ?_;intro _)|(apply Ix.q;(focus exact rfl);(focus assumption))|refine Ch.l ⟨rfl, rfl⟩ ?_|(apply Nm.r;focus repeat first|apply LN.cons|exact LN.nil)|(apply CA.draw;(focus rfl);(focus kernel_rfl);(focus kernel_rfl);(focus repeat' (first|apply ON.one|exact ON.done|exact ON.none|apply ON.alt));(focus rfl))|(apply Cl.p (he);(focus repeat' (first|exact Lend.nil|apply Lend.keep|fail))))
      all_goals exact Fin.p rfl (vb (decide_eq_false (fun e => hxy (by subst e;rw [hx] at hy;cases hy;rfl))).symm)
  · have hie : i = a.length := by omega
    subst hie
    repeat' (first|refine Sp.h ?_|refine Lk.r rfl ?_|refine Rf.mk rfl ?_|(apply Bd.f;(focus first|assumption|omega|exact Bool.false_ne_true))|(refine Im.mk ?_;intro _)|(apply Nm.r;focus repeat first|apply LN.cons|exact LN.nil)|fail)
    refine Fin.p rfl (vb (decide_eq_true (List.ext_getElem? fun j => ?_)).symm)
    by_cases hj : j < a.length
    · obtain ⟨x, hx⟩ := get_of hj
      obtain ⟨y, hy⟩ := get_of (l := b) (i := j) (by omega)
      rw [hx, hy, ha j x y hj hx hy]
    · rw [List.getElem?_eq_none (by omega), List.getElem?_eq_none (by omega)]
theorem stN_okC (X : List EvS) (hX : ∀ e ∈ X, e ∈ [ca, cb]) (hl : X.length ≤ 1000) : NowOK cntM (stN cntM 2 [3] X) := stN_ok cab_suit hX hl
set_option maxHeartbeats 8000000 in
theorem awake35_p : CallP Tryz.prog 13 [] (bl true) := by
  have hc := cnt_p
  have h1 := new35_a cntM 2 [3] cnt_ok (by decide) (by rw [cnt_str];rfl) (insS_ld (by simp))
  have h2 : ∀ p v, CallA Tryz.prog 18 [pm p, it 0, evA' { ev0 with serial := 1 }] [stoR p cntM (stN cntM 2 [3] []) v (stN cntM 2 [3] [])] fun q own => q = .tup [evA' ca, it 0] ∧ own = [stoR p cntM (stN cntM 2 [3] []) v (stN cntM 2 [3] [])] := fun p v => by
    have := smake_a p cntM (stN cntM 2 [3] []) v (stN cntM 2 [3] []) 0 { ev0 with serial := 1 } (by simp [stN, clkE]) (by simp [stN, clkE]) (by simp [stN])
    rwa [cmk] at this
  have h3 : ∀ p v, CallA Tryz.prog 21 [pm p, evA' ca] [stoR p cntM (stN cntM 2 [3] []) v (stN cntM 2 [3] []), arrR v 37 13 ([] : List EvS) evC] fun r own => r = it 0 ∧ ∃ v', own = [stoR p cntM (stN cntM 2 [3] []) v' (stN cntM 2 [3] [ca]), arrR v' 37 13 [ca] evC] := fun p v => by
    have := deliver_a p cntM (stN cntM 2 [3] []) v [] (stN cntM 2 [3] []) ca cnt_ok (stN_okC [] (by simp) (by simp)) (by simp)
    rw [evsD, cab_1, if_pos rfl] at this
    exact this
  have h4 : ∀ p v, CallA Tryz.prog 21 [pm p, evA' cb] [stoR p cntM (stN cntM 2 [3] []) v (stN cntM 2 [3] [ca]), arrR v 37 13 [ca] evC] fun r own => r = it 0 ∧ ∃ v', own = [stoR p cntM (stN cntM 2 [3] []) v' (stN cntM 2 [3] [ca, cb]), arrR v' 37 13 [ca, cb] evC] := fun p v => by
    have := deliver_a p cntM (stN cntM 2 [3] []) v [ca] (stN cntM 2 [3] [ca]) cb cnt_ok (stN_okC [ca] (by simp) (by simp)) (by simp)
    rw [evsD, cab_2, if_pos rfl] at this
    exact this
  obtain ⟨⟨bc, bt, bs, bm, bp⟩, ⟨nc, nt, ns, nm', np⟩, c1, c2, c3, c4⟩ := cab_3
  simp only at c2 c4
  subst c2
  subst c4
  obtain ⟨B, hB⟩ : ∃ B : NowS, B = ⟨bc, bt, [5], bm, bp⟩ := ⟨_, rfl⟩
  obtain ⟨N, hN⟩ : ∃ N : NowS, N = ⟨[1, 1], nt, ns, nm', np⟩ := ⟨_, rfl⟩
  rw [← hB, ← hN] at c1
  have h5 : ∀ p v, CallA Tryz.prog 66 [pm p, ints [1, 0]] [stoR p cntM (stN cntM 2 [3] []) v (stN cntM 2 [3] [ca, cb]), arrR v 37 13 [ca, cb] evC] fun r own => r = it 0 ∧ ∃ v', own = [stoR p cntM B v' N, arrR v' 37 13 [cb] evC] := fun p v => by
    have hN := stN_okC [ca, cb] (by simp) (by simp)
    have h0 := stN_okC [] (by simp) (by simp)
    have := compact_a p cntM (stN cntM 2 [3] []) v [ca, cb] (stN cntM 2 [3] [ca, cb]) [1, 0] cnt_ok hN ⟨h0.clk, rfl, h0.st, by simp only [stN, List.foldl_nil, cnt_mrg];exact ⟨by simp, by simp⟩, h0.pls, by simp [stN]⟩ (by simp) (fun e he => by
      simp only [List.mem_cons, List.not_mem_nil, or_false] at he
      rcases he with rfl|rfl
      · exact ⟨ca_f, rfl, fun _ => by decide⟩
      · exact ⟨cb_f, rfl, fun _ => by decide⟩)
    rw [c1] at this
    exact this
  have e4 := equal_p [4] [4]
  have e5 := equal_p [5] [5]
  have e11 := equal_p [1, 1] [1, 1]
  have es := same32_p [cb] [cb]
  rw [decide_eq_true rfl] at e4 e5 e11 es
  have e5' : CallP Tryz.prog 19 [ints B.state, ints [5]] (bl true) := by rw [show B.state = [5] by rw [hB]];exact e5
  have e11' : CallP Tryz.prog 19 [ints N.clock, ints [1, 1]] (bl true) := by rw [show N.clock = [1, 1] by rw [hN]];exact e11
  refine CallA.of pg ord13 Tryz.func13 rfl Tryz.ntmps13 Tryz.results13 rfl fun h0 G0 O0 => ?_
  repeat' (first|refine Sp.h ?_|refine Lk.r rfl ?_|refine Rf.mk rfl ?_|(refine All.mk ?_;intro _)|(apply Fk.r;(focus (repeat (first|exact FillA.nil|(apply FillA.agg;(focus rfl);(focus rfl);(focus (repeat (first|exact SetAs.z|(apply SetAs.c;(focus (repeat first|assumption|exact SetA.z|apply SetA.s)))))))|(apply FillA.one;(focus rfl);(focus infer_instance);(focus (repeat first|assumption|exact SetA.z|apply SetA.s)))))))|refine Rf.mk ⟨rfl, rfl, rfl⟩ ?_|(apply Cl.p (hc);(focus repeat' (first|exact Lend.nil|fail))))
  apply Cl.fx [mdl cntM, it 2, ints [3]]
  focus (repeat' (first|exact FX.nil|(apply FX.sl;(focus repeat first|exact .here|apply Take.there);(focus exact Nat.le_of_ble_eq_true rfl))|(apply FX.le;(focus first|exact ALe.refl _|exact ALe.nil))|apply FX.agg|apply FX.tup))
  (apply Cl.use (h1);(focus repeat' (first|exact Lend.nil|apply Lend.keep|fail));(focus (repeat (first|exact Takes.nil|(apply Takes.cons;(focus repeat first|exact .here|apply Take.there)))));(focus rfl))
  rintro _ _ ⟨p, v, rfl, rfl⟩
  repeat' (first|refine Sp.h ?_|refine Lk.r rfl ?_|refine Rf.mk rfl ?_|(apply Bd.t;(focus first|assumption|omega|rfl))|(apply Bd.f;(focus first|assumption|omega|exact Bool.false_ne_true))|(apply Fk.r;(focus (repeat (first|exact FillA.nil|(apply FillA.agg;(focus rfl);(focus rfl);(focus (repeat (first|exact SetAs.z|(apply SetAs.c;(focus (repeat first|assumption|exact SetA.z|apply SetA.s)))))))|(apply FillA.one;(focus rfl);(focus infer_instance);(focus (repeat first|assumption|exact SetA.z|apply SetA.s)))))))|fail)
  apply Cl.fx [pm p, it 0, evA' { ev0 with serial := 1 }]
  focus (repeat' (first|exact FX.nil|(apply FX.sl;(focus repeat first|exact .here|apply Take.there);(focus exact Nat.le_of_ble_eq_true rfl))|(apply FX.le;(focus first|exact ALe.refl _|exact ALe.nil))|apply FX.agg|apply FX.tup))
  (apply Cl.use (h2 p v);(focus repeat' (first|exact Lend.nil|apply Lend.keep|fail));(focus (repeat (first|exact Takes.nil|(apply Takes.cons;(focus repeat first|exact .here|apply Take.there)))));(focus rfl))
  rintro _ _ ⟨rfl, rfl⟩
  (repeat' (first|(show CA _ _ (Code.region 6 _ _) _ _;apply Stopped.out)|refine Sp.h ?_|refine Lk.r rfl ?_|refine Rf.mk rfl ?_|(refine All.mk ?_;intro _)|(apply TkB.r;(focus repeat first|exact .here|apply Take.there))|(apply SetAsk.r;(focus (repeat (first|exact SetAs.z|(apply SetAs.c;(focus (repeat first|assumption|exact SetA.z|apply SetA.s)))))))|(apply Fk.r;(focus (repeat (first|exact FillA.nil|(apply FillA.agg;(focus rfl);(focus rfl);(focus (repeat (first|exact SetAs.z|(apply SetAs.c;(focus (repeat first|assumption|exact SetA.z|apply SetA.s)))))))|(apply FillA.one;(focus rfl);(focus infer_instance);(focus (repeat first|assumption|exact SetA.z|apply SetA.s)))))))|(apply Nm.r;focus repeat first|apply LN.cons|exact LN.nil)|refine Rf.mk ⟨rfl, rfl, rfl⟩ ?_|fail));any_goals apply Stopped.mk
  rename_i b3 u b4
  apply CA.own
  focus (apply OX.blk (b := b4);(focus repeat first|exact .here|apply Take.there);(focus (apply FX.k;apply FX.k;apply FX.k;apply FX.sl (ys := [0, 0]) (g := intC);(focus repeat first|exact .here|apply Take.there);(focus exact Nat.le_of_ble_eq_true rfl);(focus exact FX.le (ALe.refl _) (FX.le (ALe.refl _) FX.nil));exact FX.refl _));(focus repeat first|exact .here|apply Take.there))
  repeat' (first|refine Sp.h ?_|refine Lk.r rfl ?_|refine Rf.mk rfl ?_|(apply Bd.t;(focus first|assumption|omega|rfl))|(apply TkB.r;(focus repeat first|exact .here|apply Take.there))|refine Ch.l ⟨rfl, rfl⟩ ?_|fail)
  (apply Cl.use (h3 p v);(focus repeat' (first|exact Lend.nil|apply Lend.keep|fail));(focus (repeat (first|exact Takes.nil|(apply Takes.cons;(focus repeat first|exact .here|apply Take.there)))));(focus rfl))
  rintro _ _ ⟨rfl, v1, rfl⟩
  repeat' (first|refine Sp.h ?_|refine Lk.r rfl ?_|refine Rf.mk rfl ?_|(apply Bd.t;(focus first|assumption|omega|rfl))|(apply TkB.r;(focus repeat first|exact .here|apply Take.there))|refine Ch.l ⟨rfl, rfl⟩ ?_|fail)
  (apply Cl.use (h4 p v1);(focus repeat' (first|exact Lend.nil|apply Lend.keep|fail));(focus (repeat (first|exact Takes.nil|(apply Takes.cons;(focus repeat first|exact .here|apply Take.there)))));(focus rfl))
  rintro _ _ ⟨rfl, v2, rfl⟩
  have h6 := sstate_p p cntM (stN cntM 2 [3] []) v2 (stN cntM 2 [3] [ca, cb]) (by rw [st_cab.2];decide)
  rw [st_cab.2] at h6
  repeat' (first|refine Sp.h ?_|refine Lk.r rfl ?_|refine Rf.mk rfl ?_|(apply Bd.t;(focus first|assumption|omega|rfl))|fail)
  (apply Cl.use (h6);(focus repeat' (first|exact Lend.nil|apply Lend.keep|fail));(focus (repeat (first|exact Takes.nil|(apply Takes.cons;(focus repeat first|exact .here|apply Take.there)))));(focus rfl))
  rintro _ _ ⟨rfl, rfl⟩
  repeat' (first|refine Sp.h ?_|refine Lk.r rfl ?_|refine Rf.mk rfl ?_|(apply Bd.t;(focus first|assumption|omega|rfl))|(refine All.mk ?_;intro _)|(apply Fk.r;(focus (repeat (first|exact FillA.nil|(apply FillA.agg;(focus rfl);(focus rfl);(focus (repeat (first|exact SetAs.z|(apply SetAs.c;(focus (repeat first|assumption|exact SetA.z|apply SetA.s)))))))|(apply FillA.one;(focus rfl);(focus infer_instance);(focus (repeat first|assumption|exact SetA.z|apply SetA.s)))))))|refine Rf.mk ⟨rfl, rfl, rfl⟩ ?_|fail)
  (apply Cl.lend (e4);(focus repeat' (first|exact Lend.nil|apply Lend.keep|(apply Lend.lendm;(focus repeat first|exact .here|apply Take.there);(focus rfl);(focus first|omega|decide|(simp;omega)|exact Nat.le_of_ble_eq_true rfl))|fail)))
  repeat' (first|refine Sp.h ?_|refine Lk.r rfl ?_|refine Rf.mk rfl ?_|(apply Bd.t;(focus first|assumption|omega|rfl))|(refine All.mk ?_;intro _)|(apply Fk.r;(focus (repeat (first|exact FillA.nil|(apply FillA.agg;(focus rfl);(focus rfl);(focus (repeat (first|exact SetAs.z|(apply SetAs.c;(focus (repeat first|assumption|exact SetA.z|apply SetA.s)))))))|(apply FillA.one;(focus rfl);(focus infer_instance);(focus (repeat first|assumption|exact SetA.z|apply SetA.s)))))))|refine Rf.mk ⟨rfl, rfl, rfl⟩ ?_|fail)
  apply Cl.fx [pm p, ints [1, 0]]
  focus (repeat' (first|exact FX.nil|(apply FX.sl;(focus repeat first|exact .here|apply Take.there);(focus exact Nat.le_of_ble_eq_true rfl))|(apply FX.le;(focus first|exact ALe.refl _|exact ALe.nil))|apply FX.agg|apply FX.tup))
  (apply Cl.use (h5 p v2);(focus repeat' (first|exact Lend.nil|apply Lend.keep|fail));(focus (repeat (first|exact Takes.nil|(apply Takes.cons;(focus repeat first|exact .here|apply Take.there)))));(focus rfl))
  rintro _ _ ⟨rfl, v3, rfl⟩
  have h7 := sbase_r cntM B N [cb] (by rw [hB];exact c3)
  have h8 := sevents_z cntM B N [cb] (by simp) (by simp [cb])
  have h9 := sclock_z cntM B N [cb] (by rw [hN];simp)
  (repeat' (first|(show CA _ _ (Code.region 9 _ _) _ _;apply Stopped.out)|refine Sp.h ?_|refine Lk.r rfl ?_|fail));any_goals apply Stopped.mk
  (apply CA.own;(focus (apply OX.blk (b := p);(focus repeat first|exact .here|apply Take.there);(focus (repeat' (first|exact FX.nil|(apply FX.s1;(focus repeat first|exact .here|apply Take.there);(focus first|omega|(simp;done)|(simp;omega)))|apply FX.k)));(focus repeat first|exact .here|apply Take.there))))
  apply CA.freezeB 1
  focus rfl
  focus (repeat first|exact .here|apply Take.there)
  repeat' (first|refine Sp.h ?_|refine Lk.r rfl ?_|refine Rf.mk rfl ?_|(apply Bd.t;(focus first|assumption|omega|rfl))|refine OpK.r rfl ?_|(refine All.mk ?_;intro _)|(apply TkB.r;(focus repeat first|exact .here|apply Take.there))|refine Ch.l ⟨rfl, rfl⟩ ?_|(apply Fk.r;(focus (repeat (first|exact FillA.nil|(apply FillA.agg;(focus rfl);(focus rfl);(focus (repeat (first|exact SetAs.z|(apply SetAs.c;(focus (repeat first|assumption|exact SetA.z|apply SetA.s)))))))|(apply FillA.one;(focus rfl);(focus infer_instance);(focus (repeat first|assumption|exact SetA.z|apply SetA.s)))))))|(apply Nm.r;focus repeat first|apply LN.cons|exact LN.nil)|refine Rf.mk ⟨rfl, rfl, rfl⟩ ?_|(apply CA.draw;(focus rfl);(focus kernel_rfl);(focus kernel_rfl);(focus repeat' (first|apply ON.one|exact ON.done|exact ON.none|apply ON.alt));(focus rfl))|exact trivial|apply RA'.both|(apply Cl.p (h7);(focus ((repeat' (first|exact Lend.nil|apply Lend.keep|(apply Lend.lendm;(focus repeat first|exact .here|apply Take.there);(focus rfl);(focus first|omega|decide|(simp;omega)|exact Nat.le_of_ble_eq_true rfl))|fail));done)))|(apply Cl.p (h8);(focus ((repeat' (first|exact Lend.nil|apply Lend.keep|(apply Lend.lendm;(focus repeat first|exact .here|apply Take.there);(focus rfl);(focus first|omega|decide|(simp;omega)|exact Nat.le_of_ble_eq_true rfl))|fail));done)))|(apply Cl.p (h9);(focus ((repeat' (first|exact Lend.nil|apply Lend.keep|(apply Lend.lendm;(focus repeat first|exact .here|apply Take.there);(focus rfl);(focus first|omega|decide|(simp;omega)|exact Nat.le_of_ble_eq_true rfl))|fail));done)))|(apply Cl.lend (e5');(focus ((repeat' (first|exact Lend.nil|apply Lend.keep|(apply Lend.lendm;(focus repeat first|exact .here|apply Take.there);(focus rfl);(focus first|omega|decide|(simp;omega)|exact Nat.le_of_ble_eq_true rfl))|fail));done)))|(apply Cl.lend (es);(focus ((repeat' (first|exact Lend.nil|apply Lend.keep|(apply Lend.lendm;(focus repeat first|exact .here|apply Take.there);(focus rfl);(focus first|omega|decide|(simp;omega)|exact Nat.le_of_ble_eq_true rfl))|fail));done)))|(apply Cl.lend (e11');(focus ((repeat' (first|exact Lend.nil|apply Lend.keep|(apply Lend.lendm;(focus repeat first|exact .here|apply Take.there);(focus rfl);(focus first|omega|decide|(simp;omega)|exact Nat.le_of_ble_eq_true rfl))|fail));done))))
  all_goals exact Fin.p rfl rfl
end Go.Proofs.YtmllihbhphnolaaGreat
namespace Go.Proofs.YtmllihbhphnolaaGreat
open Go Go.CF
set_option maxRecDepth 20000
theorem ext_nil_ok {l : List EvS} (hc : ClosedE l) (order : List Int) (ho : ∀ x ∈ order, 0 ≤ x ∧ x ≤ 255) : ∃ X, ExtR order [] (ordE l) X ∧ ExtO l X ∧ X.Perm l := ext_ok hc fun x hx => (ho x hx).1
theorem cnt_val {c : List Int} {e : EvS} (hc : ValC c) (hn : 0 ≤ e.num ∧ e.num ≤ 1024) : ValC (cntF c e) := by
  refine ⟨fun z hz => ?_, by simp [cntF];exact hc.2.1, by simp [cntF];exact hc.2.2⟩
  rcases List.mem_or_eq_of_mem_set hz with h|h
  · exact hc.1 z h
  · rw [h]
    cases hx : c[e.rep.toNat]? with
    | none => rw [Option.getD_none];unfold rngK;omega
    | some y =>
      have := hc.1 y (List.mem_of_getElem? hx)
      rw [Option.getD_some]
      unfold rngK at *
      omega
theorem now_deliver {m : ModS} {evl : List EvS} {w : NowS} {e : EvS} (hw : NowOK m w) (hp : w.places.length < 100000) (h : (deliverF m evl w e).1 = 0) : NowOK m (deliverF m evl w e).2 := by
  have hv := (deliver_ok' h).2.1.1
  have hf := formed_rep hv
  rw [deliver_st h]
  refine ⟨cnt_val hw.clk ⟨by omega, hv.2.2.2.1⟩, by simp only [addE_len];exact hw.st, (plE_srt hw.pls).1, by have := (plE_srt (e := e) hw.pls).2;simp only;omega⟩
end Go.Proofs.YtmllihbhphnolaaGreat
namespace Go.Proofs.YtmllihbhphnolaaGreat
open Go Go.CF
set_option maxRecDepth 20000
theorem szM_fold {m : ModS} {k : List MgS} (h : SzM k) : ∀ X : List EvS, SzM (X.foldl (mrg1 m) k) := by
  intro X
  induction X generalizing k with
  | nil => exact h
  | cons e X ih => rw [List.foldl_cons];exact ih (mrg1_sz h)
theorem szM_stN {m : ModS} (hm : MOK m) (n : Nat) (ld : List Int) (X : List EvS) : SzM (stN m n ld X).merged := by
  refine szM_fold ⟨by rw [List.length_replicate];have := hm.mrg;omega, fun g hg => ?_⟩ X
  rw [(List.mem_replicate.1 hg).2];exact Nat.zero_le _
theorem basOK_stN {m : ModS} {ld : List Int} {l : List EvS} (hs : SuitS m ld l) : BasOK m (n0 l) (stN m (n0 l) ld []) := by
  have h := stN_ok hs (X := []) (fun e he => by cases he) (Nat.zero_le _)
  exact ⟨h.clk, clkE_len .., h.st, szM_stN hs.e.1 .., h.pls, by simp [stN]⟩
theorem szN_stN {m : ModS} {ld : List Int} {l X : List EvS} (hs : SuitS m ld l) (hX : ∀ e ∈ X, e ∈ l) (hl : X.length ≤ 1000) : SzN (stN m (n0 l) ld X) := by
  have h := stN_ok hs hX hl
  have h1 := szM_stN (m := m) hs.e.1 (n0 l) ld X
  exact ⟨by have := h.clk.2.2;omega, by rw [h.st];have := hs.e.1.str;omega, h1.1, h1.2, h.pll⟩
end Go.Proofs.YtmllihbhphnolaaGreat
namespace Go.Proofs.YtmllihbhphnolaaGreat
open Go Go.CF
set_option maxRecDepth 20000
theorem same35_p (b : NowS) : CallP Tryz.prog 64 [basA b, basA b] (bl true) := by
  have h1 := intsR_p b.clock b.clock
  have h2 := intsR_p b.state b.state
  have h3 := same34_p b.merged b.merged
  have h4 := intsR_p b.places b.places
  rw [decide_eq_true rfl] at h1 h2 h3 h4
  refine CallA.of pg ord64 Tryz.func64 rfl Tryz.ntmps64 Tryz.results64 rfl fun h0 G0 O0 => ?_
  repeat' (first|refine Sp.h ?_|refine Lk.r rfl ?_|refine Rf.mk rfl ?_|(apply Bd.t;(focus first|assumption|omega|rfl))|(refine All.mk ?_;intro _)|(apply TkB.r;(focus repeat first|exact .here|apply Take.there))|(apply Nm.r;focus repeat first|apply LN.cons|exact LN.nil)|(apply Cl.p (h1);(focus ((repeat' (first|exact Lend.nil|apply Lend.keep|fail));done)))|(apply Cl.p (h2);(focus ((repeat' (first|exact Lend.nil|apply Lend.keep|fail));done)))|(apply Cl.p (h3);(focus ((repeat' (first|exact Lend.nil|apply Lend.keep|fail));done)))|(apply Cl.p (h4);(focus ((repeat' (first|exact Lend.nil|apply Lend.keep|fail));done))))
  all_goals exact Fin.p rfl rfl
set_option maxHeartbeats 8000000 in
theorem apart1_p (m : ModS) (b : NowS) (l : List EvS) (w : NowS) (hm : MOK m) (hw : NowOK m w) (hb : SzN b) (hl : l.length ≤ 1000) (he : ∀ e ∈ l, e.past.length ≤ 1000000) : CallP Tryz.prog 60 [.ad [.ad (stoV m b l w) 0] 0, .ad [.ad (stoV m b l w) 0] 0] (bl true) := by
  have hstr := hm.str
  have hck := hw.clk.2.2
  have s1 := sclock_z m b w l (by omega)
  have s2 := sstate_z m b w l (by rw [hw.st];omega)
  have s3 := svalues_r m b w l hm
  have s4 := sevents_z m b w l (by omega) he
  have s5 := sbase_r m b w l hb
  have s6 := splaces_z m b w l hw.pll
  have q1 := equal_p w.clock w.clock
  have q2 := equal_p w.state w.state
  have q3 := listsQ_p (valuesQ m w.merged).2 (valuesQ m w.merged).2
  have q4 := same32_p l l
  have q5 := same35_p b
  have q6 := equal_p w.places w.places
  rw [decide_eq_true rfl] at q1 q2 q3 q4 q6
  refine CallA.of pg ord60 Tryz.func60 rfl Tryz.ntmps60 Tryz.results60 rfl fun h0 G0 O0 => ?_
  repeat' (first|refine Sp.h ?_|refine Lk.r rfl ?_|refine Rf.mk rfl ?_|refine OpK.r rfl ?_|(apply Nm.r;focus repeat first|apply LN.cons|exact LN.nil)|(apply CA.draw;(focus rfl);(focus kernel_rfl);(focus kernel_rfl);(focus repeat' (first|apply ON.one|exact ON.done|exact ON.none|apply ON.alt));(focus rfl))|(apply Cl.p (s1);(focus ((repeat' (first|exact Lend.nil|apply Lend.keep|fail));done)))|(apply Cl.p (s2);(focus ((repeat' (first|exact Lend.nil|apply Lend.keep|fail));done)))|(apply Cl.p (s3);(focus ((repeat' (first|exact Lend.nil|apply Lend.keep|fail));done)))|(apply Cl.p (s4);(focus ((repeat' (first|exact Lend.nil|apply Lend.keep|fail));done)))|(apply Cl.p (s5);(focus ((repeat' (first|exact Lend.nil|apply Lend.keep|fail));done)))|(apply Cl.p (s6);(focus ((repeat' (first|exact Lend.nil|apply Lend.keep|fail));done)))|(apply Cl.p (q1);(focus ((repeat' (first|exact Lend.nil|apply Lend.keep|fail));done)))|(apply Cl.p (q2);(focus ((repeat' (first|exact Lend.nil|apply Lend.keep|fail));done)))|(apply Cl.p (q3);(focus ((repeat' (first|exact Lend.nil|apply Lend.keep|fail));done)))|(apply Cl.p (q4);(focus ((repeat' (first|exact Lend.nil|apply Lend.keep|fail));done)))|(apply Cl.p (q5);(focus ((repeat' (first|exact Lend.nil|apply Lend.keep|fail));done)))|(apply Cl.p (q6);(focus ((repeat' (first|exact Lend.nil|apply Lend.keep|fail));done))))
  all_goals exact Fin.p rfl rfl
end Go.Proofs.YtmllihbhphnolaaGreat
namespace Go.Proofs.YtmllihbhphnolaaGreat
open Go Go.CF
set_option maxRecDepth 20000
theorem deliver_bad {m : ModS} {evl : List EvS} {w : NowS} {e : EvS} (h : ¬ (deliverF m evl w e).1 = 0) : (deliverF m evl w e).2 = w := by
  unfold deliverF at h ⊢
  repeat' split
  all_goals first
    | rfl
    | (exfalso;simp_all;done)
theorem compact_bad {m : ModS} {s : StoS} {c : List Int} (h : ¬ (compactF m s c).1 = 0) : (compactF m s c).2 = s := by
  unfold compactF at h ⊢
  by_cases h1 : ¬ (ValC c ∧ c.length = s.now.clock.length)
  · rw [if_pos h1]
  · rw [if_neg h1] at h ⊢
    by_cases h2 : ¬ (Ins s.base.clock c ∧ Ins c s.now.clock ∧ ∀ e ∈ s.evs, HasC c e.rep e.num → Ins e.past c)
    · rw [if_pos h2]
    · rw [if_neg h2] at h;exact absurd rfl h
theorem compact_good {m : ModS} {s : StoS} {c : List Int} (h : (compactF m s c).1 = 0) : (ValC c ∧ c.length = s.now.clock.length) ∧ (compactF m s c).2 = ⟨cmpB m s.base c s.evs, outL c s.evs, { s.now with merged := (outL c s.evs).foldl (mrg1 m) (cmpB m s.base c s.evs).merged }⟩ := by
  unfold compactF at h ⊢
  by_cases h1 : ¬ (ValC c ∧ c.length = s.now.clock.length)
  · rw [if_pos h1] at h;exact absurd (show (1 : Int) = 0 from h) (by decide)
  · rw [if_neg h1] at h ⊢
    by_cases h2 : ¬ (Ins s.base.clock c ∧ Ins c s.now.clock ∧ ∀ e ∈ s.evs, HasC c e.rep e.num → Ins e.past c)
    · rw [if_pos h2] at h;exact absurd (show (9 : Int) = 0 from h) (by decide)
    · rw [if_neg h2];exact ⟨Classical.not_not.1 h1, rfl⟩
structure ShoOK (m : ModS) (s : StoS) : Prop where
  b : SzN s.base
  now : NowOK m s.now
  l : s.evs.length ≤ 1000
  p : ∀ e ∈ s.evs, e.past.length ≤ 1000000
theorem foldP_len (l : List EvS) : ∀ s : List Int, SrtI s → (l.foldl plE s).length ≤ s.length + l.length := by
  induction l with
  | nil => intro s _;simp
  | cons e l ih =>
    intro s hs
    rw [List.foldl_cons]
    obtain ⟨h1, h2⟩ := plE_srt (e := e) hs
    have := ih _ h1
    simp only [List.length_cons]
    omega
theorem compact_sho {m : ModS} {b : NowS} {l : List EvS} {w : NowS} {c : List Int} (hm : MOK m) (hw : NowOK m w) (hb : BasOK m w.clock.length b) (hl : l.length ≤ 1000) (hev : ∀ e ∈ l, EvV m (w.clock.length : Nat) e) (hsb : SzN b) : ShoOK m (compactF m ⟨b, l, w⟩ c).2 := by
  have hp : ∀ e ∈ l, e.past.length ≤ 1000000 := fun e he => by have := (hev e he).1.1.2;omega
  by_cases h : (compactF m ⟨b, l, w⟩ c).1 = 0
  · obtain ⟨⟨h1, _⟩, h2⟩ := compact_good h
    have hin : (inL c l).length ≤ l.length := List.length_filter_le _ _
    have hk : SzM ((inL c l).foldl (mrg1 m) b.merged) := szM_fold hb.mg _
    have hpl := foldP_len (inL c l) b.places hb.pls
    have hpl2 := hb.pll
    rw [h2]
    refine ⟨?_, ⟨hw.clk, hw.st, hw.pls, hw.pll⟩, Nat.le_trans (List.length_filter_le _ _) hl, fun e he => hp e (List.mem_filter.1 he).1⟩
    unfold cmpB
    rw [cmp1_fold]
    have hst := hm.str
    exact ⟨by have := h1.2;simp only;omega, by simp only [foldE_len];rw [hb.st];omega, hk.1, hk.2, by simp only;omega⟩
  · rw [compact_bad h]
    exact ⟨hsb, hw, hl, hp⟩
end Go.Proofs.YtmllihbhphnolaaGreat
namespace Go.CF
open Go
section
variable {Γ : Cx} {k : List KI} {e : EA} {o : List Res} {α : Type} {l : List α} {g : α → Res}
theorem CA.bunApp {y : Code} {l2 : List α} {rest1 rest2 : List Res} (tk1 : Take o (bunR (l.map g)) rest1) (tk2 : Take rest1 (bunR (l2.map g)) rest2) (h : CA Γ k y e (bunR ((l ++ l2).map g) :: rest2)) : CA Γ k y e o := by
  refine ⟨fun env hh G Os cn => ?_⟩
  obtain ⟨O, Os', cn2⟩ := cn.take tk1
  obtain ⟨X, Os2, r1, r2, r3⟩ := tk2.own cn2.hp.own.2
  have c2 : HpOK Γ.h0 Γ.G0 Γ.O0 (bunR (l.map g) :: bunR (l2.map g) :: rest2) hh G (O :: X :: Os2) := cn2.hp.perm ⟨cn2.hp.own.1, r1, r2⟩ (List.Perm.cons O r3)
  obtain ⟨A, g1, g2⟩ := c2.unbun
  have c3 : HpOK Γ.h0 Γ.G0 Γ.O0 (bunR (l2.map g) :: (l.map g ++ rest2)) hh G (X :: (A ++ Os2)) := g2.perm ⟨r1, g1.app r2⟩ List.perm_middle
  obtain ⟨B, b1, b2⟩ := c3.unbun
  have hp : (B ++ (A ++ Os2)).Perm ((A ++ B) ++ Os2) := by
    rw [← List.append_assoc]
    exact List.Perm.append_right Os2 List.perm_append_comm
  have c4 : HpOK Γ.h0 Γ.G0 Γ.O0 ((l ++ l2).map g ++ rest2) hh G ((A ++ B) ++ Os2) := b2.perm (by rw [List.map_append];exact (g1.app b1).app r2) hp
  have c5 := c4.bun (by rw [List.map_append];exact g1.app b1) r2
  exact h.h env hh G _ ⟨c5, cn.env, cn.nf⟩
end
end Go.CF
namespace Go.Proofs.YtmllihbhphnolaaGreat
open Go Go.CF
set_option maxRecDepth 20000
structure ClE where
  c : List Int
  w : Value
def cleC (x : ClE) : List AV := [.ow x.w]
abbrev cleR (x : ClE) : Res := arrR x.w 3 1 x.c intC
theorem bit_o (b : Bool) : CallO Tryz.prog 249 [bl b] 3 1 [if b = true then 1 else 0] intC := by
  refine CallA.of pg ord249 Tryz.func249 rfl Tryz.ntmps249 Tryz.results249 rfl fun h0 G0 O0 => ?_
  cases b with
  | true =>
    (repeat' (first|(show CA _ _ Code.ret _ _;apply Stopped.out)|refine Sp.h ?_|refine Lk.r rfl ?_|refine Rf.mk rfl ?_|(refine All.mk ?_;intro _)|(apply Fk.r;(focus (repeat (first|exact FillA.nil|(apply FillA.agg;(focus rfl);(focus rfl);(focus (repeat (first|exact SetAs.z|(apply SetAs.c;(focus (repeat first|assumption|exact SetA.z|apply SetA.s)))))))|(apply FillA.one;(focus rfl);(focus infer_instance);(focus (repeat first|assumption|exact SetA.z|apply SetA.s)))))))|refine Rf.mk ⟨rfl, rfl, rfl⟩ ?_|fail));any_goals apply Stopped.mk
    apply CA.retype (m := [(1 : Int)]) (g := intC)
    focus (repeat first|exact .here|apply Take.there)
    focus rfl
    repeat' (first|refine Sp.h ?_|refine Lk.r rfl ?_|(apply Nm.r;focus repeat first|apply LN.cons|exact LN.nil)|fail)
    exact ⟨_, _, .one (.same (.nil (by (repeat first|exact .nil|refine .cons (by repeat first|exact .here|apply Take.there) ?_)))), _, rfl, rfl⟩
  | false =>
    (repeat' (first|(show CA _ _ Code.ret _ _;apply Stopped.out)|refine Sp.h ?_|refine Lk.r rfl ?_|refine Rf.mk rfl ?_|(refine All.mk ?_;intro _)|(apply Fk.r;(focus (repeat (first|exact FillA.nil|(apply FillA.agg;(focus rfl);(focus rfl);(focus (repeat (first|exact SetAs.z|(apply SetAs.c;(focus (repeat first|assumption|exact SetA.z|apply SetA.s)))))))|(apply FillA.one;(focus rfl);(focus infer_instance);(focus (repeat first|assumption|exact SetA.z|apply SetA.s)))))))|refine Rf.mk ⟨rfl, rfl, rfl⟩ ?_|fail));any_goals apply Stopped.mk
    apply CA.retype (m := [(0 : Int)]) (g := intC)
    focus (repeat first|exact .here|apply Take.there)
    focus rfl
    repeat' (first|refine Sp.h ?_|refine Lk.r rfl ?_|(apply Nm.r;focus repeat first|apply LN.cons|exact LN.nil)|fail)
    exact ⟨_, _, .one (.same (.nil (by (repeat first|exact .nil|refine .cons (by repeat first|exact .here|apply Take.there) ?_)))), _, rfl, rfl⟩
theorem valuesS_o (t : TblS) (g : MgS) (h : t.kind = 2 ∨ t.kind = 3) : CallA Tryz.prog 186 [.agg (tblC t), .agg (mgC g)] [] fun r own => ∃ x : ClE, r = .ow x.w ∧ own = [cleR x] ∧ x.c.length ≤ 1000 := by
  obtain ⟨put, drop, l⟩ := g
  rcases h with h|h
  · refine CallA.of pg ord186 Tryz.func186 rfl Tryz.ntmps186 Tryz.results186 rfl fun h0 G0 O0 => ?_
    cases put with
    | true =>
      repeat' (first|refine Sp.h ?_|refine Lk.r rfl ?_|refine Rf.mk rfl ?_|(apply Bd.t;(focus first|assumption|omega|rfl))|(refine All.mk ?_;intro _)|(apply TkB.r;(focus repeat first|exact .here|apply Take.there))|fail)
      (refine Cl.use (bit_o _) (by repeat' (first|exact Lend.nil|apply Lend.keep|fail)) .nil rfl ?_;rintro _ _ ⟨_, rfl, rfl⟩)
      repeat' (first|refine Sp.h ?_|refine Lk.r rfl ?_|(apply Nm.r;focus repeat first|apply LN.cons|exact LN.nil)|fail)
      exact ⟨_, _, .one (.same (.nil (by (repeat first|exact .nil|refine .cons (by repeat first|exact .here|apply Take.there) ?_)))), ⟨_, _⟩, rfl, rfl, by simp⟩
    | false =>
      repeat' (first|refine Sp.h ?_|refine Lk.r rfl ?_|refine Rf.mk rfl ?_|(apply Bd.t;(focus first|assumption|omega|rfl))|(refine Im.mk ?_;intro _)|(refine All.mk ?_;intro _)|(apply TkB.r;(focus repeat first|exact .here|apply Take.there))|fail)
      (refine Cl.use (bit_o _) (by repeat' (first|exact Lend.nil|apply Lend.keep|fail)) .nil rfl ?_;rintro _ _ ⟨_, rfl, rfl⟩)
      repeat' (first|refine Sp.h ?_|refine Lk.r rfl ?_|(apply Nm.r;focus repeat first|apply LN.cons|exact LN.nil)|fail)
      exact ⟨_, _, .one (.same (.nil (by (repeat first|exact .nil|refine .cons (by repeat first|exact .here|apply Take.there) ?_)))), ⟨_, _⟩, rfl, rfl, by simp⟩
  · refine CallA.of pg ord186 Tryz.func186 rfl Tryz.ntmps186 Tryz.results186 rfl fun h0 G0 O0 => ?_
    cases put with
    | true =>
      cases drop with
      | true =>
        repeat' (first|refine Sp.h ?_|refine Lk.r rfl ?_|refine Rf.mk rfl ?_|(apply Bd.t;(focus first|assumption|omega|rfl))|(apply Bd.f;(focus first|assumption|omega|exact Bool.false_ne_true))|(refine All.mk ?_;intro _)|(apply TkB.r;(focus repeat first|exact .here|apply Take.there))|fail)
        (refine Cl.use (bit_o _) (by repeat' (first|exact Lend.nil|apply Lend.keep|fail)) .nil rfl ?_;rintro _ _ ⟨_, rfl, rfl⟩)
        repeat' (first|refine Sp.h ?_|refine Lk.r rfl ?_|(apply Nm.r;focus repeat first|apply LN.cons|exact LN.nil)|fail)
        exact ⟨_, _, .one (.same (.nil (by (repeat first|exact .nil|refine .cons (by repeat first|exact .here|apply Take.there) ?_)))), ⟨_, _⟩, rfl, rfl, by simp⟩
      | false =>
        repeat' (first|refine Sp.h ?_|refine Lk.r rfl ?_|refine Rf.mk rfl ?_|(apply Bd.t;(focus first|assumption|omega|rfl))|(apply Bd.f;(focus first|assumption|omega|exact Bool.false_ne_true))|(refine Im.mk ?_;intro _)|(refine All.mk ?_;intro _)|(apply TkB.r;(focus repeat first|exact .here|apply Take.there))|fail)
        (refine Cl.use (bit_o _) (by repeat' (first|exact Lend.nil|apply Lend.keep|fail)) .nil rfl ?_;rintro _ _ ⟨_, rfl, rfl⟩)
        repeat' (first|refine Sp.h ?_|refine Lk.r rfl ?_|(apply Nm.r;focus repeat first|apply LN.cons|exact LN.nil)|fail)
        exact ⟨_, _, .one (.same (.nil (by (repeat first|exact .nil|refine .cons (by repeat first|exact .here|apply Take.there) ?_)))), ⟨_, _⟩, rfl, rfl, by simp⟩
    | false =>
      repeat' (first|refine Sp.h ?_|refine Lk.r rfl ?_|refine Rf.mk rfl ?_|(apply Bd.t;(focus first|assumption|omega|rfl))|(apply Bd.f;(focus first|assumption|omega|exact Bool.false_ne_true))|(refine All.mk ?_;intro _)|(apply TkB.r;(focus repeat first|exact .here|apply Take.there))|fail)
      (refine Cl.use (bit_o _) (by repeat' (first|exact Lend.nil|apply Lend.keep|fail)) .nil rfl ?_;rintro _ _ ⟨_, rfl, rfl⟩)
      repeat' (first|refine Sp.h ?_|refine Lk.r rfl ?_|(apply Nm.r;focus repeat first|apply LN.cons|exact LN.nil)|fail)
      exact ⟨_, _, .one (.same (.nil (by (repeat first|exact .nil|refine .cons (by repeat first|exact .here|apply Take.there) ?_)))), ⟨_, _⟩, rfl, rfl, by simp⟩
set_option maxHeartbeats 1000000 in
theorem valuesR_o (t : TblS) (g : MgS) (hk : ¬ (t.kind = 2 ∨ t.kind = 3)) (hl : g.marks.length ≤ 100000) : CallA Tryz.prog 186 [.agg (tblC t), .agg (mgC g)] [] fun r own => ∃ x : ClE, r = .ow x.w ∧ own = [cleR x] ∧ x.c.length ≤ 1000000 := by
  have h1 : t.kind ≠ 2 := fun h => hk (.inl h)
  have h2 : t.kind ≠ 3 := fun h => hk (.inr h)
  by_cases h0 : g.marks.length = 0
  · refine CallA.of pg ord186 Tryz.func186 rfl Tryz.ntmps186 Tryz.results186 rfl fun h0 G0 O0 => ?_
    (repeat' (first|(show CA _ _ Code.ret _ _;apply Stopped.out)|refine Sp.h ?_|refine Lk.r rfl ?_|refine Rf.mk rfl ?_|(apply Bd.t;(focus first|assumption|omega|rfl))|(apply Bd.f;(focus first|assumption|omega|exact Bool.false_ne_true))|(refine Im.mk ?_;intro _)|(refine All.mk ?_;intro _)|(apply TkB.r;(focus repeat first|exact .here|apply Take.there))|(apply Fk.r;(focus (repeat (first|exact FillA.nil|(apply FillA.agg;(focus rfl);(focus rfl);(focus (repeat (first|exact SetAs.z|(apply SetAs.c;(focus (repeat first|assumption|exact SetA.z|apply SetA.s)))))))|(apply FillA.one;(focus rfl);(focus infer_instance);(focus (repeat first|assumption|exact SetA.z|apply SetA.s)))))))|refine Rf.mk ⟨rfl, rfl, rfl⟩ ?_|fail));any_goals apply Stopped.mk
    apply CA.retype (m := [iniT t]) (g := intC)
    focus (repeat first|exact .here|apply Take.there)
    focus rfl
    repeat' (first|refine Sp.h ?_|refine Lk.r rfl ?_|(apply Nm.r;focus repeat first|apply LN.cons|exact LN.nil)|fail)
    exact ⟨_, _, .one (.same (.nil (by (repeat first|exact .nil|refine .cons (by repeat first|exact .here|apply Take.there) ?_)))), ⟨_, _⟩, rfl, rfl, by simp⟩
  · have hln := srtD_len (g.marks.map MkS.val)
    rw [List.length_map] at hln
    refine CallA.of pg ord186 Tryz.func186 rfl Tryz.ntmps186 Tryz.results186 rfl fun h0 G0 O0 => ?_
    repeat' (first|refine Sp.h ?_|refine Lk.r rfl ?_|refine Rf.mk rfl ?_|(apply Bd.f;(focus first|assumption|omega|exact Bool.false_ne_true))|(refine Im.mk ?_;intro _)|(refine All.mk ?_;intro _)|(apply TkB.r;(focus repeat first|exact .here|apply Take.there))|fail)
    refine CA.nilOwn 5 3 1 i1 rfl fun v => ?_
    refine CA.loop (fun x : Nat × Value => ⟨[(5, .ow x.2), (54, mks g.marks), (55, it (g.marks.length : Nat)), (56, it x.1)], [arrR x.2 3 1 ((g.marks.take x.1).map MkS.val) i1]⟩) (fun x => x.1 ≤ g.marks.length) (fun x => g.marks.length - x.1) (0, v) ⟨by repeat first|trivial|refine ⟨rfl,?_⟩,by repeat first|exact .nil|refine .cons (by repeat first|exact .here|apply Take.there) ?_⟩ (Nat.zero_le _) ?_
    rintro ⟨i, w⟩ hi
    simp only at hi
    simp only
    by_cases hin : i < g.marks.length
    · obtain ⟨x, hx⟩ := get_of hin
      have hsu : (g.marks.take (i + 1)).map MkS.val = (g.marks.take i).map MkS.val ++ [x.val] := by rw [List.take_add_one, hx];simp
      repeat' (first|refine Sp.h ?_|refine Lk.r rfl ?_|refine Rf.mk rfl ?_|(apply Bd.t;(focus first|assumption|omega|rfl))|(apply Om.mk;(focus first|omega|(simp <;> omega)))|(refine All.mk ?_;intro _)|(apply TkA.r;(focus repeat first|exact .here|apply Take.there))|(apply TkB.r;(focus repeat first|exact .here|apply Take.there))|(apply Ix.q;(focus exact rfl);(focus assumption))|refine Ce.r ?_|refine Ch.l ⟨rfl, rfl⟩ ?_|(apply SetAsk.r;(focus (repeat (first|exact SetAs.z|(apply SetAs.c;(focus (repeat first|assumption|exact SetA.z|apply SetA.s)))))))|(apply Fk.r;(focus (repeat (first|exact FillA.nil|(apply FillA.agg;(focus rfl);(focus rfl);(focus (repeat (first|exact SetAs.z|(apply SetAs.c;(focus (repeat first|assumption|exact SetA.z|apply SetA.s)))))))|(apply FillA.one;(focus rfl);(focus infer_instance);(focus (repeat first|assumption|exact SetA.z|apply SetA.s)))))))|(apply Nm.r;focus repeat first|apply LN.cons|exact LN.nil)|refine Rf.mk ⟨rfl, rfl⟩ ?_|refine Rf.mk ⟨rfl, rfl, rfl⟩ ?_|(apply Mp.lit;(focus repeat (first|exact MpL.nil|(apply MpL.cons;(focus rfl))|(apply MpL.inv;(focus repeat (first|apply LN.cons|exact LN.nil));(focus infer_instance)))))|(apply Ov.n;(focus first|omega|(simp <;> omega)))|fail)
      rw [← hsu]
      exact PA.lp (i + 1, _) ⟨by repeat first|trivial|refine ⟨rfl,?_⟩,by repeat first|exact .nil|refine .cons (by repeat first|exact .here|apply Take.there) ?_⟩ ⟨hin, by simp only;omega⟩
    · have hie : i = g.marks.length := by omega
      subst hie
      rw [List.take_length]
      have hso := sortInt_a w 3 (g.marks.map MkS.val) (by simp;omega)
      have hco := compactI_a w (srtI (g.marks.map MkS.val)) (by rw [srtI_len];simp;omega)
      repeat' (first|refine Sp.h ?_|refine Lk.r rfl ?_|refine Rf.mk rfl ?_|(apply Bd.f;(focus first|assumption|omega|exact Bool.false_ne_true))|fail)
      (apply Cl.use (hso);(focus repeat' (first|exact Lend.nil|apply Lend.keep|fail));(focus (repeat (first|exact Takes.nil|(apply Takes.cons;(focus repeat first|exact .here|apply Take.there)))));(focus rfl))
      rintro _ _ ⟨rfl, rfl⟩
      repeat' (first|refine Sp.h ?_|refine Lk.r rfl ?_|refine Rf.mk rfl ?_|fail)
      (apply Cl.use (hco);(focus repeat' (first|exact Lend.nil|apply Lend.keep|fail));(focus (repeat (first|exact Takes.nil|(apply Takes.cons;(focus repeat first|exact .here|apply Take.there)))));(focus rfl))
      rintro _ _ ⟨w2, rfl, rfl⟩
      repeat' (first|refine Sp.h ?_|refine Lk.r rfl ?_|(apply Nm.r;focus repeat first|apply LN.cons|exact LN.nil)|fail)
      exact ⟨_, _, .one (.same (.nil (by (repeat first|exact .nil|refine .cons (by repeat first|exact .here|apply Take.there) ?_)))), ⟨srtD (g.marks.map MkS.val), w2⟩, rfl, rfl, by simp only;omega⟩
theorem values_o (t : TblS) (g : MgS) (hl : g.marks.length ≤ 100000) : CallA Tryz.prog 186 [.agg (tblC t), .agg (mgC g)] [] fun r own => ∃ x : ClE, r = .ow x.w ∧ own = [cleR x] ∧ x.c.length ≤ 1000000 := by
  by_cases h : t.kind = 2 ∨ t.kind = 3
  · exact (valuesS_o t g h).mono fun r own ⟨x, h1, h2, h3⟩ => ⟨x, h1, h2, by omega⟩
  · exact valuesR_o t g h hl
def clsR (v : Value) (L : List ClE) : List Res := [arrR v 22 1 L cleC, bunR (L.map cleR)]
structure ClsOK (L : List ClE) : Prop where
  len : L.length ≤ 1000
  el : ∀ x ∈ L, x.c.length ≤ 1000000
theorem valuesM_o (m : ModS) (l : List MgS) (hm : LayOK m.sorts m.tables) (hv : ValL (mrgF m) l) (hl : (mrgF m).length ≤ 1000) :
    CallA Tryz.prog 130 [mdl m, mgs l] [] fun r own => ∃ v L, r = .tup [.ow v, it 0] ∧ own = clsR v L ∧ ClsOK L := by
  have hva := validM_p m l hm
  have hce := cells_p m hm
  have hlen := hv.1
  refine CallA.of pg ord130 Tryz.func130 rfl Tryz.ntmps130 Tryz.results130 rfl fun h0 G0 O0 => ?_
  repeat' (first|refine Sp.h ?_|refine Lk.r rfl ?_|refine Rf.mk rfl ?_|(apply Bd.t;(focus first|assumption|omega|rfl))|(refine Im.mk ?_;intro _)|(refine All.mk ?_;intro _)|(apply TkB.r;(focus repeat first|exact .here|apply Take.there))|refine Ch.l ⟨rfl, rfl⟩ ?_|(apply Cl.p (hva);(focus repeat' (first|exact Lend.nil|apply Lend.keep|fail)))|(apply Cl.p (hce);(focus repeat' (first|exact Lend.nil|apply Lend.keep|fail))))
  refine CA.nilOwn 6 22 1 cleC rfl fun v => ?_
  apply CA.bunNil cleR
  refine CA.loop (fun x : Nat × Value × List ClE => ⟨[(1, mgs l), (6, .ow x.2.1), (14, tbls (mrgF m)), (15, it ((mrgF m).length : Nat)), (16, it x.1)], [arrR x.2.1 22 1 x.2.2 cleC, bunR (x.2.2.map cleR)]⟩) (fun x => x.1 ≤ (mrgF m).length ∧ x.2.2.length = x.1 ∧ ∀ z ∈ x.2.2, z.c.length ≤ 1000000) (fun x => (mrgF m).length - x.1) (0, v, []) ⟨by repeat first|trivial|refine ⟨rfl,?_⟩,by repeat first|exact .nil|refine .cons (by repeat first|exact .here|apply Take.there) ?_⟩ ⟨Nat.zero_le _, rfl, fun z hz => by cases hz⟩ ?_
  rintro ⟨i, w, L⟩ ⟨hi, hL, hz⟩
  simp only at hi hL hz
  simp only
  by_cases hin : i < (mrgF m).length
  · obtain ⟨t, ht⟩ := get_of hin
    obtain ⟨g, hg⟩ := get_of (l := l) (i := i) (by omega)
    have hva := values_o t g (by have := valL_len hv ht hg;omega)
    repeat' (first|refine Sp.h ?_|refine Lk.r rfl ?_|refine Rf.mk rfl ?_|(apply Bd.t;(focus first|assumption|omega|rfl))|refine OpK.r rfl ?_|(refine All.mk ?_;intro _)|(apply TkB.r;(focus repeat first|exact .here|apply Take.there))|(apply Ix.q;(focus exact rfl);(focus assumption))|refine Ch.l ⟨rfl, rfl⟩ ?_|(apply SetAsk.r;(focus (repeat (first|exact SetAs.z|(apply SetAs.c;(focus (repeat first|assumption|exact SetA.z|apply SetA.s)))))))|(apply Nm.r;focus repeat first|apply LN.cons|exact LN.nil)|(apply CA.draw;(focus rfl);(focus kernel_rfl);(focus kernel_rfl);(focus repeat' (first|apply ON.one|exact ON.done|exact ON.none|apply ON.alt));(focus rfl))|fail)
    (apply Cl.use (hva);(focus repeat' (first|exact Lend.nil|apply Lend.keep|fail));(focus (repeat (first|exact Takes.nil|(apply Takes.cons;(focus repeat first|exact .here|apply Take.there)))));(focus rfl))
    rintro _ _ ⟨x, rfl, rfl, hx⟩
    have inv : Inv cleC [.ow x.w] x := ⟨rfl⟩
    (repeat' (first|(show CA _ _ (Code.region 8 _ _) _ _;apply Stopped.out)|refine Sp.h ?_|refine Lk.r rfl ?_|refine Rf.mk rfl ?_|refine OpK.r rfl ?_|(apply Om.mk;(focus first|omega|(simp <;> omega)))|(refine All.mk ?_;intro _)|(apply TkA.r;(focus repeat first|exact .here|apply Take.there))|refine Ce.r ?_|(apply Fk.r;(focus (repeat (first|exact FillA.nil|(apply FillA.agg;(focus rfl);(focus rfl);(focus (repeat (first|exact SetAs.z|(apply SetAs.c;(focus (repeat first|assumption|exact SetA.z|apply SetA.s)))))))|(apply FillA.one;(focus rfl);(focus infer_instance);(focus (repeat first|assumption|exact SetA.z|apply SetA.s)))))))|refine Rf.mk ⟨rfl, rfl⟩ ?_|refine Rf.mk ⟨rfl, rfl, rfl⟩ ?_|(apply Mp.lit;(focus repeat (first|exact MpL.nil|(apply MpL.cons;(focus rfl))|(apply MpL.inv;(focus repeat (first|apply LN.cons|exact LN.nil));(focus infer_instance)))))|fail));any_goals apply Stopped.mk
    apply CA.bunPush (l := L) (g := cleR) (x := x)
    focus (repeat first|exact .here|apply Take.there)
    focus (repeat first|exact .here|apply Take.there)
    repeat' (first|refine Sp.h ?_|refine Lk.r rfl ?_|refine Rf.mk rfl ?_|(apply Ov.n;(focus first|omega|(simp <;> omega)))|fail)
    exact PA.lp (i + 1, _, L ++ [x]) ⟨by repeat first|trivial|refine ⟨rfl,?_⟩,by repeat first|exact .nil|refine .cons (by repeat first|exact .here|apply Take.there) ?_⟩ ⟨⟨hin, by simp only [List.length_append, List.length_singleton];omega, fun z h9 => (List.mem_append.1 h9).elim (hz z) fun h9 => by rw [List.mem_singleton.1 h9];exact hx⟩, by simp only;omega⟩
  · have hie : i = (mrgF m).length := by omega
    subst hie
    repeat' (first|refine Sp.h ?_|refine Lk.r rfl ?_|refine Rf.mk rfl ?_|(apply Bd.f;(focus first|assumption|omega|exact Bool.false_ne_true))|(apply Nm.r;focus repeat first|apply LN.cons|exact LN.nil)|fail)
    exact ⟨_, _, .tup (.same (.same (.nil (by (repeat first|exact .nil|refine .cons (by repeat first|exact .here|apply Take.there) ?_))))), _, L, rfl, rfl, by omega, hz⟩
theorem valuesQ_o (m : ModS) (l : List MgS) (hm : MOK m) :
    CallA Tryz.prog 130 [mdl m, mgs l] [] fun r own => ∃ v L c, r = .tup [.ow v, it c] ∧ own = clsR v L ∧ ClsOK L := by
  by_cases hv : ValL (mrgF m) l
  · exact (valuesM_o m l hm.lay hv (by have := hm.mrg;omega)).mono fun r own ⟨v, L, h1, h2, h3⟩ => ⟨v, L, 0, h1, h2, h3⟩
  · have hva := validM_p m l hm.lay
    refine CallA.of pg ord130 Tryz.func130 rfl Tryz.ntmps130 Tryz.results130 rfl fun h0 G0 O0 => ?_
    (repeat' (first|(show CA _ _ Code.ret _ _;apply Stopped.out)|refine Sp.h ?_|refine Lk.r rfl ?_|refine Rf.mk rfl ?_|(apply Bd.f;(focus first|assumption|omega|exact Bool.false_ne_true))|(refine All.mk ?_;intro _)|(apply TkB.r;(focus repeat first|exact .here|apply Take.there))|refine Ch.l ⟨rfl, rfl⟩ ?_|(apply Cl.p (hva);(focus repeat' (first|exact Lend.nil|apply Lend.keep|fail)))));any_goals apply Stopped.mk
    refine CA.nilOwn 4 22 1 cleC rfl fun v => ?_
    apply CA.bunNil cleR
    repeat' (first|refine Sp.h ?_|refine Lk.r rfl ?_|(apply Nm.r;focus repeat first|apply LN.cons|exact LN.nil)|fail)
    exact ⟨_, _, .tup (.same (.same (.nil (by (repeat first|exact .nil|refine .cons (by repeat first|exact .here|apply Take.there) ?_))))), v, [], 1, rfl, rfl, by simp, fun z hz => by cases hz⟩
theorem svalues_o (m : ModS) (b w : NowS) (l : List EvS) (hm : MOK m) : CallA Tryz.prog 62 [.ad (stoV m b l w) 0] [] fun r own => ∃ v L, r = .ow v ∧ own = clsR v L ∧ ClsOK L := by
  have h1 := valuesQ_o m w.merged hm
  refine CallA.of pg ord62 Tryz.func62 rfl Tryz.ntmps62 Tryz.results62 rfl fun h0 G0 O0 => ?_
  repeat' (first|refine Sp.h ?_|refine Lk.r rfl ?_|refine Rf.mk rfl ?_|refine OpK.r rfl ?_|refine Ch.r ?_|(apply CA.draw;(focus rfl);(focus kernel_rfl);(focus kernel_rfl);(focus repeat' (first|apply ON.one|exact ON.done|exact ON.none|apply ON.alt));(focus rfl))|fail)
  (apply Cl.use (h1);(focus repeat' (first|exact Lend.nil|apply Lend.keep|fail));(focus (repeat (first|exact Takes.nil|(apply Takes.cons;(focus repeat first|exact .here|apply Take.there)))));(focus rfl))
  rintro _ _ ⟨v, L, c, rfl, rfl, hL⟩
  repeat' (first|refine Sp.h ?_|refine Lk.r rfl ?_|refine Rf.mk rfl ?_|refine OpK.r rfl ?_|(apply Nm.r;focus repeat first|apply LN.cons|exact LN.nil)|fail)
  exact ⟨_, _, .one (.same (.nil (by (repeat first|exact .nil|refine .cons (by repeat first|exact .here|apply Take.there) ?_)))), v, L, rfl, rfl, hL⟩
theorem sbase_o (m : ModS) (b w : NowS) (l : List EvS) (h : SzN b) : CallA Tryz.prog 35 [.ad (stoV m b l w) 0] [] fun q own => ∃ v1 v2 v3 L v4, q = .agg [.ow v1, it b.time, .ow v2, .ow v3, nl0, nl0, .ow v4] ∧ L.map MgE.g = b.merged ∧
      own = [arrR v4 3 1 b.places intC, arrR v3 123 3 L mgeC, bunR (L.map mgeR), arrR v2 3 1 b.state intC, arrR v1 3 1 b.clock intC] := by
  have h1 := cloneBase_a b nl0 nl0 h
  refine CallA.of pg ord35 Tryz.func35 rfl Tryz.ntmps35 Tryz.results35 rfl fun h0 G0 O0 => ?_
  repeat' (first|refine Sp.h ?_|refine Lk.r rfl ?_|refine Rf.mk rfl ?_|(refine All.mk ?_;intro _)|refine Ch.r ?_|(apply Nm.r;focus repeat first|apply LN.cons|exact LN.nil)|fail)
  (apply Cl.use (h1);(focus repeat' (first|exact Lend.nil|apply Lend.keep|fail));(focus (repeat (first|exact Takes.nil|(apply Takes.cons;(focus repeat first|exact .here|apply Take.there)))));(focus rfl))
  rintro _ _ ⟨v1, v2, v3, L, v4, rfl, hL, rfl⟩
  repeat' (first|refine Sp.h ?_|refine Lk.r rfl ?_|refine Rf.mk rfl ?_|(apply TkB.r;(focus repeat first|exact .here|apply Take.there))|(apply SetAsk.r;(focus (repeat (first|exact SetAs.z|(apply SetAs.c;(focus (repeat first|assumption|exact SetA.z|apply SetA.s)))))))|(apply Nm.r;focus repeat first|apply LN.cons|exact LN.nil)|fail)
  exact ⟨_, _, .one (.same (.nil (by (repeat first|exact .nil|refine .cons (by repeat first|exact .here|apply Take.there) ?_)))), _, _, _, L, _, rfl, hL, rfl⟩
theorem flat_cls {v : Value} {L : List ClE} : ∀ R ∈ clsR v L, FlatR R := fun R hR => by
  rcases List.mem_cons.1 hR with rfl|hR
  · exact FlatR.arr fun x _ => .cons (.ow _) .nil
  · rw [List.mem_singleton.1 hR]
    refine FlatR.bun fun R hR => ?_
    obtain ⟨x, _, rfl⟩ := List.mem_map.1 hR
    exact flat_ints
theorem flat_mge {v : Value} {L : List MgE} : ∀ R ∈ [arrR v 123 3 L mgeC, bunR (L.map mgeR)], FlatR R := fun R hR => by
  rcases List.mem_cons.1 hR with rfl|hR
  · exact FlatR.arr fun x _ => .cons (.val _) (.cons (.val _) (.cons (.ow _) .nil))
  · rw [List.mem_singleton.1 hR]
    refine FlatR.bun fun R hR => ?_
    obtain ⟨x, _, rfl⟩ := List.mem_map.1 hR
    exact FlatR.arr fun _ _ => .cons (.val _) (.cons (.val _) (.cons (.val _) (.cons (.val _) .nil)))
theorem flat_o3 {l : List Int} : ∀ (r : AV) (own : List Res), (∃ u, r = .ow u ∧ own = [arrR u 3 1 l intC]) → FlatV r ∧ ∀ R ∈ own, FlatR R := by
  rintro _ _ ⟨u, rfl, rfl⟩
  exact ⟨FlatV.ow _, fun R hR => by rw [List.mem_singleton.1 hR];exact flat_ints⟩
theorem flat_o2 {l : List EvS} : ∀ (r : AV) (own : List Res), (∃ u L, r = .ow u ∧ L.map EvE.e = l ∧ own = outE u L) → FlatV r ∧ ∀ R ∈ own, FlatR R := by
  rintro _ _ ⟨u, L, rfl, _, rfl⟩
  exact ⟨FlatV.ow _, flat_outE⟩
theorem flat_o5 : ∀ (r : AV) (own : List Res), (∃ v L, r = .ow v ∧ own = clsR v L ∧ ClsOK L) → FlatV r ∧ ∀ R ∈ own, FlatR R := by
  rintro _ _ ⟨u, L, rfl, rfl, _⟩
  exact ⟨FlatV.ow _, flat_cls⟩
theorem flat_o1 {b : NowS} : ∀ (q : AV) (own : List Res), (∃ v1 v2 v3 L v4, q = .agg [.ow v1, it b.time, .ow v2, .ow v3, nl0, nl0, .ow v4] ∧ L.map MgE.g = b.merged ∧
      own = [arrR v4 3 1 b.places intC, arrR v3 123 3 L mgeC, bunR (L.map mgeR), arrR v2 3 1 b.state intC, arrR v1 3 1 b.clock intC]) → FlatV q ∧ ∀ R ∈ own, FlatR R := by
  rintro _ _ ⟨v1, v3, v4, L3, v5, rfl, hL3, rfl⟩
  refine ⟨FlatV.agg (.cons (.ow _) (.cons (.val _) (.cons (.ow _) (.cons (.ow _) (.cons (.val _) (.cons (.val _) (.cons (.ow _) .nil))))))), fun R hR => ?_⟩
  simp only [List.mem_cons, List.not_mem_nil, or_false] at hR
  rcases hR with rfl|rfl|rfl|rfl|rfl
  · exact flat_ints
  · exact flat_mge _ (List.Mem.head _)
  · exact flat_mge (v := v4) _ (List.Mem.tail _ (List.Mem.head _))
  · exact flat_ints
  · exact flat_ints
end Go.Proofs.YtmllihbhphnolaaGreat
