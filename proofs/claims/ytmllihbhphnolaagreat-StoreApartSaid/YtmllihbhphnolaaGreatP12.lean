/- Part 12 of the ground of this proof: what its texts say of the model, the program and the plain data; conditions: those that are named. -/
import Derived.Test.YtmllihbhphnolaaGreatP11
namespace Go.Proofs.YtmllihbhphnolaaGreat
open Go Go.CF
set_option maxRecDepth 20000
abbrev capA (b1 b2 : Nat) : AV := .fn 60 [pm b1, pm b2]
abbrev ptrR (b p : Nat) : Res := blkR b 40 [pm p]
set_option maxHeartbeats 16000000 in
theorem apart35_p (m : ModS) (ld : List Int) (l : List EvS) (odd : EvS) (c : List Int) : CallP Tryz.prog 8 [mdl m, ints ld, evs l, evA' odd, ints c] (bl true) := by
  have haw := awake35_p
  have hsu := suits35_c m ld l
  refine CallA.of pg ord8 Tryz.func8 rfl Tryz.ntmps8 Tryz.results8 rfl fun h0 G0 O0 => ?_
  repeat' (first|refine Sp.h ?_|refine Lk.r rfl ?_|refine Rf.mk rfl ?_|(apply Bd.t;(focus first|assumption|omega|rfl))|(refine All.mk ?_;intro _)|(apply TkB.r;(focus repeat first|exact .here|apply Take.there))|refine Ch.l ⟨rfl, rfl⟩ ?_|(apply Cl.p (haw);(focus repeat' (first|exact Lend.nil|fail))))
  rename_i b5 b8
  (apply Cl.use (hsu);(focus repeat' (first|exact Lend.nil|apply Lend.keep|fail));(focus (repeat (first|exact Takes.nil|(apply Takes.cons;(focus repeat first|exact .here|apply Take.there)))));(focus rfl))
  rintro _ _ ⟨s, rfl, rfl, hs⟩
  cases s
  · repeat' (first|refine Sp.h ?_|refine Lk.r rfl ?_|refine Rf.mk rfl ?_|(apply Bd.f;(focus first|assumption|omega|exact Bool.false_ne_true))|(apply Nm.r;focus repeat first|apply LN.cons|exact LN.nil)|fail)
    exact Fin.p rfl rfl
  have hs := hs rfl
  by_cases hop : 8 < odd.past.length
  · repeat' (first|refine Sp.h ?_|refine Lk.r rfl ?_|refine Rf.mk rfl ?_|(apply Bd.t;(focus first|assumption|omega|rfl))|(refine Im.mk ?_;intro _)|(apply TkB.r;(focus repeat first|exact .here|apply Take.there))|(apply Nm.r;focus repeat first|apply LN.cons|exact LN.nil)|fail)
    exact Fin.p rfl rfl
  by_cases hcl : 8 < c.length
  · repeat' (first|refine Sp.h ?_|refine Lk.r rfl ?_|refine Rf.mk rfl ?_|(apply Bd.t;(focus first|assumption|omega|rfl))|(apply Bd.f;(focus first|assumption|omega|exact Bool.false_ne_true))|(refine Im.mk ?_;intro _)|(apply TkB.r;(focus repeat first|exact .here|apply Take.there))|(apply Nm.r;focus repeat first|apply LN.cons|exact LN.nil)|fail)
    exact Fin.p rfl rfl
  have hc := hs.e.2.2.1
  have hl60 := hs.e.2.1.1
  obtain ⟨d, hd⟩ := get_of (l := l) (i := 0) hs.ne
  have hnr := n0_rng hc (List.mem_of_getElem? hd)
  obtain ⟨X, x1, x2, x3⟩ := ext_nil_ok hc [] (by simp)
  have hXl := x3.length_eq
  have hfi := fill_a m ld l [] X hs (by simp) x1 x2 x3
  have hfi : CallA Tryz.prog 15 [mdl m, ints ld, evs l, nl0] [] fun q own => ∃ p v, q = pm p ∧ own = [stoR p m (stN m (n0 l) ld []) v (stN m (n0 l) ld X), arrR v 37 13 X evC] := by
    refine CallA.args ?_ hfi
    (repeat' (first|exact RLe.nil|(apply RLe.cons;(focus first|exact ALe.refl _|exact ALe.nilow|exact ALe.nil))))
  obtain ⟨W0, hW0⟩ : ∃ W0, W0 = stN m (n0 l) ld [] := ⟨_, rfl⟩
  obtain ⟨W, hW⟩ : ∃ W, W = stN m (n0 l) ld X := ⟨_, rfl⟩
  have hwo : NowOK m W := by rw [hW];exact stN_ok hs x2.sub (by omega)
  have hwc : W.clock.length = n0 l := by rw [hW];exact clkE_len ..
  have hbo : BasOK m W.clock.length W0 := by rw [hwc, hW0];exact basOK_stN hs
  have hsb : SzN W0 := by rw [hW0];exact szN_stN hs (fun e he => by cases he) (Nat.zero_le _)
  have hpl : W.places.length < 100000 := by
    rw [hW]
    have := foldP_len X [] List.Pairwise.nil
    show (X.foldl plE []).length < 100000
    simp only [List.length_nil] at this
    omega
  rw [← hW0, ← hW] at hfi
  (repeat' (first|(show CA _ _ (Code.region 5 _ _) _ _;apply Stopped.out)|refine Sp.h ?_|refine Lk.r rfl ?_|refine Rf.mk rfl ?_|(apply Bd.t;(focus first|assumption|omega|rfl))|(apply Bd.f;(focus first|assumption|omega|exact Bool.false_ne_true))|(refine Im.mk ?_;intro _)|(apply TkB.r;(focus repeat first|exact .here|apply Take.there))|fail));any_goals apply Stopped.mk
  refine CA.cut (fun x : (Nat × Nat) × (Nat × Nat) × Value × Value => ⟨[(4, ints c), (8, pm b8), (11, pm x.1.1), (12, pm x.1.2)], [ptrR x.1.1 x.2.1.1, ptrR x.1.2 x.2.1.2, stoR x.2.1.1 m W0 x.2.2.1 W, arrR x.2.2.1 37 13 X evC, stoR x.2.1.2 m W0 x.2.2.2 W, arrR x.2.2.2 37 13 X evC, blkR b8 37 (evC odd)]⟩) (fun _ => True) ?_ ?_
  · repeat' (first|refine Sp.h ?_|refine Lk.r rfl ?_|refine Rf.mk rfl ?_|refine OpK.r rfl ?_|(refine All.mk ?_;intro _)|(apply TkB.r;(focus repeat first|exact .here|apply Take.there))|refine Ch.l ⟨rfl, rfl⟩ ?_|(apply SetAk.r;(focus (repeat first|assumption|exact SetA.z|apply SetA.s)))|(apply Nm.r;focus repeat first|apply LN.cons|exact LN.nil)|(apply CA.draw;(focus rfl);(focus kernel_rfl);(focus kernel_rfl);(focus repeat' (first|apply ON.one|exact ON.done|exact ON.none|apply ON.alt));(focus rfl))|exact trivial|apply RA'.both|(((apply Cl.use (hfi);(focus repeat' (first|exact Lend.nil|apply Lend.keep|fail));(focus (repeat (first|exact Takes.nil|(apply Takes.cons;(focus repeat first|exact .here|apply Take.there)))));(focus rfl)));(rintro _ _ ⟨_, _, rfl, rfl⟩)))
    all_goals exact PA.lp ((_, _), (_, _), _, _) ⟨by repeat first|trivial|refine ⟨rfl,?_⟩,by repeat first|exact .nil|refine .cons (by repeat first|exact .here|apply Take.there) ?_⟩ trivial
  rintro ⟨⟨b11, b12⟩, ⟨p, p2⟩, v, v2⟩ -
  simp only
  obtain ⟨w1, hw1⟩ : ∃ w1, w1 = (deliverF m X W odd).2 := ⟨_, rfl⟩
  obtain ⟨L1, hL1⟩ : ∃ L1, L1 = evsD m X W odd := ⟨_, rfl⟩
  have hdl := fun (q : Nat) (u : Value) => deliver_a q m W0 u X W odd hs.e.1 hwo (by omega)
  simp only [← hw1, ← hL1] at hdl
  have hXe : ∀ e ∈ X, EvV m (W.clock.length : Nat) e := fun e he => by rw [hwc];exact hs.e.2.2.2.2 e (x2.sub e he)
  have hXp : ∀ e ∈ X, e.past.length ≤ 1000000 := fun e he => by have := (hXe e he).1.1.2;omega
  have hbad : ¬ (deliverF m X W odd).1 = 0 → w1 = W ∧ L1 = X := fun h => ⟨hw1.trans (deliver_bad h), hL1.trans (if_neg h)⟩
  have hgood : NowOK m w1 ∧ w1.clock.length = n0 l ∧ L1.length ≤ 1000 ∧ ∀ e ∈ L1, EvV m (w1.clock.length : Nat) e := by
    by_cases h : (deliverF m X W odd).1 = 0
    · have hcl : w1.clock.length = n0 l := by rw [hw1, deliver_st h];simp only [cntF, List.length_set];exact hwc
      have hLe : L1 = X ++ [odd] := hL1.trans (if_pos h)
      refine ⟨by rw [hw1];exact now_deliver hwo hpl h, hcl, by rw [hLe, List.length_append];simp;omega, fun e he => ?_⟩
      rw [hLe] at he
      rw [hcl, ← hwc]
      rcases List.mem_append.1 he with he|he
      · exact hXe e he
      · rw [List.mem_singleton.1 he];exact (deliver_ok' h).2.1
    · obtain ⟨e1, e2⟩ := hbad h
      rw [e1, e2]
      exact ⟨hwo, hwc, by omega, hXe⟩
  have hap := apart1_p m W0 X W hs.e.1 hwo hsb (by omega) hXp
  repeat' (first|refine Sp.h ?_|refine Lk.r rfl ?_|refine Rf.mk rfl ?_|(apply Bd.f;(focus first|assumption|omega|exact Bool.false_ne_true))|(apply TkB.r;(focus repeat first|exact .here|apply Take.there))|refine Ch.l ⟨rfl, rfl⟩ ?_|fail)
  (apply Cl.use (hdl p v);(focus repeat' (first|exact Lend.nil|apply Lend.keep|fail));(focus (repeat (first|exact Takes.nil|(apply Takes.cons;(focus repeat first|exact .here|apply Take.there)))));(focus rfl))
  rintro _ _ ⟨rfl, u1, rfl⟩
  (repeat' (first|(show CA _ _ (Code.cond (Operand.tmp 63) _ _) _ _;apply Stopped.out)|refine Sp.h ?_|refine Lk.r rfl ?_|fail));any_goals apply Stopped.mk
  refine CA.cut (fun x : Value × Value => ⟨[(4, ints c), (11, pm b11), (12, pm b12), (13, capA b11 b12)], [ptrR b11 p, ptrR b12 p2, stoR p m W0 x.1 w1, arrR x.1 37 13 L1 evC, stoR p2 m W0 x.2 w1, arrR x.2 37 13 L1 evC]⟩) (fun _ => True) ?_ ?_
  · by_cases hcode : (deliverF m X W odd).1 = 0
    · repeat' (first|refine Sp.h ?_|refine Lk.r rfl ?_|refine Rf.mk rfl ?_|(apply Bd.t;(focus first|assumption|omega|rfl))|(apply TkB.r;(focus repeat first|exact .here|apply Take.there))|refine Ch.l ⟨rfl, rfl⟩ ?_|fail)
      (apply Cl.use (hdl p2 v2);(focus repeat' (first|exact Lend.nil|apply Lend.keep|fail));(focus (repeat (first|exact Takes.nil|(apply Takes.cons;(focus repeat first|exact .here|apply Take.there)))));(focus rfl))
      rintro _ _ ⟨rfl, u2, rfl⟩
      repeat' (first|refine Sp.h ?_|refine Lk.r rfl ?_|(apply Bd.t;(focus first|assumption|omega|rfl))|fail)
      exact PA.lp (u1, u2) ⟨by repeat first|trivial|refine ⟨rfl,?_⟩,by repeat first|exact .nil|refine .cons (by repeat first|exact .here|apply Take.there) ?_⟩ trivial
    · obtain ⟨e1, e2⟩ := hbad hcode
      rw [e1, e2]
      repeat' (first|refine Sp.h ?_|refine Lk.r rfl ?_|refine Rf.mk rfl ?_|(apply Bd.f;(focus first|assumption|omega|exact Bool.false_ne_true))|fail)
      (apply Cl.lend (hap);(focus repeat' (first|exact Lend.nil|apply Lend.keep|(apply Lend.lend;(focus repeat first|exact .here|apply Take.there);(focus first|omega|(simp;omega)))|(apply Lend.cell;(focus repeat first|exact .here|apply Take.there))|fail)))
      repeat' (first|refine Sp.h ?_|refine Lk.r rfl ?_|(apply Bd.t;(focus first|assumption|omega|rfl))|fail)
      exact PA.lp (u1, v2) ⟨by repeat first|trivial|refine ⟨rfl,?_⟩,by repeat first|exact .nil|refine .cons (by repeat first|exact .here|apply Take.there) ?_⟩ trivial
  rintro ⟨u1, u2⟩ -
  simp only
  obtain ⟨g1, g2, g3, g4⟩ := hgood
  have hbo1 : BasOK m w1.clock.length W0 := by rw [g2, ← hwc];exact hbo
  obtain ⟨Z, hZ⟩ : ∃ Z, Z = (compactF m ⟨W0, L1, w1⟩ c).2 := ⟨_, rfl⟩
  have hco := fun (q : Nat) (u : Value) => compact_a q m W0 u L1 w1 c hs.e.1 g1 hbo1 g3 g4
  simp only [← hZ] at hco
  have hzo : ShoOK m Z := by rw [hZ];exact compact_sho hs.e.1 g1 hbo1 g3 g4 hsb
  have hzb : ¬ (compactF m ⟨W0, L1, w1⟩ c).1 = 0 → Z = ⟨W0, L1, w1⟩ := fun h => hZ.trans (compact_bad h)
  have hap := apart1_p m Z.base Z.evs Z.now hs.e.1 hzo.now hzo.b hzo.l hzo.p
  repeat' (first|refine Sp.h ?_|refine Lk.r rfl ?_|refine Rf.mk rfl ?_|(apply TkB.r;(focus repeat first|exact .here|apply Take.there))|fail)
  (apply Cl.use (hco p u1);(focus repeat' (first|exact Lend.nil|apply Lend.keep|fail));(focus (repeat (first|exact Takes.nil|(apply Takes.cons;(focus repeat first|exact .here|apply Take.there)))));(focus rfl))
  rintro _ _ ⟨rfl, u3, rfl⟩
  (repeat' (first|(show CA _ _ (Code.cond (Operand.tmp 74) _ _) _ _;apply Stopped.out)|refine Sp.h ?_|refine Lk.r rfl ?_|fail));any_goals apply Stopped.mk
  refine CA.cut (fun x : Value × Value => ⟨[(11, pm b11), (12, pm b12), (13, capA b11 b12)], [ptrR b11 p, ptrR b12 p2, stoR p m Z.base x.1 Z.now, arrR x.1 37 13 Z.evs evC, stoR p2 m Z.base x.2 Z.now, arrR x.2 37 13 Z.evs evC]⟩) (fun _ => True) ?_ ?_
  · by_cases hcode : (compactF m ⟨W0, L1, w1⟩ c).1 = 0
    · repeat' (first|refine Sp.h ?_|refine Lk.r rfl ?_|refine Rf.mk rfl ?_|(apply Bd.t;(focus first|assumption|omega|rfl))|(apply TkB.r;(focus repeat first|exact .here|apply Take.there))|fail)
      (apply Cl.use (hco p2 u2);(focus repeat' (first|exact Lend.nil|apply Lend.keep|fail));(focus (repeat (first|exact Takes.nil|(apply Takes.cons;(focus repeat first|exact .here|apply Take.there)))));(focus rfl))
      rintro _ _ ⟨rfl, u4, rfl⟩
      repeat' (first|refine Sp.h ?_|refine Lk.r rfl ?_|(apply Bd.t;(focus first|assumption|omega|rfl))|fail)
      exact PA.lp (u3, u4) ⟨by repeat first|trivial|refine ⟨rfl,?_⟩,by repeat first|exact .nil|refine .cons (by repeat first|exact .here|apply Take.there) ?_⟩ trivial
    · have e1 := hzb hcode
      rw [e1] at hap ⊢
      repeat' (first|refine Sp.h ?_|refine Lk.r rfl ?_|refine Rf.mk rfl ?_|(apply Bd.f;(focus first|assumption|omega|exact Bool.false_ne_true))|fail)
      (apply Cl.lend (hap);(focus repeat' (first|exact Lend.nil|apply Lend.keep|(apply Lend.lend;(focus repeat first|exact .here|apply Take.there);(focus first|omega|(simp;omega)))|(apply Lend.cell;(focus repeat first|exact .here|apply Take.there))|fail)))
      repeat' (first|refine Sp.h ?_|refine Lk.r rfl ?_|(apply Bd.t;(focus first|assumption|omega|rfl))|fail)
      exact PA.lp (u3, u2) ⟨by repeat first|trivial|refine ⟨rfl,?_⟩,by repeat first|exact .nil|refine .cons (by repeat first|exact .here|apply Take.there) ?_⟩ trivial
  rintro ⟨u1, u2⟩ -
  simp only
  obtain ⟨B, L, V⟩ := Z
  obtain ⟨z1, z2, z3, z4⟩ := hzo
  simp only at z1 z2 z3 z4 hap ⊢
  have hstr := hs.e.1.str
  have hck := z2.clk.2.2
  have o1 := sbase_o m B V L z1
  have o2 := sevents_r m B V L (by omega) z4
  have o3 := sclock_r m B V L (by omega)
  have o4 := sstate_r m B V L (by rw [z2.st];omega)
  have o5 := svalues_o m B V L hs.e.1
  have o6 := splaces_r m B V L z2.pll
  (repeat' (first|(show CA _ _ (Code.region 19 _ _) _ _;apply Stopped.out)|refine Sp.h ?_|fail));any_goals apply Stopped.mk
  refine CA.cut (fun x : Nat × (Value × Value × Value × Value) × (Value × Value × Value × Value × Value) × List MgE × List EvE × List ClE => ⟨[(11, pm b11), (12, pm b12), (13, capA b11 b12), (14, pm x.1), (15, .ow x.2.2.1.1), (16, .ow x.2.2.1.2.1), (17, .ow x.2.2.1.2.2.1), (18, .ow x.2.2.1.2.2.2.1), (19, .ow x.2.2.1.2.2.2.2)],
    [ptrR b11 p, ptrR b12 p2, stoR p m B u1 V, arrR u1 37 13 L evC, stoR p2 m B u2 V, arrR u2 37 13 L evC,
      blkR x.1 75 [.ow x.2.1.1, it B.time, .ow x.2.1.2.1, .ow x.2.1.2.2.1, nl0, nl0, .ow x.2.1.2.2.2],
      arrR x.2.1.1 3 1 B.clock intC, arrR x.2.1.2.1 3 1 B.state intC, arrR x.2.1.2.2.1 123 3 x.2.2.2.1 mgeC, bunR (x.2.2.2.1.map mgeR), arrR x.2.1.2.2.2 3 1 B.places intC,
      arrR x.2.2.1.1 37 13 x.2.2.2.2.1 eveC, bunR (x.2.2.2.2.1.map eveR), arrR x.2.2.1.2.1 3 1 V.clock intC, arrR x.2.2.1.2.2.1 3 1 V.state intC,
      arrR x.2.2.1.2.2.2.1 22 1 x.2.2.2.2.2 cleC, bunR (x.2.2.2.2.2.map cleR), arrR x.2.2.1.2.2.2.2 3 1 V.places intC]⟩)
    (fun x => x.2.2.2.1.map MgE.g = B.merged ∧ x.2.2.2.2.1.map EvE.e = L ∧ ClsOK x.2.2.2.2.2) ?_ ?_
  · repeat' (first|refine Sp.h ?_|refine Lk.r rfl ?_|refine Rf.mk rfl ?_|refine OpK.r rfl ?_|(refine All.mk ?_;intro _)|(apply TkB.r;(focus repeat first|exact .here|apply Take.there))|(apply SetAsk.r;(focus (repeat (first|exact SetAs.z|(apply SetAs.c;(focus (repeat first|assumption|exact SetA.z|apply SetA.s)))))))|(apply Nm.r;focus repeat first|apply LN.cons|exact LN.nil)|(apply CA.draw;(focus rfl);(focus kernel_rfl);(focus kernel_rfl);(focus repeat' (first|apply ON.one|exact ON.done|exact ON.none|apply ON.alt));(focus rfl))|exact trivial|apply RA'.both|(apply Cl.lendO o1;(focus ((repeat' (first|exact Lend.nil|apply Lend.keep|(apply Lend.lend;(focus repeat first|exact .here|apply Take.there);(focus first|omega|(simp;omega)))|(apply Lend.cell;(focus repeat first|exact .here|apply Take.there))|fail));done));(focus exact flat_o1);(rintro _ _ ⟨v1, v3, v4, L3, v5, rfl, hL3, rfl⟩))|(apply Cl.lendO o2;(focus ((repeat' (first|exact Lend.nil|apply Lend.keep|(apply Lend.lend;(focus repeat first|exact .here|apply Take.there);(focus first|omega|(simp;omega)))|(apply Lend.cell;(focus repeat first|exact .here|apply Take.there))|fail));done));(focus exact flat_o2);(rintro _ _ ⟨ue, Le, rfl, hLe, rfl⟩))|(apply Cl.lendO o3;(focus ((repeat' (first|exact Lend.nil|apply Lend.keep|(apply Lend.lend;(focus repeat first|exact .here|apply Take.there);(focus first|omega|(simp;omega)))|(apply Lend.cell;(focus repeat first|exact .here|apply Take.there))|fail));done));(focus exact flat_o3);(rintro _ _ ⟨uk, rfl, rfl⟩))|(apply Cl.lendO o4;(focus ((repeat' (first|exact Lend.nil|apply Lend.keep|(apply Lend.lend;(focus repeat first|exact .here|apply Take.there);(focus first|omega|(simp;omega)))|(apply Lend.cell;(focus repeat first|exact .here|apply Take.there))|fail));done));(focus exact flat_o3);(rintro _ _ ⟨ux, rfl, rfl⟩))|(apply Cl.lendO o5;(focus ((repeat' (first|exact Lend.nil|apply Lend.keep|(apply Lend.lend;(focus repeat first|exact .here|apply Take.there);(focus first|omega|(simp;omega)))|(apply Lend.cell;(focus repeat first|exact .here|apply Take.there))|fail));done));(focus exact flat_o5);(rintro _ _ ⟨uv, Lv, rfl, rfl, hLv⟩))|(apply Cl.lendO o6;(focus ((repeat' (first|exact Lend.nil|apply Lend.keep|(apply Lend.lend;(focus repeat first|exact .here|apply Take.there);(focus first|omega|(simp;omega)))|(apply Lend.cell;(focus repeat first|exact .here|apply Take.there))|fail));done));(focus exact flat_o3);(rintro _ _ ⟨up, rfl, rfl⟩)))
    all_goals exact PA.lp (_, (v1, v3, v4, v5), (ue, uk, ux, uv, up), L3, Le, Lv) ⟨by repeat first|trivial|refine ⟨rfl,?_⟩,by repeat first|exact .nil|refine .cons (by repeat first|exact .here|apply Take.there) ?_⟩ ⟨hL3, hLe, hLv⟩
  rintro ⟨b14, ⟨v1, v3, v4, v5⟩, ⟨ue, uk, ux, uv, up⟩, L3, Le, Lv⟩ ⟨hL3, hLe, hLv⟩
  simp only at hL3 hLe hLv ⊢
  have hLvl := hLv.len
  (repeat' (first|(show CA _ _ (Code.region 20 _ _) _ _;apply Stopped.out)|refine Sp.h ?_|fail));any_goals apply Stopped.mk
  apply CA.retype (l := Lv) (f := cleC) (m := Lv.map cleC) (g := id)
  focus (repeat first|exact .here|apply Take.there)
  focus exact List.map_id _
  have hLm : (Lv.map cleC).length ≤ 1000 := by rw [List.length_map];exact hLvl
  repeat' (first|refine Sp.h ?_|refine Lk.r rfl ?_|refine Rf.mk rfl ?_|(refine All.mk ?_;intro _)|(apply TkA.r;(focus repeat first|exact .here|apply Take.there))|(apply TkB.r;(focus repeat first|exact .here|apply Take.there))|refine Ce.r ?_|(apply Fk.r;(focus (repeat (first|exact FillA.nil|(apply FillA.agg;(focus rfl);(focus rfl);(focus (repeat (first|exact SetAs.z|(apply SetAs.c;(focus (repeat first|assumption|exact SetA.z|apply SetA.s)))))))|(apply FillA.one;(focus rfl);(focus infer_instance);(focus (repeat first|assumption|exact SetA.z|apply SetA.s)))))))|refine Rf.mk ⟨rfl, rfl⟩ ?_|refine Rf.mk ⟨rfl, rfl, rfl⟩ ?_|refine Mp.same ?_|fail)
  apply Om.mk
  focus (show 6 + (Lv.map cleC).length ≤ 100000000000;omega)
  (repeat' (first|(show CA _ _ (Code.block 0 _) _ _;apply Stopped.out)|refine Sp.h ?_|refine Lk.r rfl ?_|(refine All.mk ?_;intro _)|(apply TkA.r;(focus repeat first|exact .here|apply Take.there))|fail));any_goals apply Stopped.mk
  rename_i u105
  refine CA.retype (v := u105) (by (repeat first|exact .here|apply Take.there)) ([⟨B.clock, v1⟩, ⟨B.state, v3⟩, ⟨B.places, v5⟩, ⟨V.clock, uk⟩, ⟨V.state, ux⟩, ⟨V.places, up⟩] ++ Lv) cleC ?_ ?_
  · exact (List.map_append ..).trans (List.map_id _).symm
  apply CA.bunNil cleR
  apply CA.bunPush (l := []) (g := cleR) (x := ⟨B.clock, v1⟩)
  focus (repeat first|exact .here|apply Take.there)
  focus (repeat first|exact .here|apply Take.there)
  apply CA.bunPush (l := [⟨B.clock, v1⟩]) (g := cleR) (x := ⟨B.state, v3⟩)
  focus (repeat first|exact .here|apply Take.there)
  focus (repeat first|exact .here|apply Take.there)
  apply CA.bunPush (l := [⟨B.clock, v1⟩, ⟨B.state, v3⟩]) (g := cleR) (x := ⟨B.places, v5⟩)
  focus (repeat first|exact .here|apply Take.there)
  focus (repeat first|exact .here|apply Take.there)
  apply CA.bunPush (l := [⟨B.clock, v1⟩, ⟨B.state, v3⟩, ⟨B.places, v5⟩]) (g := cleR) (x := ⟨V.clock, uk⟩)
  focus (repeat first|exact .here|apply Take.there)
  focus (repeat first|exact .here|apply Take.there)
  apply CA.bunPush (l := [⟨B.clock, v1⟩, ⟨B.state, v3⟩, ⟨B.places, v5⟩, ⟨V.clock, uk⟩]) (g := cleR) (x := ⟨V.state, ux⟩)
  focus (repeat first|exact .here|apply Take.there)
  focus (repeat first|exact .here|apply Take.there)
  apply CA.bunPush (l := [⟨B.clock, v1⟩, ⟨B.state, v3⟩, ⟨B.places, v5⟩, ⟨V.clock, uk⟩, ⟨V.state, ux⟩]) (g := cleR) (x := ⟨V.places, up⟩)
  focus (repeat first|exact .here|apply Take.there)
  focus (repeat first|exact .here|apply Take.there)
  apply CA.bunApp (l := [⟨B.clock, v1⟩, ⟨B.state, v3⟩, ⟨B.places, v5⟩, ⟨V.clock, uk⟩, ⟨V.state, ux⟩, ⟨V.places, up⟩]) (g := cleR) (l2 := Lv)
  focus (repeat first|exact .here|apply Take.there)
  focus (repeat first|exact .here|apply Take.there)
  obtain ⟨AL, hAL⟩ : ∃ AL, AL = [⟨B.clock, v1⟩, ⟨B.state, v3⟩, ⟨B.places, v5⟩, ⟨V.clock, uk⟩, ⟨V.state, ux⟩, ⟨V.places, up⟩] ++ Lv := ⟨_, rfl⟩
  rw [← hAL]
  have hALo : ∀ z ∈ AL, z.c.length ≤ 1000000 := by
    intro z hz
    rw [hAL] at hz
    rcases List.mem_append.1 hz with hz|hz
    · simp only [List.mem_cons, List.not_mem_nil, or_false] at hz
      have := z1.c;have := z1.s;have := z1.p;have := z2.pll;have := z2.st
      rcases hz with rfl|rfl|rfl|rfl|rfl|rfl <;> simp only <;> omega
    · exact hLv.el z hz
  have hALl : AL.length = (Lv.map cleC).length + 6 := by rw [hAL];simp
  repeat' (first|refine Sp.h ?_|fail)
  refine CA.loop (fun x : Nat × List ClE => ⟨[(11, pm b11), (12, pm b12), (13, capA b11 b12), (14, pm b14), (15, .ow ue), (105, .ow u105), (106, it ((Lv.map cleC).length + 6 : Nat)), (107, it x.1)], [ptrR b11 p, ptrR b12 p2, stoR p m B u1 V, arrR u1 37 13 L evC, stoR p2 m B u2 V, arrR u2 37 13 L evC, blkR b14 75 [.ow v1, it B.time, .ow v3, .ow v4, nl0, nl0, .ow v5], arrR v4 123 3 L3 mgeC, bunR (L3.map mgeR), arrR ue 37 13 Le eveC, bunR (Le.map eveR), arrR u105 22 1 AL cleC, bunR (x.2.map cleR)]⟩) (fun x => x.1 ≤ AL.length ∧ x.2.map ClE.w = AL.map ClE.w ∧ ∀ z ∈ x.2, z.c.length ≤ 1000000) (fun x => AL.length - x.1) (0, AL) ⟨by repeat first|trivial|refine ⟨rfl,?_⟩,by repeat first|exact .nil|refine .cons (by repeat first|exact .here|apply Take.there) ?_⟩ ⟨Nat.zero_le _, rfl, hALo⟩ ?_
  · rintro ⟨i, LL⟩ ⟨hi, hLL, hLo⟩
    simp only at hi hLL hLo
    simp only
    by_cases hin : i < AL.length
    rotate_left
    · have hie : i = (Lv.map cleC).length + 6 := by omega
      subst hie
      (repeat' (first|(show CA _ _ (Code.block 4 _) _ _;apply Stopped.out)|refine Sp.h ?_|refine Lk.r rfl ?_|refine Rf.mk rfl ?_|(apply Bd.f;(focus first|assumption|omega|exact Bool.false_ne_true))|(apply TkA.r;(focus repeat first|exact .here|apply Take.there))|fail));any_goals apply Stopped.mk
      have hev : Le.map eveR = (Le.map fun x => (⟨x.e.past, x.w⟩ : ClE)).map cleR := by rw [List.map_map];rfl
      rw [hev]
      obtain ⟨PL, hPL⟩ : ∃ PL, PL = Le.map fun x => (⟨x.e.past, x.w⟩ : ClE) := ⟨_, rfl⟩
      rw [← hPL]
      have hPLw : PL.map ClE.w = Le.map EvE.w := by rw [hPL, List.map_map];rfl
      have hPLo : ∀ z ∈ PL, z.c.length ≤ 1000000 := by
        intro z hz
        rw [hPL] at hz
        obtain ⟨x, hx, rfl⟩ := List.mem_map.1 hz
        exact z4 x.e (by rw [← hLe];exact List.mem_map_of_mem hx)
      have hLel : Le.length ≤ 1000 := by have := congrArg List.length hLe;rw [List.length_map] at this;omega
      repeat' (first|refine Sp.h ?_|fail)
      refine CA.loop (fun x : Nat × List ClE => ⟨[(11, pm b11), (12, pm b12), (13, capA b11 b12), (14, pm b14), (15, .ow ue), (125, it (Le.length : Nat)), (126, it x.1)], [ptrR b11 p, ptrR b12 p2, stoR p m B u1 V, arrR u1 37 13 L evC, stoR p2 m B u2 V, arrR u2 37 13 L evC, blkR b14 75 [.ow v1, it B.time, .ow v3, .ow v4, nl0, nl0, .ow v5], arrR v4 123 3 L3 mgeC, bunR (L3.map mgeR), arrR ue 37 13 Le eveC, bunR (x.2.map cleR)]⟩) (fun x => x.1 ≤ Le.length ∧ x.2.map ClE.w = Le.map EvE.w ∧ ∀ z ∈ x.2, z.c.length ≤ 1000000) (fun x => Le.length - x.1) (0, PL) ⟨by repeat first|trivial|refine ⟨rfl,?_⟩,by repeat first|exact .nil|refine .cons (by repeat first|exact .here|apply Take.there) ?_⟩ ⟨Nat.zero_le _, hPLw, hPLo⟩ ?_
      rintro ⟨i, LL⟩ ⟨hi, hLL, hLo⟩
      simp only at hi hLL hLo
      simp only
      by_cases hin : i < Le.length
      rotate_left
      · have hie : i = Le.length := by omega
        subst hie
        (repeat' (first|(show CA _ _ (Code.block 8 _) _ _;apply Stopped.out)|refine Sp.h ?_|refine Lk.r rfl ?_|refine Rf.mk rfl ?_|(apply Bd.f;(focus first|assumption|omega|exact Bool.false_ne_true))|(apply TkA.r;(focus repeat first|exact .here|apply Take.there))|(apply TkB.r;(focus repeat first|exact .here|apply Take.there))|fail));any_goals apply Stopped.mk
        have hL3o : ∀ z ∈ L3, z.marks.length ≤ 1000000 := fun z hz => z1.k z.g (by rw [← hL3];exact List.mem_map_of_mem hz)
        have hL3l : L3.length ≤ 100000 := by have := congrArg List.length hL3;rw [List.length_map] at this;have := z1.m;omega
        repeat' (first|refine Sp.h ?_|fail)
        refine CA.loop (fun x : Nat × List MgE × List MgE => ⟨[(11, pm b11), (12, pm b12), (13, capA b11 b12), (14, pm b14), (152, it (L3.length : Nat)), (153, it x.1)], [ptrR b11 p, ptrR b12 p2, stoR p m B u1 V, arrR u1 37 13 L evC, stoR p2 m B u2 V, arrR u2 37 13 L evC, blkR b14 75 [.ow v1, it B.time, .ow v3, .ow v4, nl0, nl0, .ow v5], arrR v4 123 3 x.2.1 mgeC, bunR (x.2.2.map mgeR)]⟩) (fun x => x.1 ≤ L3.length ∧ x.2.1.map MgE.w = L3.map MgE.w ∧ x.2.2.map MgE.w = L3.map MgE.w ∧ ∀ z ∈ x.2.2, z.marks.length ≤ 1000000) (fun x => L3.length - x.1) (0, L3, L3) ⟨by repeat first|trivial|refine ⟨rfl,?_⟩,by repeat first|exact .nil|refine .cons (by repeat first|exact .here|apply Take.there) ?_⟩ ⟨Nat.zero_le _, rfl, rfl, hL3o⟩ ?_
        rintro ⟨i, M, N⟩ ⟨hi, hMM, hNN, hNo⟩
        simp only at hi hMM hNN hNo
        simp only
        by_cases hin : i < L3.length
        rotate_left
        · have hie : i = L3.length := by omega
          subst hie
          repeat' (first|refine Sp.h ?_|refine Lk.r rfl ?_|refine Rf.mk rfl ?_|(apply Bd.f;(focus first|assumption|omega|exact Bool.false_ne_true))|fail)
          (apply Cl.lend (hap);(focus repeat' (first|exact Lend.nil|apply Lend.keep|(apply Lend.lend;(focus repeat first|exact .here|apply Take.there);(focus first|omega|(simp;omega)))|(apply Lend.cell;(focus repeat first|exact .here|apply Take.there))|fail)))
          repeat' (first|refine Sp.h ?_|refine Lk.r rfl ?_|(apply Nm.r;focus repeat first|apply LN.cons|exact LN.nil)|fail)
          exact Fin.p rfl rfl
        obtain ⟨a, ha⟩ := get_of hin
        have hMl : M.length = L3.length := by have := congrArg List.length hMM;simpa using this
        have hNl : N.length = L3.length := by have := congrArg List.length hNN;simpa using this
        obtain ⟨⟨pu, dr, zw, mk⟩, hz⟩ := get_of (l := M) (i := i) (by omega)
        have hzw : zw = a.w := by
          have h9 := congrArg (fun l => l[i]?) hMM
          simp only [List.getElem?_map, hz, ha, Option.map_some, Option.some.injEq] at h9
          exact h9
        subst hzw
        obtain ⟨⟨pn, dn, zw, zk⟩, hn⟩ := get_of (l := N) (i := i) (by omega)
        have hzw : zw = a.w := by
          have h9 := congrArg (fun l => l[i]?) hNN
          simp only [List.getElem?_map, hn, ha, Option.map_some, Option.some.injEq] at h9
          exact h9
        subst hzw
        have hzl : zk.length ≤ 1000000 := hNo _ (List.mem_of_getElem? hn)
        have iv : Inv mgeC [bl (!pu), bl dr, .ow a.w] ⟨!pu, dr, a.w, mk⟩ := ⟨rfl⟩
        (repeat' (first|(show CA _ _ (Code.region 41 _ _) _ _;apply Stopped.out)|refine Sp.h ?_|refine Lk.r rfl ?_|refine Rf.mk rfl ?_|(apply Bd.t;(focus first|assumption|omega|rfl))|fail));any_goals apply Stopped.mk
        refine CA.cut (fun _ : Unit => ⟨[(11, pm b11), (12, pm b12), (13, capA b11 b12), (14, pm b14), (25, it i), (152, it (L3.length : Nat)), (153, it i)], [ptrR b11 p, ptrR b12 p2, stoR p m B u1 V, arrR u1 37 13 L evC, stoR p2 m B u2 V, arrR u2 37 13 L evC, blkR b14 75 [.ow v1, it B.time, .ow v3, .ow v4, nl0, nl0, .ow v5], arrR v4 123 3 (M.set i ⟨!pu, dr, a.w, mk⟩) mgeC, bunR (N.map mgeR)]⟩) (fun _ => True) ?_ ?_
        · repeat' (first|refine Sp.h ?_|refine Lk.r rfl ?_|refine Rf.mk rfl ?_|refine OpK.r rfl ?_|(apply TkA.r;(focus repeat first|exact .here|apply Take.there))|(apply TkB.r;(focus repeat first|exact .here|apply Take.there))|(apply Ix.q;(focus exact rfl);(focus assumption))|(apply At.r;(focus assumption))|(apply SetAk.r;(focus (repeat first|assumption|exact SetA.z|apply SetA.s)))|(apply Up.inv;(focus repeat (first|apply LN.cons|exact LN.nil));(focus infer_instance))|(apply CA.draw;(focus rfl);(focus kernel_rfl);(focus kernel_rfl);(focus repeat' (first|apply ON.one|exact ON.done|exact ON.none|apply ON.alt));(focus rfl))|fail)
          all_goals exact PA.lp () ⟨by repeat first|trivial|refine ⟨rfl,?_⟩,by repeat first|exact .nil|refine .cons (by repeat first|exact .here|apply Take.there) ?_⟩ trivial
        rintro ⟨⟩ -
        simp only
        have hset : (M.set i ⟨!pu, dr, a.w, mk⟩)[i]? = some ⟨!pu, dr, a.w, mk⟩ := by rw [List.getElem?_set, if_pos rfl, if_pos (by omega)]
        (repeat' (first|(show CA _ _ (Code.region 42 _ _) _ _;apply Stopped.out)|refine Sp.h ?_|fail));any_goals apply Stopped.mk
        apply CA.bunTake (l := N) (g := mgeR) (i := i) (x := ⟨pn, dn, a.w, zk⟩)
        focus (repeat first|exact .here|apply Take.there)
        focus exact hn
        repeat' (first|refine Sp.h ?_|refine Lk.r rfl ?_|refine Rf.mk rfl ?_|(apply TkA.r;(focus repeat first|exact .here|apply Take.there))|(apply TkB.r;(focus repeat first|exact .here|apply Take.there))|(apply Ix.q;(focus exact rfl);(focus assumption))|(apply At.r;(focus assumption))|fail)
        refine CA.loop (fun x : Nat × List MkS => ⟨[(11, pm b11), (12, pm b12), (13, capA b11 b12), (14, pm b14), (25, it i), (152, it (L3.length : Nat)), (153, it i), (174, it (zk.length : Nat)), (175, it x.1)], [ptrR b11 p, ptrR b12 p2, stoR p m B u1 V, arrR u1 37 13 L evC, stoR p2 m B u2 V, arrR u2 37 13 L evC, blkR b14 75 [.ow v1, it B.time, .ow v3, .ow v4, nl0, nl0, .ow v5], arrR v4 123 3 (M.set i ⟨!pu, dr, a.w, mk⟩) mgeC, arrR a.w 125 4 x.2 mkC, bunR ((N.eraseIdx i).map mgeR)]⟩) (fun x => x.1 ≤ zk.length ∧ x.2.length = zk.length) (fun x => zk.length - x.1) (0, zk) ⟨by repeat first|trivial|refine ⟨rfl,?_⟩,by repeat first|exact .nil|refine .cons (by repeat first|exact .here|apply Take.there) ?_⟩ ⟨Nat.zero_le _, rfl⟩ ?_
        rintro ⟨j, c'⟩ ⟨hj, hc'⟩
        simp only at hj hc'
        simp only
        by_cases hjn : j < zk.length
        · obtain ⟨⟨y1, y2, y3, y4⟩, hy⟩ := get_of (l := c') (i := j) (by omega)
          repeat' (first|refine Sp.h ?_|refine Lk.r rfl ?_|refine Rf.mk rfl ?_|(apply Bd.t;(focus first|assumption|omega|rfl))|(apply TkA.r;(focus repeat first|exact .here|apply Take.there))|(apply TkB.r;(focus repeat first|exact .here|apply Take.there))|(apply Ix.q;(focus exact rfl);(focus assumption))|(apply At.r;(focus assumption))|fail)
          apply Ov.w
          intro r _ _ _
          have hidr : Inv mkC [it y1, it y2, it r, it y4] ⟨y1, y2, r, y4⟩ := ⟨rfl⟩
          repeat' (first|refine Sp.h ?_|refine Lk.r rfl ?_|refine Rf.mk rfl ?_|(apply TkA.r;(focus repeat first|exact .here|apply Take.there))|(apply Ix.q;(focus exact rfl);(focus assumption))|(apply At.r;(focus assumption))|(apply SetAk.r;(focus (repeat first|assumption|exact SetA.z|apply SetA.s)))|(apply Up.inv;(focus repeat (first|apply LN.cons|exact LN.nil));(focus infer_instance))|(apply Ov.n;(focus first|omega|(simp <;> omega)))|fail)
          exact PA.lp (j + 1, c'.set j ⟨y1, y2, r, y4⟩) ⟨by repeat first|trivial|refine ⟨rfl,?_⟩,by repeat first|exact .nil|refine .cons (by repeat first|exact .here|apply Take.there) ?_⟩ ⟨⟨hjn, by simp only [List.length_set];exact hc'⟩, by simp only;omega⟩
        · have hje : j = zk.length := by omega
          subst hje
          (repeat' (first|(show CA _ _ (Code.region 47 _ _) _ _;apply Stopped.out)|refine Sp.h ?_|refine Lk.r rfl ?_|refine Rf.mk rfl ?_|(apply Bd.f;(focus first|assumption|omega|exact Bool.false_ne_true))|fail));any_goals apply Stopped.mk
          apply CA.bunPut (l := N) (g := mgeR) (i := i) (x := ⟨pn, dn, a.w, c'⟩)
          focus (repeat first|exact .here|apply Take.there)
          focus (repeat first|exact .here|apply Take.there)
          focus (rw [hNl];exact hin)
          repeat' (first|refine Sp.h ?_|refine Lk.r rfl ?_|refine Rf.mk rfl ?_|(apply Ov.n;(focus first|omega|(simp <;> omega)))|fail)
          refine PA.lp (i + 1, M.set i ⟨!pu, dr, a.w, mk⟩, N.set i ⟨pn, dn, a.w, c'⟩) ⟨by repeat first|trivial|refine ⟨rfl,?_⟩,by repeat first|exact .nil|refine .cons (by repeat first|exact .here|apply Take.there) ?_⟩ ⟨⟨hin, ?_, ?_, fun z h9 => ?_⟩, by simp only;omega⟩
          · simp only [List.map_set]
            rw [hMM]
            exact set_same (by rw [List.getElem?_map, ha];rfl)
          · simp only [List.map_set]
            rw [hNN]
            exact set_same (by rw [List.getElem?_map, ha];rfl)
          · rcases List.mem_or_eq_of_mem_set h9 with h9|rfl
            · exact hNo z h9
            · simp only;omega
      obtain ⟨a, ha⟩ := get_of hin
      have hlen : LL.length = Le.length := by have := congrArg List.length hLL;simpa using this
      obtain ⟨⟨zc, zw⟩, hz⟩ := get_of (l := LL) (i := i) (by omega)
      have hzw : zw = a.w := by
        have h9 := congrArg (fun l => l[i]?) hLL
        simp only [List.getElem?_map, hz, ha, Option.map_some, Option.some.injEq] at h9
        exact h9
      subst hzw
      have hzl : zc.length ≤ 1000000 := hLo _ (List.mem_of_getElem? hz)
      (repeat' (first|(show CA _ _ (Code.region 32 _ _) _ _;apply Stopped.out)|refine Sp.h ?_|refine Lk.r rfl ?_|refine Rf.mk rfl ?_|(apply Bd.t;(focus first|assumption|omega|rfl))|fail));any_goals apply Stopped.mk
      apply CA.bunTake (l := LL) (g := cleR) (i := i) (x := ⟨zc, a.w⟩)
      focus (repeat first|exact .here|apply Take.there)
      focus exact hz
      repeat' (first|refine Sp.h ?_|refine Lk.r rfl ?_|refine Rf.mk rfl ?_|(apply TkA.r;(focus repeat first|exact .here|apply Take.there))|(apply Ix.q;(focus exact rfl);(focus assumption))|(apply At.r;(focus assumption))|fail)
      refine CA.loop (fun x : Nat × List Int => ⟨[(11, pm b11), (12, pm b12), (13, capA b11 b12), (14, pm b14), (15, .ow ue), (125, it (Le.length : Nat)), (126, it i), (23, it i), (134, it (zc.length : Nat)), (135, it x.1)], [ptrR b11 p, ptrR b12 p2, stoR p m B u1 V, arrR u1 37 13 L evC, stoR p2 m B u2 V, arrR u2 37 13 L evC, blkR b14 75 [.ow v1, it B.time, .ow v3, .ow v4, nl0, nl0, .ow v5], arrR v4 123 3 L3 mgeC, bunR (L3.map mgeR), arrR ue 37 13 Le eveC, arrR a.w 3 1 x.2 intC, bunR ((LL.eraseIdx i).map cleR)]⟩) (fun x => x.1 ≤ zc.length ∧ x.2.length = zc.length) (fun x => zc.length - x.1) (0, zc) ⟨by repeat first|trivial|refine ⟨rfl,?_⟩,by repeat first|exact .nil|refine .cons (by repeat first|exact .here|apply Take.there) ?_⟩ ⟨Nat.zero_le _, rfl⟩ ?_
      rintro ⟨j, c'⟩ ⟨hj, hc'⟩
      simp only at hj hc'
      simp only
      by_cases hjn : j < zc.length
      · obtain ⟨y, hy⟩ := get_of (l := c') (i := j) (by omega)
        repeat' (first|refine Sp.h ?_|refine Lk.r rfl ?_|refine Rf.mk rfl ?_|(apply Bd.t;(focus first|assumption|omega|rfl))|(apply TkA.r;(focus repeat first|exact .here|apply Take.there))|(apply Ix.q;(focus exact rfl);(focus assumption))|(apply At.r;(focus assumption))|fail)
        apply Ov.w
        intro r _ _ _
        have hidr : Inv intC [.val (.int .i64 r)] r := ⟨rfl⟩
        repeat' (first|refine Sp.h ?_|refine Lk.r rfl ?_|refine Rf.mk rfl ?_|(apply TkA.r;(focus repeat first|exact .here|apply Take.there))|(apply Ix.q;(focus exact rfl);(focus assumption))|(apply At.r;(focus assumption))|(apply SetAk.r;(focus (repeat first|assumption|exact SetA.z|apply SetA.s)))|refine Up.r rfl ?_|(apply Ov.n;(focus first|omega|(simp <;> omega)))|fail)
        exact PA.lp (j + 1, c'.set j r) ⟨by repeat first|trivial|refine ⟨rfl,?_⟩,by repeat first|exact .nil|refine .cons (by repeat first|exact .here|apply Take.there) ?_⟩ ⟨⟨hjn, by simp only [List.length_set];exact hc'⟩, by simp only;omega⟩
      · have hje : j = zc.length := by omega
        subst hje
        (repeat' (first|(show CA _ _ (Code.region 37 _ _) _ _;apply Stopped.out)|refine Sp.h ?_|refine Lk.r rfl ?_|refine Rf.mk rfl ?_|(apply Bd.f;(focus first|assumption|omega|exact Bool.false_ne_true))|fail));any_goals apply Stopped.mk
        apply CA.bunPut (l := LL) (g := cleR) (i := i) (x := ⟨c', a.w⟩)
        focus (repeat first|exact .here|apply Take.there)
        focus (repeat first|exact .here|apply Take.there)
        focus (rw [hlen];exact hin)
        repeat' (first|refine Sp.h ?_|refine Lk.r rfl ?_|refine Rf.mk rfl ?_|(apply Ov.n;(focus first|omega|(simp <;> omega)))|fail)
        refine PA.lp (i + 1, LL.set i ⟨c', a.w⟩) ⟨by repeat first|trivial|refine ⟨rfl,?_⟩,by repeat first|exact .nil|refine .cons (by repeat first|exact .here|apply Take.there) ?_⟩ ⟨⟨hin, ?_, fun z h9 => ?_⟩, by simp only;omega⟩
        · simp only [List.map_set]
          rw [hLL]
          exact set_same (by rw [List.getElem?_map, ha];rfl)
        · rcases List.mem_or_eq_of_mem_set h9 with h9|rfl
          · exact hLo z h9
          · simp only;omega
    obtain ⟨a, ha⟩ := get_of hin
    have hlen : LL.length = AL.length := by have := congrArg List.length hLL;simpa using this
    obtain ⟨⟨zc, zw⟩, hz⟩ := get_of (l := LL) (i := i) (by omega)
    have hzw : zw = a.w := by
      have h9 := congrArg (fun l => l[i]?) hLL
      simp only [List.getElem?_map, hz, ha, Option.map_some, Option.some.injEq] at h9
      exact h9
    subst hzw
    have hzl : zc.length ≤ 1000000 := hLo _ (List.mem_of_getElem? hz)
    (repeat' (first|(show CA _ _ (Code.region 22 _ _) _ _;apply Stopped.out)|refine Sp.h ?_|refine Lk.r rfl ?_|refine Rf.mk rfl ?_|(apply Bd.t;(focus first|assumption|omega|rfl))|fail));any_goals apply Stopped.mk
    apply CA.bunTake (l := LL) (g := cleR) (i := i) (x := ⟨zc, a.w⟩)
    focus (repeat first|exact .here|apply Take.there)
    focus exact hz
    repeat' (first|refine Sp.h ?_|refine Lk.r rfl ?_|refine Rf.mk rfl ?_|(apply TkA.r;(focus repeat first|exact .here|apply Take.there))|(apply Ix.q;(focus exact rfl);(focus assumption))|(apply At.r;(focus assumption))|fail)
    refine CA.loop (fun x : Nat × List Int => ⟨[(11, pm b11), (12, pm b12), (13, capA b11 b12), (14, pm b14), (15, .ow ue), (105, .ow u105), (106, it ((Lv.map cleC).length + 6 : Nat)), (107, it i), (21, .ow a.w), (111, .ow a.w), (112, it (zc.length : Nat)), (113, it x.1)], [ptrR b11 p, ptrR b12 p2, stoR p m B u1 V, arrR u1 37 13 L evC, stoR p2 m B u2 V, arrR u2 37 13 L evC, blkR b14 75 [.ow v1, it B.time, .ow v3, .ow v4, nl0, nl0, .ow v5], arrR v4 123 3 L3 mgeC, bunR (L3.map mgeR), arrR ue 37 13 Le eveC, bunR (Le.map eveR), arrR u105 22 1 AL cleC, arrR a.w 3 1 x.2 intC, bunR ((LL.eraseIdx i).map cleR)]⟩) (fun x => x.1 ≤ zc.length ∧ x.2.length = zc.length) (fun x => zc.length - x.1) (0, zc) ⟨by repeat first|trivial|refine ⟨rfl,?_⟩,by repeat first|exact .nil|refine .cons (by repeat first|exact .here|apply Take.there) ?_⟩ ⟨Nat.zero_le _, rfl⟩ ?_
    rintro ⟨j, c'⟩ ⟨hj, hc'⟩
    simp only at hj hc'
    simp only
    by_cases hjn : j < zc.length
    · obtain ⟨y, hy⟩ := get_of (l := c') (i := j) (by omega)
      have hidy : Inv intC [.val (.int .i64 y)] y := ⟨rfl⟩
      repeat' (first|refine Sp.h ?_|refine Lk.r rfl ?_|refine Rf.mk rfl ?_|(apply Bd.t;(focus first|assumption|omega|rfl))|(apply TkA.r;(focus repeat first|exact .here|apply Take.there))|(apply Ix.q;(focus exact rfl);(focus assumption))|(apply At.r;(focus assumption))|fail)
      apply Ov.w
      intro r _ _ _
      have hidr : Inv intC [.val (.int .i64 r)] r := ⟨rfl⟩
      repeat' (first|refine Sp.h ?_|refine Lk.r rfl ?_|refine Rf.mk rfl ?_|(apply TkA.r;(focus repeat first|exact .here|apply Take.there))|(apply Ix.q;(focus exact rfl);(focus assumption))|(apply At.r;(focus assumption))|(apply SetAk.r;(focus (repeat first|assumption|exact SetA.z|apply SetA.s)))|refine Up.r rfl ?_|(apply Ov.n;(focus first|omega|(simp <;> omega)))|fail)
      exact PA.lp (j + 1, c'.set j r) ⟨by repeat first|trivial|refine ⟨rfl,?_⟩,by repeat first|exact .nil|refine .cons (by repeat first|exact .here|apply Take.there) ?_⟩ ⟨⟨hjn, by simp only [List.length_set];exact hc'⟩, by simp only;omega⟩
    · have hje : j = zc.length := by omega
      subst hje
      (repeat' (first|(show CA _ _ (Code.region 28 _ _) _ _;apply Stopped.out)|refine Sp.h ?_|refine Lk.r rfl ?_|refine Rf.mk rfl ?_|(apply Bd.f;(focus first|assumption|omega|exact Bool.false_ne_true))|fail));any_goals apply Stopped.mk
      apply CA.bunPut (l := LL) (g := cleR) (i := i) (x := ⟨c', a.w⟩)
      focus (repeat first|exact .here|apply Take.there)
      focus (repeat first|exact .here|apply Take.there)
      focus (rw [hlen];exact hin)
      repeat' (first|refine Sp.h ?_|refine Lk.r rfl ?_|refine Rf.mk rfl ?_|(apply Ov.n;(focus first|omega|(simp <;> omega)))|fail)
      refine PA.lp (i + 1, LL.set i ⟨c', a.w⟩) ⟨by repeat first|trivial|refine ⟨rfl,?_⟩,by repeat first|exact .nil|refine .cons (by repeat first|exact .here|apply Take.there) ?_⟩ ⟨⟨hin, ?_, fun z h9 => ?_⟩, by simp only;omega⟩
      · simp only [List.map_set]
        rw [hLL]
        exact set_same (by rw [List.getElem?_map, ha];rfl)
      · rcases List.mem_or_eq_of_mem_set h9 with h9|rfl
        · exact hLo z h9
        · simp only;omega
end Go.Proofs.YtmllihbhphnolaaGreat
