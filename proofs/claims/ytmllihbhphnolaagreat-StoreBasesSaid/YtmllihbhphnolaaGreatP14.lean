/- Part 14 of the ground of this proof: what its texts say of the model, the program and the plain data; conditions: those that are named. -/
import Derived.Test.YtmllihbhphnolaaGreatP13
namespace Go.Proofs.YtmllihbhphnolaaGreat
open Go Go.CF
set_option maxRecDepth 20000
theorem pl_srt {l : List Int} (h : ∀ (i : Nat) p, l[i]? = some p → ∀ q, 0 < i → l[i - 1]? = some q → q < p) : SrtI l := by
 have key : ∀ (j i : Nat) (p q : Int), i < j → l[i]? = some q → l[j]? = some p → q < p := by
  intro j
  induction j with
  | zero => intro i p q hij;omega
  | succ j ih =>
   intro i p q hij hq hp
   obtain ⟨z, hz⟩ := get_of (l := l) (i := j) (by have := (List.getElem?_eq_some_iff.1 hp).1;omega)
   have h1 := h (j + 1) p hp z (by omega) hz
   by_cases he : i = j
   ·subst he;rw [hz] at hq;cases hq;exact h1
   ·have := ih i z q (by omega) hq hz;omega
 refine List.pairwise_iff_getElem.2 fun i j hi hj hij => key j i _ _ hij (List.getElem?_eq_getElem hi) (List.getElem?_eq_getElem hj)
theorem deliver_ins {m : ModS} {L : List EvS} {w : NowS} {e : EvS} (h : (deliverF m L w e).1 = 0) : ¬ (e.kind = 0 ∧ ¬ insS (addE m w.state e)) := by
 intro h9
 unfold deliverF at h
 rw [if_pos h9] at h
 repeat' split at h
 all_goals (exfalso;revert h;simp)
structure OpnI (m : ModS) (n : Nat) (b : NowS) (i : Nat) (L : List EvS) : Prop where
 len : L.length ≤ i
 ev : ∀ e ∈ L, EvV m (n : Nat) e
 ins : insS (L.foldl (behF m) b).state
 srt : SrtI (L.foldl (behF m) b).places
theorem OpnI.step {m : ModS} {n : Nat} {b : NowS} {i : Nat} {L : List EvS} {e : EvS} (hr : RefB m n b) (h : OpnI m n b i L) (hd : (deliverF m L (L.foldl (behF m) b) e).1 = 0) :
  OpnI m n b (i + 1) (L ++ [e]) ∧ (deliverF m L (L.foldl (behF m) b) e).2 = (L ++ [e]).foldl (behF m) b := by
 obtain ⟨h1, h2⟩ := sumF_ok L hr h.ev
 have hb := beh_deliver h1 h.srt hd
 have hst := deliver_st hd
 have hev := (deliver_ok' hd).2.1
 rw [h1.len] at hev
 have hfo : (L ++ [e]).foldl (behF m) b = behF m (L.foldl (behF m) b) e := by rw [List.foldl_append];rfl
 refine ⟨⟨by rw [List.length_append];have := h.len;simp;omega, fun x hx => ?_, ?_, ?_⟩, by rw [hfo];exact hb⟩
 ·rcases List.mem_append.1 hx with hx|hx
  ·exact h.ev x hx
  ·rw [List.mem_singleton.1 hx];exact hev
 ·rw [hfo, ← hb, hst]
  simp only
  by_cases hk : e.kind = 0
  ·by_cases hi : insS (addE m (L.foldl (behF m) b).state e)
   ·exact hi
   ·exact absurd ⟨hk, hi⟩ (deliver_ins hd)
  ·rw [addE, if_neg hk];exact h.ins
 ·rw [hfo, ← hb, hst]
  exact (plE_srt h.srt).1
end Go.Proofs.YtmllihbhphnolaaGreat
namespace Go.Proofs.YtmllihbhphnolaaGreat
open Go Go.CF
set_option maxRecDepth 20000
theorem openR_z (m : ModS) (b : NowS) (r s : AV) (hm : MOK m) (h : RightB m b) : CallP Tryz.prog 55 [mdl m, .agg (basR b r s)] (.tup [.agg (rstC b []), it 0]) :=
 CallA.conv (.tup (.cons (.agg (.cons (ALe.refl _) (.cons (ALe.refl _) (.cons (ALe.refl _) (.cons (ALe.refl _) (.cons (ALe.refl _) (.cons (ALe.refl _) (.cons (ALe.refl _) (.cons ALe.nil .nil))))))))) (.cons (ALe.refl _) .nil))) (openR_p m b r s hm h)
set_option maxHeartbeats 16000000 in
theorem bases35_p (m : ModS) (b : NowS) (r s : AV) (l : List EvS) (c : List Int) : CallP Tryz.prog 7 [mdl m, .agg (basR b r s), evs l, ints c] (bl true) := by
 have haw := awake35_p
 have hfe := few32_c m l
 have hfk := few34_p b.merged
 refine CallA.of pg ord7 Tryz.func7 rfl Tryz.ntmps7 Tryz.results7 rfl fun h0 G0 O0 => ?_
 repeat' (first|refine Sp.h ?_|refine Lk.r rfl ?_|refine Rf.mk rfl ?_|(apply Bd.t;(focus first|assumption|omega|rfl))|(refine All.mk ?_;intro _)|(apply TkB.r;(focus repeat constructor))|refine Ch.l ⟨rfl, rfl⟩ ?_|(apply Cl.p (haw);(focus repeat' (first|exact Lend.nil|fail))))
 rename_i b4 b5
 (apply Cl.use (hfe);(focus repeat' (first|exact Lend.nil|apply Lend.keep|fail));(focus (repeat (first|exact Takes.nil|(apply Takes.cons;(focus repeat constructor)))));(focus rfl))
 rintro _ _ ⟨z, rfl, rfl, hz⟩
 cases z
 ·repeat' (first|refine Sp.h ?_|refine Lk.r rfl ?_|refine Rf.mk rfl ?_|(apply Bd.f;(focus first|assumption|omega|exact Bool.false_ne_true))|(apply Nm.r;focus repeat constructor)|fail)
  exact Fin.p rfl rfl
 obtain ⟨hm, hfw⟩ := hz rfl
 by_cases hk : FewK b.merged
 rotate_left
 ·rw [decide_eq_false hk] at hfk
  repeat' (first|refine Sp.h ?_|refine Lk.r rfl ?_|refine Rf.mk rfl ?_|(apply Bd.t;(focus first|assumption|omega|rfl))|(apply Bd.f;(focus first|assumption|omega|exact Bool.false_ne_true))|(apply TkB.r;(focus repeat constructor))|(apply Nm.r;focus repeat constructor)|(apply Cl.p (hfk);(focus repeat' (first|exact Lend.nil|apply Lend.keep|fail))))
  all_goals exact Fin.p rfl rfl
 rw [decide_eq_true hk] at hfk
 by_cases d1 : 30 < l.length
 ·repeat' (first|refine Sp.h ?_|refine Lk.r rfl ?_|refine Rf.mk rfl ?_|(apply Bd.t;(focus first|assumption|omega|rfl))|(refine Im.mk ?_;intro _)|(apply TkB.r;(focus repeat constructor))|(apply Nm.r;focus repeat constructor)|(apply Cl.p (hfk);(focus repeat' (first|exact Lend.nil|apply Lend.keep|fail))))
  all_goals exact Fin.p rfl rfl
 by_cases d2 : 8 < b.clock.length
 ·repeat' (first|refine Sp.h ?_|refine Lk.r rfl ?_|refine Rf.mk rfl ?_|(apply Bd.t;(focus first|assumption|omega|rfl))|(apply Bd.f;(focus first|assumption|omega|exact Bool.false_ne_true))|(refine Im.mk ?_;intro _)|(apply TkB.r;(focus repeat constructor))|(apply Nm.r;focus repeat constructor)|(apply Cl.p (hfk);(focus repeat' (first|exact Lend.nil|apply Lend.keep|fail))))
  all_goals exact Fin.p rfl rfl
 by_cases d3 : 60 < b.state.length
 ·repeat' (first|refine Sp.h ?_|refine Lk.r rfl ?_|refine Rf.mk rfl ?_|(apply Bd.t;(focus first|assumption|omega|rfl))|(apply Bd.f;(focus first|assumption|omega|exact Bool.false_ne_true))|(refine Im.mk ?_;intro _)|(apply TkB.r;(focus repeat constructor))|(apply Nm.r;focus repeat constructor)|(apply Cl.p (hfk);(focus repeat' (first|exact Lend.nil|apply Lend.keep|fail))))
  all_goals exact Fin.p rfl rfl
 by_cases d4 : 30 < b.places.length
 ·repeat' (first|refine Sp.h ?_|refine Lk.r rfl ?_|refine Rf.mk rfl ?_|(apply Bd.t;(focus first|assumption|omega|rfl))|(apply Bd.f;(focus first|assumption|omega|exact Bool.false_ne_true))|(refine Im.mk ?_;intro _)|(apply TkB.r;(focus repeat constructor))|(apply Nm.r;focus repeat constructor)|(apply Cl.p (hfk);(focus repeat' (first|exact Lend.nil|apply Lend.keep|fail))))
  all_goals exact Fin.p rfl rfl
 by_cases d5 : 8 < c.length
 ·repeat' (first|refine Sp.h ?_|refine Lk.r rfl ?_|refine Rf.mk rfl ?_|(apply Bd.t;(focus first|assumption|omega|rfl))|(apply Bd.f;(focus first|assumption|omega|exact Bool.false_ne_true))|(refine Im.mk ?_;intro _)|(apply TkB.r;(focus repeat constructor))|(apply Nm.r;focus repeat constructor)|(apply Cl.p (hfk);(focus repeat' (first|exact Lend.nil|apply Lend.keep|fail))))
  all_goals exact Fin.p rfl rfl
 by_cases hR : RightB m b
 rotate_left
 ·have o1 := openS_bad m b r s hm hR
  have o2 := openR_bad m b r s hm hR
  repeat' (first|refine Sp.h ?_|refine Lk.r rfl ?_|refine Rf.mk rfl ?_|(apply Bd.t;(focus first|assumption|omega|rfl))|(apply Bd.f;(focus first|assumption|omega|exact Bool.false_ne_true))|(refine Im.mk ?_;intro _)|(refine All.mk ?_;intro _)|(apply TkB.r;(focus repeat constructor))|refine Ch.l ⟨rfl, rfl⟩ ?_|(apply SetAsk.r;(focus (repeat (first|exact SetAs.z|(apply SetAs.c;(focus (repeat first|assumption|constructor)))))))|(apply Nm.r;focus repeat constructor)|(apply Cl.p (hfk);(focus ((repeat' (first|exact Lend.nil|apply Lend.keep|fail));done)))|(apply Cl.p (o1);(focus ((repeat' (first|exact Lend.nil|apply Lend.keep|fail));done)))|(apply Cl.p (o2);(focus ((repeat' (first|exact Lend.nil|apply Lend.keep|fail));done))))
  all_goals exact Fin.p rfl rfl
 have o1 := openS_a m b r s hm hR (by omega)
 have o2 := openR_z m b r s hm hR
 repeat' (first|refine Sp.h ?_|refine Lk.r rfl ?_|refine Rf.mk rfl ?_|(apply Bd.t;(focus first|assumption|omega|rfl))|(apply Bd.f;(focus first|assumption|omega|exact Bool.false_ne_true))|(refine Im.mk ?_;intro _)|(apply TkB.r;(focus repeat constructor))|refine Ch.l ⟨rfl, rfl⟩ ?_|(apply Cl.p (hfk);(focus repeat' (first|exact Lend.nil|apply Lend.keep|fail))))
 (apply Cl.use (o1);(focus repeat' (first|exact Lend.nil|apply Lend.keep|fail));(focus (repeat (first|exact Takes.nil|(apply Takes.cons;(focus repeat constructor)))));(focus rfl))
 rintro _ _ ⟨p, v, rfl, rfl⟩
 repeat' (first|refine Sp.h ?_|refine Lk.r rfl ?_|refine Rf.mk rfl ?_|(apply Bd.t;(focus first|assumption|omega|rfl))|(apply Bd.f;(focus first|assumption|omega|exact Bool.false_ne_true))|(refine Im.mk ?_;intro _)|(refine All.mk ?_;intro _)|(apply TkB.r;(focus repeat constructor))|refine Ch.l ⟨rfl, rfl⟩ ?_|(apply SetAsk.r;(focus (repeat (first|exact SetAs.z|(apply SetAs.c;(focus (repeat first|assumption|constructor)))))))|(apply Nm.r;focus repeat constructor)|(apply Cl.p (o2);(focus repeat' (first|exact Lend.nil|apply Lend.keep|fail))))
 rename_i b11 _
 have hrb : RefB m b.clock.length b := ⟨hR.hd.clk, rfl, hR.hd.st⟩
 have hsz := right_sz hm hR (by omega)
 have hbo : BasOK m b.clock.length b := ⟨hR.hd.clk, rfl, hR.hd.st, ⟨hsz.m, hsz.k⟩, pl_srt fun i p hp => (hR.pl i p hp).2.2, by omega⟩
 refine CA.loop (fun x : Nat × List EvS × Value => ⟨[(3, ints c), (4, pm b4), (9, pm p), (11, pm b11), (81, evs l), (82, it (l.length : Nat)), (83, it x.1)], [mR b4 m, blkR b11 80 (rstC b x.2.1), stoR p m b x.2.2 (x.2.1.foldl (behF m) b), arrR x.2.2 37 13 x.2.1 evC]⟩)
  (fun x => x.1 ≤ l.length ∧ OpnI m b.clock.length b x.1 x.2.1) (fun x => l.length - x.1) (0, [], v) ⟨by repeat first|trivial|refine ⟨rfl,?_⟩,by repeat first|exact .nil|refine .cons (by repeat constructor) ?_⟩ ⟨Nat.zero_le _, ⟨Nat.le_refl _, by simp, hR.hd.ins, hbo.pls⟩⟩ ?_
 rintro ⟨i, L, u⟩ ⟨hi, hI⟩
 simp only at hi hI
 simp only
 obtain ⟨hr, hrp⟩ := sumF_ok L hrb hI.ev
 obtain ⟨W, hW⟩ : ∃ W, W = L.foldl (behF m) b := ⟨_, rfl⟩
 have hLl := hI.len
 have hin := hI.ins
 have hsr := hI.srt
 have hst := fun (e : EvS) (h : (deliverF m L (L.foldl (behF m) b) e).1 = 0) => hI.step hrb h
 rw [← hW] at hr hrp hin hsr hst ⊢
 have hno : NowOK m W := ⟨hr.clk, hr.st, hsr, by omega⟩
 by_cases hil : i < l.length
 ·obtain ⟨e, he⟩ := get_of hil
  have hd1 := deliver_a p m b u L W e hm hno (by omega)
  have hd2 := deliver35_p m b.clock.length b L W e hm hrb hI.ev (by omega) hW hin
  by_cases h0 : (deliverF m L W e).1 = 0
  ·obtain ⟨g1, g2⟩ := hst e h0
   rw [evsD, if_pos h0, h0, g2] at hd1
   rw [evsD, if_pos h0, h0] at hd2
   repeat' (first|refine Sp.h ?_|refine Lk.r rfl ?_|refine Rf.mk rfl ?_|(apply Bd.t;(focus first|assumption|omega|rfl))|(refine All.mk ?_;intro _)|(apply TkB.r;(focus repeat constructor))|(apply Ix.q;(focus exact rfl);(focus assumption))|refine Ch.l ⟨rfl, rfl⟩ ?_|(apply SetAsk.r;(focus (repeat (first|exact SetAs.z|(apply SetAs.c;(focus (repeat first|assumption|constructor)))))))|(apply Nm.r;focus repeat constructor)|fail)
   (apply Cl.use (hd1);(focus repeat' (first|exact Lend.nil|apply Lend.keep|fail));(focus (repeat (first|exact Takes.nil|(apply Takes.cons;(focus repeat constructor)))));(focus rfl))
   rintro _ _ ⟨rfl, u', rfl⟩
   repeat' (first|refine Sp.h ?_|refine Lk.r rfl ?_|refine Rf.mk rfl ?_|(apply Bd.t;(focus first|assumption|omega|rfl))|(apply TkB.r;(focus repeat constructor))|refine Ch.l ⟨rfl, rfl⟩ ?_|(apply SetAsk.r;(focus (repeat (first|exact SetAs.z|(apply SetAs.c;(focus (repeat first|assumption|constructor)))))))|(apply Ov.n;(focus first|omega|(simp <;> omega)))|(apply Cl.p (hd2);(focus repeat' (first|exact Lend.nil|apply Lend.keep|fail))))
   all_goals exact PA.lp (i + 1, L ++ [e], u') ⟨by repeat first|trivial|refine ⟨rfl,?_⟩,by repeat first|exact .nil|refine .cons (by repeat constructor) ?_⟩ ⟨⟨hil, g1⟩, by simp only;omega⟩
  ·have hb := deliver_bad h0
   rw [evsD, if_neg h0, hb] at hd1
   rw [evsD, if_neg h0] at hd2
   have hI2 : OpnI m b.clock.length b (i + 1) L := ⟨by omega, hI.ev, hI.ins, hI.srt⟩
   repeat' (first|refine Sp.h ?_|refine Lk.r rfl ?_|refine Rf.mk rfl ?_|(apply Bd.t;(focus first|assumption|omega|rfl))|(refine All.mk ?_;intro _)|(apply TkB.r;(focus repeat constructor))|(apply Ix.q;(focus exact rfl);(focus assumption))|refine Ch.l ⟨rfl, rfl⟩ ?_|(apply SetAsk.r;(focus (repeat (first|exact SetAs.z|(apply SetAs.c;(focus (repeat first|assumption|constructor)))))))|(apply Nm.r;focus repeat constructor)|fail)
   (apply Cl.use (hd1);(focus repeat' (first|exact Lend.nil|apply Lend.keep|fail));(focus (repeat (first|exact Takes.nil|(apply Takes.cons;(focus repeat constructor)))));(focus rfl))
   rintro _ _ ⟨rfl, u', rfl⟩
   repeat' (first|refine Sp.h ?_|refine Lk.r rfl ?_|refine Rf.mk rfl ?_|(apply Bd.t;(focus first|assumption|omega|rfl))|(apply TkB.r;(focus repeat constructor))|refine Ch.l ⟨rfl, rfl⟩ ?_|(apply SetAsk.r;(focus (repeat (first|exact SetAs.z|(apply SetAs.c;(focus (repeat first|assumption|constructor)))))))|(apply Ov.n;(focus first|omega|(simp <;> omega)))|(apply Cl.p (hd2);(focus repeat' (first|exact Lend.nil|apply Lend.keep|fail))))
   all_goals exact PA.lp (i + 1, L, u') (by rw [← hW];exact ⟨by repeat first|trivial|refine ⟨rfl,?_⟩,by repeat first|exact .nil|refine .cons (by repeat constructor) ?_⟩) ⟨⟨hil, hI2⟩, by simp only;omega⟩
 have hie : i = l.length := by omega
 subst hie
 have h1 := safter_z m b W L c hr.len hR.hd.clk (by omega) (fun e he => by have := (hI.ev e he).1.1.2;omega)
 have h2 := afterR_p b L c (by omega)
 have h3 := shows35_p m b.clock.length b L W hm hrb hI.ev (by omega) hW hsz hno
 have h4 := same32_p (afterF b L c).2 (afterF b L c).2
 rw [decide_eq_true rfl] at h4
 (repeat' (first|(show CA _ _ (Code.region 19 _ _) _ _;apply Stopped.out)|refine Sp.h ?_|refine Lk.r rfl ?_|refine Rf.mk rfl ?_|(apply Bd.f;(focus first|assumption|omega|exact Bool.false_ne_true))|fail));any_goals apply Stopped.mk
 (apply CA.own;(focus (apply OX.blk (b := p);(focus repeat constructor);(focus (repeat' (first|exact FX.nil|(apply FX.s1;(focus repeat constructor);(focus first|omega|(simp;done)|(simp;omega)))|apply FX.k)));(focus repeat constructor))))
 apply CA.freezeB 9
 focus rfl
 focus (repeat constructor)
 repeat' (first|refine Sp.h ?_|refine Lk.r rfl ?_|refine Rf.mk rfl ?_|(apply TkB.r;(focus repeat constructor))|refine Ch.l ⟨rfl, rfl⟩ ?_|(apply Nm.r;focus repeat constructor)|(apply Cl.p (h1);(focus ((repeat' (first|exact Lend.nil|apply Lend.keep|fail));done)))|(apply Cl.p (h2);(focus ((repeat' (first|exact Lend.nil|apply Lend.keep|fail));done)))|(apply Cl.p (h3);(focus ((repeat' (first|exact Lend.nil|apply Lend.keep|fail));done)))|(apply Cl.p (h4);(focus ((repeat' (first|exact Lend.nil|apply Lend.keep|fail));done))))
 all_goals exact Fin.p rfl (vb (by first|rfl|exact decide_eq_true rfl))
end Go.Proofs.YtmllihbhphnolaaGreat
