/- Part 12 of the ground of this proof: what its texts say of the model, the program and the plain data; conditions: those that are named. -/
import Derived.Test.YtmllihbhphnolaaGreatP11
namespace Go.Proofs.YtmllihbhphnolaaGreat
open Go Go.CF
set_option maxRecDepth 20000
def SzM (k : List MgS) : Prop := k.length ≤ 100000 ∧ ∀ g ∈ k, g.marks.length ≤ 1000000
theorem mrg1_sz {m : ModS} {k : List MgS} {e : EvS} (h : SzM k) : SzM (mrg1 m k e) := by
 unfold mrg1
 by_cases h0 : (applyF m k e).1 = 0
 ·obtain ⟨_, _, h3, _, h5⟩ := applyF_ok h0
  exact ⟨by rw [h3];exact h.1, h5⟩
 ·have h2 : (applyF m k e).2 = [] := by
   unfold applyF at h0 ⊢
   split
   ·rfl
   ·rename_i h1
    rw [if_neg h1] at h0
    split
    ·rename_i h2;rw [if_pos h2] at h0;exact absurd rfl h0
    ·rename_i h2
     rw [if_neg h2] at h0
     unfold gatherF at h0 ⊢
     split
     ·rfl
     ·rename_i h3
      rw [h3] at h0
      simp only at h0
      split
      ·rfl
      ·rename_i h4;rw [if_neg h4] at h0;exact absurd rfl h0
  rw [h2]
  exact ⟨by simp, by simp⟩
structure BasOK (m : ModS) (n : Nat) (b : NowS) : Prop where
 clk : ValC b.clock
 len : b.clock.length = n
 st : b.state.length = strF m
 mg : SzM b.merged
 pls : SrtI b.places
 pll : b.places.length ≤ 10000
theorem withP_srt {l : List Int} {n : Int} (h : SrtI l) : SrtI (withP l n) := (withP_si (l := l) (s := l) (n := n) ⟨h, fun _ => Iff.rfl⟩).1
theorem withP_le {l : List Int} {n : Int} (h : SrtI l) : (withP l n).length ≤ l.length + 1 := by
 by_cases hn : n ∈ l
 ·rw [show withP l n = l from if_pos hn];omega
 ·rw [with_eq h hn];simp;have := idxN_le (fun y => decide (¬ y < n)) l;unfold posI;omega
theorem plE_srt {l : List Int} {e : EvS} (h : SrtI l) : SrtI (plE l e) ∧ (plE l e).length ≤ l.length + 1 := by
 unfold plE
 split
 ·exact ⟨withP_srt h, withP_le h⟩
 ·exact ⟨h, by omega⟩
theorem inL_succ {c : List Int} {l : List EvS} {i : Nat} {e : EvS} (h : l[i]? = some e) : inL c (l.take (i + 1)) = inL c (l.take i) ++ if HasC c e.rep e.num then [e] else [] := by
 rw [inL, filter_succ h]
 by_cases hh : HasC c e.rep e.num <;> simp [hh, inL]
theorem outL_succ {c : List Int} {l : List EvS} {i : Nat} {e : EvS} (h : l[i]? = some e) : outL c (l.take (i + 1)) = outL c (l.take i) ++ if HasC c e.rep e.num then [] else [e] := by
 rw [outL, filter_succ h]
 by_cases hh : HasC c e.rep e.num <;> simp [hh, outL]
structure MidOK (m : ModS) (b x : NowS) (i : Nat) : Prop where
 ck : x.clock = b.clock
 st : x.state.length = strF m
 mg : SzM x.merged
 pls : SrtI x.places
 pll : x.places.length ≤ b.places.length + i
theorem mid_step {m : ModS} {b x : NowS} {i : Nat} {e : EvS} (h : MidOK m b x i) : MidOK m b (cmp1 m x e) (i + 1) :=
 ⟨h.ck, by simp only [cmp1, addE_len];exact h.st, mrg1_sz h.mg, (plE_srt h.pls).1, by have := (plE_srt (e := e) h.pls).2;have := h.pll;simp only [cmp1];omega⟩
theorem fits35_p (s : Nat) (m : ModS) (b : NowS) (v : Value) (w : NowS) (c : List Int) :
  CallA Tryz.prog 125 [pm s, ints c] [stoR s m b v w] fun r own => r = bl (decide (ValC c ∧ c.length = w.clock.length)) ∧ own = [stoR s m b v w] := by
 have h := validC_p c
 by_cases h1 : ValC c
 ·rw [decide_eq_true h1] at h
  refine CallA.of pg ord125 Tryz.func125 rfl Tryz.ntmps125 Tryz.results125 rfl fun h0 G0 O0 => ?_
  repeat' (first|refine Sp.h ?_|refine Lk.r rfl ?_|refine Rf.mk rfl ?_|(refine Im.mk ?_;intro _)|(apply TkB.r;(focus repeat constructor))|(apply Nm.r;focus repeat constructor)|(apply Cl.p (h);(focus repeat' (first|exact Lend.nil|apply Lend.keep|fail))))
  refine ⟨_, _, .one (.same (.nil (by (repeat first|exact .nil|refine .cons (by repeat constructor) ?_)))), vb (decide_eq_decide.2 ⟨fun h => ⟨h1, by omega⟩, fun h => by omega⟩), rfl⟩
 ·rw [decide_eq_false h1] at h
  rw [decide_eq_false (fun h9 => h1 h9.1)]
  refine CallA.of pg ord125 Tryz.func125 rfl Tryz.ntmps125 Tryz.results125 rfl fun h0 G0 O0 => ?_
  repeat' (first|refine Sp.h ?_|refine Lk.r rfl ?_|refine Rf.mk rfl ?_|(apply Nm.r;focus repeat constructor)|(apply Cl.p (h);(focus repeat' (first|exact Lend.nil|apply Lend.keep|fail))))
  exact ⟨_, _, .one (.same (.nil (by (repeat first|exact .nil|refine .cons (by repeat constructor) ?_)))), rfl, rfl⟩
abbrev midC (x : NowS) (u : Value) : List AV := [ints x.clock, it x.time, .ow u, mgs x.merged, nl0, nl0, ints x.places]
set_option maxHeartbeats 16000000 in
theorem compact_a (s : Nat) (m : ModS) (b : NowS) (v : Value) (evl : List EvS) (w : NowS) (c : List Int) (hm : MOK m) (hw : NowOK m w) (hb : BasOK m w.clock.length b) (hl : evl.length ≤ 1000) (hev : ∀ e ∈ evl, EvV m (w.clock.length : Nat) e) :
  CallA Tryz.prog 66 [pm s, ints c] [stoR s m b v w, arrR v 37 13 evl evC] fun r own => r = it (compactF m ⟨b, evl, w⟩ c).1 ∧ ∃ v', own = [stoR s m (compactF m ⟨b, evl, w⟩ c).2.base v' (compactF m ⟨b, evl, w⟩ c).2.now, arrR v' 37 13 (compactF m ⟨b, evl, w⟩ c).2.evs evC] := by
 have hfi := fits35_p s m b v w c
 have hstr := hm.str
 by_cases h1 : ValC c ∧ c.length = w.clock.length
 rotate_left
 ·have hF : compactF m ⟨b, evl, w⟩ c = (1, ⟨b, evl, w⟩) := @if_pos _ (Classical.propDecidable _) h1 _ _ _
  rw [hF]
  rw [decide_eq_false h1] at hfi
  refine CallA.of pg ord66 Tryz.func66 rfl Tryz.ntmps66 Tryz.results66 rfl fun h0 G0 O0 => ?_
  repeat' (first|refine Sp.h ?_|refine Lk.r rfl ?_|refine Rf.mk rfl ?_|fail)
  (apply Cl.use (hfi);(focus repeat' (first|exact Lend.nil|apply Lend.keep|fail));(focus (repeat (first|exact Takes.nil|(apply Takes.cons;(focus repeat constructor)))));(focus rfl))
  rintro _ _ ⟨rfl, rfl⟩
  repeat' (first|refine Sp.h ?_|refine Lk.r rfl ?_|refine Rf.mk rfl ?_|(apply Bd.f;(focus first|assumption|omega|exact Bool.false_ne_true))|(apply Nm.r;focus repeat constructor)|fail)
  exact ⟨_, _, .one (.same (.nil (by (repeat first|exact .nil|refine .cons (by repeat constructor) ?_)))), rfl, v, rfl⟩
 rw [decide_eq_true h1] at hfi
 have hF9 : ¬ (Ins b.clock c ∧ Ins c w.clock ∧ ∀ e ∈ evl, HasC c e.rep e.num → Ins e.past c) → compactF m ⟨b, evl, w⟩ c = (9, ⟨b, evl, w⟩) := fun h =>
  (@if_neg _ (Classical.propDecidable _) (fun h9 => h9 h1) _ _ _).trans (@if_pos _ (Classical.propDecidable _) h _ _ _)
 have hm1 := missing_o c b.clock
 have hm2 := missing_o w.clock c
 have hbl := hb.len
 have hal1 : AlikeC [c, b.clock] := (alike2 _ _).2 ⟨h1.1, hb.clk, by omega⟩
 have hal2 : AlikeC [w.clock, c] := (alike2 _ _).2 ⟨hw.clk, h1.1, by omega⟩
 by_cases h2 : Ins b.clock c
 rotate_left
 ·rw [hF9 (fun h => h2 h.1)]
  refine CallA.of pg ord66 Tryz.func66 rfl Tryz.ntmps66 Tryz.results66 rfl fun h0 G0 O0 => ?_
  repeat' (first|refine Sp.h ?_|refine Lk.r rfl ?_|refine Rf.mk rfl ?_|fail)
  (apply Cl.use (hfi);(focus repeat' (first|exact Lend.nil|apply Lend.keep|fail));(focus (repeat (first|exact Takes.nil|(apply Takes.cons;(focus repeat constructor)))));(focus rfl))
  rintro _ _ ⟨rfl, rfl⟩
  repeat' (first|refine Sp.h ?_|refine Lk.r rfl ?_|refine Rf.mk rfl ?_|(apply Bd.t;(focus first|assumption|omega|rfl))|(apply TkB.r;(focus repeat constructor))|fail)
  (apply Cl.use (hm1);(focus repeat' (first|exact Lend.nil|apply Lend.keep|fail));(focus (repeat (first|exact Takes.nil|(apply Takes.cons;(focus repeat constructor)))));(focus rfl))
  rintro _ _ ⟨u, l, rfl, rfl, k1, k2⟩
  have k0 : 0 < l.length := List.length_pos_iff.2 fun h => h2 (k1.1 h hal1)
  repeat' (first|refine Sp.h ?_|refine Lk.r rfl ?_|refine Rf.mk rfl ?_|(apply Bd.t;(focus first|assumption|omega|rfl))|(apply TkA.r;(focus repeat constructor))|(apply Nm.r;focus repeat constructor)|fail)
  exact ⟨_, _, .one (.same (.nil (by (repeat first|exact .nil|refine .cons (by repeat constructor) ?_)))), rfl, v, rfl⟩
 by_cases h3 : Ins c w.clock
 rotate_left
 ·rw [hF9 (fun h => h3 h.2.1)]
  refine CallA.of pg ord66 Tryz.func66 rfl Tryz.ntmps66 Tryz.results66 rfl fun h0 G0 O0 => ?_
  repeat' (first|refine Sp.h ?_|refine Lk.r rfl ?_|refine Rf.mk rfl ?_|fail)
  (apply Cl.use (hfi);(focus repeat' (first|exact Lend.nil|apply Lend.keep|fail));(focus (repeat (first|exact Takes.nil|(apply Takes.cons;(focus repeat constructor)))));(focus rfl))
  rintro _ _ ⟨rfl, rfl⟩
  repeat' (first|refine Sp.h ?_|refine Lk.r rfl ?_|refine Rf.mk rfl ?_|(apply Bd.t;(focus first|assumption|omega|rfl))|(apply TkB.r;(focus repeat constructor))|fail)
  (apply Cl.use (hm1);(focus repeat' (first|exact Lend.nil|apply Lend.keep|fail));(focus (repeat (first|exact Takes.nil|(apply Takes.cons;(focus repeat constructor)))));(focus rfl))
  rintro _ _ ⟨u, l, rfl, rfl, k1, k2⟩
  have k0 : l.length = 0 := by rw [k1.2 fun _ => h2];rfl
  repeat' (first|refine Sp.h ?_|refine Lk.r rfl ?_|refine Rf.mk rfl ?_|(apply Bd.f;(focus first|assumption|omega|exact Bool.false_ne_true))|(apply TkA.r;(focus repeat constructor))|(apply TkB.r;(focus repeat constructor))|fail)
  (apply Cl.use (hm2);(focus repeat' (first|exact Lend.nil|apply Lend.keep|fail));(focus (repeat (first|exact Takes.nil|(apply Takes.cons;(focus repeat constructor)))));(focus rfl))
  rintro _ _ ⟨u2, l2, rfl, rfl, j1, j2⟩
  have j0 : 0 < l2.length := List.length_pos_iff.2 fun h => h3 (j1.1 h hal2)
  repeat' (first|refine Sp.h ?_|refine Lk.r rfl ?_|refine Rf.mk rfl ?_|(apply Bd.t;(focus first|assumption|omega|rfl))|(apply Bd.f;(focus first|assumption|omega|exact Bool.false_ne_true))|(apply TkA.r;(focus repeat constructor))|(apply Nm.r;focus repeat constructor)|fail)
  exact ⟨_, _, .one (.same (.nil (by (repeat first|exact .nil|refine .cons (by repeat constructor) ?_)))), rfl, v, rfl⟩
 have hcb := cloneBase_a b nl0 nl0 ⟨by have := hb.clk.2.2;omega, by have := hb.st;omega, hb.mg.1, hb.mg.2, by have := hb.pll;omega⟩
 have hcc := clone_o c (by have := h1.1.2.2;omega)
 refine CallA.of pg ord66 Tryz.func66 rfl Tryz.ntmps66 Tryz.results66 rfl fun h0 G0 O0 => ?_
 repeat' (first|refine Sp.h ?_|refine Lk.r rfl ?_|refine Rf.mk rfl ?_|fail)
 (apply Cl.use (hfi);(focus repeat' (first|exact Lend.nil|apply Lend.keep|fail));(focus (repeat (first|exact Takes.nil|(apply Takes.cons;(focus repeat constructor)))));(focus rfl))
 rintro _ _ ⟨rfl, rfl⟩
 repeat' (first|refine Sp.h ?_|refine Lk.r rfl ?_|refine Rf.mk rfl ?_|(apply Bd.t;(focus first|assumption|omega|rfl))|(apply TkB.r;(focus repeat constructor))|fail)
 (apply Cl.use (hm1);(focus repeat' (first|exact Lend.nil|apply Lend.keep|fail));(focus (repeat (first|exact Takes.nil|(apply Takes.cons;(focus repeat constructor)))));(focus rfl))
 rintro _ _ ⟨u1, l1, rfl, rfl, k1, k2⟩
 have k0 : l1.length = 0 := by rw [k1.2 fun _ => h2];rfl
 repeat' (first|refine Sp.h ?_|refine Lk.r rfl ?_|refine Rf.mk rfl ?_|(apply Bd.f;(focus first|assumption|omega|exact Bool.false_ne_true))|(apply TkA.r;(focus repeat constructor))|(apply TkB.r;(focus repeat constructor))|fail)
 (apply Cl.use (hm2);(focus repeat' (first|exact Lend.nil|apply Lend.keep|fail));(focus (repeat (first|exact Takes.nil|(apply Takes.cons;(focus repeat constructor)))));(focus rfl))
 rintro _ _ ⟨u2, l2, rfl, rfl, j1, j2⟩
 have j0 : l2.length = 0 := by rw [j1.2 fun _ => h3];rfl
 repeat' (first|refine Sp.h ?_|refine Lk.r rfl ?_|refine Rf.mk rfl ?_|(apply Bd.f;(focus first|assumption|omega|exact Bool.false_ne_true))|(apply TkA.r;(focus repeat constructor))|(apply TkB.r;(focus repeat constructor))|refine Ch.r ?_|fail)
 (apply Cl.use (hcb);(focus repeat' (first|exact Lend.nil|apply Lend.keep|fail));(focus (repeat (first|exact Takes.nil|(apply Takes.cons;(focus repeat constructor)))));(focus rfl))
 rintro _ _ ⟨v1, v2, v3, L, v4, rfl, hL, rfl⟩
 (repeat' (first|(show CA _ _ (Code.region 6 _ _) _ _;apply Stopped.out)|refine Sp.h ?_|refine Lk.r rfl ?_|refine Rf.mk rfl ?_|(refine All.mk ?_;intro _)|(apply TkB.r;(focus repeat constructor))|(apply SetAsk.r;(focus (repeat (first|exact SetAs.z|(apply SetAs.c;(focus (repeat first|assumption|constructor)))))))|(apply Nm.r;focus repeat constructor)|fail));any_goals apply Stopped.mk
 rename_i b5
 have hLl : L.length ≤ 1000000 := by have h8 := congrArg List.length hL;rw [List.length_map] at h8;have := hb.mg.1;omega
 have hLk : ∀ x ∈ L, x.marks.length ≤ 1000000 := fun x hx => hb.mg.2 x.g (by rw [← hL];exact List.mem_map_of_mem hx)
 have hbc := hb.clk.2.2
 have hbp := hb.pll
 have hbs := hb.st
 apply CA.own
 focus (apply OX.blk (b := b5);(focus repeat constructor);(focus (apply FX.s1;(focus repeat constructor);(focus omega);apply FX.k;apply FX.k;apply out_fx2;(focus repeat constructor);(focus repeat constructor);(focus exact hLl);(focus exact hLk);apply FX.k;apply FX.k;apply FX.s1;(focus repeat constructor);(focus omega);exact FX.nil));(focus repeat constructor))
 rw [hL]
 repeat' (first|refine Sp.h ?_|refine Lk.r rfl ?_|refine Rf.mk rfl ?_|(apply TkA.r;(focus repeat constructor))|(apply TkB.r;(focus repeat constructor))|fail)
 refine CA.nilOwn 6 37 13 evC rfl fun vr => ?_
 refine CA.loop (fun x : Nat × Value × NowS => ⟨[(0, pm s), (1, ints c), (5, pm b5), (6, .ow x.2.1), (46, .ow v), (47, it (evl.length : Nat)), (48, it x.1)], [stoR s m b v w, arrR v 37 13 evl evC, blkR b5 75 (midC x.2.2 v2), arrR v2 3 1 x.2.2.state intC, arrR x.2.1 37 13 (outL c (evl.take x.1)) evC]⟩)
  (fun x => x.1 ≤ evl.length ∧ (∀ e ∈ evl.take x.1, HasC c e.rep e.num → Ins e.past c) ∧ MidOK m b x.2.2 x.1 ∧ x.2.2 = (inL c (evl.take x.1)).foldl (cmp1 m) b) (fun x => evl.length - x.1) (0, vr, b) ⟨by repeat first|trivial|refine ⟨rfl,?_⟩,by repeat first|exact .nil|refine .cons (by repeat constructor) ?_⟩ ⟨Nat.zero_le _, by simp, ⟨rfl, hb.st, hb.mg, hb.pls, by simp⟩, rfl⟩ ?_
 rintro ⟨i, vr, y⟩ ⟨hi, hin0, hmid, hy⟩
 simp only at hi hin0 hmid hy
 simp only
 have hyp := hmid.pll
 have hys := hmid.st
 by_cases hil : i < evl.length
 ·obtain ⟨e, he⟩ := get_of hil
  have heV := hev e (List.mem_of_getElem? he)
  have hn := name35_p e
  have hh := hasC_p c e.rep e.num
  have hsi := inL_succ (c := c) he
  have hso := outL_succ (c := c) he
  have hol : (outL c (evl.take i)).length ≤ i := by
   have := List.length_filter_le (fun e : EvS => decide (¬ HasC c e.rep e.num)) (evl.take i)
   rw [List.length_take] at this
   unfold outL;omega
  by_cases hhc : HasC c e.rep e.num
  rotate_left
  ·rw [decide_eq_false hhc] at hh
   rw [if_neg hhc] at hsi hso
   rw [List.append_nil] at hsi
   repeat' (first|refine Sp.h ?_|refine Lk.r rfl ?_|refine Rf.mk rfl ?_|(apply Bd.t;(focus first|assumption|omega|rfl))|(apply Bd.f;(focus first|assumption|omega|exact Bool.false_ne_true))|(apply Om.mk;(focus first|omega|(simp <;> omega)))|(refine All.mk ?_;intro _)|(apply TkA.r;(focus repeat constructor))|(apply TkB.r;(focus repeat constructor))|(apply Ix.q;(focus exact rfl);(focus assumption))|(apply At.r;(focus assumption))|refine Ce.r ?_|refine Ch.l ⟨rfl, rfl⟩ ?_|(apply SetAsk.r;(focus (repeat (first|exact SetAs.z|(apply SetAs.c;(focus (repeat first|assumption|constructor)))))))|(apply Fk.r;(focus (repeat (first|exact FillA.nil|(apply FillA.agg;(focus rfl);(focus rfl);(focus (repeat (first|exact SetAs.z|(apply SetAs.c;(focus (repeat first|assumption|constructor)))))))|(apply FillA.one;(focus rfl);(focus infer_instance);(focus (repeat first|assumption|constructor)))))))|(apply Nm.r;focus repeat constructor)|refine Rf.mk ⟨rfl, rfl⟩ ?_|refine Rf.mk ⟨rfl, rfl, rfl⟩ ?_|(apply Mp.lit;(focus repeat (first|exact MpL.nil|(apply MpL.cons;(focus rfl))|(apply MpL.inv;(focus repeat constructor);(focus infer_instance)))))|(apply Ov.n;(focus first|omega|(simp <;> omega)))|(apply Cl.p (hn);(focus ((repeat' (first|exact Lend.nil|apply Lend.keep|fail));done)))|(apply Cl.p (hh);(focus ((repeat' (first|exact Lend.nil|apply Lend.keep|fail));done))))
   rw [← hso]
   exact PA.lp (i + 1, _, y) ⟨by repeat first|trivial|refine ⟨rfl,?_⟩,by repeat first|exact .nil|refine .cons (by repeat constructor) ?_⟩ ⟨⟨hil, all_succ he hin0 (fun h => absurd h hhc), ⟨hmid.ck, hmid.st, hmid.mg, hmid.pls, by simp only;omega⟩, by simp only;rw [hsi];exact hy⟩, by simp only;omega⟩
  rw [decide_eq_true hhc] at hh
  rw [if_pos hhc] at hsi hso
  rw [List.append_nil] at hso
  have hm3 := missing_o c e.past
  have hal3 : AlikeC [c, e.past] := (alike2 _ _).2 ⟨h1.1, heV.1.1, by have := heV.2.1;omega⟩
  by_cases hie : Ins e.past c
  rotate_left
  ·rw [hF9 (fun h => hie (h.2.2 e (List.mem_of_getElem? he) hhc))]
   repeat' (first|refine Sp.h ?_|refine Lk.r rfl ?_|refine Rf.mk rfl ?_|(apply Bd.t;(focus first|assumption|omega|rfl))|(refine All.mk ?_;intro _)|(apply TkA.r;(focus repeat constructor))|(apply TkB.r;(focus repeat constructor))|(apply Ix.q;(focus exact rfl);(focus assumption))|(apply At.r;(focus assumption))|refine Ch.l ⟨rfl, rfl⟩ ?_|(apply SetAsk.r;(focus (repeat (first|exact SetAs.z|(apply SetAs.c;(focus (repeat first|assumption|constructor)))))))|(apply Nm.r;focus repeat constructor)|(apply Cl.p (hn);(focus ((repeat' (first|exact Lend.nil|apply Lend.keep|fail));done)))|(apply Cl.p (hh);(focus ((repeat' (first|exact Lend.nil|apply Lend.keep|fail));done))))
   (apply Cl.use (hm3);(focus repeat' (first|exact Lend.nil|apply Lend.keep|fail));(focus (repeat (first|exact Takes.nil|(apply Takes.cons;(focus repeat constructor)))));(focus rfl))
   rintro _ _ ⟨u3, l3, rfl, rfl, q1, q2⟩
   have q0 : 0 < l3.length := List.length_pos_iff.2 fun h => hie (q1.1 h hal3)
   repeat' (first|refine Sp.h ?_|refine Lk.r rfl ?_|refine Rf.mk rfl ?_|(apply Bd.t;(focus first|assumption|omega|rfl))|(apply TkA.r;(focus repeat constructor))|(apply Nm.r;focus repeat constructor)|fail)
   exact ⟨_, _, .one (.same (.nil (by (repeat first|exact .nil|refine .cons (by repeat constructor) ?_)))), rfl, v, rfl⟩
  have hap := applyT_p m y.merged e hm
  have hwi := with_p y.places e.place hmid.pls (by omega)
  have hst := mid_step (e := e) hmid
  have hfd : cmp1 m y e = (inL c (evl.take (i + 1))).foldl (cmp1 m) b := by rw [hsi, List.foldl_append, ← hy];rfl
  have hnx : ∀ d ∈ evl.take (i + 1), HasC c d.rep d.num → Ins d.past c := all_succ he hin0 (fun _ => hie)
  repeat' (first|refine Sp.h ?_|refine Lk.r rfl ?_|refine Rf.mk rfl ?_|(apply Bd.t;(focus first|assumption|omega|rfl))|(refine All.mk ?_;intro _)|(apply TkA.r;(focus repeat constructor))|(apply TkB.r;(focus repeat constructor))|(apply Ix.q;(focus exact rfl);(focus assumption))|(apply At.r;(focus assumption))|refine Ch.l ⟨rfl, rfl⟩ ?_|(apply SetAsk.r;(focus (repeat (first|exact SetAs.z|(apply SetAs.c;(focus (repeat first|assumption|constructor)))))))|(apply Nm.r;focus repeat constructor)|(apply Cl.p (hn);(focus ((repeat' (first|exact Lend.nil|apply Lend.keep|fail));done)))|(apply Cl.p (hh);(focus ((repeat' (first|exact Lend.nil|apply Lend.keep|fail));done))))
  (apply Cl.use (hm3);(focus repeat' (first|exact Lend.nil|apply Lend.keep|fail));(focus (repeat (first|exact Takes.nil|(apply Takes.cons;(focus repeat constructor)))));(focus rfl))
  rintro _ _ ⟨u3, l3, rfl, rfl, q1, q2⟩
  have q0 : l3.length = 0 := by rw [q1.2 fun _ => hie];rfl
  by_cases hk : e.kind = 0
  rotate_left
  ·have hadd : addE m y.state e = y.state := if_neg hk
   by_cases hpl : 0 < e.place
   ·repeat' (first|refine Sp.h ?_|refine Lk.r rfl ?_|refine Rf.mk rfl ?_|(apply Bd.t;(focus first|assumption|omega|rfl))|(apply Bd.f;(focus first|assumption|omega|exact Bool.false_ne_true))|refine OpK.r rfl ?_|(apply TkA.r;(focus repeat constructor))|(apply TkB.r;(focus repeat constructor))|refine Ch.l ⟨rfl, rfl⟩ ?_|refine Ch.r ?_|(apply SetAk.r;(focus (repeat first|assumption|constructor)))|(apply CA.draw;(focus rfl);(focus kernel_rfl);(focus kernel_rfl);(focus repeat' constructor);(focus rfl))|(apply Ov.n;(focus first|omega|(simp <;> omega)))|(apply Cl.p (hap);(focus ((repeat' (first|exact Lend.nil|apply Lend.keep|fail));done)))|(apply Cl.p (hwi);(focus ((repeat' (first|exact Lend.nil|apply Lend.keep|fail));done))))
    have hz : (⟨y.clock, max y.time e.time, y.state, (applyF m y.merged e).2, withP y.places e.place⟩ : NowS) = cmp1 m y e := by rw [cmp1, hadd, plE, if_pos hpl];rfl
    all_goals rw [← hso]
    all_goals exact PA.lp (i + 1, vr, ⟨y.clock, max y.time e.time, y.state, (applyF m y.merged e).2, withP y.places e.place⟩) ⟨by repeat first|trivial|refine ⟨rfl,?_⟩,by repeat first|exact .nil|refine .cons (by repeat constructor) ?_⟩ ⟨⟨hil, hnx, by simp only;rw [hz];exact hst, by simp only;rw [hz];exact hfd⟩, by simp only;omega⟩
   ·repeat' (first|refine Sp.h ?_|refine Lk.r rfl ?_|refine Rf.mk rfl ?_|(apply Bd.f;(focus first|assumption|omega|exact Bool.false_ne_true))|refine OpK.r rfl ?_|(apply TkA.r;(focus repeat constructor))|(apply TkB.r;(focus repeat constructor))|refine Ch.l ⟨rfl, rfl⟩ ?_|refine Ch.r ?_|(apply SetAk.r;(focus (repeat first|assumption|constructor)))|(apply CA.draw;(focus rfl);(focus kernel_rfl);(focus kernel_rfl);(focus repeat' constructor);(focus rfl))|(apply Ov.n;(focus first|omega|(simp <;> omega)))|(apply Cl.p (hap);(focus ((repeat' (first|exact Lend.nil|apply Lend.keep|fail));done)))|(apply Cl.p (hwi);(focus ((repeat' (first|exact Lend.nil|apply Lend.keep|fail));done))))
    have hz : (⟨y.clock, max y.time e.time, y.state, (applyF m y.merged e).2, y.places⟩ : NowS) = cmp1 m y e := by rw [cmp1, hadd, plE, if_neg hpl];rfl
    all_goals rw [← hso]
    all_goals exact PA.lp (i + 1, vr, ⟨y.clock, max y.time e.time, y.state, (applyF m y.merged e).2, y.places⟩) ⟨by repeat first|trivial|refine ⟨rfl,?_⟩,by repeat first|exact .nil|refine .cons (by repeat constructor) ?_⟩ ⟨⟨hil, hnx, by simp only;rw [hz];exact hst, by simp only;rw [hz];exact hfd⟩, by simp only;omega⟩
  have hact := act_rng heV.1 hk
  have hact2 := heV.2.2 hk
  obtain ⟨a, ha⟩ := get_of (l := m.acts) (i := e.action.toNat) (by omega)
  have hd := dltF_at ha
  have heo := hm.eff a (List.mem_of_getElem? ha)
  have hadd : addE m y.state e = addD y.state a.eff.delta := by rw [addE, if_pos hk, hd]
  repeat' (first|refine Sp.h ?_|refine Lk.r rfl ?_|refine Rf.mk rfl ?_|(apply Bd.t;(focus first|assumption|omega|rfl))|(apply Bd.f;(focus first|assumption|omega|exact Bool.false_ne_true))|refine OpK.r rfl ?_|(refine Im.mk ?_;intro _)|(apply TkA.r;(focus repeat constructor))|(apply TkB.r;(focus repeat constructor))|(apply Ix.r;(focus assumption);(focus omega))|(apply SetAk.r;(focus (repeat first|assumption|constructor)))|(apply CA.draw;(focus rfl);(focus kernel_rfl);(focus kernel_rfl);(focus repeat' constructor);(focus rfl))|fail)
  refine CA.loop (fun k : Nat => ⟨[(0, pm s), (1, ints c), (5, pm b5), (6, .ow vr), (8, pm _), (46, .ow v), (47, it (evl.length : Nat)), (48, it i), (86, terms a.eff.delta), (87, it (a.eff.delta.length : Nat)), (88, it k)], [stoR s m b v w, arrR v 37 13 evl evC, blkR b5 75 (midC { y with time := max y.time e.time } v2), arrR v2 3 1 (addD y.state (a.eff.delta.take k)) intC, arrR vr 37 13 (outL c (evl.take i)) evC, blkR _ 37 (evC e)]⟩) (fun k => k ≤ a.eff.delta.length) (fun k => a.eff.delta.length - k) 0 ⟨by repeat first|trivial|refine ⟨rfl,?_⟩,by repeat first|exact .nil|refine .cons (by repeat constructor) ?_⟩ (Nat.zero_le _) ?_
  intro k hk2
  have hlen := addD_length (a.eff.delta.take k) y.state
  by_cases hkl : k < a.eff.delta.length
  ·obtain ⟨p, hp⟩ := get_of hkl
   obtain ⟨p1, p2⟩ := heo.d p (List.mem_of_getElem? hp)
   obtain ⟨z, hz⟩ := get_of (l := addD y.state (a.eff.delta.take k)) (i := p.1.toNat) (by omega)
   have hsd := addD_succ (s := y.state) hp
   rw [show add1 (addD y.state (a.eff.delta.take k)) p = (addD y.state (a.eff.delta.take k)).set p.1.toNat (IntKind.i64.wrap (z + p.2)) by rw [add1, hz];rfl] at hsd
   repeat' (first|refine Sp.h ?_|refine Lk.r rfl ?_|refine Rf.mk rfl ?_|(apply Bd.t;(focus first|assumption|omega|rfl))|refine OpK.r rfl ?_|(refine All.mk ?_;intro _)|(apply TkA.r;(focus repeat constructor))|(apply TkB.r;(focus repeat constructor))|(apply Ix.q;(focus exact rfl);(focus assumption))|(apply Ix.r;(focus assumption);(focus omega))|(apply At.r;(focus assumption))|refine Ch.l ⟨rfl, rfl⟩ ?_|(apply SetAsk.r;(focus (repeat (first|exact SetAs.z|(apply SetAs.c;(focus (repeat first|assumption|constructor)))))))|(apply Nm.r;focus repeat constructor)|(apply CA.draw;(focus rfl);(focus kernel_rfl);(focus kernel_rfl);(focus repeat' constructor);(focus rfl))|fail)
   refine ⟨?_⟩
   repeat' (first|refine Sp.h ?_|refine Lk.r rfl ?_|refine Rf.mk rfl ?_|refine OpK.r rfl ?_|(apply TkA.r;(focus repeat constructor))|(apply Ix.r;(focus assumption);(focus omega))|(apply At.r;(focus assumption))|(apply SetAk.r;(focus (repeat first|assumption|constructor)))|refine Up.r rfl ?_|(apply Ov.n;(focus first|omega|(simp <;> omega)))|fail)
   rw [← hsd]
   exact PA.lp (k + 1) ⟨by repeat first|trivial|refine ⟨rfl,?_⟩,by repeat first|exact .nil|refine .cons (by repeat constructor) ?_⟩ ⟨hkl, by omega⟩
  ·have hke : k = a.eff.delta.length := by omega
   subst hke
   rw [List.take_length]
   by_cases hpl : 0 < e.place
   ·repeat' (first|refine Sp.h ?_|refine Lk.r rfl ?_|refine Rf.mk rfl ?_|(apply Bd.t;(focus first|assumption|omega|rfl))|(apply Bd.f;(focus first|assumption|omega|exact Bool.false_ne_true))|refine OpK.r rfl ?_|(apply TkB.r;(focus repeat constructor))|refine Ch.l ⟨rfl, rfl⟩ ?_|refine Ch.r ?_|(apply SetAk.r;(focus (repeat first|assumption|constructor)))|(apply CA.draw;(focus rfl);(focus kernel_rfl);(focus kernel_rfl);(focus repeat' constructor);(focus rfl))|(apply Ov.n;(focus first|omega|(simp <;> omega)))|(apply Cl.p (hap);(focus ((repeat' (first|exact Lend.nil|apply Lend.keep|fail));done)))|(apply Cl.p (hwi);(focus ((repeat' (first|exact Lend.nil|apply Lend.keep|fail));done))))
    have hz : (⟨y.clock, max y.time e.time, addD y.state a.eff.delta, (applyF m y.merged e).2, withP y.places e.place⟩ : NowS) = cmp1 m y e := by rw [cmp1, hadd, plE, if_pos hpl];rfl
    all_goals rw [← hso]
    all_goals exact PA.lp (i + 1, vr, ⟨y.clock, max y.time e.time, addD y.state a.eff.delta, (applyF m y.merged e).2, withP y.places e.place⟩) ⟨by repeat first|trivial|refine ⟨rfl,?_⟩,by repeat first|exact .nil|refine .cons (by repeat constructor) ?_⟩ ⟨⟨hil, hnx, by simp only;rw [hz];exact hst, by simp only;rw [hz];exact hfd⟩, by simp only;omega⟩
   ·repeat' (first|refine Sp.h ?_|refine Lk.r rfl ?_|refine Rf.mk rfl ?_|(apply Bd.f;(focus first|assumption|omega|exact Bool.false_ne_true))|refine OpK.r rfl ?_|(apply TkB.r;(focus repeat constructor))|refine Ch.l ⟨rfl, rfl⟩ ?_|refine Ch.r ?_|(apply SetAk.r;(focus (repeat first|assumption|constructor)))|(apply CA.draw;(focus rfl);(focus kernel_rfl);(focus kernel_rfl);(focus repeat' constructor);(focus rfl))|(apply Ov.n;(focus first|omega|(simp <;> omega)))|(apply Cl.p (hap);(focus ((repeat' (first|exact Lend.nil|apply Lend.keep|fail));done)))|(apply Cl.p (hwi);(focus ((repeat' (first|exact Lend.nil|apply Lend.keep|fail));done))))
    have hz : (⟨y.clock, max y.time e.time, addD y.state a.eff.delta, (applyF m y.merged e).2, y.places⟩ : NowS) = cmp1 m y e := by rw [cmp1, hadd, plE, if_neg hpl];rfl
    all_goals rw [← hso]
    all_goals exact PA.lp (i + 1, vr, ⟨y.clock, max y.time e.time, addD y.state a.eff.delta, (applyF m y.merged e).2, y.places⟩) ⟨by repeat first|trivial|refine ⟨rfl,?_⟩,by repeat first|exact .nil|refine .cons (by repeat constructor) ?_⟩ ⟨⟨hil, hnx, by simp only;rw [hz];exact hst, by simp only;rw [hz];exact hfd⟩, by simp only;omega⟩
 ·have hie : i = evl.length := by omega
  subst hie
  rw [List.take_length] at hin0 hy ⊢
  have hcl := h1.1.2.2
  have hout : (outL c evl).length ≤ 1000 := by
   have := List.length_filter_le (fun e : EvS => decide (¬ HasC c e.rep e.num)) evl
   unfold outL;omega
  have hF0 : compactF m ⟨b, evl, w⟩ c = (0, ⟨{ y with clock := c }, outL c evl, { w with merged := (outL c evl).foldl (mrg1 m) y.merged }⟩) := by
   refine (@if_neg _ (Classical.propDecidable _) (fun h9 => h9 h1) _ _ _).trans ((@if_neg _ (Classical.propDecidable _) (fun h9 => h9 ⟨h2, h3, hin0⟩) _ _ _).trans ?_)
   rw [cmpB, ← hy]
  rw [hF0]
  repeat' (first|refine Sp.h ?_|refine Lk.r rfl ?_|refine Rf.mk rfl ?_|(apply Bd.f;(focus first|assumption|omega|exact Bool.false_ne_true))|fail)
  (refine Cl.use (hcc) (by repeat' (first|exact Lend.nil|apply Lend.keep|fail)) .nil rfl ?_;rintro _ _ ⟨_, rfl, rfl⟩)
  (repeat' (first|(show CA _ _ (Code.region 26 _ _) _ _;apply Stopped.out)|refine Sp.h ?_|refine Lk.r rfl ?_|refine Rf.mk rfl ?_|(apply TkB.r;(focus repeat constructor))|(apply SetAk.r;(focus (repeat first|assumption|constructor)))|fail));any_goals apply Stopped.mk
  (apply CA.own;(focus (apply OX.blk (b := b5);(focus repeat constructor);(focus (repeat' (first|exact FX.nil|(apply FX.s1;(focus repeat constructor);(focus first|omega|(simp;done)|(simp;omega)))|apply FX.k)));(focus repeat constructor))))
  repeat' (first|refine Sp.h ?_|refine Lk.r rfl ?_|refine Rf.mk rfl ?_|(apply TkA.r;(focus repeat constructor))|(apply TkB.r;(focus repeat constructor))|fail)
  refine CA.loop (fun x : Nat × List MgS => ⟨[(0, pm s), (5, pm b5), (6, .ow vr), (11, mgs x.2), (130, .ow vr), (131, it ((outL c evl).length : Nat)), (132, it x.1)], [stoR s m b v w, arrR v 37 13 evl evC, blkR b5 75 (basC { y with clock := c }), arrR vr 37 13 (outL c evl) evC]⟩)
   (fun x => x.1 ≤ (outL c evl).length ∧ SzM x.2 ∧ x.2 = ((outL c evl).take x.1).foldl (mrg1 m) y.merged) (fun x => (outL c evl).length - x.1) (0, y.merged) ⟨by repeat first|trivial|refine ⟨rfl,?_⟩,by repeat first|exact .nil|refine .cons (by repeat constructor) ?_⟩ ⟨Nat.zero_le _, hmid.mg, rfl⟩ ?_
  rintro ⟨j, k⟩ ⟨hj, hkz, hk⟩
  simp only at hj hkz hk
  simp only
  by_cases hjl : j < (outL c evl).length
  ·obtain ⟨e, he⟩ := get_of hjl
   have hap := applyT_p m k e hm
   repeat' (first|refine Sp.h ?_|refine Lk.r rfl ?_|refine Rf.mk rfl ?_|(apply Bd.t;(focus first|assumption|omega|rfl))|refine OpK.r rfl ?_|(refine All.mk ?_;intro _)|(apply TkA.r;(focus repeat constructor))|(apply TkB.r;(focus repeat constructor))|(apply Ix.q;(focus exact rfl);(focus assumption))|(apply At.r;(focus assumption))|refine Ch.l ⟨rfl, rfl⟩ ?_|refine Ch.r ?_|(apply SetAsk.r;(focus (repeat (first|exact SetAs.z|(apply SetAs.c;(focus (repeat first|assumption|constructor)))))))|(apply Nm.r;focus repeat constructor)|(apply CA.draw;(focus rfl);(focus kernel_rfl);(focus kernel_rfl);(focus repeat' constructor);(focus rfl))|(apply Ov.n;(focus first|omega|(simp <;> omega)))|(apply Cl.p (hap);(focus repeat' (first|exact Lend.nil|apply Lend.keep|fail))))
   all_goals exact PA.lp (j + 1, mrg1 m k e) ⟨by repeat first|trivial|refine ⟨rfl,?_⟩,by repeat first|exact .nil|refine .cons (by repeat constructor) ?_⟩ ⟨⟨hjl, mrg1_sz hkz, by simp only;rw [List.take_add_one, he, Option.toList_some, List.foldl_append, ← hk];rfl⟩, by simp only;omega⟩
  ·have hje : j = (outL c evl).length := by omega
   subst hje
   rw [List.take_length] at hk
   have hcm := cloneM_p k (by have := hkz.1;omega) hkz.2
   rw [← hk]
   repeat' (first|refine Sp.h ?_|refine Lk.r rfl ?_|refine Rf.mk rfl ?_|(apply Bd.f;(focus first|assumption|omega|exact Bool.false_ne_true))|refine OpK.r rfl ?_|(apply TkB.r;(focus repeat constructor))|refine Ch.l ⟨rfl, rfl⟩ ?_|(apply SetAk.r;(focus (repeat first|assumption|constructor)))|(apply SetAsk.r;(focus (repeat (first|exact SetAs.z|(apply SetAs.c;(focus (repeat first|assumption|constructor)))))))|(apply Nm.r;focus repeat constructor)|(apply CA.draw;(focus rfl);(focus kernel_rfl);(focus kernel_rfl);(focus repeat' constructor);(focus rfl))|(apply Cl.p (hcm);(focus repeat' (first|exact Lend.nil|apply Lend.keep|fail))))
   all_goals exact ⟨_, _, .one (.same (.nil (by (repeat first|exact .nil|refine .cons (by repeat constructor) ?_)))), rfl, vr, rfl⟩
end Go.Proofs.YtmllihbhphnolaaGreat
namespace Go.CF
open Go
def fldE (tt : Nat → Option TI) (t i : Nat) : Option (Nat × Nat × TI) := match tt t with
 | some ti => match ti.kind with
  | .struct fs => match fs[i]? with
   | some (off, ft, _) => match tt ft with
    | some te => if te.kind.agg = false then some (off, ft, te) else none
    | none => none
   | none => none
  | _ => none
 | none => none
theorem fldE_spec {tt : Nat → Option TI} {t i : Nat} {p : Nat × Nat × TI} (h : fldE tt t i = some p) : ∃ ti fs sz, tt t = some ti ∧ ti.kind = .struct fs ∧ fs[i]? = some (p.1, p.2.1, sz) ∧ tt p.2.1 = some p.2.2 ∧ p.2.2.kind.agg = false := by
 unfold fldE at h
 split at h
 ·rename_i ti h1
  split at h
  ·rename_i fs h2
   split at h
   ·rename_i off ft sz h3
    split at h
    ·rename_i te h4
     split at h
     ·rename_i h5
      cases h
      exact ⟨ti, fs, sz, h1, h2, h3, h4, h5⟩
     ·cases h
    ·cases h
   ·cases h
  ·cases h
 ·cases h
section
variable {Γ : Cx} {k : List KI} {e : EA} {o : List Res} {N : NA} {c : Cls} {d : Tmp} {ty : TypeId} {x : Operand} {t : TypeId}
theorem St.field {P : Program} {tt : Nat → Option TI} {en : Nat → Bool} (G : PgOK P tt en) {γ : Type} [Membership Nat γ] {fp : γ} {n : Nat} {env : Env} {h : Heap} {N : Env → Heap → Prop} {i : Nat} {p : Nat × Nat × TI} {vs : List Value} {v : Value} (hp : fldE tt t i = some p)
  (hx : ev env x = some (.agg vs.toArray)) (hv : vs[p.1]? = some v) (k : N ((d, v) :: env) h) : St P n fp c (some d) (.field t x i) ty env h N :=
 .ofPu (v := v) (fun a w ha => by
  obtain ⟨ti, fs, sz, h1, h2, h3, h4, h5⟩ := fldE_spec hp
  obtain ⟨ff, hu, rfl⟩ := (G.ok _ _ h1).struct h2
  rw [List.getElem?_map] at h3
  obtain ⟨f, hf1, hf2⟩ := Option.map_eq_some_iff.1 h3
  simp only [Prod.mk.injEq] at hf2
  have hf3 : ff[i]? = some f := by simpa using hf1
  have hag := (G.ok _ _ h4).run_agg w h5
  rw [← hf2.2.1] at hag
  have hv2 : vs[f.offset]? = some v := by rw [hf2.1];exact hv
  simp [mkOp, execOp, ha.ev hx, Instr.field, run_underlying hu, hf3, part, hag, asAgg, hv2]) k
instance {i : Nat} : Sp (SA Γ c (some d) (.field t x i) ty e o N) (Lk (evA e x) fun a => Ap1 Γ c d (.field t x i) ty e o N x a) := ⟨fun ⟨_, ha, h⟩ => h.h ha⟩
instance {i : Nat} {cs : List AV} : Sp (Ap1 Γ c d (.field t x i) ty e o N x (.agg cs)) (Lk (fldE Γ.tt t i) fun p => Lk cs[p.1]? fun a => N ((d, a) :: e) o) := ⟨fun ⟨p, hp, a, ha, hn⟩ => pu1 fun env h G v h1 h2 => by
 obtain ⟨vs, rfl, hr⟩ := h2
 obtain ⟨w, h3, h4⟩ := hr.t.get ha
 exact ⟨a, w, h4, hn, fun _ k => St.field Γ.ok hp h1 h3 k⟩⟩
end
end Go.CF
namespace Go.Proofs.YtmllihbhphnolaaGreat
open Go Go.CF
set_option maxRecDepth 20000
/-! ### The model -/
def tC : TblS := ⟨⟨#[99]⟩, 1, [], 0, 9, 0⟩
def cntM : ModS := ⟨[], [tC], [⟨#[99]⟩], [⟨0, 0, ⟨[(0, -1)], 0⟩, 0, 0⟩, ⟨0, 0, ⟨[(0, 1)], 9⟩, 0, 0⟩], [⟨⟨#[111]⟩, false, []⟩, ⟨⟨#[112]⟩, false, []⟩], [⟨0, [], ⟨[(0, 2)], [], []⟩⟩, ⟨1, [], ⟨[(0, -1)], [], []⟩⟩], []⟩
theorem cnt_a : CallA Tryz.prog 78 [] [] fun r own => ∃ vt vf t1 t2 vc vo d1 d2 va, r = .agg [nl0, .ow vt, .ow vf, .ow vc, .ow vo, .ow va, nl0] ∧ own = [
  arrR va 151 5 [[it 0, nl0, .ow d1, nl0, nl0], [it 1, nl0, .ow d2, nl0, nl0]] id,
  arrR d2 160 2 [[it 0, it (-1)]] id,
  arrR d1 160 2 [[it 0, it 2]] id,
  arrR vo 227 3 [[sv ⟨#[111]⟩, bl false, nl0], [sv ⟨#[112]⟩, bl false, nl0]] id,
  arrR vc 225 6 [[it 0, it 0, .ow t1, it 0, it 0, it 0], [it 0, it 0, .ow t2, it 9, it 0, it 0]] id,
  arrR t2 220 2 [[it 0, it 1]] id,
  arrR t1 220 2 [[it 0, it (-1)]] id,
  arrR vf 9 1 [[sv ⟨#[99]⟩]] id,
  arrR vt 157 6 [[sv ⟨#[99]⟩, it 1, nl0, it 0, it 9, it 0]] id] := by
 refine CallA.of pg ord78 Tryz.func78 rfl Tryz.ntmps78 Tryz.results78 rfl fun h0 G0 O0 => ?_
 repeat' (first|refine Sp.h ?_|refine Lk.r rfl ?_|refine Rf.mk rfl ?_|(refine All.mk ?_;intro _)|(apply TkB.r;(focus repeat constructor))|(apply SetAsk.r;(focus (repeat (first|exact SetAs.z|(apply SetAs.c;(focus (repeat first|assumption|constructor)))))))|(apply Fk.r;(focus (repeat (first|exact FillA.nil|(apply FillA.agg;(focus rfl);(focus rfl);(focus (repeat (first|exact SetAs.z|(apply SetAs.c;(focus (repeat first|assumption|constructor)))))))|(apply FillA.one;(focus rfl);(focus infer_instance);(focus (repeat first|assumption|constructor)))))))|(apply Nm.r;focus repeat constructor)|refine Rf.mk ⟨rfl, rfl, rfl⟩ ?_|fail)
 exact ⟨_, _, .one (.same (.nil (by (repeat first|exact .nil|refine .cons (by repeat constructor) ?_)))), _, _, _, _, _, _, _, _, _, rfl, rfl⟩
theorem cnt_p : CallP Tryz.prog 78 [] (mdl cntM) := by
 refine CallA.fx cnt_a ?_
 rintro _ _ ⟨vt, vf, t1, t2, vc, vo, d1, d2, va, rfl, rfl⟩
 repeat' (first
  | exact FX.nil
  | (apply FX.sl;(focus repeat constructor);(focus exact Nat.le_of_ble_eq_true rfl))
  | apply FX.agg
  | (apply FX.le;(focus first|exact ALe.nil|exact ALe.refl _)))
theorem cnt_mrg : mrgF cntM = [] := by simp [mrgF, mrgL, cntM, isStrict, tC]
theorem cnt_str : strF cntM = 1 := by simp [strF, strN, cntM, isStrict, szF, prodF, tC]
theorem cnt_lay : LayOK cntM.sorts cntM.tables := by
 refine ⟨by simp [cntM], fun x hx => by simp [cntM] at hx, by simp [cntM], fun t ht => ?_⟩
 simp only [cntM, List.mem_cons, List.not_mem_nil, or_false] at ht
 subst ht
 simp [TabOK, ColOK, Sound, cntM, tC]
theorem cnt_ok : MOK cntM := by
 refine ⟨cnt_lay, by simp [cntM], by simp [cntM], fun a ha => ?_, by rw [cnt_str];decide, by rw [cnt_mrg];decide⟩
 simp only [cntM, List.mem_cons, List.not_mem_nil, or_false] at ha
 rcases ha with rfl|rfl
 all_goals
  refine ⟨by simp, by simp, by simp, fun p hp => ?_, fun p hp => by simp at hp⟩
  simp only [List.mem_cons, List.not_mem_nil, or_false] at hp
  subst hp
  rw [cnt_str];decide
/-! ### Two events -/
def ca : EvS := ⟨0, 1, 1, [0, 0], 0, 0, 0, 0, 0, 0, 0, 0, 1⟩
def cb : EvS := ⟨1, 1, 1, [0, 0], 0, 1, 0, 0, 0, 0, 0, 0, 1⟩
theorem val2 (a b : Int) (ha : 0 ≤ a ∧ a ≤ 1024) (hb : 0 ≤ b ∧ b ≤ 1024) : ValC [a, b] := ⟨fun x hx => by
 simp only [List.mem_cons, List.not_mem_nil, or_false] at hx
 unfold rngK
 omega, by simp, by simp⟩
theorem ca_f : FormedE ca := ⟨val2 0 0 (by decide) (by decide), by decide, ⟨0, rfl, rfl⟩, by decide, by unfold Btw ca;decide, .inl ⟨rfl, by unfold Sub0 Btw ca;decide, by unfold GiveZ ca;decide⟩⟩
theorem cb_f : FormedE cb := ⟨val2 0 0 (by decide) (by decide), by decide, ⟨0, rfl, rfl⟩, by decide, by unfold Btw cb;decide, .inl ⟨rfl, by unfold Sub0 Btw cb;decide, by unfold GiveZ cb;decide⟩⟩
theorem cab_suit : SuitS cntM [3] [ca, cb] := by
 have hc : ClosedE [ca, cb] := by
  refine ⟨by simp, fun i j a b hi hj hab => ?_, fun e he => ?_, fun e he r n hr i h1 h2 => ?_⟩
  ·match i, j with
   | 0, 0 => rfl
   | 1, 1 => rfl
   | 0, 1 => simp at hi hj;subst hi;subst hj;simp [nm, ca, cb] at hab
   | 1, 0 => simp at hi hj;subst hi;subst hj;simp [nm, ca, cb] at hab
   | i + 2, _ => simp at hi
   | 0, j + 2 => simp at hj
   | 1, j + 2 => simp at hj
  ·simp only [List.mem_cons, List.not_mem_nil, or_false] at he
   rcases he with rfl|rfl
   ·exact ⟨ca_f, rfl⟩
   ·exact ⟨cb_f, rfl⟩
  ·exfalso
   simp only [List.mem_cons, List.not_mem_nil, or_false] at he
   have hn : n = 0 := by
    rcases he with rfl|rfl
    all_goals
     have := List.mem_of_getElem? hr
     simp [ca, cb] at this
     exact this
   omega
 refine ⟨⟨cnt_ok, ⟨by simp, fun e he => ?_⟩, hc, fun a ha u hu i t _ ht => ?_, fun e he => ?_⟩, by simp, by rw [cnt_str];rfl, by simp, fun a ha p hp => ?_⟩
 ·simp only [List.mem_cons, List.not_mem_nil, or_false] at he
  rcases he with rfl|rfl <;> simp [ca, cb]
 ·rw [cnt_mrg] at ht;simp at ht
 ·simp only [List.mem_cons, List.not_mem_nil, or_false] at he
  rcases he with rfl|rfl
  ·exact ⟨ca_f, rfl, fun _ => by decide⟩
  ·exact ⟨cb_f, rfl, fun _ => by decide⟩
 ·simp only [cntM, List.mem_cons, List.not_mem_nil, or_false] at ha
  rcases ha with rfl|rfl <;> (simp at hp;subst hp;decide)
theorem cab_ext : ExtO [ca, cb] [ca, cb] := by
 have hno : ∀ e, e = ca ∨ e = cb → ∀ d : EvS, ¬ HasC e.past d.rep d.num := fun e he d ⟨_, _, h1, x, hx, h2⟩ => by
  have h3 : e.past = [0, 0] := by rcases he with rfl|rfl <;> rfl
  rw [h3] at hx
  have := List.mem_of_getElem? hx
  simp at this
  omega
 refine ⟨fun e he => he, fun i e he => ⟨?_, fun d hd hh => absurd hh (hno e (by have := List.mem_of_getElem? he;simpa using this) d)⟩⟩
 match i with
 | 0 => simp
 | 1 => simp at he;subst he;simp [ca, cb]
 | i + 2 => simp at he
theorem cab_1 : deliverF cntM [] (stN cntM 2 [3] []) ca = (0, stN cntM 2 [3] [ca]) := (fill_sto cab_suit (by simp) cab_ext 0 (by simp)).2 ca rfl
theorem cab_2 : deliverF cntM [ca] (stN cntM 2 [3] [ca]) cb = (0, stN cntM 2 [3] [ca, cb]) := (fill_sto cab_suit (by simp) cab_ext 1 (by simp)).2 cb rfl
theorem st_cab : (stN cntM 2 [3] [ca, cb]).clock = [1, 1] ∧ (stN cntM 2 [3] [ca, cb]).state = [4] := by
 exact ⟨rfl, rfl⟩
theorem has_2 (x y : Int) (hx : 0 ≤ x ∧ x ≤ 1024) (hy : 0 ≤ y ∧ y ≤ 1024) : (HasC [x, y] 0 1 ↔ 1 ≤ x) ∧ (HasC [x, y] 1 1 ↔ 1 ≤ y) :=
 ⟨⟨fun ⟨_, _, _, z, h1, h2⟩ => by simp at h1;omega, fun h => ⟨val2 x y hx hy, by decide, by decide, x, rfl, h⟩⟩, ⟨fun ⟨_, _, _, z, h1, h2⟩ => by simp at h1;omega, fun h => ⟨val2 x y hx hy, by decide, by decide, y, rfl, h⟩⟩⟩
theorem ins_2 {a b c d : Int} (h1 : a ≤ c) (h2 : b ≤ d) : Ins [a, b] [c, d] := fun i x y hx hy => by
 match i with
 | 0 => simp at hx hy;omega
 | 1 => simp at hx hy;omega
 | i + 2 => simp at hx
theorem cab_3 : ∃ B N, compactF cntM ⟨stN cntM 2 [3] [], [ca, cb], stN cntM 2 [3] [ca, cb]⟩ [1, 0] = (0, ⟨B, [cb], N⟩) ∧ B.state = [5] ∧ SzN B ∧ N.clock = [1, 1] := by
 have hb : (stN cntM 2 [3] []).clock = [0, 0] := rfl
 obtain ⟨h1, h2⟩ := has_2 1 0 (by decide) (by decide)
 have e1 : inL [1, 0] [ca, cb] = [ca] := by
  have a1 : HasC [1, 0] ca.rep ca.num := h1.2 (by decide)
  have a2 : ¬ HasC [1, 0] cb.rep cb.num := fun h => absurd (h2.1 h) (by decide)
  simp [inL, a1, a2]
 have e2 : outL [1, 0] [ca, cb] = [cb] := by
  have a1 : HasC [1, 0] ca.rep ca.num := h1.2 (by decide)
  have a2 : ¬ HasC [1, 0] cb.rep cb.num := fun h => absurd (h2.1 h) (by decide)
  simp [outL, a1, a2]
 refine ⟨cmpB cntM (stN cntM 2 [3] []) [1, 0] [ca, cb], { stN cntM 2 [3] [ca, cb] with merged := [cb].foldl (mrg1 cntM) (cmpB cntM (stN cntM 2 [3] []) [1, 0] [ca, cb]).merged }, ?_, ?_, ?_, st_cab.1⟩
 ·have q1 : ValC [1, 0] ∧ ([1, 0] : List Int).length = (stN cntM 2 [3] [ca, cb]).clock.length := ⟨val2 1 0 (by decide) (by decide), rfl⟩
  have q2 : Ins (stN cntM 2 [3] []).clock [1, 0] ∧ Ins [1, 0] (stN cntM 2 [3] [ca, cb]).clock ∧ ∀ e ∈ [ca, cb], HasC [1, 0] e.rep e.num → Ins e.past [1, 0] := by
   refine ⟨by rw [hb];exact ins_2 (by decide) (by decide), by rw [st_cab.1];exact ins_2 (by decide) (by decide), fun e he _ => ?_⟩
   simp only [List.mem_cons, List.not_mem_nil, or_false] at he
   rcases he with rfl|rfl <;> exact ins_2 (by decide) (by decide)
  refine (@if_neg _ (Classical.propDecidable _) (fun h9 => h9 q1) _ _ _).trans ((@if_neg _ (Classical.propDecidable _) (fun h9 => h9 q2) _ _ _).trans ?_)
  simp only [e2]
 ·rw [cmpB, e1];rfl
 ·rw [cmpB, e1]
  have hsz : SzM (mrg1 cntM (stN cntM 2 [3] []).merged ca) := mrg1_sz (by
   simp only [stN, List.foldl_nil, cnt_mrg]
   exact ⟨by simp, by simp⟩)
  exact ⟨by simp, by simp only [List.foldl_cons, List.foldl_nil, cmp1, addE_len];simp [stN], hsz.1, hsz.2, by simp only [List.foldl_cons, List.foldl_nil, cmp1];simp [stN, plE, ca]⟩
theorem cmk : makeF cntM (stN cntM 2 [3] []) 0 { ev0 with serial := 1 } = (0, ca) := by
 have hm : mkN (stN cntM 2 [3] []) 0 { ev0 with serial := 1 } = ca := rfl
 rw [makeF, if_neg (by show ¬ ((0:Int) < 0 ∨ (2:Int) ≤ 0);decide), if_neg (by show ¬ ((1024:Int) ≤ 0 ∨ (1073741824 : Int) ≤ 0);decide), hm, if_neg (fun h => h ⟨ca_f, rfl, fun _ => by decide⟩)]
end Go.Proofs.YtmllihbhphnolaaGreat
namespace Go.Proofs.YtmllihbhphnolaaGreat
open Go Go.CF
set_option maxRecDepth 20000
set_option maxHeartbeats 2000000 in
theorem equal32_p (a b : EvS) : CallP Tryz.prog 113 [evA' a, evA' b] (.val (.bool (decide (a = b)))) := by
 refine CallA.of pg ord113 Tryz.func113 rfl Tryz.ntmps113 Tryz.results113 rfl fun h0 G0 O0 => ?_
 repeat' (first|refine Sp.h ?_|refine Lk.r rfl ?_|refine Rf.mk rfl ?_|(apply Bd.t;(focus first|assumption|omega|rfl))|(apply Bd.f;(focus first|assumption|omega|exact Bool.false_ne_true))|(refine Bd.mk ?_ ?_ <;> intro _)|(refine All.mk ?_;intro _)|(apply TkB.r;(focus repeat constructor))|(apply Nm.r;focus repeat constructor)|fail)
 (apply Cl.p (intsR_p _ _);(focus repeat' (first|exact Lend.nil|apply Lend.keep|fail)))
 repeat' (first|refine Sp.h ?_|refine Lk.r rfl ?_|refine Rf.mk rfl ?_|(apply Bd.t;(focus first|assumption|omega|rfl))|(apply Bd.f;(focus first|assumption|omega|exact Bool.false_ne_true))|(refine Bd.mk ?_ ?_ <;> intro _)|(apply TkB.r;(focus repeat constructor))|refine Ch.r ?_|(apply Nm.r;focus repeat constructor)|(apply Il.r;(focus repeat (first|apply ILit.cons|exact ILit.nil)))|(apply Kf.mk;(focus kernel_rfl))|fail)
 all_goals refine Fin.p rfl (vb ?_)
 ·refine decide_eq_decide.2 ⟨fun h => ?_, fun h => by rw [h]⟩
  cases a;cases b;simp_all
 all_goals exact (decide_eq_false (fun h => by subst h;first|contradiction|simp_all)).symm
theorem same32_p (a b : List EvS) : CallP Tryz.prog 41 [evs a, evs b] (bl (decide (a = b))) := by
 refine CallA.of pg ord41 Tryz.func41 rfl Tryz.ntmps41 Tryz.results41 rfl fun h0 G0 O0 => ?_
 by_cases hl : a.length = b.length
 rotate_left
 ·repeat' (first|refine Sp.h ?_|refine Lk.r rfl ?_|refine Rf.mk rfl ?_|(apply Bd.f;(focus first|assumption|omega|exact Bool.false_ne_true))|(refine Im.mk ?_;intro _)|(apply Nm.r;focus repeat constructor)|fail)
  exact Fin.p rfl (vb (decide_eq_false (fun e => hl (by rw [e]))).symm)
 repeat' (first|refine Sp.h ?_|refine Lk.r rfl ?_|refine Rf.mk rfl ?_|(apply Bd.t;(focus first|assumption|omega|rfl))|(refine Im.mk ?_;intro _)|fail)
 refine CA.loop (fun i : Nat => ⟨[(0, evs a), (1, evs b), (5, it i)], []⟩) (fun i => i ≤ a.length ∧ ∀ (j : Nat) x y, j < i → a[j]? = some x → b[j]? = some y → x = y) (fun i => a.length - i) 0 ⟨by repeat first|trivial|refine ⟨rfl,?_⟩,by repeat first|exact .nil|refine .cons (by repeat constructor) ?_⟩ ⟨Nat.zero_le _, fun j x y h => by omega⟩ ?_
 rintro i ⟨hi, ha⟩
 by_cases hin : i < a.length
 ·obtain ⟨x, hx⟩ := get_of hin
  obtain ⟨y, hy⟩ := get_of (l := b) (i := i) (by omega)
  have he := equal32_p x y
  by_cases hxy : x = y
  ·rw [decide_eq_true hxy] at he
   repeat' (first|refine Sp.h ?_|refine Lk.r rfl ?_|refine Rf.mk rfl ?_|(apply Bd.t;(focus first|assumption|omega|rfl))|refine OpK.r rfl ?_|(refine Im.mk ?_;intro _)|(apply Ix.q;(focus exact rfl);(focus assumption))|refine Ch.l ⟨rfl, rfl⟩ ?_|(apply CA.draw;(focus rfl);(focus kernel_rfl);(focus kernel_rfl);(focus repeat' constructor);(focus rfl))|(apply Ov.n;(focus first|omega|(simp <;> omega)))|(apply Cl.p (he);(focus repeat' (first|exact Lend.nil|apply Lend.keep|fail))))
   all_goals
    refine PA.lp (i + 1) ⟨by repeat first|trivial|refine ⟨rfl,?_⟩,by repeat first|exact .nil|refine .cons (by repeat constructor) ?_⟩ ⟨⟨hin, fun j x' y' h1 h2 h3 => ?_⟩, by omega⟩
    by_cases hij : j = i
    ·subst hij;rw [hx] at h2;rw [hy] at h3;cases h2;cases h3;exact hxy
    ·exact ha j x' y' (by omega) h2 h3
  ·rw [decide_eq_false hxy] at he
   repeat' (first|refine Sp.h ?_|refine Lk.r rfl ?_|refine Rf.mk rfl ?_|(apply Bd.t;(focus first|assumption|omega|rfl))|(apply Bd.f;(focus first|assumption|omega|exact Bool.false_ne_true))|refine OpK.r rfl ?_|(refine Im.mk ?_;intro _)|(apply Ix.q;(focus exact rfl);(focus assumption))|refine Ch.l ⟨rfl, rfl⟩ ?_|(apply Nm.r;focus repeat constructor)|(apply CA.draw;(focus rfl);(focus kernel_rfl);(focus kernel_rfl);(focus repeat' constructor);(focus rfl))|(apply Cl.p (he);(focus repeat' (first|exact Lend.nil|apply Lend.keep|fail))))
   all_goals exact Fin.p rfl (vb (decide_eq_false (fun e => hxy (by subst e;rw [hx] at hy;cases hy;rfl))).symm)
 ·have hie : i = a.length := by omega
  subst hie
  repeat' (first|refine Sp.h ?_|refine Lk.r rfl ?_|refine Rf.mk rfl ?_|(apply Bd.f;(focus first|assumption|omega|exact Bool.false_ne_true))|(refine Im.mk ?_;intro _)|(apply Nm.r;focus repeat constructor)|fail)
  refine Fin.p rfl (vb (decide_eq_true (List.ext_getElem? fun j => ?_)).symm)
  by_cases hj : j < a.length
  ·obtain ⟨x, hx⟩ := get_of hj
   obtain ⟨y, hy⟩ := get_of (l := b) (i := j) (by omega)
   rw [hx, hy, ha j x y hj hx hy]
  ·rw [List.getElem?_eq_none (by omega), List.getElem?_eq_none (by omega)]
theorem stN_okC (X : List EvS) (hX : ∀ e ∈ X, e ∈ [ca, cb]) (hl : X.length ≤ 1000) : NowOK cntM (stN cntM 2 [3] X) := stN_ok cab_suit hX hl
set_option maxHeartbeats 8000000 in
theorem awake35_p : CallP Tryz.prog 13 [] (bl true) := by
 have hc := cnt_p
 have h1 := new35_a cntM 2 [3] cnt_ok (by decide) (by rw [cnt_str];rfl) (insS_ld (by simp))
 have h2 : ∀ p v, CallA Tryz.prog 18 [pm p, it 0, evA' { ev0 with serial := 1 }] [stoR p cntM (stN cntM 2 [3] []) v (stN cntM 2 [3] [])] fun q own => q = .tup [evA' ca, it 0] ∧ own = [stoR p cntM (stN cntM 2 [3] []) v (stN cntM 2 [3] [])] := fun p v => by
  have := smake_a p cntM (stN cntM 2 [3] []) v (stN cntM 2 [3] []) 0 { ev0 with serial := 1 } (by simp [stN, clkE]) (by simp [stN, clkE]) (by simp [stN])
  rwa [cmk] at this
 have h3 : ∀ p v, CallA Tryz.prog 21 [pm p, evA' ca] [stoR p cntM (stN cntM 2 [3] []) v (stN cntM 2 [3] []), arrR v 37 13 ([] : List EvS) evC] fun r own => r = it 0 ∧ ∃ v', own = [stoR p cntM (stN cntM 2 [3] []) v' (stN cntM 2 [3] [ca]), arrR v' 37 13 [ca] evC] := fun p v => by
  have := deliver_a p cntM (stN cntM 2 [3] []) v [] (stN cntM 2 [3] []) ca cnt_ok (stN_okC [] (by simp) (by simp)) (by simp)
  rw [evsD, cab_1, if_pos rfl] at this
  exact this
 have h4 : ∀ p v, CallA Tryz.prog 21 [pm p, evA' cb] [stoR p cntM (stN cntM 2 [3] []) v (stN cntM 2 [3] [ca]), arrR v 37 13 [ca] evC] fun r own => r = it 0 ∧ ∃ v', own = [stoR p cntM (stN cntM 2 [3] []) v' (stN cntM 2 [3] [ca, cb]), arrR v' 37 13 [ca, cb] evC] := fun p v => by
  have := deliver_a p cntM (stN cntM 2 [3] []) v [ca] (stN cntM 2 [3] [ca]) cb cnt_ok (stN_okC [ca] (by simp) (by simp)) (by simp)
  rw [evsD, cab_2, if_pos rfl] at this
  exact this
 obtain ⟨⟨bc, bt, bs, bm, bp⟩, ⟨nc, nt, ns, nm', np⟩, c1, c2, c3, c4⟩ := cab_3
 simp only at c2 c4
 subst c2
 subst c4
 obtain ⟨B, hB⟩ : ∃ B : NowS, B = ⟨bc, bt, [5], bm, bp⟩ := ⟨_, rfl⟩
 obtain ⟨N, hN⟩ : ∃ N : NowS, N = ⟨[1, 1], nt, ns, nm', np⟩ := ⟨_, rfl⟩
 rw [← hB, ← hN] at c1
 have h5 : ∀ p v, CallA Tryz.prog 66 [pm p, ints [1, 0]] [stoR p cntM (stN cntM 2 [3] []) v (stN cntM 2 [3] [ca, cb]), arrR v 37 13 [ca, cb] evC] fun r own => r = it 0 ∧ ∃ v', own = [stoR p cntM B v' N, arrR v' 37 13 [cb] evC] := fun p v => by
  have hN := stN_okC [ca, cb] (by simp) (by simp)
  have h0 := stN_okC [] (by simp) (by simp)
  have := compact_a p cntM (stN cntM 2 [3] []) v [ca, cb] (stN cntM 2 [3] [ca, cb]) [1, 0] cnt_ok hN ⟨h0.clk, rfl, h0.st, by simp only [stN, List.foldl_nil, cnt_mrg];exact ⟨by simp, by simp⟩, h0.pls, by simp [stN]⟩ (by simp) (fun e he => by
   simp only [List.mem_cons, List.not_mem_nil, or_false] at he
   rcases he with rfl|rfl
   ·exact ⟨ca_f, rfl, fun _ => by decide⟩
   ·exact ⟨cb_f, rfl, fun _ => by decide⟩)
  rw [c1] at this
  exact this
 have e4 := equal_p [4] [4]
 have e5 := equal_p [5] [5]
 have e11 := equal_p [1, 1] [1, 1]
 have es := same32_p [cb] [cb]
 rw [decide_eq_true rfl] at e4 e5 e11 es
 have e5' : CallP Tryz.prog 19 [ints B.state, ints [5]] (bl true) := by rw [show B.state = [5] by rw [hB]];exact e5
 have e11' : CallP Tryz.prog 19 [ints N.clock, ints [1, 1]] (bl true) := by rw [show N.clock = [1, 1] by rw [hN]];exact e11
 refine CallA.of pg ord13 Tryz.func13 rfl Tryz.ntmps13 Tryz.results13 rfl fun h0 G0 O0 => ?_
 repeat' (first|refine Sp.h ?_|refine Lk.r rfl ?_|refine Rf.mk rfl ?_|(refine All.mk ?_;intro _)|(apply Fk.r;(focus (repeat (first|exact FillA.nil|(apply FillA.agg;(focus rfl);(focus rfl);(focus (repeat (first|exact SetAs.z|(apply SetAs.c;(focus (repeat first|assumption|constructor)))))))|(apply FillA.one;(focus rfl);(focus infer_instance);(focus (repeat first|assumption|constructor)))))))|refine Rf.mk ⟨rfl, rfl, rfl⟩ ?_|(apply Cl.p (hc);(focus repeat' (first|exact Lend.nil|fail))))
 apply Cl.fx [mdl cntM, it 2, ints [3]]
 focus (repeat' (first|exact FX.nil|(apply FX.sl;(focus repeat constructor);(focus exact Nat.le_of_ble_eq_true rfl))|(apply FX.le;(focus first|exact ALe.refl _|exact ALe.nil))|apply FX.agg|apply FX.tup))
 (apply Cl.use (h1);(focus repeat' (first|exact Lend.nil|apply Lend.keep|fail));(focus (repeat (first|exact Takes.nil|(apply Takes.cons;(focus repeat constructor)))));(focus rfl))
 rintro _ _ ⟨p, v, rfl, rfl⟩
 repeat' (first|refine Sp.h ?_|refine Lk.r rfl ?_|refine Rf.mk rfl ?_|(apply Bd.t;(focus first|assumption|omega|rfl))|(apply Bd.f;(focus first|assumption|omega|exact Bool.false_ne_true))|(apply Fk.r;(focus (repeat (first|exact FillA.nil|(apply FillA.agg;(focus rfl);(focus rfl);(focus (repeat (first|exact SetAs.z|(apply SetAs.c;(focus (repeat first|assumption|constructor)))))))|(apply FillA.one;(focus rfl);(focus infer_instance);(focus (repeat first|assumption|constructor)))))))|fail)
 apply Cl.fx [pm p, it 0, evA' { ev0 with serial := 1 }]
 focus (repeat' (first|exact FX.nil|(apply FX.sl;(focus repeat constructor);(focus exact Nat.le_of_ble_eq_true rfl))|(apply FX.le;(focus first|exact ALe.refl _|exact ALe.nil))|apply FX.agg|apply FX.tup))
 (apply Cl.use (h2 p v);(focus repeat' (first|exact Lend.nil|apply Lend.keep|fail));(focus (repeat (first|exact Takes.nil|(apply Takes.cons;(focus repeat constructor)))));(focus rfl))
 rintro _ _ ⟨rfl, rfl⟩
 (repeat' (first|(show CA _ _ (Code.region 6 _ _) _ _;apply Stopped.out)|refine Sp.h ?_|refine Lk.r rfl ?_|refine Rf.mk rfl ?_|(refine All.mk ?_;intro _)|(apply TkB.r;(focus repeat constructor))|(apply SetAsk.r;(focus (repeat (first|exact SetAs.z|(apply SetAs.c;(focus (repeat first|assumption|constructor)))))))|(apply Fk.r;(focus (repeat (first|exact FillA.nil|(apply FillA.agg;(focus rfl);(focus rfl);(focus (repeat (first|exact SetAs.z|(apply SetAs.c;(focus (repeat first|assumption|constructor)))))))|(apply FillA.one;(focus rfl);(focus infer_instance);(focus (repeat first|assumption|constructor)))))))|(apply Nm.r;focus repeat constructor)|refine Rf.mk ⟨rfl, rfl, rfl⟩ ?_|fail));any_goals apply Stopped.mk
 rename_i b3 u b4
 apply CA.own
 focus (apply OX.blk (b := b4);(focus repeat constructor);(focus (apply FX.k;apply FX.k;apply FX.k;apply FX.sl (ys := [0, 0]) (g := intC);(focus repeat constructor);(focus exact Nat.le_of_ble_eq_true rfl);(focus exact FX.le (ALe.refl _) (FX.le (ALe.refl _) FX.nil));exact FX.refl _));(focus repeat constructor))
 repeat' (first|refine Sp.h ?_|refine Lk.r rfl ?_|refine Rf.mk rfl ?_|(apply Bd.t;(focus first|assumption|omega|rfl))|(apply TkB.r;(focus repeat constructor))|refine Ch.l ⟨rfl, rfl⟩ ?_|fail)
 (apply Cl.use (h3 p v);(focus repeat' (first|exact Lend.nil|apply Lend.keep|fail));(focus (repeat (first|exact Takes.nil|(apply Takes.cons;(focus repeat constructor)))));(focus rfl))
 rintro _ _ ⟨rfl, v1, rfl⟩
 repeat' (first|refine Sp.h ?_|refine Lk.r rfl ?_|refine Rf.mk rfl ?_|(apply Bd.t;(focus first|assumption|omega|rfl))|(apply TkB.r;(focus repeat constructor))|refine Ch.l ⟨rfl, rfl⟩ ?_|fail)
 (apply Cl.use (h4 p v1);(focus repeat' (first|exact Lend.nil|apply Lend.keep|fail));(focus (repeat (first|exact Takes.nil|(apply Takes.cons;(focus repeat constructor)))));(focus rfl))
 rintro _ _ ⟨rfl, v2, rfl⟩
 have h6 := sstate_p p cntM (stN cntM 2 [3] []) v2 (stN cntM 2 [3] [ca, cb]) (by rw [st_cab.2];decide)
 rw [st_cab.2] at h6
 repeat' (first|refine Sp.h ?_|refine Lk.r rfl ?_|refine Rf.mk rfl ?_|(apply Bd.t;(focus first|assumption|omega|rfl))|fail)
 (apply Cl.use (h6);(focus repeat' (first|exact Lend.nil|apply Lend.keep|fail));(focus (repeat (first|exact Takes.nil|(apply Takes.cons;(focus repeat constructor)))));(focus rfl))
 rintro _ _ ⟨rfl, rfl⟩
 repeat' (first|refine Sp.h ?_|refine Lk.r rfl ?_|refine Rf.mk rfl ?_|(apply Bd.t;(focus first|assumption|omega|rfl))|(refine All.mk ?_;intro _)|(apply Fk.r;(focus (repeat (first|exact FillA.nil|(apply FillA.agg;(focus rfl);(focus rfl);(focus (repeat (first|exact SetAs.z|(apply SetAs.c;(focus (repeat first|assumption|constructor)))))))|(apply FillA.one;(focus rfl);(focus infer_instance);(focus (repeat first|assumption|constructor)))))))|refine Rf.mk ⟨rfl, rfl, rfl⟩ ?_|fail)
 (apply Cl.lend (e4);(focus repeat' (first|exact Lend.nil|apply Lend.keep|(apply Lend.lendm;(focus repeat constructor);(focus rfl);(focus first|omega|decide|(simp;omega)|exact Nat.le_of_ble_eq_true rfl))|fail)))
 repeat' (first|refine Sp.h ?_|refine Lk.r rfl ?_|refine Rf.mk rfl ?_|(apply Bd.t;(focus first|assumption|omega|rfl))|(refine All.mk ?_;intro _)|(apply Fk.r;(focus (repeat (first|exact FillA.nil|(apply FillA.agg;(focus rfl);(focus rfl);(focus (repeat (first|exact SetAs.z|(apply SetAs.c;(focus (repeat first|assumption|constructor)))))))|(apply FillA.one;(focus rfl);(focus infer_instance);(focus (repeat first|assumption|constructor)))))))|refine Rf.mk ⟨rfl, rfl, rfl⟩ ?_|fail)
 apply Cl.fx [pm p, ints [1, 0]]
 focus (repeat' (first|exact FX.nil|(apply FX.sl;(focus repeat constructor);(focus exact Nat.le_of_ble_eq_true rfl))|(apply FX.le;(focus first|exact ALe.refl _|exact ALe.nil))|apply FX.agg|apply FX.tup))
 (apply Cl.use (h5 p v2);(focus repeat' (first|exact Lend.nil|apply Lend.keep|fail));(focus (repeat (first|exact Takes.nil|(apply Takes.cons;(focus repeat constructor)))));(focus rfl))
 rintro _ _ ⟨rfl, v3, rfl⟩
 have h7 := sbase_r cntM B N [cb] (by rw [hB];exact c3)
 have h8 := sevents_z cntM B N [cb] (by simp) (by simp [cb])
 have h9 := sclock_z cntM B N [cb] (by rw [hN];simp)
 (repeat' (first|(show CA _ _ (Code.region 9 _ _) _ _;apply Stopped.out)|refine Sp.h ?_|refine Lk.r rfl ?_|fail));any_goals apply Stopped.mk
 (apply CA.own;(focus (apply OX.blk (b := p);(focus repeat constructor);(focus (repeat' (first|exact FX.nil|(apply FX.s1;(focus repeat constructor);(focus first|omega|(simp;done)|(simp;omega)))|apply FX.k)));(focus repeat constructor))))
 apply CA.freezeB 1
 focus rfl
 focus (repeat constructor)
 repeat' (first|refine Sp.h ?_|refine Lk.r rfl ?_|refine Rf.mk rfl ?_|(apply Bd.t;(focus first|assumption|omega|rfl))|refine OpK.r rfl ?_|(refine All.mk ?_;intro _)|(apply TkB.r;(focus repeat constructor))|refine Ch.l ⟨rfl, rfl⟩ ?_|(apply Fk.r;(focus (repeat (first|exact FillA.nil|(apply FillA.agg;(focus rfl);(focus rfl);(focus (repeat (first|exact SetAs.z|(apply SetAs.c;(focus (repeat first|assumption|constructor)))))))|(apply FillA.one;(focus rfl);(focus infer_instance);(focus (repeat first|assumption|constructor)))))))|(apply Nm.r;focus repeat constructor)|refine Rf.mk ⟨rfl, rfl, rfl⟩ ?_|(apply CA.draw;(focus rfl);(focus kernel_rfl);(focus kernel_rfl);(focus repeat' constructor);(focus rfl))|exact trivial|apply RA'.both|(apply Cl.p (h7);(focus ((repeat' (first|exact Lend.nil|apply Lend.keep|(apply Lend.lendm;(focus repeat constructor);(focus rfl);(focus first|omega|decide|(simp;omega)|exact Nat.le_of_ble_eq_true rfl))|fail));done)))|(apply Cl.p (h8);(focus ((repeat' (first|exact Lend.nil|apply Lend.keep|(apply Lend.lendm;(focus repeat constructor);(focus rfl);(focus first|omega|decide|(simp;omega)|exact Nat.le_of_ble_eq_true rfl))|fail));done)))|(apply Cl.p (h9);(focus ((repeat' (first|exact Lend.nil|apply Lend.keep|(apply Lend.lendm;(focus repeat constructor);(focus rfl);(focus first|omega|decide|(simp;omega)|exact Nat.le_of_ble_eq_true rfl))|fail));done)))|(apply Cl.lend (e5');(focus ((repeat' (first|exact Lend.nil|apply Lend.keep|(apply Lend.lendm;(focus repeat constructor);(focus rfl);(focus first|omega|decide|(simp;omega)|exact Nat.le_of_ble_eq_true rfl))|fail));done)))|(apply Cl.lend (es);(focus ((repeat' (first|exact Lend.nil|apply Lend.keep|(apply Lend.lendm;(focus repeat constructor);(focus rfl);(focus first|omega|decide|(simp;omega)|exact Nat.le_of_ble_eq_true rfl))|fail));done)))|(apply Cl.lend (e11');(focus ((repeat' (first|exact Lend.nil|apply Lend.keep|(apply Lend.lendm;(focus repeat constructor);(focus rfl);(focus first|omega|decide|(simp;omega)|exact Nat.le_of_ble_eq_true rfl))|fail));done))))
 all_goals exact Fin.p rfl rfl
end Go.Proofs.YtmllihbhphnolaaGreat
namespace Go.Proofs.YtmllihbhphnolaaGreat
open Go Go.CF
set_option maxRecDepth 20000
theorem foldE_succ {m : ModS} {l : List EvS} {i : Nat} {e : EvS} (h : l[i]? = some e) (s : List Int) : (l.take (i + 1)).foldl (addE m) s = addE m ((l.take i).foldl (addE m) s) e := by
 rw [List.take_add_one, h, Option.toList_some, List.foldl_append];rfl
end Go.Proofs.YtmllihbhphnolaaGreat
namespace Go.Proofs.YtmllihbhphnolaaGreat
open Go Go.CF
set_option maxRecDepth 20000
theorem same35_p (b : NowS) : CallP Tryz.prog 64 [basA b, basA b] (bl true) := by
 have h1 := intsR_p b.clock b.clock
 have h2 := intsR_p b.state b.state
 have h3 := same34_p b.merged b.merged
 have h4 := intsR_p b.places b.places
 rw [decide_eq_true rfl] at h1 h2 h3 h4
 refine CallA.of pg ord64 Tryz.func64 rfl Tryz.ntmps64 Tryz.results64 rfl fun h0 G0 O0 => ?_
 repeat' (first|refine Sp.h ?_|refine Lk.r rfl ?_|refine Rf.mk rfl ?_|(apply Bd.t;(focus first|assumption|omega|rfl))|(refine All.mk ?_;intro _)|(apply TkB.r;(focus repeat constructor))|(apply Nm.r;focus repeat constructor)|(apply Cl.p (h1);(focus ((repeat' (first|exact Lend.nil|apply Lend.keep|fail));done)))|(apply Cl.p (h2);(focus ((repeat' (first|exact Lend.nil|apply Lend.keep|fail));done)))|(apply Cl.p (h3);(focus ((repeat' (first|exact Lend.nil|apply Lend.keep|fail));done)))|(apply Cl.p (h4);(focus ((repeat' (first|exact Lend.nil|apply Lend.keep|fail));done))))
 all_goals exact Fin.p rfl rfl
end Go.Proofs.YtmllihbhphnolaaGreat
namespace Go.Proofs.YtmllihbhphnolaaGreat
open Go Go.CF
set_option maxRecDepth 20000
theorem deliver_bad {m : ModS} {evl : List EvS} {w : NowS} {e : EvS} (h : ¬ (deliverF m evl w e).1 = 0) : (deliverF m evl w e).2 = w := by
 unfold deliverF at h ⊢
 repeat' split
 all_goals first
  | rfl
  | (exfalso;simp_all;done)
end Go.Proofs.YtmllihbhphnolaaGreat
namespace Go.Proofs.YtmllihbhphnolaaGreat
open Go Go.CF
set_option maxRecDepth 20000
noncomputable instance (l : List MkS) (x : MkS) : Decidable (HasNm l x) := Classical.propDecidable _
set_option maxHeartbeats 4000000 in
theorem add34_h (l : List MkS) (x : MkS) (hn : HasNm l x) (hl : l.length ≤ 100000) : CallP Tryz.prog 279 [mks l, mA x] (.tup [.val (.slice none 0 0), bl true]) := by
 refine CallA.of pg ord279 Tryz.func279 rfl Tryz.ntmps279 Tryz.results279 rfl fun h0 G0 O0 => ?_
 repeat' (first|refine Sp.h ?_|refine Lk.r rfl ?_|refine Rf.mk rfl ?_|(refine All.mk ?_;intro _)|(apply Fk.r;(focus (repeat (first|exact FillA.nil|(apply FillA.agg;(focus rfl);(focus rfl);(focus (repeat (first|exact SetAs.z|(apply SetAs.c;(focus (repeat first|assumption|constructor)))))))|(apply FillA.one;(focus rfl);(focus infer_instance);(focus (repeat first|assumption|constructor)))))))|refine Rf.mk ⟨rfl, rfl, rfl⟩ ?_|fail)
 rename_i b3 v
 apply CA.retype (m := ([] : List MkS)) (g := mkC)
 focus (repeat constructor)
 focus rfl
 refine CA.loop (fun q : Nat × Value × List MkS × Bool => ⟨[(0, mks l), (3, pm b3), (6, .ow q.2.1), (7, bl q.2.2.2), (8, it q.1)], [blkR b3 125 (mkC x), arrR q.2.1 125 4 q.2.2.1 mkC]⟩)
  (fun q => q.1 ≤ l.length ∧ q.2.2.1.length ≤ 2 * q.1 ∧ ∀ z ∈ l.take q.1, ¬ Nm z x) (fun q => l.length - q.1) (0, v, [], false) ⟨by repeat first|trivial|refine ⟨rfl,?_⟩,by repeat first|exact .nil|refine .cons (by repeat constructor) ?_⟩ ⟨Nat.zero_le _, by simp, by simp⟩ ?_
 rintro ⟨i, w, out, done⟩ ⟨hi, ho, hq⟩
 simp only at hi ho hq
 simp only
 have hin : i < l.length := by
  rcases Nat.lt_or_ge i l.length with h|h
  ·exact h
  ·exfalso
   obtain ⟨y, hy, h9⟩ := hn
   refine hq y ?_ h9
   rw [List.take_of_length_le h];exact hy
 obtain ⟨y, hy⟩ := get_of hin
 by_cases hno : Nm y x
 ·obtain ⟨h1, h2⟩ := hno
  repeat' (first|refine Sp.h ?_|refine Lk.r rfl ?_|refine Rf.mk rfl ?_|(apply Bd.t;(focus first|assumption|omega|rfl))|refine OpK.r rfl ?_|(refine Im.mk ?_;intro _)|(apply TkB.r;(focus repeat constructor))|(apply Ix.q;(focus exact rfl);(focus assumption))|(apply Nm.r;focus repeat constructor)|(apply CA.draw;(focus rfl);(focus kernel_rfl);(focus kernel_rfl);(focus repeat' constructor);(focus rfl))|fail)
  all_goals exact Fin.p rfl rfl
 have h12 : y.rep ≠ x.rep ∨ y.num ≠ x.num := by unfold Nm at hno;omega
 have hq2 : ∀ z ∈ l.take (i + 1), ¬ Nm z x := by
  intro z hz
  rw [List.take_add_one, hy] at hz
  rcases List.mem_append.1 hz with hz|hz
  ·exact hq z hz
  ·rw [List.mem_singleton.1 hz];exact hno
 by_cases hlt : LtK x y
 ·by_cases hr : y.rep = x.rep
  ·have hnn : y.num ≠ x.num := h12.resolve_left (fun h => h hr)
   cases done
   ·repeat' (first|refine Sp.h ?_|refine Lk.r rfl ?_|refine Rf.mk rfl ?_|(apply Bd.t;(focus first|assumption|omega|rfl))|(apply Bd.f;(focus first|assumption|omega|exact Bool.false_ne_true))|refine OpK.r rfl ?_|(apply Om.mk;(focus first|omega|(simp <;> omega)))|(refine Im.mk ?_;intro _)|(refine All.mk ?_;intro _)|(apply TkA.r;(focus repeat constructor))|(apply TkB.r;(focus repeat constructor))|(apply Ix.q;(focus exact rfl);(focus assumption))|refine Ce.r ?_|refine Ch.l ⟨rfl, rfl⟩ ?_|(apply Fk.r;(focus (repeat (first|exact FillA.nil|(apply FillA.agg;(focus rfl);(focus rfl);(focus (repeat (first|exact SetAs.z|(apply SetAs.c;(focus (repeat first|assumption|constructor)))))))|(apply FillA.one;(focus rfl);(focus infer_instance);(focus (repeat first|assumption|constructor)))))))|refine Rf.mk ⟨rfl, rfl⟩ ?_|refine Rf.mk ⟨rfl, rfl, rfl⟩ ?_|(apply Mp.lit;(focus repeat (first|exact MpL.nil|(apply MpL.cons;(focus rfl))|(apply MpL.inv;(focus repeat constructor);(focus infer_instance)))))|(apply CA.draw;(focus rfl);(focus kernel_rfl);(focus kernel_rfl);(focus repeat' constructor);(focus rfl))|(apply Ov.n;(focus first|omega|(simp <;> omega)))|(apply Cl.p (less34_p _ _);(focus repeat' (first|exact Lend.nil|apply Lend.keep|fail))))
    all_goals exact PA.lp (i + 1, _, _, _) ⟨by repeat first|trivial|refine ⟨rfl,?_⟩,by repeat first|exact .nil|refine .cons (by repeat constructor) ?_⟩ ⟨⟨hin, by simp only [List.length_append, List.length_singleton];omega, hq2⟩, by simp only;omega⟩
   ·repeat' (first|refine Sp.h ?_|refine Lk.r rfl ?_|refine Rf.mk rfl ?_|(apply Bd.t;(focus first|assumption|omega|rfl))|(apply Bd.f;(focus first|assumption|omega|exact Bool.false_ne_true))|refine OpK.r rfl ?_|(apply Om.mk;(focus first|omega|(simp <;> omega)))|(refine Im.mk ?_;intro _)|(refine All.mk ?_;intro _)|(apply TkA.r;(focus repeat constructor))|(apply TkB.r;(focus repeat constructor))|(apply Ix.q;(focus exact rfl);(focus assumption))|refine Ce.r ?_|refine Ch.l ⟨rfl, rfl⟩ ?_|(apply Fk.r;(focus (repeat (first|exact FillA.nil|(apply FillA.agg;(focus rfl);(focus rfl);(focus (repeat (first|exact SetAs.z|(apply SetAs.c;(focus (repeat first|assumption|constructor)))))))|(apply FillA.one;(focus rfl);(focus infer_instance);(focus (repeat first|assumption|constructor)))))))|refine Rf.mk ⟨rfl, rfl⟩ ?_|refine Rf.mk ⟨rfl, rfl, rfl⟩ ?_|(apply Mp.lit;(focus repeat (first|exact MpL.nil|(apply MpL.cons;(focus rfl))|(apply MpL.inv;(focus repeat constructor);(focus infer_instance)))))|(apply CA.draw;(focus rfl);(focus kernel_rfl);(focus kernel_rfl);(focus repeat' constructor);(focus rfl))|(apply Ov.n;(focus first|omega|(simp <;> omega)))|(apply Cl.p (less34_p _ _);(focus repeat' (first|fail))))
    all_goals exact PA.lp (i + 1, _, _, _) ⟨by repeat first|trivial|refine ⟨rfl,?_⟩,by repeat first|exact .nil|refine .cons (by repeat constructor) ?_⟩ ⟨⟨hin, by simp only [List.length_append, List.length_singleton];omega, hq2⟩, by simp only;omega⟩
  ·cases done
   ·repeat' (first|refine Sp.h ?_|refine Lk.r rfl ?_|refine Rf.mk rfl ?_|(apply Bd.t;(focus first|assumption|omega|rfl))|(apply Bd.f;(focus first|assumption|omega|exact Bool.false_ne_true))|refine OpK.r rfl ?_|(apply Om.mk;(focus first|omega|(simp <;> omega)))|(refine Im.mk ?_;intro _)|(refine All.mk ?_;intro _)|(apply TkA.r;(focus repeat constructor))|(apply TkB.r;(focus repeat constructor))|(apply Ix.q;(focus exact rfl);(focus assumption))|refine Ce.r ?_|refine Ch.l ⟨rfl, rfl⟩ ?_|(apply Fk.r;(focus (repeat (first|exact FillA.nil|(apply FillA.agg;(focus rfl);(focus rfl);(focus (repeat (first|exact SetAs.z|(apply SetAs.c;(focus (repeat first|assumption|constructor)))))))|(apply FillA.one;(focus rfl);(focus infer_instance);(focus (repeat first|assumption|constructor)))))))|refine Rf.mk ⟨rfl, rfl⟩ ?_|refine Rf.mk ⟨rfl, rfl, rfl⟩ ?_|(apply Mp.lit;(focus repeat (first|exact MpL.nil|(apply MpL.cons;(focus rfl))|(apply MpL.inv;(focus repeat constructor);(focus infer_instance)))))|(apply CA.draw;(focus rfl);(focus kernel_rfl);(focus kernel_rfl);(focus repeat' constructor);(focus rfl))|(apply Ov.n;(focus first|omega|(simp <;> omega)))|(apply Cl.p (less34_p _ _);(focus repeat' (first|exact Lend.nil|apply Lend.keep|fail))))
    all_goals exact PA.lp (i + 1, _, _, _) ⟨by repeat first|trivial|refine ⟨rfl,?_⟩,by repeat first|exact .nil|refine .cons (by repeat constructor) ?_⟩ ⟨⟨hin, by simp only [List.length_append, List.length_singleton];omega, hq2⟩, by simp only;omega⟩
   ·repeat' (first|refine Sp.h ?_|refine Lk.r rfl ?_|refine Rf.mk rfl ?_|(apply Bd.t;(focus first|assumption|omega|rfl))|(apply Bd.f;(focus first|assumption|omega|exact Bool.false_ne_true))|refine OpK.r rfl ?_|(apply Om.mk;(focus first|omega|(simp <;> omega)))|(refine Im.mk ?_;intro _)|(refine All.mk ?_;intro _)|(apply TkA.r;(focus repeat constructor))|(apply TkB.r;(focus repeat constructor))|(apply Ix.q;(focus exact rfl);(focus assumption))|refine Ce.r ?_|refine Ch.l ⟨rfl, rfl⟩ ?_|(apply Fk.r;(focus (repeat (first|exact FillA.nil|(apply FillA.agg;(focus rfl);(focus rfl);(focus (repeat (first|exact SetAs.z|(apply SetAs.c;(focus (repeat first|assumption|constructor)))))))|(apply FillA.one;(focus rfl);(focus infer_instance);(focus (repeat first|assumption|constructor)))))))|refine Rf.mk ⟨rfl, rfl⟩ ?_|refine Rf.mk ⟨rfl, rfl, rfl⟩ ?_|(apply Mp.lit;(focus repeat (first|exact MpL.nil|(apply MpL.cons;(focus rfl))|(apply MpL.inv;(focus repeat constructor);(focus infer_instance)))))|(apply CA.draw;(focus rfl);(focus kernel_rfl);(focus kernel_rfl);(focus repeat' constructor);(focus rfl))|(apply Ov.n;(focus first|omega|(simp <;> omega)))|(apply Cl.p (less34_p _ _);(focus repeat' (first|fail))))
    all_goals exact PA.lp (i + 1, _, _, _) ⟨by repeat first|trivial|refine ⟨rfl,?_⟩,by repeat first|exact .nil|refine .cons (by repeat constructor) ?_⟩ ⟨⟨hin, by simp only [List.length_append, List.length_singleton];omega, hq2⟩, by simp only;omega⟩
 ·by_cases hr : y.rep = x.rep
  ·have hnn : y.num ≠ x.num := h12.resolve_left (fun h => h hr)
   cases done
   ·repeat' (first|refine Sp.h ?_|refine Lk.r rfl ?_|refine Rf.mk rfl ?_|(apply Bd.t;(focus first|assumption|omega|rfl))|(apply Bd.f;(focus first|assumption|omega|exact Bool.false_ne_true))|refine OpK.r rfl ?_|(apply Om.mk;(focus first|omega|(simp <;> omega)))|(refine Im.mk ?_;intro _)|(refine All.mk ?_;intro _)|(apply TkA.r;(focus repeat constructor))|(apply TkB.r;(focus repeat constructor))|(apply Ix.q;(focus exact rfl);(focus assumption))|refine Ce.r ?_|refine Ch.l ⟨rfl, rfl⟩ ?_|(apply Fk.r;(focus (repeat (first|exact FillA.nil|(apply FillA.agg;(focus rfl);(focus rfl);(focus (repeat (first|exact SetAs.z|(apply SetAs.c;(focus (repeat first|assumption|constructor)))))))|(apply FillA.one;(focus rfl);(focus infer_instance);(focus (repeat first|assumption|constructor)))))))|refine Rf.mk ⟨rfl, rfl⟩ ?_|refine Rf.mk ⟨rfl, rfl, rfl⟩ ?_|(apply Mp.lit;(focus repeat (first|exact MpL.nil|(apply MpL.cons;(focus rfl))|(apply MpL.inv;(focus repeat constructor);(focus infer_instance)))))|(apply CA.draw;(focus rfl);(focus kernel_rfl);(focus kernel_rfl);(focus repeat' constructor);(focus rfl))|(apply Ov.n;(focus first|omega|(simp <;> omega)))|(apply Cl.p (less34_p _ _);(focus repeat' (first|exact Lend.nil|apply Lend.keep|fail))))
    all_goals exact PA.lp (i + 1, _, _, _) ⟨by repeat first|trivial|refine ⟨rfl,?_⟩,by repeat first|exact .nil|refine .cons (by repeat constructor) ?_⟩ ⟨⟨hin, by simp only [List.length_append, List.length_singleton];omega, hq2⟩, by simp only;omega⟩
   ·repeat' (first|refine Sp.h ?_|refine Lk.r rfl ?_|refine Rf.mk rfl ?_|(apply Bd.t;(focus first|assumption|omega|rfl))|(apply Bd.f;(focus first|assumption|omega|exact Bool.false_ne_true))|refine OpK.r rfl ?_|(apply Om.mk;(focus first|omega|(simp <;> omega)))|(refine Im.mk ?_;intro _)|(refine All.mk ?_;intro _)|(apply TkA.r;(focus repeat constructor))|(apply TkB.r;(focus repeat constructor))|(apply Ix.q;(focus exact rfl);(focus assumption))|refine Ce.r ?_|refine Ch.l ⟨rfl, rfl⟩ ?_|(apply Fk.r;(focus (repeat (first|exact FillA.nil|(apply FillA.agg;(focus rfl);(focus rfl);(focus (repeat (first|exact SetAs.z|(apply SetAs.c;(focus (repeat first|assumption|constructor)))))))|(apply FillA.one;(focus rfl);(focus infer_instance);(focus (repeat first|assumption|constructor)))))))|refine Rf.mk ⟨rfl, rfl⟩ ?_|refine Rf.mk ⟨rfl, rfl, rfl⟩ ?_|(apply Mp.lit;(focus repeat (first|exact MpL.nil|(apply MpL.cons;(focus rfl))|(apply MpL.inv;(focus repeat constructor);(focus infer_instance)))))|(apply CA.draw;(focus rfl);(focus kernel_rfl);(focus kernel_rfl);(focus repeat' constructor);(focus rfl))|(apply Ov.n;(focus first|omega|(simp <;> omega)))|(apply Cl.p (less34_p _ _);(focus repeat' (first|fail))))
    all_goals exact PA.lp (i + 1, _, _, _) ⟨by repeat first|trivial|refine ⟨rfl,?_⟩,by repeat first|exact .nil|refine .cons (by repeat constructor) ?_⟩ ⟨⟨hin, by simp only [List.length_append, List.length_singleton];omega, hq2⟩, by simp only;omega⟩
  ·cases done
   ·repeat' (first|refine Sp.h ?_|refine Lk.r rfl ?_|refine Rf.mk rfl ?_|(apply Bd.t;(focus first|assumption|omega|rfl))|(apply Bd.f;(focus first|assumption|omega|exact Bool.false_ne_true))|refine OpK.r rfl ?_|(apply Om.mk;(focus first|omega|(simp <;> omega)))|(refine Im.mk ?_;intro _)|(refine All.mk ?_;intro _)|(apply TkA.r;(focus repeat constructor))|(apply TkB.r;(focus repeat constructor))|(apply Ix.q;(focus exact rfl);(focus assumption))|refine Ce.r ?_|refine Ch.l ⟨rfl, rfl⟩ ?_|(apply Fk.r;(focus (repeat (first|exact FillA.nil|(apply FillA.agg;(focus rfl);(focus rfl);(focus (repeat (first|exact SetAs.z|(apply SetAs.c;(focus (repeat first|assumption|constructor)))))))|(apply FillA.one;(focus rfl);(focus infer_instance);(focus (repeat first|assumption|constructor)))))))|refine Rf.mk ⟨rfl, rfl⟩ ?_|refine Rf.mk ⟨rfl, rfl, rfl⟩ ?_|(apply Mp.lit;(focus repeat (first|exact MpL.nil|(apply MpL.cons;(focus rfl))|(apply MpL.inv;(focus repeat constructor);(focus infer_instance)))))|(apply CA.draw;(focus rfl);(focus kernel_rfl);(focus kernel_rfl);(focus repeat' constructor);(focus rfl))|(apply Ov.n;(focus first|omega|(simp <;> omega)))|(apply Cl.p (less34_p _ _);(focus repeat' (first|exact Lend.nil|apply Lend.keep|fail))))
    all_goals exact PA.lp (i + 1, _, _, _) ⟨by repeat first|trivial|refine ⟨rfl,?_⟩,by repeat first|exact .nil|refine .cons (by repeat constructor) ?_⟩ ⟨⟨hin, by simp only [List.length_append, List.length_singleton];omega, hq2⟩, by simp only;omega⟩
   ·repeat' (first|refine Sp.h ?_|refine Lk.r rfl ?_|refine Rf.mk rfl ?_|(apply Bd.t;(focus first|assumption|omega|rfl))|(apply Bd.f;(focus first|assumption|omega|exact Bool.false_ne_true))|refine OpK.r rfl ?_|(apply Om.mk;(focus first|omega|(simp <;> omega)))|(refine Im.mk ?_;intro _)|(refine All.mk ?_;intro _)|(apply TkA.r;(focus repeat constructor))|(apply TkB.r;(focus repeat constructor))|(apply Ix.q;(focus exact rfl);(focus assumption))|refine Ce.r ?_|refine Ch.l ⟨rfl, rfl⟩ ?_|(apply Fk.r;(focus (repeat (first|exact FillA.nil|(apply FillA.agg;(focus rfl);(focus rfl);(focus (repeat (first|exact SetAs.z|(apply SetAs.c;(focus (repeat first|assumption|constructor)))))))|(apply FillA.one;(focus rfl);(focus infer_instance);(focus (repeat first|assumption|constructor)))))))|refine Rf.mk ⟨rfl, rfl⟩ ?_|refine Rf.mk ⟨rfl, rfl, rfl⟩ ?_|(apply Mp.lit;(focus repeat (first|exact MpL.nil|(apply MpL.cons;(focus rfl))|(apply MpL.inv;(focus repeat constructor);(focus infer_instance)))))|(apply CA.draw;(focus rfl);(focus kernel_rfl);(focus kernel_rfl);(focus repeat' constructor);(focus rfl))|(apply Ov.n;(focus first|omega|(simp <;> omega)))|(apply Cl.p (less34_p _ _);(focus repeat' (first|fail))))
    all_goals exact PA.lp (i + 1, _, _, _) ⟨by repeat first|trivial|refine ⟨rfl,?_⟩,by repeat first|exact .nil|refine .cons (by repeat constructor) ?_⟩ ⟨⟨hin, by simp only [List.length_append, List.length_singleton];omega, hq2⟩, by simp only;omega⟩
def LatK (a b : MkS) : Prop := b.time < a.time ∨ a.time = b.time ∧ b.rep < a.rep
instance (a b : MkS) : Decidable (LatK a b) := by unfold LatK;infer_instance
theorem later34_p (a b : MkS) : CallP Tryz.prog 280 [mA a, mA b] (bl (decide (LatK a b))) := by
 refine CallA.of pg ord280 Tryz.func280 rfl Tryz.ntmps280 Tryz.results280 rfl fun h0 G0 O0 => ?_
 repeat' (first|refine Sp.h ?_|refine Lk.r rfl ?_|refine Rf.mk rfl ?_|(apply Bd.t;(focus first|assumption|omega|rfl))|(apply Bd.f;(focus first|assumption|omega|exact Bool.false_ne_true))|(refine Bd.mk ?_ ?_ <;> intro _)|(refine All.mk ?_;intro _)|(apply TkB.r;(focus repeat constructor))|(apply Nm.r;focus repeat constructor)|fail)
 all_goals exact Fin.p rfl (vb (by first|exact (decide_eq_true (by unfold LatK;omega)).symm|exact (decide_eq_false (by unfold LatK;omega)).symm|exact decide_eq_decide.2 (by unfold LatK;omega)))
theorem updF_at {us : List UpS} {c : Int} {k : Nat} {u : UpS} (hu : us[k]? = some u) (hc : u.2.1 = c) (hd : ∀ w ∈ us.drop (k + 1), w.2.1 ≠ c) : updF us c = some u := by
 have hk := (List.getElem?_eq_some_iff.1 hu).1
 have h9 := List.drop_eq_getElem_cons hk
 rw [(List.getElem?_eq_some_iff.1 hu).2] at h9
 have hsp : us = us.take k ++ u :: us.drop (k + 1) := by rw [← h9, List.take_append_drop]
 unfold updF
 rw [hsp, List.reverse_append, List.reverse_cons, List.append_assoc, List.find?_append]
 have hn : (us.drop (k + 1)).reverse.find? (fun u => decide (u.2.1 = c)) = none := List.find?_eq_none.2 fun w hw => by
  simpa using hd w (List.mem_reverse.1 hw)
 rw [hn]
 simp [hc]
theorem updF_none {us : List UpS} {c : Int} (hd : ∀ w ∈ us, w.2.1 ≠ c) : updF us c = none :=
 List.find?_eq_none.2 fun w hw => by simpa using hd w (List.mem_reverse.1 hw)
def lastU (us : List UpS) (c : Int) : UpS := (updF us c).getD (0, 0, 0)
set_option maxHeartbeats 1000000 in
theorem last34_p (us : List UpS) (c : Int) (hl : us.length ≤ 1000000) : CallP Tryz.prog 247 [.sl 3 us updC, it c] (.tup [.agg (updC (lastU us c)), bl (updF us c).isSome]) := by
 refine CallA.of pg ord247 Tryz.func247 rfl Tryz.ntmps247 Tryz.results247 rfl fun h0 G0 O0 => ?_
 repeat' (first|refine Sp.h ?_|refine Lk.r rfl ?_|refine Rf.mk rfl ?_|(refine Im.mk ?_;intro _)|(refine All.mk ?_;intro _)|(apply Nm.r;focus repeat constructor)|(apply Ov.n;(focus first|omega|(simp <;> omega)))|fail)
 rename_i b4 _
 refine CA.loop (fun k : Nat => ⟨[(0, .sl 3 us updC), (1, it c), (4, pm b4), (6, it ((k : Int) - 1))], [blkR b4 153 [it 0, it 0, it 0]]⟩) (fun k => k ≤ us.length ∧ ∀ w ∈ us.drop k, w.2.1 ≠ c) (fun k => k) us.length ⟨by repeat first|trivial|refine ⟨rfl,?_⟩,by repeat first|exact .nil|refine .cons (by repeat constructor) ?_⟩ ⟨Nat.le_refl _, by simp⟩ ?_
 intro k ⟨hk, hd⟩
 cases k with
 | zero =>
  have hn := updF_none (us := us) (c := c) (by simpa using hd)
  rw [lastU, hn]
  repeat' (first|refine Sp.h ?_|refine Lk.r rfl ?_|refine Rf.mk rfl ?_|(apply Bd.f;(focus first|assumption|omega|exact Bool.false_ne_true))|(apply TkB.r;(focus repeat constructor))|(apply SetAsk.r;(focus (repeat (first|exact SetAs.z|(apply SetAs.c;(focus (repeat first|assumption|constructor)))))))|(apply Fk.r;(focus (repeat (first|exact FillA.nil|(apply FillA.agg;(focus rfl);(focus rfl);(focus (repeat (first|exact SetAs.z|(apply SetAs.c;(focus (repeat first|assumption|constructor)))))))|(apply FillA.one;(focus rfl);(focus infer_instance);(focus (repeat first|assumption|constructor)))))))|(apply Nm.r;focus repeat constructor)|fail)
  exact Fin.p rfl rfl
 | succ k =>
  obtain ⟨⟨u1, u2, u3⟩, hu⟩ := get_of (l := us) (i := k) (by omega)
  have e1 : ((k + 1 : Nat) : Int) - 1 = (k : Nat) := by omega
  rw [e1]
  by_cases hc : u2 = c
  ·have hs := updF_at hu hc hd
   rw [lastU, hs]
   repeat' (first|refine Sp.h ?_|refine Lk.r rfl ?_|refine Rf.mk rfl ?_|(apply Bd.t;(focus first|assumption|omega|rfl))|(apply TkB.r;(focus repeat constructor))|(apply Ix.q;(focus exact rfl);(focus assumption))|refine Ch.l ⟨rfl, rfl⟩ ?_|(apply SetAsk.r;(focus (repeat (first|exact SetAs.z|(apply SetAs.c;(focus (repeat first|assumption|constructor)))))))|(apply Nm.r;focus repeat constructor)|fail)
   all_goals exact Fin.p rfl rfl
  ·repeat' (first|refine Sp.h ?_|refine Lk.r rfl ?_|refine Rf.mk rfl ?_|(apply Bd.t;(focus first|assumption|omega|rfl))|(apply Bd.f;(focus first|assumption|omega|exact Bool.false_ne_true))|(apply Ix.q;(focus exact rfl);(focus assumption))|(apply Ov.n;(focus first|omega|(simp <;> omega)))|fail)
   all_goals exact PA.lp k ⟨by repeat first|trivial|refine ⟨rfl,?_⟩,by repeat first|exact .nil|refine .cons (by repeat constructor) ?_⟩ ⟨⟨by omega, fun w hw => by
    have hk2 : k < us.length := by omega
    rw [List.drop_eq_getElem_cons hk2, (List.getElem?_eq_some_iff.1 hu).2] at hw
    rcases List.mem_cons.1 hw with rfl|hw
    ·exact hc
    ·exact hd w hw⟩, by omega⟩
noncomputable def refU (k : Int) (g : MgS) (u : UpS) (e : EvS) : MgS × Bool :=
 if k = 2 ∧ u.1 = 0 ∨ k = 3 ∧ u.1 = 1 then (if HasNm g.marks ⟨e.rep, e.num, e.time, 0⟩ then (⟨g.put, g.drop, []⟩, true) else (⟨g.put, g.drop, addL g.marks ⟨e.rep, e.num, e.time, 0⟩⟩, false))
 else if k = 2 ∧ u.1 = 1 then (⟨false, g.drop, fgK e.past g.marks⟩, false)
 else if k = 3 ∧ u.1 = 0 then (⟨true, false, fgK e.past g.marks⟩, false)
 else if k = 4 ∧ u.1 = 2 then (match g.marks with
  | [] => (⟨g.put, g.drop, [⟨e.rep, e.num, e.time, u.2.2⟩]⟩, false)
  | y :: r => (⟨g.put, g.drop, if LatK ⟨e.rep, e.num, e.time, u.2.2⟩ y then [⟨e.rep, e.num, e.time, u.2.2⟩] else y :: r⟩, false))
 else if k = 5 ∧ u.1 = 2 then (if HasNm (fgK e.past g.marks) ⟨e.rep, e.num, e.time, u.2.2⟩ then (⟨g.put, g.drop, []⟩, true) else (⟨g.put, g.drop, addL (fgK e.past g.marks) ⟨e.rep, e.num, e.time, u.2.2⟩⟩, false))
 else (g, false)
set_option maxHeartbeats 8000000 in
theorem update34_p (k : Int) (g : MgS) (u : UpS) (e : EvS) (hl : g.marks.length ≤ 10000) : CallP Tryz.prog 248 [it k, .agg (mgC g), .agg (updC u), evA' e] (.tup [.agg (mgC (refU k g u e).1), bl (refU k g u e).2]) := by
 obtain ⟨u1, u2, u3⟩ := u
 obtain ⟨gp, gd, gm⟩ := g
 simp only at hl
 have hun := unseen_p gm e.past (by omega)
 have hfl : (fgK e.past gm).length ≤ gm.length := List.length_filter_le _ _
 by_cases c1 : k = 2 ∧ u1 = 0 ∨ k = 3 ∧ u1 = 1
 ·by_cases hn : HasNm gm ⟨e.rep, e.num, e.time, 0⟩
  ·have hF : refU k ⟨gp, gd, gm⟩ (u1, u2, u3) e = (⟨gp, gd, []⟩, true) := by unfold refU;rw [if_pos c1, if_pos hn]
   rw [hF]
   have had := add34_h gm ⟨e.rep, e.num, e.time, 0⟩ hn (by omega)
   refine CallA.conv (a := .tup [.agg [bl gp, bl gd, .val (.slice none 0 0)], bl true]) (.tup (.cons (.agg (.cons (ALe.refl _) (.cons (ALe.refl _) (.cons ALe.nil .nil)))) (.cons (ALe.refl _) .nil))) ?_
   refine CallA.of pg ord248 Tryz.func248 rfl Tryz.ntmps248 Tryz.results248 rfl fun h0 G0 O0 => ?_
   rcases c1 with ⟨rfl, rfl⟩|⟨rfl, rfl⟩
   ·repeat' (first|refine Sp.h ?_|refine Lk.r rfl ?_|refine Rf.mk rfl ?_|(apply Bd.t;(focus first|assumption|omega|rfl))|(refine All.mk ?_;intro _)|(apply TkB.r;(focus repeat constructor))|refine Ch.l ⟨rfl, rfl⟩ ?_|(apply SetAk.r;(focus (repeat first|assumption|constructor)))|(apply SetAsk.r;(focus (repeat (first|exact SetAs.z|(apply SetAs.c;(focus (repeat first|assumption|constructor)))))))|(apply Fk.r;(focus (repeat (first|exact FillA.nil|(apply FillA.agg;(focus rfl);(focus rfl);(focus (repeat (first|exact SetAs.z|(apply SetAs.c;(focus (repeat first|assumption|constructor)))))))|(apply FillA.one;(focus rfl);(focus infer_instance);(focus (repeat first|assumption|constructor)))))))|(apply Nm.r;focus repeat constructor)|(apply Cl.p (hun);(focus repeat' (first|exact Lend.nil|apply Lend.keep|fail)))|(apply Cl.p (had);(focus repeat' (first|exact Lend.nil|apply Lend.keep|fail))))
    all_goals exact Fin.p rfl rfl
   ·repeat' (first|refine Sp.h ?_|refine Lk.r rfl ?_|refine Rf.mk rfl ?_|(apply Bd.t;(focus first|assumption|omega|rfl))|(apply Bd.f;(focus first|assumption|omega|exact Bool.false_ne_true))|(refine All.mk ?_;intro _)|(apply TkB.r;(focus repeat constructor))|refine Ch.l ⟨rfl, rfl⟩ ?_|(apply SetAk.r;(focus (repeat first|assumption|constructor)))|(apply SetAsk.r;(focus (repeat (first|exact SetAs.z|(apply SetAs.c;(focus (repeat first|assumption|constructor)))))))|(apply Fk.r;(focus (repeat (first|exact FillA.nil|(apply FillA.agg;(focus rfl);(focus rfl);(focus (repeat (first|exact SetAs.z|(apply SetAs.c;(focus (repeat first|assumption|constructor)))))))|(apply FillA.one;(focus rfl);(focus infer_instance);(focus (repeat first|assumption|constructor)))))))|(apply Nm.r;focus repeat constructor)|(apply Cl.p (hun);(focus repeat' (first|exact Lend.nil|apply Lend.keep|fail)))|(apply Cl.p (had);(focus repeat' (first|exact Lend.nil|apply Lend.keep|fail))))
    all_goals exact Fin.p rfl rfl
  ·have hF : refU k ⟨gp, gd, gm⟩ (u1, u2, u3) e = (⟨gp, gd, addL gm ⟨e.rep, e.num, e.time, 0⟩⟩, false) := by unfold refU;rw [if_pos c1, if_neg hn]
   rw [hF]
   have had := add34_p gm ⟨e.rep, e.num, e.time, 0⟩ hn (by omega)
   refine CallA.of pg ord248 Tryz.func248 rfl Tryz.ntmps248 Tryz.results248 rfl fun h0 G0 O0 => ?_
   rcases c1 with ⟨rfl, rfl⟩|⟨rfl, rfl⟩
   ·repeat' (first|refine Sp.h ?_|refine Lk.r rfl ?_|refine Rf.mk rfl ?_|(apply Bd.t;(focus first|assumption|omega|rfl))|(refine All.mk ?_;intro _)|(apply TkB.r;(focus repeat constructor))|refine Ch.l ⟨rfl, rfl⟩ ?_|(apply SetAk.r;(focus (repeat first|assumption|constructor)))|(apply SetAsk.r;(focus (repeat (first|exact SetAs.z|(apply SetAs.c;(focus (repeat first|assumption|constructor)))))))|(apply Fk.r;(focus (repeat (first|exact FillA.nil|(apply FillA.agg;(focus rfl);(focus rfl);(focus (repeat (first|exact SetAs.z|(apply SetAs.c;(focus (repeat first|assumption|constructor)))))))|(apply FillA.one;(focus rfl);(focus infer_instance);(focus (repeat first|assumption|constructor)))))))|(apply Nm.r;focus repeat constructor)|(apply Cl.p (hun);(focus repeat' (first|exact Lend.nil|apply Lend.keep|fail)))|(apply Cl.p (had);(focus repeat' (first|exact Lend.nil|apply Lend.keep|fail))))
    all_goals exact Fin.p rfl rfl
   ·repeat' (first|refine Sp.h ?_|refine Lk.r rfl ?_|refine Rf.mk rfl ?_|(apply Bd.t;(focus first|assumption|omega|rfl))|(apply Bd.f;(focus first|assumption|omega|exact Bool.false_ne_true))|(refine All.mk ?_;intro _)|(apply TkB.r;(focus repeat constructor))|refine Ch.l ⟨rfl, rfl⟩ ?_|(apply SetAk.r;(focus (repeat first|assumption|constructor)))|(apply SetAsk.r;(focus (repeat (first|exact SetAs.z|(apply SetAs.c;(focus (repeat first|assumption|constructor)))))))|(apply Fk.r;(focus (repeat (first|exact FillA.nil|(apply FillA.agg;(focus rfl);(focus rfl);(focus (repeat (first|exact SetAs.z|(apply SetAs.c;(focus (repeat first|assumption|constructor)))))))|(apply FillA.one;(focus rfl);(focus infer_instance);(focus (repeat first|assumption|constructor)))))))|(apply Nm.r;focus repeat constructor)|(apply Cl.p (hun);(focus repeat' (first|exact Lend.nil|apply Lend.keep|fail)))|(apply Cl.p (had);(focus repeat' (first|exact Lend.nil|apply Lend.keep|fail))))
    all_goals exact Fin.p rfl rfl
 by_cases c2 : k = 2 ∧ u1 = 1
 ·have hF : refU k ⟨gp, gd, gm⟩ (u1, u2, u3) e = (⟨false, gd, fgK e.past gm⟩, false) := by unfold refU;rw [if_neg c1, if_pos c2]
  rw [hF]
  obtain ⟨rfl, rfl⟩ := c2
  refine CallA.of pg ord248 Tryz.func248 rfl Tryz.ntmps248 Tryz.results248 rfl fun h0 G0 O0 => ?_
  repeat' (first|refine Sp.h ?_|refine Lk.r rfl ?_|refine Rf.mk rfl ?_|(apply Bd.t;(focus first|assumption|omega|rfl))|(apply Bd.f;(focus first|assumption|omega|exact Bool.false_ne_true))|(refine All.mk ?_;intro _)|(apply TkB.r;(focus repeat constructor))|refine Ch.l ⟨rfl, rfl⟩ ?_|(apply SetAk.r;(focus (repeat first|assumption|constructor)))|(apply SetAsk.r;(focus (repeat (first|exact SetAs.z|(apply SetAs.c;(focus (repeat first|assumption|constructor)))))))|(apply Fk.r;(focus (repeat (first|exact FillA.nil|(apply FillA.agg;(focus rfl);(focus rfl);(focus (repeat (first|exact SetAs.z|(apply SetAs.c;(focus (repeat first|assumption|constructor)))))))|(apply FillA.one;(focus rfl);(focus infer_instance);(focus (repeat first|assumption|constructor)))))))|(apply Nm.r;focus repeat constructor)|(apply Cl.p (hun);(focus repeat' (first|exact Lend.nil|apply Lend.keep|fail))))
  all_goals exact Fin.p rfl rfl
 by_cases c3 : k = 3 ∧ u1 = 0
 ·have hF : refU k ⟨gp, gd, gm⟩ (u1, u2, u3) e = (⟨true, false, fgK e.past gm⟩, false) := by unfold refU;rw [if_neg c1, if_neg c2, if_pos c3]
  rw [hF]
  obtain ⟨rfl, rfl⟩ := c3
  refine CallA.of pg ord248 Tryz.func248 rfl Tryz.ntmps248 Tryz.results248 rfl fun h0 G0 O0 => ?_
  repeat' (first|refine Sp.h ?_|refine Lk.r rfl ?_|refine Rf.mk rfl ?_|(apply Bd.t;(focus first|assumption|omega|rfl))|(apply Bd.f;(focus first|assumption|omega|exact Bool.false_ne_true))|(refine All.mk ?_;intro _)|(apply TkB.r;(focus repeat constructor))|refine Ch.l ⟨rfl, rfl⟩ ?_|(apply SetAk.r;(focus (repeat first|assumption|constructor)))|(apply SetAsk.r;(focus (repeat (first|exact SetAs.z|(apply SetAs.c;(focus (repeat first|assumption|constructor)))))))|(apply Fk.r;(focus (repeat (first|exact FillA.nil|(apply FillA.agg;(focus rfl);(focus rfl);(focus (repeat (first|exact SetAs.z|(apply SetAs.c;(focus (repeat first|assumption|constructor)))))))|(apply FillA.one;(focus rfl);(focus infer_instance);(focus (repeat first|assumption|constructor)))))))|(apply Nm.r;focus repeat constructor)|(apply Cl.p (hun);(focus repeat' (first|exact Lend.nil|apply Lend.keep|fail))))
  all_goals exact Fin.p rfl rfl
 by_cases c4 : k = 4 ∧ u1 = 2
 ·obtain ⟨rfl, rfl⟩ := c4
  cases gm with
  | nil =>
   have hF : refU 4 ⟨gp, gd, []⟩ (2, u2, u3) e = (⟨gp, gd, [⟨e.rep, e.num, e.time, u3⟩]⟩, false) := by unfold refU;rw [if_neg c1, if_neg c2, if_neg c3, if_pos ⟨rfl, rfl⟩]
   rw [hF]
   have hz : (((⟨gp, gd, []⟩ : MgS).marks.length : Nat) : Int) = 0 := rfl
   refine CallA.of pg ord248 Tryz.func248 rfl Tryz.ntmps248 Tryz.results248 rfl fun h0 G0 O0 => ?_
   (repeat' (first|(show CA _ _ (Code.region 17 _ _) _ _;apply Stopped.out)|refine Sp.h ?_|refine Lk.r rfl ?_|refine Rf.mk rfl ?_|(apply Bd.t;(focus first|assumption|omega|rfl))|(apply Bd.f;(focus first|assumption|omega|exact Bool.false_ne_true))|refine OpK.r rfl ?_|(refine Im.mk ?_;intro _)|(refine All.mk ?_;intro _)|(apply TkB.r;(focus repeat constructor))|refine Ch.l ⟨rfl, rfl⟩ ?_|(apply SetAk.r;(focus (repeat first|assumption|constructor)))|(apply SetAsk.r;(focus (repeat (first|exact SetAs.z|(apply SetAs.c;(focus (repeat first|assumption|constructor)))))))|(apply Fk.r;(focus (repeat (first|exact FillA.nil|(apply FillA.agg;(focus rfl);(focus rfl);(focus (repeat (first|exact SetAs.z|(apply SetAs.c;(focus (repeat first|assumption|constructor)))))))|(apply FillA.one;(focus rfl);(focus infer_instance);(focus (repeat first|assumption|constructor)))))))|(apply Nm.r;focus repeat constructor)|refine Rf.mk ⟨rfl, rfl, rfl⟩ ?_|(apply CA.draw;(focus rfl);(focus kernel_rfl);(focus kernel_rfl);(focus repeat' constructor);(focus rfl))|(apply Cl.p (hun);(focus repeat' (first|exact Lend.nil|apply Lend.keep|fail)))));any_goals apply Stopped.mk
   all_goals
    rename_i b5 _ _ _ _ _ _
    apply CA.retype (m := [(⟨e.rep, e.num, e.time, u3⟩ : MkS)]) (g := mkC)
    focus (repeat constructor)
    focus rfl
    (apply CA.own;(focus (apply OX.blk (b := b5);(focus repeat constructor);(focus (repeat' (first|exact FX.nil|(apply FX.s1;(focus repeat constructor);(focus first|omega|(simp;done)|(simp;omega)))|apply FX.k)));(focus repeat constructor))))
    repeat' (first|refine Sp.h ?_|refine Lk.r rfl ?_|refine Rf.mk rfl ?_|(apply TkB.r;(focus repeat constructor))|refine Ch.l ⟨rfl, rfl⟩ ?_|(apply SetAsk.r;(focus (repeat (first|exact SetAs.z|(apply SetAs.c;(focus (repeat first|assumption|constructor)))))))|(apply Nm.r;focus repeat constructor)|fail)
    all_goals exact Fin.p rfl rfl
  | cons y r =>
   have hla := later34_p ⟨e.rep, e.num, e.time, u3⟩ y
   have hz : ¬ (((⟨gp, gd, y :: r⟩ : MgS).marks.length : Nat) : Int) = 0 := by simp;omega
   have hix : (⟨gp, gd, y :: r⟩ : MgS).marks[0]? = some y := rfl
   by_cases hy : LatK ⟨e.rep, e.num, e.time, u3⟩ y
   ·have hF : refU 4 ⟨gp, gd, y :: r⟩ (2, u2, u3) e = (⟨gp, gd, [⟨e.rep, e.num, e.time, u3⟩]⟩, false) := by unfold refU;rw [if_neg c1, if_neg c2, if_neg c3, if_pos ⟨rfl, rfl⟩];simp only;rw [if_pos hy]
    rw [hF]
    refine CallA.of pg ord248 Tryz.func248 rfl Tryz.ntmps248 Tryz.results248 rfl fun h0 G0 O0 => ?_
    (repeat' (first|(show CA _ _ (Code.region 17 _ _) _ _;apply Stopped.out)|refine Sp.h ?_|refine Lk.r rfl ?_|refine Rf.mk rfl ?_|(apply Bd.t;(focus first|assumption|omega|rfl))|(apply Bd.f;(focus first|assumption|omega|exact Bool.false_ne_true))|refine OpK.r rfl ?_|(refine Im.mk ?_;intro _)|(refine All.mk ?_;intro _)|(apply TkB.r;(focus repeat constructor))|(apply Ix.q;(focus exact rfl);(focus assumption))|refine Ch.l ⟨rfl, rfl⟩ ?_|(apply SetAk.r;(focus (repeat first|assumption|constructor)))|(apply SetAsk.r;(focus (repeat (first|exact SetAs.z|(apply SetAs.c;(focus (repeat first|assumption|constructor)))))))|(apply Fk.r;(focus (repeat (first|exact FillA.nil|(apply FillA.agg;(focus rfl);(focus rfl);(focus (repeat (first|exact SetAs.z|(apply SetAs.c;(focus (repeat first|assumption|constructor)))))))|(apply FillA.one;(focus rfl);(focus infer_instance);(focus (repeat first|assumption|constructor)))))))|(apply Nm.r;focus repeat constructor)|refine Rf.mk ⟨rfl, rfl, rfl⟩ ?_|(apply CA.draw;(focus rfl);(focus kernel_rfl);(focus kernel_rfl);(focus repeat' constructor);(focus rfl))|(apply Cl.p (hun);(focus ((repeat' (first|exact Lend.nil|apply Lend.keep|fail));done)))|(apply Cl.p (hla);(focus ((repeat' (first|exact Lend.nil|apply Lend.keep|fail));done)))));any_goals apply Stopped.mk
    all_goals
     rename_i b5 _ _ _ _ _ _
     apply CA.retype (m := [(⟨e.rep, e.num, e.time, u3⟩ : MkS)]) (g := mkC)
     focus (repeat constructor)
     focus rfl
     (apply CA.own;(focus (apply OX.blk (b := b5);(focus repeat constructor);(focus (repeat' (first|exact FX.nil|(apply FX.s1;(focus repeat constructor);(focus first|omega|(simp;done)|(simp;omega)))|apply FX.k)));(focus repeat constructor))))
     repeat' (first|refine Sp.h ?_|refine Lk.r rfl ?_|refine Rf.mk rfl ?_|(apply TkB.r;(focus repeat constructor))|refine Ch.l ⟨rfl, rfl⟩ ?_|(apply SetAsk.r;(focus (repeat (first|exact SetAs.z|(apply SetAs.c;(focus (repeat first|assumption|constructor)))))))|(apply Nm.r;focus repeat constructor)|fail)
     all_goals exact Fin.p rfl rfl
   ·have hF : refU 4 ⟨gp, gd, y :: r⟩ (2, u2, u3) e = (⟨gp, gd, y :: r⟩, false) := by unfold refU;rw [if_neg c1, if_neg c2, if_neg c3, if_pos ⟨rfl, rfl⟩];simp only;rw [if_neg hy]
    rw [hF]
    refine CallA.of pg ord248 Tryz.func248 rfl Tryz.ntmps248 Tryz.results248 rfl fun h0 G0 O0 => ?_
    repeat' (first|refine Sp.h ?_|refine Lk.r rfl ?_|refine Rf.mk rfl ?_|(apply Bd.t;(focus first|assumption|omega|rfl))|(apply Bd.f;(focus first|assumption|omega|exact Bool.false_ne_true))|refine OpK.r rfl ?_|(refine Im.mk ?_;intro _)|(refine All.mk ?_;intro _)|(apply TkB.r;(focus repeat constructor))|(apply Ix.q;(focus exact rfl);(focus assumption))|refine Ch.l ⟨rfl, rfl⟩ ?_|(apply SetAk.r;(focus (repeat first|assumption|constructor)))|(apply SetAsk.r;(focus (repeat (first|exact SetAs.z|(apply SetAs.c;(focus (repeat first|assumption|constructor)))))))|(apply Fk.r;(focus (repeat (first|exact FillA.nil|(apply FillA.agg;(focus rfl);(focus rfl);(focus (repeat (first|exact SetAs.z|(apply SetAs.c;(focus (repeat first|assumption|constructor)))))))|(apply FillA.one;(focus rfl);(focus infer_instance);(focus (repeat first|assumption|constructor)))))))|(apply Nm.r;focus repeat constructor)|(apply CA.draw;(focus rfl);(focus kernel_rfl);(focus kernel_rfl);(focus repeat' constructor);(focus rfl))|(apply Cl.p (hun);(focus repeat' (first|exact Lend.nil|apply Lend.keep|fail)))|(apply Cl.p (hla);(focus repeat' (first|exact Lend.nil|apply Lend.keep|fail))))
    all_goals exact Fin.p rfl rfl
 by_cases c5 : k = 5 ∧ u1 = 2
 ·by_cases hn : HasNm (fgK e.past gm) ⟨e.rep, e.num, e.time, u3⟩
  ·have hF : refU k ⟨gp, gd, gm⟩ (u1, u2, u3) e = (⟨gp, gd, []⟩, true) := by unfold refU;rw [if_neg c1, if_neg c2, if_neg c3, if_neg c4, if_pos c5, if_pos hn]
   rw [hF]
   have had := add34_h (fgK e.past gm) ⟨e.rep, e.num, e.time, u3⟩ hn (by omega)
   refine CallA.conv (a := .tup [.agg [bl gp, bl gd, .val (.slice none 0 0)], bl true]) (.tup (.cons (.agg (.cons (ALe.refl _) (.cons (ALe.refl _) (.cons ALe.nil .nil)))) (.cons (ALe.refl _) .nil))) ?_
   obtain ⟨rfl, rfl⟩ := c5
   refine CallA.of pg ord248 Tryz.func248 rfl Tryz.ntmps248 Tryz.results248 rfl fun h0 G0 O0 => ?_
   repeat' (first|refine Sp.h ?_|refine Lk.r rfl ?_|refine Rf.mk rfl ?_|(apply Bd.t;(focus first|assumption|omega|rfl))|(apply Bd.f;(focus first|assumption|omega|exact Bool.false_ne_true))|(refine All.mk ?_;intro _)|(apply TkB.r;(focus repeat constructor))|refine Ch.l ⟨rfl, rfl⟩ ?_|(apply SetAk.r;(focus (repeat first|assumption|constructor)))|(apply SetAsk.r;(focus (repeat (first|exact SetAs.z|(apply SetAs.c;(focus (repeat first|assumption|constructor)))))))|(apply Fk.r;(focus (repeat (first|exact FillA.nil|(apply FillA.agg;(focus rfl);(focus rfl);(focus (repeat (first|exact SetAs.z|(apply SetAs.c;(focus (repeat first|assumption|constructor)))))))|(apply FillA.one;(focus rfl);(focus infer_instance);(focus (repeat first|assumption|constructor)))))))|(apply Nm.r;focus repeat constructor)|(apply Cl.p (hun);(focus repeat' (first|exact Lend.nil|apply Lend.keep|fail)))|(apply Cl.p (had);(focus repeat' (first|exact Lend.nil|apply Lend.keep|fail))))
   all_goals exact Fin.p rfl rfl
  ·have hF : refU k ⟨gp, gd, gm⟩ (u1, u2, u3) e = (⟨gp, gd, addL (fgK e.past gm) ⟨e.rep, e.num, e.time, u3⟩⟩, false) := by unfold refU;rw [if_neg c1, if_neg c2, if_neg c3, if_neg c4, if_pos c5, if_neg hn]
   rw [hF]
   have had := add34_p (fgK e.past gm) ⟨e.rep, e.num, e.time, u3⟩ hn (by omega)
   obtain ⟨rfl, rfl⟩ := c5
   refine CallA.of pg ord248 Tryz.func248 rfl Tryz.ntmps248 Tryz.results248 rfl fun h0 G0 O0 => ?_
   repeat' (first|refine Sp.h ?_|refine Lk.r rfl ?_|refine Rf.mk rfl ?_|(apply Bd.t;(focus first|assumption|omega|rfl))|(apply Bd.f;(focus first|assumption|omega|exact Bool.false_ne_true))|(refine All.mk ?_;intro _)|(apply TkB.r;(focus repeat constructor))|refine Ch.l ⟨rfl, rfl⟩ ?_|(apply SetAk.r;(focus (repeat first|assumption|constructor)))|(apply SetAsk.r;(focus (repeat (first|exact SetAs.z|(apply SetAs.c;(focus (repeat first|assumption|constructor)))))))|(apply Fk.r;(focus (repeat (first|exact FillA.nil|(apply FillA.agg;(focus rfl);(focus rfl);(focus (repeat (first|exact SetAs.z|(apply SetAs.c;(focus (repeat first|assumption|constructor)))))))|(apply FillA.one;(focus rfl);(focus infer_instance);(focus (repeat first|assumption|constructor)))))))|(apply Nm.r;focus repeat constructor)|(apply Cl.p (hun);(focus repeat' (first|exact Lend.nil|apply Lend.keep|fail)))|(apply Cl.p (had);(focus repeat' (first|exact Lend.nil|apply Lend.keep|fail))))
   all_goals exact Fin.p rfl rfl
 have hF : refU k ⟨gp, gd, gm⟩ (u1, u2, u3) e = (⟨gp, gd, gm⟩, false) := by unfold refU;rw [if_neg c1, if_neg c2, if_neg c3, if_neg c4, if_neg c5]
 rw [hF]
 refine CallA.of pg ord248 Tryz.func248 rfl Tryz.ntmps248 Tryz.results248 rfl fun h0 G0 O0 => ?_
 repeat' (first|refine Sp.h ?_|refine Lk.r rfl ?_|refine Rf.mk rfl ?_|(apply Bd.t;(focus first|assumption|omega|rfl))|(apply Bd.f;(focus first|assumption|omega|exact Bool.false_ne_true))|(refine Bd.mk ?_ ?_ <;> intro _)|(refine All.mk ?_;intro _)|(apply TkB.r;(focus repeat constructor))|refine Ch.l ⟨rfl, rfl⟩ ?_|(apply SetAsk.r;(focus (repeat (first|exact SetAs.z|(apply SetAs.c;(focus (repeat first|assumption|constructor)))))))|(apply Fk.r;(focus (repeat (first|exact FillA.nil|(apply FillA.agg;(focus rfl);(focus rfl);(focus (repeat (first|exact SetAs.z|(apply SetAs.c;(focus (repeat first|assumption|constructor)))))))|(apply FillA.one;(focus rfl);(focus infer_instance);(focus (repeat first|assumption|constructor)))))))|(apply Nm.r;focus repeat constructor)|(apply Cl.p (hun);(focus repeat' (first|exact Lend.nil|apply Lend.keep|fail))))
 all_goals exact Fin.p rfl rfl
end Go.Proofs.YtmllihbhphnolaaGreat
namespace Go.Proofs.YtmllihbhphnolaaGreat
open Go Go.CF
set_option maxRecDepth 20000
theorem addL_ins {l : List MkS} {x : MkS} (hs : l.Pairwise LtK) (hn : ¬ HasNm l x) : addL l x = insK l x := by
 obtain ⟨h1, h2⟩ := addL_sk hs hn
 obtain ⟨h3, h4⟩ := ins_lt hs hn
 exact pw_uniq LtK_asymm _ _ h1 h3 fun y => (h2 y).trans (h4 y).symm
theorem insK_len (l : List MkS) (x : MkS) : (insK l x).length = l.length + 1 := by
 have := posK_le l x
 unfold insK
 simp
 omega
theorem cmp2_lat (a b : MkS) : cmp2 a b < 0 ↔ LatK b a := by
 unfold cmp2 orI cmpI LatK
 by_cases h1 : a.time < b.time
 ·simp [h1]
 ·by_cases h2 : b.time < a.time
  ·simp [h1, h2]
   try omega
  ·by_cases h3 : a.rep < b.rep
   ·simp [h1, h2, h3]
    try omega
   ·by_cases h4 : b.rep < a.rep
    ·simp [h1, h2, h3, h4]
     try omega
    ·simp [h1, h2, h3, h4]
structure RefC (a : MgS × Bool) (b : Int × MgS) : Prop where
 ag : a.2 = true ↔ b.1 = 6
 lg : 1024 < a.1.marks.length ↔ b.1 = 8
 ok : b.1 = 0 → a.1 = b.2
 cs : b.1 = 0 ∨ b.1 = 6 ∨ b.1 = 8
theorem ref_add {l : List MkS} {x : MkS} (p d : Bool) (hs : l.Pairwise LtK) (hl : l.length ≤ 1024) :
  RefC (if HasNm l x then (⟨p, d, []⟩, true) else (⟨p, d, addL l x⟩, false)) ((addF l x).1, ⟨p, d, (addF l x).2⟩) := by
 unfold addF
 by_cases h : HasNm l x
 ·rw [if_pos h, if_pos h]
  exact ⟨by simp, by simp, by simp, by simp⟩
 ·rw [if_neg h, if_neg h, addL_ins hs h]
  have hlen := insK_len l x
  by_cases h2 : 1024 ≤ l.length
  ·rw [if_pos h2]
   exact ⟨by simp, by simp only [hlen];exact ⟨fun _ => trivial, fun _ => by omega⟩, by simp, by simp⟩
  ·rw [if_neg h2]
   exact ⟨by simp, by simp only [hlen];constructor <;> intro h9 <;> first|omega|(cases h9), by simp, by simp⟩
theorem ref_cell {t : TblS} {g : MgS} (u : UpS) (e : EvS) (hv : ValG t g) : RefC (refU t.kind g u e) (cellF e t (some u) g) := by
 have hg := hv.good.1
 have hl : g.marks.length ≤ 1024 := hv.1.2.2.2
 have hf : (fgK e.past g.marks).length ≤ g.marks.length := List.length_filter_le _ _
 have hfs : (fgK e.past g.marks).Pairwise LtK := List.Pairwise.filter _ hg
 have hk : ∀ v : Int, ¬ isReg t.kind → (if isReg t.kind then v else 0) = 0 := fun v h => if_neg h
 unfold refU cellF
 simp only
 by_cases c1 : t.kind = 2 ∧ u.1 = 0 ∨ t.kind = 3 ∧ u.1 = 1
 ·rw [if_pos c1, if_pos c1, hk _ (by unfold isReg;omega)]
  exact ref_add g.put g.drop hg hl
 rw [if_neg c1, if_neg c1]
 by_cases c2 : t.kind = 2 ∧ u.1 = 1
 ·rw [if_pos c2, if_pos c2]
  exact ⟨by simp, by simp only;constructor <;> intro h9 <;> first|omega|(cases h9), by simp, by simp⟩
 rw [if_neg c2, if_neg c2]
 by_cases c3 : t.kind = 3 ∧ u.1 = 0
 ·rw [if_pos c3, if_pos c3]
  exact ⟨by simp, by simp only;constructor <;> intro h9 <;> first|omega|(cases h9), by simp, by simp⟩
 rw [if_neg c3, if_neg c3]
 by_cases c4 : t.kind = 4 ∧ u.1 = 2
 ·rw [if_pos c4, if_pos c4, if_pos (show isReg t.kind from .inl c4.1)]
  have h1 : ¬ 1 < g.marks.length := fun h => hv.1.2.2.1 ⟨c4.1, h⟩
  obtain ⟨gp, gd, gm⟩ := g
  cases gm with
  | nil =>
   have hn : ¬ HasNm ([] : List MkS) ⟨e.rep, e.num, e.time, u.2.2⟩ := fun ⟨y, hy, _⟩ => by cases hy
   have ha : addF [] (⟨e.rep, e.num, e.time, u.2.2⟩ : MkS) = (0, [⟨e.rep, e.num, e.time, u.2.2⟩]) := by
    unfold addF
    rw [if_neg hn, if_neg (by simp)]
    simp [insK, posK, idxN]
   simp only [lastF, ha]
   exact ⟨by simp, by simp, by simp, by simp⟩
  | cons y r =>
   have hr : r = [] := by cases r with
    | nil => rfl
    | cons a r => simp at h1
   subst hr
   have hc := cmp2_lat y ⟨e.rep, e.num, e.time, u.2.2⟩
   simp only [lastF]
   by_cases hy : LatK ⟨e.rep, e.num, e.time, u.2.2⟩ y
   ·rw [if_pos hy, if_pos (hc.2 hy)]
    exact ⟨by simp, by simp, by simp, by simp⟩
   ·rw [if_neg hy, if_neg (fun h => hy (hc.1 h))]
    exact ⟨by simp, by simp, by simp, by simp⟩
 rw [if_neg c4, if_neg c4]
 by_cases c5 : t.kind = 5 ∧ u.1 = 2
 ·rw [if_pos c5, if_pos c5, if_pos (show isReg t.kind from .inr c5.1)]
  exact ref_add g.put g.drop hfs (by omega)
 rw [if_neg c5, if_neg c5]
 exact ⟨by simp, by simp only;constructor <;> intro h9 <;> first|omega|(cases h9), by simp, by simp⟩
end Go.Proofs.YtmllihbhphnolaaGreat
namespace Go.Proofs.YtmllihbhphnolaaGreat
open Go Go.CF
set_option maxRecDepth 20000
theorem evalid32_p (m : ModS) (n : Int) (e : EvS) : CallP Tryz.prog 111 [mdl m, it n, evA' e] (bl (decide (EvV m n e))) := by
 have hf := formedR_p e
 refine CallA.of pg ord111 Tryz.func111 rfl Tryz.ntmps111 Tryz.results111 rfl fun h0 G0 O0 => ?_
 repeat' (first|refine Sp.h ?_|refine Lk.r rfl ?_|refine Rf.mk rfl ?_|(apply Bd.t;(focus first|assumption|omega|rfl))|(apply Bd.f;(focus first|assumption|omega|exact Bool.false_ne_true))|(refine Bd.mk ?_ ?_ <;> intro _)|(refine Im.mk ?_;intro _)|(refine All.mk ?_;intro _)|(apply TkB.r;(focus repeat constructor))|refine Ch.l ⟨rfl, rfl⟩ ?_|(apply Nm.r;focus repeat constructor)|(apply Cl.p (hf);(focus repeat' (first|exact Lend.nil|apply Lend.keep|fail))))
 all_goals refine Fin.p rfl (vb ?_)
 all_goals first
  | exact (decide_eq_false (fun h => by
    obtain ⟨h1, h2, h3⟩ := h
    first
     | exact absurd h1 (by assumption)
     | omega)).symm
  | exact (decide_eq_true ⟨by assumption, by omega, by omega⟩).symm
  | exact decide_eq_decide.2 ⟨fun h => ⟨by assumption, by omega, by omega⟩, fun h => by
    obtain ⟨h1, h2, h3⟩ := h
    omega⟩
structure RInv (l : List MgS) (C : List (Int × MgS)) (i : Nat) (out : List MgS) (ex lg : Bool) : Prop where
 le : i ≤ l.length
 len : out.length = l.length
 rest : out.drop i = l.drop i
 ex : ex = true ↔ ∃ p ∈ C.take i, p.1 = 6
 lg : lg = true ↔ ∃ p ∈ C.take i, p.1 = 8
 ok : (∀ p ∈ C.take i, p.1 = 0) → out.take i = (C.take i).map (·.2)
 cs : ∀ p ∈ C.take i, p.1 = 0 ∨ p.1 = 6 ∨ p.1 = 8
theorem RInv.zero (l : List MgS) (C : List (Int × MgS)) : RInv l C 0 l false false := ⟨Nat.zero_le _, rfl, rfl, by simp, by simp, by simp, by simp⟩
theorem RInv.step {l : List MgS} {C : List (Int × MgS)} {i : Nat} {out : List MgS} {ex lg : Bool} {c : Int × MgS} {x : MgS × Bool} (h : RInv l C i out ex lg) (hi : i < l.length) (hc : C[i]? = some c) (hr : RefC x c) :
  RInv l C (i + 1) (out.set i x.1) (ex || x.2) (lg || decide (1024 < x.1.marks.length)) := by
 have ht : C.take (i + 1) = C.take i ++ [c] := by rw [List.take_add_one, hc];rfl
 refine ⟨hi, by rw [List.length_set];exact h.len, ?_, ?_, ?_, fun h0 => ?_, fun p hp => ?_⟩
 ·rw [List.drop_set_of_lt (by omega)]
  have := congrArg (List.drop 1) h.rest
  simpa [List.drop_drop, Nat.add_comm] using this
 ·rw [ht, Bool.or_eq_true, h.ex, hr.ag]
  simp only [List.mem_append, List.mem_singleton]
  exact ⟨fun h9 => h9.elim (fun ⟨p, h1, h2⟩ => ⟨p, .inl h1, h2⟩) fun h9 => ⟨c, .inr rfl, h9⟩, fun ⟨p, h1, h2⟩ => h1.elim (fun h1 => .inl ⟨p, h1, h2⟩) fun h1 => .inr (h1 ▸ h2)⟩
 ·rw [ht, Bool.or_eq_true, h.lg, decide_eq_true_eq, hr.lg]
  simp only [List.mem_append, List.mem_singleton]
  exact ⟨fun h9 => h9.elim (fun ⟨p, h1, h2⟩ => ⟨p, .inl h1, h2⟩) fun h9 => ⟨c, .inr rfl, h9⟩, fun ⟨p, h1, h2⟩ => h1.elim (fun h1 => .inl ⟨p, h1, h2⟩) fun h1 => .inr (h1 ▸ h2)⟩
 ·rw [ht] at h0 ⊢
  have h1 := h.ok fun p hp => h0 p (List.mem_append.2 (.inl hp))
  have h2 := hr.ok (h0 c (by simp))
  rw [List.take_add_one, List.getElem?_set, if_pos rfl, if_pos (by rw [h.len];exact hi), List.map_append, ← h1, h2]
  simp only [Option.toList_some, List.map_cons, List.map_nil]
  rw [List.take_set_of_le (Nat.le_refl i)]
 ·rw [ht] at hp
  rcases List.mem_append.1 hp with hp|hp
  ·exact h.cs p hp
  ·rw [List.mem_singleton.1 hp];exact hr.cs
theorem RInv.done {l : List MgS} {C : List (Int × MgS)} {out : List MgS} {ex lg : Bool} (h : RInv l C l.length out ex lg) (hC : C.length = l.length) :
  gatherF C = if ex = true then (6, []) else if lg = true then (8, []) else (0, out) := by
 have hct : C.take l.length = C := List.take_of_length_le (by omega)
 have h1 := h.ex;have h2 := h.lg;have h3 := h.ok;have h4 := h.cs
 rw [hct] at h1 h2 h3 h4
 rw [List.take_of_length_le (by have := h.len;omega)] at h3
 by_cases he : ex = true
 ·rw [if_pos he]
  obtain ⟨p, hp, hp6⟩ := h1.1 he
  unfold gatherF
  cases hf : C.find? fun p => decide (p.1 ≠ 0 ∧ p.1 ≠ 8) with
  | none =>
   have := List.find?_eq_none.1 hf p hp
   simp [hp6] at this
  | some q =>
   have hq := List.find?_some hf
   have hm := List.mem_of_find?_eq_some hf
   rcases h4 q hm with h5|h5|h5
   ·simp [h5] at hq
   ·simp only [h5]
   ·simp [h5] at hq
 ·rw [if_neg he]
  have hn6 : ∀ p ∈ C, p.1 ≠ 6 := fun p hp h9 => he (h1.2 ⟨p, hp, h9⟩)
  rw [gather_end fun p hp => by
   rcases h4 p hp with h5|h5|h5
   ·exact .inl h5
   ·exact absurd h5 (hn6 p hp)
   ·exact .inr h5]
  by_cases hl : lg = true
  ·rw [if_pos hl, if_pos (h2.1 hl)]
  ·rw [if_neg hl, if_neg (fun h9 => hl (h2.2 h9))]
   rw [h3 fun p hp => by
    rcases h4 p hp with h5|h5|h5
    ·exact h5
    ·exact absurd h5 (hn6 p hp)
    ·exact absurd (h2.2 ⟨p, hp, h5⟩) hl]
end Go.Proofs.YtmllihbhphnolaaGreat
namespace Go.Proofs.YtmllihbhphnolaaGreat
open Go Go.CF
set_option maxRecDepth 20000
set_option maxHeartbeats 8000000 in
theorem apply34_p (m : ModS) (l : List MgS) (e : EvS) (hm : MOK m) : CallP Tryz.prog 181 [mdl m, mgs l, evA' e] (.tup [mgs (applyF m l e).2, it (applyF m l e).1]) := by
 have hva := validR34_p m l hm.lay
 have hev := evalid32_p m (e.past.length : Nat) e
 have hbad : ∀ c : Int, CallP Tryz.prog 181 [mdl m, mgs l, evA' e] (.tup [.val (.slice none 0 0), it c]) → CallP Tryz.prog 181 [mdl m, mgs l, evA' e] (.tup [mgs [], it c]) := fun c h =>
  CallA.conv (.tup (.cons ALe.nil (.cons (ALe.refl _) .nil))) h
 by_cases hv : ValL (mrgF m) l ∧ EvV m (e.past.length : Nat) e
 rotate_left
 ·have hF : applyF m l e = (1, []) := if_pos hv
  rw [hF]
  refine hbad 1 ?_
  refine CallA.of pg ord181 Tryz.func181 rfl Tryz.ntmps181 Tryz.results181 rfl fun h0 G0 O0 => ?_
  by_cases h1 : ValL (mrgF m) l
  ·have h2 : ¬ EvV m (e.past.length : Nat) e := fun h => hv ⟨h1, h⟩
   repeat' (first|refine Sp.h ?_|refine Lk.r rfl ?_|refine Rf.mk rfl ?_|(apply Bd.t;(focus first|assumption|omega|rfl))|(apply Bd.f;(focus first|assumption|omega|exact Bool.false_ne_true))|(refine Im.mk ?_;intro _)|(refine All.mk ?_;intro _)|(apply TkB.r;(focus repeat constructor))|refine Ch.l ⟨rfl, rfl⟩ ?_|(apply Nm.r;focus repeat constructor)|(apply Cl.p (hva);(focus repeat' (first|exact Lend.nil|apply Lend.keep|fail)))|(apply Cl.p (hev);(focus repeat' (first|exact Lend.nil|apply Lend.keep|fail))))
   all_goals exact Fin.p rfl rfl
  ·repeat' (first|refine Sp.h ?_|refine Lk.r rfl ?_|refine Rf.mk rfl ?_|(apply Bd.f;(focus first|assumption|omega|exact Bool.false_ne_true))|(refine All.mk ?_;intro _)|(apply TkB.r;(focus repeat constructor))|refine Ch.l ⟨rfl, rfl⟩ ?_|(apply Nm.r;focus repeat constructor)|(apply Cl.p (hva);(focus repeat' (first|exact Lend.nil|apply Lend.keep|fail)))|(apply Cl.p (hev);(focus repeat' (first|exact Lend.nil|apply Lend.keep|fail))))
   all_goals exact Fin.p rfl rfl
 obtain ⟨h1, h2⟩ := hv
 have hl : l.length ≤ 20 := by have := h1.1;have := hm.mrg;omega
 have hce := merged32_p m hm.lay
 by_cases hk : e.kind = 0
 rotate_left
 ·have hF : applyF m l e = (0, l) := by rw [applyF, if_neg (fun h => h ⟨h1, h2⟩), if_pos hk]
  rw [hF]
  refine CallA.fzt (T := 123) (show l.length ≤ _ by omega) ?_
  refine CallA.of pg ord181 Tryz.func181 rfl Tryz.ntmps181 Tryz.results181 rfl fun h0 G0 O0 => ?_
  repeat' (first|refine Sp.h ?_|refine Lk.r rfl ?_|refine Rf.mk rfl ?_|(apply Bd.t;(focus first|assumption|omega|rfl))|(apply Bd.f;(focus first|assumption|omega|exact Bool.false_ne_true))|(apply Om.mk;(focus first|omega|(simp <;> omega)))|(refine Im.mk ?_;intro _)|(refine All.mk ?_;intro _)|(apply TkA.r;(focus repeat constructor))|(apply TkB.r;(focus repeat constructor))|refine Ce.l rfl ?_|refine Ch.l ⟨rfl, rfl⟩ ?_|(apply Fk.r;(focus (repeat (first|exact FillA.nil|(apply FillA.agg;(focus rfl);(focus rfl);(focus (repeat (first|exact SetAs.z|(apply SetAs.c;(focus (repeat first|assumption|constructor)))))))|(apply FillA.one;(focus rfl);(focus infer_instance);(focus (repeat first|assumption|constructor)))))))|(apply Nm.r;focus repeat constructor)|refine Rf.mk ⟨rfl, rfl⟩ ?_|refine Rf.mk ⟨rfl, rfl, rfl⟩ ?_|refine Mp.same ?_|(apply Cl.p (hva);(focus repeat' (first|exact Lend.nil|apply Lend.keep|fail)))|(apply Cl.p (hev);(focus repeat' (first|exact Lend.nil|apply Lend.keep|fail))))
  exact ⟨_, _, .tup (.same (.same (.nil (by (repeat first|exact .nil|refine .cons (by repeat constructor) ?_))))), _, rfl, rfl⟩
 have hF : applyF m l e = gatherF (cellsF (mrgF m) l (usF m e) e) := by rw [applyF, if_neg (fun h => h ⟨h1, h2⟩), if_neg (fun h => h hk)]
 rw [hF]
 have ha1 : 0 ≤ e.action := act_rng h2.1 hk
 have ha2 := h2.2.2 hk
 obtain ⟨a, ha⟩ := get_of (l := m.acts) (i := e.action.toNat) (by omega)
 obtain ⟨n, hn⟩ : ∃ n : Nat, e.action = n := ⟨e.action.toNat, by omega⟩
 have hus : usF m e = a.eff.updates := by rw [usF, ha]
 rw [hn] at ha
 rw [hus]
 have ha3 : m.acts[n]? = some a := by simpa using ha
 have hul := (hm.eff a (List.mem_of_getElem? ha3)).ul
 obtain ⟨C, hC⟩ : ∃ C, C = cellsF (mrgF m) l a.eff.updates e := ⟨_, rfl⟩
 have hCl : C.length = l.length := by rw [hC];exact cellsF_len
 rw [← hC]
 have key : CallA Tryz.prog 181 [mdl m, mgs l, evA' e] [] fun r own => ∃ out ex lg, RInv l C l.length out ex lg ∧ (if ex = true then r = .tup [.val (.slice none 0 0), it 6] ∧ own = [] else if lg = true then r = .tup [.val (.slice none 0 0), it 8] ∧ own = [] else ∃ v, r = .tup [.ow v, it 0] ∧ own = [arrR v 123 3 out mgC]) := by
  refine CallA.of pg ord181 Tryz.func181 rfl Tryz.ntmps181 Tryz.results181 rfl fun h0 G0 O0 => ?_
  repeat' (first|refine Sp.h ?_|refine Lk.r rfl ?_|refine Rf.mk rfl ?_|(apply Bd.t;(focus first|assumption|omega|rfl))|(apply Om.mk;(focus first|omega|(simp <;> omega)))|(refine Im.mk ?_;intro _)|(refine All.mk ?_;intro _)|(apply TkA.r;(focus repeat constructor))|(apply TkB.r;(focus repeat constructor))|refine Ce.l rfl ?_|refine Ch.l ⟨rfl, rfl⟩ ?_|(apply Fk.r;(focus (repeat (first|exact FillA.nil|(apply FillA.agg;(focus rfl);(focus rfl);(focus (repeat (first|exact SetAs.z|(apply SetAs.c;(focus (repeat first|assumption|constructor)))))))|(apply FillA.one;(focus rfl);(focus infer_instance);(focus (repeat first|assumption|constructor)))))))|refine Rf.mk ⟨rfl, rfl⟩ ?_|refine Rf.mk ⟨rfl, rfl, rfl⟩ ?_|refine Mp.same ?_|(apply Cl.p (hva);(focus ((repeat' (first|exact Lend.nil|apply Lend.keep|fail));done)))|(apply Cl.p (hev);(focus ((repeat' (first|exact Lend.nil|apply Lend.keep|fail));done)))|(apply Cl.p (hce);(focus ((repeat' (first|exact Lend.nil|apply Lend.keep|fail));done))))
  rename_i b3 b5 _ _ v
  refine CA.loop (fun x : Nat × Value × List MgS × Bool × Bool => ⟨[(3, pm b3), (5, pm b5), (8, .ow x.2.1), (9, tbls (mrgF m)), (10, bl x.2.2.2.1), (11, bl x.2.2.2.2), (12, it x.1)], [mR b3 m, blkR b5 37 (evC e), arrR x.2.1 123 3 x.2.2.1 mgC]⟩)
   (fun x => RInv l C x.1 x.2.2.1 x.2.2.2.1 x.2.2.2.2) (fun x => l.length - x.1) (0, v, l, false, false) ⟨by repeat first|trivial|refine ⟨rfl,?_⟩,by repeat first|exact .nil|refine .cons (by repeat constructor) ?_⟩ (RInv.zero l C) ?_
  rintro ⟨i, w, out, ex, lg⟩ hI
  simp only at hI
  simp only
  have hol := hI.len
  have hoi := hI.le
  by_cases hin : i < l.length
  rotate_left
  ·have hie : i = l.length := by omega
   subst hie
   cases ex
   ·cases lg
    ·repeat' (first|refine Sp.h ?_|refine Lk.r rfl ?_|refine Rf.mk rfl ?_|(apply Bd.f;(focus first|assumption|omega|exact Bool.false_ne_true))|(apply TkA.r;(focus repeat constructor))|(apply Nm.r;focus repeat constructor)|fail)
     exact ⟨_, _, .tup (.same (.same (.nil (by (repeat first|exact .nil|refine .cons (by repeat constructor) ?_))))), out, false, false, hI, w, rfl, rfl⟩
    ·repeat' (first|refine Sp.h ?_|refine Lk.r rfl ?_|refine Rf.mk rfl ?_|(apply Bd.f;(focus first|assumption|omega|exact Bool.false_ne_true))|(apply TkA.r;(focus repeat constructor))|(apply Nm.r;focus repeat constructor)|fail)
     exact ⟨_, _, .tup (.same (.same (.nil (by (repeat first|exact .nil|refine .cons (by repeat constructor) ?_))))), out, false, true, hI, rfl, rfl⟩
   ·repeat' (first|refine Sp.h ?_|refine Lk.r rfl ?_|refine Rf.mk rfl ?_|(apply Bd.f;(focus first|assumption|omega|exact Bool.false_ne_true))|(apply TkA.r;(focus repeat constructor))|(apply Nm.r;focus repeat constructor)|fail)
    exact ⟨_, _, .tup (.same (.same (.nil (by (repeat first|exact .nil|refine .cons (by repeat constructor) ?_))))), out, true, lg, hI, rfl, rfl⟩
  obtain ⟨g, hg⟩ := get_of hin
  obtain ⟨t, ht⟩ := get_of (l := mrgF m) (i := i) (by have := h1.1;omega)
  have hvg := h1.2 i t g ht hg
  have hog : out[i]? = some g := by
   have := congrArg (fun x => x[0]?) hI.rest
   simpa [List.getElem?_drop, hg] using this
  have hCi : C[i]? = some (cellF e t (updF a.eff.updates i) g) := by rw [hC];exact cellsF_at ht hg
  have hla := last34_p a.eff.updates i (by omega)
  have hml : g.marks.length ≤ 1024 := hvg.1.2.2.2
  cases hu : updF a.eff.updates i with
  | none =>
   rw [lastU, hu] at hla
   rw [hu] at hCi
   have hst := hI.step (x := (g, false)) hin hCi ⟨by simp [cellF], by simp only [cellF];constructor <;> intro h9 <;> first|omega|(cases h9), by simp [cellF], by simp [cellF]⟩
   rw [set_same hog, Bool.or_false, decide_eq_false (show ¬ 1024 < ((g, false) : MgS × Bool).1.marks.length by simp only;omega), Bool.or_false] at hst
   repeat' (first|refine Sp.h ?_|refine Lk.r rfl ?_|refine Rf.mk rfl ?_|(apply Bd.t;(focus first|assumption|omega|rfl))|(apply Bd.f;(focus first|assumption|omega|exact Bool.false_ne_true))|(refine All.mk ?_;intro _)|(apply TkA.r;(focus repeat constructor))|(apply TkB.r;(focus repeat constructor))|(apply Ix.r;(focus assumption);(focus omega))|(apply SetAsk.r;(focus (repeat (first|exact SetAs.z|(apply SetAs.c;(focus (repeat first|assumption|constructor)))))))|(apply Nm.r;focus repeat constructor)|(apply Ov.n;(focus first|omega|(simp <;> omega)))|(apply Cl.p (hla);(focus repeat' (first|exact Lend.nil|apply Lend.keep|fail))))
   all_goals exact PA.lp (i + 1, w, out, ex, lg) ⟨by repeat first|trivial|refine ⟨rfl,?_⟩,by repeat first|exact .nil|refine .cons (by repeat constructor) ?_⟩ ⟨hst, by simp only;omega⟩
  | some u =>
   have hup := update34_p t.kind g u e (by omega)
   have hrc := ref_cell u e hvg
   rw [lastU, hu] at hla
   rw [hu] at hCi
   have hst := hI.step hin hCi hrc
   obtain ⟨x, hx⟩ : ∃ x, x = refU t.kind g u e := ⟨_, rfl⟩
   rw [← hx] at hst hup
   obtain ⟨x1, x2⟩ := x
   simp only at hst hup
   have hd : decide (1024 < x1.marks.length) = decide ((1024 : Int) < (x1.marks.length : Nat)) := decide_eq_decide.2 (by omega)
   rw [hd] at hst
   cases ex <;> cases lg <;> cases x2
   all_goals
    simp only [Bool.or_true, Bool.or_false, Bool.true_or, Bool.false_or] at hst
    repeat' (first|refine Sp.h ?_|refine Lk.r rfl ?_|refine Rf.mk rfl ?_|(apply Bd.t;(focus first|assumption|omega|rfl))|refine OpK.r rfl ?_|(refine Im.mk ?_;intro _)|(refine All.mk ?_;intro _)|(apply TkA.r;(focus repeat constructor))|(apply TkB.r;(focus repeat constructor))|(apply Ix.q;(focus exact rfl);(focus assumption))|(apply Ix.r;(focus assumption);(focus omega))|(apply At.r;(focus assumption))|refine Ch.l ⟨rfl, rfl⟩ ?_|(apply SetAsk.r;(focus (repeat (first|exact SetAs.z|(apply SetAs.c;(focus (repeat first|assumption|constructor)))))))|(apply Nm.r;focus repeat constructor)|refine Up.r rfl ?_|(apply CA.draw;(focus rfl);(focus kernel_rfl);(focus kernel_rfl);(focus repeat' constructor);(focus rfl))|exact trivial|apply RA'.both|(apply Ov.n;(focus first|omega|(simp <;> omega)))|(apply Cl.p (hla);(focus repeat' (first|exact Lend.nil|apply Lend.keep|fail)))|(apply Cl.p (hup);(focus repeat' (first|exact Lend.nil|apply Lend.keep|fail))))
    all_goals exact PA.lp (i + 1, w, out.set i x1, _, _) ⟨by repeat first|trivial|refine ⟨rfl,?_⟩,by repeat first|exact .nil|refine .cons (by repeat constructor) ?_⟩ ⟨hst, by simp only;omega⟩
 refine CallA.fx key ?_
 rintro r own ⟨out, ex, lg, hI, hr⟩
 have hg := hI.done hCl
 rw [hg]
 cases ex
 ·cases lg
  ·obtain ⟨v, rfl, rfl⟩ := hr
   have hol := hI.len
   exact .tup (.sl .here (by omega) (FX.refl _) (.le (ALe.refl _) .nil)) .nil
  ·obtain ⟨rfl, rfl⟩ := hr
   exact .tup (.le ALe.nil (.le (ALe.refl _) .nil)) .nil
 ·obtain ⟨rfl, rfl⟩ := hr
  exact .tup (.le ALe.nil (.le (ALe.refl _) .nil)) .nil
end Go.Proofs.YtmllihbhphnolaaGreat
namespace Go.Proofs.YtmllihbhphnolaaGreat
open Go Go.CF
set_option maxRecDepth 20000
set_option maxHeartbeats 4000000 in
theorem state32_p (m : ModS) (ld : List Int) (l : List EvS) (hm : MOK m) (hl : ld.length = strF m) (hl2 : l.length ≤ 1000) (h : ∀ e ∈ l, EvV m (e.past.length : Nat) e) : CallP Tryz.prog 180 [mdl m, ints ld, evs l] (.tup [ints (l.foldl (addE m) ld), it 0]) := by
 have hstr := hm.str
 have hst := strict32_p m hm.lay
 refine CallA.fzt (T := 3) (by rw [foldE_len];omega) ?_
 refine CallA.of pg ord180 Tryz.func180 rfl Tryz.ntmps180 Tryz.results180 rfl fun h0 G0 O0 => ?_
 repeat' (first|refine Sp.h ?_|refine Lk.r rfl ?_|refine Rf.mk rfl ?_|(apply Bd.t;(focus first|assumption|omega|rfl))|(apply Om.mk;(focus first|omega|(simp <;> omega)))|(refine Im.mk ?_;intro _)|(refine All.mk ?_;intro _)|(apply TkA.r;(focus repeat constructor))|(apply TkB.r;(focus repeat constructor))|refine Ce.l rfl ?_|refine Ch.l ⟨rfl, rfl⟩ ?_|(apply Fk.r;(focus (repeat (first|exact FillA.nil|(apply FillA.agg;(focus rfl);(focus rfl);(focus (repeat (first|exact SetAs.z|(apply SetAs.c;(focus (repeat first|assumption|constructor)))))))|(apply FillA.one;(focus rfl);(focus infer_instance);(focus (repeat first|assumption|constructor)))))))|refine Rf.mk ⟨rfl, rfl⟩ ?_|refine Rf.mk ⟨rfl, rfl, rfl⟩ ?_|refine Mp.same ?_|(apply Cl.p (hst);(focus repeat' (first|exact Lend.nil|apply Lend.keep|fail))))
 rename_i b3 _ _ u
 refine CA.loop (fun i : Nat => ⟨[(2, evs l), (3, pm b3), (8, .ow u), (9, it i)], [mR b3 m, arrR u 3 1 ((l.take i).foldl (addE m) ld) intC]⟩) (fun i => i ≤ l.length) (fun i => l.length - i) 0 ⟨by repeat first|trivial|refine ⟨rfl,?_⟩,by repeat first|exact .nil|refine .cons (by repeat constructor) ?_⟩ (Nat.zero_le _) ?_
 intro i hi
 by_cases hin : i < l.length
 rotate_left
 ·have hie : i = l.length := by omega
  subst hie
  rw [List.take_length]
  repeat' (first|refine Sp.h ?_|refine Lk.r rfl ?_|refine Rf.mk rfl ?_|(apply Bd.f;(focus first|assumption|omega|exact Bool.false_ne_true))|(refine Im.mk ?_;intro _)|(apply Nm.r;focus repeat constructor)|fail)
  exact ⟨_, _, .tup (.same (.same (.nil (by (repeat first|exact .nil|refine .cons (by repeat constructor) ?_))))), _, rfl, rfl⟩
 obtain ⟨e, he⟩ := get_of hin
 have hev := h e (List.mem_of_getElem? he)
 have hva := evalid32_p m (e.past.length : Nat) e
 rw [decide_eq_true hev] at hva
 have hsl : ((l.take i).foldl (addE m) ld).length = strF m := by rw [foldE_len];exact hl
 have hsu := foldE_succ (m := m) he ld
 obtain ⟨s, hs⟩ : ∃ s, s = (l.take i).foldl (addE m) ld := ⟨_, rfl⟩
 rw [← hs] at hsl hsu ⊢
 by_cases hk : e.kind = 0
 rotate_left
 ·have hadd : addE m s e = s := if_neg hk
  rw [hadd] at hsu
  repeat' (first|refine Sp.h ?_|refine Lk.r rfl ?_|refine Rf.mk rfl ?_|(apply Bd.t;(focus first|assumption|omega|rfl))|(apply Bd.f;(focus first|assumption|omega|exact Bool.false_ne_true))|refine OpK.r rfl ?_|(refine Im.mk ?_;intro _)|(apply TkB.r;(focus repeat constructor))|(apply Ix.q;(focus exact rfl);(focus assumption))|refine Ch.l ⟨rfl, rfl⟩ ?_|(apply CA.draw;(focus rfl);(focus kernel_rfl);(focus kernel_rfl);(focus repeat' constructor);(focus rfl))|(apply Ov.n;(focus first|omega|(simp <;> omega)))|(apply Cl.p (hva);(focus repeat' (first|exact Lend.nil|apply Lend.keep|fail))))
  rw [← hsu]
  all_goals exact PA.lp (i + 1) ⟨by repeat first|trivial|refine ⟨rfl,?_⟩,by repeat first|exact .nil|refine .cons (by repeat constructor) ?_⟩ ⟨hin, by omega⟩
 have hact := act_rng hev.1 hk
 have hact2 := hev.2.2 hk
 obtain ⟨a, ha⟩ := get_of (l := m.acts) (i := e.action.toNat) (by omega)
 have hd := dltF_at ha
 have heo := hm.eff a (List.mem_of_getElem? ha)
 have hadd : addE m s e = addD s a.eff.delta := by rw [addE, if_pos hk, hd]
 repeat' (first|refine Sp.h ?_|refine Lk.r rfl ?_|refine Rf.mk rfl ?_|(apply Bd.t;(focus first|assumption|omega|rfl))|refine OpK.r rfl ?_|(refine Im.mk ?_;intro _)|(apply TkB.r;(focus repeat constructor))|(apply Ix.q;(focus exact rfl);(focus assumption))|(apply Ix.r;(focus assumption);(focus omega))|refine Ch.l ⟨rfl, rfl⟩ ?_|(apply CA.draw;(focus rfl);(focus kernel_rfl);(focus kernel_rfl);(focus repeat' constructor);(focus rfl))|(apply Cl.p (hva);(focus repeat' (first|exact Lend.nil|apply Lend.keep|fail))))
 refine CA.loop (fun k : Nat => ⟨[(2, evs l), (3, pm b3), (8, .ow u), (9, it i), (10, terms a.eff.delta), (11, it k)], [mR b3 m, arrR u 3 1 (addD s (a.eff.delta.take k)) intC]⟩) (fun k => k ≤ a.eff.delta.length) (fun k => a.eff.delta.length - k) 0 ⟨by repeat first|trivial|refine ⟨rfl,?_⟩,by repeat first|exact .nil|refine .cons (by repeat constructor) ?_⟩ (Nat.zero_le _) ?_
 intro k hk2
 have hlen := addD_length (a.eff.delta.take k) s
 by_cases hkl : k < a.eff.delta.length
 ·obtain ⟨p, hp⟩ := get_of hkl
  obtain ⟨p1, p2⟩ := heo.d p (List.mem_of_getElem? hp)
  obtain ⟨z, hz⟩ := get_of (l := addD s (a.eff.delta.take k)) (i := p.1.toNat) (by omega)
  have hsd := addD_succ (s := s) hp
  rw [show add1 (addD s (a.eff.delta.take k)) p = (addD s (a.eff.delta.take k)).set p.1.toNat (IntKind.i64.wrap (z + p.2)) by rw [add1, hz];rfl] at hsd
  repeat' (first|refine Sp.h ?_|refine Lk.r rfl ?_|refine Rf.mk rfl ?_|(apply Bd.t;(focus first|assumption|omega|rfl))|refine OpK.r rfl ?_|(refine Im.mk ?_;intro _)|(apply TkA.r;(focus repeat constructor))|(apply Ix.q;(focus exact rfl);(focus assumption))|(apply Ix.r;(focus assumption);(focus omega))|(apply At.r;(focus assumption))|(apply CA.draw;(focus rfl);(focus kernel_rfl);(focus kernel_rfl);(focus repeat' constructor);(focus rfl))|fail)
  refine ⟨?_⟩
  repeat' (first|refine Sp.h ?_|refine Lk.r rfl ?_|refine Rf.mk rfl ?_|refine OpK.r rfl ?_|(apply TkA.r;(focus repeat constructor))|(apply Ix.r;(focus assumption);(focus omega))|(apply At.r;(focus assumption))|(apply SetAk.r;(focus (repeat first|assumption|constructor)))|refine Up.r rfl ?_|(apply Ov.n;(focus first|omega|(simp <;> omega)))|fail)
  rw [← hsd]
  all_goals exact PA.lp (k + 1) ⟨by repeat first|trivial|refine ⟨rfl,?_⟩,by repeat first|exact .nil|refine .cons (by repeat constructor) ?_⟩ ⟨hkl, by omega⟩
 ·have hke : k = a.eff.delta.length := by omega
  subst hke
  rw [List.take_length, ← hadd, ← hsu]
  repeat' (first|refine Sp.h ?_|refine Lk.r rfl ?_|refine Rf.mk rfl ?_|(apply Bd.f;(focus first|assumption|omega|exact Bool.false_ne_true))|(refine Im.mk ?_;intro _)|(apply Ov.n;(focus first|omega|(simp <;> omega)))|fail)
  exact PA.lp (i + 1) ⟨by repeat first|trivial|refine ⟨rfl,?_⟩,by repeat first|exact .nil|refine .cons (by repeat constructor) ?_⟩ ⟨hin, by omega⟩
end Go.Proofs.YtmllihbhphnolaaGreat
