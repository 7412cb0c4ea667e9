/- Part 12 of the ground of this proof: what its texts say of the model, the program and the plain data; conditions: those that are named. -/
import Derived.Test.YtmllihbhphnolaaGreatP11
namespace Go.Proofs.YtmllihbhphnolaaGreat
open Go Go.CF
set_option maxRecDepth 20000
def SzM (k : List MgS) : Prop := k.length ≤ 100000 ∧ ∀ g ∈ k, g.marks.length ≤ 1000000
theorem mrg1_sz {m : ModS} {k : List MgS} {e : EvS} (h : SzM k) : SzM (mrg1 m k e) := by
  unfold mrg1
  by_cases h0 : (applyF m k e).1 = 0
  · obtain ⟨_, _, h3, _, h5⟩ := applyF_ok h0
    exact ⟨by rw [h3];exact h.1, h5⟩
  · have h2 : (applyF m k e).2 = [] := by
      unfold applyF at h0 ⊢
      split
      · rfl
      · rename_i h1
        rw [if_neg h1] at h0
        split
        · rename_i h2;rw [if_pos h2] at h0;exact absurd rfl h0
        · rename_i h2
          rw [if_neg h2] at h0
          unfold gatherF at h0 ⊢
          split
          · rfl
          · rename_i h3
            rw [h3] at h0
            simp only at h0
            split
            · rfl
            · rename_i h4;rw [if_neg h4] at h0;exact absurd rfl h0
    rw [h2]
    exact ⟨by simp, by simp⟩
structure BasOK (m : ModS) (n : Nat) (b : NowS) : Prop where
  clk : ValC b.clock
  len : b.clock.length = n
  st : b.state.length = strF m
  mg : SzM b.merged
  pls : SrtI b.places
  pll : b.places.length ≤ 10000
theorem withP_srt {l : List Int} {n : Int} (h : SrtI l) : SrtI (withP l n) := (withP_si (l := l) (s := l) (n := n) ⟨h, fun _ => Iff.rfl⟩).1
theorem withP_le {l : List Int} {n : Int} (h : SrtI l) : (withP l n).length ≤ l.length + 1 := by
  by_cases hn : n ∈ l
  · rw [show withP l n = l from if_pos hn];omega
  · rw [with_eq h hn];simp;have := idxN_le (fun y => decide (¬ y < n)) l;unfold posI;omega
theorem plE_srt {l : List Int} {e : EvS} (h : SrtI l) : SrtI (plE l e) ∧ (plE l e).length ≤ l.length + 1 := by
  unfold plE
  split
  · exact ⟨withP_srt h, withP_le h⟩
  · exact ⟨h, by omega⟩
theorem inL_succ {c : List Int} {l : List EvS} {i : Nat} {e : EvS} (h : l[i]? = some e) : inL c (l.take (i + 1)) = inL c (l.take i) ++ if HasC c e.rep e.num then [e] else [] := by
  rw [inL, filter_succ h]
  by_cases hh : HasC c e.rep e.num <;> simp [hh, inL]
theorem outL_succ {c : List Int} {l : List EvS} {i : Nat} {e : EvS} (h : l[i]? = some e) : outL c (l.take (i + 1)) = outL c (l.take i) ++ if HasC c e.rep e.num then [] else [e] := by
  rw [outL, filter_succ h]
  by_cases hh : HasC c e.rep e.num <;> simp [hh, outL]
structure MidOK (m : ModS) (b x : NowS) (i : Nat) : Prop where
  ck : x.clock = b.clock
  st : x.state.length = strF m
  mg : SzM x.merged
  pls : SrtI x.places
  pll : x.places.length ≤ b.places.length + i
theorem mid_step {m : ModS} {b x : NowS} {i : Nat} {e : EvS} (h : MidOK m b x i) : MidOK m b (cmp1 m x e) (i + 1) :=
  ⟨h.ck, by simp only [cmp1, addE_len];exact h.st, mrg1_sz h.mg, (plE_srt h.pls).1, by have := (plE_srt (e := e) h.pls).2;have := h.pll;simp only [cmp1];omega⟩
theorem fits35_p (s : Nat) (m : ModS) (b : NowS) (v : Value) (w : NowS) (c : List Int) :
    CallA Tryz.prog 125 [pm s, ints c] [stoR s m b v w] fun r own => r = bl (decide (ValC c ∧ c.length = w.clock.length)) ∧ own = [stoR s m b v w] := by
  have h := validC_p c
  by_cases h1 : ValC c
  · rw [decide_eq_true h1] at h
    refine CallA.of pg ord125 Tryz.func125 rfl Tryz.ntmps125 Tryz.results125 rfl fun h0 G0 O0 => ?_
    repeat' (first|refine Sp.h ?_|refine Lk.r rfl ?_|refine Rf.mk rfl ?_|(refine Im.mk ?_;intro _)|(apply TkB.r;(focus repeat first|exact .here|apply Take.there))|(apply Nm.r;focus repeat first|apply LN.cons|exact LN.nil)|(apply Cl.p (h);(focus repeat' (first|exact Lend.nil|apply Lend.keep|fail))))
    refine ⟨_, _, .one (.same (.nil (by (repeat first|exact .nil|refine .cons (by repeat first|exact .here|apply Take.there) ?_)))), vb (decide_eq_decide.2 ⟨fun h => ⟨h1, by omega⟩, fun h => by omega⟩), rfl⟩
  · rw [decide_eq_false h1] at h
    rw [decide_eq_false (fun h9 => h1 h9.1)]
    refine CallA.of pg ord125 Tryz.func125 rfl Tryz.ntmps125 Tryz.results125 rfl fun h0 G0 O0 => ?_
    repeat' (first|refine Sp.h ?_|refine Lk.r rfl ?_|refine Rf.mk rfl ?_|(apply Nm.r;focus repeat first|apply LN.cons|exact LN.nil)|(apply Cl.p (h);(focus repeat' (first|exact Lend.nil|apply Lend.keep|fail))))
    exact ⟨_, _, .one (.same (.nil (by (repeat first|exact .nil|refine .cons (by repeat first|exact .here|apply Take.there) ?_)))), rfl, rfl⟩
abbrev midC (x : NowS) (u : Value) : List AV := [ints x.clock, it x.time, .ow u, mgs x.merged, nl0, nl0, ints x.places]
set_option maxHeartbeats 16000000 in
theorem compact_a (s : Nat) (m : ModS) (b : NowS) (v : Value) (evl : List EvS) (w : NowS) (c : List Int) (hm : MOK m) (hw : NowOK m w) (hb : BasOK m w.clock.length b) (hl : evl.length ≤ 1000) (hev : ∀ e ∈ evl, EvV m (w.clock.length : Nat) e) :
    CallA Tryz.prog 66 [pm s, ints c] [stoR s m b v w, arrR v 37 13 evl evC] fun r own => r = it (compactF m ⟨b, evl, w⟩ c).1 ∧ ∃ v', own = [stoR s m (compactF m ⟨b, evl, w⟩ c).2.base v' (compactF m ⟨b, evl, w⟩ c).2.now, arrR v' 37 13 (compactF m ⟨b, evl, w⟩ c).2.evs evC] := by
  have hfi := fits35_p s m b v w c
  have hstr := hm.str
  by_cases h1 : ValC c ∧ c.length = w.clock.length
  rotate_left
  · have hF : compactF m ⟨b, evl, w⟩ c = (1, ⟨b, evl, w⟩) := @if_pos _ (Classical.propDecidable _) h1 _ _ _
    rw [hF]
    rw [decide_eq_false h1] at hfi
    refine CallA.of pg ord66 Tryz.func66 rfl Tryz.ntmps66 Tryz.results66 rfl fun h0 G0 O0 => ?_
    repeat' (first|refine Sp.h ?_|refine Lk.r rfl ?_|refine Rf.mk rfl ?_|fail)
    (apply Cl.use (hfi);(focus repeat' (first|exact Lend.nil|apply Lend.keep|fail));(focus (repeat (first|exact Takes.nil|(apply Takes.cons;(focus repeat first|exact .here|apply Take.there)))));(focus rfl))
    rintro _ _ ⟨rfl, rfl⟩
    repeat' (first|refine Sp.h ?_|refine Lk.r rfl ?_|refine Rf.mk rfl ?_|(apply Bd.f;(focus first|assumption|omega|exact Bool.false_ne_true))|(apply Nm.r;focus repeat first|apply LN.cons|exact LN.nil)|fail)
    exact ⟨_, _, .one (.same (.nil (by (repeat first|exact .nil|refine .cons (by repeat first|exact .here|apply Take.there) ?_)))), rfl, v, rfl⟩
  rw [decide_eq_true h1] at hfi
  have hF9 : ¬ (Ins b.clock c ∧ Ins c w.clock ∧ ∀ e ∈ evl, HasC c e.rep e.num → Ins e.past c) → compactF m ⟨b, evl, w⟩ c = (9, ⟨b, evl, w⟩) := fun h =>
    (@if_neg _ (Classical.propDecidable _) (fun h9 => h9 h1) _ _ _).trans (@if_pos _ (Classical.propDecidable _) h _ _ _)
  have hm1 := missing_o c b.clock
  have hm2 := missing_o w.clock c
  have hbl := hb.len
  have hal1 : AlikeC [c, b.clock] := (alike2 _ _).2 ⟨h1.1, hb.clk, by omega⟩
  have hal2 : AlikeC [w.clock, c] := (alike2 _ _).2 ⟨hw.clk, h1.1, by omega⟩
  by_cases h2 : Ins b.clock c
  rotate_left
  · rw [hF9 (fun h => h2 h.1)]
    refine CallA.of pg ord66 Tryz.func66 rfl Tryz.ntmps66 Tryz.results66 rfl fun h0 G0 O0 => ?_
    repeat' (first|refine Sp.h ?_|refine Lk.r rfl ?_|refine Rf.mk rfl ?_|fail)
    (apply Cl.use (hfi);(focus repeat' (first|exact Lend.nil|apply Lend.keep|fail));(focus (repeat (first|exact Takes.nil|(apply Takes.cons;(focus repeat first|exact .here|apply Take.there)))));(focus rfl))
    rintro _ _ ⟨rfl, rfl⟩
    repeat' (first|refine Sp.h ?_|refine Lk.r rfl ?_|refine Rf.mk rfl ?_|(apply Bd.t;(focus first|assumption|omega|rfl))|(apply TkB.r;(focus repeat first|exact .here|apply Take.there))|fail)
    (apply Cl.use (hm1);(focus repeat' (first|exact Lend.nil|apply Lend.keep|fail));(focus (repeat (first|exact Takes.nil|(apply Takes.cons;(focus repeat first|exact .here|apply Take.there)))));(focus rfl))
    rintro _ _ ⟨u, l, rfl, rfl, k1, k2⟩
    have k0 : 0 < l.length := List.length_pos_iff.2 fun h => h2 (k1.1 h hal1)
    repeat' (first|refine Sp.h ?_|refine Lk.r rfl ?_|refine Rf.mk rfl ?_|(apply Bd.t;(focus first|assumption|omega|rfl))|(apply TkA.r;(focus repeat first|exact .here|apply Take.there))|(apply Nm.r;focus repeat first|apply LN.cons|exact LN.nil)|fail)
    exact ⟨_, _, .one (.same (.nil (by (repeat first|exact .nil|refine .cons (by repeat first|exact .here|apply Take.there) ?_)))), rfl, v, rfl⟩
  by_cases h3 : Ins c w.clock
  rotate_left
  · rw [hF9 (fun h => h3 h.2.1)]
    refine CallA.of pg ord66 Tryz.func66 rfl Tryz.ntmps66 Tryz.results66 rfl fun h0 G0 O0 => ?_
    repeat' (first|refine Sp.h ?_|refine Lk.r rfl ?_|refine Rf.mk rfl ?_|fail)
    (apply Cl.use (hfi);(focus repeat' (first|exact Lend.nil|apply Lend.keep|fail));(focus (repeat (first|exact Takes.nil|(apply Takes.cons;(focus repeat first|exact .here|apply Take.there)))));(focus rfl))
    rintro _ _ ⟨rfl, rfl⟩
    repeat' (first|refine Sp.h ?_|refine Lk.r rfl ?_|refine Rf.mk rfl ?_|(apply Bd.t;(focus first|assumption|omega|rfl))|(apply TkB.r;(focus repeat first|exact .here|apply Take.there))|fail)
    (apply Cl.use (hm1);(focus repeat' (first|exact Lend.nil|apply Lend.keep|fail));(focus (repeat (first|exact Takes.nil|(apply Takes.cons;(focus repeat first|exact .here|apply Take.there)))));(focus rfl))
    rintro _ _ ⟨u, l, rfl, rfl, k1, k2⟩
    have k0 : l.length = 0 := by rw [k1.2 fun _ => h2];rfl
    repeat' (first|refine Sp.h ?_|refine Lk.r rfl ?_|refine Rf.mk rfl ?_|(apply Bd.f;(focus first|assumption|omega|exact Bool.false_ne_true))|(apply TkA.r;(focus repeat first|exact .here|apply Take.there))|(apply TkB.r;(focus repeat first|exact .here|apply Take.there))|fail)
    (apply Cl.use (hm2);(focus repeat' (first|exact Lend.nil|apply Lend.keep|fail));(focus (repeat (first|exact Takes.nil|(apply Takes.cons;(focus repeat first|exact .here|apply Take.there)))));(focus rfl))
    rintro _ _ ⟨u2, l2, rfl, rfl, j1, j2⟩
    have j0 : 0 < l2.length := List.length_pos_iff.2 fun h => h3 (j1.1 h hal2)
    repeat' (first|refine Sp.h ?_|refine Lk.r rfl ?_|refine Rf.mk rfl ?_|(apply Bd.t;(focus first|assumption|omega|rfl))|(apply Bd.f;(focus first|assumption|omega|exact Bool.false_ne_true))|(apply TkA.r;(focus repeat first|exact .here|apply Take.there))|(apply Nm.r;focus repeat first|apply LN.cons|exact LN.nil)|fail)
    exact ⟨_, _, .one (.same (.nil (by (repeat first|exact .nil|refine .cons (by repeat first|exact .here|apply Take.there) ?_)))), rfl, v, rfl⟩
  have hcb := cloneBase_a b nl0 nl0 ⟨by have := hb.clk.2.2;omega, by have := hb.st;omega, hb.mg.1, hb.mg.2, by have := hb.pll;omega⟩
  have hcc := clone_o c (by have := h1.1.2.2;omega)
  refine CallA.of pg ord66 Tryz.func66 rfl Tryz.ntmps66 Tryz.results66 rfl fun h0 G0 O0 => ?_
  repeat' (first|refine Sp.h ?_|refine Lk.r rfl ?_|refine Rf.mk rfl ?_|fail)
  (apply Cl.use (hfi);(focus repeat' (first|exact Lend.nil|apply Lend.keep|fail));(focus (repeat (first|exact Takes.nil|(apply Takes.cons;(focus repeat first|exact .here|apply Take.there)))));(focus rfl))
  rintro _ _ ⟨rfl, rfl⟩
  repeat' (first|refine Sp.h ?_|refine Lk.r rfl ?_|refine Rf.mk rfl ?_|(apply Bd.t;(focus first|assumption|omega|rfl))|(apply TkB.r;(focus repeat first|exact .here|apply Take.there))|fail)
  (apply Cl.use (hm1);(focus repeat' (first|exact Lend.nil|apply Lend.keep|fail));(focus (repeat (first|exact Takes.nil|(apply Takes.cons;(focus repeat first|exact .here|apply Take.there)))));(focus rfl))
  rintro _ _ ⟨u1, l1, rfl, rfl, k1, k2⟩
  have k0 : l1.length = 0 := by rw [k1.2 fun _ => h2];rfl
  repeat' (first|refine Sp.h ?_|refine Lk.r rfl ?_|refine Rf.mk rfl ?_|(apply Bd.f;(focus first|assumption|omega|exact Bool.false_ne_true))|(apply TkA.r;(focus repeat first|exact .here|apply Take.there))|(apply TkB.r;(focus repeat first|exact .here|apply Take.there))|fail)
  (apply Cl.use (hm2);(focus repeat' (first|exact Lend.nil|apply Lend.keep|fail));(focus (repeat (first|exact Takes.nil|(apply Takes.cons;(focus repeat first|exact .here|apply Take.there)))));(focus rfl))
  rintro _ _ ⟨u2, l2, rfl, rfl, j1, j2⟩
  have j0 : l2.length = 0 := by rw [j1.2 fun _ => h3];rfl
  repeat' (first|refine Sp.h ?_|refine Lk.r rfl ?_|refine Rf.mk rfl ?_|(apply Bd.f;(focus first|assumption|omega|exact Bool.false_ne_true))|(apply TkA.r;(focus repeat first|exact .here|apply Take.there))|(apply TkB.r;(focus repeat first|exact .here|apply Take.there))|refine Ch.r ?_|fail)
  (apply Cl.use (hcb);(focus repeat' (first|exact Lend.nil|apply Lend.keep|fail));(focus (repeat (first|exact Takes.nil|(apply Takes.cons;(focus repeat first|exact .here|apply Take.there)))));(focus rfl))
  rintro _ _ ⟨v1, v2, v3, L, v4, rfl, hL, rfl⟩
  (repeat' (first|(show CA _ _ (Code.region 6 _ _) _ _;apply Stopped.out)|refine Sp.h ?_|refine Lk.r rfl ?_|refine Rf.mk rfl ?_|(refine All.mk ?_;intro _)|(apply TkB.r;(focus repeat first|exact .here|apply Take.there))|(apply SetAsk.r;(focus (repeat (first|exact SetAs.z|(apply SetAs.c;(focus (repeat first|assumption|exact SetA.z|apply SetA.s)))))))|(apply Nm.r;focus repeat first|apply LN.cons|exact LN.nil)|fail));any_goals apply Stopped.mk
  rename_i b5
  have hLl : L.length ≤ 1000000 := by have h8 := congrArg List.length hL;rw [List.length_map] at h8;have := hb.mg.1;omega
  have hLk : ∀ x ∈ L, x.marks.length ≤ 1000000 := fun x hx => hb.mg.2 x.g (by rw [← hL];exact List.mem_map_of_mem hx)
  have hbc := hb.clk.2.2
  have hbp := hb.pll
  have hbs := hb.st
  apply CA.own
  focus (apply OX.blk (b := b5);(focus repeat first|exact .here|apply Take.there);(focus (apply FX.s1;(focus repeat first|exact .here|apply Take.there);(focus omega);apply FX.k;apply FX.k;apply out_fx2;(focus repeat first|exact .here|apply Take.there);(focus repeat first|exact .here|apply Take.there);(focus exact hLl);(focus exact hLk);apply FX.k;apply FX.k;apply FX.s1;(focus repeat first|exact .here|apply Take.there);(focus omega);exact FX.nil));(focus repeat first|exact .here|apply Take.there))
  rw [hL]
  repeat' (first|refine Sp.h ?_|refine Lk.r rfl ?_|refine Rf.mk rfl ?_|(apply TkA.r;(focus repeat first|exact .here|apply Take.there))|(apply TkB.r;(focus repeat first|exact .here|apply Take.there))|fail)
  refine CA.nilOwn 6 37 13 evC rfl fun vr => ?_
  refine CA.loop (fun x : Nat × Value × NowS => ⟨[(0, pm s), (1, ints c), (5, pm b5), (6, .ow x.2.1), (46, .ow v), (47, it (evl.length : Nat)), (48, it x.1)], [stoR s m b v w, arrR v 37 13 evl evC, blkR b5 75 (midC x.2.2 v2), arrR v2 3 1 x.2.2.state intC, arrR x.2.1 37 13 (outL c (evl.take x.1)) evC]⟩)
    (fun x => x.1 ≤ evl.length ∧ (∀ e ∈ evl.take x.1, HasC c e.rep e.num → Ins e.past c) ∧ MidOK m b x.2.2 x.1 ∧ x.2.2 = (inL c (evl.take x.1)).foldl (cmp1 m) b) (fun x => evl.length - x.1) (0, vr, b) ⟨by repeat first|trivial|refine ⟨rfl,?_⟩,by repeat first|exact .nil|refine .cons (by repeat first|exact .here|apply Take.there) ?_⟩ ⟨Nat.zero_le _, by simp, ⟨rfl, hb.st, hb.mg, hb.pls, by simp⟩, rfl⟩ ?_
  rintro ⟨i, vr, y⟩ ⟨hi, hin0, hmid, hy⟩
  simp only at hi hin0 hmid hy
  simp only
  have hyp := hmid.pll
  have hys := hmid.st
  by_cases hil : i < evl.length
  · obtain ⟨e, he⟩ := get_of hil
    have heV := hev e (List.mem_of_getElem? he)
    have hn := name35_p e
    have hh := hasC_p c e.rep e.num
    have hsi := inL_succ (c := c) he
    have hso := outL_succ (c := c) he
    have hol : (outL c (evl.take i)).length ≤ i := by
      have := List.length_filter_le (fun e : EvS => decide (¬ HasC c e.rep e.num)) (evl.take i)
      rw [List.length_take] at this
      unfold outL;omega
    by_cases hhc : HasC c e.rep e.num
    rotate_left
    · rw [decide_eq_false hhc] at hh
      rw [if_neg hhc] at hsi hso
      rw [List.append_nil] at hsi
      repeat' (first|refine Sp.h ?_|refine Lk.r rfl ?_|refine Rf.mk rfl ?_|(apply Bd.t;(focus first|assumption|omega|rfl))|(apply Bd.f;(focus first|assumption|omega|exact Bool.false_ne_true))|(apply Om.mk;(focus first|omega|(simp <;> omega)))|(refine All.mk ?_;intro _)|(apply TkA.r;(focus repeat first|exact .here|apply Take.there))|(apply TkB.r;(focus repeat first|exact .here|apply Take.there))|(apply Ix.q;(focus exact rfl);(focus assumption))|(apply At.r;(focus assumption))|refine Ce.r ?_|refine Ch.l ⟨rfl, rfl⟩ ?_|(apply SetAsk.r;(focus (repeat (first|exact SetAs.z|(apply SetAs.c;(focus (repeat first|assumption|exact SetA.z|apply SetA.s)))))))|(apply Fk.r;(focus (repeat (first|exact FillA.nil|(apply FillA.agg;(focus rfl);(focus rfl);(focus (repeat (first|exact SetAs.z|(apply SetAs.c;(focus (repeat first|assumption|exact SetA.z|apply SetA.s)))))))|(apply FillA.one;(focus rfl);(focus infer_instance);(focus (repeat first|assumption|exact SetA.z|apply SetA.s)))))))|(apply Nm.r;focus repeat first|apply LN.cons|exact LN.nil)|refine Rf.mk ⟨rfl, rfl⟩ ?_|refine Rf.mk ⟨rfl, rfl, rfl⟩ ?_|(apply Mp.lit;(focus repeat (first|exact MpL.nil|(apply MpL.cons;(focus rfl))|(apply MpL.inv;(focus repeat (first|apply LN.cons|exact LN.nil));(focus infer_instance)))))|(apply Ov.n;(focus first|omega|(simp <;> omega)))|(apply Cl.p (hn);(focus ((repeat' (first|exact Lend.nil|apply Lend.keep|fail));done)))|(apply Cl.p (hh);(focus ((repeat' (first|exact Lend.nil|apply Lend.keep|fail));done))))
      rw [← hso]
      exact PA.lp (i + 1, _, y) ⟨by repeat first|trivial|refine ⟨rfl,?_⟩,by repeat first|exact .nil|refine .cons (by repeat first|exact .here|apply Take.there) ?_⟩ ⟨⟨hil, all_succ he hin0 (fun h => absurd h hhc), ⟨hmid.ck, hmid.st, hmid.mg, hmid.pls, by simp only;omega⟩, by simp only;rw [hsi];exact hy⟩, by simp only;omega⟩
    rw [decide_eq_true hhc] at hh
    rw [if_pos hhc] at hsi hso
    rw [List.append_nil] at hso
    have hm3 := missing_o c e.past
    have hal3 : AlikeC [c, e.past] := (alike2 _ _).2 ⟨h1.1, heV.1.1, by have := heV.2.1;omega⟩
    by_cases hie : Ins e.past c
    rotate_left
    · rw [hF9 (fun h => hie (h.2.2 e (List.mem_of_getElem? he) hhc))]
      repeat' (first|refine Sp.h ?_|refine Lk.r rfl ?_|refine Rf.mk rfl ?_|(apply Bd.t;(focus first|assumption|omega|rfl))|(refine All.mk ?_;intro _)|(apply TkA.r;(focus repeat first|exact .here|apply Take.there))|(apply TkB.r;(focus repeat first|exact .here|apply Take.there))|(apply Ix.q;(focus exact rfl);(focus assumption))|(apply At.r;(focus assumption))|refine Ch.l ⟨rfl, rfl⟩ ?_|(apply SetAsk.r;(focus (repeat (first|exact SetAs.z|(apply SetAs.c;(focus (repeat first|assumption|exact SetA.z|apply SetA.s)))))))|(apply Nm.r;focus repeat first|apply LN.cons|exact LN.nil)|(apply Cl.p (hn);(focus ((repeat' (first|exact Lend.nil|apply Lend.keep|fail));done)))|(apply Cl.p (hh);(focus ((repeat' (first|exact Lend.nil|apply Lend.keep|fail));done))))
      (apply Cl.use (hm3);(focus repeat' (first|exact Lend.nil|apply Lend.keep|fail));(focus (repeat (first|exact Takes.nil|(apply Takes.cons;(focus repeat first|exact .here|apply Take.there)))));(focus rfl))
      rintro _ _ ⟨u3, l3, rfl, rfl, q1, q2⟩
      have q0 : 0 < l3.length := List.length_pos_iff.2 fun h => hie (q1.1 h hal3)
      repeat' (first|refine Sp.h ?_|refine Lk.r rfl ?_|refine Rf.mk rfl ?_|(apply Bd.t;(focus first|assumption|omega|rfl))|(apply TkA.r;(focus repeat first|exact .here|apply Take.there))|(apply Nm.r;focus repeat first|apply LN.cons|exact LN.nil)|fail)
      exact ⟨_, _, .one (.same (.nil (by (repeat first|exact .nil|refine .cons (by repeat first|exact .here|apply Take.there) ?_)))), rfl, v, rfl⟩
    have hap := applyT_p m y.merged e hm
    have hwi := with_p y.places e.place hmid.pls (by omega)
    have hst := mid_step (e := e) hmid
    have hfd : cmp1 m y e = (inL c (evl.take (i + 1))).foldl (cmp1 m) b := by rw [hsi, List.foldl_append, ← hy];rfl
    have hnx : ∀ d ∈ evl.take (i + 1), HasC c d.rep d.num → Ins d.past c := all_succ he hin0 (fun _ => hie)
    repeat' (first|refine Sp.h ?_|refine Lk.r rfl ?_|refine Rf.mk rfl ?_|(apply Bd.t;(focus first|assumption|omega|rfl))|(refine All.mk ?_;intro _)|(apply TkA.r;(focus repeat first|exact .here|apply Take.there))|(apply TkB.r;(focus repeat first|exact .here|apply Take.there))|(apply Ix.q;(focus exact rfl);(focus assumption))|(apply At.r;(focus assumption))|refine Ch.l ⟨rfl, rfl⟩ ?_|(apply SetAsk.r;(focus (repeat (first|exact SetAs.z|(apply SetAs.c;(focus (repeat first|assumption|exact SetA.z|apply SetA.s)))))))|(apply Nm.r;focus repeat first|apply LN.cons|exact LN.nil)|(apply Cl.p (hn);(focus ((repeat' (first|exact Lend.nil|apply Lend.keep|fail));done)))|(apply Cl.p (hh);(focus ((repeat' (first|exact Lend.nil|apply Lend.keep|fail));done))))
    (apply Cl.use (hm3);(focus repeat' (first|exact Lend.nil|apply Lend.keep|fail));(focus (repeat (first|exact Takes.nil|(apply Takes.cons;(focus repeat first|exact .here|apply Take.there)))));(focus rfl))
    rintro _ _ ⟨u3, l3, rfl, rfl, q1, q2⟩
    have q0 : l3.length = 0 := by rw [q1.2 fun _ => hie];rfl
    by_cases hk : e.kind = 0
    rotate_left
    · have hadd : addE m y.state e = y.state := if_neg hk
      by_cases hpl : 0 < e.place
      · repeat' (first|refine Sp.h ?_|refine Lk.r rfl ?_|refine Rf.mk rfl ?_|(apply Bd.t;(focus first|assumption|omega|rfl))|(apply Bd.f;(focus first|assumption|omega|exact Bool.false_ne_true))|refine OpK.r rfl ?_|(apply TkA.r;(focus repeat first|exact .here|apply Take.there))|(apply TkB.r;(focus repeat first|exact .here|apply Take.there))|refine Ch.l ⟨rfl, rfl⟩ ?_|refine Ch.r ?_|(apply SetAk.r;(focus (repeat first|assumption|exact SetA.z|apply SetA.s)))|(apply CA.draw;(focus rfl);(focus kernel_rfl);(focus kernel_rfl);(focus repeat' (first|apply ON.one|exact ON.done|exact ON.none|apply ON.alt));(focus rfl))|(apply Ov.n;(focus first|omega|(simp <;> omega)))|(apply Cl.p (hap);(focus ((repeat' (first|exact Lend.nil|apply Lend.keep|fail));done)))|(apply Cl.p (hwi);(focus ((repeat' (first|exact Lend.nil|apply Lend.keep|fail));done))))
        have hz : (⟨y.clock, max y.time e.time, y.state, (applyF m y.merged e).2, withP y.places e.place⟩ : NowS) = cmp1 m y e := by rw [cmp1, hadd, plE, if_pos hpl];rfl
        all_goals rw [← hso]
        all_goals exact PA.lp (i + 1, vr, ⟨y.clock, max y.time e.time, y.state, (applyF m y.merged e).2, withP y.places e.place⟩) ⟨by repeat first|trivial|refine ⟨rfl,?_⟩,by repeat first|exact .nil|refine .cons (by repeat first|exact .here|apply Take.there) ?_⟩ ⟨⟨hil, hnx, by simp only;rw [hz];exact hst, by simp only;rw [hz];exact hfd⟩, by simp only;omega⟩
      · repeat' (first|refine Sp.h ?_|refine Lk.r rfl ?_|refine Rf.mk rfl ?_|(apply Bd.f;(focus first|assumption|omega|exact Bool.false_ne_true))|refine OpK.r rfl ?_|(apply TkA.r;(focus repeat first|exact .here|apply Take.there))|(apply TkB.r;(focus repeat first|exact .here|apply Take.there))|refine Ch.l ⟨rfl, rfl⟩ ?_|refine Ch.r ?_|(apply SetAk.r;(focus (repeat first|assumption|exact SetA.z|apply SetA.s)))|(apply CA.draw;(focus rfl);(focus kernel_rfl);(focus kernel_rfl);(focus repeat' (first|apply ON.one|exact ON.done|exact ON.none|apply ON.alt));(focus rfl))|(apply Ov.n;(focus first|omega|(simp <;> omega)))|(apply Cl.p (hap);(focus ((repeat' (first|exact Lend.nil|apply Lend.keep|fail));done)))|(apply Cl.p (hwi);(focus ((repeat' (first|exact Lend.nil|apply Lend.keep|fail));done))))
        have hz : (⟨y.clock, max y.time e.time, y.state, (applyF m y.merged e).2, y.places⟩ : NowS) = cmp1 m y e := by rw [cmp1, hadd, plE, if_neg hpl];rfl
        all_goals rw [← hso]
        all_goals exact PA.lp (i + 1, vr, ⟨y.clock, max y.time e.time, y.state, (applyF m y.merged e).2, y.places⟩) ⟨by repeat first|trivial|refine ⟨rfl,?_⟩,by repeat first|exact .nil|refine .cons (by repeat first|exact .here|apply Take.there) ?_⟩ ⟨⟨hil, hnx, by simp only;rw [hz];exact hst, by simp only;rw [hz];exact hfd⟩, by simp only;omega⟩
    have hact := act_rng heV.1 hk
    have hact2 := heV.2.2 hk
    obtain ⟨a, ha⟩ := get_of (l := m.acts) (i := e.action.toNat) (by omega)
    have hd := dltF_at ha
    have heo := hm.eff a (List.mem_of_getElem? ha)
    have hadd : addE m y.state e = addD y.state a.eff.delta := by rw [addE, if_pos hk, hd]
    repeat' (first|refine Sp.h ?_|refine Lk.r rfl ?_|refine Rf.mk rfl ?_|(apply Bd.t;(focus first|assumption|omega|rfl))|(apply Bd.f;(focus first|assumption|omega|exact Bool.false_ne_true))|refine OpK.r rfl ?_|(refine Im.mk ?_;intro _)|(apply TkA.r;(focus repeat first|exact .here|apply Take.there))|(apply TkB.r;(focus repeat first|exact .here|apply Take.there))|(apply Ix.r;(focus assumption);(focus omega))|(apply SetAk.r;(focus (repeat first|assumption|exact SetA.z|apply SetA.s)))|(apply CA.draw;(focus rfl);(focus kernel_rfl);(focus kernel_rfl);(focus repeat' (first|apply ON.one|exact ON.done|exact ON.none|apply ON.alt));(focus rfl))|fail)
    refine CA.loop (fun k : Nat => ⟨[(0, pm s), (1, ints c), (5, pm b5), (6, .ow vr), (8, pm _), (46, .ow v), (47, it (evl.length : Nat)), (48, it i), (86, terms a.eff.delta), (87, it (a.eff.delta.length : Nat)), (88, it k)], [stoR s m b v w, arrR v 37 13 evl evC, blkR b5 75 (midC { y with time := max y.time e.time } v2), arrR v2 3 1 (addD y.state (a.eff.delta.take k)) intC, arrR vr 37 13 (outL c (evl.take i)) evC, blkR _ 37 (evC e)]⟩) (fun k => k ≤ a.eff.delta.length) (fun k => a.eff.delta.length - k) 0 ⟨by repeat first|trivial|refine ⟨rfl,?_⟩,by repeat first|exact .nil|refine .cons (by repeat first|exact .here|apply Take.there) ?_⟩ (Nat.zero_le _) ?_
    intro k hk2
    have hlen := addD_length (a.eff.delta.take k) y.state
    by_cases hkl : k < a.eff.delta.length
    · obtain ⟨p, hp⟩ := get_of hkl
      obtain ⟨p1, p2⟩ := heo.d p (List.mem_of_getElem? hp)
      obtain ⟨z, hz⟩ := get_of (l := addD y.state (a.eff.delta.take k)) (i := p.1.toNat) (by omega)
      have hsd := addD_succ (s := y.state) hp
      rw [show add1 (addD y.state (a.eff.delta.take k)) p = (addD y.state (a.eff.delta.take k)).set p.1.toNat (IntKind.i64.wrap (z + p.2)) by rw [add1, hz];rfl] at hsd
      repeat' (first|refine Sp.h ?_|refine Lk.r rfl ?_|refine Rf.mk rfl ?_|(apply Bd.t;(focus first|assumption|omega|rfl))|refine OpK.r rfl ?_|(refine All.mk ?_;intro _)|(apply TkA.r;(focus repeat first|exact .here|apply Take.there))|(apply TkB.r;(focus repeat first|exact .here|apply Take.there))|(apply Ix.q;(focus exact rfl);(focus assumption))|(apply Ix.r;(focus assumption);(focus omega))|(apply At.r;(focus assumption))|refine Ch.l ⟨rfl, rfl⟩ ?_|(apply SetAsk.r;(focus (repeat (first|exact SetAs.z|(apply SetAs.c;(focus (repeat first|assumption|exact SetA.z|apply SetA.s)))))))|(apply Nm.r;focus repeat first|apply LN.cons|exact LN.nil)|(apply CA.draw;(focus rfl);(focus kernel_rfl);(focus kernel_rfl);(focus repeat' (first|apply ON.one|exact ON.done|exact ON.none|apply ON.alt));(focus rfl))|fail)
      refine ⟨?_⟩
      repeat' (first|refine Sp.h ?_|refine Lk.r rfl ?_|refine Rf.mk rfl ?_|refine OpK.r rfl ?_|(apply TkA.r;(focus repeat first|exact .here|apply Take.there))|(apply Ix.r;(focus assumption);(focus omega))|(apply At.r;(focus assumption))|(apply SetAk.r;(focus (repeat first|assumption|exact SetA.z|apply SetA.s)))|refine Up.r rfl ?_|(apply Ov.n;(focus first|omega|(simp <;> omega)))|fail)
      rw [← hsd]
      exact PA.lp (k + 1) ⟨by repeat first|trivial|refine ⟨rfl,?_⟩,by repeat first|exact .nil|refine .cons (by repeat first|exact .here|apply Take.there) ?_⟩ ⟨hkl, by omega⟩
    · have hke : k = a.eff.delta.length := by omega
      subst hke
      rw [List.take_length]
      by_cases hpl : 0 < e.place
      · repeat' (first|refine Sp.h ?_|refine Lk.r rfl ?_|refine Rf.mk rfl ?_|(apply Bd.t;(focus first|assumption|omega|rfl))|(apply Bd.f;(focus first|assumption|omega|exact Bool.false_ne_true))|refine OpK.r rfl ?_|(apply TkB.r;(focus repeat first|exact .here|apply Take.there))|refine Ch.l ⟨rfl, rfl⟩ ?_|refine Ch.r ?_|(apply SetAk.r;(focus (repeat first|assumption|exact SetA.z|apply SetA.s)))|(apply CA.draw;(focus rfl);(focus kernel_rfl);(focus kernel_rfl);(focus repeat' (first|apply ON.one|exact ON.done|exact ON.none|apply ON.alt));(focus rfl))|(apply Ov.n;(focus first|omega|(simp <;> omega)))|(apply Cl.p (hap);(focus ((repeat' (first|exact Lend.nil|apply Lend.keep|fail));done)))|(apply Cl.p (hwi);(focus ((repeat' (first|exact Lend.nil|apply Lend.keep|fail));done))))
        have hz : (⟨y.clock, max y.time e.time, addD y.state a.eff.delta, (applyF m y.merged e).2, withP y.places e.place⟩ : NowS) = cmp1 m y e := by rw [cmp1, hadd, plE, if_pos hpl];rfl
        all_goals rw [← hso]
        all_goals exact PA.lp (i + 1, vr, ⟨y.clock, max y.time e.time, addD y.state a.eff.delta, (applyF m y.merged e).2, withP y.places e.place⟩) ⟨by repeat first|trivial|refine ⟨rfl,?_⟩,by repeat first|exact .nil|refine .cons (by repeat first|exact .here|apply Take.there) ?_⟩ ⟨⟨hil, hnx, by simp only;rw [hz];exact hst, by simp only;rw [hz];exact hfd⟩, by simp only;omega⟩
      · repeat' (first|refine Sp.h ?_|refine Lk.r rfl ?_|refine Rf.mk rfl ?_|(apply Bd.f;(focus first|assumption|omega|exact Bool.false_ne_true))|refine OpK.r rfl ?_|(apply TkB.r;(focus repeat first|exact .here|apply Take.there))|refine Ch.l ⟨rfl, rfl⟩ ?_|refine Ch.r ?_|(apply SetAk.r;(focus (repeat first|assumption|exact SetA.z|apply SetA.s)))|(apply CA.draw;(focus rfl);(focus kernel_rfl);(focus kernel_rfl);(focus repeat' (first|apply ON.one|exact ON.done|exact ON.none|apply ON.alt));(focus rfl))|(apply Ov.n;(focus first|omega|(simp <;> omega)))|(apply Cl.p (hap);(focus ((repeat' (first|exact Lend.nil|apply Lend.keep|fail));done)))|(apply Cl.p (hwi);(focus ((repeat' (first|exact Lend.nil|apply Lend.keep|fail));done))))
        have hz : (⟨y.clock, max y.time e.time, addD y.state a.eff.delta, (applyF m y.merged e).2, y.places⟩ : NowS) = cmp1 m y e := by rw [cmp1, hadd, plE, if_neg hpl];rfl
        all_goals rw [← hso]
        all_goals exact PA.lp (i + 1, vr, ⟨y.clock, max y.time e.time, addD y.state a.eff.delta, (applyF m y.merged e).2, y.places⟩) ⟨by repeat first|trivial|refine ⟨rfl,?_⟩,by repeat first|exact .nil|refine .cons (by repeat first|exact .here|apply Take.there) ?_⟩ ⟨⟨hil, hnx, by simp only;rw [hz];exact hst, by simp only;rw [hz];exact hfd⟩, by simp only;omega⟩
  · have hie : i = evl.length := by omega
    subst hie
    rw [List.take_length] at hin0 hy ⊢
    have hcl := h1.1.2.2
    have hout : (outL c evl).length ≤ 1000 := by
      have := List.length_filter_le (fun e : EvS => decide (¬ HasC c e.rep e.num)) evl
      unfold outL;omega
    have hF0 : compactF m ⟨b, evl, w⟩ c = (0, ⟨{ y with clock := c }, outL c evl, { w with merged := (outL c evl).foldl (mrg1 m) y.merged }⟩) := by
      refine (@if_neg _ (Classical.propDecidable _) (fun h9 => h9 h1) _ _ _).trans ((@if_neg _ (Classical.propDecidable _) (fun h9 => h9 ⟨h2, h3, hin0⟩) _ _ _).trans ?_)
      rw [cmpB, ← hy]
    rw [hF0]
    repeat' (first|refine Sp.h ?_|refine Lk.r rfl ?_|refine Rf.mk rfl ?_|(apply Bd.f;(focus first|assumption|omega|exact Bool.false_ne_true))|fail)
    (refine Cl.use (hcc) (by repeat' (first|exact Lend.nil|apply Lend.keep|fail)) .nil rfl ?_;rintro _ _ ⟨_, rfl, rfl⟩)
    (repeat' (first|(show CA _ _ (Code.region 26 _ _) _ _;apply Stopped.out)|refine Sp.h ?_|refine Lk.r rfl ?_|refine Rf.mk rfl ?_|(apply TkB.r;(focus repeat first|exact .here|apply Take.there))|(apply SetAk.r;(focus (repeat first|assumption|exact SetA.z|apply SetA.s)))|fail));any_goals apply Stopped.mk
    (apply CA.own;(focus (apply OX.blk (b := b5);(focus repeat first|exact .here|apply Take.there);(focus (repeat' (first|exact FX.nil|(apply FX.s1;(focus repeat first|exact .here|apply Take.there);(focus first|omega|(simp;done)|(simp;omega)))|apply FX.k)));(focus repeat first|exact .here|apply Take.there))))
    repeat' (first|refine Sp.h ?_|refine Lk.r rfl ?_|refine Rf.mk rfl ?_|(apply TkA.r;(focus repeat first|exact .here|apply Take.there))|(apply TkB.r;(focus repeat first|exact .here|apply Take.there))|fail)
    refine CA.loop (fun x : Nat × List MgS => ⟨[(0, pm s), (5, pm b5), (6, .ow vr), (11, mgs x.2), (130, .ow vr), (131, it ((outL c evl).length : Nat)), (132, it x.1)], [stoR s m b v w, arrR v 37 13 evl evC, blkR b5 75 (basC { y with clock := c }), arrR vr 37 13 (outL c evl) evC]⟩)
      (fun x => x.1 ≤ (outL c evl).length ∧ SzM x.2 ∧ x.2 = ((outL c evl).take x.1).foldl (mrg1 m) y.merged) (fun x => (outL c evl).length - x.1) (0, y.merged) ⟨by repeat first|trivial|refine ⟨rfl,?_⟩,by repeat first|exact .nil|refine .cons (by repeat first|exact .here|apply Take.there) ?_⟩ ⟨Nat.zero_le _, hmid.mg, rfl⟩ ?_
    rintro ⟨j, k⟩ ⟨hj, hkz, hk⟩
    simp only at hj hkz hk
    simp only
    by_cases hjl : j < (outL c evl).length
    · obtain ⟨e, he⟩ := get_of hjl
      have hap := applyT_p m k e hm
      repeat' (first|refine Sp.h ?_|refine Lk.r rfl ?_|refine Rf.mk rfl ?_|(apply Bd.t;(focus first|assumption|omega|rfl))|refine OpK.r rfl ?_|(refine All.mk ?_;intro _)|(apply TkA.r;(focus repeat first|exact .here|apply Take.there))|(apply TkB.r;(focus repeat first|exact .here|apply Take.there))|(apply Ix.q;(focus exact rfl);(focus assumption))|(apply At.r;(focus assumption))|refine Ch.l ⟨rfl, rfl⟩ ?_|refine Ch.r ?_|(apply SetAsk.r;(focus (repeat (first|exact SetAs.z|(apply SetAs.c;(focus (repeat first|assumption|exact SetA.z|apply SetA.s)))))))|(apply Nm.r;focus repeat first|apply LN.cons|exact LN.nil)|(apply CA.draw;(focus rfl);(focus kernel_rfl);(focus kernel_rfl);(focus repeat' (first|apply ON.one|exact ON.done|exact ON.none|apply ON.alt));(focus rfl))|(apply Ov.n;(focus first|omega|(simp <;> omega)))|(apply Cl.p (hap);(focus repeat' (first|exact Lend.nil|apply Lend.keep|fail))))
      all_goals exact PA.lp (j + 1, mrg1 m k e) ⟨by repeat first|trivial|refine ⟨rfl,?_⟩,by repeat first|exact .nil|refine .cons (by repeat first|exact .here|apply Take.there) ?_⟩ ⟨⟨hjl, mrg1_sz hkz, by simp only;rw [List.take_add_one, he, Option.toList_some, List.foldl_append, ← hk];rfl⟩, by simp only;omega⟩
    · have hje : j = (outL c evl).length := by omega
      subst hje
      rw [List.take_length] at hk
      have hcm := cloneM_p k (by have := hkz.1;omega) hkz.2
      rw [← hk]
      repeat' (first|refine Sp.h ?_|refine Lk.r rfl ?_|refine Rf.mk rfl ?_|(apply Bd.f;(focus first|assumption|omega|exact Bool.false_ne_true))|refine OpK.r rfl ?_|(apply TkB.r;(focus repeat first|exact .here|apply Take.there))|refine Ch.l ⟨rfl, rfl⟩ ?_|(apply SetAk.r;(focus (repeat first|assumption|exact SetA.z|apply SetA.s)))|(apply SetAsk.r;(focus (repeat (first|exact SetAs.z|(apply SetAs.c;(focus (repeat first|assumption|exact SetA.z|apply SetA.s)))))))|(apply Nm.r;focus repeat first|apply LN.cons|exact LN.nil)|(apply CA.draw;(focus rfl);(focus kernel_rfl);(focus kernel_rfl);(focus repeat' (first|apply ON.one|exact ON.done|exact ON.none|apply ON.alt));(focus rfl))|(apply Cl.p (hcm);(focus repeat' (first|exact Lend.nil|apply Lend.keep|fail))))
      all_goals exact ⟨_, _, .one (.same (.nil (by (repeat first|exact .nil|refine .cons (by repeat first|exact .here|apply Take.there) ?_)))), rfl, vr, rfl⟩
end Go.Proofs.YtmllihbhphnolaaGreat
namespace Go.CF
open Go
def fldE (tt : Nat → Option TI) (t i : Nat) : Option (Nat × Nat × TI) := match tt t with
  | some ti => match ti.kind with
    | .struct fs => match fs[i]? with
      | some (off, ft, _) => match tt ft with
        | some te => if te.kind.agg = false then some (off, ft, te) else none
        | none => none
      | none => none
    | _ => none
  | none => none
theorem fldE_spec {tt : Nat → Option TI} {t i : Nat} {p : Nat × Nat × TI} (h : fldE tt t i = some p) : ∃ ti fs sz, tt t = some ti ∧ ti.kind = .struct fs ∧ fs[i]? = some (p.1, p.2.1, sz) ∧ tt p.2.1 = some p.2.2 ∧ p.2.2.kind.agg = false := by
  unfold fldE at h
  split at h
  · rename_i ti h1
    split at h
    · rename_i fs h2
      split at h
      · rename_i off ft sz h3
        split at h
        · rename_i te h4
          split at h
          · rename_i h5
            cases h
            exact ⟨ti, fs, sz, h1, h2, h3, h4, h5⟩
          · cases h
        · cases h
      · cases h
    · cases h
  · cases h
section
variable {Γ : Cx} {k : List KI} {e : EA} {o : List Res} {N : NA} {c : Cls} {d : Tmp} {ty : TypeId} {x : Operand} {t : TypeId}
theorem St.field {P : Program} {tt : Nat → Option TI} {en : Nat → Bool} (G : PgOK P tt en) {γ : Type} [Membership Nat γ] {fp : γ} {n : Nat} {env : Env} {h : Heap} {N : Env → Heap → Prop} {i : Nat} {p : Nat × Nat × TI} {vs : List Value} {v : Value} (hp : fldE tt t i = some p)
    (hx : ev env x = some (.agg vs.toArray)) (hv : vs[p.1]? = some v) (k : N ((d, v) :: env) h) : St P n fp c (some d) (.field t x i) ty env h N :=
  .ofPu (v := v) (fun a w ha => by
    obtain ⟨ti, fs, sz, h1, h2, h3, h4, h5⟩ := fldE_spec hp
    obtain ⟨ff, hu, rfl⟩ := (G.ok _ _ h1).struct h2
    rw [List.getElem?_map] at h3
    obtain ⟨f, hf1, hf2⟩ := Option.map_eq_some_iff.1 h3
    simp only [Prod.mk.injEq] at hf2
    have hf3 : ff[i]? = some f := by simpa using hf1
    have hag := (G.ok _ _ h4).run_agg w h5
    rw [← hf2.2.1] at hag
    have hv2 : vs[f.offset]? = some v := by rw [hf2.1];exact hv
    simp [mkOp, execOp, ha.ev hx, Instr.field, run_underlying hu, hf3, part, hag, asAgg, hv2]) k
instance {i : Nat} : Sp (SA Γ c (some d) (.field t x i) ty e o N) (Lk (evA e x) fun a => Ap1 Γ c d (.field t x i) ty e o N x a) := ⟨fun ⟨_, ha, h⟩ => h.h ha⟩
instance {i : Nat} {cs : List AV} : Sp (Ap1 Γ c d (.field t x i) ty e o N x (.agg cs)) (Lk (fldE Γ.tt t i) fun p => Lk cs[p.1]? fun a => N ((d, a) :: e) o) := ⟨fun ⟨p, hp, a, ha, hn⟩ => pu1 fun env h G v h1 h2 => by
  obtain ⟨vs, rfl, hr⟩ := h2
  obtain ⟨w, h3, h4⟩ := hr.t.get ha
  exact ⟨a, w, h4, hn, fun _ k => St.field Γ.ok hp h1 h3 k⟩⟩
end
end Go.CF
namespace Go.Proofs.YtmllihbhphnolaaGreat
open Go Go.CF
set_option maxRecDepth 20000
/-! ### The model -/
def tC : TblS := ⟨⟨#[99]⟩, 1, [], 0, 9, 0⟩
def cntM : ModS := ⟨[], [tC], [⟨#[99]⟩], [⟨0, 0, ⟨[(0, -1)], 0⟩, 0, 0⟩, ⟨0, 0, ⟨[(0, 1)], 9⟩, 0, 0⟩], [⟨⟨#[111]⟩, false, []⟩, ⟨⟨#[112]⟩, false, []⟩], [⟨0, [], ⟨[(0, 2)], [], []⟩⟩, ⟨1, [], ⟨[(0, -1)], [], []⟩⟩], []⟩
theorem cnt_a : CallA Tryz.prog 78 [] [] fun r own => ∃ vt vf t1 t2 vc vo d1 d2 va, r = .agg [nl0, .ow vt, .ow vf, .ow vc, .ow vo, .ow va, nl0] ∧ own = [
    arrR va 151 5 [[it 0, nl0, .ow d1, nl0, nl0], [it 1, nl0, .ow d2, nl0, nl0]] id,
    arrR d2 160 2 [[it 0, it (-1)]] id,
    arrR d1 160 2 [[it 0, it 2]] id,
    arrR vo 227 3 [[sv ⟨#[111]⟩, bl false, nl0], [sv ⟨#[112]⟩, bl false, nl0]] id,
    arrR vc 225 6 [[it 0, it 0, .ow t1, it 0, it 0, it 0], [it 0, it 0, .ow t2, it 9, it 0, it 0]] id,
    arrR t2 220 2 [[it 0, it 1]] id,
    arrR t1 220 2 [[it 0, it (-1)]] id,
    arrR vf 9 1 [[sv ⟨#[99]⟩]] id,
    arrR vt 157 6 [[sv ⟨#[99]⟩, it 1, nl0, it 0, it 9, it 0]] id] := by
  refine CallA.of pg ord78 Tryz.func78 rfl Tryz.ntmps78 Tryz.results78 rfl fun h0 G0 O0 => ?_
  repeat' (first|refine Sp.h ?_|refine Lk.r rfl ?_|refine Rf.mk rfl ?_|(refine All.mk ?_;intro _)|(apply TkB.r;(focus repeat first|exact .here|apply Take.there))|(apply SetAsk.r;(focus (repeat (first|exact SetAs.z|(apply SetAs.c;(focus (repeat first|assumption|exact SetA.z|apply SetA.s)))))))|(apply Fk.r;(focus (repeat (first|exact FillA.nil|(apply FillA.agg;(focus rfl);(focus rfl);(focus (repeat (first|exact SetAs.z|(apply SetAs.c;(focus (repeat first|assumption|exact SetA.z|apply SetA.s)))))))|(apply FillA.one;(focus rfl);(focus infer_instance);(focus (repeat first|assumption|exact SetA.z|apply SetA.s)))))))|(apply Nm.r;focus repeat first|apply LN.cons|exact LN.nil)|refine Rf.mk ⟨rfl, rfl, rfl⟩ ?_|fail)
  exact ⟨_, _, .one (.same (.nil (by (repeat first|exact .nil|refine .cons (by repeat first|exact .here|apply Take.there) ?_)))), _, _, _, _, _, _, _, _, _, rfl, rfl⟩
theorem cnt_p : CallP Tryz.prog 78 [] (mdl cntM) := by
  refine CallA.fx cnt_a ?_
  rintro _ _ ⟨vt, vf, t1, t2, vc, vo, d1, d2, va, rfl, rfl⟩
  repeat' (first
    | exact FX.nil
    | (apply FX.sl;(focus repeat first|exact .here|apply Take.there);(focus exact Nat.le_of_ble_eq_true rfl))
    | apply FX.agg
    | (apply FX.le;(focus first|exact ALe.nil|exact ALe.refl _)))
theorem cnt_mrg : mrgF cntM = [] := by simp [mrgF, mrgL, cntM, isStrict, tC]
theorem cnt_str : strF cntM = 1 := by simp [strF, strN, cntM, isStrict, szF, prodF, tC]
theorem cnt_lay : LayOK cntM.sorts cntM.tables := by
  refine ⟨by simp [cntM], fun x hx => by simp [cntM] at hx, by simp [cntM], fun t ht => ?_⟩
  simp only [cntM, List.mem_cons, List.not_mem_nil, or_false] at ht
  subst ht
  simp [TabOK, ColOK, Sound, cntM, tC]
theorem cnt_ok : MOK cntM := by
  refine ⟨cnt_lay, by simp [cntM], by simp [cntM], fun a ha => ?_, by rw [cnt_str];decide, by rw [cnt_mrg];decide⟩
  simp only [cntM, List.mem_cons, List.not_mem_nil, or_false] at ha
  rcases ha with rfl|rfl
  all_goals
    refine ⟨by simp, by simp, by simp, fun p hp => ?_, fun p hp => by simp at hp⟩
    simp only [List.mem_cons, List.not_mem_nil, or_false] at hp
    subst hp
    rw [cnt_str];decide
/-! ### Two events -/
def ca : EvS := ⟨0, 1, 1, [0, 0], 0, 0, 0, 0, 0, 0, 0, 0, 1⟩
def cb : EvS := ⟨1, 1, 1, [0, 0], 0, 1, 0, 0, 0, 0, 0, 0, 1⟩
theorem val2 (a b : Int) (ha : 0 ≤ a ∧ a ≤ 1024) (hb : 0 ≤ b ∧ b ≤ 1024) : ValC [a, b] := ⟨fun x hx => by
  simp only [List.mem_cons, List.not_mem_nil, or_false] at hx
  unfold rngK
  omega, by simp, by simp⟩
theorem ca_f : FormedE ca := ⟨val2 0 0 (by decide) (by decide), by decide, ⟨0, rfl, rfl⟩, by decide, by unfold Btw ca;decide, .inl ⟨rfl, by unfold Sub0 Btw ca;decide, by unfold GiveZ ca;decide⟩⟩
theorem cb_f : FormedE cb := ⟨val2 0 0 (by decide) (by decide), by decide, ⟨0, rfl, rfl⟩, by decide, by unfold Btw cb;decide, .inl ⟨rfl, by unfold Sub0 Btw cb;decide, by unfold GiveZ cb;decide⟩⟩
theorem cab_suit : SuitS cntM [3] [ca, cb] := by
  have hc : ClosedE [ca, cb] := by
    refine ⟨by simp, fun i j a b hi hj hab => ?_, fun e he => ?_, fun e he r n hr i h1 h2 => ?_⟩
    · match i, j with
      | 0, 0 => rfl
      | 1, 1 => rfl
      | 0, 1 => simp at hi hj;subst hi;subst hj;simp [nm, ca, cb] at hab
      | 1, 0 => simp at hi hj;subst hi;subst hj;simp [nm, ca, cb] at hab
      | i + 2, _ => simp at hi
      | 0, j + 2 => simp at hj
      | 1, j + 2 => simp at hj
    · simp only [List.mem_cons, List.not_mem_nil, or_false] at he
      rcases he with rfl|rfl
      · exact ⟨ca_f, rfl⟩
      · exact ⟨cb_f, rfl⟩
    · exfalso
      simp only [List.mem_cons, List.not_mem_nil, or_false] at he
      have hn : n = 0 := by
        rcases he with rfl|rfl
        all_goals
          have := List.mem_of_getElem? hr
          simp [ca, cb] at this
          exact this
      omega
  refine ⟨⟨cnt_ok, ⟨by simp, fun e he => ?_⟩, hc, fun a ha u hu i t _ ht => ?_, fun e he => ?_⟩, by simp, by rw [cnt_str];rfl, by simp, fun a ha p hp => ?_⟩
  · simp only [List.mem_cons, List.not_mem_nil, or_false] at he
    rcases he with rfl|rfl <;> simp [ca, cb]
  · rw [cnt_mrg] at ht;simp at ht
  · simp only [List.mem_cons, List.not_mem_nil, or_false] at he
    rcases he with rfl|rfl
    · exact ⟨ca_f, rfl, fun _ => by decide⟩
    · exact ⟨cb_f, rfl, fun _ => by decide⟩
  · simp only [cntM, List.mem_cons, List.not_mem_nil, or_false] at ha
    rcases ha with rfl|rfl <;> (simp at hp;subst hp;decide)
theorem cab_ext : ExtO [ca, cb] [ca, cb] := by
  have hno : ∀ e, e = ca ∨ e = cb → ∀ d : EvS, ¬ HasC e.past d.rep d.num := fun e he d ⟨_, _, h1, x, hx, h2⟩ => by
    have h3 : e.past = [0, 0] := by rcases he with rfl|rfl <;> rfl
    rw [h3] at hx
    have := List.mem_of_getElem? hx
    simp at this
    omega
  refine ⟨fun e he => he, fun i e he => ⟨?_, fun d hd hh => absurd hh (hno e (by have := List.mem_of_getElem? he;simpa using this) d)⟩⟩
  match i with
  | 0 => simp
  | 1 => simp at he;subst he;simp [ca, cb]
  | i + 2 => simp at he
theorem cab_1 : deliverF cntM [] (stN cntM 2 [3] []) ca = (0, stN cntM 2 [3] [ca]) := (fill_sto cab_suit (by simp) cab_ext 0 (by simp)).2 ca rfl
theorem cab_2 : deliverF cntM [ca] (stN cntM 2 [3] [ca]) cb = (0, stN cntM 2 [3] [ca, cb]) := (fill_sto cab_suit (by simp) cab_ext 1 (by simp)).2 cb rfl
theorem st_cab : (stN cntM 2 [3] [ca, cb]).clock = [1, 1] ∧ (stN cntM 2 [3] [ca, cb]).state = [4] := by
  exact ⟨rfl, rfl⟩
theorem has_2 (x y : Int) (hx : 0 ≤ x ∧ x ≤ 1024) (hy : 0 ≤ y ∧ y ≤ 1024) : (HasC [x, y] 0 1 ↔ 1 ≤ x) ∧ (HasC [x, y] 1 1 ↔ 1 ≤ y) :=
  ⟨⟨fun ⟨_, _, _, z, h1, h2⟩ => by simp at h1;omega, fun h => ⟨val2 x y hx hy, by decide, by decide, x, rfl, h⟩⟩, ⟨fun ⟨_, _, _, z, h1, h2⟩ => by simp at h1;omega, fun h => ⟨val2 x y hx hy, by decide, by decide, y, rfl, h⟩⟩⟩
theorem ins_2 {a b c d : Int} (h1 : a ≤ c) (h2 : b ≤ d) : Ins [a, b] [c, d] := fun i x y hx hy => by
  match i with
  | 0 => simp at hx hy;omega
  | 1 => simp at hx hy;omega
  | i + 2 => simp at hx
theorem cab_3 : ∃ B N, compactF cntM ⟨stN cntM 2 [3] [], [ca, cb], stN cntM 2 [3] [ca, cb]⟩ [1, 0] = (0, ⟨B, [cb], N⟩) ∧ B.state = [5] ∧ SzN B ∧ N.clock = [1, 1] := by
  have hb : (stN cntM 2 [3] []).clock = [0, 0] := rfl
  obtain ⟨h1, h2⟩ := has_2 1 0 (by decide) (by decide)
  have e1 : inL [1, 0] [ca, cb] = [ca] := by
    have a1 : HasC [1, 0] ca.rep ca.num := h1.2 (by decide)
    have a2 : ¬ HasC [1, 0] cb.rep cb.num := fun h => absurd (h2.1 h) (by decide)
    simp [inL, a1, a2]
  have e2 : outL [1, 0] [ca, cb] = [cb] := by
    have a1 : HasC [1, 0] ca.rep ca.num := h1.2 (by decide)
    have a2 : ¬ HasC [1, 0] cb.rep cb.num := fun h => absurd (h2.1 h) (by decide)
    simp [outL, a1, a2]
  refine ⟨cmpB cntM (stN cntM 2 [3] []) [1, 0] [ca, cb], { stN cntM 2 [3] [ca, cb] with merged := [cb].foldl (mrg1 cntM) (cmpB cntM (stN cntM 2 [3] []) [1, 0] [ca, cb]).merged }, ?_, ?_, ?_, st_cab.1⟩
  · have q1 : ValC [1, 0] ∧ ([1, 0] : List Int).length = (stN cntM 2 [3] [ca, cb]).clock.length := ⟨val2 1 0 (by decide) (by decide), rfl⟩
    have q2 : Ins (stN cntM 2 [3] []).clock [1, 0] ∧ Ins [1, 0] (stN cntM 2 [3] [ca, cb]).clock ∧ ∀ e ∈ [ca, cb], HasC [1, 0] e.rep e.num → Ins e.past [1, 0] := by
      refine ⟨by rw [hb];exact ins_2 (by decide) (by decide), by rw [st_cab.1];exact ins_2 (by decide) (by decide), fun e he _ => ?_⟩
      simp only [List.mem_cons, List.not_mem_nil, or_false] at he
      rcases he with rfl|rfl <;> exact ins_2 (by decide) (by decide)
    refine (@if_neg _ (Classical.propDecidable _) (fun h9 => h9 q1) _ _ _).trans ((@if_neg _ (Classical.propDecidable _) (fun h9 => h9 q2) _ _ _).trans ?_)
    simp only [e2]
  · rw [cmpB, e1];rfl
  · rw [cmpB, e1]
    have hsz : SzM (mrg1 cntM (stN cntM 2 [3] []).merged ca) := mrg1_sz (by
      simp only [stN, List.foldl_nil, cnt_mrg]
      exact ⟨by simp, by simp⟩)
    exact ⟨by simp, by simp only [List.foldl_cons, List.foldl_nil, cmp1, addE_len];simp [stN], hsz.1, hsz.2, by simp only [List.foldl_cons, List.foldl_nil, cmp1];simp [stN, plE, ca]⟩
theorem cmk : makeF cntM (stN cntM 2 [3] []) 0 { ev0 with serial := 1 } = (0, ca) := by
  have hm : mkN (stN cntM 2 [3] []) 0 { ev0 with serial := 1 } = ca := rfl
  rw [makeF, if_neg (by show ¬ ((0:Int) < 0 ∨ (2:Int) ≤ 0);decide), if_neg (by show ¬ ((1024:Int) ≤ 0 ∨ (1073741824 : Int) ≤ 0);decide), hm, if_neg (fun h => h ⟨ca_f, rfl, fun _ => by decide⟩)]
end Go.Proofs.YtmllihbhphnolaaGreat
namespace Go.Proofs.YtmllihbhphnolaaGreat
open Go Go.CF
set_option maxRecDepth 20000
set_option maxHeartbeats 2000000 in
theorem equal32_p (a b : EvS) : CallP Tryz.prog 113 [evA' a, evA' b] (.val (.bool (decide (a = b)))) := by
  refine CallA.of pg ord113 Tryz.func113 rfl Tryz.ntmps113 Tryz.results113 rfl fun h0 G0 O0 => ?_
  repeat' (first|refine Sp.h ?_|refine Lk.r rfl ?_|refine Rf.mk rfl ?_|(apply Bd.t;(focus first|assumption|omega|rfl))|(apply Bd.f;(focus first|assumption|omega|exact Bool.false_ne_true))|(refine Bd.mk ?_ ?_ <;> intro _)|(refine All.mk ?_;intro _)|(apply TkB.r;(focus repeat first|exact .here|apply Take.there))|(apply Nm.r;focus repeat first|apply LN.cons|exact LN.nil)|fail)
  (apply Cl.p (intsR_p _ _);(focus repeat' (first|exact Lend.nil|apply Lend.keep|fail)))
  repeat' (first|refine Sp.h ?_|refine Lk.r rfl ?_|refine Rf.mk rfl ?_|(apply Bd.t;(focus first|assumption|omega|rfl))|(apply Bd.f;(focus first|assumption|omega|exact Bool.false_ne_true))|(refine Bd.mk ?_ ?_ <;> intro _)|(apply TkB.r;(focus repeat first|exact .here|apply Take.there))|refine Ch.r ?_|(apply Nm.r;focus repeat first|apply LN.cons|exact LN.nil)|(apply Il.r;(focus repeat (first|apply ILit.cons|exact ILit.nil)))|(apply Kf.mk;(focus kernel_rfl))|fail)
  all_goals refine Fin.p rfl (vb ?_)
  · refine decide_eq_decide.2 ⟨fun h => ?_, fun h => by rw [h]⟩
    cases a;cases b;simp_all
  all_goals exact (decide_eq_false (fun h => by subst h;first|contradiction|simp_all)).symm
theorem same32_p (a b : List EvS) : CallP Tryz.prog 41 [evs a, evs b] (bl (decide (a = b))) := by
  refine CallA.of pg ord41 Tryz.func41 rfl Tryz.ntmps41 Tryz.results41 rfl fun h0 G0 O0 => ?_
  by_cases hl : a.length = b.length
  rotate_left
  · repeat' (first|refine Sp.h ?_|refine Lk.r rfl ?_|refine Rf.mk rfl ?_|(apply Bd.f;(focus first|assumption|omega|exact Bool.false_ne_true))|(refine Im.mk ?_;intro _)|(apply Nm.r;focus repeat first|apply LN.cons|exact LN.nil)|fail)
    exact Fin.p rfl (vb (decide_eq_false (fun e => hl (by rw [e]))).symm)
  repeat' (first|refine Sp.h ?_|refine Lk.r rfl ?_|refine Rf.mk rfl ?_|(apply Bd.t;(focus first|assumption|omega|rfl))|(refine Im.mk ?_;intro _)|fail)
  refine CA.loop (fun i : Nat => ⟨[(0, evs a), (1, evs b), (5, it i)], []⟩) (fun i => i ≤ a.length ∧ ∀ (j : Nat) x y, j < i → a[j]? = some x → b[j]? = some y → x = y) (fun i => a.length - i) 0 ⟨by repeat first|trivial|refine ⟨rfl,?_⟩,by repeat first|exact .nil|refine .cons (by repeat first|exact .here|apply Take.there) ?_⟩ ⟨Nat.zero_le _, fun j x y h => by omega⟩ ?_
  rintro i ⟨hi, ha⟩
  by_cases hin : i < a.length
  · obtain ⟨x, hx⟩ := get_of hin
    obtain ⟨y, hy⟩ := get_of (l := b) (i := i) (by omega)
    have he := equal32_p x y
    by_cases hxy : x = y
    · rw [decide_eq_true hxy] at he
      repeat' (first|refine Sp.h ?_|refine Lk.r rfl ?_|refine Rf.mk rfl ?_|(apply Bd.t;(focus first|assumption|omega|rfl))|refine OpK.r rfl ?_|(refine Im.mk ?_;intro _)|(apply Ix.q;(focus exact rfl);(focus assumption))|refine Ch.l ⟨rfl, rfl⟩ ?_|(apply CA.draw;(focus rfl);(focus kernel_rfl);(focus kernel_rfl);(focus repeat' (first|apply ON.one|exact ON.done|exact ON.none|apply ON.alt));(focus rfl))|(apply Ov.n;(focus first|omega|(simp <;> omega)))|(apply Cl.p (he);(focus repeat' (first|exact Lend.nil|apply Lend.keep|fail))))
      all_goals
        refine PA.lp (i + 1) ⟨by repeat first|trivial|refine ⟨rfl,?_⟩,by repeat first|exact .nil|refine .cons (by repeat first|exact .here|apply Take.there) ?_⟩ ⟨⟨hin, fun j x' y' h1 h2 h3 => ?_⟩, by omega⟩
        by_cases hij : j = i
        · subst hij;rw [hx] at h2;rw [hy] at h3;cases h2;cases h3;exact hxy
        · exact ha j x' y' (by omega) h2 h3
    · rw [decide_eq_false hxy] at he
      repeat' (first|refine Sp.h ?_|refine Lk.r rfl ?_|refine Rf.mk rfl ?_|(apply Bd.t;(focus first|assumption|omega|rfl))|(apply Bd.f;(focus first|assumption|omega|exact Bool.false_ne_true))|refine OpK.r rfl ?_|(refine Im.mk ?_;intro _)|(apply Ix.q;(focus exact rfl);(focus assumption))|refine Ch.l ⟨rfl, rfl⟩ ?_|(apply Nm.r;focus repeat first|apply LN.cons|exact LN.nil)|(apply CA.draw;(focus rfl);(focus kernel_rfl);(focus kernel_rfl);(focus repeat' (first|apply ON.one|exact ON.done|exact ON.none|apply ON.alt));(focus rfl))|(apply Cl.p (he);(focus repeat' (first|exact Lend.nil|apply Lend.keep|fail))))
      all_goals exact Fin.p rfl (vb (decide_eq_false (fun e => hxy (by subst e;rw [hx] at hy;cases hy;rfl))).symm)
  · have hie : i = a.length := by omega
    subst hie
    repeat' (first|refine Sp.h ?_|refine Lk.r rfl ?_|refine Rf.mk rfl ?_|(apply Bd.f;(focus first|assumption|omega|exact Bool.false_ne_true))|(refine Im.mk ?_;intro _)|(apply Nm.r;focus repeat first|apply LN.cons|exact LN.nil)|fail)
    refine Fin.p rfl (vb (decide_eq_true (List.ext_getElem? fun j => ?_)).symm)
    by_cases hj : j < a.length
    · obtain ⟨x, hx⟩ := get_of hj
      obtain ⟨y, hy⟩ := get_of (l := b) (i := j) (by omega)
      rw [hx, hy, ha j x y hj hx hy]
    · rw [List.getElem?_eq_none (by omega), List.getElem?_eq_none (by omega)]
theorem stN_okC (X : List EvS) (hX : ∀ e ∈ X, e ∈ [ca, cb]) (hl : X.length ≤ 1000) : NowOK cntM (stN cntM 2 [3] X) := stN_ok cab_suit hX hl
set_option maxHeartbeats 8000000 in
theorem awake35_p : CallP Tryz.prog 13 [] (bl true) := by
  have hc := cnt_p
  have h1 := new35_a cntM 2 [3] cnt_ok (by decide) (by rw [cnt_str];rfl) (insS_ld (by simp))
  have h2 : ∀ p v, CallA Tryz.prog 18 [pm p, it 0, evA' { ev0 with serial := 1 }] [stoR p cntM (stN cntM 2 [3] []) v (stN cntM 2 [3] [])] fun q own => q = .tup [evA' ca, it 0] ∧ own = [stoR p cntM (stN cntM 2 [3] []) v (stN cntM 2 [3] [])] := fun p v => by
    have := smake_a p cntM (stN cntM 2 [3] []) v (stN cntM 2 [3] []) 0 { ev0 with serial := 1 } (by simp [stN, clkE]) (by simp [stN, clkE]) (by simp [stN])
    rwa [cmk] at this
  have h3 : ∀ p v, CallA Tryz.prog 21 [pm p, evA' ca] [stoR p cntM (stN cntM 2 [3] []) v (stN cntM 2 [3] []), arrR v 37 13 ([] : List EvS) evC] fun r own => r = it 0 ∧ ∃ v', own = [stoR p cntM (stN cntM 2 [3] []) v' (stN cntM 2 [3] [ca]), arrR v' 37 13 [ca] evC] := fun p v => by
    have := deliver_a p cntM (stN cntM 2 [3] []) v [] (stN cntM 2 [3] []) ca cnt_ok (stN_okC [] (by simp) (by simp)) (by simp)
    rw [evsD, cab_1, if_pos rfl] at this
    exact this
  have h4 : ∀ p v, CallA Tryz.prog 21 [pm p, evA' cb] [stoR p cntM (stN cntM 2 [3] []) v (stN cntM 2 [3] [ca]), arrR v 37 13 [ca] evC] fun r own => r = it 0 ∧ ∃ v', own = [stoR p cntM (stN cntM 2 [3] []) v' (stN cntM 2 [3] [ca, cb]), arrR v' 37 13 [ca, cb] evC] := fun p v => by
    have := deliver_a p cntM (stN cntM 2 [3] []) v [ca] (stN cntM 2 [3] [ca]) cb cnt_ok (stN_okC [ca] (by simp) (by simp)) (by simp)
    rw [evsD, cab_2, if_pos rfl] at this
    exact this
  obtain ⟨⟨bc, bt, bs, bm, bp⟩, ⟨nc, nt, ns, nm', np⟩, c1, c2, c3, c4⟩ := cab_3
  simp only at c2 c4
  subst c2
  subst c4
  obtain ⟨B, hB⟩ : ∃ B : NowS, B = ⟨bc, bt, [5], bm, bp⟩ := ⟨_, rfl⟩
  obtain ⟨N, hN⟩ : ∃ N : NowS, N = ⟨[1, 1], nt, ns, nm', np⟩ := ⟨_, rfl⟩
  rw [← hB, ← hN] at c1
  have h5 : ∀ p v, CallA Tryz.prog 66 [pm p, ints [1, 0]] [stoR p cntM (stN cntM 2 [3] []) v (stN cntM 2 [3] [ca, cb]), arrR v 37 13 [ca, cb] evC] fun r own => r = it 0 ∧ ∃ v', own = [stoR p cntM B v' N, arrR v' 37 13 [cb] evC] := fun p v => by
    have hN := stN_okC [ca, cb] (by simp) (by simp)
    have h0 := stN_okC [] (by simp) (by simp)
    have := compact_a p cntM (stN cntM 2 [3] []) v [ca, cb] (stN cntM 2 [3] [ca, cb]) [1, 0] cnt_ok hN ⟨h0.clk, rfl, h0.st, by simp only [stN, List.foldl_nil, cnt_mrg];exact ⟨by simp, by simp⟩, h0.pls, by simp [stN]⟩ (by simp) (fun e he => by
      simp only [List.mem_cons, List.not_mem_nil, or_false] at he
      rcases he with rfl|rfl
      · exact ⟨ca_f, rfl, fun _ => by decide⟩
      · exact ⟨cb_f, rfl, fun _ => by decide⟩)
    rw [c1] at this
    exact this
  have e4 := equal_p [4] [4]
  have e5 := equal_p [5] [5]
  have e11 := equal_p [1, 1] [1, 1]
  have es := same32_p [cb] [cb]
  rw [decide_eq_true rfl] at e4 e5 e11 es
  have e5' : CallP Tryz.prog 19 [ints B.state, ints [5]] (bl true) := by rw [show B.state = [5] by rw [hB]];exact e5
  have e11' : CallP Tryz.prog 19 [ints N.clock, ints [1, 1]] (bl true) := by rw [show N.clock = [1, 1] by rw [hN]];exact e11
  refine CallA.of pg ord13 Tryz.func13 rfl Tryz.ntmps13 Tryz.results13 rfl fun h0 G0 O0 => ?_
  repeat' (first|refine Sp.h ?_|refine Lk.r rfl ?_|refine Rf.mk rfl ?_|(refine All.mk ?_;intro _)|(apply Fk.r;(focus (repeat (first|exact FillA.nil|(apply FillA.agg;(focus rfl);(focus rfl);(focus (repeat (first|exact SetAs.z|(apply SetAs.c;(focus (repeat first|assumption|exact SetA.z|apply SetA.s)))))))|(apply FillA.one;(focus rfl);(focus infer_instance);(focus (repeat first|assumption|exact SetA.z|apply SetA.s)))))))|refine Rf.mk ⟨rfl, rfl, rfl⟩ ?_|(apply Cl.p (hc);(focus repeat' (first|exact Lend.nil|fail))))
  apply Cl.fx [mdl cntM, it 2, ints [3]]
  focus (repeat' (first|exact FX.nil|(apply FX.sl;(focus repeat first|exact .here|apply Take.there);(focus exact Nat.le_of_ble_eq_true rfl))|(apply FX.le;(focus first|exact ALe.refl _|exact ALe.nil))|apply FX.agg|apply FX.tup))
  (apply Cl.use (h1);(focus repeat' (first|exact Lend.nil|apply Lend.keep|fail));(focus (repeat (first|exact Takes.nil|(apply Takes.cons;(focus repeat first|exact .here|apply Take.there)))));(focus rfl))
  rintro _ _ ⟨p, v, rfl, rfl⟩
  repeat' (first|refine Sp.h ?_|refine Lk.r rfl ?_|refine Rf.mk rfl ?_|(apply Bd.t;(focus first|assumption|omega|rfl))|(apply Bd.f;(focus first|assumption|omega|exact Bool.false_ne_true))|(apply Fk.r;(focus (repeat (first|exact FillA.nil|(apply FillA.agg;(focus rfl);(focus rfl);(focus (repeat (first|exact SetAs.z|(apply SetAs.c;(focus (repeat first|assumption|exact SetA.z|apply SetA.s)))))))|(apply FillA.one;(focus rfl);(focus infer_instance);(focus (repeat first|assumption|exact SetA.z|apply SetA.s)))))))|fail)
  apply Cl.fx [pm p, it 0, evA' { ev0 with serial := 1 }]
  focus (repeat' (first|exact FX.nil|(apply FX.sl;(focus repeat first|exact .here|apply Take.there);(focus exact Nat.le_of_ble_eq_true rfl))|(apply FX.le;(focus first|exact ALe.refl _|exact ALe.nil))|apply FX.agg|apply FX.tup))
  (apply Cl.use (h2 p v);(focus repeat' (first|exact Lend.nil|apply Lend.keep|fail));(focus (repeat (first|exact Takes.nil|(apply Takes.cons;(focus repeat first|exact .here|apply Take.there)))));(focus rfl))
  rintro _ _ ⟨rfl, rfl⟩
  (repeat' (first|(show CA _ _ (Code.region 6 _ _) _ _;apply Stopped.out)|refine Sp.h ?_|refine Lk.r rfl ?_|refine Rf.mk rfl ?_|(refine All.mk ?_;intro _)|(apply TkB.r;(focus repeat first|exact .here|apply Take.there))|(apply SetAsk.r;(focus (repeat (first|exact SetAs.z|(apply SetAs.c;(focus (repeat first|assumption|exact SetA.z|apply SetA.s)))))))|(apply Fk.r;(focus (repeat (first|exact FillA.nil|(apply FillA.agg;(focus rfl);(focus rfl);(focus (repeat (first|exact SetAs.z|(apply SetAs.c;(focus (repeat first|assumption|exact SetA.z|apply SetA.s)))))))|(apply FillA.one;(focus rfl);(focus infer_instance);(focus (repeat first|assumption|exact SetA.z|apply SetA.s)))))))|(apply Nm.r;focus repeat first|apply LN.cons|exact LN.nil)|refine Rf.mk ⟨rfl, rfl, rfl⟩ ?_|fail));any_goals apply Stopped.mk
  rename_i b3 u b4
  apply CA.own
  focus (apply OX.blk (b := b4);(focus repeat first|exact .here|apply Take.there);(focus (apply FX.k;apply FX.k;apply FX.k;apply FX.sl (ys := [0, 0]) (g := intC);(focus repeat first|exact .here|apply Take.there);(focus exact Nat.le_of_ble_eq_true rfl);(focus exact FX.le (ALe.refl _) (FX.le (ALe.refl _) FX.nil));exact FX.refl _));(focus repeat first|exact .here|apply Take.there))
  repeat' (first|refine Sp.h ?_|refine Lk.r rfl ?_|refine Rf.mk rfl ?_|(apply Bd.t;(focus first|assumption|omega|rfl))|(apply TkB.r;(focus repeat first|exact .here|apply Take.there))|refine Ch.l ⟨rfl, rfl⟩ ?_|fail)
  (apply Cl.use (h3 p v);(focus repeat' (first|exact Lend.nil|apply Lend.keep|fail));(focus (repeat (first|exact Takes.nil|(apply Takes.cons;(focus repeat first|exact .here|apply Take.there)))));(focus rfl))
  rintro _ _ ⟨rfl, v1, rfl⟩
  repeat' (first|refine Sp.h ?_|refine Lk.r rfl ?_|refine Rf.mk rfl ?_|(apply Bd.t;(focus first|assumption|omega|rfl))|(apply TkB.r;(focus repeat first|exact .here|apply Take.there))|refine Ch.l ⟨rfl, rfl⟩ ?_|fail)
  (apply Cl.use (h4 p v1);(focus repeat' (first|exact Lend.nil|apply Lend.keep|fail));(focus (repeat (first|exact Takes.nil|(apply Takes.cons;(focus repeat first|exact .here|apply Take.there)))));(focus rfl))
  rintro _ _ ⟨rfl, v2, rfl⟩
  have h6 := sstate_p p cntM (stN cntM 2 [3] []) v2 (stN cntM 2 [3] [ca, cb]) (by rw [st_cab.2];decide)
  rw [st_cab.2] at h6
  repeat' (first|refine Sp.h ?_|refine Lk.r rfl ?_|refine Rf.mk rfl ?_|(apply Bd.t;(focus first|assumption|omega|rfl))|fail)
  (apply Cl.use (h6);(focus repeat' (first|exact Lend.nil|apply Lend.keep|fail));(focus (repeat (first|exact Takes.nil|(apply Takes.cons;(focus repeat first|exact .here|apply Take.there)))));(focus rfl))
  rintro _ _ ⟨rfl, rfl⟩
  repeat' (first|refine Sp.h ?_|refine Lk.r rfl ?_|refine Rf.mk rfl ?_|(apply Bd.t;(focus first|assumption|omega|rfl))|(refine All.mk ?_;intro _)|(apply Fk.r;(focus (repeat (first|exact FillA.nil|(apply FillA.agg;(focus rfl);(focus rfl);(focus (repeat (first|exact SetAs.z|(apply SetAs.c;(focus (repeat first|assumption|exact SetA.z|apply SetA.s)))))))|(apply FillA.one;(focus rfl);(focus infer_instance);(focus (repeat first|assumption|exact SetA.z|apply SetA.s)))))))|refine Rf.mk ⟨rfl, rfl, rfl⟩ ?_|fail)
  (apply Cl.lend (e4);(focus repeat' (first|exact Lend.nil|apply Lend.keep|(apply Lend.lendm;(focus repeat first|exact .here|apply Take.there);(focus rfl);(focus first|omega|decide|(simp;omega)|exact Nat.le_of_ble_eq_true rfl))|fail)))
  repeat' (first|refine Sp.h ?_|refine Lk.r rfl ?_|refine Rf.mk rfl ?_|(apply Bd.t;(focus first|assumption|omega|rfl))|(refine All.mk ?_;intro _)|(apply Fk.r;(focus (repeat (first|exact FillA.nil|(apply FillA.agg;(focus rfl);(focus rfl);(focus (repeat (first|exact SetAs.z|(apply SetAs.c;(focus (repeat first|assumption|exact SetA.z|apply SetA.s)))))))|(apply FillA.one;(focus rfl);(focus infer_instance);(focus (repeat first|assumption|exact SetA.z|apply SetA.s)))))))|refine Rf.mk ⟨rfl, rfl, rfl⟩ ?_|fail)
  apply Cl.fx [pm p, ints [1, 0]]
  focus (repeat' (first|exact FX.nil|(apply FX.sl;(focus repeat first|exact .here|apply Take.there);(focus exact Nat.le_of_ble_eq_true rfl))|(apply FX.le;(focus first|exact ALe.refl _|exact ALe.nil))|apply FX.agg|apply FX.tup))
  (apply Cl.use (h5 p v2);(focus repeat' (first|exact Lend.nil|apply Lend.keep|fail));(focus (repeat (first|exact Takes.nil|(apply Takes.cons;(focus repeat first|exact .here|apply Take.there)))));(focus rfl))
  rintro _ _ ⟨rfl, v3, rfl⟩
  have h7 := sbase_r cntM B N [cb] (by rw [hB];exact c3)
  have h8 := sevents_z cntM B N [cb] (by simp) (by simp [cb])
  have h9 := sclock_z cntM B N [cb] (by rw [hN];simp)
  (repeat' (first|(show CA _ _ (Code.region 9 _ _) _ _;apply Stopped.out)|refine Sp.h ?_|refine Lk.r rfl ?_|fail));any_goals apply Stopped.mk
  (apply CA.own;(focus (apply OX.blk (b := p);(focus repeat first|exact .here|apply Take.there);(focus (repeat' (first|exact FX.nil|(apply FX.s1;(focus repeat first|exact .here|apply Take.there);(focus first|omega|(simp;done)|(simp;omega)))|apply FX.k)));(focus repeat first|exact .here|apply Take.there))))
  apply CA.freezeB 1
  focus rfl
  focus (repeat first|exact .here|apply Take.there)
  repeat' (first|refine Sp.h ?_|refine Lk.r rfl ?_|refine Rf.mk rfl ?_|(apply Bd.t;(focus first|assumption|omega|rfl))|refine OpK.r rfl ?_|(refine All.mk ?_;intro _)|(apply TkB.r;(focus repeat first|exact .here|apply Take.there))|refine Ch.l ⟨rfl, rfl⟩ ?_|(apply Fk.r;(focus (repeat (first|exact FillA.nil|(apply FillA.agg;(focus rfl);(focus rfl);(focus (repeat (first|exact SetAs.z|(apply SetAs.c;(focus (repeat first|assumption|exact SetA.z|apply SetA.s)))))))|(apply FillA.one;(focus rfl);(focus infer_instance);(focus (repeat first|assumption|exact SetA.z|apply SetA.s)))))))|(apply Nm.r;focus repeat first|apply LN.cons|exact LN.nil)|refine Rf.mk ⟨rfl, rfl, rfl⟩ ?_|(apply CA.draw;(focus rfl);(focus kernel_rfl);(focus kernel_rfl);(focus repeat' (first|apply ON.one|exact ON.done|exact ON.none|apply ON.alt));(focus rfl))|exact trivial|apply RA'.both|(apply Cl.p (h7);(focus ((repeat' (first|exact Lend.nil|apply Lend.keep|(apply Lend.lendm;(focus repeat first|exact .here|apply Take.there);(focus rfl);(focus first|omega|decide|(simp;omega)|exact Nat.le_of_ble_eq_true rfl))|fail));done)))|(apply Cl.p (h8);(focus ((repeat' (first|exact Lend.nil|apply Lend.keep|(apply Lend.lendm;(focus repeat first|exact .here|apply Take.there);(focus rfl);(focus first|omega|decide|(simp;omega)|exact Nat.le_of_ble_eq_true rfl))|fail));done)))|(apply Cl.p (h9);(focus ((repeat' (first|exact Lend.nil|apply Lend.keep|(apply Lend.lendm;(focus repeat first|exact .here|apply Take.there);(focus rfl);(focus first|omega|decide|(simp;omega)|exact Nat.le_of_ble_eq_true rfl))|fail));done)))|(apply Cl.lend (e5');(focus ((repeat' (first|exact Lend.nil|apply Lend.keep|(apply Lend.lendm;(focus repeat first|exact .here|apply Take.there);(focus rfl);(focus first|omega|decide|(simp;omega)|exact Nat.le_of_ble_eq_true rfl))|fail));done)))|(apply Cl.lend (es);(focus ((repeat' (first|exact Lend.nil|apply Lend.keep|(apply Lend.lendm;(focus repeat first|exact .here|apply Take.there);(focus rfl);(focus first|omega|decide|(simp;omega)|exact Nat.le_of_ble_eq_true rfl))|fail));done)))|(apply Cl.lend (e11');(focus ((repeat' (first|exact Lend.nil|apply Lend.keep|(apply Lend.lendm;(focus repeat first|exact .here|apply Take.there);(focus rfl);(focus first|omega|decide|(simp;omega)|exact Nat.le_of_ble_eq_true rfl))|fail));done))))
  all_goals exact Fin.p rfl rfl
end Go.Proofs.YtmllihbhphnolaaGreat
namespace Go.Proofs.YtmllihbhphnolaaGreat
open Go Go.CF
set_option maxRecDepth 20000
theorem estrict_p (t : TblS) : CallP Tryz.prog 134 [.agg (tblC t)] (bl (decide (isStrict t.kind))) := by
  refine CallA.of pg ord134 Tryz.func134 rfl Tryz.ntmps134 Tryz.results134 rfl fun h0 G0 O0 => ?_
  repeat' (first|refine Sp.h ?_|refine Lk.r rfl ?_|refine Rf.mk rfl ?_|(apply Bd.t;(focus first|assumption|omega|rfl))|(apply Bd.f;(focus first|assumption|omega|exact Bool.false_ne_true))|(refine Bd.mk ?_ ?_ <;> intro _)|(refine All.mk ?_;intro _)|(apply TkB.r;(focus repeat first|exact .here|apply Take.there))|(apply Nm.r;focus repeat first|apply LN.cons|exact LN.nil)|fail)
  all_goals exact Fin.p rfl (vb (by first|exact (decide_eq_true (by unfold isStrict;omega)).symm|exact (decide_eq_false (by unfold isStrict;omega)).symm|exact decide_eq_decide.2 (by unfold isStrict;omega)))
theorem esize_p (m : ModS) (t : TblS) (h : ColOK m.sorts t.cols) : CallP Tryz.prog 135 [mdl m, .agg (tblC t)] (it (szF m t : Nat)) := by
  have h1 := sz_fit (m := m) h
  refine CallA.of pg ord135 Tryz.func135 rfl Tryz.ntmps135 Tryz.results135 rfl fun h0 G0 O0 => ?_
  repeat' (first|refine Sp.h ?_|refine Lk.r rfl ?_|refine Rf.mk rfl ?_|(refine Im.mk ?_;intro _)|(refine All.mk ?_;intro _)|(apply TkB.r;(focus repeat first|exact .here|apply Take.there))|fail)
  rename_i b2 b3 _
  refine CA.loop (fun k : Nat => ⟨[(2, pm b2), (5, it (prodF m.sorts (t.cols.take k))), (9, ints t.cols), (10, it (t.cols.length : Nat)), (11, it k)], [mR b2 m]⟩) (fun k => k ≤ t.cols.length) (fun k => t.cols.length - k) 0 ⟨by repeat first|trivial|refine ⟨rfl,?_⟩,by repeat first|exact .nil|refine .cons (by repeat first|exact .here|apply Take.there) ?_⟩ (Nat.zero_le _) ?_
  intro k hk
  by_cases hkn : k < t.cols.length
  · obtain ⟨x, hx⟩ := get_of hkn
    obtain ⟨j, rfl, y, hy, hy1, hy2⟩ := col_get h hx
    have hb := prod_succ hx (show m.sorts[((j : Int)).toNat]? = some y by simpa using hy)
    have hp := prod_fit h k
    have hp2 := prod_fit h (k + 1)
    rw [hb] at hp2
    have hj := (List.getElem?_eq_some_iff.1 hy).1
    repeat' (first|refine Sp.h ?_|refine Lk.r rfl ?_|refine Rf.mk rfl ?_|(apply Bd.t;(focus first|assumption|omega|rfl))|(apply Om.mk;(focus first|omega|(simp <;> omega)))|(apply TkB.r;(focus repeat first|exact .here|apply Take.there))|(apply Ix.q;(focus exact rfl);(focus assumption))|(apply Ov.n;(focus first|omega|(simp <;> omega)))|fail)
    rw [← hb]
    exact PA.lp (k + 1) ⟨by repeat first|trivial|refine ⟨rfl,?_⟩,by repeat first|exact .nil|refine .cons (by repeat first|exact .here|apply Take.there) ?_⟩ ⟨hkn, by omega⟩
  · have hke : k = t.cols.length := by omega
    subst hke
    simp only [List.take_length]
    rw [h1.1]
    repeat' (first|refine Sp.h ?_|refine Lk.r rfl ?_|refine Rf.mk rfl ?_|(apply Bd.f;(focus first|assumption|omega|exact Bool.false_ne_true))|(apply Nm.r;focus repeat first|apply LN.cons|exact LN.nil)|fail)
    exact Fin.p rfl rfl
theorem evalid1_p (m : ModS) (e : EvS) : CallP Tryz.prog 195 [evA' e, .ad (modC m) 0] (bl (decide (¬ EvV m (e.past.length : Nat) e))) := by
  have h := evalid_p m (e.past.length : Nat) e
  refine CallA.of pg ord195 Tryz.func195 rfl Tryz.ntmps195 Tryz.results195 rfl fun h0 G0 O0 => ?_
  repeat' (first|refine Sp.h ?_|refine Lk.r rfl ?_|refine Rf.mk rfl ?_|(refine Im.mk ?_;intro _)|(refine All.mk ?_;intro _)|(apply TkB.r;(focus repeat first|exact .here|apply Take.there))|refine Ch.l ⟨rfl, rfl⟩ ?_|(apply Nm.r;focus repeat first|apply LN.cons|exact LN.nil)|(apply Cl.p (h);(focus repeat' (first|exact Lend.nil|apply Lend.keep|fail))))
  exact Fin.p rfl rfl
theorem evalidL_p (m : ModS) (l : List EvS) (h : ∀ e ∈ l, EvV m (e.past.length : Nat) e) : CallP Tryz.prog 136 [mdl m, evs l] (bl true) := by
  have hc := containsF_p (fun e => evalid1_p m e) rfl l
  rw [decide_eq_false (fun h9 => by
    obtain ⟨x, h1, h2⟩ := idxN_lt.1 h9
    exact (of_decide_eq_true h2) (h x h1))] at hc
  refine CallA.of pg ord136 Tryz.func136 rfl Tryz.ntmps136 Tryz.results136 rfl fun h0 G0 O0 => ?_
  repeat' (first|refine Sp.h ?_|refine Lk.r rfl ?_|refine Rf.mk rfl ?_|(refine All.mk ?_;intro _)|fail)
  (apply Cl.lend (hc);(focus repeat' (first|exact Lend.nil|apply Lend.keep|(apply Lend.cell;(focus repeat first|exact .here|apply Take.there))|refine Lend.fn ?_ ?_|fail)))
  repeat' (first|refine Sp.h ?_|refine Lk.r rfl ?_|(apply Nm.r;focus repeat first|apply LN.cons|exact LN.nil)|fail)
  exact Fin.p rfl rfl
theorem foldE_succ {m : ModS} {l : List EvS} {i : Nat} {e : EvS} (h : l[i]? = some e) (s : List Int) : (l.take (i + 1)).foldl (addE m) s = addE m ((l.take i).foldl (addE m) s) e := by
  rw [List.take_add_one, h, Option.toList_some, List.foldl_append];rfl
set_option maxHeartbeats 4000000 in
theorem estate_p (m : ModS) (ld : List Int) (l : List EvS) (hm : MOK m) (hl : ld.length = strF m) (h : ∀ e ∈ l, EvV m (e.past.length : Nat) e) : CallP Tryz.prog 68 [mdl m, ints ld, evs l] (.tup [ints (l.foldl (addE m) ld), it 0]) := by
  have hml := hm.lay.2.2.1
  have hstr := hm.str
  have hcl := clone_o ld (by omega)
  have hvl := evalidL_p m l h
  refine CallA.fzt (T := 3) (by rw [foldE_len];omega) ?_
  refine CallA.of pg ord68 Tryz.func68 rfl Tryz.ntmps68 Tryz.results68 rfl fun h0 G0 O0 => ?_
  repeat' (first|refine Sp.h ?_|refine Lk.r rfl ?_|refine Rf.mk rfl ?_|(refine Im.mk ?_;intro _)|(refine All.mk ?_;intro _)|(apply TkB.r;(focus repeat first|exact .here|apply Take.there))|fail)
  rename_i b3 _
  refine CA.loop (fun i : Nat => ⟨[(1, ints ld), (2, evs l), (3, pm b3), (8, it (strN m (m.tables.take i) : Nat)), (17, tbls m.tables), (18, it (m.tables.length : Nat)), (19, it i)], [mR b3 m]⟩) (fun i => i ≤ m.tables.length) (fun i => m.tables.length - i) 0 ⟨by repeat first|trivial|refine ⟨rfl,?_⟩,by repeat first|exact .nil|refine .cons (by repeat first|exact .here|apply Take.there) ?_⟩ (Nat.zero_le _) ?_
  intro i hi
  by_cases hin : i < m.tables.length
  · obtain ⟨t, ht⟩ := get_of hin
    have hc := (hm.lay.2.2.2 t (List.mem_of_getElem? ht)).1
    have h1 := sz_fit (m := m) hc
    have hn := strN_le hm.lay i hi
    have hsu := strN_succ (m := m) ht
    have h2 := estrict_p t
    have h3 := esize_p m t hc
    by_cases hst : isStrict t.kind
    · rw [if_pos hst] at hsu
      rw [decide_eq_true hst] at h2
      repeat' (first|refine Sp.h ?_|refine Lk.r rfl ?_|refine Rf.mk rfl ?_|(apply Bd.t;(focus first|assumption|omega|rfl))|(refine All.mk ?_;intro _)|(apply TkB.r;(focus repeat first|exact .here|apply Take.there))|(apply Ix.q;(focus exact rfl);(focus assumption))|refine Ch.l ⟨rfl, rfl⟩ ?_|(apply SetAsk.r;(focus (repeat (first|exact SetAs.z|(apply SetAs.c;(focus (repeat first|assumption|exact SetA.z|apply SetA.s)))))))|(apply Nm.r;focus repeat first|apply LN.cons|exact LN.nil)|(apply Ov.n;(focus first|omega|(simp <;> omega)))|(apply Cl.p (h2);(focus ((repeat' (first|exact Lend.nil|apply Lend.keep|fail));done)))|(apply Cl.p (h3);(focus ((repeat' (first|exact Lend.nil|apply Lend.keep|fail));done))))
      rw [show ((strN m (m.tables.take i) : Nat) : Int) + (szF m t : Nat) = (strN m (m.tables.take (i + 1)) : Nat) by omega]
      exact PA.lp (i + 1) ⟨by repeat first|trivial|refine ⟨rfl,?_⟩,by repeat first|exact .nil|refine .cons (by repeat first|exact .here|apply Take.there) ?_⟩ ⟨hin, by omega⟩
    · rw [if_neg hst] at hsu
      rw [decide_eq_false hst] at h2
      repeat' (first|refine Sp.h ?_|refine Lk.r rfl ?_|refine Rf.mk rfl ?_|(apply Bd.t;(focus first|assumption|omega|rfl))|(refine All.mk ?_;intro _)|(apply TkB.r;(focus repeat first|exact .here|apply Take.there))|(apply Ix.q;(focus exact rfl);(focus assumption))|refine Ch.l ⟨rfl, rfl⟩ ?_|(apply SetAsk.r;(focus (repeat (first|exact SetAs.z|(apply SetAs.c;(focus (repeat first|assumption|exact SetA.z|apply SetA.s)))))))|(apply Nm.r;focus repeat first|apply LN.cons|exact LN.nil)|(apply Ov.n;(focus first|omega|(simp <;> omega)))|(apply Cl.p (h2);(focus ((repeat' (first|exact Lend.nil|apply Lend.keep|fail));done)))|(apply Cl.p (h3);(focus ((repeat' (first|exact Lend.nil|apply Lend.keep|fail));done))))
      rw [show strN m (m.tables.take i) = strN m (m.tables.take (i + 1)) by omega]
      exact PA.lp (i + 1) ⟨by repeat first|trivial|refine ⟨rfl,?_⟩,by repeat first|exact .nil|refine .cons (by repeat first|exact .here|apply Take.there) ?_⟩ ⟨hin, by omega⟩
  have hie : i = m.tables.length := by omega
  subst hie
  simp only [List.take_length]
  change CA _ _ _ [(1, ints ld), (2, evs l), (3, pm b3), (8, it (strF m : Nat)), (17, tbls m.tables), (18, it (m.tables.length : Nat)), (19, it (m.tables.length : Nat))] _
  repeat' (first|refine Sp.h ?_|refine Lk.r rfl ?_|refine Rf.mk rfl ?_|(apply Bd.t;(focus first|assumption|omega|rfl))|(apply Bd.f;(focus first|assumption|omega|exact Bool.false_ne_true))|(refine Im.mk ?_;intro _)|(apply TkB.r;(focus repeat first|exact .here|apply Take.there))|refine Ch.l ⟨rfl, rfl⟩ ?_|(apply Cl.p (hvl);(focus repeat' (first|exact Lend.nil|apply Lend.keep|fail))))
  (refine Cl.use (hcl) (by repeat' (first|exact Lend.nil|apply Lend.keep|fail)) .nil rfl ?_;rintro _ _ ⟨_, rfl, rfl⟩)
  repeat' (first|refine Sp.h ?_|refine Lk.r rfl ?_|refine Rf.mk rfl ?_|(refine Im.mk ?_;intro _)|fail)
  rename_i u _ 
  refine CA.loop (fun i : Nat => ⟨[(3, pm b3), (11, .ow u), (43, evs l), (44, it (l.length : Nat)), (45, it i)], [mR b3 m, arrR u 3 1 ((l.take i).foldl (addE m) ld) intC]⟩) (fun i => i ≤ l.length) (fun i => l.length - i) 0 ⟨by repeat first|trivial|refine ⟨rfl,?_⟩,by repeat first|exact .nil|refine .cons (by repeat first|exact .here|apply Take.there) ?_⟩ (Nat.zero_le _) ?_
  intro i hi
  by_cases hin : i < l.length
  · obtain ⟨e, he⟩ := get_of hin
    have hev := h e (List.mem_of_getElem? he)
    have hsl : ((l.take i).foldl (addE m) ld).length = strF m := by rw [foldE_len];exact hl
    have hsu := foldE_succ (m := m) he ld
    obtain ⟨s, hs⟩ : ∃ s, s = (l.take i).foldl (addE m) ld := ⟨_, rfl⟩
    rw [← hs] at hsl hsu ⊢
    by_cases hk : e.kind = 0
    rotate_left
    · have hadd : addE m s e = s := if_neg hk
      rw [hadd] at hsu
      repeat' (first|refine Sp.h ?_|refine Lk.r rfl ?_|refine Rf.mk rfl ?_|(apply Bd.t;(focus first|assumption|omega|rfl))|(apply Bd.f;(focus first|assumption|omega|exact Bool.false_ne_true))|(refine All.mk ?_;intro _)|(apply TkB.r;(focus repeat first|exact .here|apply Take.there))|(apply Ix.q;(focus exact rfl);(focus assumption))|refine Ch.l ⟨rfl, rfl⟩ ?_|(apply SetAsk.r;(focus (repeat (first|exact SetAs.z|(apply SetAs.c;(focus (repeat first|assumption|exact SetA.z|apply SetA.s)))))))|(apply Nm.r;focus repeat first|apply LN.cons|exact LN.nil)|(apply Ov.n;(focus first|omega|(simp <;> omega)))|fail)
      rw [← hsu]
      exact PA.lp (i + 1) ⟨by repeat first|trivial|refine ⟨rfl,?_⟩,by repeat first|exact .nil|refine .cons (by repeat first|exact .here|apply Take.there) ?_⟩ ⟨hin, by omega⟩
    have hact := act_rng hev.1 hk
    have hact2 := hev.2.2 hk
    obtain ⟨a, ha⟩ := get_of (l := m.acts) (i := e.action.toNat) (by omega)
    have hd := dltF_at ha
    have heo := hm.eff a (List.mem_of_getElem? ha)
    have hadd : addE m s e = addD s a.eff.delta := by rw [addE, if_pos hk, hd]
    repeat' (first|refine Sp.h ?_|refine Lk.r rfl ?_|refine Rf.mk rfl ?_|(apply Bd.t;(focus first|assumption|omega|rfl))|(refine Im.mk ?_;intro _)|(refine All.mk ?_;intro _)|(apply TkB.r;(focus repeat first|exact .here|apply Take.there))|(apply Ix.q;(focus exact rfl);(focus assumption))|(apply Ix.r;(focus assumption);(focus omega))|refine Ch.l ⟨rfl, rfl⟩ ?_|(apply SetAsk.r;(focus (repeat (first|exact SetAs.z|(apply SetAs.c;(focus (repeat first|assumption|exact SetA.z|apply SetA.s)))))))|(apply Nm.r;focus repeat first|apply LN.cons|exact LN.nil)|fail)
    refine CA.loop (fun k : Nat => ⟨[(3, pm b3), (11, .ow u), (43, evs l), (44, it (l.length : Nat)), (45, it i), (59, terms a.eff.delta), (60, it (a.eff.delta.length : Nat)), (61, it k)], [mR b3 m, arrR u 3 1 (addD s (a.eff.delta.take k)) intC]⟩) (fun k => k ≤ a.eff.delta.length) (fun k => a.eff.delta.length - k) 0 ⟨by repeat first|trivial|refine ⟨rfl,?_⟩,by repeat first|exact .nil|refine .cons (by repeat first|exact .here|apply Take.there) ?_⟩ (Nat.zero_le _) ?_
    intro k hk2
    have hlen := addD_length (a.eff.delta.take k) s
    by_cases hkl : k < a.eff.delta.length
    · obtain ⟨p, hp⟩ := get_of hkl
      obtain ⟨p1, p2⟩ := heo.d p (List.mem_of_getElem? hp)
      obtain ⟨z, hz⟩ := get_of (l := addD s (a.eff.delta.take k)) (i := p.1.toNat) (by omega)
      have hsd := addD_succ (s := s) hp
      rw [show add1 (addD s (a.eff.delta.take k)) p = (addD s (a.eff.delta.take k)).set p.1.toNat (IntKind.i64.wrap (z + p.2)) by rw [add1, hz];rfl] at hsd
      repeat' (first|refine Sp.h ?_|refine Lk.r rfl ?_|refine Rf.mk rfl ?_|(apply Bd.t;(focus first|assumption|omega|rfl))|refine OpK.r rfl ?_|(refine All.mk ?_;intro _)|(apply TkA.r;(focus repeat first|exact .here|apply Take.there))|(apply TkB.r;(focus repeat first|exact .here|apply Take.there))|(apply Ix.q;(focus exact rfl);(focus assumption))|(apply Ix.r;(focus assumption);(focus omega))|(apply At.r;(focus assumption))|refine Ch.l ⟨rfl, rfl⟩ ?_|(apply SetAsk.r;(focus (repeat (first|exact SetAs.z|(apply SetAs.c;(focus (repeat first|assumption|exact SetA.z|apply SetA.s)))))))|(apply Nm.r;focus repeat first|apply LN.cons|exact LN.nil)|(apply CA.draw;(focus rfl);(focus kernel_rfl);(focus kernel_rfl);(focus repeat' (first|apply ON.one|exact ON.done|exact ON.none|apply ON.alt));(focus rfl))|fail)
      refine ⟨?_⟩
      repeat' (first|refine Sp.h ?_|refine Lk.r rfl ?_|refine Rf.mk rfl ?_|refine OpK.r rfl ?_|(apply TkA.r;(focus repeat first|exact .here|apply Take.there))|(apply Ix.r;(focus assumption);(focus omega))|(apply At.r;(focus assumption))|(apply SetAk.r;(focus (repeat first|assumption|exact SetA.z|apply SetA.s)))|refine Up.r rfl ?_|(apply Ov.n;(focus first|omega|(simp <;> omega)))|fail)
      rw [← hsd]
      exact PA.lp (k + 1) ⟨by repeat first|trivial|refine ⟨rfl,?_⟩,by repeat first|exact .nil|refine .cons (by repeat first|exact .here|apply Take.there) ?_⟩ ⟨hkl, by omega⟩
    · have hke : k = a.eff.delta.length := by omega
      subst hke
      rw [List.take_length, ← hadd, ← hsu]
      repeat' (first|refine Sp.h ?_|refine Lk.r rfl ?_|refine Rf.mk rfl ?_|(apply Bd.f;(focus first|assumption|omega|exact Bool.false_ne_true))|(apply Ov.n;(focus first|omega|(simp <;> omega)))|fail)
      exact PA.lp (i + 1) ⟨by repeat first|trivial|refine ⟨rfl,?_⟩,by repeat first|exact .nil|refine .cons (by repeat first|exact .here|apply Take.there) ?_⟩ ⟨hin, by omega⟩
  · have hie : i = l.length := by omega
    subst hie
    rw [List.take_length]
    repeat' (first|refine Sp.h ?_|refine Lk.r rfl ?_|refine Rf.mk rfl ?_|(apply Bd.f;(focus first|assumption|omega|exact Bool.false_ne_true))|(apply Nm.r;focus repeat first|apply LN.cons|exact LN.nil)|fail)
    exact ⟨_, _, .tup (.same (.same (.nil (by (repeat first|exact .nil|refine .cons (by repeat first|exact .here|apply Take.there) ?_))))), _, rfl, rfl⟩
end Go.Proofs.YtmllihbhphnolaaGreat
namespace Go.Proofs.YtmllihbhphnolaaGreat
open Go Go.CF
set_option maxRecDepth 20000
theorem deliver_sub {m : ModS} {A D : List EvS} {w w' : NowS} {e : EvS} (hs : ∀ x ∈ D, x ∈ A) (h : deliverF m A w e = (0, w')) : deliverF m D w e = (0, w') := by
  have hA : ¬ LateE A e := by
    intro hl
    unfold deliverF at h
    rw [if_pos hl] at h
    repeat' split at h
    all_goals (exfalso;revert h;simp)
  have hD : ¬ LateE D e := fun ⟨x, hx, h2⟩ => hA ⟨x, hs x hx, h2⟩
  unfold deliverF at h ⊢
  rw [if_neg hA] at h
  rw [if_neg hD]
  exact h
theorem cau_snoc {l A : List EvS} {e : EvS} (h : Cau l A) (he : e ∈ l) (hp : ∀ d ∈ l, HasC e.past d.rep d.num → d ∈ A) : Cau l (A ++ [e]) := by
  refine ⟨fun a ha => (List.mem_append.1 ha).elim (h.sub a) fun ha => by rw [List.mem_singleton.1 ha];exact he, fun a ha d hd hh => List.mem_append.2 (.inl ?_)⟩
  rcases List.mem_append.1 ha with ha|ha
  · exact h.cls a ha d hd hh
  · rw [List.mem_singleton.1 ha] at hh;exact hp d hd hh
structure CInv (m : ModS) (ld : List Int) (l : List EvS) (k : List Int) (X : List EvS) (i : Nat) (D : List EvS) : Prop where
  le : i ≤ (ordE l).length
  sub : D.Sublist (((ordE l).take i).filter fun e => decide (¬ HasC k e.rep e.num))
  cau : Cau l (X ++ D)
  sto : StoA m l ld (X ++ D) (stN m (n0 l) ld (X ++ D))
theorem filter_two (p : EvS → Bool) : ∀ l : List EvS, (l.filter p).length + (l.filter fun e => !p e).length = l.length := by
  intro l
  induction l with
  | nil => rfl
  | cons e l ih => by_cases h : p e <;> simp [h] <;> omega
theorem CInv.len {m : ModS} {ld : List Int} {l : List EvS} {k : List Int} {X : List EvS} {i : Nat} {D : List EvS} (h : CInv m ld l k X i D) (hX : X.Perm (cutL l k)) : (X ++ D).length ≤ l.length := by
  have h1 : X.length = (l.filter fun e => decide (HasC k e.rep e.num)).length := hX.length_eq
  have h2 := h.sub.length_le
  have h3 : (((ordE l).take i).filter fun e => decide (¬ HasC k e.rep e.num)).length ≤ ((ordE l).filter fun e => decide (¬ HasC k e.rep e.num)).length := ((List.take_sublist i (ordE l)).filter _).length_le
  have h4 : ((ordE l).filter fun e => decide (¬ HasC k e.rep e.num)).length = (l.filter fun e => decide (¬ HasC k e.rep e.num)).length := ((ordE_perm l).filter _).length_eq.symm
  have h5 := filter_two (fun e => decide (HasC k e.rep e.num)) l
  have h6 : (l.filter fun e => !decide (HasC k e.rep e.num)) = l.filter fun e => decide (¬ HasC k e.rep e.num) := List.filter_congr fun e _ => by simp
  rw [h6] at h5
  rw [List.length_append]
  omega
theorem CInv.zero {m : ModS} {ld : List Int} {l : List EvS} {k : List Int} {X : List EvS} (hs : SuitS m ld l) (hk : Part l k) (hne : cutL l k ≠ []) (hX : X.Perm (cutL l k)) (hw : StoA m (cutL l k) ld X (stN m (n0 l) ld X)) : CInv m ld l k X 0 [] :=
  ⟨Nat.zero_le _, List.nil_sublist _, by rw [List.append_nil];exact cau_part hk hX, by rw [List.append_nil];exact sto_part hs.e.2.2.1 hne hw⟩
theorem CInv.skip {m : ModS} {ld : List Int} {l : List EvS} {k : List Int} {X : List EvS} {i : Nat} {D : List EvS} {y : EvS} (h : CInv m ld l k X i D) (hy : (ordE l)[i]? = some y) : CInv m ld l k X (i + 1) D :=
  ⟨(List.getElem?_eq_some_iff.1 hy).1, h.sub.trans (((List.take_sublist_take_left (Nat.le_succ i)).filter _)), h.cau, h.sto⟩
theorem CInv.step {m : ModS} {ld : List Int} {l : List EvS} {k : List Int} {X : List EvS} {i : Nat} {D : List EvS} {y : EvS} (hs : SuitS m ld l) (hX : X.Perm (cutL l k)) (h : CInv m ld l k X i D) (hy : (ordE l)[i]? = some y) (h1 : ¬ HasC k y.rep y.num) (h2 : Ins y.past (stN m (n0 l) ld (X ++ D)).clock) :
    deliverF m (X ++ D) (stN m (n0 l) ld (X ++ D)) y = (0, stN m (n0 l) ld (X ++ (D ++ [y]))) ∧ deliverF m D (stN m (n0 l) ld (X ++ D)) y = (0, stN m (n0 l) ld (X ++ (D ++ [y]))) ∧ CInv m ld l k X (i + 1) (D ++ [y]) := by
  have hyl : y ∈ l := (ordE_perm l).mem_iff.2 (List.mem_of_getElem? hy)
  have hc := hs.e.2.2.1
  have hlen := h.len hX
  have hl60 := hs.e.2.1.1
  have hnd : (ordE l).Nodup := (ordE_perm l).nodup (uniq_nodup hc.2.1)
  have hnt : y ∉ (ordE l).take i := fun h9 => by
    obtain ⟨j, hj⟩ := List.mem_iff_getElem?.1 h9
    rw [List.getElem?_take] at hj
    split at hj
    · rename_i hji
      have := (List.getElem?_inj (by have := (List.getElem?_eq_some_iff.1 hy).1;omega) hnd (i := j) (j := i)).1 (hj.trans hy.symm)
      omega
    · cases hj
  have hn : y ∉ X ++ D := fun h9 => by
    rcases List.mem_append.1 h9 with h9|h9
    · exact h1 (mem_cut.1 (hX.mem_iff.1 h9)).2
    · exact hnt ((List.mem_filter.1 (h.sub.subset h9)).1)
  have hyp : y.past.length = n0 l := (hc.2.2.1 y hyl).2
  have hcl : (stN m (n0 l) ld (X ++ D)).clock = clkE (n0 l) (X ++ D) := h.sto.clock
  have hnr := n0_rng hc hyl
  have hp : ∀ d ∈ l, HasC y.past d.rep d.num → d ∈ X ++ D := fun d hd hh => by
    refine (clk_has hc h.cau hd).1 ?_
    rw [hcl] at h2
    refine has_ins ?_ h2 (by rw [clkE_len];omega) hh
    exact clk_valC hc h.cau.sub hnr
  obtain ⟨w', g1, g2⟩ := deliver_ok hs.e (by omega) hs.smd hs.ld h.sto (by omega) h.cau hyl hn hp
  have hw' : w' = stN m (n0 l) ld (X ++ (D ++ [y])) := by
    have h9 := deliver_st (by rw [g1])
    rw [g1] at h9
    rw [← List.append_assoc, stN_snoc]
    exact h9
  rw [hw'] at g1 g2
  refine ⟨g1, deliver_sub (fun x hx => List.mem_append.2 (.inr hx)) g1, ⟨(List.getElem?_eq_some_iff.1 hy).1, ?_, ?_, ?_⟩⟩
  · rw [List.take_add_one, hy, Option.toList_some, List.filter_append]
    refine List.Sublist.append h.sub ?_
    rw [show ([y].filter fun e => decide (¬ HasC k e.rep e.num)) = [y] by simp [h1]]
    exact List.Sublist.refl _
  · rw [← List.append_assoc];exact cau_snoc h.cau hyl hp
  · rw [← List.append_assoc] at g2 ⊢;exact g2
theorem compact_part {m : ModS} {ld : List Int} {l : List EvS} {k : List Int} {X : List EvS} (hc : ClosedE l) (hnr : 1 ≤ n0 l ∧ n0 l ≤ 5) (hk : Part l k) (hle : ∀ (i : Nat) x, k[i]? = some x → 1 ≤ x → ∃ e ∈ l, e.rep.toNat = i ∧ 0 ≤ e.rep ∧ e.num = x) (hX : X.Perm (cutL l k)) :
    compactF m ⟨stN m (n0 l) ld [], X, stN m (n0 l) ld X⟩ k = (0, ⟨stN m (n0 l) ld X, [], stN m (n0 l) ld X⟩) ∧ (stN m (n0 l) ld X).clock = k := by
  have hck : (stN m (n0 l) ld X).clock = k := part_clk hc hk hle hX
  have hXk : ∀ e ∈ X, HasC k e.rep e.num := fun e he => (mem_cut.1 (hX.mem_iff.1 he)).2
  have hin : inL k X = X := List.filter_eq_self.2 fun e he => by simpa using hXk e he
  have hout : outL k X = [] := List.filter_eq_nil_iff.2 fun e he => by simpa using hXk e he
  have h1 : ValC k ∧ k.length = (stN m (n0 l) ld X).clock.length := ⟨hk.val, by rw [hck]⟩
  have h2 : Ins (stN m (n0 l) ld []).clock k ∧ Ins k (stN m (n0 l) ld X).clock ∧ ∀ e ∈ X, HasC k e.rep e.num → Ins e.past k := by
    refine ⟨fun i x y hx hy => ?_, by rw [hck];exact fun i x y hx hy => by rw [hx] at hy;cases hy;omega, fun e he _ => hk.sub e (hX.mem_iff.1 he)⟩
    have h3 : x = 0 := (List.mem_replicate.1 (List.mem_of_getElem? (show (List.replicate (n0 l) (0 : Int))[i]? = some x from hx))).2
    have h4 := hk.val.1 y (List.mem_of_getElem? hy)
    unfold rngK at h4
    omega
  refine ⟨?_, hck⟩
  have hb : cmpB m (stN m (n0 l) ld []) k X = stN m (n0 l) ld X := by
    unfold cmpB
    rw [hin, cmp1_fold]
    show (⟨k, _, _, _, _⟩ : NowS) = ⟨clkE (n0 l) X, _, _, _, _⟩
    rw [show clkE (n0 l) X = k from hck]
    rfl
  unfold compactF
  rw [if_neg (show ¬ ¬ (ValC k ∧ k.length = (stN m (n0 l) ld X).clock.length) from fun h9 => h9 h1)]
  rw [if_neg (show ¬ ¬ (Ins (stN m (n0 l) ld []).clock k ∧ Ins k (stN m (n0 l) ld X).clock ∧ ∀ e ∈ X, HasC k e.rep e.num → Ins e.past k) from fun h9 => h9 h2)]
  rw [hout, hb];rfl
end Go.Proofs.YtmllihbhphnolaaGreat
namespace Go.Proofs.YtmllihbhphnolaaGreat
open Go Go.CF
set_option maxRecDepth 20000
theorem szM_fold {m : ModS} {k : List MgS} (h : SzM k) : ∀ X : List EvS, SzM (X.foldl (mrg1 m) k) := by
  intro X
  induction X generalizing k with
  | nil => exact h
  | cons e X ih => rw [List.foldl_cons];exact ih (mrg1_sz h)
theorem szM_stN {m : ModS} (hm : MOK m) (n : Nat) (ld : List Int) (X : List EvS) : SzM (stN m n ld X).merged := by
  refine szM_fold ⟨by rw [List.length_replicate];have := hm.mrg;omega, fun g hg => ?_⟩ X
  rw [(List.mem_replicate.1 hg).2];exact Nat.zero_le _
theorem basOK_stN {m : ModS} {ld : List Int} {l : List EvS} (hs : SuitS m ld l) : BasOK m (n0 l) (stN m (n0 l) ld []) := by
  have h := stN_ok hs (X := []) (fun e he => by cases he) (Nat.zero_le _)
  exact ⟨h.clk, clkE_len .., h.st, szM_stN hs.e.1 .., h.pls, by simp [stN]⟩
theorem szN_stN {m : ModS} {ld : List Int} {l X : List EvS} (hs : SuitS m ld l) (hX : ∀ e ∈ X, e ∈ l) (hl : X.length ≤ 1000) : SzN (stN m (n0 l) ld X) := by
  have h := stN_ok hs hX hl
  have h1 := szM_stN (m := m) hs.e.1 (n0 l) ld X
  exact ⟨by have := h.clk.2.2;omega, by rw [h.st];have := hs.e.1.str;omega, h1.1, h1.2, h.pll⟩
set_option maxHeartbeats 16000000 in
theorem compacts35_p (m : ModS) (ld : List Int) (l : List EvS) (c order : List Int) (ho : ∀ x ∈ order, 0 ≤ x ∧ x ≤ 255) : CallP Tryz.prog 10 [mdl m, ints ld, evs l, ints c, u8s order] (bl true) := by
  have haw := awake35_p
  have hsu := suits35_c m ld l
  refine CallA.of pg ord10 Tryz.func10 rfl Tryz.ntmps10 Tryz.results10 rfl fun h0 G0 O0 => ?_
  repeat' (first|refine Sp.h ?_|refine Lk.r rfl ?_|refine Rf.mk rfl ?_|(apply Bd.t;(focus first|assumption|omega|rfl))|(refine All.mk ?_;intro _)|(apply TkB.r;(focus repeat first|exact .here|apply Take.there))|refine Ch.l ⟨rfl, rfl⟩ ?_|(apply Cl.p (haw);(focus repeat' (first|exact Lend.nil|fail))))
  rename_i b5
  (apply Cl.use (hsu);(focus repeat' (first|exact Lend.nil|apply Lend.keep|fail));(focus (repeat (first|exact Takes.nil|(apply Takes.cons;(focus repeat first|exact .here|apply Take.there)))));(focus rfl))
  rintro _ _ ⟨s, rfl, rfl, hs⟩
  cases s
  · repeat' (first|refine Sp.h ?_|refine Lk.r rfl ?_|refine Rf.mk rfl ?_|(apply Bd.f;(focus first|assumption|omega|exact Bool.false_ne_true))|(apply Nm.r;focus repeat first|apply LN.cons|exact LN.nil)|fail)
    exact Fin.p rfl rfl
  have hs := hs rfl
  by_cases h60 : 60 < order.length
  · repeat' (first|refine Sp.h ?_|refine Lk.r rfl ?_|refine Rf.mk rfl ?_|(apply Bd.t;(focus first|assumption|omega|rfl))|(refine Im.mk ?_;intro _)|(apply Nm.r;focus repeat first|apply LN.cons|exact LN.nil)|fail)
    exact Fin.p rfl rfl
  have hvc := validC_p c
  by_cases hv : ValC c
  rotate_left
  · rw [decide_eq_false hv] at hvc
    repeat' (first|refine Sp.h ?_|refine Lk.r rfl ?_|refine Rf.mk rfl ?_|(apply Bd.t;(focus first|assumption|omega|rfl))|(apply Bd.f;(focus first|assumption|omega|exact Bool.false_ne_true))|(refine Im.mk ?_;intro _)|(apply Nm.r;focus repeat first|apply LN.cons|exact LN.nil)|(apply Cl.p (hvc);(focus repeat' (first|exact Lend.nil|apply Lend.keep|fail))))
    exact Fin.p rfl rfl
  rw [decide_eq_true hv] at hvc
  obtain ⟨d, hd⟩ := get_of (l := l) (i := 0) hs.ne
  have hn0 : n0 l = d.past.length := by rw [n0, hd];rfl
  by_cases hcl : c.length = n0 l
  rotate_left
  · repeat' (first|refine Sp.h ?_|refine Lk.r rfl ?_|refine Rf.mk rfl ?_|(apply Bd.t;(focus first|assumption|omega|rfl))|(apply Bd.f;(focus first|assumption|omega|exact Bool.false_ne_true))|(refine Im.mk ?_;intro _)|(apply Ix.q;(focus exact rfl);(focus assumption))|(apply Nm.r;focus repeat first|apply LN.cons|exact LN.nil)|(apply Cl.p (hvc);(focus repeat' (first|exact Lend.nil|apply Lend.keep|fail))))
    all_goals exact Fin.p rfl rfl
  have hc := hs.e.2.2.1
  have hl60 := hs.e.2.1.1
  have hnr : 1 ≤ n0 l ∧ n0 l ≤ 5 := n0_rng hc (List.mem_of_getElem? hd)
  have hk := clock_z (n := c.length) (l := l) hv.2 hc fun e he => by rw [(hc.2.2.1 e he).2, hcl]
  have hkv : ValC (clkE c.length l) := clkE_val hv.2 fun e he => formed_num (hc.2.2.1 e he).1
  have hm := meet_z2 hv hkv (by rw [clkE_len])
  obtain ⟨p1, p2⟩ := part1_ok hc hv hcl
  have hcu := cut_z l (part1 l c) (by omega)
  have hcu2 := cut_z l (partC l c) (by omega)
  have hxs : ∀ x ∈ cutL l (part1 l c), ValC x.past ∧ x.past.length = n0 l := fun x hx => by
    have := hc.2.2.1 x (mem_cut.1 hx).1
    exact ⟨this.1.1, this.2⟩
  obtain ⟨xs, hxse⟩ : ∃ xs, xs = cutL l (part1 l c) := ⟨_, rfl⟩
  have hpc : partC l c = xs.foldl (fun k x => joinC k x.past) (part1 l c) := by rw [hxse];rfl
  rw [← hxse] at hxs hcu
  repeat' (first|refine Sp.h ?_|refine Lk.r rfl ?_|refine Rf.mk rfl ?_|(apply Bd.t;(focus first|assumption|omega|rfl))|(apply Bd.f;(focus first|assumption|omega|exact Bool.false_ne_true))|(refine Im.mk ?_;intro _)|(apply Ix.q;(focus exact rfl);(focus assumption))|(apply Cl.p (hvc);(focus repeat' (first|exact Lend.nil|apply Lend.keep|fail))))
  (apply Cl.p (hk);(focus repeat' (first|exact Lend.nil|apply Lend.keep|fail)))
  repeat' (first|refine Sp.h ?_|refine Lk.r rfl ?_|refine Rf.mk rfl ?_|(refine All.mk ?_;intro _)|(apply Fk.r;(focus (repeat (first|exact FillA.nil|(apply FillA.agg;(focus rfl);(focus rfl);(focus (repeat (first|exact SetAs.z|(apply SetAs.c;(focus (repeat first|assumption|exact SetA.z|apply SetA.s)))))))|(apply FillA.one;(focus rfl);(focus infer_instance);(focus (repeat first|assumption|exact SetA.z|apply SetA.s)))))))|refine Rf.mk ⟨rfl, rfl, rfl⟩ ?_|fail)
  (apply Cl.fz;(focus repeat' (first|exact FZ.nil|(apply FZ.fz;(focus repeat first|exact .here|apply Take.there);(focus first|omega|decide|exact Nat.le_of_ble_eq_true rfl|(simp <;> omega)))|apply FZ.agg|apply FZ.same)))
  (apply Cl.p (hm);(focus repeat' (first|exact Lend.nil|(apply Lend.mp;(focus rfl))|fail)))
  rw [show zipC min c (clkE c.length l) = part1 l c from rfl]
  repeat' (first|refine Sp.h ?_|refine Lk.r rfl ?_|refine Rf.mk rfl ?_|(refine Im.mk ?_;intro _)|(apply Cl.p (hcu);(focus repeat' (first|exact Lend.nil|apply Lend.keep|fail))))
  refine CA.loop (fun x : Nat × List Int => ⟨[(1, ints ld), (2, evs l), (3, ints x.2), (4, u8s order), (5, pm b5), (64, evs xs), (65, it (xs.length : Nat)), (66, it x.1)], [mR b5 m]⟩) (fun x => x.1 ≤ xs.length ∧ x.2 = (xs.take x.1).foldl (fun k x => joinC k x.past) (part1 l c)) (fun x => xs.length - x.1) (0, part1 l c) ⟨by repeat first|trivial|refine ⟨rfl,?_⟩,by repeat first|exact .nil|refine .cons (by repeat first|exact .here|apply Take.there) ?_⟩ ⟨Nat.zero_le _, rfl⟩ ?_
  rintro ⟨i, k⟩ ⟨hi, hk⟩
  simp only at hi hk
  simp only
  obtain ⟨f1, f2, -⟩ := fold_has (xs.take i) (part1 l c) (fun x hx => hxs x (List.mem_of_mem_take hx)) p1 p2
  rw [← hk] at f1 f2
  by_cases hin : i < xs.length
  · obtain ⟨e, he⟩ := get_of hin
    obtain ⟨g1, g2⟩ := hxs e (List.mem_of_getElem? he)
    have hj := join_z2 f1 g1 (by omega)
    repeat' (first|refine Sp.h ?_|refine Lk.r rfl ?_|refine Rf.mk rfl ?_|(apply Bd.t;(focus first|assumption|omega|rfl))|(refine All.mk ?_;intro _)|(apply TkB.r;(focus repeat first|exact .here|apply Take.there))|(apply Ix.q;(focus exact rfl);(focus assumption))|refine Ch.l ⟨rfl, rfl⟩ ?_|(apply SetAsk.r;(focus (repeat (first|exact SetAs.z|(apply SetAs.c;(focus (repeat first|assumption|exact SetA.z|apply SetA.s)))))))|(apply Fk.r;(focus (repeat (first|exact FillA.nil|(apply FillA.agg;(focus rfl);(focus rfl);(focus (repeat (first|exact SetAs.z|(apply SetAs.c;(focus (repeat first|assumption|exact SetA.z|apply SetA.s)))))))|(apply FillA.one;(focus rfl);(focus infer_instance);(focus (repeat first|assumption|exact SetA.z|apply SetA.s)))))))|(apply Nm.r;focus repeat first|apply LN.cons|exact LN.nil)|refine Rf.mk ⟨rfl, rfl, rfl⟩ ?_|fail)
    (apply Cl.fz;(focus repeat' (first|exact FZ.nil|(apply FZ.fz;(focus repeat first|exact .here|apply Take.there);(focus first|omega|decide|exact Nat.le_of_ble_eq_true rfl|(simp <;> omega)))|apply FZ.agg|apply FZ.same)))
    (apply Cl.p (hj);(focus repeat' (first|exact Lend.nil|(apply Lend.mp;(focus rfl))|fail)))
    repeat' (first|refine Sp.h ?_|refine Lk.r rfl ?_|refine Rf.mk rfl ?_|(apply Ov.n;(focus first|omega|(simp <;> omega)))|fail)
    exact PA.lp (i + 1, joinC k e.past) ⟨by repeat first|trivial|refine ⟨rfl,?_⟩,by repeat first|exact .nil|refine .cons (by repeat first|exact .here|apply Take.there) ?_⟩ ⟨⟨hin, by simp only;rw [List.take_add_one, he, List.foldl_append, ← hk];rfl⟩, by simp only;omega⟩
  have hie : i = xs.length := by omega
  subst hie
  rw [List.take_length, ← hpc] at hk
  subst hk
  have hP := part_ok hc hv hcl
  have hle := partC_ev hc hv hcl
  obtain ⟨k, hke⟩ : ∃ k, k = partC l c := ⟨_, rfl⟩
  rw [← hke] at hP hle hcu2 ⊢
  obtain ⟨P, hPe⟩ : ∃ P, P = cutL l k := ⟨_, rfl⟩
  rw [← hPe] at hcu2
  by_cases hne : P = []
  · subst hne
    repeat' (first|refine Sp.h ?_|refine Lk.r rfl ?_|refine Rf.mk rfl ?_|(apply Bd.t;(focus first|assumption|omega|rfl))|(apply Bd.f;(focus first|assumption|omega|exact Bool.false_ne_true))|(refine Im.mk ?_;intro _)|(apply Nm.r;focus repeat first|apply LN.cons|exact LN.nil)|(apply Cl.p (hcu2);(focus repeat' (first|exact Lend.nil|apply Lend.keep|fail))))
    exact Fin.p rfl rfl
  have hPl : ¬ P.length = 0 := fun h => hne (List.eq_nil_of_length_eq_zero h)
  have hne' : cutL l k ≠ [] := by rw [← hPe];exact hne
  have hsP : SuitS m ld P := ⟨by rw [hPe];exact part_suit hs.e hP hne', by omega, hs.ln, hs.ld, hs.sm⟩
  have hnP : n0 P = n0 l := by rw [hPe];exact n0_cut hc hne'
  obtain ⟨X, x1, x2, x3⟩ := ext_ok hsP.e.2.2.1 (fun x hx => (ho x hx).1)
  have hfi := fill_a m ld P order X hsP ho x1 x2 x3
  rw [hnP] at hfi
  have hXl := x3.length_eq
  have hP60 := hsP.e.2.1.1
  have hXs : ∀ e ∈ X, e ∈ l := fun e he => (mem_cut.1 (hPe ▸ x3.mem_iff.1 he)).1
  have hX3 : X.Perm (cutL l k) := hPe ▸ x3
  obtain ⟨hcp, hck⟩ := compact_part (m := m) (ld := ld) hc hnr hP hle hX3
  have hst : StoA m P ld X (stN m (n0 l) ld X) := by
    have := (fill_sto hsP (by omega) x2 X.length (Nat.le_refl _)).1
    rwa [List.take_length, hnP] at this
  have hZ := CInv.zero hs hP hne' hX3 (hPe ▸ hst)
  obtain ⟨W0, hW0⟩ : ∃ W0, W0 = stN m (n0 l) ld [] := ⟨_, rfl⟩
  obtain ⟨W, hW⟩ : ∃ W, W = stN m (n0 l) ld X := ⟨_, rfl⟩
  have hX60 : X.length ≤ 60 := by omega
  have hwo : NowOK m W := by rw [hW];exact stN_ok hs hXs (by omega)
  have hsz : SzN W := by rw [hW];exact szN_stN hs hXs (by omega)
  have hwc : W.clock.length = n0 l := by rw [hW];exact clkE_len ..
  have hbo : BasOK m W.clock.length W0 := by rw [hwc, hW0];exact basOK_stN hs
  have hev : ∀ e ∈ X, EvV m (W.clock.length : Nat) e := fun e he => by rw [hwc];exact hs.e.2.2.2.2 e (hXs e he)
  rw [← hW0, ← hW] at hcp hfi
  rw [← hW] at hck
  repeat' (first|refine Sp.h ?_|refine Lk.r rfl ?_|refine Rf.mk rfl ?_|(apply Bd.f;(focus first|assumption|omega|exact Bool.false_ne_true))|refine OpK.r rfl ?_|(refine Im.mk ?_;intro _)|(apply TkB.r;(focus repeat first|exact .here|apply Take.there))|refine Ch.l ⟨rfl, rfl⟩ ?_|(apply CA.draw;(focus rfl);(focus kernel_rfl);(focus kernel_rfl);(focus repeat' (first|apply ON.one|exact ON.done|exact ON.none|apply ON.alt));(focus rfl))|(apply Cl.p (hcu2);(focus repeat' (first|exact Lend.nil|apply Lend.keep|fail))))
  (apply Cl.use (hfi);(focus repeat' (first|exact Lend.nil|apply Lend.keep|fail));(focus (repeat (first|exact Takes.nil|(apply Takes.cons;(focus repeat first|exact .here|apply Take.there)))));(focus rfl))
  rintro _ _ ⟨p, v, rfl, rfl⟩
  repeat' (first|refine Sp.h ?_|refine Lk.r rfl ?_|refine Rf.mk rfl ?_|refine OpK.r rfl ?_|fail)
  (apply Cl.use (hfi);(focus repeat' (first|exact Lend.nil|apply Lend.keep|fail));(focus (repeat (first|exact Takes.nil|(apply Takes.cons;(focus repeat first|exact .here|apply Take.there)))));(focus rfl))
  rintro _ _ ⟨p2, v2, rfl, rfl⟩
  repeat' (first|refine Sp.h ?_|refine Lk.r rfl ?_|refine Rf.mk rfl ?_|(apply Bd.f;(focus first|assumption|omega|exact Bool.false_ne_true))|refine OpK.r rfl ?_|fail)
  have hco : CallA Tryz.prog 66 [pm p, ints k] [stoR p m W0 v W, arrR v 37 13 X evC] fun r own => r = it 0 ∧ ∃ v', own = [stoR p m W v' W, arrR v' 37 13 [] evC] := by
    have h := compact_a p m W0 v X W k hs.e.1 hwo hbo (by omega) hev
    rw [hcp] at h
    exact h
  (apply Cl.use (hco);(focus repeat' (first|exact Lend.nil|apply Lend.keep|fail));(focus (repeat (first|exact Takes.nil|(apply Takes.cons;(focus repeat first|exact .here|apply Take.there)))));(focus rfl))
  rintro _ _ ⟨rfl, v1, rfl⟩
  have hes := estate_p m ld P hs.e.1 hs.ln (fun e he => by
    rw [show e.past.length = n0 l from (hc.2.2.1 e (mem_cut.1 (hPe ▸ he)).1).2]
    exact hs.e.2.2.2.2 e (mem_cut.1 (hPe ▸ he)).1)
  rw [← state_perm x3 ld, show X.foldl (addE m) ld = W.state by rw [hW];rfl] at hes
  have hba := sbase_p p m W v1 W hsz
  have he1 := equal_p W.state W.state
  have he2 := equal_p W.clock k
  rw [decide_eq_true rfl] at he1
  rw [decide_eq_true hck] at he2
  have hse := sevents_p p m W v1 W [] (by simp) (by simp)
  have hor := order_p l hc.2.1 (by omega)
  repeat' (first|refine Sp.h ?_|refine Lk.r rfl ?_|refine Rf.mk rfl ?_|(apply Bd.t;(focus first|assumption|omega|rfl))|(apply Bd.f;(focus first|assumption|omega|exact Bool.false_ne_true))|(apply TkB.r;(focus repeat first|exact .here|apply Take.there))|refine Ch.l ⟨rfl, rfl⟩ ?_|fail)
  (apply Cl.p (hes);(focus repeat' (first|exact Lend.nil|apply Lend.keep|fail)))
  repeat' (first|refine Sp.h ?_|refine Lk.r rfl ?_|refine Rf.mk rfl ?_|fail)
  (apply Cl.use (hba);(focus repeat' (first|exact Lend.nil|apply Lend.keep|fail));(focus (repeat (first|exact Takes.nil|(apply Takes.cons;(focus repeat first|exact .here|apply Take.there)))));(focus rfl))
  rintro _ _ ⟨rfl, rfl⟩
  repeat' (first|refine Sp.h ?_|refine Lk.r rfl ?_|refine Rf.mk rfl ?_|(apply Bd.t;(focus first|assumption|omega|rfl))|(refine All.mk ?_;intro _)|(apply TkB.r;(focus repeat first|exact .here|apply Take.there))|(apply SetAsk.r;(focus (repeat (first|exact SetAs.z|(apply SetAs.c;(focus (repeat first|assumption|exact SetA.z|apply SetA.s)))))))|(apply Nm.r;focus repeat first|apply LN.cons|exact LN.nil)|fail)
  (apply Cl.lend (he1);(focus repeat' (first|exact Lend.nil|apply Lend.keep|fail)))
  repeat' (first|refine Sp.h ?_|refine Lk.r rfl ?_|refine Rf.mk rfl ?_|(apply Bd.t;(focus first|assumption|omega|rfl))|(apply TkB.r;(focus repeat first|exact .here|apply Take.there))|fail)
  (apply Cl.lend (he2);(focus repeat' (first|exact Lend.nil|apply Lend.keep|fail)))
  repeat' (first|refine Sp.h ?_|refine Lk.r rfl ?_|refine Rf.mk rfl ?_|(apply Bd.t;(focus first|assumption|omega|rfl))|fail)
  (apply Cl.use (hse);(focus repeat' (first|exact Lend.nil|apply Lend.keep|fail));(focus (repeat (first|exact Takes.nil|(apply Takes.cons;(focus repeat first|exact .here|apply Take.there)))));(focus rfl))
  rintro _ _ ⟨rfl, rfl⟩
  repeat' (first|refine Sp.h ?_|refine Lk.r rfl ?_|refine Rf.mk rfl ?_|(apply Bd.t;(focus first|assumption|omega|rfl))|(refine Im.mk ?_;intro _)|(apply Cl.p (hor);(focus repeat' (first|exact Lend.nil|apply Lend.keep|fail))))
  refine CA.loop (fun x : Nat × List EvS × Value × Value => ⟨[(3, ints k), (16, pm p), (17, pm p2), (136, evs (ordE l)), (137, it ((ordE l).length : Nat)), (138, it x.1)], [stoR p m W x.2.2.1 (stN m (n0 l) ld (X ++ x.2.1)), arrR x.2.2.1 37 13 x.2.1 evC, stoR p2 m W0 x.2.2.2 (stN m (n0 l) ld (X ++ x.2.1)), arrR x.2.2.2 37 13 (X ++ x.2.1) evC]⟩) (fun x => CInv m ld l k X x.1 x.2.1) (fun x => (ordE l).length - x.1) (0, [], v1, v2) ?_ hZ ?_
  · simp only [List.append_nil, ← hW];exact ⟨by repeat first|trivial|refine ⟨rfl,?_⟩,by repeat first|exact .nil|refine .cons (by repeat first|exact .here|apply Take.there) ?_⟩
  rintro ⟨i, D, u1, u2⟩ hI
  simp only at hI
  simp only
  have hlen := hI.len hX3
  have hVo : NowOK m (stN m (n0 l) ld (X ++ D)) := stN_ok hs hI.cau.sub (by omega)
  have hVc : (stN m (n0 l) ld (X ++ D)).clock.length = n0 l := clkE_len ..
  by_cases hin : i < (ordE l).length
  rotate_left
  · repeat' (first|refine Sp.h ?_|refine Lk.r rfl ?_|refine Rf.mk rfl ?_|(apply Bd.f;(focus first|assumption|omega|exact Bool.false_ne_true))|(apply Nm.r;focus repeat first|apply LN.cons|exact LN.nil)|fail)
    exact Fin.p rfl rfl
  obtain ⟨y, hy⟩ := get_of hin
  have hsk := hI.skip hy
  have hst1 := fun a b => hI.step hs hX3 hy a b
  obtain ⟨V, hV⟩ : ∃ V, V = stN m (n0 l) ld (X ++ D) := ⟨_, rfl⟩
  rw [← hV] at hVo hVc hst1 ⊢
  have hDl : D.length ≤ 60 := by rw [List.length_append] at hlen;omega
  have hstr := hs.e.1.str
  have s1 := sclock_p p m W u1 V (by omega)
  have t1 := sclock_p p2 m W0 u2 V (by omega)
  have s2 := stime_p p m W u1 V
  have t2 := stime_p p2 m W0 u2 V
  have s3 := sstate_p p m W u1 V (by rw [hVo.st];omega)
  have t3 := sstate_p p2 m W0 u2 V (by rw [hVo.st];omega)
  have s4 := svalues_p p m W u1 V hs.e.1
  have t4 := svalues_p p2 m W0 u2 V hs.e.1
  have s5 := splaces_p p m W u1 V hVo.pll
  have t5 := splaces_p p2 m W0 u2 V hVo.pll
  have s6 := sclock_r m W V D (by omega)
  have q1 := equal_p V.clock V.clock
  have q3 := equal_p V.state V.state
  have q4 := listsQ_p (valuesQ m V.merged).2 (valuesQ m V.merged).2
  have q5 := equal_p V.places V.places
  rw [decide_eq_true rfl] at q1 q3 q4 q5
  have hna := nameR_p y
  have hha := hasC_p k y.rep y.num
  have hi1 := insideR_p k y.past
  have hi2 := insideR_p y.past V.clock
  repeat' (first|refine Sp.h ?_|refine Lk.r rfl ?_|refine Rf.mk rfl ?_|(apply Bd.t;(focus first|assumption|omega|rfl))|(refine All.mk ?_;intro _)|(apply TkB.r;(focus repeat first|exact .here|apply Take.there))|(apply Ix.q;(focus exact rfl);(focus assumption))|refine Ch.l ⟨rfl, rfl⟩ ?_|(apply SetAsk.r;(focus (repeat (first|exact SetAs.z|(apply SetAs.c;(focus (repeat first|assumption|exact SetA.z|apply SetA.s)))))))|(apply Nm.r;focus repeat first|apply LN.cons|exact LN.nil)|fail)
  rename_i b22
  (apply Cl.use (s1);(focus repeat' (first|exact Lend.nil|apply Lend.keep|fail));(focus (repeat (first|exact Takes.nil|(apply Takes.cons;(focus repeat first|exact .here|apply Take.there)))));(focus rfl))
  rintro _ _ ⟨rfl, rfl⟩
  repeat' (first|refine Sp.h ?_|refine Lk.r rfl ?_|refine Rf.mk rfl ?_|fail)
  (apply Cl.use (t1);(focus repeat' (first|exact Lend.nil|apply Lend.keep|fail));(focus (repeat (first|exact Takes.nil|(apply Takes.cons;(focus repeat first|exact .here|apply Take.there)))));(focus rfl))
  rintro _ _ ⟨rfl, rfl⟩
  repeat' (first|refine Sp.h ?_|refine Lk.r rfl ?_|refine Rf.mk rfl ?_|fail)
  (apply Cl.lend (q1);(focus repeat' (first|exact Lend.nil|apply Lend.keep|fail)))
  repeat' (first|refine Sp.h ?_|refine Lk.r rfl ?_|refine Rf.mk rfl ?_|fail)
  (apply Cl.use (s2);(focus repeat' (first|exact Lend.nil|apply Lend.keep|fail));(focus (repeat (first|exact Takes.nil|(apply Takes.cons;(focus repeat first|exact .here|apply Take.there)))));(focus rfl))
  rintro _ _ ⟨rfl, rfl⟩
  repeat' (first|refine Sp.h ?_|refine Lk.r rfl ?_|refine Rf.mk rfl ?_|fail)
  (apply Cl.use (t2);(focus repeat' (first|exact Lend.nil|apply Lend.keep|fail));(focus (repeat (first|exact Takes.nil|(apply Takes.cons;(focus repeat first|exact .here|apply Take.there)))));(focus rfl))
  rintro _ _ ⟨rfl, rfl⟩
  repeat' (first|refine Sp.h ?_|refine Lk.r rfl ?_|refine Rf.mk rfl ?_|(apply Bd.t;(focus first|assumption|omega|rfl))|fail)
  (apply Cl.use (s3);(focus repeat' (first|exact Lend.nil|apply Lend.keep|fail));(focus (repeat (first|exact Takes.nil|(apply Takes.cons;(focus repeat first|exact .here|apply Take.there)))));(focus rfl))
  rintro _ _ ⟨rfl, rfl⟩
  repeat' (first|refine Sp.h ?_|refine Lk.r rfl ?_|refine Rf.mk rfl ?_|(apply Bd.t;(focus first|assumption|omega|rfl))|fail)
  (apply Cl.use (t3);(focus repeat' (first|exact Lend.nil|apply Lend.keep|fail));(focus (repeat (first|exact Takes.nil|(apply Takes.cons;(focus repeat first|exact .here|apply Take.there)))));(focus rfl))
  rintro _ _ ⟨rfl, rfl⟩
  repeat' (first|refine Sp.h ?_|refine Lk.r rfl ?_|refine Rf.mk rfl ?_|(apply Bd.t;(focus first|assumption|omega|rfl))|fail)
  (apply Cl.lend (q3);(focus repeat' (first|exact Lend.nil|apply Lend.keep|fail)))
  repeat' (first|refine Sp.h ?_|refine Lk.r rfl ?_|refine Rf.mk rfl ?_|(apply Bd.t;(focus first|assumption|omega|rfl))|fail)
  (apply Cl.use (s4);(focus repeat' (first|exact Lend.nil|apply Lend.keep|fail));(focus (repeat (first|exact Takes.nil|(apply Takes.cons;(focus repeat first|exact .here|apply Take.there)))));(focus rfl))
  rintro _ _ ⟨rfl, rfl⟩
  repeat' (first|refine Sp.h ?_|refine Lk.r rfl ?_|refine Rf.mk rfl ?_|fail)
  (apply Cl.use (t4);(focus repeat' (first|exact Lend.nil|apply Lend.keep|fail));(focus (repeat (first|exact Takes.nil|(apply Takes.cons;(focus repeat first|exact .here|apply Take.there)))));(focus rfl))
  rintro _ _ ⟨rfl, rfl⟩
  repeat' (first|refine Sp.h ?_|refine Lk.r rfl ?_|refine Rf.mk rfl ?_|fail)
  (apply Cl.lend (q4);(focus repeat' (first|exact Lend.nil|apply Lend.keep|fail)))
  repeat' (first|refine Sp.h ?_|refine Lk.r rfl ?_|refine Rf.mk rfl ?_|fail)
  (apply Cl.use (s5);(focus repeat' (first|exact Lend.nil|apply Lend.keep|fail));(focus (repeat (first|exact Takes.nil|(apply Takes.cons;(focus repeat first|exact .here|apply Take.there)))));(focus rfl))
  rintro _ _ ⟨rfl, rfl⟩
  repeat' (first|refine Sp.h ?_|refine Lk.r rfl ?_|refine Rf.mk rfl ?_|fail)
  (apply Cl.use (t5);(focus repeat' (first|exact Lend.nil|apply Lend.keep|fail));(focus (repeat (first|exact Takes.nil|(apply Takes.cons;(focus repeat first|exact .here|apply Take.there)))));(focus rfl))
  rintro _ _ ⟨rfl, rfl⟩
  repeat' (first|refine Sp.h ?_|refine Lk.r rfl ?_|refine Rf.mk rfl ?_|fail)
  (apply Cl.lend (q5);(focus repeat' (first|exact Lend.nil|apply Lend.keep|fail)))
  (repeat' (first|(show CA _ _ (Code.region 28 _ _) _ _;apply Stopped.out)|refine Sp.h ?_|refine Lk.r rfl ?_|refine Rf.mk rfl ?_|(apply Bd.t;(focus first|assumption|omega|rfl))|fail));any_goals apply Stopped.mk
  by_cases k1 : HasC k y.rep y.num
  · rw [decide_eq_true k1] at hha
    repeat' (first|refine Sp.h ?_|refine Lk.r rfl ?_|refine Rf.mk rfl ?_|refine OpK.r rfl ?_|(apply TkB.r;(focus repeat first|exact .here|apply Take.there))|refine Ch.l ⟨rfl, rfl⟩ ?_|(apply CA.draw;(focus rfl);(focus kernel_rfl);(focus kernel_rfl);(focus repeat' (first|apply ON.one|exact ON.done|exact ON.none|apply ON.alt));(focus rfl))|(apply Ov.n;(focus first|omega|(simp <;> omega)))|(apply Cl.p (hna);(focus ((repeat' (first|exact Lend.nil|apply Lend.keep|fail));done)))|(apply Cl.p (hha);(focus ((repeat' (first|exact Lend.nil|apply Lend.keep|fail));done)))|(apply Cl.p (hi1);(focus ((repeat' (first|exact Lend.nil|apply Lend.keep|fail));done)))|(apply Cl.lend (hna);(focus ((repeat' (first|exact Lend.nil|apply Lend.keep|fail));done)))|(apply Cl.lend (hha);(focus ((repeat' (first|exact Lend.nil|apply Lend.keep|fail));done)))|(apply Cl.lend (hi1);(focus ((repeat' (first|exact Lend.nil|apply Lend.keep|fail));done))))
    all_goals exact PA.lp (i + 1, D, u1, u2) (by rw [← hV];exact ⟨by repeat first|trivial|refine ⟨rfl,?_⟩,by repeat first|exact .nil|refine .cons (by repeat first|exact .here|apply Take.there) ?_⟩) ⟨hsk, by simp only;omega⟩
  rw [decide_eq_false k1] at hha
  by_cases k2 : Ins k y.past
  rotate_left
  · rw [decide_eq_false k2] at hi1
    repeat' (first|refine Sp.h ?_|refine Lk.r rfl ?_|refine Rf.mk rfl ?_|(apply Bd.f;(focus first|assumption|omega|exact Bool.false_ne_true))|refine OpK.r rfl ?_|(apply TkB.r;(focus repeat first|exact .here|apply Take.there))|refine Ch.l ⟨rfl, rfl⟩ ?_|(apply CA.draw;(focus rfl);(focus kernel_rfl);(focus kernel_rfl);(focus repeat' (first|apply ON.one|exact ON.done|exact ON.none|apply ON.alt));(focus rfl))|(apply Ov.n;(focus first|omega|(simp <;> omega)))|(apply Cl.p (hna);(focus ((repeat' (first|exact Lend.nil|apply Lend.keep|fail));done)))|(apply Cl.p (hha);(focus ((repeat' (first|exact Lend.nil|apply Lend.keep|fail));done)))|(apply Cl.p (hi1);(focus ((repeat' (first|exact Lend.nil|apply Lend.keep|fail));done)))|(apply Cl.lend (hna);(focus ((repeat' (first|exact Lend.nil|apply Lend.keep|fail));done)))|(apply Cl.lend (hha);(focus ((repeat' (first|exact Lend.nil|apply Lend.keep|fail));done)))|(apply Cl.lend (hi1);(focus ((repeat' (first|exact Lend.nil|apply Lend.keep|fail));done))))
    all_goals exact PA.lp (i + 1, D, u1, u2) (by rw [← hV];exact ⟨by repeat first|trivial|refine ⟨rfl,?_⟩,by repeat first|exact .nil|refine .cons (by repeat first|exact .here|apply Take.there) ?_⟩) ⟨hsk, by simp only;omega⟩
  rw [decide_eq_true k2] at hi1
  by_cases k3 : Ins y.past V.clock
  rotate_left
  · rw [decide_eq_false k3] at hi2
    repeat' (first|refine Sp.h ?_|refine Lk.r rfl ?_|refine Rf.mk rfl ?_|(apply Bd.t;(focus first|assumption|omega|rfl))|refine OpK.r rfl ?_|(apply TkB.r;(focus repeat first|exact .here|apply Take.there))|refine Ch.l ⟨rfl, rfl⟩ ?_|(apply CA.draw;(focus rfl);(focus kernel_rfl);(focus kernel_rfl);(focus repeat' (first|apply ON.one|exact ON.done|exact ON.none|apply ON.alt));(focus rfl))|(apply Cl.p (hna);(focus ((repeat' (first|exact Lend.nil|apply Lend.keep|fail));done)))|(apply Cl.p (hha);(focus ((repeat' (first|exact Lend.nil|apply Lend.keep|fail));done)))|(apply Cl.p (hi1);(focus ((repeat' (first|exact Lend.nil|apply Lend.keep|fail));done)))|(apply Cl.lend (hna);(focus ((repeat' (first|exact Lend.nil|apply Lend.keep|fail));done)))|(apply Cl.lend (hha);(focus ((repeat' (first|exact Lend.nil|apply Lend.keep|fail));done)))|(apply Cl.lend (hi1);(focus ((repeat' (first|exact Lend.nil|apply Lend.keep|fail));done))))
    (apply Cl.lendO (s6);(focus repeat' (first|exact Lend.nil|apply Lend.keep|(apply Lend.lend;(focus repeat first|exact .here|apply Take.there);(focus first|omega|(simp;omega)))|(apply Lend.cell;(focus repeat first|exact .here|apply Take.there))|fail)))
    focus (rintro _ _ ⟨u, rfl, rfl⟩;exact ⟨FlatV.ow _, fun R hR => by rw [List.mem_singleton.1 hR];exact flat_ints⟩)
    rintro _ _ ⟨u, rfl, rfl⟩
    repeat' (first|refine Sp.h ?_|refine Lk.r rfl ?_|refine Rf.mk rfl ?_|(apply Bd.t;(focus first|assumption|omega|rfl))|(apply Bd.f;(focus first|assumption|omega|exact Bool.false_ne_true))|refine OpK.r rfl ?_|(apply Ov.n;(focus first|omega|(simp <;> omega)))|(apply Cl.p (hna);(focus ((repeat' (first|exact Lend.nil|apply Lend.keep|(apply Lend.lend;(focus repeat first|exact .here|apply Take.there);(focus first|omega|(simp;omega)))|fail));done)))|(apply Cl.p (hha);(focus ((repeat' (first|exact Lend.nil|apply Lend.keep|(apply Lend.lend;(focus repeat first|exact .here|apply Take.there);(focus first|omega|(simp;omega)))|fail));done)))|(apply Cl.p (hi1);(focus ((repeat' (first|exact Lend.nil|apply Lend.keep|(apply Lend.lend;(focus repeat first|exact .here|apply Take.there);(focus first|omega|(simp;omega)))|fail));done)))|(apply Cl.lend (hi2);(focus ((repeat' (first|exact Lend.nil|apply Lend.keep|(apply Lend.lend;(focus repeat first|exact .here|apply Take.there);(focus first|omega|(simp;omega)))|fail));done)))|(apply Cl.lend (hha);(focus ((repeat' (first|exact Lend.nil|apply Lend.keep|(apply Lend.lend;(focus repeat first|exact .here|apply Take.there);(focus first|omega|(simp;omega)))|fail));done)))|(apply Cl.lend (hi1);(focus ((repeat' (first|exact Lend.nil|apply Lend.keep|(apply Lend.lend;(focus repeat first|exact .here|apply Take.there);(focus first|omega|(simp;omega)))|fail));done))))
    all_goals exact PA.lp (i + 1, D, u1, u2) (by rw [← hV];exact ⟨by repeat first|trivial|refine ⟨rfl,?_⟩,by repeat first|exact .nil|refine .cons (by repeat first|exact .here|apply Take.there) ?_⟩) ⟨hsk, by simp only;omega⟩
  obtain ⟨g1, g2, g3⟩ := hst1 k1 k3
  rw [decide_eq_true k3] at hi2
  have hd1 := deliver_a p m W u1 D V y hs.e.1 hVo (by omega)
  have hd2 := deliver_a p2 m W0 u2 (X ++ D) V y hs.e.1 hVo (by rw [List.length_append];omega)
  rw [evsD, g2, if_pos rfl] at hd1
  rw [evsD, g1, if_pos rfl, List.append_assoc] at hd2
  repeat' (first|refine Sp.h ?_|refine Lk.r rfl ?_|refine Rf.mk rfl ?_|(apply Bd.t;(focus first|assumption|omega|rfl))|refine OpK.r rfl ?_|(apply TkB.r;(focus repeat first|exact .here|apply Take.there))|refine Ch.l ⟨rfl, rfl⟩ ?_|(apply CA.draw;(focus rfl);(focus kernel_rfl);(focus kernel_rfl);(focus repeat' (first|apply ON.one|exact ON.done|exact ON.none|apply ON.alt));(focus rfl))|(apply Cl.p (hna);(focus ((repeat' (first|exact Lend.nil|apply Lend.keep|fail));done)))|(apply Cl.p (hha);(focus ((repeat' (first|exact Lend.nil|apply Lend.keep|fail));done)))|(apply Cl.p (hi1);(focus ((repeat' (first|exact Lend.nil|apply Lend.keep|fail));done)))|(apply Cl.lend (hna);(focus ((repeat' (first|exact Lend.nil|apply Lend.keep|fail));done)))|(apply Cl.lend (hha);(focus ((repeat' (first|exact Lend.nil|apply Lend.keep|fail));done)))|(apply Cl.lend (hi1);(focus ((repeat' (first|exact Lend.nil|apply Lend.keep|fail));done))))
  (apply Cl.lendO (s6);(focus repeat' (first|exact Lend.nil|apply Lend.keep|(apply Lend.lend;(focus repeat first|exact .here|apply Take.there);(focus first|omega|(simp;omega)))|(apply Lend.cell;(focus repeat first|exact .here|apply Take.there))|fail)))
  focus (rintro _ _ ⟨u, rfl, rfl⟩;exact ⟨FlatV.ow _, fun R hR => by rw [List.mem_singleton.1 hR];exact flat_ints⟩)
  rintro _ _ ⟨u, rfl, rfl⟩
  repeat' (first|refine Sp.h ?_|refine Lk.r rfl ?_|refine Rf.mk rfl ?_|(apply Bd.t;(focus first|assumption|omega|rfl))|refine OpK.r rfl ?_|(apply TkB.r;(focus repeat first|exact .here|apply Take.there))|refine Ch.l ⟨rfl, rfl⟩ ?_|(apply Cl.p (hna);(focus ((repeat' (first|exact Lend.nil|apply Lend.keep|(apply Lend.lend;(focus repeat first|exact .here|apply Take.there);(focus first|omega|(simp;omega)))|fail));done)))|(apply Cl.p (hha);(focus ((repeat' (first|exact Lend.nil|apply Lend.keep|(apply Lend.lend;(focus repeat first|exact .here|apply Take.there);(focus first|omega|(simp;omega)))|fail));done)))|(apply Cl.p (hi1);(focus ((repeat' (first|exact Lend.nil|apply Lend.keep|(apply Lend.lend;(focus repeat first|exact .here|apply Take.there);(focus first|omega|(simp;omega)))|fail));done)))|(apply Cl.lend (hi2);(focus ((repeat' (first|exact Lend.nil|apply Lend.keep|(apply Lend.lend;(focus repeat first|exact .here|apply Take.there);(focus first|omega|(simp;omega)))|fail));done)))|(apply Cl.lend (hha);(focus ((repeat' (first|exact Lend.nil|apply Lend.keep|(apply Lend.lend;(focus repeat first|exact .here|apply Take.there);(focus first|omega|(simp;omega)))|fail));done)))|(apply Cl.lend (hi1);(focus ((repeat' (first|exact Lend.nil|apply Lend.keep|(apply Lend.lend;(focus repeat first|exact .here|apply Take.there);(focus first|omega|(simp;omega)))|fail));done))))
  (apply Cl.use (hd1);(focus repeat' (first|exact Lend.nil|apply Lend.keep|fail));(focus (repeat (first|exact Takes.nil|(apply Takes.cons;(focus repeat first|exact .here|apply Take.there)))));(focus rfl))
  rintro _ _ ⟨rfl, u3, rfl⟩
  repeat' (first|refine Sp.h ?_|refine Lk.r rfl ?_|refine Rf.mk rfl ?_|(apply Bd.t;(focus first|assumption|omega|rfl))|(apply TkB.r;(focus repeat first|exact .here|apply Take.there))|refine Ch.l ⟨rfl, rfl⟩ ?_|fail)
  (apply Cl.use (hd2);(focus repeat' (first|exact Lend.nil|apply Lend.keep|fail));(focus (repeat (first|exact Takes.nil|(apply Takes.cons;(focus repeat first|exact .here|apply Take.there)))));(focus rfl))
  rintro _ _ ⟨rfl, u4, rfl⟩
  repeat' (first|refine Sp.h ?_|refine Lk.r rfl ?_|refine Rf.mk rfl ?_|(apply Bd.t;(focus first|assumption|omega|rfl))|(apply Ov.n;(focus first|omega|(simp <;> omega)))|fail)
  all_goals exact PA.lp (i + 1, D ++ [y], u3, u4) ⟨by repeat first|trivial|refine ⟨rfl,?_⟩,by repeat first|exact .nil|refine .cons (by repeat first|exact .here|apply Take.there) ?_⟩ ⟨g3, by simp only;omega⟩
end Go.Proofs.YtmllihbhphnolaaGreat
