/- Part 11 of the ground of this proof: what its texts say of the model, the program and the plain data; conditions: those that are named. -/
import Derived.Maps.RangeRun
import Derived.MapKept
import Derived.Lib.Bytealg
import Derived.Test.YtmjllbjfkafhdaaGreatDoorP10
namespace Go.Proofs.YtmjllbjfkafhdaaGreatDoor
open Go Go.CF
set_option maxRecDepth 20000
def SzM (k : List MgS) : Prop := k.length ≤ 100000 ∧ ∀ g ∈ k, g.marks.length ≤ 1000000
theorem mrg1_sz {m : ModS} {k : List MgS} {e : EvS} (h : SzM k) : SzM (mrg1 m k e) := by
 unfold mrg1
 by_cases h0 : (applyF m k e).1 = 0
 ·obtain ⟨_, _, h3, _, h5⟩ := applyF_ok h0
  exact ⟨by rw [h3];exact h.1, h5⟩
 ·have h2 : (applyF m k e).2 = [] := by
   unfold applyF at h0 ⊢
   split
   ·rfl
   ·rename_i h1
    rw [if_neg h1] at h0
    split
    ·rename_i h2;rw [if_pos h2] at h0;exact absurd rfl h0
    ·rename_i h2
     rw [if_neg h2] at h0
     unfold gatherF at h0 ⊢
     split
     ·rfl
     ·rename_i h3
      rw [h3] at h0
      simp only at h0
      split
      ·rfl
      ·rename_i h4;rw [if_neg h4] at h0;exact absurd rfl h0
  rw [h2]
  exact ⟨by simp, by simp⟩
structure BasOK (m : ModS) (n : Nat) (b : NowS) : Prop where
 clk : ValC b.clock
 len : b.clock.length = n
 st : b.state.length = strF m
 mg : SzM b.merged
 pls : SrtI b.places
 pll : b.places.length ≤ 10000
theorem withP_srt {l : List Int} {n : Int} (h : SrtI l) : SrtI (withP l n) := (withP_si (l := l) (s := l) (n := n) ⟨h, fun _ => Iff.rfl⟩).1
theorem withP_le {l : List Int} {n : Int} (h : SrtI l) : (withP l n).length ≤ l.length + 1 := by
 by_cases hn : n ∈ l
 ·rw [show withP l n = l from if_pos hn];omega
 ·rw [with_eq h hn];simp;have := idxN_le (fun y => decide (¬ y < n)) l;unfold posI;omega
theorem plE_srt {l : List Int} {e : EvS} (h : SrtI l) : SrtI (plE l e) ∧ (plE l e).length ≤ l.length + 1 := by
 unfold plE
 split
 ·exact ⟨withP_srt h, withP_le h⟩
 ·exact ⟨h, by omega⟩
theorem inL_succ {c : List Int} {l : List EvS} {i : Nat} {e : EvS} (h : l[i]? = some e) : inL c (l.take (i + 1)) = inL c (l.take i) ++ if HasC c e.rep e.num then [e] else [] := by
 rw [inL, filter_succ h]
 by_cases hh : HasC c e.rep e.num <;> simp [hh, inL]
theorem outL_succ {c : List Int} {l : List EvS} {i : Nat} {e : EvS} (h : l[i]? = some e) : outL c (l.take (i + 1)) = outL c (l.take i) ++ if HasC c e.rep e.num then [] else [e] := by
 rw [outL, filter_succ h]
 by_cases hh : HasC c e.rep e.num <;> simp [hh, outL]
structure MidOK (m : ModS) (b x : NowS) (i : Nat) : Prop where
 ck : x.clock = b.clock
 st : x.state.length = strF m
 mg : SzM x.merged
 pls : SrtI x.places
 pll : x.places.length ≤ b.places.length + i
theorem mid_step {m : ModS} {b x : NowS} {i : Nat} {e : EvS} (h : MidOK m b x i) : MidOK m b (cmp1 m x e) (i + 1) :=
 ⟨h.ck, by simp only [cmp1, addE_len];exact h.st, mrg1_sz h.mg, (plE_srt h.pls).1, by have := (plE_srt (e := e) h.pls).2;have := h.pll;simp only [cmp1];omega⟩
theorem fits35_p (s : Nat) (m : ModS) (b : NowS) (v : Value) (w : NowS) (c : List Int) :
  CallA Tryz.prog 103 [pm s, ints c] [stoR s m b v w] fun r own => r = bl (decide (ValC c ∧ c.length = w.clock.length)) ∧ own = [stoR s m b v w] := by
 have h := validC_p c
 by_cases h1 : ValC c
 ·rw [decide_eq_true h1] at h
  refine CallA.of pg ord103 Tryz.func103 rfl Tryz.ntmps103 Tryz.results103 rfl fun h0 G0 O0 => ?_
  repeat' (first|refine Sp.h ?_|refine Lk.r rfl ?_|refine Rf.mk rfl ?_|refine Im.mk fun _=>?_|refine xT ?_|refine xN ?_|(apply Cl.p (h);focus repeat' constructor))
  refine ⟨_, _, .one (.same (.z)), vb (decide_eq_decide.2 ⟨fun h => ⟨h1, by omega⟩, fun h => by omega⟩), rfl⟩
 ·rw [decide_eq_false h1] at h
  rw [decide_eq_false (fun h9 => h1 h9.1)]
  refine CallA.of pg ord103 Tryz.func103 rfl Tryz.ntmps103 Tryz.results103 rfl fun h0 G0 O0 => ?_
  repeat' (first|refine Sp.h ?_|refine Lk.r rfl ?_|refine Rf.mk rfl ?_|refine xN ?_|(apply Cl.p (h);focus repeat' constructor))
  exact ⟨_, _, .one (.same (.z)), rfl, rfl⟩
abbrev midC (x : NowS) (u : Value) : List AV := [ints x.clock, it x.time, .ow u, mgs x.merged, nl0, nl0, ints x.places]
set_option maxHeartbeats 16000000 in
theorem compact_a (s : Nat) (m : ModS) (b : NowS) (v : Value) (evl : List EvS) (w : NowS) (c : List Int) (hm : MOK m) (hw : NowOK m w) (hb : BasOK m w.clock.length b) (hl : evl.length ≤ 1000) (hev : ∀ e ∈ evl, EvV m (w.clock.length : Nat) e) :
  CallA Tryz.prog 44 [pm s, ints c] [stoR s m b v w, arrR v 66 13 evl evC] fun r own => r = it (compactF m ⟨b, evl, w⟩ c).1 ∧ ∃ v', own = [stoR s m (compactF m ⟨b, evl, w⟩ c).2.base v' (compactF m ⟨b, evl, w⟩ c).2.now, arrR v' 66 13 (compactF m ⟨b, evl, w⟩ c).2.evs evC] := by
 have hfi := fits35_p s m b v w c
 have hstr := hm.str
 by_cases h1 : ValC c ∧ c.length = w.clock.length
 rotate_left
 ·have hF : compactF m ⟨b, evl, w⟩ c = (1, ⟨b, evl, w⟩) := @if_pos _ (Classical.propDecidable _) h1 _ _ _
  rw [hF]
  rw [decide_eq_false h1] at hfi
  refine CallA.of pg ord44 Tryz.func44 rfl Tryz.ntmps44 Tryz.results44 rfl fun h0 G0 O0 => ?_
  repeat' (first|refine Sp.h ?_|refine Lk.r rfl ?_|refine Rf.mk rfl ?_|fail)
  refine xW (hfi) ?_
  rintro _ _ ⟨rfl, rfl⟩
  repeat' (first|refine Sp.h ?_|refine Lk.r rfl ?_|refine Rf.mk rfl ?_|refine xB ?_|refine xN ?_|fail)
  exact ⟨_, _, .one (.same (.z)), rfl, v, rfl⟩
 rw [decide_eq_true h1] at hfi
 have hF9 : ¬ (Ins b.clock c ∧ Ins c w.clock ∧ ∀ e ∈ evl, HasC c e.rep e.num → Ins e.past c) → compactF m ⟨b, evl, w⟩ c = (9, ⟨b, evl, w⟩) := fun h =>
  (@if_neg _ (Classical.propDecidable _) (fun h9 => h9 h1) _ _ _).trans (@if_pos _ (Classical.propDecidable _) h _ _ _)
 have hm1 := missing_o c b.clock
 have hm2 := missing_o w.clock c
 have hbl := hb.len
 have hal1 : AlikeC [c, b.clock] := (alike2 _ _).2 ⟨h1.1, hb.clk, by omega⟩
 have hal2 : AlikeC [w.clock, c] := (alike2 _ _).2 ⟨hw.clk, h1.1, by omega⟩
 by_cases h2 : Ins b.clock c
 rotate_left
 ·rw [hF9 (fun h => h2 h.1)]
  refine CallA.of pg ord44 Tryz.func44 rfl Tryz.ntmps44 Tryz.results44 rfl fun h0 G0 O0 => ?_
  repeat' (first|refine Sp.h ?_|refine Lk.r rfl ?_|refine Rf.mk rfl ?_|fail)
  refine xW (hfi) ?_
  rintro _ _ ⟨rfl, rfl⟩
  repeat' (first|refine Sp.h ?_|refine Lk.r rfl ?_|refine Rf.mk rfl ?_|refine xA ?_|refine xT ?_|fail)
  refine xW (hm1) ?_
  rintro _ _ ⟨u, l, rfl, rfl, k1, k2⟩
  have k0 : 0 < l.length := List.length_pos_iff.2 fun h => h2 (k1.1 h hal1)
  repeat' (first|refine Sp.h ?_|refine Lk.r rfl ?_|refine Rf.mk rfl ?_|refine xA ?_|refine xU ?_|refine xN ?_|fail)
  exact ⟨_, _, .one (.same (.z)), rfl, v, rfl⟩
 by_cases h3 : Ins c w.clock
 rotate_left
 ·rw [hF9 (fun h => h3 h.2.1)]
  refine CallA.of pg ord44 Tryz.func44 rfl Tryz.ntmps44 Tryz.results44 rfl fun h0 G0 O0 => ?_
  repeat' (first|refine Sp.h ?_|refine Lk.r rfl ?_|refine Rf.mk rfl ?_|fail)
  refine xW (hfi) ?_
  rintro _ _ ⟨rfl, rfl⟩
  repeat' (first|refine Sp.h ?_|refine Lk.r rfl ?_|refine Rf.mk rfl ?_|refine xA ?_|refine xT ?_|fail)
  refine xW (hm1) ?_
  rintro _ _ ⟨u, l, rfl, rfl, k1, k2⟩
  have k0 : l.length = 0 := by rw [k1.2 fun _ => h2];rfl
  repeat' (first|refine Sp.h ?_|refine Lk.r rfl ?_|refine Rf.mk rfl ?_|refine xB ?_|refine xU ?_|refine xT ?_|fail)
  refine xW (hm2) ?_
  rintro _ _ ⟨u2, l2, rfl, rfl, j1, j2⟩
  have j0 : 0 < l2.length := List.length_pos_iff.2 fun h => h3 (j1.1 h hal2)
  repeat' (first|refine Sp.h ?_|refine Lk.r rfl ?_|refine Rf.mk rfl ?_|refine xA ?_|refine xB ?_|refine xU ?_|refine xN ?_|fail)
  exact ⟨_, _, .one (.same (.z)), rfl, v, rfl⟩
 have hcb := cloneBase_a b nl0 nl0 ⟨by have := hb.clk.2.2;omega, by have := hb.st;omega, hb.mg.1, hb.mg.2, by have := hb.pll;omega⟩
 have hcc := clone_o c (by have := h1.1.2.2;omega)
 refine CallA.of pg ord44 Tryz.func44 rfl Tryz.ntmps44 Tryz.results44 rfl fun h0 G0 O0 => ?_
 repeat' (first|refine Sp.h ?_|refine Lk.r rfl ?_|refine Rf.mk rfl ?_|fail)
 refine xW (hfi) ?_
 rintro _ _ ⟨rfl, rfl⟩
 repeat' (first|refine Sp.h ?_|refine Lk.r rfl ?_|refine Rf.mk rfl ?_|refine xA ?_|refine xT ?_|fail)
 refine xW (hm1) ?_
 rintro _ _ ⟨u1, l1, rfl, rfl, k1, k2⟩
 have k0 : l1.length = 0 := by rw [k1.2 fun _ => h2];rfl
 repeat' (first|refine Sp.h ?_|refine Lk.r rfl ?_|refine Rf.mk rfl ?_|refine xB ?_|refine xU ?_|refine xT ?_|fail)
 refine xW (hm2) ?_
 rintro _ _ ⟨u2, l2, rfl, rfl, j1, j2⟩
 have j0 : l2.length = 0 := by rw [j1.2 fun _ => h3];rfl
 repeat' (first|refine Sp.h ?_|refine Lk.r rfl ?_|refine Rf.mk rfl ?_|refine xB ?_|refine xU ?_|refine xT ?_|refine Ch.r ?_|fail)
 refine xW (hcb) ?_
 rintro _ _ ⟨v1, v2, v3, L, v4, rfl, hL, rfl⟩
 (repeat' (first|(show CA _ _ (Code.region 6 _ _) _ _;apply Stopped.out)|refine Sp.h ?_|refine Lk.r rfl ?_|refine Rf.mk rfl ?_|refine All.mk fun _=>?_|refine xT ?_|(apply SetAsk.r;focus repeat' constructor)|refine xN ?_|fail));any_goals apply Stopped.mk
 rename_i b5
 have hLl : L.length ≤ 1000000 := by have h8 := congrArg List.length hL;rw [List.length_map] at h8;have := hb.mg.1;omega
 have hLk : ∀ x ∈ L, x.marks.length ≤ 1000000 := fun x hx => hb.mg.2 x.g (by rw [← hL];exact List.mem_map_of_mem hx)
 have hbc := hb.clk.2.2
 have hbp := hb.pll
 have hbs := hb.st
 apply CA.own
 focus (apply OX.blk (b := b5);(focus repeat constructor);(focus (apply FX.s1;(focus repeat constructor);(focus omega);apply FX.k;apply FX.k;apply out_fx2;(focus repeat constructor);(focus repeat constructor);(focus exact hLl);(focus exact hLk);apply FX.k;apply FX.k;apply FX.s1;(focus repeat constructor);(focus omega);exact FX.nil));(focus repeat constructor))
 rw [hL]
 repeat' (first|refine Sp.h ?_|refine Lk.r rfl ?_|refine Rf.mk rfl ?_|refine xU ?_|refine xT ?_|fail)
 refine CA.nilOwn 6 66 13 evC rfl fun vr => ?_
 refine CA.loop (fun x : Nat × Value × NowS => ⟨[(0, pm s), (1, ints c), (5, pm b5), (6, .ow x.2.1), (46, .ow v), (47, it (evl.length : Nat)), (48, it x.1)], [stoR s m b v w, arrR v 66 13 evl evC, blkR b5 46 (midC x.2.2 v2), arrR v2 3 1 x.2.2.state intC, arrR x.2.1 66 13 (outL c (evl.take x.1)) evC]⟩)
  (fun x => x.1 ≤ evl.length ∧ (∀ e ∈ evl.take x.1, HasC c e.rep e.num → Ins e.past c) ∧ MidOK m b x.2.2 x.1 ∧ x.2.2 = (inL c (evl.take x.1)).foldl (cmp1 m) b) (fun x => evl.length - x.1) (0, vr, b) xE ⟨Nat.zero_le _, by simp, ⟨rfl, hb.st, hb.mg, hb.pls, by simp⟩, rfl⟩ ?_
 rintro ⟨i, vr, y⟩ ⟨hi, hin0, hmid, hy⟩
 simp only at hi hin0 hmid hy
 simp only
 have hyp := hmid.pll
 have hys := hmid.st
 by_cases hil : i < evl.length
 ·obtain ⟨e, he⟩ := get_of hil
  have heV := hev e (List.mem_of_getElem? he)
  have hn := name35_p e
  have hh := hasC_p c e.rep e.num
  have hsi := inL_succ (c := c) he
  have hso := outL_succ (c := c) he
  have hol : (outL c (evl.take i)).length ≤ i := by
   have := List.length_filter_le (fun e : EvS => decide (¬ HasC c e.rep e.num)) (evl.take i)
   rw [List.length_take] at this
   unfold outL;omega
  by_cases hhc : HasC c e.rep e.num
  rotate_left
  ·rw [decide_eq_false hhc] at hh
   rw [if_neg hhc] at hsi hso
   rw [List.append_nil] at hsi
   repeat' (first|refine Sp.h ?_|refine Lk.r rfl ?_|refine Rf.mk rfl ?_|refine xA ?_|refine xB ?_|refine xP ?_|refine All.mk fun _=>?_|refine xU ?_|refine xT ?_|refine xI ?_|refine xJ ?_|refine Ce.r ?_|refine Ch.l ⟨rfl, rfl⟩ ?_|(apply SetAsk.r;focus repeat' constructor)|(apply Fk.r;focus repeat' first|infer_instance|constructor)|refine xN ?_|refine Rf.mk ⟨rfl, rfl⟩ ?_|refine Rf.mk ⟨rfl, rfl, rfl⟩ ?_|(apply Mp.lit;(focus repeat (first|exact MpL.nil|(apply MpL.cons;(focus rfl))|(apply MpL.inv;(focus repeat constructor);(focus infer_instance)))))|refine xO ?_|(apply Cl.p (hn);focus (repeat' constructor);done)|(apply Cl.p (hh);focus (repeat' constructor);done))
   rw [← hso]
   exact PA.lp (i + 1, _, y) xE ⟨⟨hil, all_succ he hin0 (fun h => absurd h hhc), ⟨hmid.ck, hmid.st, hmid.mg, hmid.pls, by simp only;omega⟩, by simp only;rw [hsi];exact hy⟩, by simp only;omega⟩
  rw [decide_eq_true hhc] at hh
  rw [if_pos hhc] at hsi hso
  rw [List.append_nil] at hso
  have hm3 := missing_o c e.past
  have hal3 : AlikeC [c, e.past] := (alike2 _ _).2 ⟨h1.1, heV.1.1, by have := heV.2.1;omega⟩
  by_cases hie : Ins e.past c
  rotate_left
  ·rw [hF9 (fun h => hie (h.2.2 e (List.mem_of_getElem? he) hhc))]
   repeat' (first|refine Sp.h ?_|refine Lk.r rfl ?_|refine Rf.mk rfl ?_|refine xA ?_|refine All.mk fun _=>?_|refine xU ?_|refine xT ?_|refine xI ?_|refine xJ ?_|refine Ch.l ⟨rfl, rfl⟩ ?_|(apply SetAsk.r;focus repeat' constructor)|refine xN ?_|(apply Cl.p (hn);focus (repeat' constructor);done)|(apply Cl.p (hh);focus (repeat' constructor);done))
   refine xW (hm3) ?_
   rintro _ _ ⟨u3, l3, rfl, rfl, q1, q2⟩
   have q0 : 0 < l3.length := List.length_pos_iff.2 fun h => hie (q1.1 h hal3)
   repeat' (first|refine Sp.h ?_|refine Lk.r rfl ?_|refine Rf.mk rfl ?_|refine xA ?_|refine xU ?_|refine xN ?_|fail)
   exact ⟨_, _, .one (.same (.z)), rfl, v, rfl⟩
  have hap := applyT_p m y.merged e hm
  have hwi := with_p y.places e.place hmid.pls (by omega)
  have hst := mid_step (e := e) hmid
  have hfd : cmp1 m y e = (inL c (evl.take (i + 1))).foldl (cmp1 m) b := by rw [hsi, List.foldl_append, ← hy];rfl
  have hnx : ∀ d ∈ evl.take (i + 1), HasC c d.rep d.num → Ins d.past c := all_succ he hin0 (fun _ => hie)
  repeat' (first|refine Sp.h ?_|refine Lk.r rfl ?_|refine Rf.mk rfl ?_|refine xA ?_|refine All.mk fun _=>?_|refine xU ?_|refine xT ?_|refine xI ?_|refine xJ ?_|refine Ch.l ⟨rfl, rfl⟩ ?_|(apply SetAsk.r;focus repeat' constructor)|refine xN ?_|(apply Cl.p (hn);focus (repeat' constructor);done)|(apply Cl.p (hh);focus (repeat' constructor);done))
  refine xW (hm3) ?_
  rintro _ _ ⟨u3, l3, rfl, rfl, q1, q2⟩
  have q0 : l3.length = 0 := by rw [q1.2 fun _ => hie];rfl
  by_cases hk : e.kind = 0
  rotate_left
  ·have hadd : addE m y.state e = y.state := if_neg hk
   by_cases hpl : 0 < e.place
   ·repeat' (first|refine Sp.h ?_|refine Lk.r rfl ?_|refine Rf.mk rfl ?_|refine xA ?_|refine xB ?_|refine OpK.r rfl ?_|refine xU ?_|refine xT ?_|refine Ch.l ⟨rfl, rfl⟩ ?_|refine Ch.r ?_|refine xV ?_|refine xD ?_|refine xO ?_|(apply Cl.p (hap);focus (repeat' constructor);done)|(apply Cl.p (hwi);focus (repeat' constructor);done))
    have hz : (⟨y.clock, max y.time e.time, y.state, (applyF m y.merged e).2, withP y.places e.place⟩ : NowS) = cmp1 m y e := by rw [cmp1, hadd, plE, if_pos hpl];rfl
    all_goals rw [← hso]
    all_goals exact PA.lp (i + 1, vr, ⟨y.clock, max y.time e.time, y.state, (applyF m y.merged e).2, withP y.places e.place⟩) xE ⟨⟨hil, hnx, by simp only;rw [hz];exact hst, by simp only;rw [hz];exact hfd⟩, by simp only;omega⟩
   ·repeat' (first|refine Sp.h ?_|refine Lk.r rfl ?_|refine Rf.mk rfl ?_|refine xB ?_|refine OpK.r rfl ?_|refine xU ?_|refine xT ?_|refine Ch.l ⟨rfl, rfl⟩ ?_|refine Ch.r ?_|refine xV ?_|refine xD ?_|refine xO ?_|(apply Cl.p (hap);focus (repeat' constructor);done)|(apply Cl.p (hwi);focus (repeat' constructor);done))
    have hz : (⟨y.clock, max y.time e.time, y.state, (applyF m y.merged e).2, y.places⟩ : NowS) = cmp1 m y e := by rw [cmp1, hadd, plE, if_neg hpl];rfl
    all_goals rw [← hso]
    all_goals exact PA.lp (i + 1, vr, ⟨y.clock, max y.time e.time, y.state, (applyF m y.merged e).2, y.places⟩) xE ⟨⟨hil, hnx, by simp only;rw [hz];exact hst, by simp only;rw [hz];exact hfd⟩, by simp only;omega⟩
  have hact := act_rng heV.1 hk
  have hact2 := heV.2.2 hk
  obtain ⟨a, ha⟩ := get_of (l := m.acts) (i := e.action.toNat) (by omega)
  have hd := dltF_at ha
  have heo := hm.eff a (List.mem_of_getElem? ha)
  have hadd : addE m y.state e = addD y.state a.eff.delta := by rw [addE, if_pos hk, hd]
  repeat' (first|refine Sp.h ?_|refine Lk.r rfl ?_|refine Rf.mk rfl ?_|refine xA ?_|refine xB ?_|refine OpK.r rfl ?_|refine Im.mk fun _=>?_|refine xU ?_|refine xT ?_|(apply Ix.r;(focus assumption);(focus omega))|refine xV ?_|refine xD ?_|fail)
  refine CA.loop (fun k : Nat => ⟨[(0, pm s), (1, ints c), (5, pm b5), (6, .ow vr), (8, pm _), (46, .ow v), (47, it (evl.length : Nat)), (48, it i), (86, terms a.eff.delta), (87, it (a.eff.delta.length : Nat)), (88, it k)], [stoR s m b v w, arrR v 66 13 evl evC, blkR b5 46 (midC { y with time := max y.time e.time } v2), arrR v2 3 1 (addD y.state (a.eff.delta.take k)) intC, arrR vr 66 13 (outL c (evl.take i)) evC, blkR _ 66 (evC e)]⟩) (fun k => k ≤ a.eff.delta.length) (fun k => a.eff.delta.length - k) 0 xE (Nat.zero_le _) ?_
  intro k hk2
  have hlen := addD_length (a.eff.delta.take k) y.state
  by_cases hkl : k < a.eff.delta.length
  ·obtain ⟨p, hp⟩ := get_of hkl
   obtain ⟨p1, p2⟩ := heo.d p (List.mem_of_getElem? hp)
   obtain ⟨z, hz⟩ := get_of (l := addD y.state (a.eff.delta.take k)) (i := p.1.toNat) (by omega)
   have hsd := addD_succ (s := y.state) hp
   rw [show add1 (addD y.state (a.eff.delta.take k)) p = (addD y.state (a.eff.delta.take k)).set p.1.toNat (IntKind.i64.wrap (z + p.2)) by rw [add1, hz];rfl] at hsd
   repeat' (first|refine Sp.h ?_|refine Lk.r rfl ?_|refine Rf.mk rfl ?_|refine xA ?_|refine OpK.r rfl ?_|refine All.mk fun _=>?_|refine xU ?_|refine xT ?_|refine xI ?_|(apply Ix.r;(focus assumption);(focus omega))|refine xJ ?_|refine Ch.l ⟨rfl, rfl⟩ ?_|(apply SetAsk.r;focus repeat' constructor)|refine xN ?_|refine xD ?_|fail)
   refine ⟨?_⟩
   repeat' (first|refine Sp.h ?_|refine Lk.r rfl ?_|refine Rf.mk rfl ?_|refine OpK.r rfl ?_|refine xU ?_|(apply Ix.r;(focus assumption);(focus omega))|refine xJ ?_|refine xV ?_|refine Up.r rfl ?_|refine xO ?_|fail)
   rw [← hsd]
   exact PA.lp (k + 1) xE ⟨hkl, by omega⟩
  ·have hke : k = a.eff.delta.length := by omega
   subst hke
   rw [List.take_length]
   by_cases hpl : 0 < e.place
   ·repeat' (first|refine Sp.h ?_|refine Lk.r rfl ?_|refine Rf.mk rfl ?_|refine xA ?_|refine xB ?_|refine OpK.r rfl ?_|refine xT ?_|refine Ch.l ⟨rfl, rfl⟩ ?_|refine Ch.r ?_|refine xV ?_|refine xD ?_|refine xO ?_|(apply Cl.p (hap);focus (repeat' constructor);done)|(apply Cl.p (hwi);focus (repeat' constructor);done))
    have hz : (⟨y.clock, max y.time e.time, addD y.state a.eff.delta, (applyF m y.merged e).2, withP y.places e.place⟩ : NowS) = cmp1 m y e := by rw [cmp1, hadd, plE, if_pos hpl];rfl
    all_goals rw [← hso]
    all_goals exact PA.lp (i + 1, vr, ⟨y.clock, max y.time e.time, addD y.state a.eff.delta, (applyF m y.merged e).2, withP y.places e.place⟩) xE ⟨⟨hil, hnx, by simp only;rw [hz];exact hst, by simp only;rw [hz];exact hfd⟩, by simp only;omega⟩
   ·repeat' (first|refine Sp.h ?_|refine Lk.r rfl ?_|refine Rf.mk rfl ?_|refine xB ?_|refine OpK.r rfl ?_|refine xT ?_|refine Ch.l ⟨rfl, rfl⟩ ?_|refine Ch.r ?_|refine xV ?_|refine xD ?_|refine xO ?_|(apply Cl.p (hap);focus (repeat' constructor);done)|(apply Cl.p (hwi);focus (repeat' constructor);done))
    have hz : (⟨y.clock, max y.time e.time, addD y.state a.eff.delta, (applyF m y.merged e).2, y.places⟩ : NowS) = cmp1 m y e := by rw [cmp1, hadd, plE, if_neg hpl];rfl
    all_goals rw [← hso]
    all_goals exact PA.lp (i + 1, vr, ⟨y.clock, max y.time e.time, addD y.state a.eff.delta, (applyF m y.merged e).2, y.places⟩) xE ⟨⟨hil, hnx, by simp only;rw [hz];exact hst, by simp only;rw [hz];exact hfd⟩, by simp only;omega⟩
 ·have hie : i = evl.length := by omega
  subst hie
  rw [List.take_length] at hin0 hy ⊢
  have hcl := h1.1.2.2
  have hout : (outL c evl).length ≤ 1000 := by
   have := List.length_filter_le (fun e : EvS => decide (¬ HasC c e.rep e.num)) evl
   unfold outL;omega
  have hF0 : compactF m ⟨b, evl, w⟩ c = (0, ⟨{ y with clock := c }, outL c evl, { w with merged := (outL c evl).foldl (mrg1 m) y.merged }⟩) := by
   refine (@if_neg _ (Classical.propDecidable _) (fun h9 => h9 h1) _ _ _).trans ((@if_neg _ (Classical.propDecidable _) (fun h9 => h9 ⟨h2, h3, hin0⟩) _ _ _).trans ?_)
   rw [cmpB, ← hy]
  rw [hF0]
  repeat' (first|refine Sp.h ?_|refine Lk.r rfl ?_|refine Rf.mk rfl ?_|refine xB ?_|fail)
  (refine Cl.use (hcc) (by repeat' (first|exact Lend.nil|apply Lend.keep|fail)) .nil rfl ?_;rintro _ _ ⟨_, rfl, rfl⟩)
  (repeat' (first|(show CA _ _ (Code.region 26 _ _) _ _;apply Stopped.out)|refine Sp.h ?_|refine Lk.r rfl ?_|refine Rf.mk rfl ?_|refine xT ?_|refine xV ?_|fail));any_goals apply Stopped.mk
  (apply CA.own;(focus (apply OX.blk (b := b5);(focus repeat constructor);(focus (repeat' (first|exact FX.nil|(apply FX.s1;(focus repeat constructor);(focus first|omega|(simp;done)|(simp;omega)))|apply FX.k)));(focus repeat constructor))))
  repeat' (first|refine Sp.h ?_|refine Lk.r rfl ?_|refine Rf.mk rfl ?_|refine xU ?_|refine xT ?_|fail)
  refine CA.loop (fun x : Nat × List MgS => ⟨[(0, pm s), (5, pm b5), (6, .ow vr), (11, mgs x.2), (130, .ow vr), (131, it ((outL c evl).length : Nat)), (132, it x.1)], [stoR s m b v w, arrR v 66 13 evl evC, blkR b5 46 (basC { y with clock := c }), arrR vr 66 13 (outL c evl) evC]⟩)
   (fun x => x.1 ≤ (outL c evl).length ∧ SzM x.2 ∧ x.2 = ((outL c evl).take x.1).foldl (mrg1 m) y.merged) (fun x => (outL c evl).length - x.1) (0, y.merged) xE ⟨Nat.zero_le _, hmid.mg, rfl⟩ ?_
  rintro ⟨j, k⟩ ⟨hj, hkz, hk⟩
  simp only at hj hkz hk
  simp only
  by_cases hjl : j < (outL c evl).length
  ·obtain ⟨e, he⟩ := get_of hjl
   have hap := applyT_p m k e hm
   repeat' (first|refine Sp.h ?_|refine Lk.r rfl ?_|refine Rf.mk rfl ?_|refine xA ?_|refine OpK.r rfl ?_|refine All.mk fun _=>?_|refine xU ?_|refine xT ?_|refine xI ?_|refine xJ ?_|refine Ch.l ⟨rfl, rfl⟩ ?_|refine Ch.r ?_|(apply SetAsk.r;focus repeat' constructor)|refine xN ?_|refine xD ?_|refine xO ?_|(apply Cl.p (hap);focus repeat' constructor))
   all_goals exact PA.lp (j + 1, mrg1 m k e) xE ⟨⟨hjl, mrg1_sz hkz, by simp only;rw [List.take_add_one, he, Option.toList_some, List.foldl_append, ← hk];rfl⟩, by simp only;omega⟩
  ·have hje : j = (outL c evl).length := by omega
   subst hje
   rw [List.take_length] at hk
   have hcm := cloneM_p k (by have := hkz.1;omega) hkz.2
   rw [← hk]
   repeat' (first|refine Sp.h ?_|refine Lk.r rfl ?_|refine Rf.mk rfl ?_|refine xB ?_|refine OpK.r rfl ?_|refine xT ?_|refine Ch.l ⟨rfl, rfl⟩ ?_|refine xV ?_|(apply SetAsk.r;focus repeat' constructor)|refine xN ?_|refine xD ?_|(apply Cl.p (hcm);focus repeat' constructor))
   all_goals exact ⟨_, _, .one (.same (.z)), rfl, vr, rfl⟩
end Go.Proofs.YtmjllbjfkafhdaaGreatDoor
namespace Go.CF
open Go
def fldE (tt : Nat → Option TI) (t i : Nat) : Option (Nat × Nat × TI) := match tt t with
 | some ti => match ti.kind with
  | .struct fs => match fs[i]? with
   | some (off, ft, _) => match tt ft with
    | some te => if te.kind.agg = false then some (off, ft, te) else none
    | none => none
   | none => none
  | _ => none
 | none => none
theorem fldE_spec {tt : Nat → Option TI} {t i : Nat} {p : Nat × Nat × TI} (h : fldE tt t i = some p) : ∃ ti fs sz, tt t = some ti ∧ ti.kind = .struct fs ∧ fs[i]? = some (p.1, p.2.1, sz) ∧ tt p.2.1 = some p.2.2 ∧ p.2.2.kind.agg = false := by
 unfold fldE at h
 split at h
 ·rename_i ti h1
  split at h
  ·rename_i fs h2
   split at h
   ·rename_i off ft sz h3
    split at h
    ·rename_i te h4
     split at h
     ·rename_i h5
      cases h
      exact ⟨ti, fs, sz, h1, h2, h3, h4, h5⟩
     ·cases h
    ·cases h
   ·cases h
  ·cases h
 ·cases h
section
variable {Γ : Cx} {k : List KI} {e : EA} {o : List Res} {N : NA} {c : Cls} {d : Tmp} {ty : TypeId} {x : Operand} {t : TypeId}
theorem St.field {P : Program} {tt : Nat → Option TI} {en : Nat → Bool} (G : PgOK P tt en) {γ : Type} [Membership Nat γ] {fp : γ} {n : Nat} {env : Env} {h : Heap} {N : Env → Heap → Prop} {i : Nat} {p : Nat × Nat × TI} {vs : List Value} {v : Value} (hp : fldE tt t i = some p)
  (hx : ev env x = some (.agg vs.toArray)) (hv : vs[p.1]? = some v) (k : N ((d, v) :: env) h) : St P n fp c (some d) (.field t x i) ty env h N :=
 .ofPu (v := v) (fun a w ha => by
  obtain ⟨ti, fs, sz, h1, h2, h3, h4, h5⟩ := fldE_spec hp
  obtain ⟨ff, hu, rfl⟩ := (G.ok _ _ h1).struct h2
  rw [List.getElem?_map] at h3
  obtain ⟨f, hf1, hf2⟩ := Option.map_eq_some_iff.1 h3
  simp only [Prod.mk.injEq] at hf2
  have hf3 : ff[i]? = some f := by simpa using hf1
  have hag := (G.ok _ _ h4).run_agg w h5
  rw [← hf2.2.1] at hag
  have hv2 : vs[f.offset]? = some v := by rw [hf2.1];exact hv
  simp [mkOp, execOp, ha.ev hx, Instr.field, run_underlying hu, hf3, part, hag, asAgg, hv2]) k
instance {i : Nat} : Sp (SA Γ c (some d) (.field t x i) ty e o N) (Lk (evA e x) fun a => Ap1 Γ c d (.field t x i) ty e o N x a) := ⟨fun ⟨_, ha, h⟩ => h.h ha⟩
instance {i : Nat} {cs : List AV} : Sp (Ap1 Γ c d (.field t x i) ty e o N x (.agg cs)) (Lk (fldE Γ.tt t i) fun p => Lk cs[p.1]? fun a => N ((d, a) :: e) o) := ⟨fun ⟨p, hp, a, ha, hn⟩ => pu1 fun env h G v h1 h2 => by
 obtain ⟨vs, rfl, hr⟩ := h2
 obtain ⟨w, h3, h4⟩ := hr.t.get ha
 exact ⟨a, w, h4, hn, fun _ k => St.field Γ.ok hp h1 h3 k⟩⟩
end
end Go.CF
namespace Go.Proofs.YtmjllbjfkafhdaaGreatDoor
open Go Go.CF
set_option maxRecDepth 20000
/-! ### The model -/
def tC : TblS := ⟨⟨#[99]⟩, 1, [], 0, 9, 0⟩
def cntM : ModS := ⟨[], [tC], [⟨#[99]⟩], [⟨0, 0, ⟨[(0, -1)], 0⟩, 0, 0⟩, ⟨0, 0, ⟨[(0, 1)], 9⟩, 0, 0⟩], [⟨⟨#[111]⟩, false, []⟩, ⟨⟨#[112]⟩, false, []⟩], [⟨0, [], ⟨[(0, 2)], [], []⟩⟩, ⟨1, [], ⟨[(0, -1)], [], []⟩⟩], []⟩
theorem cnt_mrg : mrgF cntM = [] := by simp [mrgF, mrgL, cntM, isStrict, tC]
theorem cnt_str : strF cntM = 1 := by simp [strF, strN, cntM, isStrict, szF, prodF, tC]
theorem cnt_lay : LayOK cntM.sorts cntM.tables := by
 refine ⟨by simp [cntM], fun x hx => by simp [cntM] at hx, by simp [cntM], fun t ht => ?_⟩
 simp only [cntM, List.mem_cons, List.not_mem_nil, or_false] at ht
 subst ht
 simp [TabOK, ColOK, Sound, cntM, tC]
theorem cnt_ok : MOK cntM := by
 refine ⟨cnt_lay, by simp [cntM], by simp [cntM], fun a ha => ?_, by rw [cnt_str];decide, by rw [cnt_mrg];decide⟩
 simp only [cntM, List.mem_cons, List.not_mem_nil, or_false] at ha
 rcases ha with rfl|rfl
 all_goals
  refine ⟨by simp, by simp, by simp, fun p hp => ?_, fun p hp => by simp at hp⟩
  simp only [List.mem_cons, List.not_mem_nil, or_false] at hp
  subst hp
  rw [cnt_str];decide
/-! ### Two events -/
def ca : EvS := ⟨0, 1, 1, [0, 0], 0, 0, 0, 0, 0, 0, 0, 0, 1⟩
def cb : EvS := ⟨1, 1, 1, [0, 0], 0, 1, 0, 0, 0, 0, 0, 0, 1⟩
theorem val2 (a b : Int) (ha : 0 ≤ a ∧ a ≤ 1024) (hb : 0 ≤ b ∧ b ≤ 1024) : ValC [a, b] := ⟨fun x hx => by
 simp only [List.mem_cons, List.not_mem_nil, or_false] at hx
 unfold rngK
 omega, by simp, by simp⟩
theorem ca_f : FormedE ca := ⟨val2 0 0 (by decide) (by decide), by decide, ⟨0, rfl, rfl⟩, by decide, by unfold Btw ca;decide, .inl ⟨rfl, by unfold Sub0 Btw ca;decide, by unfold GiveZ ca;decide⟩⟩
theorem cb_f : FormedE cb := ⟨val2 0 0 (by decide) (by decide), by decide, ⟨0, rfl, rfl⟩, by decide, by unfold Btw cb;decide, .inl ⟨rfl, by unfold Sub0 Btw cb;decide, by unfold GiveZ cb;decide⟩⟩
theorem cab_suit : SuitS cntM [3] [ca, cb] := by
 have hc : ClosedE [ca, cb] := by
  refine ⟨by simp, fun i j a b hi hj hab => ?_, fun e he => ?_, fun e he r n hr i h1 h2 => ?_⟩
  ·match i, j with
   | 0, 0 => rfl
   | 1, 1 => rfl
   | 0, 1 => simp at hi hj;subst hi;subst hj;simp [nm, ca, cb] at hab
   | 1, 0 => simp at hi hj;subst hi;subst hj;simp [nm, ca, cb] at hab
   | i + 2, _ => simp at hi
   | 0, j + 2 => simp at hj
   | 1, j + 2 => simp at hj
  ·simp only [List.mem_cons, List.not_mem_nil, or_false] at he
   rcases he with rfl|rfl
   ·exact ⟨ca_f, rfl⟩
   ·exact ⟨cb_f, rfl⟩
  ·exfalso
   simp only [List.mem_cons, List.not_mem_nil, or_false] at he
   have hn : n = 0 := by
    rcases he with rfl|rfl
    all_goals
     have := List.mem_of_getElem? hr
     simp [ca, cb] at this
     exact this
   omega
 refine ⟨⟨cnt_ok, ⟨by simp, fun e he => ?_⟩, hc, fun a ha u hu i t _ ht => ?_, fun e he => ?_⟩, by simp, by rw [cnt_str];rfl, by simp, fun a ha p hp => ?_⟩
 ·simp only [List.mem_cons, List.not_mem_nil, or_false] at he
  rcases he with rfl|rfl <;> simp [ca, cb]
 ·rw [cnt_mrg] at ht;simp at ht
 ·simp only [List.mem_cons, List.not_mem_nil, or_false] at he
  rcases he with rfl|rfl
  ·exact ⟨ca_f, rfl, fun _ => by decide⟩
  ·exact ⟨cb_f, rfl, fun _ => by decide⟩
 ·simp only [cntM, List.mem_cons, List.not_mem_nil, or_false] at ha
  rcases ha with rfl|rfl <;> (simp at hp;subst hp;decide)
theorem cab_ext : ExtO [ca, cb] [ca, cb] := by
 have hno : ∀ e, e = ca ∨ e = cb → ∀ d : EvS, ¬ HasC e.past d.rep d.num := fun e he d ⟨_, _, h1, x, hx, h2⟩ => by
  have h3 : e.past = [0, 0] := by rcases he with rfl|rfl <;> rfl
  rw [h3] at hx
  have := List.mem_of_getElem? hx
  simp at this
  omega
 refine ⟨fun e he => he, fun i e he => ⟨?_, fun d hd hh => absurd hh (hno e (by have := List.mem_of_getElem? he;simpa using this) d)⟩⟩
 match i with
 | 0 => simp
 | 1 => simp at he;subst he;simp [ca, cb]
 | i + 2 => simp at he
theorem cab_1 : deliverF cntM [] (stN cntM 2 [3] []) ca = (0, stN cntM 2 [3] [ca]) := (fill_sto cab_suit (by simp) cab_ext 0 (by simp)).2 ca rfl
theorem cab_2 : deliverF cntM [ca] (stN cntM 2 [3] [ca]) cb = (0, stN cntM 2 [3] [ca, cb]) := (fill_sto cab_suit (by simp) cab_ext 1 (by simp)).2 cb rfl
theorem st_cab : (stN cntM 2 [3] [ca, cb]).clock = [1, 1] ∧ (stN cntM 2 [3] [ca, cb]).state = [4] := by
 exact ⟨rfl, rfl⟩
theorem has_2 (x y : Int) (hx : 0 ≤ x ∧ x ≤ 1024) (hy : 0 ≤ y ∧ y ≤ 1024) : (HasC [x, y] 0 1 ↔ 1 ≤ x) ∧ (HasC [x, y] 1 1 ↔ 1 ≤ y) :=
 ⟨⟨fun ⟨_, _, _, z, h1, h2⟩ => by simp at h1;omega, fun h => ⟨val2 x y hx hy, by decide, by decide, x, rfl, h⟩⟩, ⟨fun ⟨_, _, _, z, h1, h2⟩ => by simp at h1;omega, fun h => ⟨val2 x y hx hy, by decide, by decide, y, rfl, h⟩⟩⟩
theorem ins_2 {a b c d : Int} (h1 : a ≤ c) (h2 : b ≤ d) : Ins [a, b] [c, d] := fun i x y hx hy => by
 match i with
 | 0 => simp at hx hy;omega
 | 1 => simp at hx hy;omega
 | i + 2 => simp at hx
theorem cab_3 : ∃ B N, compactF cntM ⟨stN cntM 2 [3] [], [ca, cb], stN cntM 2 [3] [ca, cb]⟩ [1, 0] = (0, ⟨B, [cb], N⟩) ∧ B.state = [5] ∧ SzN B ∧ N.clock = [1, 1] := by
 have hb : (stN cntM 2 [3] []).clock = [0, 0] := rfl
 obtain ⟨h1, h2⟩ := has_2 1 0 (by decide) (by decide)
 have e1 : inL [1, 0] [ca, cb] = [ca] := by
  have a1 : HasC [1, 0] ca.rep ca.num := h1.2 (by decide)
  have a2 : ¬ HasC [1, 0] cb.rep cb.num := fun h => absurd (h2.1 h) (by decide)
  simp [inL, a1, a2]
 have e2 : outL [1, 0] [ca, cb] = [cb] := by
  have a1 : HasC [1, 0] ca.rep ca.num := h1.2 (by decide)
  have a2 : ¬ HasC [1, 0] cb.rep cb.num := fun h => absurd (h2.1 h) (by decide)
  simp [outL, a1, a2]
 refine ⟨cmpB cntM (stN cntM 2 [3] []) [1, 0] [ca, cb], { stN cntM 2 [3] [ca, cb] with merged := [cb].foldl (mrg1 cntM) (cmpB cntM (stN cntM 2 [3] []) [1, 0] [ca, cb]).merged }, ?_, ?_, ?_, st_cab.1⟩
 ·have q1 : ValC [1, 0] ∧ ([1, 0] : List Int).length = (stN cntM 2 [3] [ca, cb]).clock.length := ⟨val2 1 0 (by decide) (by decide), rfl⟩
  have q2 : Ins (stN cntM 2 [3] []).clock [1, 0] ∧ Ins [1, 0] (stN cntM 2 [3] [ca, cb]).clock ∧ ∀ e ∈ [ca, cb], HasC [1, 0] e.rep e.num → Ins e.past [1, 0] := by
   refine ⟨by rw [hb];exact ins_2 (by decide) (by decide), by rw [st_cab.1];exact ins_2 (by decide) (by decide), fun e he _ => ?_⟩
   simp only [List.mem_cons, List.not_mem_nil, or_false] at he
   rcases he with rfl|rfl <;> exact ins_2 (by decide) (by decide)
  refine (@if_neg _ (Classical.propDecidable _) (fun h9 => h9 q1) _ _ _).trans ((@if_neg _ (Classical.propDecidable _) (fun h9 => h9 q2) _ _ _).trans ?_)
  simp only [e2]
 ·rw [cmpB, e1];rfl
 ·rw [cmpB, e1]
  have hsz : SzM (mrg1 cntM (stN cntM 2 [3] []).merged ca) := mrg1_sz (by
   simp only [stN, List.foldl_nil, cnt_mrg]
   exact ⟨by simp, by simp⟩)
  exact ⟨by simp, by simp only [List.foldl_cons, List.foldl_nil, cmp1, addE_len];simp [stN], hsz.1, hsz.2, by simp only [List.foldl_cons, List.foldl_nil, cmp1];simp [stN, plE, ca]⟩
end Go.Proofs.YtmjllbjfkafhdaaGreatDoor
namespace Go.Proofs.YtmjllbjfkafhdaaGreatDoor
open Go Go.CF
set_option maxRecDepth 20000
theorem stN_okC (X : List EvS) (hX : ∀ e ∈ X, e ∈ [ca, cb]) (hl : X.length ≤ 1000) : NowOK cntM (stN cntM 2 [3] X) := stN_ok cab_suit hX hl
end Go.Proofs.YtmjllbjfkafhdaaGreatDoor
namespace Go.Proofs.YtmjllbjfkafhdaaGreatDoor
open Go Go.CF
set_option maxRecDepth 20000
def WordTo (s : ByteArray) (a b : Nat) : Prop := ∀ i, a ≤ i → i < b → isWord (byteAt s i)
def NmW (s : ByteArray) : Prop := 0 < s.size ∧ isLetter (byteAt s 0) ∧ WordTo s 0 s.size ∧ ¬ HasS kwL s
def NmOK (s : ByteArray) : Prop := NmW s ∧ s.size ≤ 16
noncomputable instance (s : ByteArray) : Decidable (NmOK s) := Classical.propDecidable _
theorem Skip.fst {s : ByteArray} {j : Nat} (h : Skip s 0 j) (hl : isLetter (byteAt s 0)) : j = 0 := by
 unfold isLetter at hl
 cases h with
 | stop => rfl
 | white _ _ h3 _ => unfold isWhite at h3;omega
 | com _ h2 _ _ => omega
theorem extract_all (s : ByteArray) : s.extract 0 s.size = s := ByteArray.extract_zero_size
end Go.Proofs.YtmjllbjfkafhdaaGreatDoor
namespace Go.Proofs.YtmjllbjfkafhdaaGreatDoor
open Go Go.CF
set_option maxRecDepth 20000
theorem alli_succ {α : Type} {l : List α} {P : Nat → α → Prop} {i : Nat} {x : α} (hx : l[i]? = some x) (h : ∀ j y, j < i → l[j]? = some y → P j y) (hp : P i x) : ∀ j y, j < i + 1 → l[j]? = some y → P j y := by
 intro j y h1 h2
 by_cases hj : j = i
 ·subst hj;rw [hx] at h2;cases h2;exact hp
 ·exact h j y (by omega) h2
theorem alli_all {α : Type} {l : List α} {P : Nat → α → Prop} (h : ∀ j y, j < l.length → l[j]? = some y → P j y) : ∀ j y, l[j]? = some y → P j y :=
 fun j y hy => h j y (List.getElem?_eq_some_iff.1 hy).1 hy
noncomputable def sumK (sizes : List Int) (s : Bool) (l : List TblS) : Int := (l.map fun t => if decide (isStrict t.kind) = s then numF sizes t.cols else 0).sum
theorem sumK_succ {sizes : List Int} {s : Bool} {l : List TblS} {i : Nat} {t : TblS} (h : l[i]? = some t) : sumK sizes s (l.take (i + 1)) = sumK sizes s (l.take i) + if decide (isStrict t.kind) = s then numF sizes t.cols else 0 := by
 unfold sumK;rw [List.take_add_one, h];simp
theorem sumK_le {sizes : List Int} {s : Bool} {l : List TblS} : ∀ i, 0 ≤ sumK sizes s (l.take i) ∧ sumK sizes s (l.take i) ≤ 216 * i := by
 intro i
 induction i with
 | zero => simp [sumK]
 | succ i ih =>
  by_cases hi : i < l.length
  ·obtain ⟨t, ht⟩ := get_of hi
   rw [sumK_succ ht]
   have := num_le sizes t.cols
   split <;> omega
  ·rw [show l.take (i + 1) = l.take i by rw [List.take_of_length_le (by omega), List.take_of_length_le (by omega)]]
   omega
structure TabX (sizes : List Int) (l : List TblS) (i : Nat) (t : TblS) : Prop where
 nm : NmOK t.name
 df : ∀ j u, j < i → l[j]? = some u → u.name.toList ≠ t.name.toList
 ok : TabOK sizes t
 rg : t.kind = 0 ∨ t.kind = 2 ∨ t.kind = 3 → t.lo = 0 ∧ t.hi = 1
 fs : t.first = sumK sizes (decide (isStrict t.kind)) (l.take i)
structure LayX (sizes : List Int) (l : List TblS) : Prop where
 sz : sizes.length ≤ 4
 so : Sound sizes
 tl : l.length ≤ 12
 t : ∀ i t, l[i]? = some t → TabX sizes l i t
 s : sumK sizes true l ≤ 128
 m : sumK sizes false l ≤ 64
noncomputable instance (sizes : List Int) (l : List TblS) : Decidable (LayX sizes l) := Classical.propDecidable _
theorem LayX.ok {sizes : List Int} {l : List TblS} (h : LayX sizes l) : LayOK sizes l := ⟨h.sz, h.so, h.tl, fun t ht => by obtain ⟨i, hi⟩ := List.getElem?_of_mem ht;exact (h.t i t hi).ok⟩
noncomputable def rngL (sizes : List Int) (s : Bool) (l : List TblS) : List (Int × Int) := l.flatMap fun t => if decide (isStrict t.kind) = s then List.replicate (numF sizes t.cols).toNat (t.lo, t.hi) else []
noncomputable def rngF (sizes : List Int) (s : Bool) (l : List TblS) : List (Int × Int) := if LayX sizes l then rngL sizes s l else []
theorem rngL_succ {sizes : List Int} {s : Bool} {l : List TblS} {i : Nat} {t : TblS} (h : l[i]? = some t) : rngL sizes s (l.take (i + 1)) = rngL sizes s (l.take i) ++ if decide (isStrict t.kind) = s then List.replicate (numF sizes t.cols).toNat (t.lo, t.hi) else [] := by
 unfold rngL;rw [List.take_add_one, h];simp
theorem rngL_len (sizes : List Int) (s : Bool) (l : List TblS) : ((rngL sizes s l).length : Int) = sumK sizes s l := by
 unfold rngL sumK
 induction l with
 | nil => rfl
 | cons t l ih =>
  rw [List.flatMap_cons, List.length_append, List.map_cons, List.sum_cons, ← ih]
  have := num_le sizes t.cols
  split
  ·rw [List.length_replicate];omega
  ·simp
theorem rngF_len {sizes : List Int} {l : List TblS} {s : Bool} : (rngF sizes s l).length ≤ 128 := by
 unfold rngF
 split
 ·rename_i h
  have := rngL_len sizes s l
  cases s
  ·have := h.m;omega
  ·have := h.s;omega
 ·simp
theorem rngF_ok {sizes : List Int} {l : List TblS} {s : Bool} : RgOK (rngF sizes s l) := by
 unfold rngF
 split
 ·rename_i h
  intro p hp
  unfold rngL at hp
  obtain ⟨t, ht, hp⟩ := List.mem_flatMap.1 hp
  split at hp
  ·have := (h.ok.2.2.2 t ht).2
   rw [(List.mem_replicate.1 hp).2]
   simp only
   omega
  ·cases hp
 ·intro p hp;cases hp
end Go.Proofs.YtmjllbjfkafhdaaGreatDoor
namespace Go.Proofs.YtmjllbjfkafhdaaGreatDoor
open Go Go.CF
set_option maxRecDepth 20000
def nthF (sizes : List Int) : List Int → Int → List Int × Int
 | [], k => ([], k)
 | c :: cs, k => let q := nthF sizes cs k;((q.2 % sizes[c.toNat]?.getD 1) :: q.1, q.2 / sizes[c.toNat]?.getD 1)
theorem nthF_len (sizes : List Int) (k : Int) : ∀ cols, (nthF sizes cols k).1.length = cols.length := by
 intro cols
 induction cols with
 | nil => rfl
 | cons c cs ih => simp [nthF, ih]
theorem nthF_le {sizes : List Int} (hs : Sound sizes) {k : Int} (hk : 0 ≤ k) : ∀ cols, 0 ≤ (nthF sizes cols k).2 ∧ (nthF sizes cols k).2 ≤ k := by
 intro cols
 induction cols with
 | nil => exact ⟨hk, Int.le_refl _⟩
 | cons c cs ih =>
  simp only [nthF]
  have hy : 1 ≤ sizes[c.toNat]?.getD 1 := by
   cases h : sizes[c.toNat]? with
   | none => simp
   | some y => exact (hs y (List.mem_of_getElem? h)).1
  exact ⟨Int.ediv_nonneg ih.1 (by omega), Int.le_trans (Int.ediv_le_self _ ih.1) ih.2⟩
theorem set_repl {α : Type} (i : Nat) (a b : α) (r : List α) : (List.replicate (i + 1) a ++ r).set i b = List.replicate i a ++ b :: r := by
 rw [List.replicate_succ', List.append_assoc, List.set_append_right _ _ (by simp)]
 simp
def CelIn (sizes : List Int) (s : Bool) (cell : Int) (t : TblS) : Prop := decide (isStrict t.kind) = s ∧ 0 ≤ cell - t.first ∧ cell - t.first < numF sizes t.cols
noncomputable instance (sizes : List Int) (s : Bool) (cell : Int) (t : TblS) : Decidable (CelIn sizes s cell t) := Classical.propDecidable _
noncomputable def tabF (sizes : List Int) (s : Bool) (l : List TblS) (cell : Int) : Option Nat := l.findIdx? fun t => decide (CelIn sizes s cell t)
noncomputable def tupF (sizes : List Int) (l : List TblS) (s : Bool) (cell : Int) : Option (Nat × List Int) :=
 if LayX sizes l ∧ 0 ≤ cell then (tabF sizes s l cell).bind fun i => (l[i]?).map fun t => (i, (nthF sizes t.cols (cell - t.first)).1) else none
def tupA : Option (Nat × List Int) → AV
 | some (i, q) => .tup [it i, ints q, .val (.bool true)]
 | none => .tup [it 0, ints [], .val (.bool false)]
theorem findIdx_at {α : Type} {p : α → Bool} : ∀ {l : List α} {i : Nat} {x : α}, l[i]? = some x → p x = true → (∀ j y, j < i → l[j]? = some y → p y = false) → l.findIdx? p = some i := by
 intro l
 induction l with
 | nil => intro i x h;cases h
 | cons a l ih =>
  intro i x h1 h2 h3
  cases i with
  | zero => cases h1;simp [List.findIdx?_cons, h2]
  | succ i =>
   have h4 := h3 0 a (by omega) rfl
   rw [List.findIdx?_cons, h4, ih h1 h2 fun j y hj hy => h3 (j + 1) y (by omega) hy]
   rfl
theorem findIdx_no {α : Type} {p : α → Bool} {l : List α} (h : ∀ (j : Nat) (y : α), l[j]? = some y → p y = false) : l.findIdx? p = none := by
 rw [List.findIdx?_eq_none_iff]
 intro y hy
 obtain ⟨j, hj⟩ := List.getElem?_of_mem hy
 exact h j y hj
theorem tupF_at {sizes : List Int} {l : List TblS} {s : Bool} {cell : Int} (hl : LayX sizes l) (hc : 0 ≤ cell) {i : Nat} {t : TblS} (ht : l[i]? = some t) (h1 : CelIn sizes s cell t) (h2 : ∀ j y, j < i → l[j]? = some y → ¬ CelIn sizes s cell y) : tupF sizes l s cell = some (i, (nthF sizes t.cols (cell - t.first)).1) := by
 rw [tupF, if_pos ⟨hl, hc⟩, tabF, findIdx_at ht (decide_eq_true h1) fun j y hj hy => decide_eq_false (h2 j y hj hy), Option.bind_some, ht]
 rfl
theorem tupF_no {sizes : List Int} {l : List TblS} {s : Bool} {cell : Int} (h2 : 0 ≤ cell → ∀ (j : Nat) (y : TblS), l[j]? = some y → ¬ CelIn sizes s cell y) : tupF sizes l s cell = none := by
 unfold tupF
 split
 ·rename_i h
  rw [tabF, findIdx_no fun j y hy => decide_eq_false (h2 h.2 j y hy)]
  rfl
 ·rfl
theorem LayX.first {sizes : List Int} {l : List TblS} (h : LayX sizes l) {i : Nat} {t : TblS} (ht : l[i]? = some t) : 0 ≤ t.first ∧ t.first ≤ 2592 := by
 have h1 := (h.t i t ht).fs
 have h2 := sumK_le (sizes := sizes) (s := decide (isStrict t.kind)) (l := l) i
 have h3 := (List.getElem?_eq_some_iff.1 ht).1
 have h4 := h.tl
 omega
end Go.Proofs.YtmjllbjfkafhdaaGreatDoor
namespace Go.Proofs.YtmjllbjfkafhdaaGreatDoor
open Go Go.CF
set_option maxRecDepth 20000
theorem lendAll {o : List Res} : ∀ l : List AV, Lend o l l
 | [] => .nil
 | _ :: l => .keep (lendAll l)
theorem idxB_lt {α : Type} {p : α → Bool} {l : List α} : idxN p l < l.length ↔ ∃ x ∈ l, p x = true := by
 constructor
 ·intro h
  obtain ⟨x, h1, h2, -⟩ := idxN_at h
  exact ⟨x, List.mem_of_getElem? h1, h2⟩
 ·rintro ⟨x, h1, h2⟩
  exact idx_mem h1 h2
/-! ### Lists of bools -/
def boolC (b : Bool) : List AV := [.val (.bool b)]
abbrev bools (l : List Bool) : AV := .sl 1 l boolC
theorem indexB_p (l : List Bool) (a : Bool) : CallP Tryz.prog 257 [bools l, .val (.bool a)] (it (idxI (fun b => decide (a = b)) l)) := by
 refine CallA.of pg ord257 Tryz.func257 rfl Tryz.ntmps257 Tryz.results257 rfl fun h0 G0 O0 => ?_
 repeat' (first|refine Sp.h ?_|refine Lk.r rfl ?_|refine Rf.mk rfl ?_|refine Im.mk fun _=>?_|fail)
 refine CA.loop (fun i : Nat => ⟨[(0, bools l), (1, .val (.bool a)), (7, it (l.length : Nat)), (8, it i)], []⟩)
  (fun i => i ≤ l.length ∧ ∀ j y, j < i → l[j]? = some y → decide (a = y) = false) (fun i => l.length - i) 0 xE ⟨Nat.zero_le _, fun j y h => by omega⟩ ?_
 rintro i ⟨hi, hj⟩
 by_cases hin : i < l.length
 ·obtain ⟨e, hx⟩ := get_of hin
  by_cases hp : a = e
  ·repeat' (first|refine Sp.h ?_|refine Lk.r rfl ?_|refine Rf.mk rfl ?_|refine xA ?_|refine xI ?_|refine xN ?_|fail)
   exact Fin.p rfl (by rw [idxI, idxN_of hx (decide_eq_true hp) hj, if_pos hin])
  ·repeat' (first|refine Sp.h ?_|refine Lk.r rfl ?_|refine Rf.mk rfl ?_|refine xA ?_|refine xB ?_|refine xI ?_|refine xO ?_|fail)
   exact PA.lp (i + 1) xE ⟨⟨hin, alli_succ hx hj (decide_eq_false hp)⟩, by omega⟩
 ·repeat' (first|refine Sp.h ?_|refine Lk.r rfl ?_|refine Rf.mk rfl ?_|refine xB ?_|refine xN ?_|fail)
  exact Fin.p rfl (by rw [idxI, idxN_none (fun x hx => by obtain ⟨j, hx⟩ := List.getElem?_of_mem hx;exact hj j x (by have := (List.getElem?_eq_some_iff.1 hx).1;omega) hx), if_neg (by omega)])
theorem all_p (l : List Bool) : CallP Tryz.prog 173 [bools l] (.val (.bool (l.all id))) := by
 have h : CallP Tryz.prog 218 [bools l, .val (.bool false)] (.val (.bool (decide (idxN (fun b => decide (false = b)) l < l.length)))) := by
  have hi := indexB_p l false
  refine CallA.of pg ord218 Tryz.func218 rfl Tryz.ntmps218 Tryz.results218 rfl fun h0 G0 O0 => ?_
  repeat' (first|refine Sp.h ?_|refine Lk.r rfl ?_|refine Rf.mk rfl ?_|refine xN ?_|(apply Cl.p (hi);focus repeat' constructor))
  refine Fin.p rfl (vb (decide_eq_decide.2 ?_))
  unfold idxI
  split <;> omega
 refine CallA.of pg ord173 Tryz.func173 rfl Tryz.ntmps173 Tryz.results173 rfl fun h0 G0 O0 => ?_
 repeat' (first|refine Sp.h ?_|refine Lk.r rfl ?_|refine Rf.mk rfl ?_|refine xN ?_|(apply Cl.p (h);focus repeat' constructor))
 refine Fin.p rfl (vb ?_)
 rw [Bool.eq_iff_iff, decide_eq_true_eq, idxB_lt, List.all_eq_true]
 constructor
 ·intro h x hx
  cases x
  ·exact (h ⟨_, hx, rfl⟩).elim
  ·rfl
 ·rintro h ⟨x, hx, h2⟩
  have := h x hx
  rw [← of_decide_eq_true h2] at this
  cases this
/-! ### Searches in numbers, by closures with any captures -/
theorem indexI_c {g : FuncId} {caps : List AV} {p : Int → Bool} (hg : ∀ x, CallP Tryz.prog g (it x :: caps) (.val (.bool (p x)))) (he : en g = true) (l : List Int) :
  CallP Tryz.prog 203 [ints l, .fn g caps] (it (idxI p l)) := by
 refine CallA.of pg ord203 Tryz.func203 rfl Tryz.ntmps203 Tryz.results203 rfl fun h0 G0 O0 => ?_
 repeat' (first|refine Sp.h ?_|refine Lk.r rfl ?_|refine Rf.mk rfl ?_|refine Im.mk fun _=>?_|fail)
 refine CA.loop (fun i : Nat => ⟨[(0, ints l), (1, .fn g caps), (7, it (l.length : Nat)), (8, it i)], []⟩)
  (fun i => i ≤ l.length ∧ ∀ j y, j < i → l[j]? = some y → p y = false) (fun i => l.length - i) 0 xE ⟨Nat.zero_le _, fun j y h => by omega⟩ ?_
 rintro i ⟨hi, hj⟩
 by_cases hin : i < l.length
 ·obtain ⟨e, hx⟩ := get_of hin
  repeat' (first|refine Sp.h ?_|refine Lk.r rfl ?_|refine Rf.mk rfl ?_|refine xA ?_|(refine Bd.mk ?_ ?_ <;> intro _)|refine xI ?_|refine xN ?_|(apply Rf.mk;(focus assumption))|refine xO ?_|(apply Cl.p (hg e);(focus repeat' (first|apply Lend.keep|fail))))
  ·exact lendAll _
  ·rename_i hp
   exact Fin.p rfl (by rw [idxI, idxN_of hx hp hj, if_pos hin])
  ·rename_i hp
   exact PA.lp (i + 1) xE ⟨⟨hin, alli_succ hx hj (by simpa using hp)⟩, by omega⟩
 ·repeat' (first|refine Sp.h ?_|refine Lk.r rfl ?_|refine Rf.mk rfl ?_|refine xB ?_|refine xN ?_|fail)
  exact Fin.p rfl (by rw [idxI, idxN_none (fun x hx => by obtain ⟨j, hx⟩ := List.getElem?_of_mem hx;exact hj j x (by have := (List.getElem?_eq_some_iff.1 hx).1;omega) hx), if_neg (by omega)])
theorem containsI_c {g : FuncId} {caps : List AV} {p : Int → Bool} (hg : ∀ x, CallP Tryz.prog g (it x :: caps) (.val (.bool (p x)))) (he : en g = true) (l : List Int) :
  CallP Tryz.prog 152 [ints l, .fn g caps] (.val (.bool (decide (idxN p l < l.length)))) := by
 have hi := indexI_c hg he l
 refine CallA.of pg ord152 Tryz.func152 rfl Tryz.ntmps152 Tryz.results152 rfl fun h0 G0 O0 => ?_
 repeat' (first|refine Sp.h ?_|refine Lk.r rfl ?_|refine Rf.mk rfl ?_|refine xN ?_|(apply Cl.p (hi);focus repeat' constructor))
 refine Fin.p rfl (vb (decide_eq_decide.2 ?_))
 unfold idxI
 split <;> omega
/-! ### The tests of cells.Valid -/
theorem within_c (x lo hi : Int) : CallP Tryz.prog 176 [it x, it lo, it hi] (.val (.bool (decide (lo ≤ x ∧ x ≤ hi)))) := by
 refine CallA.of pg ord176 Tryz.func176 rfl Tryz.ntmps176 Tryz.results176 rfl fun h0 G0 O0 => ?_
 repeat' (first|refine Sp.h ?_|refine Lk.r rfl ?_|refine Rf.mk rfl ?_|refine xA ?_|refine xB ?_|(refine Bd.mk ?_ ?_ <;> intro _)|refine xN ?_|fail)
 all_goals exact Fin.p rfl (vb (by first|exact (decide_eq_true (by omega)).symm|exact (decide_eq_false (by omega)).symm|exact decide_eq_decide.2 (by omega)))
theorem sized_p (sizes : List Int) : CallP Tryz.prog 174 [ints sizes] (.val (.bool (decide (Sound sizes)))) := by
 have h1 : ∀ x, CallP Tryz.prog 219 [it x] (.val (.bool (!decide (1 ≤ x ∧ x ≤ 6)))) := by
  intro x
  have hw := within_c x 1 6
  refine CallA.of pg ord219 Tryz.func219 rfl Tryz.ntmps219 Tryz.results219 rfl fun h0 G0 O0 => ?_
  repeat' (first|refine Sp.h ?_|refine Lk.r rfl ?_|refine Rf.mk rfl ?_|refine xN ?_|(apply Cl.p (hw);focus repeat' constructor))
  exact Fin.p rfl (vb decide_not)
 have h2 := containsI_c h1 rfl sizes
 refine CallA.of pg ord174 Tryz.func174 rfl Tryz.ntmps174 Tryz.results174 rfl fun h0 G0 O0 => ?_
 repeat' (first|refine Sp.h ?_|refine Lk.r rfl ?_|refine Rf.mk rfl ?_|refine xN ?_|(apply Cl.p (h2);focus repeat' constructor))
 refine Fin.p rfl (vb ?_)
 rw [Bool.eq_iff_iff, decide_eq_true_eq, idxB_lt, decide_eq_true_eq]
 constructor
 ·intro h x hx
  exact Classical.byContradiction fun h9 => h ⟨x, hx, by rw [decide_eq_false h9];rfl⟩
 ·rintro h ⟨x, hx, h9⟩
  have := h x hx
  simp at h9
  omega
theorem columned1_p (sizes : List Int) (x : Int) : CallP Tryz.prog 221 [it x, .ad [ints sizes] 0] (.val (.bool (!decide (0 ≤ x ∧ x < sizes.length)))) := by
 refine CallA.of pg ord221 Tryz.func221 rfl Tryz.ntmps221 Tryz.results221 rfl fun h0 G0 O0 => ?_
 repeat' (first|refine Sp.h ?_|refine Lk.r rfl ?_|refine Rf.mk rfl ?_|refine xA ?_|refine xB ?_|(refine Bd.mk ?_ ?_ <;> intro _)|refine Im.mk fun _=>?_|refine xN ?_|fail)
 all_goals
  refine Fin.p rfl (vb ?_)
  by_cases hc : 0 ≤ x ∧ x < sizes.length
  ·rw [decide_eq_true hc]
   first
    | exact decide_eq_false (by omega)
    | (exfalso;omega)
  ·rw [decide_eq_false hc]
   first
    | exact decide_eq_true (by omega)
    | rfl
    | (exfalso;omega)
def ColC (sizes cols : List Int) : Prop := cols.length ≤ 3 ∧ ∀ x ∈ cols, 0 ≤ x ∧ x < sizes.length
noncomputable instance (sizes cols : List Int) : Decidable (ColC sizes cols) := Classical.propDecidable _
theorem columned_p (sizes cols : List Int) : CallP Tryz.prog 177 [ints sizes, ints cols] (.val (.bool (decide (ColC sizes cols)))) := by
 have hc := containsI_c (columned1_p sizes) rfl cols
 have hq : ¬ idxN (fun x : Int => !decide (0 ≤ x ∧ x < sizes.length)) cols < cols.length ↔ ∀ x ∈ cols, 0 ≤ x ∧ x < sizes.length := by
  rw [idxB_lt]
  constructor
  ·intro h x hx
   exact Classical.byContradiction fun h9 => h ⟨x, hx, by rw [decide_eq_false h9];rfl⟩
  ·rintro h ⟨x, hx, h9⟩
   have := h x hx
   rw [decide_eq_true this] at h9
   cases h9
 refine CallA.of pg ord177 Tryz.func177 rfl Tryz.ntmps177 Tryz.results177 rfl fun h0 G0 O0 => ?_
 (repeat' (first|(show CA _ _ (Code.region 1 _ _) _ _;apply Stopped.out)|refine Sp.h ?_|refine Lk.r rfl ?_|refine Rf.mk rfl ?_|refine All.mk fun _=>?_|fail));any_goals apply Stopped.mk
 refine CA.freezeB 2 rfl (by repeat constructor) ?_
 repeat' (first|refine Sp.h ?_|refine Lk.r rfl ?_|refine Rf.mk rfl ?_|refine xA ?_|refine xB ?_|(refine Bd.mk ?_ ?_ <;> intro _)|refine Im.mk fun _=>?_|refine xN ?_|(apply Cl.p (hc);focus repeat' constructor))
 all_goals refine Fin.p rfl (vb ?_)
 ·rw [Bool.eq_iff_iff, decide_eq_true_eq, hq, decide_eq_true_eq]
  exact ⟨fun h => ⟨by omega, h⟩, fun h => h.2⟩
 ·exact (decide_eq_false (fun h => by have := h.1;omega)).symm
def RngT (t : TblS) : Prop := if t.kind = 1 ∨ t.kind = 4 ∨ t.kind = 5 then t.lo ≤ t.hi ∧ -9999 ≤ t.lo ∧ t.hi ≤ 9999 else t.lo = 0 ∧ t.hi = 1
noncomputable instance (t : TblS) : Decidable (RngT t) := Classical.propDecidable _
theorem rngT_1 {t : TblS} (h : t.kind = 1 ∨ t.kind = 4 ∨ t.kind = 5) : RngT t ↔ t.lo ≤ t.hi ∧ -9999 ≤ t.lo ∧ t.hi ≤ 9999 := by rw [RngT, if_pos h]
theorem rngT_0 {t : TblS} (h : ¬ (t.kind = 1 ∨ t.kind = 4 ∨ t.kind = 5)) : RngT t ↔ t.lo = 0 ∧ t.hi = 1 := by rw [RngT, if_neg h]
theorem ranged_p (t : TblS) : CallP Tryz.prog 178 [.agg (tblC t)] (.val (.bool (decide (RngT t)))) := by
 refine CallA.of pg ord178 Tryz.func178 rfl Tryz.ntmps178 Tryz.results178 rfl fun h0 G0 O0 => ?_
 repeat' (first|refine Sp.h ?_|refine Lk.r rfl ?_|refine Rf.mk rfl ?_|refine xA ?_|refine xB ?_|(refine Bd.mk ?_ ?_ <;> intro _)|refine All.mk fun _=>?_|refine xT ?_|refine Ch.r ?_|(apply Fk.r;focus repeat' first|infer_instance|constructor)|refine xN ?_|refine xK ?_|(apply Kf.mk;(focus kernel_rfl))|fail)
 all_goals
  refine Fin.p rfl (vb ?_)
  first
   | exact decide_eq_decide.2 (by rw [rngT_1 (by omega)];omega)
   | exact (decide_eq_true (by rw [rngT_1 (by omega)];omega)).symm
   | exact (decide_eq_false (by rw [rngT_1 (by omega)];omega)).symm
   | exact decide_eq_decide.2 (by rw [rngT_0 (by omega)];omega)
   | exact (decide_eq_true (by rw [rngT_0 (by omega)];omega)).symm
   | exact (decide_eq_false (by rw [rngT_0 (by omega)];omega)).symm
   | exact decide_eq_decide.2 (by rw [rngT_0 (by omega)];simp)
theorem isStrict_p (t : TblS) : CallP Tryz.prog 179 [.agg (tblC t)] (.val (.bool (decide (isStrict t.kind)))) := by
 refine CallA.of pg ord179 Tryz.func179 rfl Tryz.ntmps179 Tryz.results179 rfl fun h0 G0 O0 => ?_
 repeat' (first|refine Sp.h ?_|refine Lk.r rfl ?_|refine Rf.mk rfl ?_|refine xA ?_|refine xB ?_|(refine Bd.mk ?_ ?_ <;> intro _)|refine All.mk fun _=>?_|refine xT ?_|refine xN ?_|fail)
 all_goals
  refine Fin.p rfl (vb ?_)
  first
   | exact decide_eq_decide.2 (by unfold isStrict;omega)
   | exact (decide_eq_true (by unfold isStrict;omega)).symm
theorem width_p (sizes cols : List Int) (h : ColOK sizes cols) : CallP Tryz.prog 180 [ints sizes, ints cols] (it (prodF sizes cols)) := by
 obtain ⟨hl, hs, ha⟩ := h
 refine CallA.of pg ord180 Tryz.func180 rfl Tryz.ntmps180 Tryz.results180 rfl fun h0 G0 O0 => ?_
 repeat' (first|refine Sp.h ?_|refine Lk.r rfl ?_|refine Rf.mk rfl ?_|refine Im.mk fun _=>?_|fail)
 refine CA.loop (fun i : Nat => ⟨[(0, ints sizes), (5, it (prodF sizes (cols.take i))), (8, ints cols), (9, it (cols.length : Nat)), (10, it i)], []⟩) (fun i => i ≤ cols.length) (fun i => cols.length - i) 0 xE (Nat.zero_le _) ?_
 rintro i hi
 by_cases hin : i < cols.length
 ·obtain ⟨x, hx⟩ := get_of hin
  have hb := ha x (List.mem_of_getElem? hx)
  have hb1 := hb.1
  obtain ⟨y, hy⟩ := get_of (l := sizes) (i := x.toNat) (by omega)
  have hys := hs y (List.mem_of_getElem? hy)
  have hp := prod_le hs (cols.take i)
  have hp2 := prod_succ hx hy
  have hp3 := prod_le hs (cols.take (i + 1))
  have h216 : ∀ n : Nat, n ≤ 3 → (6 : Int) ^ n ≤ 216 := fun n hn => by match n, hn with | 0, _ => decide | 1, _ => decide | 2, _ => decide | 3, _ => decide
  have h1 := h216 (cols.take i).length (by simp;omega)
  have h2 := h216 (cols.take (i + 1)).length (by simp;omega)
  rw [hp2] at hp3
  repeat' (first|refine Sp.h ?_|refine Lk.r rfl ?_|refine Rf.mk rfl ?_|refine xA ?_|refine xP ?_|refine xI ?_|(apply Ix.r;(focus assumption);(focus omega))|refine xO ?_|fail)
  rw [← hp2]
  exact PA.lp (i + 1) xE ⟨hin, by omega⟩
 ·have : i = cols.length := by omega
  subst this
  rw [List.take_length]
  repeat' (first|refine Sp.h ?_|refine Lk.r rfl ?_|refine Rf.mk rfl ?_|refine xB ?_|refine xN ?_|fail)
  exact Fin.p rfl rfl
end Go.Proofs.YtmjllbjfkafhdaaGreatDoor
namespace Go.CF
open Go
def delL {β : Type} : List (List Int × β) → List Int → List (List Int × β)
 | [], _ => []
 | (k, u) :: r, xs => if k = xs then r else (k, u) :: delL r xs
theorem del_spec {β : Type} : ∀ (es : List MapEntry) (kvs : List (List Int × β)) (xs : List Int) (i : Nat), es.length = kvs.length →
  (fE es (kvs.map (·.1)) xs i = none ∧ delL kvs xs = kvs) ∨ ∃ j e, fE es (kvs.map (·.1)) xs i = some (i + j, e) ∧ j < es.length ∧ delL kvs xs = kvs.eraseIdx j
 | [], [], xs, i, _ => .inl ⟨rfl, rfl⟩
 | [], _ :: _, _, _, h => by simp at h
 | _ :: _, [], _, _, h => by simp at h
 | e :: es, (k, v) :: kvs, xs, i, h => by
  by_cases hx : xs = k
  ·subst hx
   exact .inr ⟨0, e.val, by simp [fE], by simp, by simp [delL]⟩
  ·have hx' : ¬ k = xs := fun e => hx e.symm
   rcases del_spec es kvs xs (i + 1) (by simpa using h) with ⟨h1, h2⟩|⟨j, e', h1, h2, h3⟩
   ·refine .inl ⟨?_, ?_⟩
    ·simp only [List.map_cons, fE, hx, if_false];exact h1
    ·simp only [delL, hx', if_false, h2]
   ·refine .inr ⟨j + 1, e', ?_, by simp;omega, ?_⟩
    ·simp only [List.map_cons, fE, hx, if_false, h1];congr 2;omega
    ·simp only [delL, hx', if_false, h3, List.eraseIdx_cons_succ]
section
variable {Γ : Cx} {k : List KI} {e : EA} {o : List Res} {N : NA} {c : Cls} {d : Tmp} {ty : TypeId} {x y z : Operand} {t u : TypeId}
/-! ### delete -/
structure Mde (Γ : Cx) (c : Cls) (t : TypeId) (x y : Operand) (tys : Array TypeId) (ty : TypeId) (e : EA) (o : List Res) (N : NA) (m key : AV) : Prop where
 h : tys[0]? = some t → evA e x = some m → evA e y = some key → isLoud c = true → SA Γ c none (.call { callee := .builtin .delete, args := #[x, y], argTypes := tys }) ty e o N
instance {tys : Array TypeId} : Sp (SA Γ c none (.call { callee := .builtin .delete, args := #[x, y], argTypes := tys }) ty e o N) (Rf (isLoud c = true) (Lk tys[0]? fun t => Lk (evA e x) fun m => Lk (evA e y) fun key => Mde Γ c t x y tys ty e o N m key)) := ⟨fun ⟨hc, _, h0, _, h1, _, h2, h⟩ => h.h h0 h1 h2 hc⟩
theorem ld_del {P : Program} {tt : Nat → Option TI} {en : Nat → Bool} (ok : PgOK P tt en) {n : Nat} {env : Env} {h : Heap} {K : Value → Heap → Prop} {p : Nat × Nat × TI} {b : Nat} {xs : List Int} {kv : Value} {es : Array MapEntry} {cl : Nat} {ks : List (List Int)} {tys : Array TypeId} (h0 : tys[0]? = some t) (hp : mpE tt t = some p) (hf : flatI P 4 p.1 = true) (hl : xs.length = P.cellsOf p.1) (hfv : FV P p.1 xs kv)
  (hx : ev env x = some (.map (some b))) (hy : ev env y = some kv) (hb : h[b]? = some (.map es cl)) (ho : KeysOK P p.1 es.toList ks)
  (kn : fE es.toList ks xs 0 = none → K (.tuple #[]) (h.setIfInBounds b (.map es cl)))
  (ks' : ∀ j u, fE es.toList ks xs 0 = some (j, u) → K (.tuple #[]) (h.setIfInBounds b (.map (es.eraseIdxIfInBounds j) cl))) : Ld P n (.call { callee := .builtin .delete, args := #[x, y], argTypes := tys }) ty env h K := by
 intro a w oo next Q ha hw hoo hty hn
 obtain ⟨ti, t1, t2, t3⟩ := mpE_spec hp
 have hmu := (ok.ok _ _ t1).map t2
 have hb' : w.heap[b]? = some (.map es cl) := hw ▸ hb
 have hfk := find_flat hf hfv hl es.toList ks ho w
 have hck : ∀ bb, (Instr.checkKey bb 10000 p.1 kv).run P w = .ok () w := fun bb => check_flat bb 4 p.1 hf 10000 (by decide) xs kv hl hfv w
 have fin : ∀ es', (Builtin.delete_ tys ty #[.map (some b), kv]).run P w = .ok (.tuple #[]) { w with heap := w.heap.setIfInBounds b (.map es' cl) } → K (.tuple #[]) (h.setIfInBounds b (.map es' cl)) → oo.upon P a next Q ((execOp a.eval oo).run P w) := by
  intro es' hr hk
  have hrun : (execOp a.eval (mkOp (.call { callee := .builtin .delete, args := #[x, y], argTypes := tys }) ty)).run P w = .ok (.value (.tuple #[])) { w with heap := w.heap.setIfInBounds b (.map es' cl) } := by
   simp [mkOp, execOp, resolve, invoke, builtin, ha.ev hx, ha.ev hy, hr]
  rw [exec_mk, hoo, hty, hrun]
  exact hn _ _ (Same.of_set hb' rfl rfl) (by simp only [hw];exact hk)
 unfold Oper.wp
 cases hfe : fE es.toList ks xs 0 with
 | none =>
  rw [hfe] at hfk
  refine fin es ?_ (kn hfe)
  simp [Builtin.delete_, h0, run_underlying hmu, MapKept.run_getObj_map hb', hck, hfk, MapKept.run_setObj_map _ hb', Result.andThen]
 | some q =>
  obtain ⟨j, u⟩ := q
  rw [hfe] at hfk
  refine fin _ ?_ (ks' j u hfe)
  simp [Builtin.delete_, h0, run_underlying hmu, MapKept.run_getObj_map hb', hck, hfk, MapKept.run_setObj_map _ hb', Result.andThen]
theorem erase_map {α γ : Type} (f : α → γ) : ∀ (l : List α) (j : Nat), (l.eraseIdx j).map f = (l.map f).eraseIdx j
 | [], _ => by simp
 | _ :: _, 0 => by simp
 | a :: l, j + 1 => by simp [erase_map f l j]
theorem nodup_erase {l : List Nat} (h : l.Nodup) (j : Nat) : (l.eraseIdx j).Nodup := (List.eraseIdx_sublist l j).nodup h
/-! ### Ranges -/
def AV.top : AV := ⟨fun _ _ _ => True, fun _ h => h, fun _ h => h⟩
structure Rng (Γ : Cx) (c : Cls) (d : Tmp) (t : TypeId) (x : Operand) (ty : TypeId) (e : EA) (o : List Res) (N : NA) (m : AV) : Prop where
 h : evA e x = some m → isLoud c = true → SA Γ c (some d) (.range t x) ty e o N
instance : Sp (SA Γ c (some d) (.range t x) ty e o N) (Rf (isLoud c = true) (Lk (evA e x) fun m => Rng Γ c d t x ty e o N m)) := ⟨fun ⟨hc, _, h1, h⟩ => h.h h1 hc⟩
theorem left_perm {β : Type} {es : List MapEntry} {kvs : List (List Int × β)} (hn : (es.map (·.born)).Nodup) (hl : es.length = kvs.length) (seen : Array Nat) {i : Nat} {e : MapEntry} {p : List Int × β} (he : es[i]? = some e) (hp : kvs[i]? = some p) (hs : seen.contains e.born = false) :
  (p :: ((es.zip kvs).filter fun q => !(seen.push e.born).contains q.1.born).map (·.2)).Perm (((es.zip kvs).filter fun q => !seen.contains q.1.born).map (·.2)) := by
 induction es generalizing kvs i with
 | nil => simp at he
 | cons a es ih =>
  match kvs, hl with
  | q :: kvs, hl =>
   obtain ⟨h1, h2⟩ := List.nodup_cons.1 hn
   rw [List.zip_cons_cons]
   cases i with
   | zero =>
    simp only [List.getElem?_cons_zero, Option.some.injEq] at he hp
    subst he;subst hp
    have hrest : (es.zip kvs).filter (fun q => !(seen.push a.born).contains q.1.born) = (es.zip kvs).filter fun q => !seen.contains q.1.born := by
     refine List.filter_congr fun q hq => ?_
     have hne : q.1.born ≠ a.born := fun h => h1 (List.mem_map.2 ⟨q.1, (List.of_mem_zip hq).1, h⟩)
     have : (seen.push a.born).contains q.1.born = seen.contains q.1.born := by
      rw [Bool.eq_iff_iff];simp [hne]
     rw [this]
    rw [List.filter_cons_of_neg (by simp), List.filter_cons_of_pos (by simp only [hs, Bool.not_false]), hrest, List.map_cons]
   | succ i =>
    simp only [List.getElem?_cons_succ] at he hp
    have ih' := ih h2 (by simpa using hl) he hp
    have hne : a.born ≠ e.born := fun h => h1 (List.mem_map.2 ⟨e, List.mem_of_getElem? he, h.symm⟩)
    have hc : (seen.push e.born).contains a.born = seen.contains a.born := by
     rw [Bool.eq_iff_iff];simp [hne]
    by_cases hsa : seen.contains a.born = true
    ·rw [List.filter_cons_of_neg (by simp only [hc, hsa];simp), List.filter_cons_of_neg (by simp only [hsa];simp)]
     exact ih'
    ·have hsa : seen.contains a.born = false := by simpa using hsa
     rw [List.filter_cons_of_pos (by simp only [hc, hsa];simp), List.filter_cons_of_pos (by simp only [hsa];simp), List.map_cons, List.map_cons]
     exact (List.Perm.swap _ _ _).trans (ih'.cons q)
structure Nxi (Γ : Cx) (c : Cls) (d : Tmp) (x : Operand) (ty : TypeId) (e : EA) (o : List Res) (N : NA) (m : AV) : Prop where
 h : evA e x = some m → isLoud c = true → SA Γ c (some d) (.next x false) ty e o N
instance : Sp (SA Γ c (some d) (.next x false) ty e o N) (Rf (isLoud c = true) (Lk (evA e x) fun m => Nxi Γ c d x ty e o N m)) := ⟨fun ⟨hc, _, h1, h⟩ => h.h h1 hc⟩
structure NxK {β : Type} (rem : List (List Int × β)) (X : List Int × β → List (List Int × β) → Prop) (Y : Prop) : Prop where
 x : ∀ p rem', (p :: rem').Perm rem → X p rem'
 y : rem = [] → Y
end
end Go.CF
namespace Go.CF
open Go
def SetE (l : List ByteArray) (es : List MapEntry) : Prop := (∀ e ∈ es, ∃ s ∈ l, e.key = .string s ∧ e.val = .bool true) ∧ ∀ s ∈ l, ∃ e ∈ es, e.key = .string s
theorem SetE.key {l : List ByteArray} {es : List MapEntry} (h : SetE l es) : ∀ e ∈ es, MapKept.IsKey .string e.key := fun e he => by
 obtain ⟨s, _, h1, _⟩ := h.1 e he
 rw [h1];trivial
def setS (b : Nat) (l : List ByteArray) : Res :=
  ⟨fun h O _ => (∀ x, O x ↔ x = b) ∧ ∃ es cl, h[b]? = some (.map es cl) ∧ SetE l es.toList,
   by rintro h h' O G x ⟨ho, es, cl, h1, h2⟩;exact ⟨ho, es, cl, (x.same b (.inl ((ho b).2 rfl)) (Array.getElem?_eq_some_iff.1 h1).1).trans h1, h2⟩,
   by rintro h O G G' _ h2;exact h2,
   by rintro h O G ⟨ho, es, cl, h1, _⟩ y hy;rw [(ho y).1 hy];exact NC.of h1 rfl⟩
def AV.rs (l : List ByteArray) : AV :=
  ⟨fun h G v => ∃ b es cl, v = .map (some b) ∧ G b ∧ b < h.size ∧ h[b]? = some (.map es cl) ∧ SetE l es.toList,
   by rintro h h' G v x ⟨b, es, cl, h1, h2, h3, h4, h5⟩;exact ⟨b, es, cl, h1, h2, Nat.lt_of_lt_of_le h3 x.size, (x.same b h2 h3).trans h4, h5⟩,
   by rintro h G G' v x ⟨b, es, cl, h1, h2, h3⟩;exact ⟨b, es, cl, h1, x b h2, h3⟩⟩
instance {l : List ByteArray} : OneA (AV.rs l) := ⟨by rintro h G v ⟨b, _, _, rfl, _⟩;rfl⟩
theorem OX.set {P : Program} {β : Type} {o rest : List Res} {b : Nat} {kt : TypeId} {f : β → AV} (tk : Take o (mapR P b kt ([] : List (List Int × β)) f) rest) : OX o (setS b [] :: rest) := ⟨fun {h0 G0 O0 h G Os} c => by
 obtain ⟨O, os', c2⟩ := c.take tk
 obtain ⟨ho, es, cl, h1, h2, _⟩ := c2.own.1
 have he : es.toList = [] := by simpa using h2.len
 exact ⟨G, O :: os', c2.perm ⟨⟨ho, es, cl, h1, by rw [he];exact ⟨fun e h => (by cases h), fun s h => (by cases h)⟩⟩, c2.own.2⟩ (List.Perm.refl _), fun _ h => h⟩⟩
noncomputable instance (s : ByteArray) (l : List ByteArray) : Decidable (s ∈ l) := Classical.propDecidable _
structure TkS (o : List Res) (b : Nat) (k : List ByteArray → List Res → Prop) : Prop where
 ok : ∃ l rest, Take o (setS b l) rest ∧ k l rest
theorem TkS.r {o rest : List Res} {b : Nat} {k : List ByteArray → List Res → Prop} {l : List ByteArray} (h : Take o (setS b l) rest) (hk : k l rest) : TkS o b k := ⟨l, rest, h, hk⟩
section
variable {Γ : Cx} {k : List KI} {e : EA} {o : List Res} {N : NA} {c : Cls} {d : Tmp} {ty : TypeId} {x y z : Operand} {t u : TypeId}
theorem ld_mapS {P : Program} {tt : Nat → Option TI} {en : Nat → Bool} (ok : PgOK P tt en) {n : Nat} {env : Env} {h : Heap} {op : Op} {K : Value → Heap → Prop} {p : Nat × Nat × TI} {tk : TI} {b : Nat} {s : ByteArray} {es : Array MapEntry} {cl : Nat} {l : List ByteArray} (hop : op = .insert t x y z ∨ op = .mapUpdate t x y z) (hp : mpE tt t = some p) (hk : tt p.1 = some tk) (hs : tk.kind = .str)
  (hx : ev env x = some (.map (some b))) (hy : ev env y = some (.string s)) (hz : ev env z = some (.bool true)) (hb : h[b]? = some (.map es cl)) (ho : SetE l es.toList)
  (kn : ∀ es' cl' h', h' = h.setIfInBounds b (.map es' cl') → SetE (l ++ [s]) es'.toList → K undef h') : Ld P n op ty env h K := by
 intro a w oo next Q ha hw hoo hty hn
 obtain ⟨ti, t1, t2, t3⟩ := mpE_spec hp
 have hmu := (ok.ok _ _ t1).map t2
 have hku := (ok.ok _ _ hk).str hs
 have hb' : w.heap[b]? = some (.map es cl) := hw ▸ hb
 have hck : ∀ bb, (Instr.checkKey bb 10000 p.1 (.string s)).run P w = .ok () w := fun bb => MapKept.run_checkKey hku (d := .string) (k := .string s) trivial bb 9999
 have fin : ∀ es' cl', (Instr.mapUpdate t (.map (some b)) (.string s) (.bool true)).run P w = .ok () { w with heap := w.heap.setIfInBounds b (.map es' cl') } → SetE (l ++ [s]) es'.toList → oo.upon P a next Q ((execOp a.eval oo).run P w) := by
  intro es' cl' hr hset
  have hrun : (execOp a.eval (mkOp op ty)).run P w = .ok .skip { w with heap := w.heap.setIfInBounds b (.map es' cl') } := by
   rcases hop with rfl|rfl <;> simp [mkOp, execOp, ha.ev hx, ha.ev hy, ha.ev hz, hr]
  rw [exec_mk, hoo, hty, hrun]
  exact hn _ _ (Same.of_set hb' rfl rfl) (kn es' cl' _ (by simp only [hw]) hset)
 unfold Oper.wp
 rcases MapKept.findNow_spec (d := .string) (k := .string s) trivial es.toList 0 ho.key with ⟨h1, h2⟩|⟨j, e0, h1, h2, h3⟩
 ·have hfk := MapKept.run_findKey (w := w) hku h1
  refine fin (es.push { key := .string s, val := .bool true, born := cl }) (cl + 1) ?_ ⟨fun e he => ?_, fun q hq => ?_⟩
  ·simp only [Instr.mapUpdate, Sem.run_bind, run_underlying hmu, Result.andThen_ok, MapKept.run_getObj_map hb', hck, hfk, MapKept.run_setObj_map _ hb']
  ·rw [Array.toList_push, List.mem_append, List.mem_singleton] at he
   rcases he with he|rfl
   ·obtain ⟨q, hq, h9⟩ := ho.1 e he
    exact ⟨q, List.mem_append_left _ hq, h9⟩
   ·exact ⟨s, by simp, rfl, rfl⟩
  ·rw [Array.toList_push]
   rcases List.mem_append.1 hq with hq|hq
   ·obtain ⟨e, he, h9⟩ := ho.2 q hq
    exact ⟨e, List.mem_append_left _ he, h9⟩
   ·rw [List.mem_singleton.1 hq]
    exact ⟨_, List.mem_append_right _ (List.mem_singleton.2 rfl), rfl⟩
 ·have hfk := MapKept.run_findKey (w := w) hku h1
  rw [Nat.zero_add] at hfk
  have he0 : es[j]? = some e0 := by simpa using h2
  have hkeep : (Instr.keyThatStays (.string s) (.string s)).run P w = .ok (.string s) w := MapKept.run_keyThatStays (d := .string) (k := .string s) trivial
  refine fin (es.modify j fun e => { e with key := .string s, val := .bool true }) cl ?_ ⟨fun e he => ?_, fun q hq => ?_⟩
  ·simp only [Instr.mapUpdate, Sem.run_bind, run_underlying hmu, Result.andThen_ok, MapKept.run_getObj_map hb', hck, hfk, he0, Option.map_some, Option.getD_some, h3, hkeep, MapKept.run_setObj_map _ hb']
  ·obtain ⟨i, hi⟩ := List.getElem?_of_mem he
   rw [Array.toList_modify, List.getElem?_modify] at hi
   obtain ⟨e1, he1, rfl⟩ := Option.map_eq_some_iff.1 hi
   split
   ·exact ⟨s, by simp, rfl, rfl⟩
   ·obtain ⟨q, hq, h9⟩ := ho.1 e1 (List.mem_of_getElem? he1)
    exact ⟨q, List.mem_append_left _ hq, h9⟩
  ·have hmem : ∀ (i : Nat) (e1 : MapEntry), es.toList[i]? = some e1 → ∃ e ∈ (es.modify j fun e => { e with key := .string s, val := .bool true }).toList, e = if j = i then { e1 with key := .string s, val := .bool true } else e1 := fun i e1 hi => by
    refine ⟨_, List.mem_of_getElem? (i := i) ?_, rfl⟩
    rw [Array.toList_modify, List.getElem?_modify, hi]
    by_cases hji : j = i <;> simp [hji]
   rcases List.mem_append.1 hq with hq|hq
   ·obtain ⟨e, he, h9⟩ := ho.2 q hq
    obtain ⟨i, hi⟩ := List.getElem?_of_mem he
    obtain ⟨e', he', h10⟩ := hmem i e hi
    refine ⟨e', he', ?_⟩
    rw [h10]
    by_cases hji : j = i
    ·rw [if_pos hji]
     subst hji
     rw [h2] at hi;cases hi
     rw [← h9, h3]
    ·rw [if_neg hji];exact h9
   ·rw [List.mem_singleton.1 hq]
    obtain ⟨e', he', h10⟩ := hmem j e0 h2
    exact ⟨e', he', by rw [h10, if_pos rfl]⟩
instance (priority := 1100) {op : Op} {b : Nat} {s : ByteArray} : Sp (Mup Γ c op t x y z ty e o N (.val (.map (some b))) (.val (.string s)) (.val (.bool true))) (Lk (mpE Γ.tt t) fun p => Lk (Γ.tt p.1) fun tk => Rf (tk.kind = .str) (TkS o b fun l rest => N e (setS b (l ++ [s]) :: rest))) := ⟨fun ⟨p, hp, tk, hk, hs, l, rest, tak, hn⟩ => ⟨fun hop ha hb hv hc => ⟨fun env hh G Os cn => by
 obtain ⟨m, g1, rfl⟩ := cn.get ha
 obtain ⟨kv, g2, rfl⟩ := cn.get hb
 obtain ⟨vv, g3, rfl⟩ := cn.get hv
 obtain ⟨O, Os', cn2⟩ := cn.take tak
 obtain ⟨⟨ho, es, cl, hb0, hset⟩, _⟩ := cn2.hp.own
 have hlt := (Array.getElem?_eq_some_iff.1 hb0).1
 refine .ofLd hc (ld_mapS Γ.ok hop hp hk hs g1 g2 g3 hb0 hset fun es' cl' h' he hset' => ?_)
 subst he
 have hx : FPx (fun y => ¬ O y) hh (hh.setIfInBounds b (.map es' cl')) := ⟨by simp, fun y hy hl => by rw [Array.getElem?_setIfInBounds, if_neg (fun e9 => hy ((ho y).2 e9.symm))]⟩
 exact CN.mk (cn2.upd (R' := setS b (l ++ [s])) (O' := O) hx (fun y hy => ⟨by have := (cn2.hp.o O (by simp) y hy).1;simpa using this, .inl hy⟩) ⟨ho, es', cl', by simp [hlt], hset'⟩) hn⟩⟩⟩
theorem St.lookupS {γ : Type} [Membership Nat γ] {fp : γ} {P : Program} {tt : Nat → Option TI} {en : Nat → Bool} (pok : PgOK P tt en) {n : Nat} {env : Env} {h : Heap} {N' : Env → Heap → Prop} {p : Nat × Nat × TI} {tk : TI} {b : Nat} {s : ByteArray} {es : Array MapEntry} {cl : Nat} {l : List ByteArray} (hc : notPure c = true) (hp : mpE tt t = some p) (hk : tt p.1 = some tk) (hs : tk.kind = .str) (hz : p.2.2.zero = .bool false)
  (hx : ev env x = some (.map (some b))) (hy : ev env y = some (.string s)) (hb : h[b]? = some (.map es cl)) (ho : SetE l es.toList) (hnf : b ∉ fp) (k : N' ((d, .bool (decide (s ∈ l))) :: env) h) : St P n fp c (some d) (.lookup t x y false) ty env h N' := by
 refine .ofRd hc (v := .bool (decide (s ∈ l))) (fun a w ha hw => ?_) k
 obtain ⟨ti, t1, t2, t3⟩ := mpE_spec hp
 have hmu := (pok.ok _ _ t1).map t2
 have hku := (pok.ok _ _ hk).str hs
 have hlt := (Array.getElem?_eq_some_iff.1 hb).1
 have hb' : w.heap[b]? = some (.map es cl) := (hw.same b hlt hnf).trans hb
 have hck : ∀ bb, (Instr.checkKey bb 10000 p.1 (.string s)).run P w = .ok () w := fun bb => MapKept.run_checkKey hku (d := .string) (k := .string s) trivial bb 9999
 have hzr := (pok.ok _ _ t3).run_zero w
 rcases MapKept.findNow_spec (d := .string) (k := .string s) trivial es.toList 0 ho.key with ⟨h1, h2⟩|⟨j, e0, h1, h2, h3⟩
 ·have hfk := MapKept.run_findKey (w := w) hku h1
  have hn : s ∉ l := fun hm => by
   obtain ⟨e, he, h9⟩ := ho.2 s hm
   exact h2 e he h9
  rw [decide_eq_false hn]
  simp only [mkOp, execOp, ha.ev hx, ha.ev hy, Instr.lookup, Sem.run_bind, run_underlying hmu, Result.andThen_ok, MapKept.run_getObj_map hb', Sem.run_pure, hck, hfk, hzr, hz]
  rfl
 ·have hfk := MapKept.run_findKey (w := w) hku h1
  obtain ⟨q, hq, h5, h6⟩ := ho.1 e0 (List.mem_of_getElem? h2)
  have hm : s ∈ l := by
   rw [h3] at h5
   injection h5 with h5
   rw [h5];exact hq
  rw [decide_eq_true hm]
  simp only [mkOp, execOp, ha.ev hx, ha.ev hy, Instr.lookup, Sem.run_bind, run_underlying hmu, Result.andThen_ok, MapKept.run_getObj_map hb', Sem.run_pure, hck, hfk, h6]
  rfl
instance (priority := 1100) {b : Nat} {s : ByteArray} : Sp (Lup Γ c d t x y false ty e o N (.val (.map (some b))) (.val (.string s))) (NfV Γ.fp c (Lk (mpE Γ.tt t) fun p => Lk (Γ.tt p.1) fun tk => Rf (tk.kind = .str) (Rf (p.2.2.zero = .bool false) (TkS o b fun l _ => N ((d, .val (.bool (decide (s ∈ l)))) :: e) o)))) := ⟨fun ⟨hnf, p, hp, tk, hk, hs, hz, l, rest, tak, hn⟩ => ⟨fun ha hb hc => ⟨fun env hh G Os cn => by
 obtain ⟨m, g1, rfl⟩ := cn.get ha
 obtain ⟨kv, g2, rfl⟩ := cn.get hb
 obtain ⟨O, Os', cn2⟩ := cn.take tak
 obtain ⟨⟨ho, es, cl, hb0, hset⟩, _⟩ := cn2.hp.own
 exact St.unread hc (fun hc hnb => St.lookupS Γ.ok hc hp hk hs hz g1 g2 hb0 hset hnb (CN.mk (cn.put d (a := .val (.bool _)) rfl) hn)) (fun h => hnf h _)⟩⟩⟩
instance {l : List ByteArray} {s : ByteArray} : Sp (Lup Γ c d t x y false ty e o N (.rs l) (.val (.string s))) (Lk (mpE Γ.tt t) fun p => Lk (Γ.tt p.1) fun tk => Rf (tk.kind = .str) (Rf (p.2.2.zero = .bool false) (N ((d, .val (.bool (decide (s ∈ l)))) :: e) o))) := ⟨fun ⟨p, hp, tk, hk, hs, hz, hn⟩ => ⟨fun ha hb hc => ⟨fun env hh G Os cn => by
 obtain ⟨m, g1, b, es, cl, rfl, q1, q2, q3, q4⟩ := cn.get ha
 obtain ⟨kv, g2, rfl⟩ := cn.get hb
 exact St.unread hc (fun hc hnb => St.lookupS Γ.ok hc hp hk hs hz g1 g2 q3 q4 hnb (CN.mk (cn.put d (a := .val (.bool _)) rfl) hn)) (fun _ => cn.nf.not_mem q1)⟩⟩⟩
end
theorem CallG.fzS {P : Program} {f : FuncId} {asx : List AV} {own : List Res} {l : List ByteArray} (h : CallG P f asx own fun r o => ∃ b, r = .val (.map (some b)) ∧ o = [setS b l]) : CallG P f asx own fun q o => q = .rs l ∧ o = [] :=
 ⟨fun hh G Os vs h1 h2 ha => (h.run hh G Os vs h1 h2 ha).mono fun v' h' ⟨r, o, G', Os', ⟨b, e1, e2⟩, g1, g2⟩ => by
  subst e1;subst e2
  have g1 : v' = _ := g1
  subst g1
  match Os', g2.own with
  | O :: [], ho =>
   have c3 := g2.freeze
   obtain ⟨⟨h3, es, cl, h4, h5⟩, _⟩ := ho
   exact ⟨_, _, _, _, ⟨rfl, rfl⟩, ⟨b, es, cl, rfl, .inr ((h3 b).2 rfl), (Array.getElem?_eq_some_iff.1 h4).1, h4, h5⟩, c3⟩⟩
end Go.CF
namespace Go.Proofs.YtmjllbjfkafhdaaGreatDoor
open Go Go.CF
set_option maxRecDepth 20000
theorem byteAt_eq (s : ByteArray) (j : Nat) : byteAt s j = ((s.data[j]?.map fun b => (b.toNat : Int)).getD 0) := by
 unfold byteAt
 by_cases h : j < s.size
 ·rw [getElem?_pos s j h, getElem?_pos s.data j h];rfl
 ·rw [getElem?_neg s j h, getElem?_neg s.data j h]
theorem byteAt_ext (s : ByteArray) (a b i : Nat) (hb : b ≤ s.size) (h : a + i < b) : byteAt (s.extract a b) i = byteAt s (a + i) := by
 rw [byteAt_eq, byteAt_eq, ByteArray.data_extract, Array.getElem?_extract, if_pos (by have : s.data.size = s.size := rfl;omega)]
theorem ext_size (s : ByteArray) (a : Nat) : (s.extract a s.size).size = s.size - a := by simp
theorem ext_ext (s : ByteArray) (a b c d : Nat) (h2 : a + d ≤ b) : (s.extract a b).extract c d = s.extract (a + c) (a + d) := by
 apply ByteArray.ext
 simp only [ByteArray.data_extract, Array.extract_extract]
 congr 1
 omega
theorem ba_ext {a b : ByteArray} (h : a.toList = b.toList) : a = b := by
 rw [ByteArray.toList_eq, ByteArray.toList_eq] at h
 exact ByteArray.ext (Array.ext' h)
theorem hasS_mem {l : List ByteArray} {s : ByteArray} : HasS l s ↔ s ∈ l := ⟨fun ⟨q, hq, he⟩ => by rw [← ba_ext he];exact hq, fun h => ⟨s, h, rfl⟩⟩
noncomputable instance (x : Int) : Decidable (isWord x) := Classical.propDecidable _
theorem letter8_p (x : Int) : CallP Tryz.prog 283 [.val (.int .u8 x)] (.val (.bool (decide (isLetter x)))) := by
 refine CallA.of pg ord283 Tryz.func283 rfl Tryz.ntmps283 Tryz.results283 rfl fun h0 G0 O0 => ?_
 repeat' (first|refine Sp.h ?_|refine Lk.r rfl ?_|refine Rf.mk rfl ?_|refine xA ?_|refine xB ?_|(refine Bd.mk ?_ ?_ <;> intro _)|refine xN ?_|fail)
 all_goals refine Fin.p rfl (vb ?_)
 all_goals first
  | exact decide_eq_decide.2 (by unfold isLetter;omega)
  | exact (decide_eq_false (by unfold isLetter;omega)).symm
theorem digit8_p (x : Int) : CallP Tryz.prog 286 [.val (.int .u8 x)] (.val (.bool (decide (isDigit x)))) := by
 refine CallA.of pg ord286 Tryz.func286 rfl Tryz.ntmps286 Tryz.results286 rfl fun h0 G0 O0 => ?_
 repeat' (first|refine Sp.h ?_|refine Lk.r rfl ?_|refine Rf.mk rfl ?_|refine xA ?_|refine xB ?_|(refine Bd.mk ?_ ?_ <;> intro _)|refine xN ?_|fail)
 all_goals refine Fin.p rfl (vb ?_)
 all_goals first
  | exact decide_eq_decide.2 (by unfold isDigit;omega)
  | exact (decide_eq_false (by unfold isDigit;omega)).symm
theorem white8_p (x : Int) : CallP Tryz.prog 288 [.val (.int .u8 x)] (.val (.bool (decide (isWhite x)))) := by
 refine CallA.of pg ord288 Tryz.func288 rfl Tryz.ntmps288 Tryz.results288 rfl fun h0 G0 O0 => ?_
 repeat' (first|refine Sp.h ?_|refine Lk.r rfl ?_|refine Rf.mk rfl ?_|refine xA ?_|refine xB ?_|(refine Bd.mk ?_ ?_ <;> intro _)|refine xN ?_|fail)
 all_goals refine Fin.p rfl (vb ?_)
 all_goals first
  | exact decide_eq_decide.2 (by unfold isWhite;omega)
  | exact (decide_eq_true (by unfold isWhite;omega)).symm
theorem part_p (x : Int) : CallP Tryz.prog 285 [.val (.int .u8 x)] (.val (.bool (decide (isWord x)))) := by
 refine CallA.of pg ord285 Tryz.func285 rfl Tryz.ntmps285 Tryz.results285 rfl fun h0 G0 O0 => ?_
 by_cases hl : isLetter x
 ·repeat' (first|refine Sp.h ?_|refine Lk.r rfl ?_|refine Rf.mk rfl ?_|refine xA ?_|refine xN ?_|(apply Cl.p (letter8_p _);focus repeat' constructor)|(apply Cl.p (digit8_p _);focus repeat' constructor))
  all_goals exact Fin.p rfl (vb (decide_eq_true (show isWord x from .inl hl)).symm)
 ·by_cases hd : isDigit x
  ·repeat' (first|refine Sp.h ?_|refine Lk.r rfl ?_|refine Rf.mk rfl ?_|refine xA ?_|refine xB ?_|refine xN ?_|(apply Cl.p (letter8_p _);focus repeat' constructor)|(apply Cl.p (digit8_p _);focus repeat' constructor))
   all_goals exact Fin.p rfl (vb (decide_eq_true (show isWord x from .inr (.inl hd))).symm)
  ·repeat' (first|refine Sp.h ?_|refine Lk.r rfl ?_|refine Rf.mk rfl ?_|refine xB ?_|refine xN ?_|(apply Cl.p (letter8_p _);focus repeat' constructor)|(apply Cl.p (digit8_p _);focus repeat' constructor))
   refine Fin.p rfl (vb (decide_eq_decide.2 ?_))
   exact ⟨fun h => .inr (.inr h), fun h => (h.resolve_left hl).resolve_left hd⟩
theorem notnl_p (x : Int) : CallP Tryz.prog 303 [.val (.int .u8 x)] (.val (.bool (decide (x ≠ 10)))) := by
 refine CallA.of pg ord303 Tryz.func303 rfl Tryz.ntmps303 Tryz.results303 rfl fun h0 G0 O0 => ?_
 repeat' (first|refine Sp.h ?_|refine Lk.r rfl ?_|refine Rf.mk rfl ?_|refine xN ?_|fail)
 all_goals refine Fin.p rfl (vb ?_)
 all_goals exact decide_eq_decide.2 Iff.rfl
structure RunN (p : Int → Prop) (s : ByteArray) (n : Nat) : Prop where
 le : n ≤ s.size
 a : ∀ i, i < n → p (byteAt s i)
 b : n < s.size → ¬ p (byteAt s n)
theorem RunN.ex (p : Int → Prop) (s : ByteArray) : ∃ n, RunN p s n := by
 have key : ∀ m n : Nat, s.size - n = m → n ≤ s.size → (∀ i, i < n → p (byteAt s i)) → ∃ n, RunN p s n := by
  intro m
  induction m with
  | zero => exact fun n h1 h2 h3 => ⟨n, h2, h3, fun h => by omega⟩
  | succ m ih =>
   intro n h1 h2 h3
   by_cases hp : p (byteAt s n)
   ·refine ih (n + 1) (by omega) (by omega) fun i hi => ?_
    by_cases he : i = n
    ·subst he;exact hp
    ·exact h3 i (by omega)
   ·exact ⟨n, h2, h3, fun _ => hp⟩
 exact key _ 0 rfl (Nat.zero_le _) fun i h => by omega
theorem run_p {f : FuncId} {p : Int → Prop} [DecidablePred p] (hen : en f = true) (hf : ∀ x, CallP Tryz.prog f [.val (.int .u8 x)] (.val (.bool (decide (p x))))) {s : ByteArray} {n : Nat} (hs : s.size ≤ 1000000000) (h : RunN p s n) : CallP Tryz.prog 284 [sv s, .fn f []] (it n) := by
 refine CallA.of pg ord284 Tryz.func284 rfl Tryz.ntmps284 Tryz.results284 rfl fun h0 G0 O0 => ?_
 repeat' (first|refine Sp.h ?_|refine Lk.r rfl ?_|refine Rf.mk rfl ?_|fail)
 refine CA.loop (fun i : Nat => ⟨[(0, sv s), (1, .fn f []), (5, it i)], []⟩) (fun i => i ≤ n) (fun i => n - i) 0 xE (Nat.zero_le _) ?_
 intro i hi
 have hle := h.le
 by_cases hin : i < n
 ·have hp := h.a i hin
  repeat' (first|refine Sp.h ?_|refine Lk.r rfl ?_|refine Rf.mk rfl ?_|refine xA ?_|(apply Rf.mk;(focus assumption))|(apply Sx.r;(focus exact rfl);(focus first|omega|(simp;omega)))|refine xO ?_|(apply Cl.p (hf _);focus repeat' constructor))
  all_goals first
   | exact PA.lp (i + 1) xE ⟨hin, by omega⟩
   | exact absurd hp (by assumption)
 ·have : i = n := by omega
  subst this
  by_cases hsz : i < s.size
  ·have hp := h.b hsz
   repeat' (first|refine Sp.h ?_|refine Lk.r rfl ?_|refine Rf.mk rfl ?_|refine xA ?_|refine xB ?_|refine xN ?_|(apply Rf.mk;(focus assumption))|(apply Sx.r;(focus exact rfl);(focus first|omega|(simp;omega)))|(apply Cl.p (hf _);focus repeat' constructor))
   all_goals first
    | exact Fin.p rfl rfl
    | exact absurd (by assumption) hp
  ·repeat' (first|refine Sp.h ?_|refine Lk.r rfl ?_|refine Rf.mk rfl ?_|refine xB ?_|refine xN ?_|(apply Cl.p (hf _);(focus repeat' (first|fail))))
   exact Fin.p rfl rfl
theorem comm_run {s : ByteArray} {a b : Nat} (h : Comm s a b) : a ≤ s.size → RunN (fun x => x ≠ 10) (s.extract a s.size) (b - a) := by
 induction h with
 | @stop a h =>
  intro ha
  rw [Nat.sub_self]
  refine ⟨Nat.zero_le _, fun i hi => by omega, fun h1 h2 => h ⟨?_, ?_⟩⟩
  ·rw [ext_size] at h1;omega
  ·rw [ext_size] at h1
   rwa [byteAt_ext s a s.size 0 (Nat.le_refl _) (by omega)] at h2
 | @step a b h1 h2 h3 ih =>
  intro ha
  have ih := ih h1
  have hle := h3.le h1
  have hl := ih.le
  rw [ext_size] at hl
  have hsh : ∀ i, a + 1 + i < s.size → byteAt (s.extract (a + 1) s.size) i = byteAt (s.extract a s.size) (i + 1) := fun i hi => by
   rw [byteAt_ext s (a + 1) s.size i (Nat.le_refl _) hi, byteAt_ext s a s.size (i + 1) (Nat.le_refl _) (by omega)]
   congr 1;omega
  refine ⟨by rw [ext_size];omega, fun i hi => ?_, fun hb => ?_⟩
  ·cases i with
   | zero => rw [byteAt_ext s a s.size 0 (Nat.le_refl _) (by omega)];exact h2
   | succ i => rw [← hsh i (by omega)];exact ih.a i (by omega)
  ·rw [ext_size] at hb
   have h9 := ih.b (by rw [ext_size];omega)
   rw [hsh _ (by omega)] at h9
   rwa [show b - a = b - (a + 1) + 1 by omega]
theorem skip8_p {s : ByteArray} {j : Nat} (hs : s.size ≤ 1000000000) (h : Skip s 0 j) : CallP Tryz.prog 282 [sv s] (it j) := by
 have hnl : en 303 = true := rfl
 refine CallA.of pg ord282 Tryz.func282 rfl Tryz.ntmps282 Tryz.results282 rfl fun h0 G0 O0 => ?_
 repeat' (first|refine Sp.h ?_|refine Lk.r rfl ?_|refine Rf.mk rfl ?_|fail)
 refine CA.loop (fun a : Nat => ⟨[(0, sv s), (3, it a)], []⟩) (fun a => a ≤ s.size ∧ Skip s a j) (fun a => s.size - a) 0 xE ⟨Nat.zero_le _, h⟩ ?_
 rintro a ⟨ha, h⟩
 cases h with
 | stop hn =>
  by_cases hl : j < s.size
  ·have hw : ¬ isWhite (byteAt s j) := fun h9 => hn ⟨hl, .inl h9⟩
   have h35 : byteAt s j ≠ 35 := fun h9 => hn ⟨hl, .inr h9⟩
   repeat' (first|refine Sp.h ?_|refine Lk.r rfl ?_|refine Rf.mk rfl ?_|refine xA ?_|refine xB ?_|refine xN ?_|(apply Sx.r;(focus exact rfl);(focus first|omega|(simp;omega)))|(apply Cl.p (white8_p _);focus repeat' constructor))
   exact Fin.p rfl rfl
  ·have : j = s.size := by omega
   repeat' (first|refine Sp.h ?_|refine Lk.r rfl ?_|refine Rf.mk rfl ?_|refine xB ?_|refine xN ?_|(apply Cl.p (white8_p _);(focus repeat' (first|fail))))
   exact Fin.p rfl rfl
 | white h1 h2 h3 h4 =>
  repeat' (first|refine Sp.h ?_|refine Lk.r rfl ?_|refine Rf.mk rfl ?_|refine xA ?_|(apply Sx.r;(focus exact rfl);(focus first|omega|(simp;omega)))|refine xO ?_|(apply Cl.p (white8_p _);focus repeat' constructor))
  exact PA.lp (a + 1) xE ⟨⟨h1, h4⟩, by omega⟩
 | com h1 h2 h3 h4 =>
  rename_i b
  have hw : ¬ isWhite (byteAt s a) := by unfold isWhite;omega
  have hb := h3.lt h1 h2
  have hrp := run_p hnl notnl_p (s := s.extract a s.size) (by rw [ext_size];omega) (comm_run h3 ha)
  repeat' (first|refine Sp.h ?_|refine Lk.r rfl ?_|refine Rf.mk rfl ?_|refine xA ?_|refine xB ?_|(apply Jx.r;(focus exact rfl);(focus first|omega|(simp;done)|(simp;omega)))|(apply Sx.r;(focus exact rfl);(focus first|omega|(simp;omega)))|refine xO ?_|(apply Cl.p (white8_p _);focus repeat' constructor)|(apply Cl.p (hrp);focus repeat' constructor))
  rw [show (a : Int) + ((b - a : Nat) : Int) = (b : Nat) by omega]
  exact PA.lp b xE ⟨⟨hb.2, h4⟩, by omega⟩
end Go.Proofs.YtmjllbjfkafhdaaGreatDoor
namespace Go.CF
open Go
section
variable {Γ : Cx} {k : List KI} {e : EA} {o : List Res} {N : NA} {c : Cls} {d : Tmp} {ty : TypeId} {x y z : Operand} {t u : TypeId} {kk : IntKind} {i j : Int}
instance : Sp (Ap2 Γ c d (.binOp .and t x y u) ty e o N x (.val (.int kk i)) y (.val (.int kk j))) (N ((d, .val (.int kk (bits .and kk i j))) :: e) o) := ⟨fun hn => puv2 hn fun _ _ _ h h' k => .ofPu (pu_int h h' fun w => by rw [binOp_and];rfl) k⟩
instance : Sp (Ap2 Γ c d (.binOp .or t x y u) ty e o N x (.val (.int kk i)) y (.val (.int kk j))) (N ((d, .val (.int kk (bits .or kk i j))) :: e) o) := ⟨fun hn => puv2 hn fun _ _ _ h h' k => .ofPu (pu_int h h' fun w => by rw [binOp_or];rfl) k⟩
instance : Sp (Ap1 Γ c d (.unOp .xor t x) ty e o N x (.val (.int .i64 i))) (N ((d, .val (.int .i64 (bits .xor .i64 (-1) i))) :: e) o) := ⟨fun hn => puv1 (fun _ _ => rfl) hn fun _ _ _ h k => .ofPu (fun a w ha => by simp only [mkOp, execOp, ha.ev h];rfl) k⟩
structure ExtF (P : Program) (f : FuncId) (g : Array Value → Sem Value) : Prop where
 ok : ∃ fn, P.funcs[f]? = some fn ∧ (fn.name == "runtime.NumGoroutine") = false ∧ fn.body.isNone = true ∧ Extern.findNext fn = none ∧ Extern.find fn = some g
structure IxB (a b : AV) (M : Int → Prop) : Prop where
 ok : ∃ s q, a = .val (.string s) ∧ b = .val (.int .u8 q) ∧ M (Go.Lib.indexByte s.data.toList q.toNat.toUInt8)
instance {s : ByteArray} {q : Int} {M : Int → Prop} : Sp (IxB (.val (.string s)) (.val (.int .u8 q)) M) (M (Go.Lib.indexByte s.data.toList q.toNat.toUInt8)) := ⟨fun h => ⟨s, q, rfl, rfl, h⟩⟩
theorem SA.idxb {f : FuncId} (hf : ExtF Γ.P f Extern.BytealgIndexByte.indexByte) {tys : Array TypeId} (hc : isLoud c = true) (h : Lk (evA e x) fun a => Lk (evA e y) fun b => IxB a b fun r => N ((d, .val (.int .i64 r)) :: e) o) :
  SA Γ c (some d) (.call { callee := .value (.func f), args := #[x, y], argTypes := tys }) ty e o N := by
 obtain ⟨a, ha, b, hb, s, q, rfl, rfl, hn⟩ := h
 refine ⟨fun env hh G Os cn => ?_⟩
 obtain ⟨w1, g1, hw1⟩ := cn.get ha
 have hw1 : w1 = _ := hw1
 subst hw1
 obtain ⟨w2, g2, hw2⟩ := cn.get hb
 have hw2 : w2 = _ := hw2
 subst hw2
 obtain ⟨fn, hf1, hf2, hf3, hf4, hf5⟩ := hf.ok
 refine St.ofLd hc fun a w oo next Q ha' hwh hop hty hnn => ?_
 have hrun : (execOp a.eval (mkOp (.call { callee := .value (.func f), args := #[x, y], argTypes := tys }) ty)).run Γ.P w = .ok (.value (.int .i64 (Go.Lib.indexByte s.data.toList q.toNat.toUInt8))) w := by
  have h1 := run_callFunc_extern hf1 hf2 hf3 hf4 hf5 #[.string s, .int .u8 q] w
  rw [Go.Lib.run_indexByteString] at h1
  simp [mkOp, execOp, resolve, invoke, Deferred.ofValue, ha'.ev g1, ha'.ev g2, ha'.ev (x := .func f) (v := .func (.func f) #[] #[]) rfl, h1]
 unfold Oper.wp
 rw [exec_mk, hop, hty, hrun]
 exact hnn _ w (Same.refl w) (hwh ▸ CN.mk (cn.put d (a := .val _) rfl) hn)
end
end Go.CF
namespace Go.Proofs.YtmjllbjfkafhdaaGreatDoor
open Go Go.CF
set_option maxRecDepth 20000
def spB (s : ByteArray) (i : Nat) : Bool := isWsN (byteAt s i).toNat
theorem byteAt_rg (s : ByteArray) (i : Nat) : 0 ≤ byteAt s i ∧ byteAt s i ≤ 255 := by
 unfold byteAt
 cases s[i]? with
 | none => simp
 | some b => simp;have := b.toNat_lt;omega
theorem or_lt {x y : Int} (hx : 0 ≤ x ∧ x < 128) (hy : 0 ≤ y ∧ y < 128) : 0 ≤ bits .or .u8 x y ∧ bits .or .u8 x y < 128 := by
 obtain ⟨a, rfl⟩ := Int.eq_ofNat_of_zero_le hx.1
 obtain ⟨b, rfl⟩ := Int.eq_ofNat_of_zero_le hy.1
 have h1 : (BitVec.ofInt 8 (a : Int) ||| BitVec.ofInt 8 (b : Int)).toNat = a ||| b := by
  rw [BitVec.ofInt_natCast, BitVec.ofInt_natCast, BitVec.toNat_or, BitVec.toNat_ofNat, BitVec.toNat_ofNat, Nat.mod_eq_of_lt (by omega), Nat.mod_eq_of_lt (by omega)]
 have h2 : a ||| b < 128 := Nat.or_lt_two_pow (n := 7) (by omega) (by omega)
 have h3 : bits .or .u8 (a : Int) (b : Int) = ((a ||| b : Nat) : Int) := by
  show IntKind.wrap .u8 ((BitVec.ofInt 8 (a : Int) ||| BitVec.ofInt 8 (b : Int)).toNat : Int) = _
  rw [h1]
  exact wrap_u8 (by omega)
 rw [h3]
 omega
def cntW (s : ByteArray) : Nat → Nat
 | 0 => 0
 | i + 1 => cntW s i + (bif spB s i then 0 else match i with | 0 => 1|j + 1 => bif spB s j then 1 else 0)
def wasW (s : ByteArray) : Nat → Int
 | 0 => 1
 | i + 1 => bif spB s i then 1 else 0
theorem wasW_cases (s : ByteArray) (i : Nat) : wasW s i = 0 ∨ wasW s i = 1 := by
 cases i with
 | zero => exact .inr rfl
 | succ i => simp only [wasW];cases spB s i <;> simp
theorem bits_w {w sp : Int} (hw : w = 0 ∨ w = 1) (hs : sp = 0 ∨ sp = 1) : bits .and .i64 w (bits .xor .i64 (-1) sp) = if w = 1 ∧ sp = 0 then 1 else 0 := by
 rcases hw with rfl|rfl <;> rcases hs with rfl|rfl <;> decide
theorem cntW_succ (s : ByteArray) (i : Nat) : (cntW s (i + 1) : Int) = cntW s i + bits .and .i64 (wasW s i) (bits .xor .i64 (-1) (bif spB s i then 1 else 0)) := by
 rw [bits_w (wasW_cases s i) (by cases spB s i <;> simp)]
 simp only [cntW]
 cases hs : spB s i
 ·simp only [cond_false, and_true]
  cases i with
  | zero => simp [wasW]
  | succ j => simp only [wasW];rcases Bool.eq_false_or_eq_true (spB s j) with h|h <;> simp [h]
 ·simp
theorem cntW_le (s : ByteArray) : ∀ i, cntW s i ≤ i := by
 intro i
 induction i with
 | zero => exact Nat.le_refl _
 | succ i ih =>
  simp only [cntW]
  have : (bif spB s i then 0 else match i with | 0 => 1|j + 1 => bif spB s j then 1 else 0) ≤ 1 := by
   cases spB s i
   ·simp only [cond_false]
    split
    ·exact Nat.le_refl _
    ·rename_i j;cases spB s j <;> simp
   ·simp
  omega
structure SkS (s : ByteArray) (a j : Nat) : Prop where
 le : a ≤ j ∧ j ≤ s.size
 a : ∀ i, a ≤ i → i < j → spB s i = true
 b : j < s.size → spB s j = false
inductive Fld (s : ByteArray) : Nat → Nat → List (Nat × Nat) → Prop where
 | done {start : Nat} : ¬ start < s.size → Fld s s.size start []
 | last {start : Nat} : start < s.size → Fld s s.size start [(start, s.size)]
 | word {i start : Nat} {out : List (Nat × Nat)} : i < s.size → spB s i = false → Fld s (i + 1) start out → Fld s i start out
 | cut {i start j : Nat} {out : List (Nat × Nat)} : i < s.size → spB s i = true → SkS s (i + 1) j → Fld s j j out → Fld s i start ((start, i) :: out)
def skC (s : ByteArray) : Nat → Nat → Nat
 | 0, a => a
 | f + 1, a => bif Nat.blt a s.size && spB s a then skC s f (a + 1) else a
theorem blt_no {a b : Nat} (h : ¬ a < b) : Nat.blt a b = false := by
 rw [Bool.eq_false_iff]
 intro h2
 rw [Nat.blt_eq] at h2
 exact h h2
theorem skC_ok {s : ByteArray} : ∀ (f a : Nat), s.size - a ≤ f → a ≤ s.size → SkS s a (skC s f a) := by
 intro f
 induction f with
 | zero => exact fun a h1 h2 => ⟨⟨Nat.le_refl _, h2⟩, fun i h3 h4 => by simp only [skC] at h4;omega, fun h => by simp only [skC] at h;omega⟩
 | succ f ih =>
  intro a h1 h2
  simp only [skC]
  by_cases hc : (Nat.blt a s.size && spB s a) = true
  ·rw [hc]
   show SkS s a (skC s f (a + 1))
   simp only [Bool.and_eq_true, Nat.blt_eq] at hc
   have := ih (a + 1) (by omega) (by omega)
   refine ⟨⟨by have := this.le.1;omega, this.le.2⟩, fun i h3 h4 => ?_, this.b⟩
   by_cases hi : i = a
   ·subst hi;exact hc.2
   ·exact this.a i (by omega) h4
  ·have hc2 : (Nat.blt a s.size && spB s a) = false := by rw [Bool.eq_false_iff];exact hc
   rw [hc2]
   show SkS s a a
   refine ⟨⟨Nat.le_refl _, h2⟩, fun i h3 h4 => by omega, fun h => ?_⟩
   cases hs : spB s a
   ·rfl
   ·exact absurd (by simp [hs, h]) hc
def fldC (s : ByteArray) : Nat → Nat → Nat → List (Nat × Nat)
 | 0, _, _ => []
 | f + 1, i, start => bif Nat.blt i s.size then (bif spB s i then (start, i) :: fldC s f (skC s s.size (i + 1)) (skC s s.size (i + 1)) else fldC s f (i + 1) start) else bif Nat.blt start s.size then [(start, s.size)] else []
theorem fldC_ok {s : ByteArray} : ∀ (f i start : Nat), s.size - i < f → i ≤ s.size → Fld s i start (fldC s f i start) := by
 intro f
 induction f with
 | zero => intro i start h;omega
 | succ f ih =>
  intro i start h1 h2
  simp only [fldC]
  by_cases hi : i < s.size
  ·rw [show Nat.blt i s.size = true by simpa using hi, cond_true]
   cases hs : spB s i
   ·exact .word hi hs (ih _ _ (by omega) (by omega))
   ·have hk := skC_ok (s := s) s.size (i + 1) (by omega) (by omega)
    have h3 := hk.le
    exact .cut hi hs hk (ih _ _ (by omega) h3.2)
  ·have : i = s.size := by omega
   subst this
   rw [blt_no (by omega), cond_false]
   by_cases hst : start < s.size
   ·rw [show Nat.blt start s.size = true by simpa using hst];exact .last hst
   ·rw [blt_no hst];exact .done hst
theorem Fld.le {s : ByteArray} {i start : Nat} {out : List (Nat × Nat)} (h : Fld s i start out) : i ≤ s.size := by
 cases h with
 | done => exact Nat.le_refl _
 | last => exact Nat.le_refl _
 | word h => omega
 | cut h => omega
def wrdF (s : ByteArray) (out : List (Nat × Nat)) : List ByteArray := out.map fun p => s.extract p.1 p.2
theorem repl_set {α : Type} (acc : List α) (m : Nat) (z y : α) : (acc ++ List.replicate (m + 1) z).set acc.length y = (acc ++ [y]) ++ List.replicate m z := by
 rw [List.set_append_right _ _ (Nat.le_refl _), Nat.sub_self, List.replicate_succ, List.set_cons_zero, List.append_assoc]
 rfl
theorem repl_get {α : Type} (acc : List α) (m : Nat) (z : α) : (acc ++ List.replicate (m + 1) z)[acc.length]? = some z := by
 rw [List.getElem?_append_right (Nat.le_refl _), Nat.sub_self, List.replicate_succ]
 rfl
theorem amb0 : 0 ∈ ambG Tryz.prog := by
 have h : ambG Tryz.prog = [0] := by kernel_rfl
 rw [h];simp
set_option maxHeartbeats 8000000 in
theorem fields_a (s : ByteArray) (i0 : Nat) (out : List (Nat × Nat)) (h7 : ∀ i, i < s.size → byteAt s i < 128) (hs : s.size ≤ 1000) (hk0 : SkS s 0 i0) (hf0 : Fld s i0 i0 out) (hn : cntW s s.size = out.length) :
  CallG Tryz.prog 302 [sv s] [] fun r own => ∃ v, r = .ow v ∧ own = [arrR v 9 1 (wrdF s out) strC] := by
 have hg0 := amb0
 have htb : ∀ k, k < 256 → (ascVs.map AV.val)[k]? = some (.val (.int .u8 (bif isWsN k then 1 else 0))) := fun k hk => ascVs_at hk
 obtain ⟨asc, hasc⟩ : ∃ asc, asc = ascVs.map AV.val := ⟨_, rfl⟩
 rw [← hasc] at htb
 refine CallG.of pg ord302 Tryz.func302 rfl Tryz.ntmps302 Tryz.results302 rfl fun h0 G0 O0 ga => ?_
 repeat' (first|refine Sp.h ?_|refine Lk.r rfl ?_|refine Rf.mk rfl ?_|fail)
 refine CA.loop (fun x : Nat × Int => ⟨[(0, sv s), (3, it (cntW s x.1 : Nat)), (4, it (wasW s x.1)), (5, .val (.int .u8 x.2)), (6, it x.1)], []⟩) (fun x => x.1 ≤ s.size ∧ 0 ≤ x.2 ∧ x.2 < 128) (fun x => s.size - x.1) (0, 0) xE ⟨Nat.zero_le _, by simp, by simp⟩ ?_
 rintro ⟨i, b⟩ ⟨hi, hb1, hb2⟩
 simp only at hi hb1 hb2
 simp only
 by_cases hin : i < s.size
 ·have hr := byteAt_rg s i
  have h9 := h7 i hin
  have hbq : byteAt s i = (((byteAt s i).toNat : Nat) : Int) := by omega
  have hcs := cntW_succ s i
  have hcl := cntW_le s i
  have hcl2 := cntW_le s (i + 1)
  have hob := or_lt ⟨hb1, hb2⟩ ⟨hr.1, h9⟩
  have ht := htb (0 + (byteAt s i).toNat) (by omega)
  rw [Nat.zero_add] at ht
  have hws : wasW s (i + 1) = bif spB s i then 1 else 0 := rfl
  cases hsp : spB s i
  all_goals
   have hsp' : isWsN (byteAt s i).toNat = _ := hsp
   rw [hsp] at hcs hws
   rw [hsp'] at ht
   simp only [cond_true, cond_false] at ht hcs hws
   have ht' := ht
   rw [← Nat.zero_add (byteAt s i).toNat] at ht'
   repeat' (first|(apply Lk.r;(focus with_reducible exact ht'))|(apply Jx.r;(focus with_reducible exact hbq);(focus omega))|(apply Ldp.glob;(focus exact ga);(focus exact hg0);(focus exact hasc))|refine Sp.h ?_|refine Lk.r rfl ?_|refine Rf.mk rfl ?_|refine xA ?_|(apply Sx.r;(focus exact rfl);(focus first|omega|(simp;omega)))|refine xO ?_|(apply Cvk.i64;(focus rfl);(focus omega))|fail)
   rw [← hcs]
   refine PA.lp (i + 1, _) ?_ ⟨⟨hin, hob.1, hob.2⟩, by simp only;omega⟩
   simp only [hws]
   exact xE
 have hie : i = s.size := by omega
 subst hie
 have hcl := cntW_le s s.size
 -- what the table says of a byte
 have htab : ∀ q, q < s.size → byteAt s q = (((byteAt s q).toNat : Nat) : Int) ∧ byteAt s q < 128 ∧ asc[0 + (byteAt s q).toNat]? = some (.val (.int .u8 (bif spB s q then 1 else 0))) := fun q hq => by
  have hr := byteAt_rg s q
  have h9 := h7 q hq
  refine ⟨by omega, h9, ?_⟩
  rw [Nat.zero_add, htb _ (by omega)]
  rfl
 repeat' (first|refine Sp.h ?_|refine Lk.r rfl ?_|refine Rf.mk rfl ?_|refine xB ?_|refine xN ?_|refine Rf.mk ⟨rfl, rfl, rfl⟩ ?_|(apply Jx.r;(focus exact rfl);(focus first|omega|(simp;done)|(simp;omega)))|fail)
 refine MkS.r strC ⟨#[]⟩ rfl ?_
 refine ⟨fun v => ?_⟩
 repeat' (first|refine Sp.h ?_|refine Lk.r rfl ?_|refine Rf.mk rfl ?_|fail)
 refine CA.loop (fun i : Nat => ⟨[(0, sv s), (9, .ow v), (10, it (0 : Nat)), (12, it i)], [arrR v 9 1 (List.replicate (cntW s s.size) ⟨#[]⟩) strC]⟩) (fun i => i ≤ i0) (fun i => i0 - i) 0 xE (Nat.zero_le _) ?_
 intro i hi1
 have hi0 := hk0.le.2
 by_cases hin : i < i0
 ·obtain ⟨g1, g2, g3⟩ := htab i (by omega)
  rw [hk0.a i (Nat.zero_le _) hin, cond_true] at g3
  repeat' (first|(apply Lk.r;(focus with_reducible exact g3))|(apply Jx.r;(focus with_reducible exact g1);(focus omega))|(apply Ldp.glob;(focus exact ga);(focus exact hg0);(focus exact hasc))|refine Sp.h ?_|refine Lk.r rfl ?_|refine Rf.mk rfl ?_|refine xA ?_|refine xB ?_|(apply Sx.r;(focus exact rfl);(focus first|omega|(simp;omega)))|refine xO ?_|fail)
  exact PA.lp (i + 1) xE ⟨hin, by omega⟩
 have hie : i = i0 := by omega
 subst hie
 have hcase : (i < s.size ∧ byteAt s i = (((byteAt s i).toNat : Nat) : Int) ∧ byteAt s i < 128 ∧ asc[0 + (byteAt s i).toNat]? = some (.val (.int .u8 0))) ∨ ¬ i < s.size := by
  by_cases hsz : i < s.size
  ·obtain ⟨g1, g2, g3⟩ := htab i hsz
   rw [hk0.b hsz, cond_false] at g3
   exact .inl ⟨hsz, g1, g2, g3⟩
  ·exact .inr hsz
 have g1 : byteAt s i = byteAt s i := rfl
 have g3 : asc[0]? = asc[0]? := rfl
 rcases hcase with ⟨hsz, g1, g2, g3⟩|hsz
 all_goals
  repeat' (first|(apply Lk.r;(focus with_reducible exact g3))|(apply Jx.r;(focus with_reducible exact g1);(focus omega))|(apply Ldp.glob;(focus exact ga);(focus exact hg0);(focus exact hasc))|refine Sp.h ?_|refine Lk.r rfl ?_|refine Rf.mk rfl ?_|refine xA ?_|refine xB ?_|(apply Sx.r;(focus exact rfl);(focus first|omega|(simp;omega)))|fail)
  refine CA.loop (fun x : Nat × Nat × List ByteArray × List (Nat × Nat) => ⟨[(0, sv s), (9, .ow v), (10, it (x.2.2.1.length : Nat)), (11, it x.2.1), (12, it x.1)], [arrR v 9 1 (x.2.2.1 ++ List.replicate x.2.2.2.length ⟨#[]⟩) strC]⟩) (fun x => Fld s x.1 x.2.1 x.2.2.2 ∧ x.2.1 ≤ x.1 ∧ x.2.2.1 ++ wrdF s x.2.2.2 = wrdF s out ∧ x.2.2.1.length ≤ x.1) (fun x => s.size - x.1) (i, i, [], out) ?_ ⟨hf0, Nat.le_refl _, rfl, Nat.zero_le _⟩ ?_
  ·simp only [List.nil_append, ← hn, List.length_nil]
   exact xE
  rintro ⟨i, start, acc, out'⟩ ⟨hF, hst, hacc, hal⟩
  simp only at hF hst hacc hal
  simp only
  have hile := hF.le
  cases hF with
  | done hns =>
   repeat' (first|refine Sp.h ?_|refine Lk.r rfl ?_|refine Rf.mk rfl ?_|refine xB ?_|refine xN ?_|fail)
   simp only [List.length_nil, List.replicate_zero, List.append_nil]
   simp only [wrdF, List.map_nil, List.append_nil] at hacc
   rw [hacc]
   exact ⟨_, _, .one (.same (.z)), _, rfl, rfl⟩
  | last hs2 =>
   rw [show [(start, s.size)].length = 0 + 1 from rfl]
   have hix := repl_get acc 0 (⟨#[]⟩ : ByteArray)
   repeat' (first|refine Sp.h ?_|refine Lk.r rfl ?_|refine Rf.mk rfl ?_|refine xA ?_|refine xB ?_|refine xU ?_|refine xI ?_|refine xJ ?_|refine xV ?_|refine xN ?_|(apply Jx.r;(focus exact rfl);(focus first|omega|(simp;done)|(simp;omega)))|refine Up.r rfl ?_|fail)
   rw [repl_set]
   simp only [List.replicate_zero, List.append_nil]
   simp only [wrdF, List.map_cons, List.map_nil] at hacc
   rw [hacc]
   exact ⟨_, _, .one (.same (.z)), _, rfl, rfl⟩
  | word hi2 hsp hF2 =>
   obtain ⟨g1, g2, g3⟩ := htab i hi2
   rw [hsp, cond_false] at g3
   repeat' (first|(apply Lk.r;(focus with_reducible exact g3))|(apply Jx.r;(focus with_reducible exact g1);(focus omega))|(apply Ldp.glob;(focus exact ga);(focus exact hg0);(focus exact hasc))|refine Sp.h ?_|refine Lk.r rfl ?_|refine Rf.mk rfl ?_|refine xA ?_|(apply Sx.r;(focus exact rfl);(focus first|omega|(simp;omega)))|refine xO ?_|fail)
   exact PA.lp (i + 1, start, acc, out') xE ⟨⟨hF2, by simp only;omega, hacc, by simp only;omega⟩, by simp only;omega⟩
  | @cut _ _ j out2 hi2 hsp hsk hF2 =>
   obtain ⟨g1, g2, g3⟩ := htab i hi2
   rw [hsp, cond_true] at g3
   rw [show ((start, i) :: out2).length = out2.length + 1 from rfl]
   have hix := repl_get acc out2.length (⟨#[]⟩ : ByteArray)
   repeat' (first|(apply Lk.r;(focus with_reducible exact g3))|(apply Jx.r;(focus with_reducible exact g1);(focus omega))|(apply Ldp.glob;(focus exact ga);(focus exact hg0);(focus exact hasc))|refine Sp.h ?_|refine Lk.r rfl ?_|refine Rf.mk rfl ?_|refine xA ?_|refine xB ?_|refine xU ?_|refine xI ?_|refine xJ ?_|refine xV ?_|(apply Jx.r;(focus exact rfl);(focus first|omega|(simp;done)|(simp;omega)))|refine Up.r rfl ?_|(apply Sx.r;(focus exact rfl);(focus first|omega|(simp;omega)))|refine xO ?_|fail)
   rw [repl_set]
   refine CA.loop (fun k : Nat => ⟨[(0, sv s), (9, .ow v), (10, it ((acc.length : Nat) + 1)), (12, it k)], [arrR v 9 1 (acc ++ [s.extract start i] ++ List.replicate out2.length ⟨#[]⟩) strC]⟩) (fun k => i + 1 ≤ k ∧ k ≤ j) (fun k => j - k) (i + 1) xE ⟨Nat.le_refl _, hsk.le.1⟩ ?_
   rintro k ⟨hk1, hk2⟩
   have hj2 := hsk.le.2
   by_cases hkj : k < j
   ·obtain ⟨g1, g2, g3⟩ := htab k (by omega)
    rw [hsk.a k hk1 hkj, cond_true] at g3
    repeat' (first|(apply Lk.r;(focus with_reducible exact g3))|(apply Jx.r;(focus with_reducible exact g1);(focus omega))|(apply Ldp.glob;(focus exact ga);(focus exact hg0);(focus exact hasc))|refine Sp.h ?_|refine Lk.r rfl ?_|refine Rf.mk rfl ?_|refine xA ?_|refine xB ?_|(apply Sx.r;(focus exact rfl);(focus first|omega|(simp;omega)))|refine xO ?_|fail)
    exact PA.lp (k + 1) xE ⟨⟨by omega, hkj⟩, by omega⟩
   ·have : k = j := by omega
    subst this
    have hgo : Fld s k k out2 ∧ k ≤ k ∧ (acc ++ [s.extract start i]) ++ wrdF s out2 = wrdF s out ∧ (acc ++ [s.extract start i]).length ≤ k := by
     refine ⟨hF2, Nat.le_refl _, ?_, by simp;omega⟩
     rw [← hacc]
     simp [wrdF]
    have hcase : (k < s.size ∧ byteAt s k = (((byteAt s k).toNat : Nat) : Int) ∧ byteAt s k < 128 ∧ asc[0 + (byteAt s k).toNat]? = some (.val (.int .u8 0))) ∨ ¬ k < s.size := by
     by_cases hsz : k < s.size
     ·obtain ⟨g1, g2, g3⟩ := htab k hsz
      rw [hsk.b hsz, cond_false] at g3
      exact .inl ⟨hsz, g1, g2, g3⟩
     ·exact .inr hsz
    rcases hcase with ⟨hsz, g1, g2, g3⟩|hsz
    all_goals
     repeat' (first|(apply Lk.r;(focus with_reducible exact g3))|(apply Jx.r;(focus with_reducible exact g1);(focus omega))|(apply Ldp.glob;(focus exact ga);(focus exact hg0);(focus exact hasc))|refine Sp.h ?_|refine Lk.r rfl ?_|refine Rf.mk rfl ?_|refine xA ?_|refine xB ?_|(apply Sx.r;(focus exact rfl);(focus first|omega|(simp;omega)))|fail)
     refine PA.lp (k, k, acc ++ [s.extract start i], out2) ?_ ⟨hgo, by simp only;omega⟩
     simp only [List.length_append, List.length_singleton]
     exact xE
end Go.Proofs.YtmjllbjfkafhdaaGreatDoor
namespace Go.Proofs.YtmjllbjfkafhdaaGreatDoor
open Go Go.CF
set_option maxRecDepth 20000
def kwS : ByteArray := ⟨#[115, 111, 114, 116, 32, 114, 101, 108, 97, 116, 105, 111, 110, 32, 99, 111, 117, 110, 116, 101, 114, 32, 115, 101, 116, 32, 114, 101, 103, 105, 115, 116, 101, 114, 32, 105, 110, 118, 97, 114, 105, 97, 110, 116, 32, 111, 112, 101, 114, 97, 116, 105, 111, 110, 32, 107, 101, 121, 32, 114, 101, 102, 101, 114, 101, 110, 99, 101, 32, 116, 111, 32, 99, 111, 117, 110, 116, 32, 97, 99, 121, 99, 108, 105, 99, 32, 97, 108, 108, 32, 115, 117, 109, 32, 105, 110, 32, 97, 100, 100, 119, 105, 110, 115, 32, 114, 101, 109, 111, 118, 101, 119, 105, 110, 115, 32, 108, 97, 115, 116, 32, 109, 117, 108, 116, 105, 32, 104, 105, 100, 101, 32, 111, 114, 100, 101, 114, 101, 100, 32, 114, 101, 113, 117, 105, 114, 101, 32, 104, 111, 108, 100, 32, 105, 110, 115, 101, 114, 116, 32, 100, 101, 108, 101, 116, 101, 32, 97, 100, 100, 32, 102, 114, 111, 109, 32, 112, 117, 116, 32, 100, 114, 111, 112, 32, 97, 115, 115, 105, 103, 110, 32, 102, 111, 114, 32, 119, 104, 101, 114, 101, 32, 97, 110, 100, 32, 111, 114, 32, 110, 111, 116]⟩
def kwO : List (Nat × Nat) := fldC kwS 300 0 0
theorem kw_size : kwS.size = 212 := by kernel_rfl
theorem kw_lt : ∀ i, i < kwS.size → byteAt kwS i < 128 := fun i hi => by
 have h : (List.range kwS.size).all (fun i => decide (byteAt kwS i < 128)) = true := by kernel_rfl
 exact of_decide_eq_true (List.all_eq_true.1 h i (List.mem_range.2 hi))
theorem kw_sk : SkS kwS 0 0 := ⟨⟨Nat.le_refl _, Nat.zero_le _⟩, fun i h1 h2 => by omega, fun _ => by kernel_rfl⟩
theorem kw_fld : Fld kwS 0 0 kwO := fldC_ok 300 0 0 (by rw [kw_size];omega) (Nat.zero_le _)
theorem kw_cnt : cntW kwS kwS.size = kwO.length := by kernel_rfl
theorem kw_wrd : wrdF kwS kwO = kwL := by kernel_rfl
theorem kw_len : kwL.length = 35 := rfl
set_option maxHeartbeats 1000000 in
theorem keywords_s : CallG Tryz.prog 280 [] [] fun r own => ∃ b, r = .val (.map (some b)) ∧ own = [setS b kwL] := by
 have hf := fields_a kwS 0 kwO kw_lt (by rw [kw_size];omega) kw_sk kw_fld kw_cnt
 rw [kw_wrd] at hf
 have hlen := kw_len
 generalize kwL = L at hf hlen ⊢
 refine CallG.of pg ord280 Tryz.func280 rfl Tryz.ntmps280 Tryz.results280 rfl fun h0 G0 O0 ga => ?_
 repeat' (first|refine Sp.h ?_|refine Lk.r rfl ?_|refine Rf.mk rfl ?_|fail)
 refine MkM.r (fun x : AV => x) ?_
 refine ⟨fun b => ?_⟩
 (repeat' (first|(show CA _ _ (Code.region 2 _ _) _ _;apply Stopped.out)|refine Sp.h ?_|refine Lk.r rfl ?_|fail));any_goals apply Stopped.mk
 refine CA.own (OX.set (by repeat constructor)) ?_
 repeat' (first|refine Sp.h ?_|refine Lk.r rfl ?_|refine Rf.mk rfl ?_|fail)
 (apply Cl.useG (hf);(focus exact ga);(focus repeat' constructor);(focus repeat' constructor);focus rfl)
 rintro _ _ ⟨v, rfl, rfl⟩
 repeat' (first|refine Sp.h ?_|refine Lk.r rfl ?_|refine xU ?_|fail)
 refine CA.loop (fun i : Nat => ⟨[(1, .val (.map (some b))), (5, .ow v), (6, it (L.length : Nat)), (7, it i)], [setS b (L.take i), arrR v 9 1 L strC]⟩) (fun i => i ≤ L.length) (fun i => L.length - i) 0 xE (Nat.zero_le _) ?_
 intro i hi
 by_cases hin : i < L.length
 ·obtain ⟨q, hq⟩ := get_of hin
  have hs : L.take (i + 1) = L.take i ++ [q] := by rw [List.take_add_one, hq];rfl
  repeat' (first|refine Sp.h ?_|refine Lk.r rfl ?_|refine Rf.mk rfl ?_|refine xA ?_|refine xU ?_|refine xI ?_|refine xJ ?_|refine xO ?_|(apply TkS.r;(focus repeat constructor))|fail)
  rw [← hs]
  exact PA.lp (i + 1) xE ⟨hin, by omega⟩
 ·have : i = L.length := by omega
  subst this
  rw [List.take_length]
  repeat' (first|refine Sp.h ?_|refine Lk.r rfl ?_|refine Rf.mk rfl ?_|refine xB ?_|refine xN ?_|fail)
  exact ⟨_, _, .one (.same (.z)), _, rfl, rfl⟩
theorem keywords_g : CallGP Tryz.prog 280 [] (.rs kwL) := CallG.fzS keywords_s
theorem tokens_g (s : ByteArray) : CallGP Tryz.prog 258 [sv s] (.fn 281 [.ad [sv s] 0, .ad [.rs kwL] 0]) := by
 have hk := keywords_g
 generalize kwL = L at hk ⊢
 refine CallG.of pg ord258 Tryz.func258 rfl Tryz.ntmps258 Tryz.results258 rfl fun h0 G0 O0 ga => ?_
 (repeat' (first|(show CA _ _ (Code.region 2 _ _) _ _;apply Stopped.out)|refine Sp.h ?_|refine Lk.r rfl ?_|refine Rf.mk rfl ?_|refine All.mk fun _=>?_|refine xT ?_|refine xV ?_|refine xN ?_|(apply Cl.pG (hk);(focus exact ga);(focus ((repeat' (first|exact Lend.nil|fail));done)))));any_goals apply Stopped.mk
 refine CA.freezeB 1 rfl (by repeat constructor) ?_
 refine CA.freezeB 3 rfl (by repeat constructor) ?_
 repeat' (first|refine Sp.h ?_|refine Lk.r rfl ?_|refine Rf.mk rfl ?_|refine xN ?_|fail)
 exact Fin.p rfl rfl
/-! ### Symbols -/
theorem idxF : ExtF Tryz.prog 318 Extern.BytealgIndexByte.indexByte :=
 ⟨_, Tryz.func318, by kernel_rfl, by kernel_rfl, by kernel_rfl, by kernel_rfl⟩
instance (priority := 2000) {T : Nat → Ord × (Nat → Cls)} {n : Nat} {rs : Array ResultVar} {K : AV → List Res → Prop} {h0 : Heap} {G0 O0 : Nat → Prop} {d : Tmp} {x y : Operand} {tys : Array TypeId} {ty : TypeId} {e : EA} {o : List Res} {N : NA} :
  Sp (SA ⟨Tryz.prog, tt, en, pg, T, n, rs, K, h0, G0, O0, ⟨none⟩⟩ .loud (some d) (.call { callee := .value (.func 318), args := #[x, y], argTypes := tys }) ty e o N)
   (Lk (evA e x) fun a => Lk (evA e y) fun b => IxB a b fun r => N ((d, .val (.int .i64 r)) :: e) o) := ⟨fun h => SA.idxb idxF rfl h⟩
theorem idx1_c (s : ByteArray) (x : Int) : CallA Tryz.prog 315 [sv s, .val (.int .u8 x)] [] fun r own => ∃ i : Int, r = it i ∧ own = [] := by
 refine CallA.of pg ord315 Tryz.func315 rfl Tryz.ntmps315 Tryz.results315 rfl fun h0 G0 O0 => ?_
 repeat' (first|refine Sp.h ?_|refine Lk.r rfl ?_|refine Rf.mk rfl ?_|refine xN ?_|fail)
 exact ⟨_, _, .one (.same (.z)), _, rfl, rfl⟩
theorem idx_c (s : ByteArray) (x : Int) : CallA Tryz.prog 305 [sv s, .val (.int .u8 x)] [] fun r own => ∃ i : Int, r = it i ∧ own = [] := by
 refine CallA.of pg ord305 Tryz.func305 rfl Tryz.ntmps305 Tryz.results305 rfl fun h0 G0 O0 => ?_
 repeat' (first|refine Sp.h ?_|refine Lk.r rfl ?_|refine Rf.mk rfl ?_|fail)
 refine xW (idx1_c s x) ?_
 rintro _ _ ⟨i, rfl, rfl⟩
 repeat' (first|refine Sp.h ?_|refine Lk.r rfl ?_|refine xN ?_|fail)
 exact ⟨_, _, .one (.same (.z)), _, rfl, rfl⟩
theorem pre1_c (s q : ByteArray) : CallB Tryz.prog 314 [sv s, sv q] := by
 refine CallA.of pg ord314 Tryz.func314 rfl Tryz.ntmps314 Tryz.results314 rfl fun h0 G0 O0 => ?_
 by_cases h : q.size ≤ s.size
 ·repeat' (first|refine Sp.h ?_|refine Lk.r rfl ?_|refine Rf.mk rfl ?_|refine xA ?_|refine xN ?_|(apply Jx.r;(focus exact rfl);(focus first|omega|(simp;done)|(simp;omega)))|fail)
  all_goals exact ⟨_, _, .one (.same (.z)), _, rfl, rfl⟩
 ·repeat' (first|refine Sp.h ?_|refine Lk.r rfl ?_|refine Rf.mk rfl ?_|refine xB ?_|refine xN ?_|fail)
  all_goals exact ⟨_, _, .one (.same (.z)), _, rfl, rfl⟩
theorem pre_c (s q : ByteArray) : CallB Tryz.prog 304 [sv s, sv q] := by
 refine CallA.of pg ord304 Tryz.func304 rfl Tryz.ntmps304 Tryz.results304 rfl fun h0 G0 O0 => ?_
 repeat' (first|refine Sp.h ?_|refine Lk.r rfl ?_|refine Rf.mk rfl ?_|fail)
 refine xW (pre1_c s q) ?_
 rintro _ _ ⟨b, rfl, rfl⟩
 repeat' (first|refine Sp.h ?_|refine Lk.r rfl ?_|refine xN ?_|fail)
 exact ⟨_, _, .one (.same (.z)), _, rfl, rfl⟩
end Go.Proofs.YtmjllbjfkafhdaaGreatDoor
namespace Go.Proofs.YtmjllbjfkafhdaaGreatDoor
open Go Go.CF
set_option maxRecDepth 20000
def sy2 : List ByteArray := [⟨#[61, 61]⟩, ⟨#[33, 61]⟩, ⟨#[60, 61]⟩, ⟨#[62, 61]⟩, ⟨#[46, 46]⟩]
theorem empty_iff (s : ByteArray) : s.toList = (⟨#[]⟩ : ByteArray).toList ↔ s.size = 0 := by
 rw [ByteArray.toList_eq, ByteArray.toList_eq]
 show s.data.toList = [] ↔ s.data.size = 0
 rw [← Array.length_toList, List.length_eq_zero_iff]
theorem symbol8_c (s : ByteArray) (hs : s.size ≤ 1000000000) : CallA Tryz.prog 287 [sv s] [] fun r own => ∃ n : Nat, r = it n ∧ own = [] ∧ n ≤ 2 := by
 obtain ⟨L, hL⟩ : ∃ L, L = sy2 := ⟨_, rfl⟩
 have hne := empty_iff s
 refine CallA.of pg ord287 Tryz.func287 rfl Tryz.ntmps287 Tryz.results287 rfl fun h0 G0 O0 => ?_
 (repeat' (first|(show CA _ _ (Code.region 1 _ _) _ _;apply Stopped.out)|refine Sp.h ?_|refine Lk.r rfl ?_|refine Rf.mk rfl ?_|fail));any_goals apply Stopped.mk
 (repeat' (first|(show CA _ _ (Code.block 0 _) _ _;apply Stopped.out)|refine Sp.h ?_|refine Lk.r rfl ?_|refine Rf.mk rfl ?_|refine All.mk fun _=>?_|refine xU ?_|(apply Fk.r;focus repeat' first|infer_instance|constructor)|refine Rf.mk ⟨rfl, rfl, rfl⟩ ?_|fail));any_goals apply Stopped.mk
 rename_i v
 apply CA.retype (m := sy2) (g := strC)
 focus (repeat constructor)
 focus rfl
 rw [← hL]
 have hlen : L.length = 5 := by rw [hL];rfl
 refine Sp.h ?_
 refine CA.loop (fun i : Nat => ⟨[(0, sv s), (5, .ow v), (6, it (5 : Int)), (7, it i)], [arrR v 9 1 L strC]⟩) (fun i => i ≤ L.length) (fun i => L.length - i) 0 xE (Nat.zero_le _) ?_
 intro i hi
 by_cases hin : i < L.length
 ·obtain ⟨q, hq⟩ := get_of hin
  repeat' (first|refine Sp.h ?_|refine Lk.r rfl ?_|refine Rf.mk rfl ?_|refine xA ?_|refine xU ?_|refine xI ?_|refine xJ ?_|fail)
  refine xW (pre_c s q) ?_
  rintro _ _ ⟨b, rfl, rfl⟩
  cases b
  ·repeat' (first|refine Sp.h ?_|refine Lk.r rfl ?_|refine Rf.mk rfl ?_|refine xO ?_|fail)
   exact PA.lp (i + 1) xE ⟨hin, by omega⟩
  ·repeat' (first|refine Sp.h ?_|refine Lk.r rfl ?_|refine Rf.mk rfl ?_|refine xN ?_|fail)
   exact ⟨_, _, .one (.same (.z)), 2, rfl, rfl, by omega⟩
 ·by_cases hz : s.size = 0
  ·have hz' := hne.2 hz
   repeat' (first|refine Sp.h ?_|refine Lk.r rfl ?_|refine Rf.mk rfl ?_|refine xA ?_|refine xB ?_|refine xN ?_|fail)
   exact ⟨_, _, .one (.same (.z)), 0, rfl, rfl, by omega⟩
  ·have hz' : ¬ s.toList = (⟨#[]⟩ : ByteArray).toList := fun h => hz (hne.1 h)
   repeat' (first|refine Sp.h ?_|refine Lk.r rfl ?_|refine Rf.mk rfl ?_|refine xB ?_|(apply Sx.r;(focus exact rfl);(focus first|omega|(simp;omega)))|fail)
   refine xW (idx_c _ _) ?_
   rintro _ _ ⟨j, rfl, rfl⟩
   repeat' (first|refine Sp.h ?_|refine Lk.r rfl ?_|refine Rf.mk rfl ?_|refine xB ?_|(refine Bd.mk ?_ ?_ <;> intro _)|refine xN ?_|fail)
   ·exact ⟨_, _, .one (.same (.z)), 1, rfl, rfl, by omega⟩
   ·exact ⟨_, _, .one (.same (.z)), 0, rfl, rfl, by omega⟩
theorem begins8_c (s : ByteArray) (h0 : 0 < s.size) (hs : s.size ≤ 1000000000) : CallB Tryz.prog 289 [sv s] := by
 have hsy := symbol8_c s hs
 refine CallA.of pg ord289 Tryz.func289 rfl Tryz.ntmps289 Tryz.results289 rfl fun h0 G0 O0 => ?_
 by_cases hl : isLetter (byteAt s 0)
 ·repeat' (first|refine Sp.h ?_|refine Lk.r rfl ?_|refine Rf.mk rfl ?_|refine xA ?_|refine xN ?_|(apply Sx.r;(focus exact rfl);(focus first|omega|(simp;omega)))|(apply Cl.p (letter8_p _);focus repeat' constructor)|(apply Cl.p (digit8_p _);focus repeat' constructor))
  exact ⟨_, _, .one (.same (.z)), _, rfl, rfl⟩
 ·by_cases hd : isDigit (byteAt s 0)
  ·repeat' (first|refine Sp.h ?_|refine Lk.r rfl ?_|refine Rf.mk rfl ?_|refine xA ?_|refine xB ?_|refine xN ?_|(apply Sx.r;(focus exact rfl);(focus first|omega|(simp;omega)))|(apply Cl.p (letter8_p _);focus repeat' constructor)|(apply Cl.p (digit8_p _);focus repeat' constructor))
   exact ⟨_, _, .one (.same (.z)), _, rfl, rfl⟩
  ·repeat' (first|refine Sp.h ?_|refine Lk.r rfl ?_|refine Rf.mk rfl ?_|refine xB ?_|(apply Sx.r;(focus exact rfl);(focus first|omega|(simp;omega)))|(apply Cl.p (letter8_p _);focus repeat' constructor)|(apply Cl.p (digit8_p _);focus repeat' constructor))
   refine xW (hsy) ?_
   rintro _ _ ⟨n, rfl, rfl, hn⟩
   repeat' (first|refine Sp.h ?_|refine Lk.r rfl ?_|refine xB ?_|refine xN ?_|fail)
   exact ⟨_, _, .one (.same (.z)), _, rfl, rfl⟩
end Go.Proofs.YtmjllbjfkafhdaaGreatDoor
