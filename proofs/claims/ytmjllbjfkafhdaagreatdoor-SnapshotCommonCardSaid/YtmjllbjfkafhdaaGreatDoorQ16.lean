/- Part 16 of the ground of this proof: what its texts say of the model, the program and the plain data; conditions: those that are named. -/
import Derived.Test.YtmjllbjfkafhdaaGreatDoorQ15
namespace Go.Proofs.YtmjllbjfkafhdaaGreatDoor
open Go Go.CF
theorem awake53_g : CallGP Tryz.prog 9 [] (bl true):=by
 have hc:=exm_p
 have h1:CallA Tryz.prog 35 [mdl cn5M,it 2,ints [3]] [] fun q own=>∃p v,q= .tup [pm p,it 0]∧own= [stoR p cn5M (stN cn5M 2 [3] []) v (stN cn5M 2 [3] []),arrR v 66 13 [] evC]:=new35_a cn5M 2 [3] cn5_ok (by decide) (by rw [cn5_str];rfl) (insS_ld (by simp))
 have h3:∀p v,CallA Tryz.prog 37 [pm p,evA' ca] [stoR p cn5M (stN cn5M 2 [3] []) v (stN cn5M 2 [3] []),arrR v 66 13 ([]:List EvS) evC] fun r own=>r=it 0∧∃v',own= [stoR p cn5M (stN cn5M 2 [3] []) v' (stN cn5M 2 [3] [ca]),arrR v' 66 13 [ca] evC]:=fun p v=>by
  have:=deliver_a p cn5M (stN cn5M 2 [3] []) v [] (stN cn5M 2 [3] []) ca cn5_ok (stN_ok5 [] (by simp) (by simp)) (by simp)
  rw [evsD,cab5_1,if_pos rfl] at this
  exact this
 have h4:∀p v,CallA Tryz.prog 37 [pm p,evA' cb] [stoR p cn5M (stN cn5M 2 [3] []) v (stN cn5M 2 [3] [ca]),arrR v 66 13 [ca] evC] fun r own=>r=it 0∧∃v',own= [stoR p cn5M (stN cn5M 2 [3] []) v' (stN cn5M 2 [3] [ca,cb]),arrR v' 66 13 [ca,cb] evC]:=fun p v=>by
  have:=deliver_a p cn5M (stN cn5M 2 [3] []) v [ca] (stN cn5M 2 [3] [ca]) cb cn5_ok (stN_ok5 [ca] (by simp) (by simp)) (by simp)
  rw [evsD,cab5_2,if_pos rfl] at this
  exact this
 obtain⟨B,N,c1,c2,c3,c4,c5⟩:=cab5_4
 have h5:∀p v,CallA Tryz.prog 44 [pm p,ints [1,0]] [stoR p cn5M (stN cn5M 2 [3] []) v (stN cn5M 2 [3] [ca,cb]),arrR v 66 13 [ca,cb] evC] fun r own=>r=it 0∧∃v',own= [stoR p cn5M B v' N,arrR v' 66 13 [cb] evC]:=fun p v=>by
  have hN:=stN_ok5 [ca,cb] (by simp) (by simp)
  have h0:=stN_ok5 [] (by simp) (by simp)
  have:=compact_a p cn5M (stN cn5M 2 [3] []) v [ca,cb] (stN cn5M 2 [3] [ca,cb]) [1,0] cn5_ok hN ⟨h0.clk,rfl,h0.st,by simp only [stN,List.foldl_nil,cn5_mrg];exact⟨by simp,by simp⟩,h0.pls,by simp [stN]⟩ (by simp) (fun e he=>by
   rcases l5 e he with rfl|rfl
   ·exact ev5_ca
   ·exact ev5_cb)
  rw [c1] at this
  exact this
 have hrd:=read5a
 have hlb:∀e∈ [cb],e=ca∨e=cb:=fun e he=>by right;simpa using he
 have hsw:=shw5 (l:= [cb]) c3 c4 hlb (by decide)
 have k7:=scheck_p cn5M B [cb] N [0,1] hsw
 have k11:=scheck_p cn5M B [cb] N [2,1] hsw
 have k0:=scheck_p cn5M B [cb] N [1,1] hsw
 have r10:chkF B.clock [cb] [1,1] [1,0]=0:=by rw [c5,chk5 hlb (by decide) (by decide) (by decide) (by decide)];rfl
 have r11:chkF B.clock [cb] [1,1] [1,1]=0:=by rw [c5,chk5 hlb (by decide) (by decide) (by decide) (by decide)];rfl
 rw [c4,c5,chk5 hlb (by decide) (by decide) (by decide) (by decide),if_neg (by decide)] at k7
 rw [c4,c5,chk5 hlb (by decide) (by decide) (by decide) (by decide),if_pos (by decide),if_neg (by decide)] at k11
 rw [c4,r11] at k0
 obtain⟨s1,s2⟩:=shows5' B c2
 have m1:=now5 c3 (by rw [c2];rfl) c4 hlb (by decide) r11 s2
 have m2:=com5_p ⟨cn5M,B,[cb],N⟩ c3 c4 c5 hlb (Nat.le_succ 1)
 have m3:=chg5_g c3 (by rw [c2];rfl) c4 hlb (by decide) r10 r11 s1 s2
 have m4:=svalid_g cn5M [(0,0)] (by decide) cn5_upd
 have m5:=svalid_g cn5M [(0,1)] (by decide) cn5_upd
 rw [zT cn5_q0] at m4
 rw [zF (fun h:QrysX cn5M [(0,1)]=>absurd ((cn5_qry 0 1).1 (h.2 _ (by simp))).1 (by decide))] at m5
 have e2:=equal_p [1,1] [1,1]
 have e3:=equalQ_p [(0,0)] [(0,0)]
 rw [zT rfl] at e2 e3
 obtain⟨M,hM⟩:∃M:ModS,M=cn5M:=⟨_,rfl⟩
 obtain⟨B0,hB0⟩:∃B:NowS,B=stN cn5M 2 [3] []:=⟨_,rfl⟩
 obtain⟨N1,hN1⟩:∃B:NowS,B=stN cn5M 2 [3] [ca]:=⟨_,rfl⟩
 obtain⟨N2,hN2⟩:∃B:NowS,B=stN cn5M 2 [3] [ca,cb]:=⟨_,rfl⟩
 rw [←hB0,←hM] at h1
 rw [←hB0,←hN1,←hM] at h3
 rw [←hB0,←hN1,←hN2,←hM] at h4
 rw [←hB0,←hN2,←hM] at h5 hrd
 rw [←hM] at hc k7 k11 k0 m1 m2 m3 m4 m5
 have hi0:([ca,cb]:List EvS)[0]?=some ca:=rfl
 have hi1:([ca,cb]:List EvS)[1]?=some cb:=rfl
 refine CallG.of pg ord9 Tryz.func9 rfl Tryz.ntmps9 Tryz.results9 rfl fun h0 G0 O0 ga=>?_
 repeat'(first|apply Sp.h|refine Lk.r rfl ?_|refine Rf.mk rfl ?_|refine All.mk fun _=>?_|refine xT ?_|refine Ch.l ⟨rfl,rfl⟩ ?_|(apply SetAsk.r;focus repeat' constructor)|(apply Fk.r;focus repeat' first|infer_instance|constructor)|refine xN ?_|refine Rf.mk ⟨rfl,rfl,rfl⟩ ?_|(apply Cl.p (hc);(focus repeat'(first|exact Lend.nil|fail))))
 apply Cl.fx [mdl M,it 2,ints [3]]
 focus(repeat'(first|exact FX.nil|(apply FX.sl;(focus repeat constructor);(focus exact zB rfl))|(apply FX.le;(focus first|exact ALe.refl _|exact ALe.nil))|apply FX.agg|apply FX.tup))
 refine xW (h1) ?_
 rintro _ _ ⟨p,v,rfl,rfl⟩
 repeat'(first|apply Sp.h|refine Lk.r rfl ?_|refine Rf.mk rfl ?_|refine xA ?_|refine xB ?_|refine xI ?_|refine Ch.l ⟨rfl,rfl⟩ ?_|fail)
 refine xW (h3 p v) ?_
 rintro _ _ ⟨rfl,v1,rfl⟩
 repeat'(first|apply Sp.h|refine Lk.r rfl ?_|refine Rf.mk rfl ?_|refine xA ?_|refine xB ?_|refine xI ?_|refine Ch.l ⟨rfl,rfl⟩ ?_|fail)
 refine xW (h4 p v1) ?_
 rintro _ _ ⟨rfl,v2,rfl⟩
 (repeat'(first|(show CA _ _ (Code.block 0 _) _ _;apply Stopped.out)|apply Sp.h|refine Lk.r rfl ?_|refine Rf.mk rfl ?_|refine xA ?_|apply All.mk|refine xU ?_|refine xT ?_|(apply SetAsk.r;focus repeat' constructor)|(apply Fk.r;focus repeat' first|infer_instance|constructor)|refine xN ?_|refine Rf.mk ⟨rfl,rfl,rfl⟩ ?_|intro _));any_goals apply Stopped.mk
 rename_i b1 w1 b5 w2 w3 w4 w5 w6
 apply CA.freezeX 57 (b:= .sl 2 cs53 csC)
 focus rfl
 focus(repeat'(first|exact FX.nil|(apply FX.sl;(focus repeat constructor);(focus exact zB rfl))|(apply FX.le;(focus first|exact ALe.refl _|exact ALe.nil))|apply FX.agg|apply FX.tup))
 repeat'(first|apply Sp.h|fail)
 refine CA.loop (fun i:Nat=>⟨[(1,pm b1),(3,pm p),(5,pm b5),(57, .sl 2 cs53 csC),(58,it 4),(59,it i)],[blkR b1 30 (modC M),blkR b5 102 [it 0,it 0],stoR p M B0 v2 N2,arrR v2 66 13 [ca,cb] evC]⟩) (fun i=>i≤4) (fun i=>4 - i) 0 xE (zZ _) ?_
 intro i hi
 by_cases hin:i < 4
 ·obtain⟨q,hq⟩:∃q,cs53[i]?=some q:=get_of hin
  have hr:=hrd i q hq
  have he:=equal_p [q.2] [q.2]
  have hq0: [[q.2]][0]?=some [q.2]:=rfl
  rw [zT rfl] at he
  repeat'(first|apply Sp.h|refine Lk.r rfl ?_|refine Rf.mk rfl ?_|refine xA ?_|apply All.mk|refine xT ?_|refine xI ?_|refine Ch.l ⟨rfl,rfl⟩ ?_|(apply SetAsk.r;focus repeat' constructor)|(apply Fk.r;focus repeat' first|infer_instance|constructor)|refine xN ?_|refine Rf.mk ⟨rfl,rfl,rfl⟩ ?_|intro _)
  refine Cl.readG hr ga ⟨by simp,by simp⟩ (by repeat'(first|exact Lend.nil|apply Lend.keep|(apply Lend.lendm;(focus repeat constructor);(focus rfl);(focus first|omega|decide|(simp;omega)|exact zB rfl))|(apply Lend.cell;(focus repeat constructor))|fail)) ?_
  repeat'(first|apply Sp.h|refine Lk.r rfl ?_|refine Rf.mk rfl ?_|refine xA ?_|refine OpK.r rfl ?_|refine Im.mk fun _=>?_|refine All.mk fun _=>?_|refine xT ?_|refine xI ?_|(apply Fk.r;focus repeat' first|infer_instance|constructor)|refine Rf.mk ⟨rfl,rfl,rfl⟩ ?_|refine xD ?_|refine xO ?_|(apply Cl.lend (he);(focus((repeat'(first|exact Lend.nil|apply Lend.keep|(apply Lend.lendm;(focus repeat constructor);(focus rfl);(focus first|omega|decide|(simp;omega)|exact zB rfl))|fail));done))))
  all_goals exact PA.lp (i+1) xE ⟨by omega,by omega⟩
 ·have:i=4:=by omega
  subst this
  repeat'(first|apply Sp.h|refine Lk.r rfl ?_|refine Rf.mk rfl ?_|refine xB ?_|apply All.mk|(apply Fk.r;focus repeat' first|infer_instance|constructor)|refine Rf.mk ⟨rfl,rfl,rfl⟩ ?_|intro _)
  apply Cl.fx [pm p,ints [1,0]]
  focus(repeat'(first|exact FX.nil|(apply FX.sl;(focus repeat constructor);(focus exact zB rfl))|(apply FX.le;(focus first|exact ALe.refl _|exact ALe.nil))|apply FX.agg|apply FX.tup))
  refine xW (h5 p v2) ?_
  rintro _ _ ⟨rfl,v3,rfl⟩
  repeat'(first|apply Sp.h|refine Lk.r rfl ?_|refine Rf.mk rfl ?_|refine xA ?_|apply All.mk|(apply Fk.r;focus repeat' first|infer_instance|constructor)|refine Rf.mk ⟨rfl,rfl,rfl⟩ ?_|intro _)
  repeat'(first|(show CA _ _ (Code.region 15 _ _) _ _;apply Stopped.out)|apply Sp.h|refine Lk.r rfl ?_|refine Rf.mk rfl ?_|refine xA ?_|refine All.mk fun _=>?_|(apply Fk.r;focus repeat' first|infer_instance|constructor)|refine Rf.mk ⟨rfl,rfl,rfl⟩ ?_|(apply Cl.lend k7;(focus((repeat'(first|exact Lend.nil|apply Lend.keep|(apply Lend.lendm;(focus repeat constructor);(focus rfl);(focus first|omega|decide|(simp;omega)|exact zB rfl))|(apply Lend.cell;(focus repeat constructor))|fail));done)))|(apply Cl.lend k11;(focus((repeat'(first|exact Lend.nil|apply Lend.keep|(apply Lend.lendm;(focus repeat constructor);(focus rfl);(focus first|omega|decide|(simp;omega)|exact zB rfl))|(apply Lend.cell;(focus repeat constructor))|fail));done)))|(apply Cl.lend k0;(focus((repeat'(first|exact Lend.nil|apply Lend.keep|(apply Lend.lendm;(focus repeat constructor);(focus rfl);(focus first|omega|decide|(simp;omega)|exact zB rfl))|(apply Lend.cell;(focus repeat constructor))|fail));done))))
  any_goals apply Stopped.mk
  (apply CA.own;(focus(apply OX.blk (b:=p);(focus repeat constructor);(focus(repeat'(first|exact FX.nil|(apply FX.s1;(focus repeat constructor);(focus first|omega|(simp;done)|(simp;omega)))|apply FX.k)));(focus repeat constructor))))
  apply CA.freezeB 3
  focus rfl
  focus(repeat constructor)
  repeat'(first|apply Sp.h|refine Lk.r rfl ?_|refine Rf.mk rfl ?_|apply All.mk|refine xT ?_|refine Ch.l ⟨rfl,rfl⟩ ?_|(apply Fk.r;focus repeat' first|infer_instance|constructor)|refine Rf.mk ⟨rfl,rfl,rfl⟩ ?_|intro _)
  apply Cl.fx [mdl M, .ad (stoV M B [cb] N) 0,qrys [(0,0)]]
  focus(repeat'(first|exact FX.nil|(apply FX.sl;(focus repeat constructor);(focus exact zB rfl))|(apply FX.le;(focus first|exact ALe.refl _|exact ALe.nil))|apply FX.agg|apply FX.tup))
  (apply Cl.pG (m1);(focus exact ga);focus repeat' constructor)
  repeat'(first|apply Sp.h|refine Lk.r rfl ?_|refine Rf.mk rfl ?_|apply All.mk|(apply Fk.r;focus repeat' first|infer_instance|constructor)|refine Rf.mk ⟨rfl,rfl,rfl⟩ ?_|intro _)
  apply Cl.fx [.sl 1 [some ⟨M,B,[cb],N⟩,some ⟨M,B,[cb],N⟩] sqC]
  focus(repeat'(first|exact FX.nil|(apply FX.sl;(focus repeat constructor);(focus exact zB rfl))|(apply FX.le;(focus first|exact ALe.refl _|exact ALe.nil))|apply FX.agg|apply FX.tup))
  apply Cl.p m2
  focus(repeat'(first|exact Lend.nil|apply Lend.keep|fail))
  repeat'(first|apply Sp.h|refine Lk.r rfl ?_|refine Rf.mk rfl ?_|apply All.mk|refine xT ?_|refine Ch.l ⟨rfl,rfl⟩ ?_|(apply Fk.r;focus repeat' first|infer_instance|constructor)|refine Rf.mk ⟨rfl,rfl,rfl⟩ ?_|intro _)
  apply Cl.fx [mdl M, .ad (stoV M B [cb] N) 0,ints [1,0],ints [1,1]]
  focus(repeat'(first|exact FX.nil|(apply FX.sl;(focus repeat constructor);(focus exact zB rfl))|(apply FX.le;(focus first|exact ALe.refl _|exact ALe.nil))|apply FX.agg|apply FX.tup))
  (apply Cl.pG (m3);(focus exact ga);focus repeat' constructor)
  repeat'(first|apply Sp.h|refine Lk.r rfl ?_|refine Rf.mk rfl ?_|refine xA ?_|apply All.mk|(apply Fk.r;focus repeat' first|infer_instance|constructor)|refine Rf.mk ⟨rfl,rfl,rfl⟩ ?_|intro _)
  repeat'(first|apply Sp.h|refine Lk.r rfl ?_|refine Rf.mk rfl ?_|refine xA ?_|refine All.mk fun _=>?_|refine xT ?_|refine Ch.l ⟨rfl,rfl⟩ ?_|(apply Fk.r;focus repeat' first|infer_instance|constructor)|refine xN ?_|refine Rf.mk ⟨rfl,rfl,rfl⟩ ?_|(apply Cl.lend e2;(focus((repeat'(first|exact Lend.nil|apply Lend.keep|(apply Lend.lendm;(focus repeat constructor);(focus rfl);(focus first|omega|decide|(simp;omega)|exact zB rfl))|fail));done)))|(apply Cl.lend e3;(focus((repeat'(first|exact Lend.nil|apply Lend.keep|(apply Lend.lendm;(focus repeat constructor);(focus rfl);(focus first|omega|decide|(simp;omega)|exact zB rfl))|fail));done)))|(apply Cl.lendG m4;(focus exact ga);(focus((repeat'(first|exact Lend.nil|apply Lend.keep|(apply Lend.lendm;(focus repeat constructor);(focus rfl);(focus first|omega|decide|(simp;omega)|exact zB rfl))|fail));done)))|(apply Cl.lendG m5;(focus exact ga);(focus((repeat'(first|exact Lend.nil|apply Lend.keep|(apply Lend.lendm;(focus repeat constructor);(focus rfl);(focus first|omega|decide|(simp;omega)|exact zB rfl))|fail));done))))
  all_goals exact Fin.p rfl rfl
end Go.Proofs.YtmjllbjfkafhdaaGreatDoor
set_option maxRecDepth 100000
set_option maxHeartbeats 80000000
namespace Go.Proofs.YtmjllbjfkafhdaaGreatDoor
open Go Go.CF
theorem new53_bad(m:ModS)(n:Nat)(ld:List Int)(hm:MOK m)(hn:1≤n∧n≤5)(h:¬(ld.length=strF m∧insS ld)) : CallP Tryz.prog 35 [mdl m,it n,ints ld] (.tup [.val (.pointer none),it 1]):=by
 have h1:=cells35_p m hm.lay
 have h2:=inside35_p ld
 refine CallA.of pg ord35 Tryz.func35 rfl Tryz.ntmps35 Tryz.results35 rfl fun h0 G0 O0=>?_
 by_cases hl:ld.length=strF m
 ·rw [zF fun h9=>h ⟨hl,h9⟩] at h2
  repeat'(first|apply Sp.h|refine Lk.r rfl ?_|refine Rf.mk rfl ?_|refine xA ?_|refine xB ?_|refine Im.mk fun _=>?_|refine All.mk fun _=>?_|refine xT ?_|refine Ch.l ⟨rfl,rfl⟩ ?_|refine xN ?_|(apply Cl.p (h1);focus(repeat' constructor);done)|(apply Cl.p (h2);focus(repeat' constructor);done))
  all_goals first
   | exact Fin.p rfl rfl
   | exact(by omega:False).elim
 ·repeat'(first|apply Sp.h|refine Lk.r rfl ?_|refine Rf.mk rfl ?_|refine xB ?_|refine Im.mk fun _=>?_|refine All.mk fun _=>?_|refine xT ?_|refine Ch.l ⟨rfl,rfl⟩ ?_|refine xN ?_|(apply Cl.p (h1);focus(repeat' constructor);done)|(apply Cl.p (h2);focus(repeat' constructor);done))
  all_goals first
   | exact Fin.p rfl rfl
   | exact(by omega:False).elim
theorem comE{L:List (Option StoQ)}{code:Int}(hL:L.length≤1000000)(h:∀s,some s∈L→ShwS s.b s.l s.w)(hc:comF L=code)(h0:code≠0) : CallP Tryz.prog 39 [.sl 1 L sqC] (.tup [nl0,it code]):=by
 have:=scommon_a L hL h
 rw [hc] at this
 refine CallA.mono this ?_
 rintro r o (⟨_,rfl,rfl⟩|⟨h,_⟩)
 ·exact⟨rfl,rfl⟩
 ·exact absurd h h0
theorem com_nil : CallP Tryz.prog 39 [.sl 1 [] sqC] (.tup [nl0,it 1]) :=
 comE (by simp) (fun s hs=>by cases hs) (if_pos (.inr fun h=>absurd h.1 (by simp [sclkF]))) (by decide)
theorem cmnclo_p(s:StoQ)(h:ShwS s.b s.l s.w)(c:List Int) : CallP Tryz.prog 42 [.ad (stoV s.m s.b s.l s.w) 0, .ad [ints c] 0] (bl (decide (chkF s.b.clock s.l s.w.clock c≠0))):=by
 have hk:=scheck_p s.m s.b s.l s.w c h
 refine CallA.of pg ordZ Tryz.func42 rfl Tryz.ntmps42 Tryz.results42 rfl fun h0 G0 O0=>?_
 repeat'(first|apply Sp.h|refine Lk.r rfl ?_|refine Rf.mk rfl ?_|refine xN ?_|(apply Cl.p (hk);focus repeat' constructor))
 exact Fin.p rfl rfl
theorem containsT53_p(L:List StoQ)(h:∀s∈L,ShwS s.b s.l s.w)(c:List Int) : CallP Tryz.prog 41 [.sl 1 (L.map some) sqC, .fn 42 [.ad [ints c] 0]] (bl (decide (∃s∈L,chkF s.b.clock s.l s.w.clock c≠0))):=by
 have hix:CallP Tryz.prog 102 [.sl 1 (L.map some) sqC, .fn 42 [.ad [ints c] 0]] (it (idxI (fun s:StoQ=>decide (chkF s.b.clock s.l s.w.clock c≠0)) L)):=by
  have hLl:(L.map some).length=L.length:=by simp
  refine CallA.of pg ordZ Tryz.func102 rfl Tryz.ntmps102 Tryz.results102 rfl fun h0 G0 O0=>?_
  repeat'(first|apply Sp.h|refine Lk.r rfl ?_|refine Rf.mk rfl ?_|apply Im.mk|intro _)
  refine CA.loop (fun i:Nat=>⟨[(0, .sl 1 (L.map some) sqC),(1, .fn 42 [.ad [ints c] 0]),(7,it ((L.map some).length:Nat)),(8,it i)],[]⟩) (fun i=>i≤L.length∧∀j (s:StoQ),j < i→L[j]?=some s→(fun s:StoQ=>decide (chkF s.b.clock s.l s.w.clock c≠0)) s=false) (fun i=>L.length - i) 0 xE ⟨zZ _,fun j s h=>by omega⟩ ?_
  rintro i ⟨hi,hno⟩
  by_cases hin:i < L.length
  ·obtain⟨s,hs⟩:=get_of hin
   have hs2:(L.map some)[i]?=some (some s):=by rw [zG,hs];rfl
   have hcl:=cmnclo_p s (h s (zM hs)) c
   by_cases hp:chkF s.b.clock s.l s.w.clock c≠0
   ·rw [zT hp] at hcl
    repeat'(first|apply Sp.h|refine Lk.r rfl ?_|refine Rf.mk rfl ?_|refine xA ?_|refine xI ?_|refine xN ?_|(apply Cl.p (hcl);focus repeat' constructor))
    exact Fin.p rfl (by rw [idxI,idxN_of hs (zT hp) hno,if_pos hin])
   ·rw [zF hp] at hcl
    repeat'(first|apply Sp.h|refine Lk.r rfl ?_|refine Rf.mk rfl ?_|refine xA ?_|refine xI ?_|refine xO ?_|(apply Cl.p (hcl);focus repeat' constructor))
    exact PA.lp (i+1) xE ⟨⟨hin,alli_succ hs hno (zF hp)⟩,by omega⟩
  ·repeat'(first|apply Sp.h|refine Lk.r rfl ?_|refine Rf.mk rfl ?_|refine xB ?_|refine xN ?_|fail)
   exact Fin.p rfl (by rw [idxI,idxN_none (fun x hx=>by obtain⟨j,hx⟩:=zO hx;exact hno j x (by have:=(zS.1 hx).1;omega) hx),if_neg (by omega)])
 refine CallA.of pg ordZ Tryz.func41 rfl Tryz.ntmps41 Tryz.results41 rfl fun h0 G0 O0=>?_
 repeat'(first|apply Sp.h|refine Lk.r rfl ?_|refine Rf.mk rfl ?_|refine xN ?_|(apply Cl.p (hix);focus repeat' constructor))
 refine Fin.p rfl (vb (zD.2 ?_))
 have hb:=idxB_lt (p:=fun s:StoQ=>decide (chkF s.b.clock s.l s.w.clock c≠0)) (l:=L)
 simp only [decide_eq_true_eq] at hb
 rw [←hb]
 unfold idxI
 split <;> omega
noncomputable def stq(m:ModS)(ld:List Int)(l D:List EvS) : StoQ:=⟨m,stN m (n0 l) ld [],D,stN m (n0 l) ld D⟩
theorem ComH.take{m:ModS}{ld:List Int}{l:List EvS}{Ds:List (List EvS)}(h:ComH m ld l Ds)(k:Nat) : ComH m ld l (Ds.take k):=⟨h.hm,h.hf,h.hc,h.ne,h.ll,h.ln,fun D hD=>h.d D (zW hD)⟩
theorem ComH.dl{m:ModS}{ld:List Int}{l:List EvS}{Ds:List (List EvS)}(h:ComH m ld l Ds){D:List EvS}(hD:D∈Ds) : D.length≤l.length:=by
 have:=(h.d D hD).sub.length_le
 rwa [zL,ordE_len] at this
theorem dlv_now{m:ModS}{ld:List Int}{l D:List EvS}{i:Nat}(hc:ClosedE l)(hne:0 < l.length)(hll:l.length≤1000)(hln:ld.length=strF m)(h:DlvI m l D i) : NowOK m (stN m (n0 l) ld D):=by
 have:=h.sub.length_le
 have h2:=ordE_len l
 rw [zN] at this
 exact stN_okL hc hne hln h.ext.sub (by omega)
theorem ComH.shw{m:ModS}{ld:List Int}{l:List EvS}{Ds:List (List EvS)}(h:ComH m ld l Ds){D:List EvS}(hD:D∈Ds) : ShwS (stq m ld l D).b (stq m ld l D).l (stq m ld l D).w:=by
 have h1:=h.dl hD
 have h2:=h.ll
 have h3:=dlv_now h.hc h.ne h.ll h.ln (h.d D hD)
 refine⟨szN_stNL h.hm h.hc h.ne h.ln (fun e he=>by cases he) (zZ _), ?_,by show D.length≤_;omega,fun e he=>?_⟩
 ·have:=h3.clk.2.2
  show(stN m (n0 l) ld D).clock.length≤_
  omega
 ·have:=(h.hc.2.2.1 e ((h.d D hD).ext.sub e he)).1.1.2.2;omega
theorem ComH.sclk{m:ModS}{ld:List Int}{l:List EvS}(Ds:List (List EvS)) : sclkF ((Ds.map (stq m ld l)).map some)=Ds.map (clkE (n0 l)):=by
 simp only [sclkF,List.map_map]
 rfl
theorem ComH.comF{m:ModS}{ld:List Int}{l:List EvS}{Ds:List (List EvS)}(h:ComH m ld l Ds)(hne:Ds≠ []) : comF ((Ds.map (stq m ld l)).map some)=0:=by
 obtain⟨h1,h2,h3,h4⟩:=h.com hne
 rw [Go.Proofs.YtmjllbjfkafhdaaGreatDoor.comF,if_neg,if_neg]
 ·rintro⟨s,hs,h9⟩
  obtain⟨s',hs',he⟩:=List.mem_map.1 hs
  cases he
  obtain⟨D,hD,rfl⟩:=List.mem_map.1 hs'
  rw [ComH.sclk] at h9
  exact h9 (con_zero h.rng h1 h2)
 ·rintro(h9|h9)
  ·simp at h9
  ·apply h9
   rw [ComH.sclk]
   have hk:=h.clk
   obtain⟨d,r,rfl⟩:∃d r,Ds=d :: r:=by cases Ds with
    | nil=>exact absurd rfl hne
    | cons d r=>exact⟨d,r,rfl⟩
   refine⟨by simp,fun c hc=>⟨(hk c hc).1, ?_⟩⟩
   rw [(hk c hc).2]
   exact(hk (clkE (n0 l) d) (by simp)).2.symm
theorem ComH.call{m:ModS}{ld:List Int}{l:List EvS}{Ds:List (List EvS)}(h:ComH m ld l Ds)(hne:Ds≠ [])(hl:Ds.length≤1000) : CallP Tryz.prog 39 [.sl 1 ((Ds.map (stq m ld l)).map some) sqC] (.tup [ints (comC l Ds),it 0]):=by
 have hc:=scommon_a ((Ds.map (stq m ld l)).map some) (by simp;omega) (fun s hs=>by
  obtain⟨s',hs',he⟩:=List.mem_map.1 hs
  cases he
  obtain⟨D,hD,rfl⟩:=List.mem_map.1 hs'
  exact h.shw hD)
 rw [h.comF hne,ComH.sclk] at hc
 refine CallA.fx hc ?_
 rintro r o (⟨h9,_⟩|⟨_,u,rfl,rfl⟩)
 ·exact absurd rfl h9
 have h2:=(h.com hne).2.1
 have h3:=h.rng
 exact .tup (.s1 .here (by omega) (.le (ALe.refl _) .nil)) .nil
theorem ComH.read{m:ModS}{ld:List Int}{l:List EvS}{Ds:List (List EvS)}(h:ComH m ld l Ds)(hx:ValX m)(hur:UpdsRg m){D E:List EvS}(hD:D∈Ds)(hE:E∈Ds) :
  CallG Tryz.prog 16 [mdl m, .ad (stoV m (stN m (n0 l) ld []) D (stN m (n0 l) ld D)) 0,ints (comC l Ds),qrys (evyL m)] [] (RdK 0 (rowsF m (stN m (n0 l) ld []) E (comC l Ds) (evyL m))):=by
 have:=sread_g m (stN m (n0 l) ld []) D (stN m (n0 l) ld D) (comC l Ds) (evyL m) (h.shw hD) h.hm hur h.ln (fun e he=>by
  rw [show(stN m (n0 l) ld D).clock.length=n0 l from clkE_len ..]
  exact(h.d D hD).ev e he) (fun _=>h.snp hD) (by have:=evyL_len m;omega)
 rw [rdF,if_pos (evy_x hx),h.rows hD hE] at this
 rw [show chkF (stN m (n0 l) ld []).clock D (stN m (n0 l) ld D).clock (comC l Ds)=0 from h.chk hD] at this
 exact this
theorem ComH.rowl{m:ModS}{ld:List Int}{l:List EvS}{Ds:List (List EvS)}(h:ComH m ld l Ds){D:List EvS}(hD:D∈Ds) : (rowsF m (stN m (n0 l) ld []) D (comC l Ds) (evyL m)).length≤1000000∧∀x∈rowsF m (stN m (n0 l) ld []) D (comC l Ds) (evyL m),x.length≤1000000:=by
 obtain⟨h1,h2⟩:=rows_len (qs:=evyL m) (h.snp hD)
 exact⟨by have:=evyL_len m;omega,h2⟩
theorem ComH.less{m:ModS}{ld:List Int}{l:List EvS}{Ds:List (List EvS)}(h:ComH m ld l Ds)(k:Nat)(hne:Ds.take k≠ []) : ConC (comC l (Ds.take k)) (comC l Ds):=by
 have hne2:Ds≠ []:=fun h9=>hne (by rw [h9,List.take_nil])
 obtain⟨h1,h2,h3,h4⟩:=h.com hne2
 obtain⟨k1,k2,k3,k4⟩:=(h.take k).com hne
 refine(conC_iff _ _).2 ⟨⟨k1,h1,by omega⟩,fun q x y hx hy=>?_⟩
 obtain⟨D,hD,hDy⟩:=k3 q y hy
 exact h4 D (zW hD) q x y hx hDy
theorem ComH.con{m:ModS}{ld:List Int}{l:List EvS}{Ds:List (List EvS)}(h:ComH m ld l Ds){D:List EvS}(hD:D∈Ds) : ConC (clkE (n0 l) D) (comC l Ds):=by
 have hne:Ds≠ []:=fun h9=>by rw [h9] at hD;cases hD
 obtain⟨h1,h2,h3,h4⟩:=h.com hne
 exact(conC_iff _ _).2 ⟨⟨clk_valC h.hc (h.d D hD).ext.all.sub h.rng,h1,by rw [clkE_len,h2]⟩,h4 D hD⟩
theorem common53_g(m:ModS)(ld:List Int)(l:List EvS)(cs:List (List Int))(hur:UpdsRg m) :
  CallGP Tryz.prog 6 [mdl m,ints ld,evs l,clks cs] (bl true):=by
 have ha:=awake53_g
 have hfe:=few53_c m ld l []
 have hcl:=closed32_c l
 refine CallG.of pg ord6 Tryz.func6 rfl Tryz.ntmps6 Tryz.results6 rfl fun h0 G0 O0 ga=>?_
 (repeat'(first|(show CA _ _ (Code.region 1 _ _) _ _;apply Stopped.out)|apply Sp.h|refine Lk.r rfl ?_|refine Rf.mk rfl ?_|apply All.mk|intro _));any_goals apply Stopped.mk
 rename_i b4
 repeat'(first|apply Sp.h|refine Lk.r rfl ?_|refine Rf.mk rfl ?_|refine xA ?_|refine xT ?_|refine Ch.l ⟨rfl,rfl⟩ ?_|(apply Cl.pG (ha);(focus exact ga);(focus((repeat'(first|exact Lend.nil|fail));done))))
 all_goals try exact(by assumption:False).elim
 apply Cl.fx [mdl m,ints ld,evs l,u8s []]
 focus(repeat'(first|exact FX.nil|(apply FX.sl;(focus repeat constructor);(focus exact zB rfl))|(apply FX.le;(focus first|exact ALe.refl _|exact ALe.nil))|apply FX.agg|apply FX.tup))
 refine xW (hfe) ?_
 rintro _ _ ⟨b,rfl,rfl,hfs⟩
 cases b
 ·repeat'(first|apply Sp.h|refine Lk.r rfl ?_|refine Rf.mk rfl ?_|refine xB ?_|refine xN ?_|fail)
  exact Fin.p rfl rfl
 have hfs:=hfs rfl
 have hol:m.ops.length≤1000000000:=by have:=hfs.fo;omega
 have hv:=valid13_e m hol hur
 have hev:=everything_p m hol hur
 by_cases hx:ValX m
 rotate_left
 ·rw [zF hx] at hv
  repeat'(first|apply Sp.h|refine Lk.r rfl ?_|refine Rf.mk rfl ?_|refine xA ?_|refine xB ?_|refine xT ?_|refine Ch.l ⟨rfl,rfl⟩ ?_|refine xN ?_|(apply Cl.p (hv);focus repeat' constructor))
  exact Fin.p rfl rfl
 rw [zT hx] at hv
 repeat'(first|apply Sp.h|refine Lk.r rfl ?_|refine Rf.mk rfl ?_|refine xA ?_|refine xT ?_|refine Ch.l ⟨rfl,rfl⟩ ?_|(apply Cl.p (hv);focus repeat' constructor))
 refine xW (hcl) ?_
 rintro _ _ ⟨b,rfl,rfl,hc⟩
 cases b
 ·repeat'(first|apply Sp.h|refine Lk.r rfl ?_|refine Rf.mk rfl ?_|refine xA ?_|refine xB ?_|refine xN ?_|fail)
  exact Fin.p rfl rfl
 have hc:=hc rfl
 by_cases hne:¬(0 < l.length∧1≤cs.length∧cs.length≤3)
 ·repeat'(first|apply Sp.h|refine Lk.r rfl ?_|refine Rf.mk rfl ?_|refine xA ?_|refine xB ?_|apply Bd.mk|apply Im.mk|refine xN ?_|intro _)
  all_goals first
   | exact Fin.p rfl rfl
   | exact(hne ⟨by omega,by omega,by omega⟩).elim
 obtain⟨hne1,hcs1,hcs3⟩:=Classical.not_not.1 hne
 obtain⟨d,hd⟩:=get_of (l:=l) (i:=0) hne1
 have hn:n0 l=d.past.length:=by rw [n0,hd];rfl
 have hr:=n0_rng hc (zM hd)
 have hfl:=hfs.fl
 have hor:=order32_p l hc.2.1 (by omega)
 have hol2:=ordE_len l
 repeat'(first|apply Sp.h|refine Lk.r rfl ?_|refine Rf.mk rfl ?_|refine xA ?_|refine xB ?_|apply Im.mk|intro _)
 all_goals try exact(by omega:False).elim
 refine CA.nilOwn 9 38 1 sqC rfl fun v=>?_
 refine CA.loop (fun z:Nat×Value×List (List EvS)=>⟨[(1,ints ld),(2,evs l),(4,pm b4),(9, .ow z.2.1),(60,clks cs),(61,it (cs.length:Nat)),(62,it z.1)],[mR b4 m,arrR z.2.1 38 1 ((z.2.2.map (stq m ld l)).map some) sqC]⟩)
  (fun z=>z.1≤cs.length∧z.2.2.length=z.1∧(0 < z.1→ld.length=strF m)∧∀D∈z.2.2,DlvI m l D (ordE l).length) (fun z=>cs.length - z.1) (0,v,[]) xE ⟨zZ _,rfl,fun h=>by simp at h,fun D hD=>by cases hD⟩ ?_
 rintro⟨i,v,Ds⟩ ⟨hi,hDl,hln0,hDs⟩
 simp only at hi hDl hln0 hDs
 simp only
 by_cases hin:i < cs.length
 ·obtain⟨c,hcc⟩:=get_of hin
  by_cases hnw:ld.length=strF m∧insS ld
  rotate_left
  ·have hbad:=new53_bad m (n0 l) ld hx.mok hr hnw
   rw [hn] at hbad
   repeat'(first|apply Sp.h|refine Lk.r rfl ?_|refine Rf.mk rfl ?_|refine xA ?_|refine xB ?_|refine OpK.r rfl ?_|refine Im.mk fun _=>?_|refine xT ?_|refine xI ?_|refine Ch.l ⟨rfl,rfl⟩ ?_|refine xN ?_|refine xD ?_|(apply Cl.p (hbad);focus repeat' constructor))
   all_goals first
    | exact Fin.p rfl rfl
    | exact(by omega:False).elim
  have h1:=new35_a m (n0 l) ld hx.mok hr hnw.1 hnw.2
  rw [hn] at h1
  repeat'(first|apply Sp.h|refine Lk.r rfl ?_|refine Rf.mk rfl ?_|refine xA ?_|refine OpK.r rfl ?_|apply Im.mk|refine xT ?_|refine xI ?_|refine Ch.l ⟨rfl,rfl⟩ ?_|refine xD ?_|intro _)
  refine xW (h1) ?_
  rintro _ _ ⟨p,u0,rfl,rfl⟩
  repeat'(first|apply Sp.h|refine Lk.r rfl ?_|refine Rf.mk rfl ?_|refine xA ?_|refine xB ?_|refine OpK.r rfl ?_|refine Im.mk fun _=>?_|(apply Cl.p (hor);focus repeat' constructor))
  all_goals try exact(by omega:False).elim
  refine CA.loop (fun z:Nat×Value×List EvS=>⟨[(1,ints ld),(2,evs l),(4,pm b4),(9, .ow v),(11,ints c),(12,pm p),(60,clks cs),(61,it (cs.length:Nat)),(62,it i),(84,evs (ordE l)),(85,it ((ordE l).length:Nat)),(86,it z.1)],[mR b4 m,arrR v 38 1 ((Ds.map (stq m ld l)).map some) sqC,stoR p m (stN m (n0 l) ld []) z.2.1 (stN m (n0 l) ld z.2.2),arrR z.2.1 66 13 z.2.2 evC]⟩)
   (fun z=>z.1≤(ordE l).length∧DlvI m l z.2.2 z.1) (fun z=>(ordE l).length - z.1) (0,u0,[]) (by rw [hn];exact xE) ⟨zZ _,DlvI.zero m l⟩ ?_
  rintro⟨j,u,D⟩ ⟨hj,hD⟩
  simp only at hj hD
  simp only
  have hDlen:D.length≤12:=by
   have:=hD.sub.length_le
   rw [zN] at this
   omega
  have hnow:=dlv_now hc hne1 (by omega) hnw.1 hD
  by_cases hjn:j < (ordE l).length
  ·obtain⟨e,he⟩:=get_of hjn
   have hnm:=nameR_p e
   have hhas:=hasR_p c e.rep e.num
   have hdl:=deliver_a p m (stN m (n0 l) ld []) u D (stN m (n0 l) ld D) e hx.mok hnow (by omega)
   by_cases hh:HasC c e.rep e.num
   ·rw [zT hh] at hhas
    by_cases h0:(deliverF m D (stN m (n0 l) ld D) e).1=0
    ·rw [evsD,if_pos h0,h0,deliver_is h0] at hdl
     repeat'(first|apply Sp.h|refine Lk.r rfl ?_|refine Rf.mk rfl ?_|refine xA ?_|refine All.mk fun _=>?_|refine xT ?_|refine xI ?_|refine Ch.l ⟨rfl,rfl⟩ ?_|(apply SetAsk.r;focus repeat' constructor)|refine xN ?_|(apply Cl.p (hnm);focus(repeat' constructor);done)|(apply Cl.p (hhas);focus(repeat' constructor);done))
     refine xW (hdl) ?_
     rintro _ _ ⟨rfl,u2,rfl⟩
     repeat'(first|apply Sp.h|refine Lk.r rfl ?_|refine Rf.mk rfl ?_|refine xO ?_|fail)
     exact PA.lp (j+1,u2,D ++ [e]) xE ⟨⟨hjn,hD.step hc hne1 he h0⟩,by simp only;omega⟩
    ·rw [evsD,if_neg h0,deliver_no h0] at hdl
     repeat'(first|apply Sp.h|refine Lk.r rfl ?_|refine Rf.mk rfl ?_|refine xA ?_|refine All.mk fun _=>?_|refine xT ?_|refine xI ?_|refine Ch.l ⟨rfl,rfl⟩ ?_|(apply SetAsk.r;focus repeat' constructor)|refine xN ?_|(apply Cl.p (hnm);focus(repeat' constructor);done)|(apply Cl.p (hhas);focus(repeat' constructor);done))
     refine xW (hdl) ?_
     rintro _ _ ⟨rfl,u2,rfl⟩
     repeat'(first|apply Sp.h|refine Lk.r rfl ?_|refine Rf.mk rfl ?_|refine xO ?_|fail)
     exact PA.lp (j+1,u2,D) xE ⟨⟨hjn,hD.skip⟩,by simp only;omega⟩
   ·rw [zF hh] at hhas
    repeat'(first|apply Sp.h|refine Lk.r rfl ?_|refine Rf.mk rfl ?_|refine xA ?_|refine All.mk fun _=>?_|refine xT ?_|refine xI ?_|refine Ch.l ⟨rfl,rfl⟩ ?_|(apply SetAsk.r;focus repeat' constructor)|refine xN ?_|refine xO ?_|(apply Cl.p (hnm);focus(repeat' constructor);done)|(apply Cl.p (hhas);focus(repeat' constructor);done))
    exact PA.lp (j+1,u,D) xE ⟨⟨hjn,hD.skip⟩,by simp only;omega⟩
  ·have hje:j=(ordE l).length:=by omega
   subst hje
   (repeat'(first|(show CA _ _ (Code.region 18 _ _) _ _;apply Stopped.out)|apply Sp.h|refine Lk.r rfl ?_|refine Rf.mk rfl ?_|refine xB ?_|fail));any_goals apply Stopped.mk
   (apply CA.own;(focus(apply OX.blk (b:=p);(focus repeat constructor);(focus(repeat'(first|exact FX.nil|(apply FX.s1;(focus repeat constructor);(focus first|omega|(simp;done)|(simp;omega)))|apply FX.k)));(focus repeat constructor))))
   apply CA.freezeB 12
   focus rfl
   focus(repeat constructor)
   have hsu:((Ds ++ [D]).map (stq m ld l)).map some=(Ds.map (stq m ld l)).map some ++ [some (stq m ld l D)]:=by simp
   have hal:((Ds.map (stq m ld l)).map some).length=i:=by simp [hDl]
   have inv:Inv sqC [.ad (stoV m (stN m (n0 l) ld []) D (stN m (n0 l) ld D)) 0] (some (stq m ld l D)):=⟨rfl⟩
   repeat'(first|apply Sp.h|refine Lk.r rfl ?_|refine Rf.mk rfl ?_|refine xP ?_|apply All.mk|refine xU ?_|refine Ce.r ?_|(apply Fk.r;focus repeat' first|infer_instance|constructor)|refine Rf.mk ⟨rfl,rfl⟩ ?_|refine Rf.mk ⟨rfl,rfl,rfl⟩ ?_|(apply Mp.lit;(focus repeat(first|exact MpL.nil|(apply MpL.cons;(focus rfl))|(apply MpL.inv;(focus repeat constructor);(focus infer_instance)))))|refine xO ?_|intro _)
   rw [←hsu]
   exact PA.lp (i+1,_,Ds ++ [D]) xE ⟨⟨hin,by simp [hDl],fun _=>hnw.1,fun E hE=>(zV.1 hE).elim (hDs E) fun h=>by rw [zH.1 h];exact hD⟩,by simp only;omega⟩
 have hie:i=cs.length:=by omega
 subst hie
 have hH:ComH m ld l Ds:=⟨hx.mok,hx.fit,hc,hne1,by omega,hln0 (by omega),hDs⟩
 have hDne:Ds≠ []:=fun h=>by rw [h,List.length_nil] at hDl;omega
 obtain⟨D0,hD0⟩:=get_of (l:=Ds) (i:=0) (by omega)
 have hD0m:=zM hD0
 have hcom:=hH.call hDne (by omega)
 have hcon:=fun D (hD:D∈Ds)=>hH.con hD
 have hread:=fun D (hD:D∈Ds)=>hH.read hx hur hD hD0m
 obtain⟨r1,r2⟩:=hH.rowl hD0m
 have hmore:=fun r z=>hH.more hDne (r:=r) (z:=z)
 have hless:=hH.less (cs.length - 1)
 have hcall2:=(hH.take (cs.length - 1)).call
 obtain⟨c1,c2,c3,c4⟩:=hH.com hDne
 have hal:((Ds.map (stq m ld l)).map some).length=cs.length:=by simp [hDl]
 generalize rowsF m (stN m (n0 l) ld []) D0 (comC l Ds) (evyL m)=rows at hread r1 r2
 obtain⟨C,hC⟩:∃C,C=comC l Ds:=⟨_,rfl⟩
 rw [←hC] at hcom hcon hread hmore hless c1 c2 c3 c4
 have hQl:=evyL_len m
 (repeat'(first|(show CA _ _ (Code.region 20 _ _) _ _;apply Stopped.out)|apply Sp.h|refine Lk.r rfl ?_|refine Rf.mk rfl ?_|refine xB ?_|fail));any_goals apply Stopped.mk
 apply CA.freeze 9
 focus rfl
 focus(repeat constructor)
 focus omega
 have hg0:((Ds.map (stq m ld l)).map some)[0]?=some (some (stq m ld l D0)):=by rw [zG,zG,hD0];rfl
 repeat'(first|apply Sp.h|refine Lk.r rfl ?_|refine Rf.mk rfl ?_|refine xA ?_|refine OpK.r rfl ?_|refine xT ?_|refine xI ?_|refine Ch.l ⟨rfl,rfl⟩ ?_|refine xD ?_|(apply Cl.p (hcom);focus repeat' constructor)|(apply Cl.p (hev);focus repeat' constructor))
 all_goals try exact(by omega:False).elim
 refine Cl.readG (hread D0 hD0m) ga ⟨r1,r2⟩ (by repeat'(first|exact Lend.nil|apply Lend.keep|fail)) ?_
 repeat'(first|apply Sp.h|refine Lk.r rfl ?_|refine Rf.mk rfl ?_|refine OpK.r rfl ?_|apply Im.mk|intro _)
 refine CA.loop (fun i:Nat=>⟨[(4,pm b4),(9, .sl 1 ((Ds.map (stq m ld l)).map some) sqC),(16,ints C),(18,qrys (evyL m)),(19,clks rows),(122, .sl 1 ((Ds.map (stq m ld l)).map some) sqC),(123,it (((Ds.map (stq m ld l)).map some).length:Nat)),(124,it i)],[mR b4 m]⟩) (fun i=>i≤Ds.length) (fun i=>Ds.length - i) 0 xE (zZ _) ?_
 intro i hi
 by_cases hin:i < Ds.length
 ·obtain⟨D,hD⟩:=get_of hin
  have hDm:=zM hD
  have hg:((Ds.map (stq m ld l)).map some)[i]?=some (some (stq m ld l D)):=by rw [zG,zG,hD];rfl
  have hsm:=same53_p rows rows
  rw [zT rfl] at hsm
  have hck:=sclock_z m (stN m (n0 l) ld []) (stN m (n0 l) ld D) D (hH.shw hDm).ck
  have hcn:=contains52_p (stN m (n0 l) ld D).clock C
  rw [zT (show ConC (stN m (n0 l) ld D).clock C from hcon D hDm)] at hcn
  repeat'(first|apply Sp.h|refine Lk.r rfl ?_|refine Rf.mk rfl ?_|refine xA ?_|refine xT ?_|refine xI ?_|refine Ch.l ⟨rfl,rfl⟩ ?_|fail)
  refine Cl.readG (hread D hDm) ga ⟨r1,r2⟩ (by repeat'(first|exact Lend.nil|apply Lend.keep|fail)) ?_
  repeat'(first|apply Sp.h|refine Lk.r rfl ?_|refine Rf.mk rfl ?_|refine xA ?_|refine xO ?_|(apply Cl.p (hsm);focus(repeat' constructor);done)|(apply Cl.p (hck);focus(repeat' constructor);done)|(apply Cl.p (hcn);focus(repeat' constructor);done))
  all_goals first
   | exact PA.lp (i+1) xE ⟨hin,by omega⟩
   | exact(by omega:False).elim
 have hie:i=Ds.length:=by omega
 subst hie
 have hcl2:=clone_o C (by omega)
 repeat'(first|apply Sp.h|refine Lk.r rfl ?_|refine Rf.mk rfl ?_|refine xB ?_|apply Im.mk|intro _)
 refine CA.loop (fun r:Nat=>⟨[(9, .sl 1 ((Ds.map (stq m ld l)).map some) sqC),(16,ints C),(152,ints C),(153,it (C.length:Nat)),(154,it r)],[mR b4 m]⟩) (fun r=>r≤C.length) (fun r=>C.length - r) 0 xE (zZ _) ?_
 intro r hr2
 by_cases hrn:r < C.length
 ·obtain⟨z,hz⟩:=get_of hrn
  have hz2:=c1.1 z (zM hz)
  unfold rngK at hz2
  obtain⟨D,hDm,hDk⟩:=hmore r z hz
  have hct:=containsT53_p (Ds.map (stq m ld l)) (fun s hs=>by obtain⟨E,hE,rfl⟩:=List.mem_map.1 hs;exact hH.shw hE) (C.set r (z+1))
  rw [zT ⟨stq m ld l D,List.mem_map_of_mem hDm,hDk⟩] at hct
  repeat'(first|apply Sp.h|refine Lk.r rfl ?_|refine Rf.mk rfl ?_|refine xA ?_|fail)
  (refine Cl.use (hcl2) (by repeat'(first|exact Lend.nil|apply Lend.keep|fail)) .nil rfl ?_;rintro _ _ ⟨_,rfl,rfl⟩)
  (repeat'(first|(show CA _ _ (Code.region 36 _ _) _ _;apply Stopped.out)|apply Sp.h|refine Lk.r rfl ?_|refine Rf.mk rfl ?_|apply All.mk|refine xT ?_|refine xV ?_|refine xN ?_|intro _));any_goals apply Stopped.mk
  rename_i w26 b26
  (repeat'(first|(show CA _ _ (Code.region 37 _ _) _ _;apply Stopped.out)|apply Sp.h|refine Lk.r rfl ?_|refine Rf.mk rfl ?_|refine xU ?_|refine xT ?_|refine xI ?_|refine xJ ?_|refine xV ?_|refine Up.r rfl ?_|refine xO ?_|fail));any_goals apply Stopped.mk
  (apply CA.own;(focus(apply OX.blk (b:=b26);(focus repeat constructor);(focus(repeat'(first|exact FX.nil|(apply FX.s1;(focus repeat constructor);(focus first|omega|(simp;done)|(simp;omega)))|apply FX.k)));(focus repeat constructor))))
  apply CA.freezeB 26
  focus rfl
  focus(repeat constructor)
  repeat'(first|apply Sp.h|refine Lk.r rfl ?_|refine Rf.mk rfl ?_|refine xA ?_|refine xO ?_|(apply Cl.p (hct);focus repeat' constructor))
  exact PA.lp (r+1) xE ⟨hrn,by omega⟩
 repeat'(first|apply Sp.h|refine Lk.r rfl ?_|refine Rf.mk rfl ?_|refine xB ?_|apply Im.mk|refine xO ?_|intro _)
 rw [show(((Ds.map (stq m ld l)).map some).length:Int) - 1=((cs.length - 1:Nat):Int) by omega]
 repeat'(first|apply Sp.h|refine Lk.r rfl ?_|refine Rf.mk rfl ?_|(apply Jx.r;(focus exact rfl);(focus first|omega|(simp;done)|(simp;omega)))|fail)
 rw [show List.take (cs.length - 1 - 0) (List.drop 0 (List.map some (List.map (stq m ld l) Ds)))=((Ds.take (cs.length - 1)).map (stq m ld l)).map some by rw [List.drop_zero,Nat.sub_zero,List.map_take,List.map_take]]
 by_cases h1:cs.length=1
 ·have hz:Ds.take (cs.length - 1)= []:=by rw [h1];rfl
  have hcn:=com_nil
  rw [hz]
  repeat'(first|apply Sp.h|refine Lk.r rfl ?_|refine Rf.mk rfl ?_|refine xA ?_|refine Im.mk fun _=>?_|refine xN ?_|(apply Cl.p (hcn);focus repeat' constructor))
  all_goals first
   | exact Fin.p rfl rfl
   | exact(by omega:False).elim
 ·have hz:Ds.take (cs.length - 1)≠ []:=fun h=>by
   have:=congrArg List.length h
   rw [zN,List.length_nil] at this
   omega
  have hc2:=hcall2 hz (by rw [zN];omega)
  have hcn:=contains52_p (comC l (Ds.take (cs.length - 1))) C
  rw [zT (hless hz)] at hcn
  repeat'(first|apply Sp.h|refine Lk.r rfl ?_|refine Rf.mk rfl ?_|refine xA ?_|refine xB ?_|refine Im.mk fun _=>?_|refine xN ?_|(apply Cl.p (hc2);focus repeat' constructor)|(apply Cl.p (hcn);focus repeat' constructor))
  all_goals first
   | exact Fin.p rfl rfl
   | exact(by omega:False).elim
end Go.Proofs.YtmjllbjfkafhdaaGreatDoor
