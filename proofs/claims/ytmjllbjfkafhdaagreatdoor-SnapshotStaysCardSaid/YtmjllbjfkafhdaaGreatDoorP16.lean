/- Part 16 of the ground of this proof: what its texts say of the model, the program and the plain data; conditions: those that are named. -/
import Derived.Test.YtmjllbjfkafhdaaGreatDoorP15
namespace Go.CF
open Go
theorem Cl.resx{Γ:Cx}{c:Cls}{o:List Res}{f:FuncId}{ax:List AV}{M' M:AV→List Res→Prop}(h:Cl Γ c f ax o M')(hM:∀r o',M' r o'→∃a o2,FX o' [r] [a] o2∧M a o2) : Cl Γ c f ax o M:=by
 refine⟨fun {hh G Os vs} hp hr=>(h.ok hp hr).mono fun v h' ⟨g1,r,o',G',Os',g2,g3,g4,g5,g6⟩=>?_⟩
 obtain⟨a,o2,x,hm⟩:=hM r o' g2
 obtain⟨G2,Os2,k1,k2,k3⟩:=x.rep g4 (vs:= [v]) ⟨g3,trivial⟩
 exact⟨g1,a,o2,G2,Os2,hm,k2.1,k1,g5,fun b hb=>k3 b (g6 b hb)⟩
theorem CallG.fx{P:Program}{f:FuncId}{ax:List AV}{own:List Res}{K:AV→List Res→Prop}{a:AV}(h:CallG P f ax own K)(hK:∀r o,K r o→FX o [r] [a] []) : CallG P f ax own fun q o=>q=a∧o= [] :=
 ⟨fun hh G Os vs h1 h2 ha=>(h.run hh G Os vs h1 h2 ha).mono fun v' h' ⟨r,o,G',Os',hk,g1,g2⟩=>by
  obtain⟨G2,Os2,k1,k2,k3⟩:=(hK r o hk).rep g2 (vs:= [v']) ⟨g1,trivial⟩
  exact⟨a,[],G2,Os2,⟨rfl,rfl⟩,k2.1,k1⟩⟩
end Go.CF
set_option maxRecDepth 100000
set_option maxHeartbeats 80000000
namespace Go.Proofs.YtmjllbjfkafhdaaGreatDoor
open Go Go.CF
theorem rd_fx{rows:List (List Int)}(hl:rows.length≤1000000)(hm:∀x∈rows,x.length≤1000000){r:AV}{own o:List Res}(h:RdK 0 rows r own) : FX (own ++ o) [r] [.tup [clks rows,it 0]] o:=by
 rcases h with⟨h,_⟩|⟨_,v,L,rfl,rfl,rfl⟩
 ·exact absurd rfl h
 refine .tup (cls_fx (by simpa using hl) (fun x hx=>hm _ (List.mem_map_of_mem hx)) (.le (ALe.refl _) .nil)) .nil
theorem Cl.readG{Γ:Cx}{c:Cls}{o:List Res}{f:FuncId}{ax ax':List AV}{rows:List (List Int)}{M:AV→List Res→Prop}(hc:CallG Γ.P f ax' [] (RdK 0 rows))(ga:AmbF Γ.P Γ.h0 Γ.G0 Γ.O0)(hs:rows.length≤1000000∧∀x∈rows,x.length≤1000000)(hl:Lend o ax ax')(hm:M (.tup [clks rows,it 0]) o) : Cl Γ c f ax o M :=
 Cl.resx (M':=fun r o'=>∃own,RdK 0 rows r own∧o'=own ++ o) (Cl.lendOG hc ga hl flat_rd fun r own h=>⟨own,h,rfl⟩) fun r o' ⟨own,h,e⟩=>by
  subst e
  exact⟨_,_,rd_fx hs.1 hs.2 h,hm⟩
def cs53 : List (List Int×Int):= [([1,0],5),([0,1],2),([1,1],4),([0,0],3)]
def csC(q:List Int×Int) : List AV:= [ints q.1,it q.2]
theorem shw5{b:NowS}{l:List EvS}{w:NowS}(hb:SzN b)(hw:w.clock= [1,1])(hl:∀e∈l,e=ca∨e=cb)(hn:l.length≤2) : ShwS b l w:=by
 refine⟨hb,by rw [hw];decide,by omega,fun e he=>?_⟩
 rcases hl e he with rfl|rfl <;> decide
theorem ev5{l:List EvS}{w:NowS}(hw:w.clock= [1,1])(hl:∀e∈l,e=ca∨e=cb) :∀e∈l,EvV cn5M (w.clock.length:Nat) e:=by
 intro e he
 rw [hw]
 rcases hl e he with rfl|rfl
 ·exact ev5_ca
 ·exact ev5_cb
theorem read5{b:NowS}{l:List EvS}{w:NowS}{c:List Int}{x:Int}(hb:SzN b)(hbs:b.state.length=1)(hw:w.clock= [1,1])(hl:∀e∈l,e=ca∨e=cb)(hn:l.length≤2)(hc:chkF b.clock l [1,1] c=0)(hx:snpS cn5M b l c= [x]) :
  CallG Tryz.prog 16 [mdl cn5M, .ad (stoV cn5M b l w) 0,ints c,qrys [(0,0)]] [] (RdK 0 [[x]]):=by
 have h:=sread_g cn5M b l w c [(0,0)] (shw5 hb hw hl hn) cn5_ok cn5_upd (by rw [cn5_str];exact hbs) (ev5 hw hl) (fun _=>snp5_ok b l c) (by decide)
 rw [rdF,if_pos cn5_q0,hw,hc,rows5 hx] at h
 exact h
theorem sz5 : SzN (stN cn5M 2 [3] []):=by
 refine⟨by simp [stN,clkE],by simp [stN], ?_, ?_,by simp [stN]⟩
 ·simp only [stN,List.foldl_nil,cn5_mrg];simp
 ·simp only [stN,List.foldl_nil,cn5_mrg];simp
theorem l5 :∀e∈ [ca,cb],e=ca∨e=cb:=fun e he=>by simpa using he
theorem read5a(i:Nat)(q:List Int×Int)(hq:cs53[i]?=some q) : CallG Tryz.prog 16 [mdl cn5M, .ad (stoV cn5M (stN cn5M 2 [3] []) [ca,cb] (stN cn5M 2 [3] [ca,cb])) 0,ints q.1,qrys [(0,0)]] [] (RdK 0 [[q.2]]):=by
 obtain⟨s1,s2,s3,s4⟩:=shows5 (stN cn5M 2 [3] []) rfl
 have hk:∀c d:Int,0≤c∧c≤1→0≤d∧d≤1→chkF (stN cn5M 2 [3] []).clock [ca,cb] [1,1] [c,d]=0:=fun c d hc hd=>by
  rw [show(stN cn5M 2 [3] []).clock= [0,0] from rfl,chk5 l5 (by decide) (by decide) (by omega) (by omega),if_pos (by omega),if_pos (by omega)]
 match i,hq with
 | 0,hq=>cases hq;exact read5 sz5 rfl rfl l5 (by decide) (hk _ _ (by decide) (by decide)) s1
 | 1,hq=>cases hq;exact read5 sz5 rfl rfl l5 (by decide) (hk _ _ (by decide) (by decide)) s2
 | 2,hq=>cases hq;exact read5 sz5 rfl rfl l5 (by decide) (hk _ _ (by decide) (by decide)) s3
 | 3,hq=>cases hq;exact read5 sz5 rfl rfl l5 (by decide) (hk _ _ (by decide) (by decide)) s4
 | n+4,hq=>cases hq
theorem now5{b:NowS}{l:List EvS}{w:NowS}{x:Int}(hb:SzN b)(hbs:b.state.length=1)(hw:w.clock= [1,1])(hl:∀e∈l,e=ca∨e=cb)(hn:l.length≤2)(hc:chkF b.clock l [1,1] [1,1]=0)(hx:snpS cn5M b l [1,1]= [x]) :
  CallGP Tryz.prog 18 [mdl cn5M, .ad (stoV cn5M b l w) 0,qrys [(0,0)]] (.tup [clks [[x]],ints [1,1],it 0]):=by
 have h:=snow_g cn5M b l w [(0,0)] (shw5 hb hw hl hn) cn5_ok cn5_upd (by rw [cn5_str];exact hbs) (ev5 hw hl) (fun _=>snp5_ok b l _) (by decide)
 rw [rdF,if_pos cn5_q0,hw,hc,rows5 hx] at h
 refine CallG.fx h ?_
 rintro r o (⟨h,_⟩|⟨_,v,L,u,rfl,rfl,hL⟩)
 ·exact absurd rfl h
 rw [←hL]
 have hl:L.length=1:=by rw [←List.length_map (f:=ClE.c),hL];rfl
 refine .tup (cls_fx (by omega) (fun y hy=>?_) (.s1 .here (by simp) (.le (ALe.refl _) .nil))) .nil
 have:=List.mem_map_of_mem (f:=ClE.c) hy
 rw [hL] at this
 simp at this
 rw [this];simp
theorem com5_p(s:StoQ)(hb:SzN s.b)(hw:s.w.clock= [1,1])(hbc:s.b.clock= [1,0])(hl:∀e∈s.l,e=ca∨e=cb)(hn:s.l.length≤2) :
  CallP Tryz.prog 39 [.sl 1 [some s,some s] sqC] (.tup [ints [1,1],it 0]):=by
 have h:=scommon_a [some s,some s] (by simp) (fun s' hs=>by
  simp only [List.mem_cons,List.not_mem_nil,or_false,or_self,Option.some.injEq] at hs
  subst hs
  exact shw5 hb hw hl hn)
 rw [(com5 s hw hbc).1,(com5 s hw hbc).2] at h
 refine CallA.fx h ?_
 rintro r o (⟨h,_⟩|⟨_,u,rfl,rfl⟩)
 ·exact absurd rfl h
 exact .tup (.s1 .here (by simp) (.le (ALe.refl _) .nil)) .nil
theorem chg5_g{b:NowS}{l:List EvS}{w:NowS}{a c:List Int}(hb:SzN b)(hbs:b.state.length=1)(hw:w.clock= [1,1])(hl:∀e∈l,e=ca∨e=cb)(hn:l.length≤2)(hca:chkF b.clock l [1,1] a=0)(hcc:chkF b.clock l [1,1] c=0)(ha:snpS cn5M b l a= [5])(hc:snpS cn5M b l c= [4]) :
  CallGP Tryz.prog 45 [mdl cn5M, .ad (stoV cn5M b l w) 0,ints a,ints c] (.tup [qrys [(0,0)],it 0]):=by
 have h:=schanged_g cn5M b l w a c (shw5 hb hw hl hn) cn5_ok cn5_upd (by rw [cn5_str];exact hbs) (ev5 hw hl) (fun _=>snp5_ok b l _) (fun _=>snp5_ok b l _)
 rw [chgC,if_pos cn5_val,hw,if_pos hca,hcc,chg5 ha hc] at h
 refine CallG.fx h ?_
 rintro r o (⟨h,_⟩|⟨_,u,rfl,rfl⟩)
 ·exact absurd rfl h
 exact .tup (.s1 .here (by simp) (.le (ALe.refl _) .nil)) .nil
theorem stN_ok5(X:List EvS)(hX:∀e∈X,e∈ [ca,cb])(hl:X.length≤1000) : NowOK cn5M (stN cn5M 2 [3] X):=by
 have h:=stN_okC X hX hl
 exact⟨h.clk,h.st,h.pls,h.pll⟩
theorem awake53_g : CallGP Tryz.prog 9 [] (bl true):=by
 have hc:=exm_p
 have h1:CallA Tryz.prog 35 [mdl cn5M,it 2,ints [3]] [] fun q own=>∃p v,q= .tup [pm p,it 0]∧own= [stoR p cn5M (stN cn5M 2 [3] []) v (stN cn5M 2 [3] []),arrR v 66 13 [] evC]:=new35_a cn5M 2 [3] cn5_ok (by decide) (by rw [cn5_str];rfl) (insS_ld (by simp))
 have h3:∀p v,CallA Tryz.prog 37 [pm p,evA' ca] [stoR p cn5M (stN cn5M 2 [3] []) v (stN cn5M 2 [3] []),arrR v 66 13 ([]:List EvS) evC] fun r own=>r=it 0∧∃v',own= [stoR p cn5M (stN cn5M 2 [3] []) v' (stN cn5M 2 [3] [ca]),arrR v' 66 13 [ca] evC]:=fun p v=>by
  have:=deliver_a p cn5M (stN cn5M 2 [3] []) v [] (stN cn5M 2 [3] []) ca cn5_ok (stN_ok5 [] (by simp) (by simp)) (by simp)
  rw [evsD,cab5_1,if_pos rfl] at this
  exact this
 have h4:∀p v,CallA Tryz.prog 37 [pm p,evA' cb] [stoR p cn5M (stN cn5M 2 [3] []) v (stN cn5M 2 [3] [ca]),arrR v 66 13 [ca] evC] fun r own=>r=it 0∧∃v',own= [stoR p cn5M (stN cn5M 2 [3] []) v' (stN cn5M 2 [3] [ca,cb]),arrR v' 66 13 [ca,cb] evC]:=fun p v=>by
  have:=deliver_a p cn5M (stN cn5M 2 [3] []) v [ca] (stN cn5M 2 [3] [ca]) cb cn5_ok (stN_ok5 [ca] (by simp) (by simp)) (by simp)
  rw [evsD,cab5_2,if_pos rfl] at this
  exact this
 obtain⟨B,N,c1,c2,c3,c4,c5⟩:=cab5_4
 have h5:∀p v,CallA Tryz.prog 44 [pm p,ints [1,0]] [stoR p cn5M (stN cn5M 2 [3] []) v (stN cn5M 2 [3] [ca,cb]),arrR v 66 13 [ca,cb] evC] fun r own=>r=it 0∧∃v',own= [stoR p cn5M B v' N,arrR v' 66 13 [cb] evC]:=fun p v=>by
  have hN:=stN_ok5 [ca,cb] (by simp) (by simp)
  have h0:=stN_ok5 [] (by simp) (by simp)
  have:=compact_a p cn5M (stN cn5M 2 [3] []) v [ca,cb] (stN cn5M 2 [3] [ca,cb]) [1,0] cn5_ok hN ⟨h0.clk,rfl,h0.st,by simp only [stN,List.foldl_nil,cn5_mrg];exact⟨by simp,by simp⟩,h0.pls,by simp [stN]⟩ (by simp) (fun e he=>by
   rcases l5 e he with rfl|rfl
   ·exact ev5_ca
   ·exact ev5_cb)
  rw [c1] at this
  exact this
 have hrd:=read5a
 have hlb:∀e∈ [cb],e=ca∨e=cb:=fun e he=>by right;simpa using he
 have hsw:=shw5 (l:= [cb]) c3 c4 hlb (by decide)
 have k7:=scheck_p cn5M B [cb] N [0,1] hsw
 have k11:=scheck_p cn5M B [cb] N [2,1] hsw
 have k0:=scheck_p cn5M B [cb] N [1,1] hsw
 have r10:chkF B.clock [cb] [1,1] [1,0]=0:=by rw [c5,chk5 hlb (by decide) (by decide) (by decide) (by decide)];rfl
 have r11:chkF B.clock [cb] [1,1] [1,1]=0:=by rw [c5,chk5 hlb (by decide) (by decide) (by decide) (by decide)];rfl
 rw [c4,c5,chk5 hlb (by decide) (by decide) (by decide) (by decide),if_neg (by decide)] at k7
 rw [c4,c5,chk5 hlb (by decide) (by decide) (by decide) (by decide),if_pos (by decide),if_neg (by decide)] at k11
 rw [c4,r11] at k0
 obtain⟨s1,s2⟩:=shows5' B c2
 have m1:=now5 c3 (by rw [c2];rfl) c4 hlb (by decide) r11 s2
 have m2:=com5_p ⟨cn5M,B,[cb],N⟩ c3 c4 c5 hlb (Nat.le_succ 1)
 have m3:=chg5_g c3 (by rw [c2];rfl) c4 hlb (by decide) r10 r11 s1 s2
 have m4:=svalid_g cn5M [(0,0)] (by decide) cn5_upd
 have m5:=svalid_g cn5M [(0,1)] (by decide) cn5_upd
 rw [zT cn5_q0] at m4
 rw [zF (fun h:QrysX cn5M [(0,1)]=>absurd ((cn5_qry 0 1).1 (h.2 _ (by simp))).1 (by decide))] at m5
 have e2:=equal_p [1,1] [1,1]
 have e3:=equalQ_p [(0,0)] [(0,0)]
 rw [zT rfl] at e2 e3
 obtain⟨M,hM⟩:∃M:ModS,M=cn5M:=⟨_,rfl⟩
 obtain⟨B0,hB0⟩:∃B:NowS,B=stN cn5M 2 [3] []:=⟨_,rfl⟩
 obtain⟨N1,hN1⟩:∃B:NowS,B=stN cn5M 2 [3] [ca]:=⟨_,rfl⟩
 obtain⟨N2,hN2⟩:∃B:NowS,B=stN cn5M 2 [3] [ca,cb]:=⟨_,rfl⟩
 rw [←hB0,←hM] at h1
 rw [←hB0,←hN1,←hM] at h3
 rw [←hB0,←hN1,←hN2,←hM] at h4
 rw [←hB0,←hN2,←hM] at h5 hrd
 rw [←hM] at hc k7 k11 k0 m1 m2 m3 m4 m5
 have hi0:([ca,cb]:List EvS)[0]?=some ca:=rfl
 have hi1:([ca,cb]:List EvS)[1]?=some cb:=rfl
 refine CallG.of pg ord9 Tryz.func9 rfl Tryz.ntmps9 Tryz.results9 rfl fun h0 G0 O0 ga=>?_
 repeat'(first|apply Sp.h|refine Lk.r rfl ?_|refine Rf.mk rfl ?_|refine All.mk fun _=>?_|refine xT ?_|refine Ch.l ⟨rfl,rfl⟩ ?_|(apply SetAsk.r;focus repeat' constructor)|(apply Fk.r;focus repeat' first|infer_instance|constructor)|refine xN ?_|refine Rf.mk ⟨rfl,rfl,rfl⟩ ?_|(apply Cl.p (hc);(focus repeat'(first|exact Lend.nil|fail))))
 apply Cl.fx [mdl M,it 2,ints [3]]
 focus(repeat'(first|exact FX.nil|(apply FX.sl;(focus repeat constructor);(focus exact zB rfl))|(apply FX.le;(focus first|exact ALe.refl _|exact ALe.nil))|apply FX.agg|apply FX.tup))
 refine xW (h1) ?_
 rintro _ _ ⟨p,v,rfl,rfl⟩
 repeat'(first|apply Sp.h|refine Lk.r rfl ?_|refine Rf.mk rfl ?_|refine xA ?_|refine xB ?_|refine xI ?_|refine Ch.l ⟨rfl,rfl⟩ ?_|fail)
 refine xW (h3 p v) ?_
 rintro _ _ ⟨rfl,v1,rfl⟩
 repeat'(first|apply Sp.h|refine Lk.r rfl ?_|refine Rf.mk rfl ?_|refine xA ?_|refine xB ?_|refine xI ?_|refine Ch.l ⟨rfl,rfl⟩ ?_|fail)
 refine xW (h4 p v1) ?_
 rintro _ _ ⟨rfl,v2,rfl⟩
 (repeat'(first|(show CA _ _ (Code.block 0 _) _ _;apply Stopped.out)|apply Sp.h|refine Lk.r rfl ?_|refine Rf.mk rfl ?_|refine xA ?_|apply All.mk|refine xU ?_|refine xT ?_|(apply SetAsk.r;focus repeat' constructor)|(apply Fk.r;focus repeat' first|infer_instance|constructor)|refine xN ?_|refine Rf.mk ⟨rfl,rfl,rfl⟩ ?_|intro _));any_goals apply Stopped.mk
 rename_i b1 w1 b5 w2 w3 w4 w5 w6
 apply CA.freezeX 57 (b:= .sl 2 cs53 csC)
 focus rfl
 focus(repeat'(first|exact FX.nil|(apply FX.sl;(focus repeat constructor);(focus exact zB rfl))|(apply FX.le;(focus first|exact ALe.refl _|exact ALe.nil))|apply FX.agg|apply FX.tup))
 repeat'(first|apply Sp.h|fail)
 refine CA.loop (fun i:Nat=>⟨[(1,pm b1),(3,pm p),(5,pm b5),(57, .sl 2 cs53 csC),(58,it 4),(59,it i)],[blkR b1 30 (modC M),blkR b5 102 [it 0,it 0],stoR p M B0 v2 N2,arrR v2 66 13 [ca,cb] evC]⟩) (fun i=>i≤4) (fun i=>4 - i) 0 xE (zZ _) ?_
 intro i hi
 by_cases hin:i < 4
 ·obtain⟨q,hq⟩:∃q,cs53[i]?=some q:=get_of hin
  have hr:=hrd i q hq
  have he:=equal_p [q.2] [q.2]
  have hq0: [[q.2]][0]?=some [q.2]:=rfl
  rw [zT rfl] at he
  repeat'(first|apply Sp.h|refine Lk.r rfl ?_|refine Rf.mk rfl ?_|refine xA ?_|apply All.mk|refine xT ?_|refine xI ?_|refine Ch.l ⟨rfl,rfl⟩ ?_|(apply SetAsk.r;focus repeat' constructor)|(apply Fk.r;focus repeat' first|infer_instance|constructor)|refine xN ?_|refine Rf.mk ⟨rfl,rfl,rfl⟩ ?_|intro _)
  refine Cl.readG hr ga ⟨by simp,by simp⟩ (by repeat'(first|exact Lend.nil|apply Lend.keep|(apply Lend.lendm;(focus repeat constructor);(focus rfl);(focus first|omega|decide|(simp;omega)|exact zB rfl))|(apply Lend.cell;(focus repeat constructor))|fail)) ?_
  repeat'(first|apply Sp.h|refine Lk.r rfl ?_|refine Rf.mk rfl ?_|refine xA ?_|refine OpK.r rfl ?_|refine Im.mk fun _=>?_|refine All.mk fun _=>?_|refine xT ?_|refine xI ?_|(apply Fk.r;focus repeat' first|infer_instance|constructor)|refine Rf.mk ⟨rfl,rfl,rfl⟩ ?_|refine xD ?_|refine xO ?_|(apply Cl.lend (he);(focus((repeat'(first|exact Lend.nil|apply Lend.keep|(apply Lend.lendm;(focus repeat constructor);(focus rfl);(focus first|omega|decide|(simp;omega)|exact zB rfl))|fail));done))))
  all_goals exact PA.lp (i+1) xE ⟨by omega,by omega⟩
 ·have:i=4:=by omega
  subst this
  repeat'(first|apply Sp.h|refine Lk.r rfl ?_|refine Rf.mk rfl ?_|refine xB ?_|apply All.mk|(apply Fk.r;focus repeat' first|infer_instance|constructor)|refine Rf.mk ⟨rfl,rfl,rfl⟩ ?_|intro _)
  apply Cl.fx [pm p,ints [1,0]]
  focus(repeat'(first|exact FX.nil|(apply FX.sl;(focus repeat constructor);(focus exact zB rfl))|(apply FX.le;(focus first|exact ALe.refl _|exact ALe.nil))|apply FX.agg|apply FX.tup))
  refine xW (h5 p v2) ?_
  rintro _ _ ⟨rfl,v3,rfl⟩
  repeat'(first|apply Sp.h|refine Lk.r rfl ?_|refine Rf.mk rfl ?_|refine xA ?_|apply All.mk|(apply Fk.r;focus repeat' first|infer_instance|constructor)|refine Rf.mk ⟨rfl,rfl,rfl⟩ ?_|intro _)
  repeat'(first|(show CA _ _ (Code.region 15 _ _) _ _;apply Stopped.out)|apply Sp.h|refine Lk.r rfl ?_|refine Rf.mk rfl ?_|refine xA ?_|refine All.mk fun _=>?_|(apply Fk.r;focus repeat' first|infer_instance|constructor)|refine Rf.mk ⟨rfl,rfl,rfl⟩ ?_|(apply Cl.lend k7;(focus((repeat'(first|exact Lend.nil|apply Lend.keep|(apply Lend.lendm;(focus repeat constructor);(focus rfl);(focus first|omega|decide|(simp;omega)|exact zB rfl))|(apply Lend.cell;(focus repeat constructor))|fail));done)))|(apply Cl.lend k11;(focus((repeat'(first|exact Lend.nil|apply Lend.keep|(apply Lend.lendm;(focus repeat constructor);(focus rfl);(focus first|omega|decide|(simp;omega)|exact zB rfl))|(apply Lend.cell;(focus repeat constructor))|fail));done)))|(apply Cl.lend k0;(focus((repeat'(first|exact Lend.nil|apply Lend.keep|(apply Lend.lendm;(focus repeat constructor);(focus rfl);(focus first|omega|decide|(simp;omega)|exact zB rfl))|(apply Lend.cell;(focus repeat constructor))|fail));done))))
  any_goals apply Stopped.mk
  (apply CA.own;(focus(apply OX.blk (b:=p);(focus repeat constructor);(focus(repeat'(first|exact FX.nil|(apply FX.s1;(focus repeat constructor);(focus first|omega|(simp;done)|(simp;omega)))|apply FX.k)));(focus repeat constructor))))
  apply CA.freezeB 3
  focus rfl
  focus(repeat constructor)
  repeat'(first|apply Sp.h|refine Lk.r rfl ?_|refine Rf.mk rfl ?_|apply All.mk|refine xT ?_|refine Ch.l ⟨rfl,rfl⟩ ?_|(apply Fk.r;focus repeat' first|infer_instance|constructor)|refine Rf.mk ⟨rfl,rfl,rfl⟩ ?_|intro _)
  apply Cl.fx [mdl M, .ad (stoV M B [cb] N) 0,qrys [(0,0)]]
  focus(repeat'(first|exact FX.nil|(apply FX.sl;(focus repeat constructor);(focus exact zB rfl))|(apply FX.le;(focus first|exact ALe.refl _|exact ALe.nil))|apply FX.agg|apply FX.tup))
  (apply Cl.pG (m1);(focus exact ga);focus repeat' constructor)
  repeat'(first|apply Sp.h|refine Lk.r rfl ?_|refine Rf.mk rfl ?_|apply All.mk|(apply Fk.r;focus repeat' first|infer_instance|constructor)|refine Rf.mk ⟨rfl,rfl,rfl⟩ ?_|intro _)
  apply Cl.fx [.sl 1 [some ⟨M,B,[cb],N⟩,some ⟨M,B,[cb],N⟩] sqC]
  focus(repeat'(first|exact FX.nil|(apply FX.sl;(focus repeat constructor);(focus exact zB rfl))|(apply FX.le;(focus first|exact ALe.refl _|exact ALe.nil))|apply FX.agg|apply FX.tup))
  apply Cl.p m2
  focus(repeat'(first|exact Lend.nil|apply Lend.keep|fail))
  repeat'(first|apply Sp.h|refine Lk.r rfl ?_|refine Rf.mk rfl ?_|apply All.mk|refine xT ?_|refine Ch.l ⟨rfl,rfl⟩ ?_|(apply Fk.r;focus repeat' first|infer_instance|constructor)|refine Rf.mk ⟨rfl,rfl,rfl⟩ ?_|intro _)
  apply Cl.fx [mdl M, .ad (stoV M B [cb] N) 0,ints [1,0],ints [1,1]]
  focus(repeat'(first|exact FX.nil|(apply FX.sl;(focus repeat constructor);(focus exact zB rfl))|(apply FX.le;(focus first|exact ALe.refl _|exact ALe.nil))|apply FX.agg|apply FX.tup))
  (apply Cl.pG (m3);(focus exact ga);focus repeat' constructor)
  repeat'(first|apply Sp.h|refine Lk.r rfl ?_|refine Rf.mk rfl ?_|refine xA ?_|apply All.mk|(apply Fk.r;focus repeat' first|infer_instance|constructor)|refine Rf.mk ⟨rfl,rfl,rfl⟩ ?_|intro _)
  repeat'(first|apply Sp.h|refine Lk.r rfl ?_|refine Rf.mk rfl ?_|refine xA ?_|refine All.mk fun _=>?_|refine xT ?_|refine Ch.l ⟨rfl,rfl⟩ ?_|(apply Fk.r;focus repeat' first|infer_instance|constructor)|refine xN ?_|refine Rf.mk ⟨rfl,rfl,rfl⟩ ?_|(apply Cl.lend e2;(focus((repeat'(first|exact Lend.nil|apply Lend.keep|(apply Lend.lendm;(focus repeat constructor);(focus rfl);(focus first|omega|decide|(simp;omega)|exact zB rfl))|fail));done)))|(apply Cl.lend e3;(focus((repeat'(first|exact Lend.nil|apply Lend.keep|(apply Lend.lendm;(focus repeat constructor);(focus rfl);(focus first|omega|decide|(simp;omega)|exact zB rfl))|fail));done)))|(apply Cl.lendG m4;(focus exact ga);(focus((repeat'(first|exact Lend.nil|apply Lend.keep|(apply Lend.lendm;(focus repeat constructor);(focus rfl);(focus first|omega|decide|(simp;omega)|exact zB rfl))|fail));done)))|(apply Cl.lendG m5;(focus exact ga);(focus((repeat'(first|exact Lend.nil|apply Lend.keep|(apply Lend.lendm;(focus repeat constructor);(focus rfl);(focus first|omega|decide|(simp;omega)|exact zB rfl))|fail));done))))
  all_goals exact Fin.p rfl rfl
theorem nw_fx{rows:List (List Int)}{wc:List Int}(hl:rows.length≤1000000)(hm:∀x∈rows,x.length≤1000000)(hw:wc.length≤1000000){r:AV}{own o:List Res}(h:NwK 0 rows wc r own) : FX (own ++ o) [r] [.tup [clks rows,ints wc,it 0]] o:=by
 rcases h with⟨h,_⟩|⟨_,v,L,u,rfl,rfl,rfl⟩
 ·exact absurd rfl h
 rw [List.append_assoc]
 exact .tup (cls_fx (by simpa using hl) (fun x hx=>hm _ (List.mem_map_of_mem hx)) (.s1 .here (by omega) (.le (ALe.refl _) .nil))) .nil
theorem flat_nw{code:Int}{rows:List (List Int)}{wc:List Int} :∀(r:AV) (own:List Res),NwK code rows wc r own→FlatV r∧∀R∈own,FlatR R:=by
 rintro r own (⟨_,rfl,rfl⟩|⟨_,v,L,u,rfl,rfl,_⟩)
 ·exact⟨FlatV.tup (.cons (.val _) (.cons (.val _) (.cons (.val _) .nil))),fun R hR=>by cases hR⟩
 ·refine⟨FlatV.tup (.cons (.ow _) (.cons (.ow _) (.cons (.val _) .nil))),fun R hR=>?_⟩
  rcases zV.1 hR with hR|hR
  ·exact flat_cls R hR
  ·rw [zH.1 hR];exact flat_ints
theorem Cl.nowG{Γ:Cx}{c:Cls}{o:List Res}{f:FuncId}{ax ax':List AV}{rows:List (List Int)}{wc:List Int}{M:AV→List Res→Prop}(hc:CallG Γ.P f ax' [] (NwK 0 rows wc))(ga:AmbF Γ.P Γ.h0 Γ.G0 Γ.O0)(hs:rows.length≤1000000∧(∀x∈rows,x.length≤1000000)∧wc.length≤1000000)(hl:Lend o ax ax')(hm:M (.tup [clks rows,ints wc,it 0]) o) : Cl Γ c f ax o M :=
 Cl.resx (M':=fun r o'=>∃own,NwK 0 rows wc r own∧o'=own ++ o) (Cl.lendOG hc ga hl flat_nw fun r own h=>⟨own,h,rfl⟩) fun r o' ⟨own,h,e⟩=>by
  subst e
  exact⟨_,_,nw_fx hs.1 hs.2.1 hs.2.2 h,hm⟩
theorem new53_bad(m:ModS)(n:Nat)(ld:List Int)(hm:MOK m)(hn:1≤n∧n≤5)(h:¬(ld.length=strF m∧insS ld)) : CallP Tryz.prog 35 [mdl m,it n,ints ld] (.tup [.val (.pointer none),it 1]):=by
 have h1:=cells35_p m hm.lay
 have h2:=inside35_p ld
 refine CallA.of pg ord35 Tryz.func35 rfl Tryz.ntmps35 Tryz.results35 rfl fun h0 G0 O0=>?_
 by_cases hl:ld.length=strF m
 ·rw [zF fun h9=>h ⟨hl,h9⟩] at h2
  repeat'(first|apply Sp.h|refine Lk.r rfl ?_|refine Rf.mk rfl ?_|refine xA ?_|refine xB ?_|refine Im.mk fun _=>?_|refine All.mk fun _=>?_|refine xT ?_|refine Ch.l ⟨rfl,rfl⟩ ?_|refine xN ?_|(apply Cl.p (h1);focus(repeat' constructor);done)|(apply Cl.p (h2);focus(repeat' constructor);done))
  all_goals first
   | exact Fin.p rfl rfl
   | exact(by omega:False).elim
 ·repeat'(first|apply Sp.h|refine Lk.r rfl ?_|refine Rf.mk rfl ?_|refine xB ?_|refine Im.mk fun _=>?_|refine All.mk fun _=>?_|refine xT ?_|refine Ch.l ⟨rfl,rfl⟩ ?_|refine xN ?_|(apply Cl.p (h1);focus(repeat' constructor);done)|(apply Cl.p (h2);focus(repeat' constructor);done))
  all_goals first
   | exact Fin.p rfl rfl
   | exact(by omega:False).elim
structure StyK (m:ModS) (ld:List Int) (l X:List EvS):Prop where
 hx:ValX m
 hc:ClosedE l
 ne:0 < l.length
 ll:l.length≤12
 ln:ld.length=strF m
 ex:ExtO l X
 pm:X.Perm l
def StyI(m:ModS)(ld:List Int)(l X:List EvS)(i:Nat) : Prop:=∀j e,j < i→X[j]?=some e→(deliverF m (X.take j) (stN m (n0 l) ld (X.take j)) e).1=0
theorem StyK.xl{m:ModS}{ld:List Int}{l X:List EvS}(h:StyK m ld l X) : X.length=l.length:=h.pm.length_eq
theorem StyK.now{m:ModS}{ld:List Int}{l X:List EvS}(h:StyK m ld l X)(i:Nat) : NowOK m (stN m (n0 l) ld (X.take i)):=stN_okL h.hc h.ne h.ln (h.ex.cau i).sub (by have:=h.xl;have:=h.ll;rw [zN];omega)
theorem StyK.shw{m:ModS}{ld:List Int}{l X:List EvS}(h:StyK m ld l X)(i:Nat) : ShwS (stN m (n0 l) ld []) (X.take i) (stN m (n0 l) ld (X.take i)):=by
 have h1:=h.xl
 have h2:=h.ll
 refine⟨szN_stNL h.hx.mok h.hc h.ne h.ln (fun e he=>by cases he) (zZ _), ?_,by rw [zN];omega,fun e he=>?_⟩
 ·have:=(h.now i).clk.2.2;omega
 ·have:=(h.hc.2.2.1 e ((h.ex.cau i).sub e he)).1.1.2.2;omega
theorem StyK.ev{m:ModS}{ld:List Int}{l X:List EvS}(_h:StyK m ld l X){i:Nat}(hi:StyI m ld l X i) :∀e∈X.take i,EvV m ((stN m (n0 l) ld (X.take i)).clock.length:Nat) e:=fun e he=>by
 obtain⟨j,hj⟩:=zO he
 rw [List.getElem?_take] at hj
 split at hj
 rotate_left
 ·cases hj
 rename_i hji
 have:=(deliver_ok' (hi j e hji hj)).2.1
 rw [show(stN m (n0 l) ld (X.take i)).clock.length=n0 l from clkE_len ..]
 rwa [show(stN m (n0 l) ld (X.take j)).clock.length=n0 l from clkE_len ..] at this
theorem StyK.val{m:ModS}{ld:List Int}{l X:List EvS}(h:StyK m ld l X){i:Nat}(hi:StyI m ld l X i)(hil:i≤X.length) : ValL (mrgF m) (stN m (n0 l) ld (X.take i)).merged:=by
 have key:∀k,k≤i→ValL (mrgF m) (stN m (n0 l) ld (X.take k)).merged:=by
  intro k
  induction k with
  | zero=>intro _;exact valL_zero
  | succ k ih =>
   intro hk
   obtain⟨e,he⟩:=get_of (l:=X) (i:=k) (by omega)
   rw [zK,he,Option.toList_some,stN_snoc]
   exact applyF_val h.hx.lay.ok h.hx.fit (deliver_ok' (hi k e (by omega) he)).2.2
 exact key i (Nat.le_refl _)
theorem StyK.snp{m:ModS}{ld:List Int}{l X:List EvS}(h:StyK m ld l X){k i:Nat}(hki:k≤i)(hi:StyI m ld l X i)(hil:i≤X.length) : SnpOK m (stN m (n0 l) ld []) (X.take i) (clkE (n0 l) (X.take k)) :=
 snp_ext h.hx.lay.ok h.hx.fit h.hc h.ex hki (h.val (fun j e hj=>hi j e (by omega)) (by omega))
theorem StyK.rd{m:ModS}{ld:List Int}{l X:List EvS}(h:StyK m ld l X){k i:Nat}(hki:k≤i) : rdF m (stN m (n0 l) ld []) (X.take i) (stN m (n0 l) ld (X.take i)) (clkE (n0 l) (X.take k)) (evyL m)=0:=by
 rw [rdF,if_pos (evy_x h.hx)]
 exact chk_ext h.hc h.ne h.ex hki
theorem StyI.zero(m:ModS)(ld:List Int)(l X:List EvS) : StyI m ld l X 0:=fun j e h=>by omega
theorem StyI.succ{m:ModS}{ld:List Int}{l X:List EvS}{i:Nat}{e:EvS}(h:StyI m ld l X i)(he:X[i]?=some e)(h0:(deliverF m (X.take i) (stN m (n0 l) ld (X.take i)) e).1=0) : StyI m ld l X (i+1):=fun j x hj hx=>by
 by_cases hji:j=i
 ·subst hji;rw [he] at hx;cases hx;exact h0
 ·exact h j x (by omega) hx
theorem StyK.read{m:ModS}{ld:List Int}{l X:List EvS}(h:StyK m ld l X)(hur:UpdsRg m){k i:Nat}(hki:k≤i)(hi:StyI m ld l X i)(hil:i≤X.length) :
  CallG Tryz.prog 16 [mdl m, .ad (stoV m (stN m (n0 l) ld []) (X.take i) (stN m (n0 l) ld (X.take i))) 0,ints (clkE (n0 l) (X.take k)),qrys (evyL m)] [] (RdK 0 (rowsF m (stN m (n0 l) ld []) (X.take k) (clkE (n0 l) (X.take k)) (evyL m))):=by
 have:=sread_g m (stN m (n0 l) ld []) (X.take i) (stN m (n0 l) ld (X.take i)) (clkE (n0 l) (X.take k)) (evyL m) (h.shw i) h.hx.mok hur h.ln (h.ev hi) (fun _=>h.snp hki hi hil) (by have:=evyL_len m;omega)
 rwa [h.rd hki,rows_ext h.hc h.ex hki] at this
theorem StyK.nowG{m:ModS}{ld:List Int}{l X:List EvS}(h:StyK m ld l X)(hur:UpdsRg m){i:Nat}(hi:StyI m ld l X i)(hil:i≤X.length) :
  CallG Tryz.prog 18 [mdl m, .ad (stoV m (stN m (n0 l) ld []) (X.take i) (stN m (n0 l) ld (X.take i))) 0,qrys (evyL m)] [] (NwK 0 (rowsF m (stN m (n0 l) ld []) (X.take i) (clkE (n0 l) (X.take i)) (evyL m)) (clkE (n0 l) (X.take i))):=by
 have:=snow_g m (stN m (n0 l) ld []) (X.take i) (stN m (n0 l) ld (X.take i)) (evyL m) (h.shw i) h.hx.mok hur h.ln (h.ev hi) (fun _=>h.snp (Nat.le_refl _) hi hil) (by have:=evyL_len m;omega)
 rw [show(stN m (n0 l) ld (X.take i)).clock=clkE (n0 l) (X.take i) from rfl,h.rd (Nat.le_refl _)] at this
 exact this
theorem StyK.rows{m:ModS}{ld:List Int}{l X:List EvS}(h:StyK m ld l X){k:Nat}(hk:StyI m ld l X k)(hkl:k≤X.length) : (rowsF m (stN m (n0 l) ld []) (X.take k) (clkE (n0 l) (X.take k)) (evyL m)).length≤1000000∧∀x∈rowsF m (stN m (n0 l) ld []) (X.take k) (clkE (n0 l) (X.take k)) (evyL m),x.length≤1000000:=by
 obtain⟨h1,h2⟩:=rows_len (qs:=evyL m) (h.snp (Nat.le_refl k) hk hkl)
 exact⟨by have:=evyL_len m;omega,h2⟩
theorem stays53_g(m:ModS)(ld:List Int)(l:List EvS)(order:List Int)(x:Int)(hur:UpdsRg m)(ho:∀x∈order,0≤x∧x≤255)(hx0:0≤x∧x≤255) :
  CallGP Tryz.prog 5 [mdl m,ints ld,evs l,u8s order, .val (.int .u8 x)] (bl true):=by
 have ha:=awake53_g
 have hfe:=few53_c m ld l order
 have hcl:=closed32_c l
 refine CallG.of pg ord5 Tryz.func5 rfl Tryz.ntmps5 Tryz.results5 rfl fun h0 G0 O0 ga=>?_
 (repeat'(first|(show CA _ _ (Code.region 1 _ _) _ _;apply Stopped.out)|apply Sp.h|refine Lk.r rfl ?_|refine Rf.mk rfl ?_|apply All.mk|intro _));any_goals apply Stopped.mk
 rename_i b5
 repeat'(first|apply Sp.h|refine Lk.r rfl ?_|refine Rf.mk rfl ?_|refine xA ?_|refine xT ?_|refine Ch.l ⟨rfl,rfl⟩ ?_|(apply Cl.pG (ha);(focus exact ga);(focus((repeat'(first|exact Lend.nil|fail));done))))
 all_goals try exact(by assumption:False).elim
 refine xW (hfe) ?_
 rintro _ _ ⟨b,rfl,rfl,hfs⟩
 cases b
 ·repeat'(first|apply Sp.h|refine Lk.r rfl ?_|refine Rf.mk rfl ?_|refine xB ?_|refine xN ?_|fail)
  exact Fin.p rfl rfl
 have hfs:=hfs rfl
 have hol:m.ops.length≤1000000000:=by have:=hfs.fo;omega
 have hv:=valid13_e m hol hur
 have hev:=everything_p m hol hur
 by_cases hx:ValX m
 rotate_left
 ·rw [zF hx] at hv
  repeat'(first|apply Sp.h|refine Lk.r rfl ?_|refine Rf.mk rfl ?_|refine xA ?_|refine xB ?_|refine xT ?_|refine Ch.l ⟨rfl,rfl⟩ ?_|refine xN ?_|(apply Cl.p (hv);focus repeat' constructor))
  exact Fin.p rfl rfl
 rw [zT hx] at hv
 repeat'(first|apply Sp.h|refine Lk.r rfl ?_|refine Rf.mk rfl ?_|refine xA ?_|refine xT ?_|refine Ch.l ⟨rfl,rfl⟩ ?_|(apply Cl.p (hv);focus repeat' constructor))
 refine xW (hcl) ?_
 rintro _ _ ⟨b,rfl,rfl,hc⟩
 cases b
 ·repeat'(first|apply Sp.h|refine Lk.r rfl ?_|refine Rf.mk rfl ?_|refine xA ?_|refine xB ?_|refine xN ?_|fail)
  exact Fin.p rfl rfl
 have hc:=hc rfl
 by_cases hne:l.length=0
 ·repeat'(first|apply Sp.h|refine Lk.r rfl ?_|refine Rf.mk rfl ?_|refine xA ?_|apply Im.mk|refine xN ?_|intro _)
  all_goals first
   | exact Fin.p rfl rfl
   | exact(by omega:False).elim
 obtain⟨d,hd⟩:=get_of (l:=l) (i:=0) (by omega)
 have hn:n0 l=d.past.length:=by rw [n0,hd];rfl
 have hr:=n0_rng hc (zM hd)
 by_cases hnw:ld.length=strF m∧insS ld
 rotate_left
 ·have hbad:=new53_bad m (n0 l) ld hx.mok hr hnw
  rw [hn] at hbad
  repeat'(first|apply Sp.h|refine Lk.r rfl ?_|refine Rf.mk rfl ?_|refine xA ?_|refine xB ?_|refine OpK.r rfl ?_|refine Im.mk fun _=>?_|refine xT ?_|refine xI ?_|refine Ch.l ⟨rfl,rfl⟩ ?_|refine xN ?_|refine xD ?_|(apply Cl.p (hev);focus repeat' constructor)|(apply Cl.p (hbad);focus repeat' constructor))
  all_goals first
   | exact Fin.p rfl rfl
   | exact(by omega:False).elim
 have h1:=new35_a m (n0 l) ld hx.mok hr hnw.1 hnw.2
 rw [hn] at h1
 obtain⟨X,x1,x2,x3⟩:=ext_ok hc (fun x hx=>(ho x hx).1)
 have h2:=extension_o l order X hc.2.1 (by have:=hfs.fl;omega) ho x1
 have hK:StyK m ld l X:=⟨hx,hc,by omega,hfs.fl,hnw.1,x2,x3⟩
 have hXl:=hK.xl
 have hfl:=hfs.fl
 obtain⟨k,hk⟩:∃k:Nat,(k:Int)=x % (l.length:Int):=⟨(x % (l.length:Int)).toNat,Int.toNat_of_nonneg (Int.emod_nonneg _ (by omega))⟩
 have hkl:k < l.length:=by
  have:=Int.emod_lt_of_pos x (show(0:Int) < l.length by omega)
  omega
 have hQl:=evyL_len m
 repeat'(first|apply Sp.h|refine Lk.r rfl ?_|refine Rf.mk rfl ?_|refine xA ?_|refine xB ?_|refine OpK.r rfl ?_|refine Im.mk fun _=>?_|refine xT ?_|refine xI ?_|refine Ch.l ⟨rfl,rfl⟩ ?_|refine xD ?_|(apply Cl.p (hev);focus repeat' constructor))
 all_goals try exact(by omega:False).elim
 refine xW (h1) ?_
 rintro _ _ ⟨p,v,rfl,rfl⟩
 repeat'(first|apply Sp.h|refine Lk.r rfl ?_|refine Rf.mk rfl ?_|refine xA ?_|refine xB ?_|refine OpK.r rfl ?_|refine xP ?_|apply Im.mk|(apply Cvk.i64;(focus rfl);(focus omega))|intro _)
 (refine Cl.use (h2) (by repeat'(first|exact Lend.nil|apply Lend.keep|fail)) .nil rfl ?_;rintro _ _ ⟨_,rfl,rfl⟩)
 rename_i vx
 repeat'(first|apply Sp.h|refine Lk.r rfl ?_|refine xU ?_|fail)
 rw [←hk]
 have hrw:=fun(hi:StyI m ld l X k)=>hK.rows hi (by omega)
 have hrd:=fun i (hki:k≤i) (hi:StyI m ld l X i) (hil:i≤X.length)=>hK.read hur hki hi hil
 have hnw2:=fun(hi:StyI m ld l X k)=>hK.nowG hur hi (by omega)
 have hcl5:(clkE (n0 l) (X.take k)).length=n0 l:=clkE_len ..
 refine CA.loop (fun z:Nat×Value×AV×AV=>⟨[(5,pm b5),(11,qrys (evyL m)),(12,pm p),(14,z.2.2.1),(15,z.2.2.2),(16,it k),(72, .ow vx),(73,it (X.length:Nat)),(74,it z.1)],[mR b5 m,stoR p m (stN m (n0 l) ld []) z.2.1 (stN m (n0 l) ld (X.take z.1)),arrR z.2.1 66 13 (X.take z.1) evC,arrR vx 66 13 X evC]⟩)
  (fun z=>z.1≤X.length∧StyI m ld l X z.1∧(z.1≤k→z.2.2.1=nl0∧z.2.2.2=nl0)∧(k < z.1→z.2.2.1=ints (clkE (n0 l) (X.take k))∧z.2.2.2=clks (rowsF m (stN m (n0 l) ld []) (X.take k) (clkE (n0 l) (X.take k)) (evyL m)))) (fun z=>X.length - z.1) (0,v,nl0,nl0) (by rw [hn];exact xE) ⟨zZ _,StyI.zero m ld l X,fun _=>⟨rfl,rfl⟩,fun h=>by simp only at h;omega⟩ ?_
 rintro⟨i,u,a1,a2⟩ ⟨hi,hI,hp1,hp2⟩
 simp only at hi hI hp1 hp2
 simp only
 by_cases hin:i < X.length
 ·obtain⟨e,he⟩:=get_of hin
  have hdl:=deliver_a p m (stN m (n0 l) ld []) u (X.take i) (stN m (n0 l) ld (X.take i)) e hx.mok (hK.now i) (by rw [zN];omega)
  have hsu:X.take (i+1)=X.take i ++ [e]:=by rw [zK,he];rfl
  have hcd:(deliverF m (X.take i) (stN m (n0 l) ld (X.take i)) e).1=0∨(deliverF m (X.take i) (stN m (n0 l) ld (X.take i)) e).1≠0:=Classical.em _
  by_cases h0:(deliverF m (X.take i) (stN m (n0 l) ld (X.take i)) e).1=0
  ·have hI2:=hI.succ he h0
   rw [evsD,if_pos h0,h0,deliver_is h0,←hsu] at hdl
   by_cases hik:i=k
   ·subst hik
    have hg:=hnw2 hI
    obtain⟨r1,r2⟩:=hrw hI
    generalize rowsF m (stN m (n0 l) ld []) (X.take i) (clkE (n0 l) (X.take i)) (evyL m)=rows at hg r1 r2 hp2 ⊢
    repeat'(first|apply Sp.h|refine Lk.r rfl ?_|refine Rf.mk rfl ?_|refine xA ?_|apply All.mk|refine xU ?_|refine xT ?_|refine xI ?_|refine xJ ?_|refine Ch.l ⟨rfl,rfl⟩ ?_|(apply SetAsk.r;focus repeat' constructor)|refine xN ?_|intro _)
    all_goals try exact(by omega:False).elim
    refine Cl.nowG hg ga ⟨r1,r2,by omega⟩ (by repeat'(first|exact Lend.nil|apply Lend.keep|(apply Lend.lend;(focus repeat constructor);(focus first|omega|(simp;omega)))|(apply Lend.cell;(focus repeat constructor))|fail)) ?_
    repeat'(first|apply Sp.h|refine Lk.r rfl ?_|refine Rf.mk rfl ?_|refine xA ?_|refine xT ?_|refine Ch.l ⟨rfl,rfl⟩ ?_|fail)
    refine xW (hdl) ?_
    rintro _ _ ⟨rfl,u',rfl⟩
    repeat'(first|apply Sp.h|refine Lk.r rfl ?_|refine Rf.mk rfl ?_|refine xA ?_|refine xO ?_|fail)
    exact PA.lp (i+1,u',ints (clkE (n0 l) (X.take i)),clks rows) xE ⟨⟨hin,hI2,fun h=>by simp only at h;omega,fun _=>⟨rfl,rfl⟩⟩,by simp only;omega⟩
   ·have hik2:¬(i:Int)=(k:Int):=by omega
    repeat'(first|apply Sp.h|refine Lk.r rfl ?_|refine Rf.mk rfl ?_|refine xA ?_|refine xB ?_|apply All.mk|refine xU ?_|refine xT ?_|refine xI ?_|refine xJ ?_|refine Ch.l ⟨rfl,rfl⟩ ?_|(apply SetAsk.r;focus repeat' constructor)|refine xN ?_|intro _)
    refine xW (hdl) ?_
    rintro _ _ ⟨rfl,u',rfl⟩
    repeat'(first|apply Sp.h|refine Lk.r rfl ?_|refine Rf.mk rfl ?_|refine xA ?_|refine xO ?_|fail)
    exact PA.lp (i+1,u',a1,a2) xE ⟨⟨hin,hI2,fun h=>hp1 (by simp only at h;omega),fun h=>hp2 (by simp only at h;omega)⟩,by simp only;omega⟩
  ·rw [evsD,if_neg h0,deliver_no h0] at hdl
   by_cases hik:i=k
   ·subst hik
    have hg:=hnw2 hI
    obtain⟨r1,r2⟩:=hrw hI
    repeat'(first|apply Sp.h|refine Lk.r rfl ?_|refine Rf.mk rfl ?_|refine xA ?_|apply All.mk|refine xU ?_|refine xT ?_|refine xI ?_|refine xJ ?_|refine Ch.l ⟨rfl,rfl⟩ ?_|(apply SetAsk.r;focus repeat' constructor)|refine xN ?_|intro _)
    all_goals try exact(by omega:False).elim
    refine Cl.nowG hg ga ⟨r1,r2,by omega⟩ (by repeat'(first|exact Lend.nil|apply Lend.keep|(apply Lend.lend;(focus repeat constructor);(focus first|omega|(simp;omega)))|(apply Lend.cell;(focus repeat constructor))|fail)) ?_
    repeat'(first|apply Sp.h|refine Lk.r rfl ?_|refine Rf.mk rfl ?_|refine xA ?_|refine xT ?_|refine Ch.l ⟨rfl,rfl⟩ ?_|fail)
    refine xW (hdl) ?_
    rintro _ _ ⟨rfl,u',rfl⟩
    repeat'(first|apply Sp.h|refine Lk.r rfl ?_|refine Rf.mk rfl ?_|refine xB ?_|refine xN ?_|fail)
    exact Fin.p rfl rfl
   ·have hik2:¬(i:Int)=(k:Int):=by omega
    repeat'(first|apply Sp.h|refine Lk.r rfl ?_|refine Rf.mk rfl ?_|refine xA ?_|refine xB ?_|apply All.mk|refine xU ?_|refine xT ?_|refine xI ?_|refine xJ ?_|refine Ch.l ⟨rfl,rfl⟩ ?_|(apply SetAsk.r;focus repeat' constructor)|refine xN ?_|intro _)
    refine xW (hdl) ?_
    rintro _ _ ⟨rfl,u',rfl⟩
    repeat'(first|apply Sp.h|refine Lk.r rfl ?_|refine Rf.mk rfl ?_|refine xB ?_|refine xN ?_|fail)
    exact Fin.p rfl rfl
 ·have hie:i=X.length:=by omega
  subst hie
  obtain⟨rfl,rfl⟩:=hp2 (by omega)
  have hrd2:=hrd X.length (by omega) hI (Nat.le_refl _)
  obtain⟨r1,r2⟩:=hrw fun j e hj=>hI j e (by omega)
  generalize rowsF m (stN m (n0 l) ld []) (X.take k) (clkE (n0 l) (X.take k)) (evyL m)=rows at hrd2 r1 r2 ⊢
  have hsm:=same53_p rows rows
  rw [zT rfl] at hsm
  repeat'(first|apply Sp.h|refine Lk.r rfl ?_|refine Rf.mk rfl ?_|refine xB ?_|refine xT ?_|refine Ch.l ⟨rfl,rfl⟩ ?_|fail)
  refine Cl.readG hrd2 ga ⟨r1,r2⟩ (by repeat'(first|exact Lend.nil|apply Lend.keep|(apply Lend.lend;(focus repeat constructor);(focus first|omega|(simp;omega)))|(apply Lend.cell;(focus repeat constructor))|fail)) ?_
  repeat'(first|apply Sp.h|refine Lk.r rfl ?_|refine Rf.mk rfl ?_|refine xA ?_|refine xN ?_|(apply Cl.p (hsm);focus repeat' constructor))
  exact Fin.p rfl rfl
end Go.Proofs.YtmjllbjfkafhdaaGreatDoor
