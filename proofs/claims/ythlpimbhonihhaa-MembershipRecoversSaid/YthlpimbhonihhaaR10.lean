/- Part 10 of the ground of this proof: what its texts say of the model, the program and the plain data; conditions: those that are named. -/
import Derived.Test.YthlpimbhonihhaaR09
set_option maxRecDepth 100000
set_option maxHeartbeats 80000000
namespace Go.Proofs.Ythlpimbhonihhaa
open Go Go.CF
theorem mnew_a(n i:Int) : CallA Try.prog 28 [it n,it i] [] fun r own=>((recoF n i []).1=1∧r= .tup [.val (.pointer none),it 1]∧own= [])∨((recoF n i []).1=0∧∃p pe pl ve vl,r= .tup [pm p,it 0]∧own=nodR p pe pl ve vl (recoF n i []).2):=by
 have h:=reco_p n i [] (by simp) (fun r h=>(nomatch h))
 by_cases hz:(recoF n i []).1=0
 ·have h2:CallA Try.prog 26 [it n,it i,rcsA []] [] fun r own=>∃p pe pl ve vl,r= .tup [pm p,it 0]∧own=nodR p pe pl ve vl (recoF n i []).2:=h.mono fun r o h=>h.elim (fun h=>by rw [hz] at h;cases h.1) fun h=>by simpa using h.2
  refine CallA.of pg ordZ Try.func28 rfl Try.ntmps28 Try.results28 rfl fun h0 G0 O0=>?_
  repeat'(first|apply Sp.h|refine Lk.r rfl ?_|refine Rf.mk rfl ?_|refine xN ?_|(((apply Cl.use (h2);(focus repeat'(first|exact Lend.nil|apply Lend.keep|apply Lend.nils|fail));(focus(repeat(first|exact Takes.nil|(apply Takes.cons;(focus repeat constructor)))));(focus rfl)));(rintro _ _ ⟨p,pe,pl,ve,vl,rfl,rfl⟩)))
  all_goals exact⟨_,_, .tup (.same (.same (.z))), .inr ⟨hz,_,_,_,_,_,rfl,rfl⟩⟩
 ·have h2:CallA Try.prog 26 [it n,it i,rcsA []] [] fun r own=>(recoF n i []).1=1∧r= .tup [.val (.pointer none),it 1]∧own= []:=h.mono fun r o h=>h.elim id fun h=>absurd h.1 hz
  refine CallA.of pg ordZ Try.func28 rfl Try.ntmps28 Try.results28 rfl fun h0 G0 O0=>?_
  repeat'(first|apply Sp.h|refine Lk.r rfl ?_|refine Rf.mk rfl ?_|refine xN ?_|(((apply Cl.use (h2);(focus repeat'(first|exact Lend.nil|apply Lend.keep|apply Lend.nils|fail));(focus(repeat(first|exact Takes.nil|(apply Takes.cons;(focus repeat constructor)))));(focus rfl)));(rintro _ _ ⟨h9,rfl,rfl⟩)))
  all_goals exact⟨_,_, .tup (.same (.same (.z))), .inl ⟨h9,rfl,rfl⟩⟩
theorem rec_new{n i:Int}(hn:1≤n∧n≤5)(hi:0≤i∧i < n) : (recoF n i []).1=0∧(recoF n i []).2=⟨ele0 n i 0 (-1),log0 n i [],0⟩:=by
 have h1:ResE n i 0 (-1):=⟨hn,hi,⟨Int.le_refl _,by decide⟩,⟨Int.le_refl _,by omega⟩,fun _=>rfl⟩
 have h2:ResL n i []:=⟨hn,hi,rfl⟩
 unfold recoF
 rw [if_neg (fun h=>h h1),if_neg (fun h=>h rfl),if_neg (fun h=>h h2)]
 exact⟨rfl,rfl⟩
theorem begin_w(n:Nat)(hn:1≤n∧n≤5) : CallA Try.prog 7 [it (n:Nat)] [] fun r own=>∃pw x,r=pm pw∧own=worR pw x∧x.W=begW n∧PtrOK x:=by
 have hnw:∀i:Nat,i < n→CallA Try.prog 28 [it (n:Nat),it (i:Nat)] [] fun r own=>∃p pe pl ve vl,r= .tup [pm p,it 0]∧own=nodR p pe pl ve vl (recoF n i []).2:=fun i hi=>by
  have h0:=(rec_new (n:=n) (i:=i) (by omega) (by omega)).1
  exact(mnew_a n i).mono fun r o h=>h.elim (fun h=>by rw [h0] at h;cases h.1) fun h=>h.2
 refine CallA.of pg ordZ Try.func7 rfl Try.ntmps7 Try.results7 rfl fun h0 G0 O0=>?_
 repeat'(first|(show CA _ _ (Code.region 2 _ _) _ _;apply Stopped.out)|apply Sp.h|refine Lk.r rfl ?_|refine Rf.mk rfl ?_|refine All.mk fun _=>?_|(apply Fk.r;focus repeat' first|infer_instance|constructor)|refine xN ?_|refine Rf.mk ⟨rfl,rfl,rfl⟩ ?_|(apply Jx.r;(focus exact rfl);(focus first|omega|(simp;done)|(simp;omega)))|refine MkS.r (fun _:Unit=> [.val (.slice none 0 0)]) () rfl ?_)
 any_goals apply Stopped.mk
 rename_i vr pw
 refine CA.nilCell (b:=pw) (i:=0) (by repeat constructor) rfl 31 1 ptrC fun vn0=>?_
 refine CA.nilCell (b:=pw) (i:=2) (by repeat constructor) rfl 76 18 msgC fun vb=>?_
 obtain⟨P0,hP0⟩:∃P0:List Nat,P0= []:=⟨_,rfl⟩
 apply CA.retype (v:=vn0) (m:=P0) (g:=ptrC)
 focus(repeat constructor)
 focus rw [hP0]
 apply CA.reword (v:=vr) (m:=List.replicate n ((Value.slice none 0 0,([]:List RecS)):Value×List RecS)) (g:=rlsC)
 focus(repeat constructor)
 focus simp
 focus(intro i x y _ h2;rw [List.getElem?_replicate] at h2;split at h2;cases h2;exact .cons ALe.nilow .nil;cases h2)
 refine CA.nilBun 108 30 recC n ?_
 refine CA.bunNil nodeO ?_
 (repeat'(first|(show CA _ _ (Code.block 0 _) _ _;apply Stopped.out)|apply Sp.h|refine Lk.r rfl ?_|refine Rf.mk rfl ?_|fail));any_goals apply Stopped.mk
 apply Sp.h
 have hwn:∀k:Nat,((List.range (k+1)).map fun i:Nat=>(recoF n i []).2)=((List.range k).map fun i:Nat=>(recoF n i []).2) ++ [(recoF n k []).2]:=fun k=>by rw [List.range_succ,List.map_append];rfl
 refine CA.loop (fun z:Nat×Value×List Nat×List PNode=>⟨[(0,it (n:Nat)),(3,pm pw),(11,it (n:Nat)),(12,it (z.1:Nat))],worR pw ⟨z.2.1,vr,vb,z.2.2.1,z.2.2.2,List.replicate n (Value.slice none 0 0,[]),[]⟩⟩) (fun z=>z.1≤n∧z.2.2.2.map PNode.s=(List.range z.1).map (fun i:Nat=>(recoF n i []).2)∧z.2.2.1=z.2.2.2.map PNode.p) (fun z=>n - z.1) (0,vn0,P0,[]) xE ⟨zZ _,rfl,hP0⟩ ?_
 rintro⟨i,vn,P,N⟩ ⟨hi,hN,hP⟩
 simp only at hi hN hP
 simp only
 have hPl:P.length=i:=by
  have:=congrArg List.length hN
  rw [hP];simpa using this
 show CA _ _ _ _ [blkR pw 30 [.ow vn, .ow vr, .ow vb],arrR vn 31 1 P ptrC,arrR vr 33 1 (List.replicate n (Value.slice none 0 0,[])) rlsC,arrR vb 76 18 [] msgC,bunR (N.map nodeO),bunR ((List.replicate n (Value.slice none 0 0,[])).map recO)]
 by_cases hin:i < n
 ·have hnw:=hnw i hin
  have hw1:=hwn i
  generalize (recoF n i []).2=t at hnw hw1
  repeat'(first|(show CA _ _ (Code.region 8 _ _) _ _;apply Stopped.out)|apply Sp.h|refine Lk.r rfl ?_|refine Rf.mk rfl ?_|refine xA ?_|refine xB ?_|(((apply Cl.use (hnw);(focus repeat' constructor);(focus repeat' constructor);focus rfl));(rintro _ _ ⟨p,pe,pl,ve,vl,rfl,rfl⟩)))
  any_goals apply Stopped.mk
  apply CA.reb (rs:=nodR p pe pl ve vl t)
  focus(repeat(first|exact Takes.nil|(apply Takes.cons;(focus repeat constructor))))
  apply CA.bunPush (l:=N) (g:=nodeO) (x:=⟨p,pe,pl,ve,vl,t⟩)
  focus(repeat constructor)
  focus(repeat constructor)
  repeat'(first|apply Sp.h|refine Lk.r rfl ?_|refine Rf.mk rfl ?_|refine xP ?_|apply All.mk|refine xU ?_|refine xT ?_|refine Ce.r ?_|refine xV ?_|(apply Fk.r;focus repeat' first|infer_instance|constructor)|refine Rf.mk ⟨rfl,rfl⟩ ?_|refine Rf.mk ⟨rfl,rfl,rfl⟩ ?_|(apply Mp.lit;(focus repeat(first|exact MpL.nil|(apply MpL.cons;(focus rfl))|(apply MpL.inv;(focus repeat constructor);(focus infer_instance)))))|refine xO ?_|intro _)
  all_goals
   rename_i u
   exact PA.lp (i+1,u,P ++ [p],N ++ [⟨p,pe,pl,ve,vl,t⟩]) xE ⟨⟨hin,by simp only;rw [List.map_append,hN,hw1];rfl,by simp only;rw [List.map_append,hP];rfl⟩,by simp only;omega⟩
 ·have:i=n:=by omega
  subst this
  repeat'(first|apply Sp.h|refine Lk.r rfl ?_|refine Rf.mk rfl ?_|refine xB ?_|refine xN ?_|fail)
  all_goals exact⟨_,_, .one (.same (.z)),pw,⟨vn,vr,vb,P,N,List.replicate i (Value.slice none 0 0,[]),[]⟩,rfl,rfl,by unfold WX.W begW;simp only;rw [hN,List.map_replicate],hP⟩
theorem begin_k(n:Nat)(hn:1≤n∧n≤5) : WorK n 0 (begW n):=by
 refine⟨hn,by simp [begW],by simp [begW],fun i s hs=>?_,fun m hm=>(nomatch hm),Nat.le_refl _,fun i l hl=>?_⟩
 ·have hs:((List.range n).map fun i:Nat=>(recoF n i []).2)[i]?=some s:=hs
  rw [zG,Option.map_eq_some_iff] at hs
  obtain⟨j,hj,rfl⟩:=hs
  obtain⟨hjl,rfl⟩:=zS.1 hj
  rw [List.length_range] at hjl
  rw [List.getElem_range]
  have h0:=(rec_new (n:=n) (i:=i) (by omega) (by omega)).1
  obtain⟨k1,k2,k3,k4⟩:=reco_ok h0
  exact⟨k1,k2,k3,by rw [k4];exact Nat.le_refl _⟩
 ·have hl:(List.replicate n ([]:List RecS))[i]?=some l:=hl
  rw [List.getElem?_replicate] at hl
  split at hl
  ·cases hl
   exact⟨zZ _,fun r h=>(nomatch h)⟩
  ·cases hl
def csO : Nat→Ord×(Nat→Cls):=(fun id=>bif Nat.beq id 1 then(.one 0 (.one 1 (.one 2 (.one 3 (.one 4 (.one 5 (.one 6 (.one 7 (.one 8 (.one 9 (.one 10 (.one 11 (.one 12 (.one 13 (.one 14 (.one 15 (.one 16 (.one 17 (.one 18 .done)))))))))))))))))),clOf [.pure, .pure, .pure, .read, .pure, .pure, .pure, .pure, .pure, .read, .pure, .pure, .read, .loud, .pure, .pure, .pure, .pure, .pure]) else(.done,clOf []))
theorem crash_w(pw:Nat)(x:WX)(n B i:Nat)(hw:WorK n B x.W)(hB:B≤40000)(hp:PtrOK x)(hi:i < n)(hc:(crshW x.W i).2=true) : CallA Try.prog 45 [pm pw,it (i:Nat)] (worR pw x) fun r own=>r=bl true∧∃x',own=worR pw x'∧x'.W=(crshW x.W i).1∧PtrOK x':=by
 obtain⟨hRl,hNl,hRr,hBl⟩:=hw.rlen
 have hPl:x.P.length=n:=by rw [hp,List.length_map];exact hNl
 obtain⟨y,hy1,hy2,_⟩:=hw.node hp hi
 obtain⟨⟨v,L⟩,hr⟩:=get_of (l:=x.R) (i:=i) (by omega)
 have hL:=hRr _ (zM hr)
 simp only at hL
 have hrc:x.W.rcs i=L:=rcs_at (show(x.R.map (·.2))[i]?=some L by rw [zG,hr];rfl)
 have hnn:=hw.nn
 have hln:=hw.ln
 unfold crshW at hc ⊢
 rw [hln,hrc] at hc ⊢
 have hz:(recoF n i L).1=0:=by
  refine Classical.byContradiction fun h=>?_
  rw [if_pos h] at hc;cases hc
 rw [if_neg (fun h=>h hz)]
 have hre:CallA Try.prog 26 [it (n:Nat),it (i:Nat), .ow v] [arrR v 108 30 L recC] fun r own=>∃p pe pl ve vl,r= .tup [pm p,it 0]∧own=nodR p pe pl ve vl (recoF n i L).2 ++ [arrR v 108 30 L recC]:=(reco_a n i v L (by omega) hL.2).mono fun r o h=>h.elim (fun h=>by rw [hz] at h;cases h.1) fun h=>h.2
 generalize (recoF n i L).2=t at hre ⊢
 obtain⟨vn,vr,vb,P,N,R,Bx⟩:=x
 simp only at hRl hNl hPl hy1 hy2 hr
 have hPn:((P.length:Nat):Int)=(n:Int):=by omega
 show CallA Try.prog _ _ [blkR pw 30 [.ow vn, .ow vr, .ow vb],arrR vn 31 1 P ptrC,arrR vr 33 1 R rlsC,arrR vb 76 18 Bx msgC,bunR (N.map nodeO),bunR (R.map recO)] _
 rw [←hPl] at hre
 refine CallA.of pg csO Try.func45 rfl Try.ntmps45 Try.results45 rfl fun h0 G0 O0=>?_
 (repeat'(first|(show CA _ _ (Code.region 1 _ _) _ _;apply Stopped.out)|apply Sp.h|refine Lk.r rfl ?_|refine Rf.mk rfl ?_|fail));any_goals apply Stopped.mk
 apply CA.bunTake (l:=R) (g:=recO) (i:=i) (x:=(v,L))
 focus(repeat constructor)
 focus exact hr
 unfold recO
 simp only
 repeat'(first|(show CA _ _ (Code.region 4 _ _) _ _;apply Stopped.out)|apply Sp.h|refine Lk.r rfl ?_|refine Rf.mk rfl ?_|refine xA ?_|refine xB ?_|refine OpK.r rfl ?_|refine xU ?_|refine xT ?_|refine xI ?_|refine xJ ?_|refine xD ?_|(((apply Cl.use (hre);(focus repeat' constructor);(focus repeat' constructor);focus rfl));(rintro _ _ ⟨p,pe,pl,ve,vl,rfl,rfl⟩)))
 any_goals apply Stopped.mk
 apply CA.bunPut (l:=R) (g:=recO) (i:=i) (x:=(v,L))
 focus(repeat constructor)
 focus(repeat constructor)
 focus omega
 rw [set_at hr]
 apply CA.bunTake (l:=N) (g:=nodeO) (i:=i) (x:=y)
 focus(repeat constructor)
 focus exact hy1
 apply CA.reb (rs:=nodR p pe pl ve vl t)
 focus(repeat(first|exact Takes.nil|(apply Takes.cons;(focus repeat constructor))))
 apply CA.bunPut (l:=N) (g:=nodeO) (i:=i) (x:=⟨p,pe,pl,ve,vl,t⟩)
 focus(repeat constructor)
 focus(repeat constructor)
 focus omega
 repeat'(first|apply Sp.h|refine Lk.r rfl ?_|refine Rf.mk rfl ?_|refine xU ?_|refine xT ?_|refine xI ?_|refine xJ ?_|refine xV ?_|refine xN ?_|refine Up.r rfl ?_|fail)
 all_goals
  refine⟨_,_, .one (.same (.z)),rfl,⟨vn,vr,vb,P.set i p,N.set i ⟨p,pe,pl,ve,vl,t⟩,R,Bx⟩,rfl, ?_, ?_⟩
  ·unfold WX.W
   simp only
   rw [set_W]
  ·show P.set i p=(N.set i ⟨p,pe,pl,ve,vl,t⟩).map PNode.p
   rw [List.map_set,show P=N.map PNode.p from hp]
def tksW : Nat→WorS→WorS
 | 0,W=>W
 | k+1,W=>tickW (tksW k W) 0
def dl1W(W:WorS) : WorS:=if 0 < W.box.length∧(W.box.getD 0 zerM).kind≠7 then(delvW W 0 false).1 else W
def dlsW : Nat→WorS→WorS
 | 0,W=>W
 | k+1,W=>dl1W (dlsW k W)
def chgW(W:WorS)(vs:List Int) : WorS:=putW W 0 ((chgN (W.nod 0) vs).1,(chgN (W.nod 0) vs).2.2.1)
def aw1 : WorS:=tksW 10 (begW 3)
def aw2 : WorS:=dlsW 20 aw1
def aw3 : WorS:=(setlW 100 aw2).1
def aw4 : WorS:=chgW aw3 [0,1]
def aw5 : WorS:=(setlW 100 aw4).1
def aw6 : WorS:=chgW aw5 [1]
def aw7 : WorS:=(setlW 100 aw6).1
structure AwkF:Prop where
 l2:leadW aw2=0
 c2:chgB (aw2.nod 0)=true
 s2:(setlW 100 aw2).2=true
 i3:(chgN (aw3.nod 0) [0,1]).2.1=2
 c3:(chgN (aw3.nod 0) [0,1]).2.2.2=0
 v4:votN (aw4.nod 0)= [0,1]
 s4:(setlW 100 aw4).2=true
 m5:(aw5.nod 0).g.commit=2
 c5:(chgN (aw5.nod 0) [1]).2.2.2=0
 s6:(setlW 100 aw6).2=true
 l7:leadW aw7= -1
theorem awkF : AwkF:=⟨by decide +kernel,by decide +kernel,by decide +kernel,by decide +kernel,by decide +kernel,by decide +kernel,by decide +kernel,by decide +kernel,by decide +kernel,by decide +kernel,by decide +kernel⟩
theorem keep_k(pw:Nat)(x:WX)(n B i:Nat)(y':PNode)(s':NodS)(o:OutS)(hw:WorK n B x.W)(hB:B≤10000000)(hi:i < n)(hc:CalK n (B+1) i (s',o)) : CallA Try.prog 9 [pm pw,it (i:Nat),outA o] (worR pw { x with N:=x.N.set i y' }) fun r own=>r= .tup []∧∃x',own=worR pw x'∧x'.W=keepW (WX.W { x with N:=x.N.set i y' }) i o∧x'.N=x.N.set i y'∧x'.P=x.P:=by
 obtain⟨hRl,hNl,hRr,hBl⟩:=hw.rlen
 exact keep_a pw { x with N:=x.N.set i y' } i o (by simp only;omega) (fun r hr=>by have:=(hRr r hr).1;omega) (Nat.le_trans hc.rl (by decide)) (by simp only;omega) (Nat.le_trans hc.ml (by decide))
theorem put_fin{x x':WX}{i:Nat}{y y':PNode}{o:OutS}(hy:x.N[i]?=some y)(hp:PtrOK x)(h2:y'.p=y.p)(h3:x'.W=keepW (WX.W { x with N:=x.N.set i y' }) i o)(h4:x'.N=x.N.set i y')(h5:x'.P=x.P) : x'.W=putW x.W i (y'.s,o)∧PtrOK x':=by
 refine⟨?_,by unfold PtrOK;rw [h4,h5];exact ptr_set hp hy h2⟩
 rw [h3]
 unfold putW WX.W
 simp only
 rw [set_W]
theorem tick_w{x:WX}{n B i:Nat}(hw:WorK n B x.W)(hp:PtrOK x)(hi:i < n) :∃y,x.N[i]?=some y∧x.P[i]?=some y.p∧y.s=x.W.nod i∧CalK n (B+1) i (tickN (x.W.nod i))∧CallA Try.prog 10 [pm y.p] [bunR (x.N.map nodeO)] fun r own=>∃y',y'.s=(tickN (x.W.nod i)).1∧y'.p=y.p∧r=outA (tickN (x.W.nod i)).2∧own= [bunR ((x.N.set i y').map nodeO)]:=by
 obtain⟨y,hy1,hy2,hy3,hy4,hy5,hy6,hy7⟩:=hw.node hp hi
 rw [←hy3]
 exact⟨y,hy1,hy2,rfl,tick_ok hy4 hy5 hy6 hy7,node_w hy1 (tick_a y.p y.pe y.pl y.ve y.vl y.s hy4)⟩
theorem prop_w{x:WX}{n B i:Nat}(hw:WorK n B x.W)(hp:PtrOK x)(hi:i < n)(e:EntS)(hv:e.vot.length≤1000000) :∃y,x.N[i]?=some y∧x.P[i]?=some y.p∧y.s=x.W.nod i∧CalK n (B+1) i ((propN (x.W.nod i) e).1,(propN (x.W.nod i) e).2.2.1)∧CallA Try.prog 46 [pm y.p,entA e] [bunR (x.N.map nodeO)] fun r own=>∃y',y'.s=(propN (x.W.nod i) e).1∧y'.p=y.p∧r= .tup [it (propN (x.W.nod i) e).2.1,outA (propN (x.W.nod i) e).2.2.1,it (propN (x.W.nod i) e).2.2.2]∧own= [bunR ((x.N.set i y').map nodeO)]:=by
 obtain⟨y,hy1,hy2,hy3,hy4,hy5,hy6,hy7⟩:=hw.node hp hi
 rw [←hy3]
 exact⟨y,hy1,hy2,rfl,(prop_ok hy4 hy5 hy6 hy7 e).mono (Nat.le_succ _),node_w hy1 (nprop_a y.p y.pe y.pl y.ve y.vl y.s e hy4 hv)⟩
theorem chg_w{x:WX}{n B i:Nat}(hw:WorK n B x.W)(hp:PtrOK x)(hi:i < n)(vs:List Int)(hv:vs.length≤1000000) :∃y,x.N[i]?=some y∧x.P[i]?=some y.p∧y.s=x.W.nod i∧CalK n (B+1) i ((chgN (x.W.nod i) vs).1,(chgN (x.W.nod i) vs).2.2.1)∧CallA Try.prog 17 [pm y.p,ints vs] [bunR (x.N.map nodeO)] fun r own=>∃y',y'.s=(chgN (x.W.nod i) vs).1∧y'.p=y.p∧r= .tup [it (chgN (x.W.nod i) vs).2.1,outA (chgN (x.W.nod i) vs).2.2.1,it (chgN (x.W.nod i) vs).2.2.2]∧own= [bunR ((x.N.set i y').map nodeO)]:=by
 obtain⟨y,hy1,hy2,hy3,hy4,hy5,hy6,hy7⟩:=hw.node hp hi
 rw [←hy3]
 exact⟨y,hy1,hy2,rfl,(chg_ok hy4 hy5 hy6 hy7 vs).mono (Nat.le_succ _),node_w hy1 (nchg_a y.p y.pe y.pl y.ve y.vl y.s vs hy4 hv)⟩
theorem same_fin{x:WX}{i:Nat}{y y':PNode}(hy:x.N[i]?=some y)(hp:PtrOK x)(h1:y'.s=y.s)(h2:y'.p=y.p) : WX.W { x with N:=x.N.set i y' } = x.W∧PtrOK { x with N:=x.N.set i y' }:=by
 refine⟨?_,ptr_set hp hy h2⟩
 unfold WX.W
 simp only
 rw [set_W,h1,set_at (by rw [zG,hy];rfl)]
theorem voters_w{x:WX}{n B i:Nat}(hw:WorK n B x.W)(hp:PtrOK x)(hi:i < n) :∃y,x.N[i]?=some y∧x.P[i]?=some y.p∧y.s=x.W.nod i∧CallA Try.prog 13 [pm y.p] [bunR (x.N.map nodeO)] fun r own=>r=ints (votN (x.W.nod i))∧own= [bunR (x.N.map nodeO)]:=by
 obtain⟨y,hy1,hy2,hy3,hy4,hy5,hy6,hy7⟩:=hw.node hp hi
 rw [←hy3]
 refine⟨y,hy1,hy2,rfl,CallA.bunAt (rest:= []) (g:=nodeO) hy1 (CallA.bunIn (rest:= []) (rs:=nodR y.p y.pe y.pl y.ve y.vl y.s) (K':=fun r own=>r=ints (votN y.s)∧own= [nodeO y]) (nvoters_f y.p y.pe y.pl y.ve y.vl y.s hy4.g.n.2 hy4.g.val) ?_) ?_⟩
 ·rintro _ _ ⟨rfl,rfl⟩
  exact⟨nodR y.p y.pe y.pl y.ve y.vl y.s,[],(List.append_nil _).symm,rfl,rfl⟩
 ·rintro _ _ ⟨rfl,rfl⟩
  exact⟨y,[],rfl,rfl,by rw [set_at hy1]⟩
theorem commit_w{x:WX}{n B i:Nat}(hw:WorK n B x.W)(hp:PtrOK x)(hi:i < n) :∃y,x.N[i]?=some y∧x.P[i]?=some y.p∧y.s=x.W.nod i∧CallA Try.prog 24 [pm y.p] [bunR (x.N.map nodeO)] fun r own=>r=it (x.W.nod i).g.commit∧own= [bunR (x.N.map nodeO)]:=by
 obtain⟨y,hy1,hy2,hy3,hy4,hy5,hy6,hy7⟩:=hw.node hp hi
 rw [←hy3]
 refine⟨y,hy1,hy2,rfl,CallA.bunAt (rest:= []) (g:=nodeO) hy1 (CallA.bunIn (rest:= []) (rs:=nodR y.p y.pe y.pl y.ve y.vl y.s) (K':=fun r own=>r=it y.s.g.commit∧own= [nodeO y]) (ncommit_a y.p y.pe y.pl y.ve y.vl y.s) ?_) ?_⟩
 ·rintro _ _ ⟨rfl,rfl⟩
  exact⟨nodR y.p y.pe y.pl y.ve y.vl y.s,[],(List.append_nil _).symm,rfl,rfl⟩
 ·rintro _ _ ⟨rfl,rfl⟩
  exact⟨y,[],rfl,rfl,by rw [set_at hy1]⟩
theorem tks_k{W:WorS}{n B:Nat}(h:WorK n B W) :∀k,WorK n (B+k) (tksW k W)
 | 0=>h
 | k+1=>(tks_k h k).tick (by have:=h.nn;omega)
theorem dl1_k{W:WorS}{n B:Nat}(h:WorK n B W) : WorK n (B+1) (dl1W W):=by
 unfold dl1W
 split
 ·rename_i hb
  exact(h.delv hb.1 false).1
 ·exact h.mono (Nat.le_succ _)
theorem dls_k{W:WorS}{n B:Nat}(h:WorK n B W) :∀k,WorK n (B+k) (dlsW k W)
 | 0=>h
 | k+1=>dl1_k (dls_k h k)
theorem chgW_k{W:WorS}{n B:Nat}(h:WorK n B W)(vs:List Int) : WorK n (B+1) (chgW W vs):=by
 have h0:0 < n:=h.nn.1
 obtain⟨_,_,h1,h2,h3,h4⟩:=h.get h0
 exact h.put h0 ((chg_ok h1 h2 h3 h4 vs).mono (Nat.le_succ _))
theorem awake_p : CallA Try.prog 6 [] [] fun r own=>r=bl true∧own= []:=by
 have hbg:CallA Try.prog 7 [it 3] [] fun r own=>∃pw x,r=pm pw∧own=worR pw x∧x.W=begW 3∧PtrOK x:=begin_w 3 (by decide)
 have k0:=begin_k 3 (by decide)
 have k1:=fun i=>tks_k k0 i
 have k2:∀i,WorK 3 (10+i) (dlsW i aw1):=fun i=>by have:=dls_k (k1 10) i;rw [Nat.zero_add] at this;exact this
 obtain⟨f1,f2,f3,f4,f5,f6,f7,f8,f9,f10,f11⟩:=awkF
 refine CallA.of pg ordZ Try.func6 rfl Try.ntmps6 Try.results6 rfl fun h0 G0 O0=>?_
 repeat'(first|apply Sp.h|refine Lk.r rfl ?_|refine Rf.mk rfl ?_|fail)
 refine xW (hbg) ?_
 rintro _ _ ⟨pw,x,rfl,rfl,hx,hp⟩
 (repeat'(first|(show CA _ _ (Code.block 0 _) _ _;apply Stopped.out)|apply Sp.h|refine Lk.r rfl ?_|refine Rf.mk rfl ?_|refine xB ?_|fail));any_goals apply Stopped.mk
 apply Sp.h
 refine CA.loop (fun z:Nat×WX=>⟨[(1,pm pw),(11,it (z.1:Nat))],worR pw z.2⟩) (fun z=>z.1≤10∧z.2.W=tksW z.1 (begW 3)∧PtrOK z.2) (fun z=>10 - z.1) (0,x) xE ⟨zZ _,hx,hp⟩ ?_
 clear hx hp
 rintro⟨i,x⟩ ⟨hi,hx,hp⟩
 simp only at hi hx hp
 simp only
 by_cases hin:i < 10
 ·have hw:WorK 3 (0+i) x.W:=by rw [hx];exact k1 i
  obtain⟨y,hy1,hy2,hy3,hc,htk⟩:=tick_w (i:=0) hw hp (by decide)
  have hkp:=fun y'=>keep_k pw x 3 (0+i) 0 y' (tickN (x.W.nod 0)).1 (tickN (x.W.nod 0)).2 hw (by omega) (by decide) hc
  rw [show(((0:Nat):Int))=0 from rfl] at hkp
  have hnx:tksW (i+1) (begW 3)=putW x.W 0 (tickN (x.W.nod 0)):=by rw [hx];rfl
  rw [show tickN (x.W.nod 0)=((tickN (x.W.nod 0)).1,(tickN (x.W.nod 0)).2) from rfl] at hnx
  generalize tickN (x.W.nod 0)=Q at hc htk hkp hnx
  repeat'(first|apply Sp.h|refine Lk.r rfl ?_|refine Rf.mk rfl ?_|refine xA ?_|refine xU ?_|refine xT ?_|refine xI ?_|refine xJ ?_|(((apply Cl.use (htk);(focus repeat' constructor);(focus repeat' constructor);focus rfl));(rintro _ _ ⟨y',e1,e2,rfl,rfl⟩)))
  all_goals first
   | exact(by omega:False).elim
   | skip
  have hk2:=hkp y'
  refine xW (hk2) ?_
  rintro _ _ ⟨rfl,x',rfl,e3,e4,e5⟩
  obtain⟨w1,w2⟩:=put_fin hy1 hp e2 e3 e4 e5
  rw [e1] at w1
  repeat'(first|apply Sp.h|refine Lk.r rfl ?_|refine Rf.mk rfl ?_|refine xO ?_|fail)
  all_goals exact PA.lp (i+1,x') xE ⟨⟨hin,by simp only;rw [w1,hnx],w2⟩,by simp only;omega⟩
 have hi10:i=10:=by omega
 subst hi10
 (repeat'(first|(show CA _ _ (Code.block 2 _) _ _;apply Stopped.out)|apply Sp.h|refine Lk.r rfl ?_|refine Rf.mk rfl ?_|refine xB ?_|fail));any_goals apply Stopped.mk
 apply Sp.h
 refine CA.loop (fun z:Nat×WX=>⟨[(1,pm pw),(23,it (z.1:Nat))],worR pw z.2⟩) (fun z=>z.1≤20∧z.2.W=dlsW z.1 aw1∧PtrOK z.2) (fun z=>20 - z.1) (0,x) xE ⟨zZ _,hx,hp⟩ ?_
 clear hx hp hi hin
 rintro⟨i,x⟩ ⟨hi,hx,hp⟩
 simp only at hi hx hp
 simp only
 by_cases hin:i < 20
 ·have hw:WorK 3 (10+i) x.W:=by rw [hx];exact k2 i
  have hnx:dlsW (i+1) aw1=dl1W x.W:=by rw [hx];rfl
  unfold dl1W at hnx
  have hWB:x.W.box=x.B:=rfl
  rw [hWB] at hnx
  by_cases hb:0 < x.B.length
  ·obtain⟨m,hm⟩:=get_of hb
   rw [getD_of hm] at hnx
   by_cases hk:m.kind=7
   ·rw [if_neg (fun h=>h.2 hk)] at hnx
    repeat'(first|apply Sp.h|refine Lk.r rfl ?_|refine Rf.mk rfl ?_|refine xA ?_|refine xU ?_|refine xT ?_|refine xI ?_|refine xJ ?_|refine xO ?_|fail)
    all_goals first
     | exact PA.lp (i+1,x) xE ⟨⟨hin,by simp only;rw [hnx],hp⟩,by simp only;omega⟩
     | exact(by omega:False).elim
   ·rw [if_pos ⟨hb,hk⟩] at hnx
    have hde:=deliver_a pw x 3 (10+i) 0 false hw (by omega) hp hb
    rw [show(((0:Nat):Int))=0 from rfl] at hde
    repeat'(first|apply Sp.h|refine Lk.r rfl ?_|refine Rf.mk rfl ?_|refine xA ?_|refine xB ?_|refine xU ?_|refine xT ?_|refine xI ?_|refine xJ ?_|refine xO ?_|(((apply Cl.use (hde);(focus repeat' constructor);(focus repeat' constructor);focus rfl));(rintro _ _ ⟨rfl,x',rfl,e1,e2⟩)))
    all_goals first
     | exact PA.lp (i+1,x') xE ⟨⟨hin,by simp only;rw [e1,hnx],e2⟩,by simp only;omega⟩
     | exact(by omega:False).elim
  ·rw [if_neg (fun h=>hb h.1)] at hnx
   repeat'(first|apply Sp.h|refine Lk.r rfl ?_|refine Rf.mk rfl ?_|refine xA ?_|refine xB ?_|refine xU ?_|refine xT ?_|refine xO ?_|fail)
   all_goals first
    | exact PA.lp (i+1,x) xE ⟨⟨hin,by simp only;rw [hnx],hp⟩,by simp only;omega⟩
    | exact(by omega:False).elim
 have hi20:i=20:=by omega
 subst hi20
 have hx2:x.W=aw2:=hx
 have hw2:WorK 3 30 aw2:=k2 20
 rw [←hx2] at hw2
 have hle:=leader_w pw x 3 30 hw2 hp
 obtain⟨y,hy1,hy2,hy3,hc,hch⟩:=chg_w (i:=0) hw2 hp (by decide) [0,1] (by decide)
 rw [hx2,f1] at hle
 have hcn:chgN (x.W.nod 0) [0,1]=(x.W.nod 0,0,⟨[],[]⟩,9):=by rw [hx2];unfold chgN;rw [if_pos f2]
 rw [hcn] at hch
 simp only at hch
 clear hcn hc
 repeat'(first|apply Sp.h|refine Lk.r rfl ?_|refine Rf.mk rfl ?_|refine xA ?_|refine xB ?_|refine All.mk fun _=>?_|refine xU ?_|refine xT ?_|refine xI ?_|refine xJ ?_|(apply Fk.r;focus repeat' first|infer_instance|constructor)|refine Rf.mk ⟨rfl,rfl,rfl⟩ ?_|(((apply Cl.use (hle);(focus repeat' constructor);(focus repeat' constructor);focus rfl));(rintro _ _ ⟨rfl,rfl⟩)))
 (apply Cl.fz;(focus repeat'(first|exact FZ.nil|(apply FZ.fz;(focus repeat constructor);(focus first|omega|decide|exact zB rfl|(simp <;> omega)))|apply FZ.agg|apply FZ.same)))
 (apply Cl.use (hch);(focus repeat'(first|exact Lend.nil|apply Lend.keep|(apply Lend.mp;(focus rfl))|fail));(focus(repeat(first|exact Takes.nil|(apply Takes.cons;(focus repeat constructor)))));(focus rfl))
 rintro _ _ ⟨y',e1,e2,rfl,rfl⟩
 obtain⟨w1,w2⟩:=same_fin hy1 hp (e1.trans hy3.symm) e2
 have hse:=settle_w pw { x with N:=x.N.set 0 y' } 3 30 100 (by rw [w1];exact hw2) (by decide) (by decide) w2 (by rw [w1,hx2];exact f3)
 repeat'(first|apply Sp.h|refine Lk.r rfl ?_|refine Rf.mk rfl ?_|refine xA ?_|refine All.mk fun _=>?_|refine xU ?_|refine xT ?_|(apply SetAsk.r;focus repeat' constructor)|refine xN ?_|(((apply Cl.use (hse);(focus repeat' constructor);(focus repeat' constructor);focus rfl));(rintro _ _ ⟨rfl,x3,rfl,e3,e4,e5⟩)))
 have hx3:x3.W=aw3:=by rw [e3,w1,hx2];rfl
 clear hse hch hle e1 e2 w1 w2 hw2 hx2 hy1 hy2 hy3 hp hx e3
 obtain⟨y3,hy1,hy2,hy3,hc,hch⟩:=chg_w (i:=0) e5 e4 (by decide) [0,1] (by decide)
 have hkp:=fun y'=>keep_k pw x3 3 (30+100) 0 y' (chgN (x3.W.nod 0) [0,1]).1 (chgN (x3.W.nod 0) [0,1]).2.2.1 e5 (by decide) (by decide) hc
 rw [show(((0:Nat):Int))=0 from rfl] at hkp
 have q1:(chgN (x3.W.nod 0) [0,1]).2.1=2:=by rw [hx3];exact f4
 have q2:(chgN (x3.W.nod 0) [0,1]).2.2.2=0:=by rw [hx3];exact f5
 have hx4:aw4=putW x3.W 0 ((chgN (x3.W.nod 0) [0,1]).1,(chgN (x3.W.nod 0) [0,1]).2.2.1):=by rw [hx3];rfl
 rw [q1,q2] at hch
 have hw4:=chgW_k e5 [0,1]
 rw [show chgW x3.W [0,1]=aw4 by rw [hx3];rfl] at hw4
 generalize chgN (x3.W.nod 0) [0,1]=Q at hc hch hkp hx4
 obtain⟨Q1,Q2,Q3,Q4⟩:=Q
 simp only at hc hch hkp hx4
 repeat'(first|apply Sp.h|refine Lk.r rfl ?_|refine Rf.mk rfl ?_|refine All.mk fun _=>?_|refine xU ?_|refine xT ?_|refine xI ?_|refine xJ ?_|refine Ch.l ⟨rfl,rfl⟩ ?_|(apply SetAsk.r;focus repeat' constructor)|(apply Fk.r;focus repeat' first|infer_instance|constructor)|refine xN ?_|refine Rf.mk ⟨rfl,rfl,rfl⟩ ?_|(((apply Cl.fz;(focus repeat'(first|exact FZ.nil|(apply FZ.fz;(focus repeat constructor);(focus first|omega|decide|exact zB rfl|(simp <;> omega)))|apply FZ.agg|apply FZ.same))));((apply Cl.use (hch);(focus repeat'(first|exact Lend.nil|apply Lend.keep|(apply Lend.mp;(focus rfl))|fail));(focus(repeat(first|exact Takes.nil|(apply Takes.cons;(focus repeat constructor)))));(focus rfl)));(rintro _ _ ⟨y',e1,e2,rfl,rfl⟩)))
 have hk2:=hkp y'
 refine xW (hk2) ?_
 rintro _ _ ⟨rfl,x4,rfl,e3,e6,e7⟩
 obtain⟨w1,w2⟩:=put_fin hy1 e4 e2 e3 e6 e7
 rw [e1,←hx4] at w1
 clear hk2 hkp hch hc hx4 e3 e6 e7 hy1 hy2 hy3 e1 e2 q1 q2 e4 e5
 rw [←w1] at hw4
 obtain⟨y4,hy1,hy2,hy3,hvo⟩:=voters_w (i:=0) hw4 w2 (by decide)
 rw [w1,f6] at hvo
 have heq:=equal_p [0,1] [0,1]
 rw [zT rfl] at heq
 have hse:=settle_w pw x4 3 (30+100+1) 100 hw4 (by decide) (by decide) w2 (by rw [w1];exact f7)
 repeat'(first|apply Sp.h|refine Lk.r rfl ?_|refine Rf.mk rfl ?_|refine xA ?_|refine All.mk fun _=>?_|refine xU ?_|refine xT ?_|refine xI ?_|refine xJ ?_|(apply Fk.r;focus repeat' first|infer_instance|constructor)|refine Rf.mk ⟨rfl,rfl,rfl⟩ ?_|(((apply Cl.use (hvo);(focus repeat' constructor);(focus repeat' constructor);focus rfl));(rintro _ _ ⟨rfl,rfl⟩))|(apply Cl.lend (heq);(focus((repeat'(first|exact Lend.nil|apply Lend.keep|(apply Lend.lendm;(focus repeat constructor);(focus rfl);(focus first|omega|decide|(simp;omega)|exact zB rfl))|fail));done)))|(((apply Cl.use (hse);(focus repeat' constructor);(focus repeat' constructor);focus rfl));(rintro _ _ ⟨rfl,x5,rfl,e3,e4,e5⟩)))
 have hx5:x5.W=aw5:=by rw [e3,w1];rfl
 clear hse hvo hw4 w1 w2 e3 hy1 hy2 hy3 heq
 obtain⟨y5,hy1,hy2,hy3,hcm⟩:=commit_w (i:=0) e5 e4 (by decide)
 rw [hx5,f8] at hcm
 obtain⟨y6,hz1,hz2,hz3,hc,hch⟩:=chg_w (i:=0) e5 e4 (by decide) [1] (by decide)
 have hyz:y6=y5:=by rw [hy1] at hz1;cases hz1;rfl
 subst hyz
 clear hz1 hz2 hz3
 have hkp:=fun y'=>keep_k pw x5 3 (30+100+1+100) 0 y' (chgN (x5.W.nod 0) [1]).1 (chgN (x5.W.nod 0) [1]).2.2.1 e5 (by decide) (by decide) hc
 rw [show(((0:Nat):Int))=0 from rfl] at hkp
 have q2:(chgN (x5.W.nod 0) [1]).2.2.2=0:=by rw [hx5];exact f9
 have hx6:aw6=putW x5.W 0 ((chgN (x5.W.nod 0) [1]).1,(chgN (x5.W.nod 0) [1]).2.2.1):=by rw [hx5];rfl
 rw [q2] at hch
 have hw6:=chgW_k e5 [1]
 rw [show chgW x5.W [1]=aw6 by rw [hx5];rfl] at hw6
 generalize chgN (x5.W.nod 0) [1]=Q at hc hch hkp hx6
 obtain⟨Q1,Q2,Q3,Q4⟩:=Q
 simp only at hc hch hkp hx6
 repeat'(first|apply Sp.h|refine Lk.r rfl ?_|refine Rf.mk rfl ?_|refine xA ?_|refine All.mk fun _=>?_|refine xU ?_|refine xT ?_|refine xI ?_|refine xJ ?_|refine Ch.l ⟨rfl,rfl⟩ ?_|(apply SetAsk.r;focus repeat' constructor)|(apply Fk.r;focus repeat' first|infer_instance|constructor)|refine Rf.mk ⟨rfl,rfl,rfl⟩ ?_|(((apply Cl.use (hcm);(focus repeat' constructor);(focus repeat' constructor);focus rfl));(rintro _ _ ⟨rfl,rfl⟩))|(((apply Cl.fz;(focus repeat'(first|exact FZ.nil|(apply FZ.fz;(focus repeat constructor);(focus first|omega|decide|exact zB rfl|(simp <;> omega)))|apply FZ.agg|apply FZ.same))));((apply Cl.use (hch);(focus repeat'(first|exact Lend.nil|apply Lend.keep|(apply Lend.mp;(focus rfl))|fail));(focus(repeat(first|exact Takes.nil|(apply Takes.cons;(focus repeat constructor)))));(focus rfl)));(rintro _ _ ⟨y',e1,e2,rfl,rfl⟩)))
 have hk2:=hkp y'
 refine xW (hk2) ?_
 rintro _ _ ⟨rfl,x6,rfl,e3,e6,e7⟩
 obtain⟨w1,w2⟩:=put_fin hy1 e4 e2 e3 e6 e7
 rw [e1,←hx6] at w1
 clear hk2 hkp hch hc hx6 e3 e6 e7 hy1 hy2 hy3 e1 e2 q2 e4 e5 hcm
 rw [←w1] at hw6
 have hse:=settle_w pw x6 3 (30+100+1+100+1) 100 hw6 (by decide) (by decide) w2 (by rw [w1];exact f10)
 repeat'(first|apply Sp.h|refine Lk.r rfl ?_|refine Rf.mk rfl ?_|refine xA ?_|(((apply Cl.use (hse);(focus repeat' constructor);(focus repeat' constructor);focus rfl));(rintro _ _ ⟨rfl,x7,rfl,e3,e4,e5⟩)))
 have hx7:x7.W=aw7:=by rw [e3,w1];rfl
 have hle:=leader_w pw x7 3 _ e5 e4
 rw [hx7,f11] at hle
 repeat'(first|apply Sp.h|refine Lk.r rfl ?_|refine xN ?_|(((apply Cl.use (hle);(focus repeat' constructor);(focus repeat' constructor);focus rfl));(rintro _ _ ⟨rfl,rfl⟩)))
 all_goals exact⟨_,_, .one (.same (.z)),rfl,rfl⟩
end Go.Proofs.Ythlpimbhonihhaa
namespace Go.CF
open Go
section
variable {Γ:Cx} {k:List KI} {e:EA} {o:List Res} {N:NA} {c:Cls} {d:Tmp} {ty:TypeId} {x y z:Operand} {t u:TypeId} {i:Int}
theorem and16{i:Int}{m:Nat}(h:0≤i∧i < 65536)(hm:m < 16) : IntKind.u16.wrap ((BitVec.ofInt 16 i &&& BitVec.ofInt 16 ((2 ^ m - 1:Nat):Int)).toNat:Int)=i % (2 ^ m:Nat):=by
 obtain⟨a,rfl⟩:=Int.eq_ofNat_of_zero_le h.1
 have ha:a < 65536:=by have:=h.2;omega
 have h2:2 ^ m - 1 < 65536:=by have:2 ^ m < 2 ^ 16:=Nat.pow_lt_pow_right (by decide) hm;omega
 have e1:(BitVec.ofInt 16 (a:Int) &&& BitVec.ofInt 16 ((2 ^ m - 1:Nat):Int)).toNat=a % 2 ^ m:=by
  rw [BitVec.toNat_and]
  have q1:(BitVec.ofInt 16 (a:Int)).toNat=a:=by simp;omega
  have q2:(BitVec.ofInt 16 ((2 ^ m - 1:Nat):Int)).toNat=2 ^ m - 1:=by
   rw [BitVec.toNat_ofInt]
   omega
  rw [q1,q2,Nat.and_two_pow_sub_one_eq_mod]
 rw [e1]
 have h3:a % 2 ^ m≤a:=Nat.mod_le _ _
 rw [←Int.natCast_emod]
 generalize a % 2 ^ m=q at h3
 simp only [IntKind.wrap,IntKind.signed,IntKind.bits]
 simp
 omega
instance : Sp (Ap2 Γ c d (.binOp .and t x y u) ty e o N x (.val (.int .u16 i)) y (.val (.int .u16 15))) (Om (0≤i∧i < 65536) (N ((d, .val (.int .u16 (i % 16))) :: e) o)):=⟨fun hn=>puv2 hn.k fun _ _ _ h h' k=> .ofPu (pu_int h h' fun w=>by rw [binOp_and];simp only [Op.intBits];rfl) (by
 have:=and16 (m:=4) hn.p (by decide)
 rw [show((2 ^ 4 - 1:Nat):Int)=15 from rfl,show((2 ^ 4:Nat):Int)=16 from rfl] at this
 exact this.symm▸k)⟩
instance : Sp (Ap2 Γ c d (.binOp .and t x y u) ty e o N x (.val (.int .u16 i)) y (.val (.int .u16 7))) (Om (0≤i∧i < 65536) (N ((d, .val (.int .u16 (i % 8))) :: e) o)):=⟨fun hn=>puv2 hn.k fun _ _ _ h h' k=> .ofPu (pu_int h h' fun w=>by rw [binOp_and];simp only [Op.intBits];rfl) (by
 have:=and16 (m:=3) hn.p (by decide)
 rw [show((2 ^ 3 - 1:Nat):Int)=7 from rfl,show((2 ^ 3:Nat):Int)=8 from rfl] at this
 exact this.symm▸k)⟩
instance {k2:IntKind} : Sp (Ap2 Γ c d (.binOp .shr t x y u) ty e o N x (.val (.int .u16 i)) y (.val (.int k2 4))) (N ((d, .val (.int .u16 (i / 16))) :: e) o):=⟨fun hn=>puv2 hn fun _ _ _ h h' k=>St.shrN h h' (m:=4) rfl (by decide) (by rw [show(2:Int) ^ 4=16 from rfl];exact k)⟩
instance {k2:IntKind} : Sp (Ap2 Γ c d (.binOp .shr t x y u) ty e o N x (.val (.int .u16 i)) y (.val (.int k2 8))) (N ((d, .val (.int .u16 (i / 256))) :: e) o):=⟨fun hn=>puv2 hn fun _ _ _ h h' k=>St.shrN h h' (m:=8) rfl (by decide) (by rw [show(2:Int) ^ 8=256 from rfl];exact k)⟩
end
end Go.CF
namespace Go.Proofs.Ythlpimbhonihhaa
open Go Go.CF
def lysSort_ren : Go.Shelf.Ren:=⟨fun | 189=>16 | 125=>38 | 257=>37 | 128=>67 | 129=>68 | 294=>58 | 295=>59 | 296=>60 | 297=>61 | 298=>62 | 299=>63 | 216=>64 | 300=>65 | 301=>66 | 328=>86 | 329=>87 | 330=>88 | 331=>89 | 332=>90 | 215=>91 | 343=>103|n=>n,fun | 28=>40 | 3=>3 | 46=>85 | 0=>0 | 51=>134 | 53=>136 | 4=>4 | 183=>127 | 182=>126 | 131=>62 | 5=>5 | 9=>9 | 218=>147 | 222=>151 | 228=>164 | 229=>49|n=>n,fun|n=>n⟩
theorem lysSort : Go.Proofs.Lays.n189 Try.prog lysSort_ren:={
 mixed:=by kernel_rfl,
 f125:=Try.func38.trans (congrArg some (by kernel_rfl)),
 f128:=Try.func67.trans (congrArg some (by kernel_rfl)),
 f129:=Try.func68.trans (congrArg some (by kernel_rfl)),
 f189:=Try.func16.trans (congrArg some (by kernel_rfl)),
 f215:=Try.func91.trans (congrArg some (by kernel_rfl)),
 f216:=Try.func64.trans (congrArg some (by kernel_rfl)),
 f257:=Try.func37.trans (congrArg some (by kernel_rfl)),
 f294:=Try.func58.trans (congrArg some (by kernel_rfl)),
 f295:=Try.func59.trans (congrArg some (by kernel_rfl)),
 f296:=Try.func60.trans (congrArg some (by kernel_rfl)),
 f297:=Try.func61.trans (congrArg some (by kernel_rfl)),
 f298:=Try.func62.trans (congrArg some (by kernel_rfl)),
 f299:=Try.func63.trans (congrArg some (by kernel_rfl)),
 f300:=Try.func65.trans (congrArg some (by kernel_rfl)),
 f301:=Try.func66.trans (congrArg some (by kernel_rfl)),
 f328:=Try.func86.trans (congrArg some (by kernel_rfl)),
 f329:=Try.func87.trans (congrArg some (by kernel_rfl)),
 f330:=Try.func88.trans (congrArg some (by kernel_rfl)),
 f331:=Try.func89.trans (congrArg some (by kernel_rfl)),
 f332:=Try.func90.trans (congrArg some (by kernel_rfl)),
 f343:=Try.func103.trans (congrArg some (by kernel_rfl)),
 t0:=Try.underlying0,
 a0:=Try.isAgg0,
 z0:=Try.sizeOf0,
 v0:=Try.zeroValue0,
 t3:=Try.underlying3,
 a3:=Try.isAgg3,
 z3:=Try.sizeOf3,
 v3:=Try.zeroValue3,
 t4:=Try.underlying4,
 a4:=Try.isAgg4,
 z4:=Try.sizeOf4,
 v4:=Try.zeroValue4,
 t5:=Try.underlying5,
 a5:=Try.isAgg5,
 z5:=Try.sizeOf5,
 v5:=Try.zeroValue5,
 t9:=Try.underlying9,
 a9:=Try.isAgg9,
 z9:=Try.sizeOf9,
 v9:=Try.zeroValue9,
 t28:=Try.underlying40,
 a28:=Try.isAgg40,
 z28:=Try.sizeOf40,
 v28:=Try.zeroValue40,
 t46:=Try.underlying85,
 a46:=Try.isAgg85,
 z46:=Try.sizeOf85,
 v46:=Try.zeroValue85,
 t51:=Try.underlying134,
 a51:=Try.isAgg134,
 z51:=Try.sizeOf134,
 v51:=Try.zeroValue134,
 t53:=Try.underlying136,
 a53:=Try.isAgg136,
 z53:=Try.sizeOf136,
 v53:=Try.zeroValue136,
 t131:=Try.underlying62,
 a131:=Try.isAgg62,
 z131:=Try.sizeOf62,
 v131:=Try.zeroValue62,
 t182:=Try.underlying126,
 a182:=Try.isAgg126,
 z182:=Try.sizeOf126,
 v182:=Try.zeroValue126,
 t183:=Try.underlying127,
 a183:=Try.isAgg127,
 z183:=Try.sizeOf127,
 v183:=Try.zeroValue127,
 t218:=Try.underlying147,
 a218:=Try.isAgg147,
 z218:=Try.sizeOf147,
 v218:=Try.zeroValue147,
 t222:=Try.underlying151,
 a222:=Try.isAgg151,
 z222:=Try.sizeOf151,
 v222:=Try.zeroValue151,
 t228:=Try.underlying164,
 a228:=Try.isAgg164,
 z228:=Try.sizeOf164,
 v228:=Try.zeroValue164,
 t229:=Try.underlying49,
 a229:=Try.isAgg49,
 z229:=Try.sizeOf49,
 v229:=Try.zeroValue49 }
def srtJ(l:List Int) : List Int:=l.mergeSort fun x y=>decide (x≤y)
theorem sortJ_a(v:Value)(l:List Int)(hl:l.length≤1000000) : CallA Try.prog 16 [.ow v] [arrR v 3 1 l intC] fun r own=>r= .tup []∧own= [arrR v 3 1 (srtJ l) intC] :=
 sortI_a lysSort v 3 l hl
def idxJ(l:List Int)(x:Int) : Int:=if x∈l then(l.idxOf x:Nat) else -1
theorem index_x(l:List Int)(x:Int) : CallP Try.prog 14 [ints l,it x] (it (idxJ l x)):=by
 unfold idxJ
 refine CallA.of pg ordZ Try.func14 rfl Try.ntmps14 Try.results14 rfl fun h0 G0 O0=>?_
 repeat'(first|apply Sp.h|refine Lk.r rfl ?_|refine Rf.mk rfl ?_|apply Im.mk|intro _)
 refine CA.loop (fun i:Nat=>⟨[(0,ints l),(1,it x),(7,it (l.length:Nat)),(8,it i)],[]⟩) (fun i=>i≤l.length∧∀y∈l.take i,y≠x) (fun i=>l.length - i) 0 xE ⟨zZ _,by simp⟩ ?_
 rintro i ⟨hi,hn⟩
 by_cases hin:i < l.length
 ·obtain⟨y,hy⟩:=get_of hin
  by_cases h:x=y
  ·subst h
   have hx:x∈l:=zM hy
   have hio:l.idxOf x=i:=by
    have hs:l=l.take i ++ x :: l.drop (i+1):=by
     obtain⟨h1,h2⟩:=zS.1 hy
     conv=>lhs;rw [←List.take_append_drop i l]
     rw [List.drop_eq_getElem_cons h1,h2]
    conv=>lhs;rw [hs]
    rw [List.idxOf_append,if_neg (fun h9=>hn x h9 rfl),List.idxOf_cons_self,zN]
    omega
   rw [if_pos hx,hio]
   repeat'(first|apply Sp.h|refine Lk.r rfl ?_|refine Rf.mk rfl ?_|refine xA ?_|refine xI ?_|refine xN ?_|fail)
   exact Fin.p rfl rfl
  ·repeat'(first|apply Sp.h|refine Lk.r rfl ?_|refine Rf.mk rfl ?_|refine xA ?_|refine xB ?_|refine xI ?_|refine xO ?_|fail)
   exact PA.lp (i+1) xE ⟨⟨hin,all_succ hy hn fun h9=>h h9.symm⟩,by omega⟩
 ·have:i=l.length:=by omega
  subst this
  rw [zL] at hn
  rw [if_neg (fun h9=>hn x h9 rfl)]
  repeat'(first|apply Sp.h|refine Lk.r rfl ?_|refine Rf.mk rfl ?_|refine xB ?_|refine xN ?_|fail)
  exact Fin.p rfl rfl
def trimW(W:WorS) : WorS:=if 60 < W.box.length then { W with box:=W.box.drop (W.box.length - 60) } else W
def tkkW(W:WorS)(k:Nat) : Nat→WorS
 | 0=>W
 | m+1=>tickW (tkkW W k m) k
def opE(k:Nat)(q:Nat) : EntS:=⟨0,1,k,1+q,0,[]⟩
def proW(W:WorS)(k:Nat)(e:EntS) : WorS:=if(propN (W.nod k) e).2.2.2=0 then putW W k ((propN (W.nod k) e).1,(propN (W.nod k) e).2.2.1) else { W with nodes:=W.nodes.set k (propN (W.nod k) e).1 }
def chvW(W:WorS)(k:Nat)(vs:List Int) : WorS:=if(chgN (W.nod k) vs).2.2.2=0 then putW W k ((chgN (W.nod k) vs).1,(chgN (W.nod k) vs).2.2.1) else { W with nodes:=W.nodes.set k (chgN (W.nod k) vs).1 }
def newV(v:List Int)(j:Int) : List Int:=if j∈v then v.eraseIdx (v.idxOf j) else srtJ (v ++ [j])
def trm1(r:WorS×Bool) : WorS×Bool:=if r.2 then(trimW r.1,true) else r
def stepW(W:WorS)(s:Nat) : WorS×Bool :=
 if s % 16 < 8 then trm1 (if 0 < W.box.length then delvW W ((s / 16) % W.box.length) (decide (s % 8=7)) else(W,true))
 else if s % 16=8 then(trimW (if 0 < W.box.length then { W with box:=W.box.drop 1 } else W),true)
 else if s % 16=9 then crshW W ((s / 16) % W.nodes.length)
 else if s % 16 < 13 then(trimW (tkkW W ((s / 16) % W.nodes.length) (1+(s / 16) % 14)),true)
 else if s % 16 < 15 then(trimW (proW W ((s / 16) % W.nodes.length) (opE ((s / 16) % W.nodes.length) (s / 256))),true)
 else(trimW (chvW W ((s / 16) % W.nodes.length) (newV (votN (W.nod ((s / 16) % W.nodes.length))) (((s / 256) % W.nodes.length:Nat):Int))),true)
theorem WorK.trim{n B:Nat}{W:WorS}(h:WorK n B W) : WorK n B (trimW W):=by
 unfold trimW
 split
 ·exact h.boxes (fun m hm=>List.mem_of_mem_drop hm) (by rw [List.length_drop];omega)
 ·exact h
theorem WorK.tkk{n B k:Nat}{W:WorS}(h:WorK n B W)(hk:k < n) :∀m,WorK n (B+m) (tkkW W k m)
 | 0=>h
 | m+1=>(h.tkk hk m).tick hk
theorem WorK.nset{n B i:Nat}{W:WorS}{r:NodS×OutS}(h:WorK n B W)(hi:i < n)(hr:CalK n B i r) : WorK n B { W with nodes:=W.nodes.set i r.1 }:=by
 obtain⟨hs,_⟩:=h.get hi
 refine⟨h.nn, ?_,h.lr,fun j s hj=>?_,h.bx,h.bl,h.rc⟩
 ·show(W.nodes.set i r.1).length=n
  rw [zY];exact h.ln
 ·have hj:(W.nodes.set i r.1)[j]?=some s:=hj
  rw [List.getElem?_set] at hj
  by_cases hij:i=j
  ·subst hij
   rw [if_pos rfl] at hj
   split at hj
   ·cases hj;exact⟨hr.k,hr.cn,hr.ci,hr.v⟩
   ·cases hj
  ·rw [if_neg hij] at hj
   exact h.nd j s hj
theorem WorK.pro{n B k:Nat}{W:WorS}(h:WorK n B W)(hk:k < n)(e:EntS) : WorK n (B+1) (proW W k e):=by
 obtain⟨_,_,h1,h2,h3,h4⟩:=h.get hk
 have hc:=prop_ok h1 h2 h3 h4 e
 unfold proW
 split
 ·exact h.put hk (hc.mono (Nat.le_succ _))
 ·exact(h.nset hk hc).mono (Nat.le_succ _)
theorem WorK.chv{n B k:Nat}{W:WorS}(h:WorK n B W)(hk:k < n)(vs:List Int) : WorK n (B+1) (chvW W k vs):=by
 obtain⟨_,_,h1,h2,h3,h4⟩:=h.get hk
 have hc:=chg_ok h1 h2 h3 h4 vs
 unfold chvW
 split
 ·exact h.put hk (hc.mono (Nat.le_succ _))
 ·exact(h.nset hk hc).mono (Nat.le_succ _)
theorem WorK.step{n B s:Nat}{W:WorS}(h:WorK n B W) : WorK n (B+15) (stepW W s).1:=by
 have hnn:=h.nn
 have hkn:∀q,q % W.nodes.length < n:=fun q=>by rw [h.ln];exact Nat.mod_lt _ (by omega)
 unfold stepW
 split
 ·have h1:∀r:WorS×Bool,WorK n (B+15) r.1→WorK n (B+15) (trm1 r).1:=fun r hr=>by
   unfold trm1
   split
   ·exact hr.trim
   ·exact hr
  refine h1 _ ?_
  split
  ·rename_i hb
   exact(h.delv (Nat.mod_lt _ hb) _).1.mono (by omega)
  ·exact h.mono (by omega)
 split
 ·split
  ·exact(h.boxes (fun m hm=>List.mem_of_mem_drop hm) (by rw [List.length_drop];omega)).trim.mono (by omega)
  ·exact h.trim.mono (by omega)
 split
 ·exact h.crsh.mono (by omega)
 split
 ·exact(h.tkk (hkn _) _).trim.mono (by have:=Nat.mod_lt (s / 16) (show 0 < 14 by decide);omega)
 split
 ·exact(h.pro (hkn _) _).trim.mono (by omega)
 ·exact(h.chv (hkn _) _).trim.mono (by omega)
end Go.Proofs.Ythlpimbhonihhaa
namespace Go.CF
open Go
theorem arr_tail{α:Type}{hh:Heap}{G O:Nat→Prop}{T sz j m cap:Nat}{p:Option Addr}{u:Value}{l:List α}{f:α→List AV}{len:Nat}(ha:(arrR (.slice p len cap) T sz l f).R hh O G)(hm:j+m=l.length)(g3:u= .slice (subA p sz j cap) m (cap - j)) : len=l.length∧(arrR u T sz (l.drop j) f).R hh O G:=by
 obtain⟨ho,rows,hw,hr⟩:=ha
 have hlen:len=l.length:=by
  rcases hw.ok with⟨e1,e2⟩|⟨b,of,cap',L,e1,_,_,e2,_⟩
  ·cases e1;omega
  ·cases e1;rfl
 refine⟨hlen, ?_⟩
 subst hlen
 have hsz:=hr.sz
 have e1:(rows.drop j).flatten=rows.flatten.drop (j * sz):=by
  have e2:rows.flatten=(rows.take j).flatten ++ (rows.drop j).flatten:=by rw [←List.flatten_append,List.take_append_drop]
  have e3:(rows.take j).flatten.length=j * sz:=by rw [flat_len _ (fun r hr=>hsz r (zW hr)),zN,hr.len];congr 1 <;> omega
  rw [e2,←e3,List.drop_left]
 have hdl:(l.drop j).length=m:=by rw [List.length_drop];omega
 have hown:(arrR u T sz (l.drop j) f).R hh O G:=by
  have hfl:(rows.drop j).flatten.length=m * sz:=by rw [flat_len _ (fun r hr=>hsz r (List.mem_of_mem_drop hr)),List.length_drop,hr.len];congr 1 <;> omega
  rcases hw.ok with⟨e2,e3⟩|⟨b,of,cap',L,e2,hbk,k1,k2,k3⟩
  ·simp only [Value.slice.injEq] at e2
   obtain⟨rfl,_,rfl⟩:=e2
   have hj:j=0∧m=0:=by omega
   obtain⟨rfl,rfl⟩:=hj
   have hu:u= .slice none 0 0:=by rw [g3];simp [subA]
   subst hu
   exact⟨ho,rows.drop 0,⟨by rw [hdl];exact hfl, .inl ⟨rfl,hdl⟩⟩,hr.drop 0⟩
  ·cases e2
   have hlk:(l.drop j).length≤cap - j:=by rw [hdl];omega
   have hu:∃o',u= .slice (some ⟨b,o',none⟩) m (cap - j)∧(o'=of+j * sz∨(j=cap∧o'=of)):=by
    rw [g3]
    unfold subA
    by_cases hj:cap=j
    ·rw [if_pos hj];exact⟨of,rfl, .inr ⟨hj.symm,rfl⟩⟩
    ·rw [if_neg hj];exact⟨of+j * sz,by simp [Addr.add], .inl rfl⟩
   obtain⟨o',rfl,ho'⟩:=hu
   have hmul:(j+(cap - j)) * sz=cap * sz:=by congr 1;omega
   rw [Nat.add_mul] at hmul
   refine⟨fun y=>(ho y).trans (by simp [blkOf]),rows.drop j,⟨by rw [hdl];exact hfl, .inr ⟨b,o',cap - j,L,by rw [hdl],hbk, ?_,hlk, ?_⟩⟩,hr.drop j⟩
   ·rcases ho' with rfl|⟨h9,rfl⟩
    ·omega
    ·subst h9;simp;omega
   ·rw [hdl,e1,←k3]
    rcases ho' with rfl|⟨h9,rfl⟩
    ·rw [List.drop_take,List.drop_drop]
     congr 1
     rw [←hm,Nat.add_mul];omega
    ·have h8:m=0:=by omega
     subst h8
     rw [Nat.zero_mul,List.take_zero,eq_comm,List.drop_eq_nil_iff,zN]
     have:l.length=j:=by omega
     rw [this];omega
 exact hown
instance {v:Value} {s j m:Nat} : OneA (.os v s j m):=⟨by rintro h G u ⟨p,len,cap,_,_,rfl⟩;rfl⟩
section
variable {Γ:Cx} {k:List KI} {e:EA} {o:List Res}
theorem CA.tailCell{α:Type}{y:Code}{b i:Nat}{TB:TypeId}{cs:List AV}{v:Value}{T sz j m:Nat}{l:List α}{f:α→List AV}{rest rest2:List Res}(tk:Take o (blkR b TB cs) rest)(hi:cs[i]?=some (.os v sz j m))(tk2:Take rest (arrR v T sz l f) rest2)(hm:j+m=l.length)
  (h:∀w,CA Γ k y e (blkR b TB (cs.set i (.ow w)) :: arrR w T sz (l.drop j) f :: rest2)):CA Γ k y e o:=by
 refine⟨fun env hh G Os cn=>?_⟩
 obtain⟨O,Os',cn2⟩:=cn.take tk
 obtain⟨X,Os2,r1,r2,r3⟩:=tk2.own cn2.hp.own.2
 obtain⟨ho,vs,hb,hrl⟩:=cn2.hp.own.1
 obtain⟨u,hu,hx⟩:=hrl.t.get hi
 obtain⟨p,len,cap,rfl,g2,g3⟩:=hx
 obtain⟨hlen,hown⟩:=arr_tail r1 hm g3
 have hcell:(blkR b TB (cs.set i (.ow u))).R hh O G:=by
  refine⟨ho,vs,hb,⟨?_,hrl.one⟩⟩
  have:=RepT.set i hrl.t (v:=u) (a:= .ow u) ⟨rfl,_,_,_,g3⟩
  have e9:vs.set i u=vs:=by
   apply List.ext_getElem?
   intro q
   rw [List.getElem?_set]
   by_cases hq:i=q
   ·subst hq;rw [if_pos rfl,if_pos (zS.1 hu).1,hu]
   ·rw [if_neg hq]
  rwa [e9] at this
 have c2:HpOK Γ.h0 Γ.G0 Γ.O0 (blkR b TB cs :: arrR (.slice p len cap) T sz l f :: rest2) hh G (O :: X :: Os2):=cn2.hp.perm ⟨cn2.hp.own.1,r1,r2⟩ (List.Perm.cons O r3)
 have c3:HpOK Γ.h0 Γ.G0 Γ.O0 (blkR b TB (cs.set i (.ow u)) :: arrR u T sz (l.drop j) f :: rest2) hh G (O :: X :: Os2):=c2.perm ⟨hcell,hown,r2⟩ (List.Perm.refl _)
 exact(h u).h env hh G _ ⟨c3,cn.env,cn.nf⟩
theorem PA.tailCell{α:Type}{xx:Exit}{b i:Nat}{TB:TypeId}{cs:List AV}{v:Value}{T sz j m:Nat}{l:List α}{f:α→List AV}{rest rest2:List Res}(tk:Take o (blkR b TB cs) rest)(hi:cs[i]?=some (.os v sz j m))(tk2:Take rest (arrR v T sz l f) rest2)(hm:j+m=l.length)
  (h:∀w,PA Γ k xx e (blkR b TB (cs.set i (.ow w)) :: arrR w T sz (l.drop j) f :: rest2)):PA Γ k xx e o:=by
 refine⟨fun env hh G Os cn=>?_⟩
 obtain⟨O,Os',cn2⟩:=cn.take tk
 obtain⟨X,Os2,r1,r2,r3⟩:=tk2.own cn2.hp.own.2
 obtain⟨ho,vs,hb,hrl⟩:=cn2.hp.own.1
 obtain⟨u,hu,hx⟩:=hrl.t.get hi
 obtain⟨p,len,cap,rfl,g2,g3⟩:=hx
 obtain⟨hlen,hown⟩:=arr_tail r1 hm g3
 have hcell:(blkR b TB (cs.set i (.ow u))).R hh O G:=by
  refine⟨ho,vs,hb,⟨?_,hrl.one⟩⟩
  have:=RepT.set i hrl.t (v:=u) (a:= .ow u) ⟨rfl,_,_,_,g3⟩
  have e9:vs.set i u=vs:=by
   apply List.ext_getElem?
   intro q
   rw [List.getElem?_set]
   by_cases hq:i=q
   ·subst hq;rw [if_pos rfl,if_pos (zS.1 hu).1,hu]
   ·rw [if_neg hq]
  rwa [e9] at this
 have c2:HpOK Γ.h0 Γ.G0 Γ.O0 (blkR b TB cs :: arrR (.slice p len cap) T sz l f :: rest2) hh G (O :: X :: Os2):=cn2.hp.perm ⟨cn2.hp.own.1,r1,r2⟩ (List.Perm.cons O r3)
 have c3:HpOK Γ.h0 Γ.G0 Γ.O0 (blkR b TB (cs.set i (.ow u)) :: arrR u T sz (l.drop j) f :: rest2) hh G (O :: X :: Os2):=c2.perm ⟨hcell,hown,r2⟩ (List.Perm.refl _)
 exact(h u).h env hh G _ ⟨c3,cn.env,cn.nf⟩
end
theorem CallA.swap{P:Program}{f:FuncId}{asx:List AV}{own:List Res}{K K':AV→List Res→Prop}(hc:CallA P f asx own K)(hK:∀r o,K r o→∃A B rest,o=A :: B :: rest∧K' r (B :: A :: rest)) : CallA P f asx own K' :=
 ⟨fun h G Os vs h1 h2=>(hc.run h G Os vs h1 h2).mono fun _ _ ⟨r,o,G',Os',q1,q2,q3⟩=>by
  obtain⟨A,B,rest,rfl,hk'⟩:=hK r o q1
  match Os',q3 with
  | X :: Y :: Os',q3=>exact⟨r,_,G',Y :: X :: Os',hk',q2,q3.perm ⟨q3.own.2.1,q3.own.1,q3.own.2.2⟩ (List.Perm.swap _ _ _)⟩
  | [X],q3=>exact q3.own.2.elim
  | [],q3=>exact q3.own.elim⟩
end Go.CF
namespace Go.Proofs.Ythlpimbhonihhaa
open Go Go.CF
abbrev u16 (x:Int):AV:= .val (.int .u16 x)
theorem castK(s m n:Nat) : ((s:Int) / (m:Int)) % (n:Int)=(((s / m) % n:Nat):Int):=by
 rw [Int.natCast_emod,Int.natCast_ediv]
theorem votersO_w{x:WX}{n B i:Nat}(hw:WorK n B x.W)(hp:PtrOK x)(hi:i < n) :∃y,x.N[i]?=some y∧x.P[i]?=some y.p∧y.s=x.W.nod i∧CallA Try.prog 13 [pm y.p] [bunR (x.N.map nodeO)] fun r own=>∃v,r= .ow v∧own= [bunR (x.N.map nodeO),arrR v 3 1 (votN (x.W.nod i)) intC]:=by
 obtain⟨y,hy1,hy2,hy3,hy4,hy5,hy6,hy7⟩:=hw.node hp hi
 rw [←hy3]
 refine⟨y,hy1,hy2,rfl,CallA.bunAt (rest:= []) (g:=nodeO) hy1 (CallA.swap (CallA.bunIn2 (rest:= []) (rs:=nodR y.p y.pe y.pl y.ve y.vl y.s) (K':=fun r own=>∃v,r= .ow v∧own= [arrR v 3 1 (votN y.s) intC,nodeO y]) (nvoters_a y.p y.pe y.pl y.ve y.vl y.s hy4.g.n.2 hy4.g.val) ?_) (K':=fun r own=>∃v,r= .ow v∧own= [nodeO y,arrR v 3 1 (votN y.s) intC]) ?_) ?_⟩
 ·rintro _ _ ⟨v,rfl,rfl⟩
  exact⟨_,nodR y.p y.pe y.pl y.ve y.vl y.s,[],by rw [List.append_nil],v,rfl,rfl⟩
 ·rintro _ _ ⟨v,rfl,rfl⟩
  exact⟨_,_,[],rfl,v,rfl,rfl⟩
 ·rintro _ _ ⟨v,rfl,rfl⟩
  exact⟨y,[arrR v 3 1 (votN y.s) intC],rfl,v,rfl,by rw [set_at hy1]⟩
theorem step_a(pw:Nat)(x:WX)(n B s:Nat)(hw:WorK n B x.W)(hB:B≤30000)(hp:PtrOK x)(hs:s < 65536)(hok:(stepW x.W s).2=true) : CallA Try.prog 21 [pm pw,u16 (s:Nat)] (worR pw x) fun r own=>r=bl true∧∃x',own=worR pw x'∧x'.W=(stepW x.W s).1∧PtrOK x':=by
 have hPl:x.P.length=n:=by rw [hp,List.length_map];exact hw.rlen.2.1
 subst hPl
 have hnn:=hw.nn
 have hln:=hw.ln
 obtain⟨k,hk⟩:∃k,k=(s / 16) % x.P.length:=⟨_,rfl⟩
 have hkc:((s:Int) / 16) % ((x.P.length:Nat):Int)=(k:Int):=by rw [hk];exact castK s 16 _
 have hkn:k < x.P.length:=by rw [hk];exact Nat.mod_lt _ (by omega)
 obtain⟨F,hF⟩:∃F,F=stepW x.W s:=⟨_,rfl⟩
 rw [←hF] at hok ⊢
 have hwB:x.W.box=x.B:=rfl
 refine CallA.of pg ord21 Try.func21 rfl Try.ntmps21 Try.results21 rfl fun h0 G0 O0=>?_
 (repeat'(first|(show CA _ _ (Code.region 2 _ _) _ _;apply Stopped.out)|apply Sp.h|refine Lk.r rfl ?_|refine Rf.mk rfl ?_|refine xU ?_|refine xT ?_|fail));any_goals apply Stopped.mk
 refine CA.cut (fun z:Int=>⟨[(0,pm pw),(1,u16 (s:Nat)),(5,it (x.P.length:Nat)),(6,it z)],worR pw x⟩) (fun z=>z=(k:Int)) ?_ ?_
 ·repeat'(first|apply Sp.h|refine Lk.r rfl ?_|refine Rf.mk rfl ?_|refine xP ?_|(apply Cvk.i64;(focus rfl);(focus omega))|fail)
  all_goals exact PA.lp _ xE hkc
 rintro _ rfl
 (repeat'(first|(show CA _ _ (Code.block 0 _) _ _;apply Stopped.out)|apply Sp.h|refine Lk.r rfl ?_|refine Rf.mk rfl ?_|refine xP ?_|fail));any_goals apply Stopped.mk
 refine CA.cut (fun x':WX=>⟨[(0,pm pw)],worR pw x'⟩) (fun x'=>PtrOK x'∧WorK x.P.length (B+15) x'.W∧(trimW x'.W,true)=F) ?_ ?_
 rotate_left
 ·rintro x' ⟨hp',hw',hF'⟩
  rw [←hF']
  have hBl:=hw'.rlen.2.2.2
  unfold trimW
  rw [show x'.W.box=x'.B from rfl]
  by_cases h60:60 < x'.B.length
  ·rw [if_pos h60]
   obtain⟨q,hq⟩:∃q:Nat,q=x'.B.length - 60:=⟨_,rfl⟩
   have hq1:((x'.B.length:Nat):Int) - 60=(q:Int):=by omega
   rw [←hq]
   repeat'(first|(show CA _ _ (Code.region 43 _ _) _ _;apply Stopped.out)|apply Sp.h|refine Lk.r rfl ?_|refine Rf.mk rfl ?_|refine xA ?_|refine OpK.r rfl ?_|refine xU ?_|refine xT ?_|refine xV ?_|refine xD ?_|refine xO ?_|(apply Jx.r;(focus exact hq1);(focus omega)))
   any_goals apply Stopped.mk
   all_goals first
    | exact(by omega:False).elim
    | skip
   all_goals
    refine CA.tailCell (b:=pw) (i:=2) (by repeat constructor) rfl (by repeat constructor) (by omega) fun vb'=>?_
    repeat'(first|apply Sp.h|refine Lk.r rfl ?_|refine Rf.mk rfl ?_|refine xN ?_|fail)
    exact⟨_,_, .one (.same (.z)),rfl,{ x' with vb:=vb',B:=x'.B.drop q },rfl,rfl,hp'⟩
  ·rw [if_neg h60]
   repeat'(first|apply Sp.h|refine Lk.r rfl ?_|refine Rf.mk rfl ?_|refine xB ?_|refine xU ?_|refine xT ?_|refine xN ?_|fail)
   all_goals first
    | exact⟨_,_, .one (.same (.z)),rfl,x',rfl,rfl,hp'⟩
    | exact(by omega:False).elim
 have hF0:=hF
 unfold stepW at hF
 rw [hln,hwB,←hk] at hF
 have hci:((s:Int) % 16)=((s % 16:Nat):Int):=by omega
 obtain⟨c,hc⟩:∃c,c=s % 16:=⟨_,rfl⟩
 rw [←hc] at hci hF
 have hc16:c < 16:=by omega
 (repeat'(first|(show CA _ _ (Code.cond (Operand.tmp 76) _ _) _ _;apply Stopped.out)|apply Sp.h|refine Lk.r rfl ?_|refine Rf.mk rfl ?_|fail));any_goals apply Stopped.mk
 refine CA.cut (fun z:Bool=>⟨[(0,pm pw),(1,u16 (s:Nat)),(5,it (x.P.length:Nat)),(6,it (k:Nat)),(27,u16 ((s:Int) % 16)),(76,bl z)],worR pw x⟩) (fun z=>z=decide (c < 8)) ?_ ?_
 ·rcases(show c=0∨c=1∨c=2∨c=3∨c=4∨c=5∨c=6∨c=7∨8≤c by omega) with h|h|h|h|h|h|h|h|h
  all_goals
   repeat'(first|apply Sp.h|refine Lk.r rfl ?_|refine Rf.mk rfl ?_|refine xA ?_|refine xB ?_|fail)
   all_goals first
    | exact PA.lp _ xE (zD.2 (by omega))
    | exact(by omega:False).elim
 rintro z hz
 by_cases h8:c < 8
 ·rw [hz.trans (zT h8)]
  rw [if_pos h8] at hF
  clear hz
  by_cases hb:0 < x.B.length
  ·rw [if_pos hb] at hF
   obtain⟨q,hq⟩:∃q,q=(s / 16) % x.B.length:=⟨_,rfl⟩
   rw [←hq] at hF
   have hqc:((s:Int) / 16) % ((x.B.length:Nat):Int)=(q:Int):=by rw [hq];exact castK s 16 _
   have hqb:q < x.B.length:=by rw [hq];exact Nat.mod_lt _ hb
   have hde:=deliver_a pw x _ B q (decide (((s:Nat):Int) % 8=7)) hw (by omega) hp hqb
   have hdk:=hw.delv (k:=q) hqb (decide (((s:Nat):Int) % 8=7))
   rw [show decide (s % 8=7)=decide (((s:Nat):Int) % 8=7) from zD.2 (by omega)] at hF
   rw [←hqc] at hde
   generalize delvW x.W q (decide (((s:Nat):Int) % 8=7))=D at hde hdk hF
   obtain⟨D1,D2⟩:=D
   obtain⟨hd1,rfl⟩:=hdk
   simp only at hde hd1
   repeat'(first|apply Sp.h|refine Lk.r rfl ?_|refine Rf.mk rfl ?_|refine xA ?_|refine xP ?_|refine xU ?_|refine xT ?_|(apply Cvk.i64;(focus rfl);(focus omega))|(((apply Cl.use (hde);(focus repeat' constructor);(focus repeat' constructor);focus rfl));(rintro _ _ ⟨rfl,x',rfl,e1,e2⟩)))
   all_goals first
    | exact PA.lp x' xE ⟨e2,by rw [e1];exact hd1.mono (by omega),by rw [hF,e1];rfl⟩
    | exact(by omega:False).elim
  ·rw [if_neg hb] at hF
   repeat'(first|apply Sp.h|refine Lk.r rfl ?_|refine Rf.mk rfl ?_|refine xB ?_|refine xU ?_|refine xT ?_|fail)
   all_goals first
    | exact PA.lp x xE ⟨hp,hw.mono (by omega),by rw [hF];rfl⟩
    | exact(by omega:False).elim
 rw [hz.trans (zF h8)]
 rw [if_neg h8] at hF
 clear hz
 by_cases c8:c=8
 ·rw [if_pos c8] at hF
  by_cases hb:0 < x.B.length
  ·rw [if_pos hb] at hF
   repeat'(first|apply Sp.h|refine Lk.r rfl ?_|refine Rf.mk rfl ?_|refine xA ?_|refine xU ?_|refine xT ?_|refine xV ?_|(apply Jx.r;(focus exact rfl);(focus first|omega|(simp;done)|(simp;omega)))|fail)
   all_goals first
    | exact(by omega:False).elim
    | skip
   all_goals
    refine PA.tailCell (b:=pw) (i:=2) (by repeat constructor) rfl (by repeat constructor) ((fun q (h:0 < q)=>by omega:∀q:Nat,0 < q→1+(q - 1)=q) _ hb) fun vb'=>?_
    exact PA.lp { x with vb:=vb',B:=x.B.drop 1 } xE ⟨hp,(hw.boxes (b:=x.B.drop 1) (fun m hm=>List.mem_of_mem_drop hm) (by rw [List.length_drop];exact Nat.sub_le _ _)).mono (by omega),by rw [hF];rfl⟩
  ·rw [if_neg hb] at hF
   repeat'(first|apply Sp.h|refine Lk.r rfl ?_|refine Rf.mk rfl ?_|refine xA ?_|refine xB ?_|refine xU ?_|refine xT ?_|fail)
   all_goals first
    | exact PA.lp x xE ⟨hp,hw.mono (by omega),by rw [hF]⟩
    | exact(by omega:False).elim
 rw [if_neg c8] at hF
 by_cases c9:c=9
 ·rw [if_pos c9] at hF
  have hcr:=crash_w pw x _ B k hw (by omega) hp hkn (by rw [←hF];exact hok)
  rw [←hF] at hcr
  repeat'(first|apply Sp.h|refine Lk.r rfl ?_|refine Rf.mk rfl ?_|refine xA ?_|refine xB ?_|refine xN ?_|(((apply Cl.use (hcr);(focus repeat' constructor);(focus repeat' constructor);focus rfl));(rintro _ _ ⟨rfl,x',rfl,e1,e2⟩)))
  all_goals first
   | exact⟨_,_, .one (.same (.z)),rfl,x',rfl,e1,e2⟩
   | exact(by omega:False).elim
 rw [if_neg c9] at hF
 (repeat'(first|(show CA _ _ (Code.cond (Operand.tmp 129) _ _) _ _;apply Stopped.out)|apply Sp.h|refine Lk.r rfl ?_|refine Rf.mk rfl ?_|refine xB ?_|fail));any_goals apply Stopped.mk
 refine CA.cut (fun z:Bool=>⟨[(0,pm pw),(1,u16 (s:Nat)),(5,it (x.P.length:Nat)),(6,it (k:Nat)),(27,u16 ((s:Int) % 16)),(129,bl z)],worR pw x⟩) (fun z=>z=decide (c < 13)) ?_ ?_
 ·rcases(show c=10∨c=11∨c=12∨13≤c by omega) with h|h|h|h
  all_goals
   repeat'(first|apply Sp.h|refine Lk.r rfl ?_|refine Rf.mk rfl ?_|refine xA ?_|refine xB ?_|fail)
   all_goals first
    | exact PA.lp _ xE (zD.2 (by omega))
    | exact(by omega:False).elim
 rintro z hz
 by_cases h13:c < 13
 ·rw [hz.trans (zT h13)]
  rw [if_pos h13] at hF
  clear hz
  obtain⟨m,hm⟩:∃m,m=1+(s / 16) % 14:=⟨_,rfl⟩
  rw [←hm] at hF
  have hm14:m≤14:=by omega
  have hmc:1+((s:Int) / 16) % 14=(m:Int):=by omega
  (repeat'(first|(show CA _ _ (Code.block 1 _) _ _;apply Stopped.out)|apply Sp.h|refine Lk.r rfl ?_|refine Rf.mk rfl ?_|refine xP ?_|refine xO ?_|(apply Cvk.i64;(focus rfl);(focus omega))|fail));any_goals apply Stopped.mk
  apply Sp.h
  refine CA.loop (fun q:Nat×WX=>⟨[(0,pm pw),(6,it (k:Nat)),(137,it (1+((s:Int) / 16) % 14)),(138,it (q.1:Nat))],worR pw q.2⟩) (fun q=>q.1≤m∧q.2.W=tkkW x.W k q.1∧PtrOK q.2) (fun q=>m - q.1) (0,x) xE ⟨zZ _,rfl,hp⟩ ?_
  rintro⟨i,y⟩ ⟨hi,hy,hyp⟩
  simp only at hi hy hyp
  simp only
  have hwy:WorK x.P.length (B+i) y.W:=by rw [hy];exact hw.tkk hkn i
  by_cases hin:i < m
  ·obtain⟨nd,hy1,hy2,hy3,hcc,htk⟩:=tick_w (i:=k) hwy hyp hkn
   have hkp:=fun y'=>keep_k pw y _ (B+i) k y' (tickN (y.W.nod k)).1 (tickN (y.W.nod k)).2 hwy (by omega) hkn hcc
   have hnx:tkkW x.W k (i+1)=putW y.W k (tickN (y.W.nod k)):=by rw [hy];rfl
   rw [show tickN (y.W.nod k)=((tickN (y.W.nod k)).1,(tickN (y.W.nod k)).2) from rfl] at hnx
   generalize tickN (y.W.nod k)=Q at hcc htk hkp hnx
   repeat'(first|apply Sp.h|refine Lk.r rfl ?_|refine Rf.mk rfl ?_|refine xA ?_|refine xU ?_|refine xT ?_|refine xI ?_|refine xJ ?_|(((apply Cl.use (htk);(focus repeat' constructor);(focus repeat' constructor);focus rfl));(rintro _ _ ⟨y',e1,e2,rfl,rfl⟩)))
   all_goals first
    | exact(by omega:False).elim
    | skip
   have hk2:=hkp y'
   refine xW (hk2) ?_
   rintro _ _ ⟨rfl,x',rfl,e3,e4,e5⟩
   obtain⟨w1,w2⟩:=put_fin hy1 hyp e2 e3 e4 e5
   rw [e1] at w1
   repeat'(first|apply Sp.h|refine Lk.r rfl ?_|refine Rf.mk rfl ?_|refine xO ?_|fail)
   all_goals exact PA.lp (i+1,x') xE ⟨⟨hin,by simp only;rw [w1,hnx],w2⟩,by simp only;omega⟩
  ·have him:i=m:=by omega
   subst him
   repeat'(first|apply Sp.h|refine Lk.r rfl ?_|refine Rf.mk rfl ?_|refine xB ?_|fail)
   all_goals first
    | exact PA.lp y xE ⟨hyp,hwy.mono (by omega),by rw [hF,hy]⟩
    | exact(by omega:False).elim
 rw [hz.trans (zF h13)]
 rw [if_neg h13] at hF
 clear hz
 (repeat'(first|(show CA _ _ (Code.cond (Operand.tmp 152) _ _) _ _;apply Stopped.out)|apply Sp.h|refine Lk.r rfl ?_|refine Rf.mk rfl ?_|fail));any_goals apply Stopped.mk
 refine CA.cut (fun z:Bool=>⟨[(0,pm pw),(1,u16 (s:Nat)),(5,it (x.P.length:Nat)),(6,it (k:Nat)),(152,bl z)],worR pw x⟩) (fun z=>z=decide (c < 15)) ?_ ?_
 ·rcases(show c=13∨c=14∨15≤c by omega) with h|h|h
  all_goals
   repeat'(first|apply Sp.h|refine Lk.r rfl ?_|refine Rf.mk rfl ?_|refine xA ?_|refine xB ?_|fail)
   all_goals first
    | exact PA.lp _ xE (zD.2 (by omega))
    | exact(by omega:False).elim
 rintro z hz
 by_cases h15:c < 15
 ·rw [hz.trans (zT h15)]
  rw [if_pos h15] at hF
  clear hz
  have hw1:=hw.pro hkn (opE k (s / 256))
  obtain⟨nd,hy1,hy2,hy3,hcc,hpr⟩:=prop_w hw hp hkn (opE k (s / 256)) (by simp [opE])
  have hpr2:CallA Try.prog 46 [pm nd.p, .agg [it 0,it 1,it (k:Nat),it (1+((s:Int) / 256)),it 0, .val (.slice none 0 0)]] [bunR (x.N.map nodeO)] _:=CallA.args (.cons (ALe.refl _) (.cons (.agg (by rw [show((s:Int) / 256)=((s / 256:Nat):Int) from(Int.natCast_ediv _ _).symm];(repeat'(first|exact RLe.nil|(apply RLe.cons;(focus first|exact ALe.refl _|exact ALe.nilow|exact ALe.nil)))))) .nil)) hpr
  have hkp:=fun y'=>keep_k pw x _ B k y' (propN (x.W.nod k) (opE k (s / 256))).1 (propN (x.W.nod k) (opE k (s / 256))).2.2.1 hw (by omega) hkn hcc
  unfold proW at hF hw1
  generalize propN (x.W.nod k) (opE k (s / 256))=Q at hcc hpr2 hkp hF hw1
  obtain⟨Q1,Q2,Q3,Q4⟩:=Q
  simp only at hcc hpr2 hkp hF hw1
  by_cases hq:Q4=0
  ·rw [if_pos hq] at hF hw1
   repeat'(first|apply Sp.h|refine Lk.r rfl ?_|refine Rf.mk rfl ?_|refine xA ?_|refine All.mk fun _=>?_|refine xU ?_|refine xT ?_|refine xI ?_|refine xJ ?_|refine Ch.l ⟨rfl,rfl⟩ ?_|(apply SetAsk.r;focus repeat' constructor)|(apply Fk.r;focus repeat' first|infer_instance|constructor)|refine xN ?_|refine xO ?_|(apply Cvk.i64;(focus rfl);(focus omega))|(((apply Cl.use (hpr2);(focus repeat' constructor);(focus repeat' constructor);focus rfl));(rintro _ _ ⟨y',e1,e2,rfl,rfl⟩)))
   all_goals first
    | exact(by omega:False).elim
    | skip
   have hk2:=hkp y'
   refine xW (hk2) ?_
   rintro _ _ ⟨rfl,x',rfl,e3,e4,e5⟩
   obtain⟨w1,w2⟩:=put_fin hy1 hp e2 e3 e4 e5
   rw [e1] at w1
   repeat'(first|apply Sp.h|fail)
   all_goals exact PA.lp x' xE ⟨w2,by rw [w1];exact hw1.mono (by omega),by rw [hF,w1]⟩
  ·rw [if_neg hq] at hF hw1
   repeat'(first|apply Sp.h|refine Lk.r rfl ?_|refine Rf.mk rfl ?_|refine xB ?_|refine All.mk fun _=>?_|refine xU ?_|refine xT ?_|refine xI ?_|refine xJ ?_|(apply SetAsk.r;focus repeat' constructor)|(apply Fk.r;focus repeat' first|infer_instance|constructor)|refine xN ?_|refine xO ?_|(apply Cvk.i64;(focus rfl);(focus omega))|(((apply Cl.use (hpr2);(focus repeat' constructor);(focus repeat' constructor);focus rfl));(rintro _ _ ⟨y',e1,e2,rfl,rfl⟩)))
   all_goals first
    | exact(by omega:False).elim
    | exact PA.lp { x with N:=x.N.set k y' } xE ⟨ptr_set hp hy1 e2,by
      have e9:WX.W { x with N:=x.N.set k y' } = { x.W with nodes:=x.W.nodes.set k Q1 }:=by rw [←e1];unfold WX.W;simp only;rw [set_W]
      rw [e9];exact hw1.mono (by omega),by
      have e9:WX.W { x with N:=x.N.set k y' } = { x.W with nodes:=x.W.nodes.set k Q1 }:=by rw [←e1];unfold WX.W;simp only;rw [set_W]
      rw [e9,hF]⟩
 rw [hz.trans (zF h15)]
 rw [if_neg h15] at hF
 clear hz
 obtain⟨nd,hy1,hy2,hy3,hvo⟩:=votersO_w hw hp hkn
 have hvl:(votN (x.W.nod k)).length≤5:=by
  obtain⟨_,_,h1,_⟩:=hw.get hkn
  exact votF_len h1.g.val h1.g.n.2
 obtain⟨j,hj⟩:∃j,j=(s / 256) % x.P.length:=⟨_,rfl⟩
 rw [←hj] at hF
 have hjc:((s:Int) / 256) % ((x.P.length:Nat):Int)=(j:Int):=by rw [hj];exact castK s 256 _
 obtain⟨V,hV⟩:∃V,V=newV (votN (x.W.nod k)) (j:Int):=⟨_,rfl⟩
 rw [←hV] at hF
 have hVl:V.length≤6:=by
  rw [hV]
  unfold newV
  split
  ·rw [List.length_eraseIdx];split <;> omega
  ·unfold srtJ;rw [List.length_mergeSort,zP,List.length_singleton];omega
 obtain⟨nd2,hz1,hz2,hz3,hcc,hch⟩:=chg_w hw hp hkn V (by omega)
 have hnd:nd2=nd:=by rw [hy1] at hz1;cases hz1;rfl
 subst hnd
 clear hz1 hz2 hz3
 have hw1:=hw.chv hkn V
 have hkp:=fun y'=>keep_k pw x _ B k y' (chgN (x.W.nod k) V).1 (chgN (x.W.nod k) V).2.2.1 hw (by omega) hkn hcc
 unfold chvW at hF hw1
 generalize chgN (x.W.nod k) V=Q at hcc hch hkp hF hw1
 obtain⟨Q1,Q2,Q3,Q4⟩:=Q
 simp only at hcc hch hkp hF hw1
 generalize votN (x.W.nod k)=v at hvo hvl hV
 have hix:=index_x v (j:Int)
 repeat'(first|(show CA _ _ (Code.region 5 _ _) _ _;apply Stopped.out)|apply Sp.h|refine Lk.r rfl ?_|refine Rf.mk rfl ?_|refine xU ?_|refine xT ?_|refine xI ?_|refine xJ ?_|(((apply Cl.use (hvo);(focus repeat' constructor);(focus repeat' constructor);focus rfl));(rintro _ _ ⟨v0,rfl,rfl⟩)))
 any_goals apply Stopped.mk
 refine CA.cut (fun z:Int=>⟨[(0,pm pw),(6,it (k:Nat)),(10, .ow v0),(11,it z)],arrR v0 3 1 v intC :: worR pw x⟩) (fun z=>z=(j:Int)) ?_ ?_
 ·repeat'(first|apply Sp.h|refine Lk.r rfl ?_|refine Rf.mk rfl ?_|refine xP ?_|(apply Cvk.i64;(focus rfl);(focus omega))|fail)
  all_goals exact PA.lp _ xE hjc
 rintro _ rfl
 repeat'(first|(show CA _ _ (Code.cond (Operand.tmp 45) _ _) _ _;apply Stopped.out)|apply Sp.h|refine Lk.r rfl ?_|refine Rf.mk rfl ?_|(apply Cl.lend (hix);(focus((repeat'(first|exact Lend.nil|apply Lend.keep|(apply Lend.lend;(focus repeat constructor);(focus first|omega|(simp;omega)))|fail));done))))
 any_goals apply Stopped.mk
 refine CA.cut (fun u:Value=>⟨[(0,pm pw),(6,it (k:Nat)),(10, .ow u)],arrR u 3 1 V intC :: worR pw x⟩) (fun _=>True) ?_ ?_
 ·unfold idxJ
  rw [hV]
  unfold newV
  by_cases hm:(j:Int)∈v
  ·rw [if_pos hm,if_pos hm]
   have hql:=List.idxOf_lt_length_iff.2 hm
   generalize v.idxOf (j:Int)=q at hql ⊢
   have hdl:=delI_a v0 v q hql (by omega)
   rw [show((q+1:Nat):Int)=(q:Int)+1 by omega] at hdl
   repeat'(first|apply Sp.h|refine Lk.r rfl ?_|refine Rf.mk rfl ?_|refine xA ?_|refine xO ?_|(((apply Cl.use (hdl);(focus repeat' constructor);(focus repeat' constructor);focus rfl));(rintro _ _ ⟨u,rfl,rfl⟩)))
   all_goals first
    | exact PA.lp u xE trivial
    | exact(by omega:False).elim
  ·rw [if_neg hm,if_neg hm]
   have hso:=fun u=>sortJ_a u (v ++ [(j:Int)]) (by rw [zP,List.length_singleton];omega)
   repeat'(first|apply Sp.h|refine Lk.r rfl ?_|refine Rf.mk rfl ?_|refine xB ?_|refine xP ?_|refine All.mk fun _=>?_|refine xU ?_|refine Ce.r ?_|(apply Fk.r;focus repeat' first|infer_instance|constructor)|refine Rf.mk ⟨rfl,rfl⟩ ?_|refine Rf.mk ⟨rfl,rfl,rfl⟩ ?_|(apply Mp.lit;(focus repeat(first|exact MpL.nil|(apply MpL.cons;(focus rfl))|(apply MpL.inv;(focus repeat constructor);(focus infer_instance)))))|(((apply Cl.use (hso _);(focus repeat' constructor);(focus repeat' constructor);focus rfl));(rintro _ _ ⟨rfl,rfl⟩)))
   all_goals first
    | exact(by omega:False).elim
    | exact PA.lp _ xE trivial
 rintro u -
 by_cases hq:Q4=0
 ·rw [if_pos hq] at hF hw1
  repeat'(first|apply Sp.h|refine Lk.r rfl ?_|refine Rf.mk rfl ?_|refine xA ?_|refine All.mk fun _=>?_|refine xU ?_|refine xT ?_|refine xI ?_|refine xJ ?_|refine Ch.l ⟨rfl,rfl⟩ ?_|(apply SetAsk.r;focus repeat' constructor)|refine xN ?_|(((apply Cl.fz;(focus repeat'(first|exact FZ.nil|(apply FZ.fz;(focus repeat constructor);(focus first|omega|decide|exact zB rfl|(simp <;> omega)))|apply FZ.agg|apply FZ.same))));((apply Cl.use (hch);(focus repeat' constructor);(focus repeat' constructor);focus rfl));(rintro _ _ ⟨y',e1,e2,rfl,rfl⟩)))
  all_goals first
   | exact(by omega:False).elim
   | skip
  have hk2:=hkp y'
  refine xW (hk2) ?_
  rintro _ _ ⟨rfl,x',rfl,e3,e4,e5⟩
  obtain⟨w1,w2⟩:=put_fin hy1 hp e2 e3 e4 e5
  rw [e1] at w1
  repeat'(first|apply Sp.h|fail)
  all_goals exact PA.lp x' xE ⟨w2,by rw [w1];exact hw1.mono (by omega),by rw [hF,w1]⟩
 ·rw [if_neg hq] at hF hw1
  repeat'(first|apply Sp.h|refine Lk.r rfl ?_|refine Rf.mk rfl ?_|refine xB ?_|refine All.mk fun _=>?_|refine xU ?_|refine xT ?_|refine xI ?_|refine xJ ?_|(apply SetAsk.r;focus repeat' constructor)|refine xN ?_|(((apply Cl.fz;(focus repeat'(first|exact FZ.nil|(apply FZ.fz;(focus repeat constructor);(focus first|omega|decide|exact zB rfl|(simp <;> omega)))|apply FZ.agg|apply FZ.same))));((apply Cl.use (hch);(focus repeat' constructor);(focus repeat' constructor);focus rfl));(rintro _ _ ⟨y',e1,e2,rfl,rfl⟩)))
  all_goals first
   | exact(by omega:False).elim
   | exact PA.lp { x with N:=x.N.set k y' } xE ⟨ptr_set hp hy1 e2,by
     have e9:WX.W { x with N:=x.N.set k y' } = { x.W with nodes:=x.W.nodes.set k Q1 }:=by rw [←e1];unfold WX.W;simp only;rw [set_W]
     rw [e9];exact hw1.mono (by omega),by
     have e9:WX.W { x with N:=x.N.set k y' } = { x.W with nodes:=x.W.nodes.set k Q1 }:=by rw [←e1];unfold WX.W;simp only;rw [set_W]
     rw [e9,hF]⟩
def Gro(a b:List EntS) : Prop:=a=b∨∃(k:Nat) (c:List EntS),b=a.take k ++ c∧k≤a.length∧c≠ []∧a[k]?≠c[0]?
theorem Gro.snoc{a b:List EntS}(h:Gro a b)(e:EntS) : Gro a (b ++ [e]):=by
 rcases h with rfl|⟨k,c,rfl,h1,h2,h3⟩
 ·exact .inr ⟨a.length,[e],by rw [zL],Nat.le_refl _,by simp,by simp⟩
 ·refine .inr ⟨k,c ++ [e],by rw [List.append_assoc],h1,by simp, ?_⟩
  cases c with
  | nil=>exact absurd rfl h2
  | cons x c=>exact h3
theorem Gro.eq{a b:List EntS}(h:Gro a b)(hd:b.length≤firstD a b) : a=b:=by
 rcases h with h|⟨k,c,rfl,h1,h2,h3⟩
 ·exact h
 ·have hc:0 < c.length:=List.length_pos_iff.2 h2
  have hf:=(first_spec a (a.take k ++ c)).2.1 k (by rw [zP,zN] at hd;omega)
  rw [zJ (by rw [zN];omega),zN,Nat.min_eq_left h1,Nat.sub_self] at hf
  exact absurd hf h3
/-! ### What records leave -/
theorem rco_cons(n i:Int)(r:RecS)(l:List RecS)(t v:Int)(es:List EntS) : rcoF n i (r :: l) (t,v,es)=if r.kind=2 then(if ResE n i r.term r.vote then rcoF n i l (r.term,r.vote,es) else(1,t,v,es)) else if r.kind=3 then(if r.index < 1∨(es.length:Int)+1 < r.index then(1,t,v,es) else rcoF n i l (t,v,es.take (r.index - 1).toNat ++ [r.ent])) else rcoF n i l (t,v,es):=rfl
theorem rco_append(n i:Int)(l':List RecS) :∀(l:List RecS) (x:Int×Int×List EntS),(rcoF n i l x).1=0→rcoF n i (l ++ l') x=rcoF n i l' (rcoF n i l x).2
 | [],x,_=>rfl
 | r :: l,(t,v,es),h=>by
  rw [List.cons_append,rco_cons n i r (l ++ l'),rco_cons n i r l]
  rw [rco_cons] at h
  by_cases k1:r.kind=2
  ·rw [if_pos k1] at h
   rw [if_pos k1,if_pos k1]
   by_cases k2:ResE n i r.term r.vote
   ·rw [if_pos k2] at h
    rw [if_pos k2,if_pos k2];exact rco_append n i l' l _ h
   ·rw [if_neg k2] at h;cases h
  ·rw [if_neg k1] at h
   rw [if_neg k1,if_neg k1]
   by_cases k2:r.kind=3
   ·rw [if_pos k2] at h
    rw [if_pos k2,if_pos k2]
    by_cases k3:r.index < 1∨(es.length:Int)+1 < r.index
    ·rw [if_pos k3] at h;cases h
    ·rw [if_neg k3] at h
     rw [if_neg k3,if_neg k3];exact rco_append n i l' l _ h
   ·rw [if_neg k2] at h
    rw [if_neg k2,if_neg k2];exact rco_append n i l' l _ h
theorem recL_cons{b:List EntS}{d:Nat}{e:EntS}(he:b[d]?=some e) : recL b d=recE (d+1) e :: recL b (d+1):=by
 obtain⟨h1,h2⟩:=zS.1 he
 unfold recL
 rw [List.drop_eq_getElem_cons (by rw [List.length_zipIdx];exact h1),List.map_cons,List.getElem_zipIdx,h2]
 simp only [Nat.zero_add]
theorem rco_recL(n i t v:Int)(b:List EntS) :∀(f d:Nat) (es:List EntS),b.length=d+f→d≤es.length→es.take d=b.take d→rcoF n i (recL b d) (t,v,es)=(0,t,v,if f=0 then es else b)
 | 0,d,es,h1,h2,h3=>by
  have:recL b d= []:=by unfold recL;rw [List.drop_eq_nil_of_le (by rw [List.length_zipIdx];omega)];rfl
  rw [this];rfl
 | f+1,d,es,h1,h2,h3=>by
  obtain⟨e,he⟩:=get_of (l:=b) (i:=d) (by omega)
  rw [recL_cons he]
  have ht:es.take d ++ [e]=b.take (d+1):=by rw [h3,zK,he];rfl
  have hs:rcoF n i (recE (d+1) e :: recL b (d+1)) (t,v,es)=rcoF n i (recL b (d+1)) (t,v,b.take (d+1)):=by
   rw [←ht]
   rw [rco_cons,if_neg (show¬(recE (d+1) e).kind=2 from(by decide:¬(3:Int)=2)),if_pos (show(recE (d+1) e).kind=3 from rfl)]
   have e1:(recE (d+1) e).index=((d+1:Nat):Int):=rfl
   rw [e1,if_neg (by omega),show(((d+1:Nat):Int) - 1).toNat=d by omega];rfl
  rw [hs,rco_recL n i t v b f (d+1) (b.take (d+1)) (by omega) (by rw [zN];omega) (by rw [List.take_take,Nat.min_self]),show(if f+1=0 then es else b)=b from if_neg (by omega)]
  split
  ·rw [List.take_of_length_le (by omega)]
  ·rfl
/-! ### A node that leads -/
structure LdS (s:NodS):Prop where
 l:s.g.leads≠0→s.e.role=2∧s.g.leads=s.e.term∧goneB s.g.n s.g.i (advF s.g (votN s)).1=false
def LdM(s:NodS) : Prop:=s.e.role=2→s.g.leads≠0→s.g.leads=s.e.term
theorem advN_idem(g:LogN)(vs:List Int) :∀x:Nat,(advN (advN g vs x).1 vs x).1=(advN g vs x).1
 | 0=>rfl
 | x+1=>by
  by_cases hc:g.commit < (x+1:Nat)∧trmI g.ents (x+1:Nat)=g.leads
  ·by_cases hm:majF vs (havL g (x+1:Nat) g.n.toNat)=true
   ·have h1:advN g vs (x+1)=({ g with commit:=(x+1:Nat) },true):=by
     unfold advN;rw [if_pos hc,if_pos hm]
    rw [h1]
    unfold advN
    rw [if_neg (fun h=>absurd h.1 (Int.lt_irrefl _))]
   ·have h1:advN g vs (x+1)=advN g vs x:=by
     conv=>lhs;unfold advN
     rw [if_pos hc,if_neg hm]
    rw [h1]
    have h2:advN (advN g vs x).1 vs (x+1)=advN (advN g vs x).1 vs x:=by
     rcases advN_spec g vs x with h|⟨c,h,h3,h4,_⟩
     ·rw [h];exact h1
     ·rw [h]
      conv=>lhs;unfold advN
      have e1:({ g with commit:=(c:Int) } : LogN).commit < (x+1:Nat)∧trmI ({ g with commit:=(c:Int) } : LogN).ents (x+1:Nat)=({ g with commit:=(c:Int) } : LogN).leads:=⟨by show(c:Int) < _;omega,hc.2⟩
      have e2:¬majF vs (havL ({ g with commit:=(c:Int) } : LogN) (x+1:Nat) ({ g with commit:=(c:Int) } : LogN).n.toNat)=true:=hm
      rw [if_pos e1,if_neg e2]
    rw [h2]
    exact advN_idem g vs x
  ·have h1:advN g vs (x+1)=(g,false):=by
    unfold advN;rw [if_neg hc]
   rw [h1]
   show(advN g vs (x+1)).1=g
   rw [h1]
theorem adv_idem(g:LogN)(vs:List Int) : (advF (advF g vs).1 vs).1=(advF g vs).1:=by
 have hb:=adv_base g vs
 by_cases hl:g.leads=0
 ·have h1:(advF g vs).1=g:=by unfold advF;rw [if_pos hl]
  rw [h1,h1]
 ·have h1:advF g vs=advN g vs g.ents.length:=by unfold advF;rw [if_neg hl]
  have h2:advF (advF g vs).1 vs=advN (advF g vs).1 vs (advF g vs).1.ents.length:=by
   rw [advF.eq_def (advF g vs).1,if_neg (by rw [hb.2.2.2];exact hl)]
  rw [h2,hb.2.2.1,h1]
  exact advN_idem g vs _
theorem LdS.of0{s:NodS}(h:s.g.leads=0) : LdS s:=⟨fun h9=>absurd h h9⟩
theorem setF_lds{t:NodS}(h:LdM t) : LdS (setF t).1:=by
 have hA:LdM (setA t).1:=by
  unfold setA
  split
  ·rename_i hc
   split
   ·intro h1 h2
    have h0:t.g.leads=0:=Classical.byContradiction fun h9=>hc.2 (h hc.1 h9)
    exact absurd h0 h2
   ·rename_i hl
    have hl:=lead_ok (Classical.byContradiction hl)
    rw [hl.2.2.2.2]
    exact fun _ _=>rfl
  ·exact h
 have hB:(setB (setA t).1).g.leads≠0→(setB (setA t).1).e.role=2∧(setB (setA t).1).g.leads=(setB (setA t).1).e.term:=by
  generalize (setA t).1=u at hA
  unfold setB
  split
  ·rename_i hr
   exact fun h9=>⟨hr,hA hr h9⟩
  ·exact fun h9=>absurd rfl h9
 show LdS (setC (setB (setA t).1))
 generalize setB (setA t).1=u at hB
 have hb:=adv_base u.g (votN u)
 unfold setC
 split
 ·rename_i h0
  exact .of0 h0
 ·rename_i h0
  split
  ·exact .of0 rfl
  ·rename_i hg
   refine⟨fun _=>⟨(hB h0).1,hb.2.2.2.trans (hB h0).2, ?_⟩⟩
   have hv:votN { u with g:=(advF u.g (votN u)).1 } = votN u:=by
    show votF (advF u.g (votN u)).1.n (advF u.g (votN u)).1.ents=_
    rw [hb.1,hb.2.2.1];rfl
   rw [hv]
   show goneB (advF u.g (votN u)).1.n (advF u.g (votN u)).1.i (advF (advF u.g (votN u)).1 (votN u)).1=false
   rw [adv_idem,hb.1,hb.2.1]
   cases hq:goneB u.g.n u.g.i (advF u.g (votN u)).1
   ·rfl
   ·exact absurd hq hg
theorem setF_ents(t:NodS) : (setF t).1.g.ents=t.g.ents∨∃e,(setF t).1.g.ents=t.g.ents ++ [e]:=by
 have hB:∀u,(setB u).g.ents=u.g.ents:=fun u=>by unfold setB;split <;> rfl
 have hC:∀u,(setC u).g.ents=u.g.ents:=fun u=>by
  have hb:=adv_base u.g (votN u)
  unfold setC
  split
  ·rfl
  ·split
   ·exact hb.2.2.1
   ·exact hb.2.2.1
 show(setC (setB (setA t).1)).g.ents=_∨∃e,(setC (setB (setA t).1)).g.ents=_
 rw [hC,hB]
 unfold setA
 split
 ·split
  ·exact .inl rfl
  ·rename_i hl
   have hl:=lead_ok (Classical.byContradiction hl)
   rw [hl.2.2.2.2]
   exact .inr ⟨_,rfl⟩
 ·exact .inl rfl
theorem setF_same{s:NodS}(h:LdS s)(hl:ldsB s=true) : (setF s).1.e.term=s.e.term∧(setF s).1.e.vote=s.e.vote∧(setF s).1.g.ents=s.g.ents∧LdS (setF s).1:=by
 have hl:=of_decide_eq_true hl
 obtain⟨h1,h2,h3⟩:=h.l (by omega)
 have hA:setA s=(s,[]):=by unfold setA;rw [if_neg (fun h9=>h9.2 h2)]
 have hB:setB s=s:=by unfold setB;rw [if_pos h1]
 have hC:setC s= { s with g:=(advF s.g (votN s)).1 }:=by
  unfold setC
  rw [if_neg (by omega),h3];rfl
 refine⟨?_, ?_, ?_,setF_lds fun _ _=>h2⟩
 ·show(setC (setB (setA s).1)).e.term=_;rw [hA,hB,hC]
 ·show(setC (setB (setA s).1)).e.vote=_;rw [hA,hB,hC]
 ·show(setC (setB (setA s).1)).g.ents=_;rw [hA,hB,hC];exact(adv_base _ _).2.2.1
theorem see_two{e:EleN}{t:Int}(h:(seeF e t).role=2) : seeF e t=e:=by
 unfold seeF at h ⊢
 split at h
 ·cases h
 ·rename_i hc
  rw [if_neg hc]
theorem recv_two{e:EleN}{m:MsgS}{vs:List Int}{x y:Int}(h0:e.role=2)(h:(recvF e m vs x y).1.role=2) : (recvF e m vs x y).1.term=e.term:=by
 unfold recvF at h ⊢
 split at h
 ·rename_i h1;rw [if_pos h1]
 rename_i h1
 rw [if_neg h1]
 split at h
 ·rename_i h2
  rw [if_pos h2]
  unfold askedF at h ⊢
  by_cases hg:grantF (seeF e m.term) m x y=true
  ·simp only [hg,if_true] at h ⊢
   rw [see_two h]
  ·simp only [hg,Bool.false_eq_true,if_false] at h ⊢
   rw [see_two h]
 ·rename_i h2
  rw [if_neg h2]
  unfold votedF at h ⊢
  by_cases hv:(seeF e m.term).role=1∧m.term=(seeF e m.term).term∧m.granted=true
  ·exfalso
   unfold seeF at hv
   split at hv
   ·exact absurd hv.1 (show¬(0:Int)=1 by decide)
   ·rw [h0] at hv;exact absurd hv.1 (by decide)
  ·simp only [if_neg hv] at h ⊢
   rw [see_two h]
theorem follow_two{e:EleN}{l t:Int}(h:(followF e l t).1.role=2) : (followF e l t).1.term=e.term:=by
 unfold followF at h ⊢
 split at h
 ·rename_i h1;rw [if_pos h1]
 rename_i h1
 rw [if_neg h1]
 split at h
 ·rename_i h2;rw [if_pos h2,see_two h]
 ·cases h
theorem tik_mid{s:NodS}(h:LdS s) : LdM (tikN s).1∧Gro s.g.ents (tikN s).1.g.ents:=by
 have hx:(tikN s).1.g=s.g∧(tikN s).1.e=(tickF s.e (votN s) s.g.ents.length (lstT s.g)).1:=by
  unfold tikN
  split
  ·split <;> exact⟨rfl,rfl⟩
  ·exact⟨rfl,rfl⟩
 refine⟨fun _ hl=>?_, .inl (by rw [hx.1])⟩
 rw [hx.1] at hl
 obtain⟨h1,h2,_⟩:=h.l hl
 rw [hx.1,hx.2]
 unfold tickF
 rw [if_pos h1]
 exact h2
theorem app_gro(g:LogN)(m:MsgS) : Gro g.ents (appF g m).1.ents:=by
 have hs:=app_spec g m
 generalize appF g m=r at hs
 cases hs with
 | bad c _=>exact .inl rfl
 | no _ _=>exact .inl rfl
 | same _ _ _ _=>exact .inl rfl
 | put k hf h1 h2 hm hk hc hle hix hne =>
  have hx:=hf.index.1
  obtain⟨e,he⟩:=get_of hk
  refine .inr ⟨(m.index+k).toNat,m.ents.drop k,rfl,by omega,fun h9=>?_, ?_⟩
  ·have:=congrArg List.length h9
   rw [List.length_drop,List.length_nil] at this
   omega
  ·rw [List.getElem?_drop,Nat.add_zero,he]
   intro h9
   rcases hne with h8|h8
   ·have:=(zS.1 h9).1
    omega
   ·apply h8
    have h7:=trmI_at h9
    rw [show(((m.index+k).toNat+1:Nat):Int)=m.index+1+k by omega] at h7
    rw [h7,trmE_at he]
theorem rcv_mid{s:NodS}(h:LdS s)(m:MsgS) : LdM (rcvN s m).1∧Gro s.g.ents (rcvN s m).1.g.ents:=by
 unfold rcvN
 split
 ·refine⟨fun hr hl=>?_, .inl rfl⟩
  obtain⟨h1,h2,_⟩:=h.l hl
  exact h2.trans (recv_two h1 hr).symm
 split
 ·unfold appN
  split
  ·exact⟨fun hr hl=>(h.l hl).2.1, .inl rfl⟩
  split
  ·refine⟨fun _ hl=>absurd ((app_base (stpF s.g) m).2.2) hl,app_gro (stpF s.g) m⟩
  ·refine⟨fun hr hl=>?_, .inl rfl⟩
   exact(h.l hl).2.1.trans (follow_two hr).symm
 split
 ·have ha:=apd_base s.g m
  unfold apdN
  split
  ·exact⟨fun hr hl=>(h.l hl).2.1, .inl rfl⟩
  split
  ·refine⟨fun hr hl=>?_, .inl rfl⟩
   have hr:(seeF s.e m.term).role=2:=hr
   show s.g.leads=(seeF s.e m.term).term
   rw [see_two hr];exact(h.l hl).2.1
  ·refine⟨fun hr hl=>?_, .inl ha.2.2.1.symm⟩
   have hr:(seeF s.e m.term).role=2:=hr
   have hl:(apdF s.g m).leads≠0:=hl
   show(apdF s.g m).leads=(seeF s.e m.term).term
   rw [see_two hr]
   rw [ha.2.2.2.2] at hl ⊢
   exact(h.l hl).2.1
 ·exact⟨fun hr hl=>(h.l hl).2.1, .inl rfl⟩
/-! ### A node and its records -/
structure NodI (n i:Int) (rs:List RecS) (s:NodS):Prop where
 r:rcoF n i rs (0,-1,[])=(0,s.e.term,s.e.vote,s.g.ents)
 l:LdS s
theorem NodI.cal{n i:Int}{rs:List RecS}{s:NodS}{r:NodS×List MsgS}(h:NodI n i rs s)(hk:NodK r.1)(hn:r.1.g.n=n)(hi:r.1.g.i=i)(hm:LdM r.1)(hg:Gro s.g.ents r.1.g.ents) : NodI n i (rs ++ (calF s r).2.recs) (calF s r).1:=by
 refine⟨?_,setF_lds hm⟩
 have hb:=setF_base r.1
 have hK:=hk.kF
 have hg2:Gro s.g.ents (setF r.1).1.g.ents:=by
  rcases setF_ents r.1 with h1|⟨e,h1⟩ <;> rw [h1]
  ·exact hg
  ·exact hg.snoc e
 show rcoF n i (rs ++ recsF s (setF r.1).1) (0,-1,[])=(0,(setF r.1).1.e.term,(setF r.1).1.e.vote,(setF r.1).1.g.ents)
 rw [rco_append n i _ rs _ (by rw [h.r]),h.r]
 have hR:=hK.e.r
 rw [hK.en,hK.ei,hb.1,hb.2.1,hn,hi] at hR
 generalize (setF r.1).1=u at *
 have hv:rcoF n i (if s.e.term=u.e.term∧s.e.vote=u.e.vote then [] else [recV u.e.term u.e.vote]) (s.e.term,s.e.vote,s.g.ents)=(0,u.e.term,u.e.vote,s.g.ents):=by
  split
  ·rename_i h1
   rw [h1.1,h1.2];rfl
  ·show(if(2:Int)=2 then(if ResE n i u.e.term u.e.vote then(0,u.e.term,u.e.vote,s.g.ents) else _) else _)=_
   rw [if_pos rfl,if_pos hR]
 unfold recsF
 simp only
 rw [rco_append n i _ _ _ (by rw [hv]),hv]
 obtain⟨f1,f2,_⟩:=first_spec s.g.ents u.g.ents
 have hlen:firstD s.g.ents u.g.ents≤s.g.ents.length:=by
  refine Classical.byContradiction fun h9=>?_
  have h8:=f2 s.g.ents.length (by omega)
  rw [zX (Nat.le_refl _)] at h8
  have:=List.getElem?_eq_none_iff.1 h8.symm
  omega
 have htk:s.g.ents.take (firstD s.g.ents u.g.ents)=u.g.ents.take (firstD s.g.ents u.g.ents):=by
  apply List.ext_getElem?
  intro j
  rw [List.getElem?_take,List.getElem?_take]
  split
  ·rename_i hj
   exact f2 j hj
  ·rfl
 rw [rco_recL n i _ _ u.g.ents (u.g.ents.length - firstD s.g.ents u.g.ents) _ _ (by omega) hlen htk]
 split
 ·rename_i h9
  rw [hg2.eq (by omega)]
 ·rfl
theorem NodI.nil{n i:Int}{rs:List RecS}{s:NodS}(h:NodI n i rs s) : NodI n i (rs ++ []) s:=by rw [List.append_nil];exact h
theorem NodI.same{n i:Int}{rs:List RecS}{s u:NodS}(h:NodI n i rs s)(h1:u.e.term=s.e.term)(h2:u.e.vote=s.e.vote)(h3:u.g.ents=s.g.ents)(h4:LdS u) : NodI n i rs u:=⟨by rw [h1,h2,h3];exact h.r,h4⟩
theorem NodI.tick{n i:Int}{rs:List RecS}{s:NodS}(h:NodI n i rs s)(hk:NodK s)(hn:s.g.n=n)(hi:s.g.i=i) : NodI n i (rs ++ (tickN s).2.recs) (tickN s).1:=by
 have hx:(tikN s).1.g=s.g:=by
  unfold tikN
  split
  ·split <;> rfl
  ·rfl
 exact h.cal hk.kTik (by rw [hx];exact hn) (by rw [hx];exact hi) (tik_mid h.l).1 (tik_mid h.l).2
theorem NodI.recv{n i:Int}{rs:List RecS}{s:NodS}(h:NodI n i rs s)(hk:NodK s)(hn:s.g.n=n)(hi:s.g.i=i)(m:MsgS) : NodI n i (rs ++ (recvN s m).2.recs) (recvN s m).1:=by
 obtain⟨b1,b2,_⟩:=rcvN_base s m
 exact h.cal (hk.kRcv m) (b1.trans hn) (b2.trans hi) (rcv_mid h.l m).1 (rcv_mid h.l m).2
theorem NodI.pro{n i:Int}{rs:List RecS}{s:NodS}(h:NodI n i rs s)(hk:NodK s)(hn:s.g.n=n)(hi:s.g.i=i)(hl:ldsB s=true)(e:EntS) : NodI n i (rs ++ (proN s e).2.2.1.recs) (proN s e).1∧((proN s e).2.2.2≠0→NodI n i rs (proN s e).1):=by
 unfold proN
 split
 ·obtain⟨h1,h2,h3,h4⟩:=setF_same h.l hl
  have:=h.same h1 h2 h3 h4
  exact⟨this.nil,fun _=>this⟩
 ·rename_i hp
  have hl:=of_decide_eq_true hl
  refine⟨h.cal (hk.kPro e) ((prop_base s.g e).1.trans hn) ((prop_base s.g e).2.1.trans hi) (fun _ h9=>?_) ?_,fun h9=>absurd rfl h9⟩
  ·have h9:(propF s.g e).1.leads≠0:=h9
   show(propF s.g e).1.leads=s.e.term
   rw [(prop_base s.g e).2.2.2] at h9 ⊢
   exact(h.l.l h9).2.1
  ·rcases prop_spec s.g e with⟨h8,_⟩|⟨_,h8,_⟩
   ·exact absurd h8 hp
   ·show Gro s.g.ents (propF s.g e).1.ents
    rw [h8];exact(Gro.snoc (.inl rfl) _)
theorem NodI.prop{n i:Int}{rs:List RecS}{s:NodS}(h:NodI n i rs s)(hk:NodK s)(hn:s.g.n=n)(hi:s.g.i=i)(e:EntS) : NodI n i (rs ++ (propN s e).2.2.1.recs) (propN s e).1∧((propN s e).2.2.2≠0→NodI n i rs (propN s e).1):=by
 unfold propN
 split
 ·exact⟨h.nil,fun _=>h⟩
 rename_i hl
 split
 ·exact⟨h.nil,fun _=>h⟩
 ·exact h.pro hk hn hi (by cases hb:ldsB s;exact absurd hb hl;rfl) e
theorem NodI.chg{n i:Int}{rs:List RecS}{s:NodS}(h:NodI n i rs s)(hk:NodK s)(hn:s.g.n=n)(hi:s.g.i=i)(vs:List Int) : NodI n i (rs ++ (chgN s vs).2.2.1.recs) (chgN s vs).1∧((chgN s vs).2.2.2≠0→NodI n i rs (chgN s vs).1):=by
 unfold chgN
 split
 ·exact⟨h.nil,fun _=>h⟩
 rename_i hl
 split
 ·exact⟨h.nil,fun _=>h⟩
 ·refine h.pro hk hn hi ?_ _
  cases hb:ldsB s
  ·exact absurd (zT (.inl hb)) hl
  ·rfl
theorem NodI.reco{n i:Int}{rs:List RecS}{s:NodS}(h:NodI n i rs s)(hk:NodK s)(hn:s.g.n=n)(hi:s.g.i=i) : recoF n i rs=(0,⟨ele0 n i s.e.term s.e.vote,log0 n i s.g.ents,0⟩)∧NodI n i rs (recoF n i rs).2:=by
 have h1:recoF n i rs=(0,⟨ele0 n i s.e.term s.e.vote,log0 n i s.g.ents,0⟩):=by
  have hN:=hk.g.n
  have hI:=hk.g.i
  unfold recoF
  rw [h.r,if_neg (fun h9=>h9 ⟨by omega,by omega,⟨Int.le_refl _,by decide⟩,⟨Int.le_refl _,by omega⟩,fun _=>rfl⟩),if_neg (fun h9=>h9 rfl),if_neg (fun h9=>h9 ⟨by omega,by omega,by rw [←hn];exact hk.g.val⟩)]
 refine⟨h1, ?_⟩
 rw [h1]
 exact⟨h.r, .of0 rfl⟩
/-! ### A cluster and its records -/
def WorR(W:WorS) : Prop:=∀(i:Nat) (s:NodS) (rs:List RecS),W.nodes[i]?=some s→W.recs[i]?=some rs→NodI (W.nodes.length:Nat) (i:Nat) rs s
theorem WorR.put{n B i:Nat}{W:WorS}{r:NodS×OutS}(h:WorR W)(hw:WorK n B W)(hi:i < n)(hr:NodI (n:Nat) (i:Nat) (W.rcs i ++ r.2.recs) r.1) : WorR (putW W i r):=by
 intro j s rs h1 h2
 have h1:(W.nodes.set i r.1)[j]?=some s:=h1
 have h2:(W.recs.set i (W.rcs i ++ r.2.recs))[j]?=some rs:=h2
 show NodI ((W.nodes.set i r.1).length:Nat) _ _ _
 rw [zY]
 rw [List.getElem?_set] at h1 h2
 by_cases hij:i=j
 ·subst hij
  rw [if_pos rfl,if_pos (by rw [hw.ln];exact hi)] at h1
  rw [if_pos rfl,if_pos (by rw [hw.lr];exact hi)] at h2
  cases h1
  cases h2
  rw [hw.ln];exact hr
 ·rw [if_neg hij] at h1 h2
  exact h j s rs h1 h2
theorem WorR.nset{n B i:Nat}{W:WorS}{s':NodS}(h:WorR W)(hw:WorK n B W)(hi:i < n)(hr:NodI (n:Nat) (i:Nat) (W.rcs i) s') : WorR { W with nodes:=W.nodes.set i s' }:=by
 intro j s rs h1 h2
 have h1:(W.nodes.set i s')[j]?=some s:=h1
 have h2:W.recs[j]?=some rs:=h2
 show NodI ((W.nodes.set i s').length:Nat) _ _ _
 rw [zY]
 rw [List.getElem?_set] at h1
 by_cases hij:i=j
 ·subst hij
  rw [if_pos rfl,if_pos (by rw [hw.ln];exact hi)] at h1
  cases h1
  rw [hw.ln,←rcs_at h2];exact hr
 ·rw [if_neg hij] at h1
  exact h j s rs h1 h2
theorem WorR.get{n B i:Nat}{W:WorS}(h:WorR W)(hw:WorK n B W)(hi:i < n) : NodI (n:Nat) (i:Nat) (W.rcs i) (W.nod i):=by
 obtain⟨a,b,_⟩:=hw.get hi
 have:=h i _ _ a b
 rwa [hw.ln] at this
theorem WorR.tick{n B i:Nat}{W:WorS}(h:WorR W)(hw:WorK n B W)(hi:i < n) : WorR (tickW W i):=by
 obtain⟨_,_,k1,k2,k3,_⟩:=hw.get hi
 exact h.put hw hi ((h.get hw hi).tick k1 k2 k3)
theorem WorR.tkk{n B i:Nat}{W:WorS}(h:WorR W)(hw:WorK n B W)(hi:i < n) :∀m,WorR (tkkW W i m)
 | 0=>h
 | m+1=>(WorR.tkk h hw hi m).tick (hw.tkk hi m) hi
theorem WorR.delv{n B k:Nat}{W:WorS}(h:WorR W)(hw:WorK n B W)(hk:k < W.box.length)(keep:Bool) : WorR (delvW W k keep).1:=by
 obtain⟨m,hm⟩:=get_of hk
 have hto:=(hw.bx m (zM hm)).to
 unfold delvW
 rw [getD_of hm,if_neg (by rw [hw.ln];omega)]
 have hi:m.to.toNat < n:=by omega
 obtain⟨_,_,k1,k2,k3,_⟩:=hw.get hi
 have hr:=(h.get hw hi).recv k1 k2 k3 m
 have hW:WorK n B (if keep then W else { W with box:=W.box.eraseIdx k })∧WorR (if keep then W else { W with box:=W.box.eraseIdx k })∧(if keep then W else { W with box:=W.box.eraseIdx k }).rcs m.to.toNat=W.rcs m.to.toNat:=by
  split
  ·exact⟨hw,h,rfl⟩
  ·exact⟨hw.boxes (fun x hx=>List.mem_of_mem_eraseIdx hx) (by rw [List.length_eraseIdx];split <;> omega),h,rfl⟩
 exact hW.2.1.put hW.1 hi (by rw [hW.2.2];exact hr)
theorem WorR.crsh{n B i:Nat}{W:WorS}(h:WorR W)(hw:WorK n B W)(hi:i < n) : (crshW W i).2=true∧WorR (crshW W i).1:=by
 obtain⟨_,_,k1,k2,k3,_⟩:=hw.get hi
 obtain⟨r1,r2⟩:=(h.get hw hi).reco k1 k2 k3
 unfold crshW
 rw [hw.ln]
 have h0:¬(recoF (n:Nat) (i:Nat) (W.rcs i)).1≠0:=fun h9=>h9 (by rw [r1])
 rw [if_neg h0]
 exact⟨rfl,h.nset hw hi r2⟩
theorem WorR.trim{W:WorS}(h:WorR W) : WorR (trimW W):=by
 unfold trimW
 split
 ·exact h
 ·exact h
theorem WorR.step{n B s:Nat}{W:WorS}(h:WorR W)(hw:WorK n B W) : (stepW W s).2=true∧WorR (stepW W s).1:=by
 have hn:=hw.nn
 have hkn:∀q:Nat,q % W.nodes.length < n:=fun q=>by rw [hw.ln];exact Nat.mod_lt _ (by omega)
 unfold stepW
 split
 ·by_cases hb:0 < W.box.length
  ·rw [if_pos hb]
   obtain⟨_,w2⟩:=hw.delv (k:=(s / 16) % W.box.length) (Nat.mod_lt _ hb) (decide (s % 8=7))
   have w3:=h.delv hw (k:=(s / 16) % W.box.length) (Nat.mod_lt _ hb) (decide (s % 8=7))
   unfold trm1
   rw [if_pos w2]
   exact⟨rfl,w3.trim⟩
  ·rw [if_neg hb]
   exact⟨rfl,h.trim⟩
 split
 ·refine⟨rfl,WorR.trim ?_⟩
  split
  ·exact h
  ·exact h
 split
 ·exact h.crsh hw (hkn _)
 split
 ·exact⟨rfl,(h.tkk hw (hkn _) _).trim⟩
 split
 ·refine⟨rfl,WorR.trim ?_⟩
  have hi:=hkn (s / 16)
  obtain⟨_,_,k1,k2,k3,_⟩:=hw.get hi
  obtain⟨p1,p2⟩:=(h.get hw hi).prop k1 k2 k3 (opE ((s / 16) % W.nodes.length) (s / 256))
  unfold proW
  split
  ·exact h.put hw hi p1
  ·rename_i hc
   exact h.nset hw hi (p2 hc)
 ·refine⟨rfl,WorR.trim ?_⟩
  have hi:=hkn (s / 16)
  obtain⟨_,_,k1,k2,k3,_⟩:=hw.get hi
  obtain⟨p1,p2⟩:=(h.get hw hi).chg k1 k2 k3 (newV (votN (W.nod ((s / 16) % W.nodes.length))) (((s / 256) % W.nodes.length:Nat):Int))
  unfold chvW
  split
  ·exact h.put hw hi p1
  ·rename_i hc
   exact h.nset hw hi (p2 hc)
theorem begW_r(n:Nat)(hn:1≤n∧n≤5) : WorR (begW n):=by
 intro i s rs h1 h2
 have hw:=begin_k n hn
 have hi:i < n:=by rw [←hw.ln];exact(zS.1 h1).1
 rw [hw.ln]
 have h2:(List.replicate n ([]:List RecS))[i]?=some rs:=h2
 rw [List.getElem?_replicate,if_pos hi] at h2
 cases h2
 have h1:((List.range n).map fun i:Nat=>(recoF n i []).2)[i]?=some s:=h1
 rw [zG,List.getElem?_range hi] at h1
 cases h1
 show NodI (n:Nat) (i:Nat) [] (recoF (n:Nat) (i:Nat) []).2
 rw [(rec_new (n:=n) (i:=i) (by omega) (by omega)).2]
 exact⟨rfl, .of0 rfl⟩
theorem same43_t(l:List EntS) : CallP Try.prog 25 [entsA l,entsA l] (bl true):=by
 refine CallA.of pg ord25 Try.func25 rfl Try.ntmps25 Try.results25 rfl fun h0 G0 O0=>?_
 repeat'(first|apply Sp.h|refine Lk.r rfl ?_|refine Rf.mk rfl ?_|refine xA ?_|refine xB ?_|(refine Bd.mk ?_ ?_ <;> intro _)|refine OpK.r rfl ?_|refine xP ?_|refine Im.mk fun _=>?_|refine All.mk fun _=>?_|refine xU ?_|refine xT ?_|refine xI ?_|(apply Ix.r;(focus assumption);(focus omega))|refine xJ ?_|refine Ce.l rfl ?_|refine Ce.r ?_|refine Ch.l ⟨rfl,rfl⟩ ?_|refine Ch.r ?_|refine xV ?_|(apply SetAsk.r;focus repeat' constructor)|(apply Fk.r;focus repeat' first|infer_instance|constructor)|refine xN ?_|refine Rf.mk ⟨rfl,rfl⟩ ?_|refine Rf.mk ⟨rfl,rfl,rfl⟩ ?_|(apply Jx.r;(focus exact rfl);(focus first|omega|(simp;done)|(simp;omega)))|refine Up.r rfl ?_|(apply Up.inv;(focus repeat constructor);(focus infer_instance))|refine xK ?_|(apply Kf.mk;(focus kernel_rfl))|refine xM ?_|refine UpV.r rfl ?_|(apply Zx.agg;(focus rfl);(focus rfl);(focus repeat constructor))|(apply Zx.b;(focus rfl))|(apply Zx.i;(focus rfl))|apply Zx.one|(apply LkM.s;(focus first|assumption|rfl))|(apply LkM.n;(focus first|assumption|rfl))|(apply Rf.mk;(focus assumption))|refine MkS.r intC 0 rfl ?_|refine Mp.same ?_|(apply Mp.lit;(focus repeat(first|exact MpL.nil|(apply MpL.cons;(focus rfl))|(apply MpL.inv;(focus repeat constructor);(focus infer_instance)))))|refine xD ?_|exact trivial|(apply Lk.r;(focus assumption))|(apply Sx.r;(focus exact rfl);(focus first|omega|(simp;omega)))|(apply CA.drawF;(focus rfl);(focus kernel_rfl);(focus kernel_rfl);(focus repeat' constructor);(focus rfl);intro _n0 _hlt)|(apply NfK.nr;(focus rfl))|(apply NfK.lt;(focus first|assumption|omega|(apply _hlt;repeat constructor)))|(apply NfV.nr;(focus rfl))|apply RA'.both|refine xO ?_|(apply CpS.part;(focus(repeat constructor;done)))|(apply CpS.all;(focus(repeat constructor;done)))|(apply TkX.r;(focus repeat constructor))|(apply ExX.short;(focus rfl);(focus first|omega|(simp <;> omega));(focus first|omega|(simp <;> omega)))|(apply ExX.long;(focus rfl);(focus first|omega|(simp <;> omega));(focus first|omega|(simp <;> omega)))|(apply Ovl.mk';(focus repeat constructor);(focus repeat constructor);(focus decide))|(apply Cvk.i64;(focus rfl);(focus omega))|(apply Cvk.u64;(focus rfl);(focus omega))|(apply Cvk.u8;(focus rfl);(focus omega))|refine Rf.mk ⟨rfl,by decide⟩ ?_|(apply Rf.mk;(focus exact⟨by decide,rfl⟩))|(apply Sx.r;(focus assumption);(focus first|omega|(simp;omega)))|(apply Ix.q;(focus assumption);(focus assumption))|(apply TkJ.r;(focus repeat constructor))|(apply TkE.r;(focus repeat constructor))|(apply NxK.mk)|(apply Ix.q;(focus assumption);(focus assumption))|(apply TkS.r;(focus repeat constructor))|(apply Ix.q;(focus assumption);(focus assumption)))
 refine CA.loop (fun i:Nat=>⟨[(0,entsA l),(1,entsA l),(5,it i)],[]⟩) (fun i=>i≤l.length) (fun i=>l.length - i) 0 xE (zZ _) ?_
 intro i hi
 by_cases hin:i < l.length
 ·obtain⟨e,he⟩:=get_of hin
  (repeat'(first|(show CA _ _ (Code.block 2 _) _ _;apply Stopped.out)|apply Sp.h|refine Lk.r rfl ?_|refine Rf.mk rfl ?_|refine xA ?_|refine xB ?_|(refine Bd.mk ?_ ?_ <;> intro _)|refine OpK.r rfl ?_|refine xP ?_|refine Im.mk fun _=>?_|refine All.mk fun _=>?_|refine xU ?_|refine xT ?_|refine xI ?_|(apply Ix.r;(focus assumption);(focus omega))|refine xJ ?_|refine Ce.l rfl ?_|refine Ce.r ?_|refine Ch.l ⟨rfl,rfl⟩ ?_|refine Ch.r ?_|refine xV ?_|(apply SetAsk.r;focus repeat' constructor)|(apply Fk.r;focus repeat' first|infer_instance|constructor)|refine xN ?_|refine Rf.mk ⟨rfl,rfl⟩ ?_|refine Rf.mk ⟨rfl,rfl,rfl⟩ ?_|(apply Jx.r;(focus exact rfl);(focus first|omega|(simp;done)|(simp;omega)))|refine Up.r rfl ?_|(apply Up.inv;(focus repeat constructor);(focus infer_instance))|refine xK ?_|(apply Kf.mk;(focus kernel_rfl))|refine xM ?_|refine UpV.r rfl ?_|(apply Zx.agg;(focus rfl);(focus rfl);(focus repeat constructor))|(apply Zx.b;(focus rfl))|(apply Zx.i;(focus rfl))|apply Zx.one|(apply LkM.s;(focus first|assumption|rfl))|(apply LkM.n;(focus first|assumption|rfl))|(apply Rf.mk;(focus assumption))|refine MkS.r intC 0 rfl ?_|refine Mp.same ?_|(apply Mp.lit;(focus repeat(first|exact MpL.nil|(apply MpL.cons;(focus rfl))|(apply MpL.inv;(focus repeat constructor);(focus infer_instance)))))|refine xD ?_|exact trivial|(apply Lk.r;(focus assumption))|(apply Sx.r;(focus exact rfl);(focus first|omega|(simp;omega)))|(apply CA.drawF;(focus rfl);(focus kernel_rfl);(focus kernel_rfl);(focus repeat' constructor);(focus rfl);intro _n0 _hlt)|(apply NfK.nr;(focus rfl))|(apply NfK.lt;(focus first|assumption|omega|(apply _hlt;repeat constructor)))|(apply NfV.nr;(focus rfl))|apply RA'.both|refine xO ?_|(apply CpS.part;(focus(repeat constructor;done)))|(apply CpS.all;(focus(repeat constructor;done)))|(apply TkX.r;(focus repeat constructor))|(apply ExX.short;(focus rfl);(focus first|omega|(simp <;> omega));(focus first|omega|(simp <;> omega)))|(apply ExX.long;(focus rfl);(focus first|omega|(simp <;> omega));(focus first|omega|(simp <;> omega)))|(apply Ovl.mk';(focus repeat constructor);(focus repeat constructor);(focus decide))|(apply Cvk.i64;(focus rfl);(focus omega))|(apply Cvk.u64;(focus rfl);(focus omega))|(apply Cvk.u8;(focus rfl);(focus omega))|refine Rf.mk ⟨rfl,by decide⟩ ?_|(apply Rf.mk;(focus exact⟨by decide,rfl⟩))|(apply Sx.r;(focus assumption);(focus first|omega|(simp;omega)))|(apply Ix.q;(focus assumption);(focus assumption))|(apply TkJ.r;(focus repeat constructor))|(apply TkE.r;(focus repeat constructor))|(apply NxK.mk)|(apply Ix.q;(focus assumption);(focus assumption))|(apply TkS.r;(focus repeat constructor))|(apply Ix.q;(focus assumption);(focus assumption))));any_goals apply Stopped.mk
  all_goals apply Sp.h
  rename_i b6 _ b7 _ _ _
  rotate_left
  rename_i b7 _ b6 _ _ _
  all_goals
   refine CA.loop (fun j:Nat=>⟨[(0,entsA l),(1,entsA l),(5,it i),(6,pm b6),(7,pm b7),(8,it j)],[blkR b6 89 (entC e),blkR b7 89 (entC e)]⟩) (fun j=>j≤e.vot.length) (fun j=>e.vot.length - j) 0 xE (zZ _) ?_
   intro j hj
   by_cases hjn:j < e.vot.length
   ·obtain⟨v,hv⟩:=get_of hjn
    repeat'(first|apply Sp.h|refine Lk.r rfl ?_|refine Rf.mk rfl ?_|refine xA ?_|refine xB ?_|(refine Bd.mk ?_ ?_ <;> intro _)|refine OpK.r rfl ?_|refine xP ?_|refine Im.mk fun _=>?_|refine All.mk fun _=>?_|refine xU ?_|refine xT ?_|refine xI ?_|(apply Ix.r;(focus assumption);(focus omega))|refine xJ ?_|refine Ce.l rfl ?_|refine Ce.r ?_|refine Ch.l ⟨rfl,rfl⟩ ?_|refine Ch.r ?_|refine xV ?_|(apply SetAsk.r;focus repeat' constructor)|(apply Fk.r;focus repeat' first|infer_instance|constructor)|refine xN ?_|refine Rf.mk ⟨rfl,rfl⟩ ?_|refine Rf.mk ⟨rfl,rfl,rfl⟩ ?_|(apply Jx.r;(focus exact rfl);(focus first|omega|(simp;done)|(simp;omega)))|refine Up.r rfl ?_|(apply Up.inv;(focus repeat constructor);(focus infer_instance))|refine xK ?_|(apply Kf.mk;(focus kernel_rfl))|refine xM ?_|refine UpV.r rfl ?_|(apply Zx.agg;(focus rfl);(focus rfl);(focus repeat constructor))|(apply Zx.b;(focus rfl))|(apply Zx.i;(focus rfl))|apply Zx.one|(apply LkM.s;(focus first|assumption|rfl))|(apply LkM.n;(focus first|assumption|rfl))|(apply Rf.mk;(focus assumption))|refine MkS.r intC 0 rfl ?_|refine Mp.same ?_|(apply Mp.lit;(focus repeat(first|exact MpL.nil|(apply MpL.cons;(focus rfl))|(apply MpL.inv;(focus repeat constructor);(focus infer_instance)))))|refine xD ?_|exact trivial|(apply Lk.r;(focus assumption))|(apply Sx.r;(focus exact rfl);(focus first|omega|(simp;omega)))|(apply CA.drawF;(focus rfl);(focus kernel_rfl);(focus kernel_rfl);(focus repeat' constructor);(focus rfl);intro _n0 _hlt)|(apply NfK.nr;(focus rfl))|(apply NfK.lt;(focus first|assumption|omega|(apply _hlt;repeat constructor)))|(apply NfV.nr;(focus rfl))|apply RA'.both|refine xO ?_|(apply CpS.part;(focus(repeat constructor;done)))|(apply CpS.all;(focus(repeat constructor;done)))|(apply TkX.r;(focus repeat constructor))|(apply ExX.short;(focus rfl);(focus first|omega|(simp <;> omega));(focus first|omega|(simp <;> omega)))|(apply ExX.long;(focus rfl);(focus first|omega|(simp <;> omega));(focus first|omega|(simp <;> omega)))|(apply Ovl.mk';(focus repeat constructor);(focus repeat constructor);(focus decide))|(apply Cvk.i64;(focus rfl);(focus omega))|(apply Cvk.u64;(focus rfl);(focus omega))|(apply Cvk.u8;(focus rfl);(focus omega))|refine Rf.mk ⟨rfl,by decide⟩ ?_|(apply Rf.mk;(focus exact⟨by decide,rfl⟩))|(apply Sx.r;(focus assumption);(focus first|omega|(simp;omega)))|(apply Ix.q;(focus assumption);(focus assumption))|(apply TkJ.r;(focus repeat constructor))|(apply TkE.r;(focus repeat constructor))|(apply NxK.mk)|(apply Ix.q;(focus assumption);(focus assumption))|(apply TkS.r;(focus repeat constructor))|(apply Ix.q;(focus assumption);(focus assumption)))
    all_goals exact PA.lp (j+1) xE ⟨hjn,by omega⟩
   ·have:j=e.vot.length:=by omega
    subst this
    repeat'(first|apply Sp.h|refine Lk.r rfl ?_|refine Rf.mk rfl ?_|refine xA ?_|refine xB ?_|(refine Bd.mk ?_ ?_ <;> intro _)|refine OpK.r rfl ?_|refine xP ?_|refine Im.mk fun _=>?_|refine All.mk fun _=>?_|refine xU ?_|refine xT ?_|refine xI ?_|(apply Ix.r;(focus assumption);(focus omega))|refine xJ ?_|refine Ce.l rfl ?_|refine Ce.r ?_|refine Ch.l ⟨rfl,rfl⟩ ?_|refine Ch.r ?_|refine xV ?_|(apply SetAsk.r;focus repeat' constructor)|(apply Fk.r;focus repeat' first|infer_instance|constructor)|refine xN ?_|refine Rf.mk ⟨rfl,rfl⟩ ?_|refine Rf.mk ⟨rfl,rfl,rfl⟩ ?_|(apply Jx.r;(focus exact rfl);(focus first|omega|(simp;done)|(simp;omega)))|refine Up.r rfl ?_|(apply Up.inv;(focus repeat constructor);(focus infer_instance))|refine xK ?_|(apply Kf.mk;(focus kernel_rfl))|refine xM ?_|refine UpV.r rfl ?_|(apply Zx.agg;(focus rfl);(focus rfl);(focus repeat constructor))|(apply Zx.b;(focus rfl))|(apply Zx.i;(focus rfl))|apply Zx.one|(apply LkM.s;(focus first|assumption|rfl))|(apply LkM.n;(focus first|assumption|rfl))|(apply Rf.mk;(focus assumption))|refine MkS.r intC 0 rfl ?_|refine Mp.same ?_|(apply Mp.lit;(focus repeat(first|exact MpL.nil|(apply MpL.cons;(focus rfl))|(apply MpL.inv;(focus repeat constructor);(focus infer_instance)))))|refine xD ?_|exact trivial|(apply Lk.r;(focus assumption))|(apply Sx.r;(focus exact rfl);(focus first|omega|(simp;omega)))|(apply CA.drawF;(focus rfl);(focus kernel_rfl);(focus kernel_rfl);(focus repeat' constructor);(focus rfl);intro _n0 _hlt)|(apply NfK.nr;(focus rfl))|(apply NfK.lt;(focus first|assumption|omega|(apply _hlt;repeat constructor)))|(apply NfV.nr;(focus rfl))|apply RA'.both|refine xO ?_|(apply CpS.part;(focus(repeat constructor;done)))|(apply CpS.all;(focus(repeat constructor;done)))|(apply TkX.r;(focus repeat constructor))|(apply ExX.short;(focus rfl);(focus first|omega|(simp <;> omega));(focus first|omega|(simp <;> omega)))|(apply ExX.long;(focus rfl);(focus first|omega|(simp <;> omega));(focus first|omega|(simp <;> omega)))|(apply Ovl.mk';(focus repeat constructor);(focus repeat constructor);(focus decide))|(apply Cvk.i64;(focus rfl);(focus omega))|(apply Cvk.u64;(focus rfl);(focus omega))|(apply Cvk.u8;(focus rfl);(focus omega))|refine Rf.mk ⟨rfl,by decide⟩ ?_|(apply Rf.mk;(focus exact⟨by decide,rfl⟩))|(apply Sx.r;(focus assumption);(focus first|omega|(simp;omega)))|(apply Ix.q;(focus assumption);(focus assumption))|(apply TkJ.r;(focus repeat constructor))|(apply TkE.r;(focus repeat constructor))|(apply NxK.mk)|(apply Ix.q;(focus assumption);(focus assumption))|(apply TkS.r;(focus repeat constructor))|(apply Ix.q;(focus assumption);(focus assumption)))
    all_goals exact PA.lp (i+1) xE ⟨hin,by omega⟩
 ·have:i=l.length:=by omega
  subst this
  repeat'(first|apply Sp.h|refine Lk.r rfl ?_|refine Rf.mk rfl ?_|refine xA ?_|refine xB ?_|(refine Bd.mk ?_ ?_ <;> intro _)|refine OpK.r rfl ?_|refine xP ?_|refine Im.mk fun _=>?_|refine All.mk fun _=>?_|refine xU ?_|refine xT ?_|refine xI ?_|(apply Ix.r;(focus assumption);(focus omega))|refine xJ ?_|refine Ce.l rfl ?_|refine Ce.r ?_|refine Ch.l ⟨rfl,rfl⟩ ?_|refine Ch.r ?_|refine xV ?_|(apply SetAsk.r;focus repeat' constructor)|(apply Fk.r;focus repeat' first|infer_instance|constructor)|refine xN ?_|refine Rf.mk ⟨rfl,rfl⟩ ?_|refine Rf.mk ⟨rfl,rfl,rfl⟩ ?_|(apply Jx.r;(focus exact rfl);(focus first|omega|(simp;done)|(simp;omega)))|refine Up.r rfl ?_|(apply Up.inv;(focus repeat constructor);(focus infer_instance))|refine xK ?_|(apply Kf.mk;(focus kernel_rfl))|refine xM ?_|refine UpV.r rfl ?_|(apply Zx.agg;(focus rfl);(focus rfl);(focus repeat constructor))|(apply Zx.b;(focus rfl))|(apply Zx.i;(focus rfl))|apply Zx.one|(apply LkM.s;(focus first|assumption|rfl))|(apply LkM.n;(focus first|assumption|rfl))|(apply Rf.mk;(focus assumption))|refine MkS.r intC 0 rfl ?_|refine Mp.same ?_|(apply Mp.lit;(focus repeat(first|exact MpL.nil|(apply MpL.cons;(focus rfl))|(apply MpL.inv;(focus repeat constructor);(focus infer_instance)))))|refine xD ?_|exact trivial|(apply Lk.r;(focus assumption))|(apply Sx.r;(focus exact rfl);(focus first|omega|(simp;omega)))|(apply CA.drawF;(focus rfl);(focus kernel_rfl);(focus kernel_rfl);(focus repeat' constructor);(focus rfl);intro _n0 _hlt)|(apply NfK.nr;(focus rfl))|(apply NfK.lt;(focus first|assumption|omega|(apply _hlt;repeat constructor)))|(apply NfV.nr;(focus rfl))|apply RA'.both|refine xO ?_|(apply CpS.part;(focus(repeat constructor;done)))|(apply CpS.all;(focus(repeat constructor;done)))|(apply TkX.r;(focus repeat constructor))|(apply ExX.short;(focus rfl);(focus first|omega|(simp <;> omega));(focus first|omega|(simp <;> omega)))|(apply ExX.long;(focus rfl);(focus first|omega|(simp <;> omega));(focus first|omega|(simp <;> omega)))|(apply Ovl.mk';(focus repeat constructor);(focus repeat constructor);(focus decide))|(apply Cvk.i64;(focus rfl);(focus omega))|(apply Cvk.u64;(focus rfl);(focus omega))|(apply Cvk.u8;(focus rfl);(focus omega))|refine Rf.mk ⟨rfl,by decide⟩ ?_|(apply Rf.mk;(focus exact⟨by decide,rfl⟩))|(apply Sx.r;(focus assumption);(focus first|omega|(simp;omega)))|(apply Ix.q;(focus assumption);(focus assumption))|(apply TkJ.r;(focus repeat constructor))|(apply TkE.r;(focus repeat constructor))|(apply NxK.mk)|(apply Ix.q;(focus assumption);(focus assumption))|(apply TkS.r;(focus repeat constructor))|(apply Ix.q;(focus assumption);(focus assumption)))
  exact Fin.p rfl rfl
end Go.Proofs.Ythlpimbhonihhaa
