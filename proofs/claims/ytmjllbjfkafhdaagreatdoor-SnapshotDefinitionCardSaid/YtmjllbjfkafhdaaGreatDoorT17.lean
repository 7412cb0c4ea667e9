/- Part 17 of the ground of this proof: what its texts say of the model, the program and the plain data; conditions: those that are named. -/
import Derived.Test.YtmjllbjfkafhdaaGreatDoorT16
namespace Go.Proofs.YtmjllbjfkafhdaaGreatDoor
open Go Go.CF
theorem z2x(n:Nat)(hn:1<=n/\n<=5):tJ Tryz.prog 143 [it (n:Nat)] 3 1 (List.replicate n 0) xL:=by
 refine zy.of pg ye Tryz.func143 rfl Tryz.ntmps143 Tryz.results143 rfl λh0 G0 O0=>?_
 repeat'(first|apply Sp.h|refine Lk.r rfl ?_|refine Rf.mk rfl ?_|refine xB ?_|apply yc.mk|refine xN ?_|refine Rf.mk ⟨rfl,rfl,rfl⟩ ?_|(apply Jx.r;{exact zj};{exact zb})|refine yC.r xL 0 rfl ?_|intro _)
 exact⟨_,_,.one (.same (.z)),_,rfl,rfl⟩
noncomputable def p6(m:y8)(l:List yo):List (List Int):=(yw m).zipIdx.map λp=>x6 p.1 (wrF m l p.2)
theorem z1x(m:y8)(l:List yo):(p6 m l).length=(yw m).length:=by simp [p6]
theorem z2y{m:y8}{l:List yo}(i:Nat)(t:ym)(r:List Int)(ht:(yw m)[i]?=some t)(hr:(p6 m l)[i]?=some r):z1L t (wrF m l i) r:=by
 rw [p6,zG,List.getElem?_zipIdx,ht] at hr
 simp only [Option.map_some,Nat.zero_add] at hr
 cases hr
 exact z2L t _
theorem z1P(m:y8)(l:List yo)(hx:xR m)(hl:l.length<=999)(hv:∀e∈l,rE m (e.yj.length:Nat) e):y6 Tryz.prog 33 [wH m,vm l] (.yE [vW (p6 m l),it 0]):=by
 have hm:=hx.Sr
 have B4:=hm.Sq
 have hlen:=z1x m l
 have P_:=oq m hm.lay
 refine zy.Gy (T:=22) z6 ?_
 refine zy.of pg z3c Tryz.func33 rfl Tryz.ntmps33 Tryz.results33 rfl λh0 G0 O0=>?_
 repeat'(first|apply Sp.h|refine Lk.r rfl ?_|refine Rf.mk rfl ?_|apply yc.mk|intro _)
 rename_i b2
 refine CA.loop (λi:Nat=>⟨[(1,vm l),(2,pm b2),(6,it i)],[mR b2 m]⟩) (λi=>i<=l.length) (λi=>l.length - i) 0 xE (zZ _) ?_
 intro i hi
 by_cases yd:i < l.length
 ·obtain⟨e,he⟩:=zz yd
  have qx:=jC m (e.yj.length:Nat) e
  rw [zT (hv e (zM he))] at qx
  repeat'(first|apply Sp.h|refine Lk.r rfl ?_|refine Rf.mk rfl ?_|refine xA ?_|refine yu.r rfl ?_|refine Im.mk λ_=>?_|refine xT ?_|refine xI ?_|refine Ch.l ⟨rfl,rfl⟩ ?_|refine xD ?_|refine xO ?_|(apply Cl.p (qx);focus repeat' constructor))
  all_goals exact PA.lp (i+1) xE ⟨yd,z6⟩
 have vk:i=l.length:=z6
 subst vk
 repeat'(first|apply Sp.h|refine Lk.r rfl ?_|refine Rf.mk rfl ?_|refine xB ?_|refine Im.mk λ_=>?_|refine yc.mk λ_=>?_|refine xT ?_|refine Ch.l ⟨rfl,rfl⟩ ?_|(apply Fk.r;focus repeat' first|infer_instance|constructor)|refine Rf.mk ⟨rfl,rfl,rfl⟩ ?_|(apply Cl.p (P_);focus repeat' constructor))
 rename_i v
 apply CA.yR (m:=([]:List (List Int))) (g:=kI)
 focus(repeat constructor)
 focus rfl
 refine CA.loop (λz:Nat×Value=>⟨[(1,vm l),(2,pm b2),(7,.ow z.2),(8,xG (yw m)),(9,it z.1)],[mR b2 m,yb z.2 22 1 ((p6 m l).take z.1) kI]⟩) (λz=>z.1<=(yw m).length) (λz=>(yw m).length - z.1) (0,v) xE (zZ _) ?_
 rintro⟨i,v⟩ hi
 simp only at hi
 simp only
 by_cases yd:i < (yw m).length
 ·obtain⟨t,ht⟩:=zz yd
  have hw:=z2t m l i
  have h1:y6 Tryz.prog 83 [wH m,vm l,it (i:Nat)] (wns (wrF m l i)):=zy.fz z6 (z1J m l i z6 hv)
  have h2:=z1W t (wrF m l i) (Mk hm.lay ht) (λw hw=>(hv _ (q6.1 hw).1).1) z6
  have hr:(p6 m l)[i]?=some (x6 t (wrF m l i)):=by
   rw [p6,zG,List.getElem?_zipIdx,ht]
   simp
  have xe:(p6 m l).take (i+1)=(p6 m l).take i ++ [x6 t (wrF m l i)]:=by rw [zK,hr];rfl
  have rZ:((p6 m l).take i).length=i:=by rw [zN];omega
  generalize x6 t (wrF m l i)=r at h2 xe
  repeat'(first|apply Sp.h|refine Lk.r rfl ?_|refine Rf.mk rfl ?_|refine xA ?_|refine yu.r rfl ?_|refine xP ?_|refine Im.mk λ_=>?_|refine yc.mk λ_=>?_|refine xU ?_|refine xT ?_|refine xI ?_|refine Ce.r ?_|refine Ch.l ⟨rfl,rfl⟩ ?_|(apply Fk.r;focus repeat' first|infer_instance|constructor)|refine Rf.mk ⟨rfl,rfl⟩ ?_|refine Rf.mk ⟨rfl,rfl,rfl⟩ ?_|(apply Mp.lit;(focus repeat(first|exact yK.nil|(apply yK.cons;{exact zu})|(apply yK.inv;{exact z1};{exact zh}))))|refine xD ?_|refine xO ?_|(apply Cl.p (h1);focus repeat' constructor)|(apply Cl.p (h2);focus repeat' constructor))
  rw [<-xe]
  all_goals exact PA.lp (i+1,_) xE ⟨yd,by simp only;omega⟩
 ·have vk:i=(yw m).length:=z6
  subst vk
  rw [List.take_of_length_le z6]
  repeat'(first|apply Sp.h|refine Lk.r rfl ?_|refine Rf.mk rfl ?_|refine xB ?_|apply Im.mk|refine xN ?_|intro _)
  exact⟨_,_,.yE (.same (.same (.z))),_,rfl,rfl⟩
theorem z2b(n:Nat)(l:List yo)(hn:1<=n/\n<=5):zy Tryz.prog 77 [it (n:Nat),vm l] [] λr own=>own= []/\(r= .yE [tz,it 1]∨r= .yE [ints (p_ n l),it 0]):=by
 have hz:=z2x n hn
 have ue:=z1y l
 refine zy.of pg z3a Tryz.func77 rfl Tryz.ntmps77 Tryz.results77 rfl λh0 G0 O0=>?_
 repeat'(first|apply Sp.h|refine Lk.r rfl ?_|refine Rf.mk rfl ?_|fail)
 (refine Cl.use (hz) (by repeat'(first|exact y3.nil|apply y3.yB|fail)) .nil rfl ?_;rintro _ _ ⟨_,rfl,rfl⟩)
 rename_i v
 repeat'(first|apply Sp.h|refine Lk.r rfl ?_|refine Rf.mk rfl ?_|refine xA ?_|refine xB ?_|apply Bd.mk|refine xU ?_|refine xN ?_|intro _)
 all_goals try exact(by simp at *;omega:False).elim
 refine xW (ue) ?_
 rintro _ _ ⟨b,rfl,rfl,hc⟩
 cases b
 ·repeat'(first|apply Sp.h|refine Lk.r rfl ?_|refine Rf.mk rfl ?_|refine xB ?_|refine xN ?_|fail)
  exact⟨_,_,.yE (.same (.same (.z))),rfl,.inl rfl⟩
 have hc:=hc rfl
 repeat'(first|apply Sp.h|refine Lk.r rfl ?_|refine Rf.mk rfl ?_|refine xA ?_|refine xB ?_|fail)
 refine CA.loop (λi:Nat=>⟨[(0,it (n:Nat)),(1,vm l),(6,.ow v),(7,it i)],[yb v 3 1 (p_ n (l.take i)) xL]⟩) (λi=>i<=l.length) (λi=>l.length - i) 0 xE (zZ _) ?_
 intro i hi
 have hcn:=sb n (l.take i)
 by_cases yd:i < l.length
 ·obtain⟨e,he⟩:=zz yd
  have jV:=(hc.2.2.1 e (zM he)).1
  by_cases kq:e.yj.length=n
  rotate_left
  ·repeat'(first|apply Sp.h|refine Lk.r rfl ?_|refine Rf.mk rfl ?_|refine xA ?_|refine xB ?_|apply Im.mk|refine xI ?_|refine xN ?_|intro _)
   all_goals first
    | exact⟨_,_,.yE (.same (.same (.z))),rfl,.inl rfl⟩
    | exact(by omega:False).elim
  have CX:=z2C jV
  obtain⟨y,hy⟩:=zz (l:=p_ n (l.take i)) (i:=e.rep.toNat) z6
  have hs:=z2c n he hy
  have WO:0<=e.rep:=jV.2.1
  repeat'(first|apply Sp.h|refine Lk.r rfl ?_|refine Rf.mk rfl ?_|refine xA ?_|refine yu.r rfl ?_|apply Im.mk|refine xU ?_|refine xI ?_|(apply Ix.r;{exact z8};{exact z6})|refine xJ ?_|refine xV ?_|refine Up.r rfl ?_|refine xD ?_|refine xO ?_|intro _)
  rw [<-hs]
  all_goals exact PA.lp (i+1) xE ⟨yd,z6⟩
 ·have:i=l.length:=z6
  subst this
  rw [zL] at hcn ⊢
  repeat'(first|apply Sp.h|refine Lk.r rfl ?_|refine Rf.mk rfl ?_|refine xB ?_|apply Im.mk|refine xN ?_|intro _)
  exact⟨_,_,.yE (.fz z1 z6 (.same (.z))),rfl,.inr rfl⟩
theorem z2a(l:List yo)(hc:ta l)(vB:0 < l.length):zy Tryz.prog 29 [vm l] [] λr own=>own= []/\(r=ints []∨r=ints (p_ (n0 l) l)):=by
 obtain⟨d,hd⟩:=zz (l:=l) (i:=0) vB
 have hn:n0 l=d.yj.length:=by rw [n0,hd];rfl
 have hr:=Ue hc (zM hd)
 have h:=z2b (n0 l) l hr
 rw [hn] at h ⊢
 refine zy.of pg ye Tryz.func29 rfl Tryz.ntmps29 Tryz.results29 rfl λh0 G0 O0=>?_
 repeat'(first|apply Sp.h|refine Lk.r rfl ?_|refine Rf.mk rfl ?_|apply Im.mk|refine xI ?_|intro _)
 refine xW (h) ?_
 rintro _ _ ⟨rfl,rfl|rfl⟩
 ·repeat'(first|apply Sp.h|refine Lk.r rfl ?_|refine Rf.mk rfl ?_|refine xN ?_|fail)
  exact⟨_,_,.one (.ic (.z)),rfl,.inl rfl⟩
 ·repeat'(first|apply Sp.h|refine Lk.r rfl ?_|refine Rf.mk rfl ?_|refine xN ?_|fail)
  exact⟨_,_,.one (.same (.z)),rfl,.inr rfl⟩
theorem z2n(m:y8)(ld:List Int)(l:List yo)(order c:List Int)(hx:xR m)(hc:ta l)(vB:0 < l.length)(hl:l.length<=12)(ho:∀x∈order,0<=x/\x<=255) :
  zy Tryz.prog 13 [wH m,it (n0 l:Nat),ints ld,vm l,MC order,ints c] [] λr own=>(r= .val (.pointer none)/\own= [])∨∃p v D0 q,r=pm p/\own= [vw p m q.base v q.now,yb v 66 13 q.vm uf]/\ld.length=xk m/\q.vm.length<=12/\D0.length<=12/\sW m (n0 l) D0/\RP l D0/\q=(xi m ⟨y_ m (n0 l) ld [],D0,y_ m (n0 l) ld D0⟩ c).2:=by
 obtain⟨d0,Bm⟩:=zz (l:=l) (i:=0) vB
 have rz:=Ue hc (zM Bm)
 obtain⟨k,hk⟩:∃k,k=n0 l:=⟨_,rfl⟩
 by_cases Hl:ld.length=xk m/\lC ld
 rotate_left
 ·have oQ:=XV m (n0 l) ld hx.Sr rz Hl
  refine zy.of pg ye Tryz.func13 rfl Tryz.ntmps13 Tryz.results13 rfl λh0 G0 O0=>?_
  repeat'(first|apply Sp.h|refine Lk.r rfl ?_|refine Rf.mk rfl ?_|refine xB ?_|refine yc.mk λ_=>?_|refine xT ?_|refine Ch.l ⟨rfl,rfl⟩ ?_|refine xN ?_|(apply Cl.p (oQ);focus repeat' constructor))
  all_goals first
   | exact⟨_,_,.one (.same (.z)),.inl ⟨rfl,rfl⟩⟩
   | exact(z6).elim
 have h1:=Yh m (n0 l) ld hx.Sr rz Hl.1 Hl.2
 have h2:=cK l order z6 ho
 refine zy.of pg ye Tryz.func13 rfl Tryz.ntmps13 Tryz.results13 rfl λh0 G0 O0=>?_
 repeat'(first|apply Sp.h|refine Lk.r rfl ?_|refine Rf.mk rfl ?_|apply yc.mk|refine xT ?_|refine Ch.l ⟨rfl,rfl⟩ ?_|intro _)
 refine xW (h1) ?_
 rintro _ _ ⟨p,v,rfl,rfl⟩
 repeat'(first|apply Sp.h|refine Lk.r rfl ?_|refine Rf.mk rfl ?_|refine xA ?_|refine xB ?_|fail)
 refine xW (h2) ?_
 rintro _ _ ⟨vx,X,rfl,rfl,hX1,hX2⟩
 repeat'(first|apply Sp.h|refine Lk.r rfl ?_|refine xU ?_|fail)
 refine CA.loop (λz:Nat×Value×List yo=>⟨[(5,ints c),(13,pm p),(32,.ow vx),(33,it (X.length:Nat)),(34,it z.1)],[vw p m (y_ m (n0 l) ld []) z.2.1 (y_ m (n0 l) ld z.2.2),yb z.2.1 66 13 z.2.2 uf,yb vx 66 13 X uf]⟩) (λz=>z.1<=X.length/\z.2.2.length<=z.1/\sW m (n0 l) z.2.2/\RP l z.2.2) (λz=>X.length - z.1) (0,v,[]) xE ⟨zZ _,Nat.le_refl _,sW.nil m _,RP.nil l⟩ ?_
 rintro⟨i,u,D⟩ ⟨hi,Zy,hD,hE⟩
 simp only at hi Zy hD hE
 simp only
 have Rt:=lQ (ld:=ld) rz Hl.1 hD z6
 by_cases yd:i < X.length
 ·obtain⟨e,he⟩:=zz yd
  have Of:=mI p m (y_ m (n0 l) ld []) u D (y_ m (n0 l) ld D) e hx.Sr Rt z6
  by_cases h0:(yA m D (y_ m (n0 l) ld D) e).1=0
  ·rw [lD,if_pos h0,h0,Z7 h0] at Of
   have yL:=hD.step rz h0
   have hex:=(z1K hc vB hE (hX1 e (zM he)) h0).1
   repeat'(first|apply Sp.h|refine Lk.r rfl ?_|refine Rf.mk rfl ?_|refine xA ?_|apply yc.mk|refine xU ?_|refine xT ?_|refine xI ?_|refine xJ ?_|refine Ch.l ⟨rfl,rfl⟩ ?_|(apply y4.r;focus repeat' constructor)|refine xN ?_|intro _)
   refine xW (Of) ?_
   rintro _ _ ⟨rfl,u2,rfl⟩
   repeat'(first|apply Sp.h|refine Lk.r rfl ?_|refine Rf.mk rfl ?_|refine xO ?_|fail)
   exact PA.lp (i+1,u2,D ++ [e]) xE ⟨⟨yd,by simp only [zP,List.length_cons,List.length_nil];omega,yL,hex⟩,by simp only;omega⟩
  ·rw [lD,if_neg h0,Z6 h0] at Of
   repeat'(first|apply Sp.h|refine Lk.r rfl ?_|refine Rf.mk rfl ?_|refine xA ?_|apply yc.mk|refine xU ?_|refine xT ?_|refine xI ?_|refine xJ ?_|refine Ch.l ⟨rfl,rfl⟩ ?_|(apply y4.r;focus repeat' constructor)|refine xN ?_|intro _)
   refine xW (Of) ?_
   rintro _ _ ⟨rfl,u2,rfl⟩
   repeat'(first|apply Sp.h|refine Lk.r rfl ?_|refine Rf.mk rfl ?_|refine xO ?_|fail)
   exact PA.lp (i+1,u2,D) xE ⟨⟨yd,by simp only;omega,hD,hE⟩,by simp only;omega⟩
 ·have ue:(y_ m (n0 l) ld D).clock.length=n0 l:=sb ..
  have MY:=lQ (ld:=ld) rz Hl.1 (sW.nil m (n0 l)) (zZ _)
  have YU:=gD p m (y_ m (n0 l) ld []) u D (y_ m (n0 l) ld D) c hx.Sr Rt ⟨MY.Vc,by rw [ue];exact sb ..,MY.st,Y0 hx.Sr (n0 l) ld [],MY.WZ,by simp [y_]⟩ z6 (λe he=>by rw [ue];exact hD.ev e he)
  obtain⟨q,hq⟩:∃q,q=xi m ⟨y_ m (n0 l) ld [],D,y_ m (n0 l) ld D⟩ c:=⟨_,rfl⟩
  have gT:q.2.vm.length<=D.length:=by
   rw [hq]
   unfold xi
   repeat' split
   all_goals first
    | exact Nat.le_refl _
    | exact List.length_filter_le _ _
  have lJ:=congrArg Prod.snd hq
  rw [<-hq] at YU
  clear hq
  repeat'(first|apply Sp.h|refine Lk.r rfl ?_|refine Rf.mk rfl ?_|refine xB ?_|fail)
  refine xW (YU) ?_
  rintro _ _ ⟨rfl,u3,rfl⟩
  repeat'(first|apply Sp.h|refine Lk.r rfl ?_|refine Rf.mk rfl ?_|refine xN ?_|fail)
  exact⟨_,_,.one (.same (.z)),.inr ⟨p,u3,D,q.2,rfl,rfl,Hl.1,z6,z6,hD,hE,lJ⟩⟩
end Go.Proofs.YtmjllbjfkafhdaaGreatDoor
set_option maxRecDepth 100000
set_option maxHeartbeats 80000000
namespace Go.Proofs.YtmjllbjfkafhdaaGreatDoor
open Go Go.CF
theorem z1z(m:y8)(ld:List Int)(l:List yo)(order c a:List Int)(vL:xl m)(ho:∀x∈order,0<=x/\x<=255) :
  yV Tryz.prog 4 [wH m,ints ld,vm l,MC order,ints c,ints a] (bl true):=by
 have ha:=WB
 have jV:=P6 m ld l order
 have ue:=z1y l
 refine yJ.of pg z3n Tryz.func4 rfl Tryz.ntmps4 Tryz.results4 rfl λh0 G0 O0 ga=>?_
 (repeat'(first|(show CA _ _ (Code.region 1 _ _) _ _;apply z_.out)|apply Sp.h|refine Lk.r rfl ?_|refine Rf.mk rfl ?_|apply yc.mk|intro _));any_goals apply z_.mk
 rename_i b6
 repeat'(first|apply Sp.h|refine Lk.r rfl ?_|refine Rf.mk rfl ?_|refine xA ?_|refine xT ?_|refine Ch.l ⟨rfl,rfl⟩ ?_|(apply Cl.pG (ha);{exact ga};(focus((repeat'(first|exact y3.nil|fail));done))))
 all_goals try exact(by assumption:False).elim
 refine xW (jV) ?_
 rintro _ _ ⟨b,rfl,rfl,Zt⟩
 cases b
 ·repeat'(first|apply Sp.h|refine Lk.r rfl ?_|refine Rf.mk rfl ?_|refine xB ?_|refine xN ?_|fail)
  exact Fin.p rfl rfl
 have Zt:=Zt rfl
 have wU:m.ops.length<=1000000000:=by have:=Zt.fo;omega
 have hv:=tW m wU vL
 have rB:=fZ m wU vL
 by_cases hx:xR m
 rotate_left
 ·rw [zF hx] at hv
  repeat'(first|apply Sp.h|refine Lk.r rfl ?_|refine Rf.mk rfl ?_|refine xA ?_|refine xB ?_|refine xT ?_|refine Ch.l ⟨rfl,rfl⟩ ?_|refine xN ?_|(apply Cl.p (hv);focus repeat' constructor))
  exact Fin.p rfl rfl
 rw [zT hx] at hv
 repeat'(first|apply Sp.h|refine Lk.r rfl ?_|refine Rf.mk rfl ?_|refine xA ?_|refine xT ?_|refine Ch.l ⟨rfl,rfl⟩ ?_|(apply Cl.p (hv);focus repeat' constructor))
 refine xW (ue) ?_
 rintro _ _ ⟨b,rfl,rfl,hc⟩
 cases b
 ·repeat'(first|apply Sp.h|refine Lk.r rfl ?_|refine Rf.mk rfl ?_|refine xA ?_|refine xB ?_|refine xN ?_|fail)
  exact Fin.p rfl rfl
 have hc:=hc rfl
 by_cases vB:l.length=0
 ·repeat'(first|apply Sp.h|refine Lk.r rfl ?_|refine Rf.mk rfl ?_|refine xA ?_|apply Im.mk|refine xN ?_|intro _)
  all_goals first
   | exact Fin.p rfl rfl
   | exact(by omega:False).elim
 obtain⟨d,hd⟩:=zz (l:=l) (i:=0) z6
 have hn:n0 l=d.yj.length:=by rw [n0,hd];rfl
 have hr:=Ue hc (zM hd)
 have qz:=Zt.fl
 have hm:=hx.Sr
 repeat'(first|apply Sp.h|refine Lk.r rfl ?_|refine Rf.mk rfl ?_|refine xA ?_|refine xB ?_|apply Im.mk|intro _)
 all_goals try exact(by omega:False).elim
 refine CA.loop (λi:Nat=>⟨[(1,ints ld),(2,vm l),(3,MC order),(4,ints c),(5,ints a),(6,pm b6),(47,vm l),(48,it (l.length:Nat)),(49,it i)],[mR b6 m]⟩)
  (λi=>i<=l.length/\∀j e,j < i->l[j]?=some e->rE m (n0 l:Nat) e) (λi=>l.length - i) 0 xE ⟨zZ _,λj e h=>z6⟩ ?_
 rintro i ⟨hi,ko⟩
 by_cases yd:i < l.length
 ·obtain⟨e,he⟩:=zz yd
  have qx:=jC m (d.yj.length:Nat) e
  have jQ:=Yi e
  have hh:=fH c e.rep e.num
  have hct:=rW e.yj c
  by_cases hE:rE m (d.yj.length:Nat) e
  rotate_left
  ·rw [zF hE] at qx
   repeat'(first|apply Sp.h|refine Lk.r rfl ?_|refine Rf.mk rfl ?_|refine xA ?_|refine xB ?_|refine yu.r rfl ?_|refine Im.mk λ_=>?_|refine yc.mk λ_=>?_|refine xT ?_|refine xI ?_|refine Ch.l ⟨rfl,rfl⟩ ?_|(apply y4.r;focus repeat' constructor)|refine xN ?_|refine xD ?_|(apply Cl.p (qx);focus repeat' constructor))
   all_goals exact Fin.p rfl rfl
  rw [zT hE] at qx
  rw [<-hn] at hE
  have yL:=yg he ko hE
  generalize decide (x9 c e.rep e.num)=q1 at hh
  generalize decide (tO e.yj c)=q2 at hct
  cases q1 <;> cases q2
  all_goals
   repeat'(first|apply Sp.h|refine Lk.r rfl ?_|refine Rf.mk rfl ?_|refine xA ?_|refine xB ?_|refine yu.r rfl ?_|refine Im.mk λ_=>?_|refine yc.mk λ_=>?_|refine xT ?_|refine xI ?_|refine Ch.l ⟨rfl,rfl⟩ ?_|(apply y4.r;focus repeat' constructor)|refine xN ?_|refine xD ?_|refine xO ?_|(apply Cl.p (qx);focus(repeat' constructor);done)|(apply Cl.p (jQ);focus(repeat' constructor);done)|(apply Cl.p (hh);focus(repeat' constructor);done)|(apply Cl.p (hct);focus(repeat' constructor);done))
   all_goals first
    | exact Fin.p rfl rfl
    | exact PA.lp (i+1) xE ⟨⟨yd,yL⟩,z6⟩
 have vk:i=l.length:=z6
 subst vk
 have ug:∀e∈l,rE m (n0 l:Nat) e:=λe he=>by
  obtain⟨j,hj⟩:=zO he
  exact ko j e (zS.1 hj).1 hj
 have z2S:∀e∈uP a l,rE m (e.yj.length:Nat) e:=λe he=>by
  have h9:=ug e (List.mem_filter.1 he).1
  rw [h9.2.1];exact h9
 have Oi:=z2n m ld l order c hx hc z6 qz ho
 rw [hn] at Oi
 repeat'(first|apply Sp.h|refine Lk.r rfl ?_|refine Rf.mk rfl ?_|refine xB ?_|refine yu.r rfl ?_|apply Im.mk|refine xT ?_|refine xI ?_|refine Ch.l ⟨rfl,rfl⟩ ?_|refine xD ?_|intro _)
 refine xW (Oi) ?_
 rw [<-hn]
 rintro _ _ (⟨rfl,rfl⟩|⟨p,v,D0,q,rfl,rfl,gR,gP,Zy,hD,hX,hq⟩)
 ·repeat'(first|apply Sp.h|refine Lk.r rfl ?_|refine Rf.mk rfl ?_|refine xA ?_|refine yu.r rfl ?_|refine xN ?_|fail)
  exact Fin.p rfl rfl
 have hA:AnyS m q.base q.vm q.now:=by rw [hq];exact cW hx hr gR hD z6
 have lz:=hA.ck
 have CV:=j8 m q.base q.now q.vm z6
 have Bn:=z2a l hc z6
 have hw0:q.now.clock.length=n0 l:=by
  rw [hq]
  unfold xi
  repeat' split
  all_goals exact sb ..
 (repeat'(first|(show CA _ _ (Code.region 12 _ _) _ _;apply z_.out)|apply Sp.h|refine Lk.r rfl ?_|refine yu.r rfl ?_|fail));any_goals apply z_.mk
 (apply CA.own;(focus(apply OX.rD (b:=p);{exact z1};(focus(repeat'(first|exact FX.nil|(apply FX.s1;{exact z1};{exact zb})|apply FX.k)));{exact z1})))
 apply CA.xt 15
 focus rfl
 focus(repeat constructor)
 repeat'(first|apply Sp.h|refine Lk.r rfl ?_|refine Rf.mk rfl ?_|(apply Cl.p (CV);focus repeat' constructor))
 refine xW (Bn) ?_
 rintro _ _ ⟨rfl,rfl|rfl⟩
 ·have e3:=kg q.now.clock []
  rw [zF (λh9=>by rw [h9] at hw0;simp at hw0;omega)] at e3
  repeat'(first|apply Sp.h|refine Lk.r rfl ?_|refine Rf.mk rfl ?_|refine xB ?_|refine xN ?_|(apply Cl.p (e3);focus repeat' constructor))
  exact Fin.p rfl rfl
 have e3:=kg q.now.clock (p_ (n0 l) l)
 by_cases hk:q.now.clock=p_ (n0 l) l
 rotate_left
 ·rw [zF hk] at e3
  repeat'(first|apply Sp.h|refine Lk.r rfl ?_|refine Rf.mk rfl ?_|refine xB ?_|refine xN ?_|(apply Cl.p (e3);focus repeat' constructor))
  exact Fin.p rfl rfl
 rw [zT hk] at e3
 have hQl:=cd m
 have c1:=z16 hA hm vL a (pZ m) z6
 by_cases h0:cX m q.base q.vm q.now a (pZ m)=0
 rotate_left
 ·generalize DR m q.base q.vm q.now a (pZ m)=R1 at c1
  generalize cX m q.base q.vm q.now a (pZ m)=f1 at c1 h0
  repeat'(first|apply Sp.h|refine Lk.r rfl ?_|refine Rf.mk rfl ?_|refine xA ?_|refine xB ?_|refine xT ?_|refine Ch.l ⟨rfl,rfl⟩ ?_|refine xN ?_|(apply Cl.p (e3);focus(repeat' constructor);done)|(apply Cl.p (rB);focus(repeat' constructor);done)|(apply Cl.pG (c1);{exact ga};focus(repeat' constructor);done))
  all_goals first
   | exact Fin.p rfl rfl
   | exact absurd z6 h0
 have z3q:wu q.base.clock q.vm q.now.clock a=0:=by rw [cX,if_pos (Dm hx)] at h0;exact h0
 obtain⟨E,hE⟩:=z2M hc hD hX hq z3q hk
 have qf:(uP a l).length<=l.length:=List.length_filter_le _ _
 have h1:=hE.stt
 have h2:=hE.z3l hx hc z6 (z1x m (uP a l)) (λi t r ht hr=>z2y i t r ht hr)
 have k1:=U6 l a z6
 have k2:=XH m ld (uP a l) hm gR z6 z2S
 have k3:=z1P m (uP a l) hx z6 z2S
 have qZ:(yU m q.base q.vm a).length=xk m:=by rw [yU,tY,hA.hb]
 have k4:=XP m (yU m q.base q.vm a) (vz m q.base q.vm a) (pZ m) hx qZ wU vL (λx CM=>ZV hx hA.hb (hA.sn a) ((Dm hx).2 x CM)) z6
 have hR:(pZ m).map (wh (yU m q.base q.vm a) (w_ m (yU m q.base q.vm a)) (vz m q.base q.vm a))=r6 m q.base q.vm a (pZ m):=rfl
 rw [hR] at k4
 rw [<-h1] at k2
 rw [<-h2] at k3
 rw [DR,h0,if_pos rfl] at c1
 generalize yU m q.base q.vm a=S at k2 k4
 generalize vz m q.base q.vm a=V at k3 k4
 generalize r6 m q.base q.vm a (pZ m)=rows at c1 k4
 have k5:=z10 rows rows
 rw [zT rfl] at k5
 repeat'(first|apply Sp.h|refine Lk.r rfl ?_|refine Rf.mk rfl ?_|refine xA ?_|refine xT ?_|refine Ch.l ⟨rfl,rfl⟩ ?_|refine xN ?_|(apply Cl.p (e3);focus(repeat' constructor);done)|(apply Cl.p (rB);focus(repeat' constructor);done)|(apply Cl.pG (c1);{exact ga};focus(repeat' constructor);done)|(apply Cl.p (k1);focus(repeat' constructor);done)|(apply Cl.p (k2);focus(repeat' constructor);done)|(apply Cl.p (k3);focus(repeat' constructor);done)|(apply Cl.p (k4);focus(repeat' constructor);done)|(apply Cl.p (k5);focus(repeat' constructor);done))
 all_goals first
  | exact Fin.p rfl rfl
  | exact(by omega:False).elim
end Go.Proofs.YtmjllbjfkafhdaaGreatDoor
