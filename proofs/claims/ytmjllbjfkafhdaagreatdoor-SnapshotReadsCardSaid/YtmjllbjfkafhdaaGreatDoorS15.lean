/- Part 15 of the ground of this proof: what its texts say of the model, the program and the plain data; conditions: those that are named. -/
import Derived.Test.YtmjllbjfkafhdaaGreatDoorS14
namespace Go.Proofs.YtmjllbjfkafhdaaGreatDoor
open Go Go.CF
def Re(k:List xp):Prop:=k.length<=100000/\∀g∈k,g.marks.length<=1000000
theorem lY{m:y8}{k:List xp}{e:yo}(h:Re k):Re (um m k e):=by
 unfold um
 by_cases h0:(yq m k e).1=0
 ·obtain⟨_,_,h3,_,h5⟩:=mL h0
  exact⟨by rw [h3];exact h.1,h5⟩
 ·have h2:(yq m k e).2= []:=by
   unfold yq at h0 ⊢
   split
   ·rfl
   ·rename_i h1
    rw [if_neg h1] at h0
    split
    ·rename_i h2;rw [if_pos h2] at h0;exact absurd rfl h0
    ·rename_i h2
     rw [if_neg h2] at h0
     unfold wi at h0 ⊢
     split
     ·rfl
     ·rename_i h3
      rw [h3] at h0
      simp only at h0
      split
      ·rfl
      ·rename_i h4;rw [if_neg h4] at h0;exact absurd rfl h0
  rw [h2]
  exact⟨by simp,by simp⟩
structure DF (m:y8) (n:Nat) (b:yt):Prop where
 Vc:vY b.clock
 len:b.clock.length=n
 st:b.state.length=xk m
 mg:Re b.merged
 WZ:oT b.places
 SS:b.places.length<=10000
theorem Xp{l:List Int}{n:Int}(h:oT l):oT (tF l n):=(dx (l:=l) (s:=l) (n:=n) ⟨h,λ_=>Iff.rfl⟩).1
theorem UA{l:List Int}{n:Int}(h:oT l):(tF l n).length<=l.length+1:=by
 by_cases hn:n∈l
 ·rw [show tF l n=l from if_pos hn];omega
 ·rw [ZT h hn];simp;have:=n9 (λy=>decide (¬y < n)) l;unfold pY;omega
theorem Ya{l:List Int}{e:yo}(h:oT l):oT (lv l e)/\(lv l e).length<=l.length+1:=by
 unfold lv
 split
 ·exact⟨Xp h,UA h⟩
 ·exact⟨h,z6⟩
theorem dZ{c:List Int}{l:List yo}{i:Nat}{e:yo}(h:l[i]?=some e):uP c (l.take (i+1))=uP c (l.take i) ++ if x9 c e.rep e.num then [e] else []:=by
 rw [uP,lj h]
 by_cases hh:x9 c e.rep e.num <;> simp [hh,uP]
theorem XS{c:List Int}{l:List yo}{i:Nat}{e:yo}(h:l[i]?=some e):vN c (l.take (i+1))=vN c (l.take i) ++ if x9 c e.rep e.num then [] else [e]:=by
 rw [vN,lj h]
 by_cases hh:x9 c e.rep e.num <;> simp [hh,vN]
structure VV (m:y8) (b x:yt) (i:Nat):Prop where
 ck:x.clock=b.clock
 st:x.state.length=xk m
 mg:Re x.merged
 WZ:oT x.places
 SS:x.places.length<=b.places.length+i
theorem T7{m:y8}{b x:yt}{i:Nat}{e:yo}(h:VV m b x i):VV m b (qp m x e) (i+1) :=
 ⟨h.ck,by simp only [qp,nH];exact h.st,lY h.mg,(Ya h.WZ).1,by have:=(Ya (e:=e) h.WZ).2;have:=h.SS;simp only [qp];omega⟩
theorem TG(s:Nat)(m:y8)(b:yt)(v:Value)(w:yt)(c:List Int) :
  zy Tryz.prog 103 [pm s,ints c] [vw s m b v w] λr own=>r=bl (decide (vY c/\c.length=w.clock.length))/\own= [vw s m b v w]:=by
 have h:=uC c
 by_cases h1:vY c
 ·rw [zT h1] at h
  refine zy.of pg ye Tryz.func103 rfl Tryz.ntmps103 Tryz.results103 rfl λh0 G0 O0=>?_
  repeat'(first|apply Sp.h|refine Lk.r rfl ?_|refine Rf.mk rfl ?_|refine Im.mk λ_=>?_|refine xT ?_|refine xN ?_|(apply Cl.p (h);focus repeat' constructor))
  refine⟨_,_,.one (.same (.z)),vb (zD.2 ⟨λh=>⟨h1,z6⟩,λh=>z6⟩),rfl⟩
 ·rw [zF h1] at h
  rw [zF (λh9=>h1 h9.1)]
  refine zy.of pg ye Tryz.func103 rfl Tryz.ntmps103 Tryz.results103 rfl λh0 G0 O0=>?_
  repeat'(first|apply Sp.h|refine Lk.r rfl ?_|refine Rf.mk rfl ?_|refine xN ?_|(apply Cl.p (h);focus repeat' constructor))
  exact⟨_,_,.one (.same (.z)),rfl,rfl⟩
abbrev Ff (x:yt) (u:Value):List AV:= [ints x.clock,it x.time,.ow u,uH x.merged,tz,tz,ints x.places]
theorem gD(s:Nat)(m:y8)(b:yt)(v:Value)(evl:List yo)(w:yt)(c:List Int)(hm:nR m)(hw:iS m w)(hb:DF m w.clock.length b)(hl:evl.length<=1000)(rB:∀e∈evl,rE m (w.clock.length:Nat) e) :
  zy Tryz.prog 44 [pm s,ints c] [vw s m b v w,yb v 66 13 evl uf] λr own=>r=it (xi m ⟨b,evl,w⟩ c).1/\∃v',own= [vw s m (xi m ⟨b,evl,w⟩ c).2.base v' (xi m ⟨b,evl,w⟩ c).2.now,yb v' 66 13 (xi m ⟨b,evl,w⟩ c).2.vm uf]:=by
 have Od:=TG s m b v w c
 have eJ:=hm.str
 by_cases h1:vY c/\c.length=w.clock.length
 rotate_left
 ·have hF:xi m ⟨b,evl,w⟩ c=(1,⟨b,evl,w⟩):=@if_pos _ (zC _) h1 _ _ _
  rw [hF]
  rw [zF h1] at Od
  refine zy.of pg ZH Tryz.func44 rfl Tryz.ntmps44 Tryz.results44 rfl λh0 G0 O0=>?_
  repeat'(first|apply Sp.h|refine Lk.r rfl ?_|refine Rf.mk rfl ?_|fail)
  refine xW (Od) ?_
  rintro _ _ ⟨rfl,rfl⟩
  repeat'(first|apply Sp.h|refine Lk.r rfl ?_|refine Rf.mk rfl ?_|refine xB ?_|refine xN ?_|fail)
  exact⟨_,_,.one (.same (.z)),rfl,v,rfl⟩
 rw [zT h1] at Od
 have Bx:¬(Ins b.clock c/\Ins c w.clock/\∀e∈evl,x9 c e.rep e.num->Ins e.yj c)->xi m ⟨b,evl,w⟩ c=(9,⟨b,evl,w⟩):=λh =>
  (@if_neg _ (zC _) (λh9=>h9 h1) _ _ _).trans (@if_pos _ (zC _) h _ _ _)
 have Hq:=ph c b.clock
 have C7:=ph w.clock c
 have Oh:=hb.len
 have z07:w9 [c,b.clock]:=(oa _ _).2 ⟨h1.1,hb.Vc,z6⟩
 have z06:w9 [w.clock,c]:=(oa _ _).2 ⟨hw.Vc,h1.1,z6⟩
 by_cases h2:Ins b.clock c
 rotate_left
 ·rw [Bx (λh=>h2 h.1)]
  refine zy.of pg ZH Tryz.func44 rfl Tryz.ntmps44 Tryz.results44 rfl λh0 G0 O0=>?_
  repeat'(first|apply Sp.h|refine Lk.r rfl ?_|refine Rf.mk rfl ?_|fail)
  refine xW (Od) ?_
  rintro _ _ ⟨rfl,rfl⟩
  repeat'(first|apply Sp.h|refine Lk.r rfl ?_|refine Rf.mk rfl ?_|refine xA ?_|refine xT ?_|fail)
  refine xW (Hq) ?_
  rintro _ _ ⟨u,l,rfl,rfl,k1,k2⟩
  have k0:0 < l.length:=List.length_pos_iff.2 λh=>h2 (k1.1 h z07)
  repeat'(first|apply Sp.h|refine Lk.r rfl ?_|refine Rf.mk rfl ?_|refine xA ?_|refine xU ?_|refine xN ?_|fail)
  exact⟨_,_,.one (.same (.z)),rfl,v,rfl⟩
 by_cases h3:Ins c w.clock
 rotate_left
 ·rw [Bx (λh=>h3 h.2.1)]
  refine zy.of pg ZH Tryz.func44 rfl Tryz.ntmps44 Tryz.results44 rfl λh0 G0 O0=>?_
  repeat'(first|apply Sp.h|refine Lk.r rfl ?_|refine Rf.mk rfl ?_|fail)
  refine xW (Od) ?_
  rintro _ _ ⟨rfl,rfl⟩
  repeat'(first|apply Sp.h|refine Lk.r rfl ?_|refine Rf.mk rfl ?_|refine xA ?_|refine xT ?_|fail)
  refine xW (Hq) ?_
  rintro _ _ ⟨u,l,rfl,rfl,k1,k2⟩
  have k0:l.length=0:=by rw [k1.2 λ_=>h2];rfl
  repeat'(first|apply Sp.h|refine Lk.r rfl ?_|refine Rf.mk rfl ?_|refine xB ?_|refine xU ?_|refine xT ?_|fail)
  refine xW (C7) ?_
  rintro _ _ ⟨u2,l2,rfl,rfl,j1,j2⟩
  have j0:0 < l2.length:=List.length_pos_iff.2 λh=>h3 (j1.1 h z06)
  repeat'(first|apply Sp.h|refine Lk.r rfl ?_|refine Rf.mk rfl ?_|refine xA ?_|refine xB ?_|refine xU ?_|refine xN ?_|fail)
  exact⟨_,_,.one (.same (.z)),rfl,v,rfl⟩
 have hcb:=ll b tz tz ⟨by have:=hb.Vc.2.2;omega,by have:=hb.st;omega,hb.mg.1,hb.mg.2,by have:=hb.SS;omega⟩
 have YV:=ud c (by have:=h1.1.2.2;omega)
 refine zy.of pg ZH Tryz.func44 rfl Tryz.ntmps44 Tryz.results44 rfl λh0 G0 O0=>?_
 repeat'(first|apply Sp.h|refine Lk.r rfl ?_|refine Rf.mk rfl ?_|fail)
 refine xW (Od) ?_
 rintro _ _ ⟨rfl,rfl⟩
 repeat'(first|apply Sp.h|refine Lk.r rfl ?_|refine Rf.mk rfl ?_|refine xA ?_|refine xT ?_|fail)
 refine xW (Hq) ?_
 rintro _ _ ⟨u1,l1,rfl,rfl,k1,k2⟩
 have k0:l1.length=0:=by rw [k1.2 λ_=>h2];rfl
 repeat'(first|apply Sp.h|refine Lk.r rfl ?_|refine Rf.mk rfl ?_|refine xB ?_|refine xU ?_|refine xT ?_|fail)
 refine xW (C7) ?_
 rintro _ _ ⟨u2,l2,rfl,rfl,j1,j2⟩
 have j0:l2.length=0:=by rw [j1.2 λ_=>h3];rfl
 repeat'(first|apply Sp.h|refine Lk.r rfl ?_|refine Rf.mk rfl ?_|refine xB ?_|refine xU ?_|refine xT ?_|refine Ch.r ?_|fail)
 refine xW (hcb) ?_
 rintro _ _ ⟨v1,v2,v3,L,v4,rfl,hL,rfl⟩
 (repeat'(first|(show CA _ _ (Code.region 6 _ _) _ _;apply z_.out)|apply Sp.h|refine Lk.r rfl ?_|refine Rf.mk rfl ?_|apply yc.mk|refine xT ?_|(apply y4.r;focus repeat' constructor)|refine xN ?_|intro _));any_goals apply z_.mk
 rename_i b5
 have SL:L.length<=1000000:=by have h8:=congrArg List.length hL;rw [List.length_map] at h8;have:=hb.mg.1;omega
 have hLk:∀x∈L,x.marks.length<=1000000:=λx hx=>hb.mg.2 x.g (by rw [<-hL];exact List.mem_map_of_mem hx)
 have Bp:=hb.Vc.2.2
 have bt:=hb.SS
 have YY:=hb.st
 apply CA.own
 focus(apply OX.rD (b:=b5);{exact z1};(focus(apply FX.s1;{exact z1};{exact z6};apply FX.k;apply FX.k;apply Yb;{exact z1};{exact z1};{exact SL};{exact hLk};apply FX.k;apply FX.k;apply FX.s1;{exact z1};{exact z6};exact FX.nil));{exact z1})
 rw [hL]
 repeat'(first|apply Sp.h|refine Lk.r rfl ?_|refine Rf.mk rfl ?_|refine xU ?_|refine xT ?_|fail)
 refine CA.uV 6 66 13 uf rfl λvr=>?_
 refine CA.loop (λx:Nat×Value×yt=>⟨[(0,pm s),(1,ints c),(5,pm b5),(6,.ow x.2.1),(46,.ow v),(47,it (evl.length:Nat)),(48,it x.1)],[vw s m b v w,yb v 66 13 evl uf,yr b5 46 (Ff x.2.2 v2),yb v2 3 1 x.2.2.state xL,yb x.2.1 66 13 (vN c (evl.take x.1)) uf]⟩)
  (λx=>x.1<=evl.length/\(∀e∈evl.take x.1,x9 c e.rep e.num->Ins e.yj c)/\VV m b x.2.2 x.1/\x.2.2=(uP c (evl.take x.1)).foldl (qp m) b) (λx=>evl.length - x.1) (0,vr,b) xE ⟨zZ _,by simp,⟨rfl,hb.st,hb.mg,hb.WZ,by simp⟩,rfl⟩ ?_
 rintro⟨i,vr,y⟩ ⟨hi,Vm,ij,hy⟩
 simp only at hi Vm ij hy
 simp only
 have hyp:=ij.SS
 have hys:=ij.st
 by_cases qf:i < evl.length
 ·obtain⟨e,he⟩:=zz qf
  have Cc:=rB e (zM he)
  have hn:=jd e
  have hh:=kZ c e.rep e.num
  have lI:=dZ (c:=c) he
  have qY:=XS (c:=c) he
  have wU:(vN c (evl.take i)).length<=i:=by
   have:=List.length_filter_le (λe:yo=>decide (¬x9 c e.rep e.num)) (evl.take i)
   rw [zN] at this
   unfold vN;omega
  by_cases Hx:x9 c e.rep e.num
  rotate_left
  ·rw [zF Hx] at hh
   rw [if_neg Hx] at lI qY
   rw [List.append_nil] at lI
   repeat'(first|apply Sp.h|refine Lk.r rfl ?_|refine Rf.mk rfl ?_|refine xA ?_|refine xB ?_|refine xP ?_|refine yc.mk λ_=>?_|refine xU ?_|refine xT ?_|refine xI ?_|refine xJ ?_|refine Ce.r ?_|refine Ch.l ⟨rfl,rfl⟩ ?_|(apply y4.r;focus repeat' constructor)|(apply Fk.r;focus repeat' first|infer_instance|constructor)|refine xN ?_|refine Rf.mk ⟨rfl,rfl⟩ ?_|refine Rf.mk ⟨rfl,rfl,rfl⟩ ?_|(apply Mp.lit;(focus repeat(first|exact yK.nil|(apply yK.cons;{exact zu})|(apply yK.inv;{exact z1};{exact zh}))))|refine xO ?_|(apply Cl.p (hn);focus(repeat' constructor);done)|(apply Cl.p (hh);focus(repeat' constructor);done))
   rw [<-qY]
   exact PA.lp (i+1,_,y) xE ⟨⟨qf,all_succ he Vm (λh=>absurd h Hx),⟨ij.ck,ij.st,ij.mg,ij.WZ,by simp only;omega⟩,by simp only;rw [lI];exact hy⟩,by simp only;omega⟩
  rw [zT Hx] at hh
  rw [if_pos Hx] at lI qY
  rw [List.append_nil] at qY
  have hm3:=ph c e.yj
  have z05:w9 [c,e.yj]:=(oa _ _).2 ⟨h1.1,Cc.1.1,by have:=Cc.2.1;omega⟩
  by_cases vk:Ins e.yj c
  rotate_left
  ·rw [Bx (λh=>vk (h.2.2 e (zM he) Hx))]
   repeat'(first|apply Sp.h|refine Lk.r rfl ?_|refine Rf.mk rfl ?_|refine xA ?_|refine yc.mk λ_=>?_|refine xU ?_|refine xT ?_|refine xI ?_|refine xJ ?_|refine Ch.l ⟨rfl,rfl⟩ ?_|(apply y4.r;focus repeat' constructor)|refine xN ?_|(apply Cl.p (hn);focus(repeat' constructor);done)|(apply Cl.p (hh);focus(repeat' constructor);done))
   refine xW (hm3) ?_
   rintro _ _ ⟨u3,l3,rfl,rfl,q1,q2⟩
   have q0:0 < l3.length:=List.length_pos_iff.2 λh=>vk (q1.1 h z05)
   repeat'(first|apply Sp.h|refine Lk.r rfl ?_|refine Rf.mk rfl ?_|refine xA ?_|refine xU ?_|refine xN ?_|fail)
   exact⟨_,_,.one (.same (.z)),rfl,v,rfl⟩
  have jS:=nG m y.merged e hm
  have PR:=VZ y.places e.place ij.WZ z6
  have yL:=T7 (e:=e) ij
  have Zu:qp m y e=(uP c (evl.take (i+1))).foldl (qp m) b:=by rw [lI,List.foldl_append,<-hy];rfl
  have YQ:∀d∈evl.take (i+1),x9 c d.rep d.num->Ins d.yj c:=all_succ he Vm (λ_=>vk)
  repeat'(first|apply Sp.h|refine Lk.r rfl ?_|refine Rf.mk rfl ?_|refine xA ?_|refine yc.mk λ_=>?_|refine xU ?_|refine xT ?_|refine xI ?_|refine xJ ?_|refine Ch.l ⟨rfl,rfl⟩ ?_|(apply y4.r;focus repeat' constructor)|refine xN ?_|(apply Cl.p (hn);focus(repeat' constructor);done)|(apply Cl.p (hh);focus(repeat' constructor);done))
  refine xW (hm3) ?_
  rintro _ _ ⟨u3,l3,rfl,rfl,q1,q2⟩
  have q0:l3.length=0:=by rw [q1.2 λ_=>vk];rfl
  by_cases hk:e.kind=0
  rotate_left
  ·have qn:xY m y.state e=y.state:=if_neg hk
   by_cases kq:0 < e.place
   ·repeat'(first|apply Sp.h|refine Lk.r rfl ?_|refine Rf.mk rfl ?_|refine xA ?_|refine xB ?_|refine yu.r rfl ?_|refine xU ?_|refine xT ?_|refine Ch.l ⟨rfl,rfl⟩ ?_|refine Ch.r ?_|refine xV ?_|refine xD ?_|refine xO ?_|(apply Cl.p (jS);focus(repeat' constructor);done)|(apply Cl.p (PR);focus(repeat' constructor);done))
    have hz:(⟨y.clock,max y.time e.time,y.state,(yq m y.merged e).2,tF y.places e.place⟩:yt)=qp m y e:=by rw [qp,qn,lv,if_pos kq];rfl
    all_goals rw [<-qY]
    all_goals exact PA.lp (i+1,vr,⟨y.clock,max y.time e.time,y.state,(yq m y.merged e).2,tF y.places e.place⟩) xE ⟨⟨qf,YQ,by simp only;rw [hz];exact yL,by simp only;rw [hz];exact Zu⟩,by simp only;omega⟩
   ·repeat'(first|apply Sp.h|refine Lk.r rfl ?_|refine Rf.mk rfl ?_|refine xB ?_|refine yu.r rfl ?_|refine xU ?_|refine xT ?_|refine Ch.l ⟨rfl,rfl⟩ ?_|refine Ch.r ?_|refine xV ?_|refine xD ?_|refine xO ?_|(apply Cl.p (jS);focus(repeat' constructor);done)|(apply Cl.p (PR);focus(repeat' constructor);done))
    have hz:(⟨y.clock,max y.time e.time,y.state,(yq m y.merged e).2,y.places⟩:yt)=qp m y e:=by rw [qp,qn,lv,if_neg kq];rfl
    all_goals rw [<-qY]
    all_goals exact PA.lp (i+1,vr,⟨y.clock,max y.time e.time,y.state,(yq m y.merged e).2,y.places⟩) xE ⟨⟨qf,YQ,by simp only;rw [hz];exact yL,by simp only;rw [hz];exact Zu⟩,by simp only;omega⟩
  have eN:=nq Cc.1 hk
  have Dh:=Cc.2.2 hk
  obtain⟨a,ha⟩:=zz (l:=m.yP) (i:=e.action.toNat) z6
  have hd:=kh ha
  have MR:=hm.xu a (zM ha)
  have qn:xY m y.state e=vF y.state a.xu.delta:=by rw [xY,if_pos hk,hd]
  repeat'(first|apply Sp.h|refine Lk.r rfl ?_|refine Rf.mk rfl ?_|refine xA ?_|refine xB ?_|refine yu.r rfl ?_|apply Im.mk|refine xU ?_|refine xT ?_|(apply Ix.r;{exact z8};{exact z6})|refine xV ?_|refine xD ?_|intro _)
  refine CA.loop (λk:Nat=>⟨[(0,pm s),(1,ints c),(5,pm b5),(6,.ow vr),(8,pm _),(46,.ow v),(47,it (evl.length:Nat)),(48,it i),(86,yO a.xu.delta),(87,it (a.xu.delta.length:Nat)),(88,it k)],[vw s m b v w,yb v 66 13 evl uf,yr b5 46 (Ff { y with time:=max y.time e.time } v2),yb v2 3 1 (vF y.state (a.xu.delta.take k)) xL,yb vr 66 13 (vN c (evl.take i)) uf,yr _ 66 (uf e)]⟩) (λk=>k<=a.xu.delta.length) (λk=>a.xu.delta.length - k) 0 xE (zZ _) ?_
  intro k lK
  have hlen:=sM (a.xu.delta.take k) y.state
  by_cases MO:k < a.xu.delta.length
  ·obtain⟨p,hp⟩:=zz MO
   obtain⟨p1,p2⟩:=MR.d p (zM hp)
   obtain⟨z,hz⟩:=zz (l:=vF y.state (a.xu.delta.take k)) (i:=p.1.toNat) z6
   have HZ:=pr (s:=y.state) hp
   rw [show o3 (vF y.state (a.xu.delta.take k)) p=(vF y.state (a.xu.delta.take k)).set p.1.toNat (IntKind.i64.wrap (z+p.2)) by rw [o3,hz];rfl] at HZ
   repeat'(first|apply Sp.h|refine Lk.r rfl ?_|refine Rf.mk rfl ?_|refine xA ?_|refine yu.r rfl ?_|apply yc.mk|refine xU ?_|refine xT ?_|refine xI ?_|(apply Ix.r;{exact z8};{exact z6})|refine xJ ?_|refine Ch.l ⟨rfl,rfl⟩ ?_|(apply y4.r;focus repeat' constructor)|refine xN ?_|refine xD ?_|intro _)
   refine⟨?_⟩
   repeat'(first|apply Sp.h|refine Lk.r rfl ?_|refine Rf.mk rfl ?_|refine yu.r rfl ?_|refine xU ?_|(apply Ix.r;{exact z8};{exact z6})|refine xJ ?_|refine xV ?_|refine Up.r rfl ?_|refine xO ?_|fail)
   rw [<-HZ]
   exact PA.lp (k+1) xE ⟨MO,z6⟩
  ·have mO:k=a.xu.delta.length:=z6
   subst mO
   rw [zL]
   by_cases kq:0 < e.place
   ·repeat'(first|apply Sp.h|refine Lk.r rfl ?_|refine Rf.mk rfl ?_|refine xA ?_|refine xB ?_|refine yu.r rfl ?_|refine xT ?_|refine Ch.l ⟨rfl,rfl⟩ ?_|refine Ch.r ?_|refine xV ?_|refine xD ?_|refine xO ?_|(apply Cl.p (jS);focus(repeat' constructor);done)|(apply Cl.p (PR);focus(repeat' constructor);done))
    have hz:(⟨y.clock,max y.time e.time,vF y.state a.xu.delta,(yq m y.merged e).2,tF y.places e.place⟩:yt)=qp m y e:=by rw [qp,qn,lv,if_pos kq];rfl
    all_goals rw [<-qY]
    all_goals exact PA.lp (i+1,vr,⟨y.clock,max y.time e.time,vF y.state a.xu.delta,(yq m y.merged e).2,tF y.places e.place⟩) xE ⟨⟨qf,YQ,by simp only;rw [hz];exact yL,by simp only;rw [hz];exact Zu⟩,by simp only;omega⟩
   ·repeat'(first|apply Sp.h|refine Lk.r rfl ?_|refine Rf.mk rfl ?_|refine xB ?_|refine yu.r rfl ?_|refine xT ?_|refine Ch.l ⟨rfl,rfl⟩ ?_|refine Ch.r ?_|refine xV ?_|refine xD ?_|refine xO ?_|(apply Cl.p (jS);focus(repeat' constructor);done)|(apply Cl.p (PR);focus(repeat' constructor);done))
    have hz:(⟨y.clock,max y.time e.time,vF y.state a.xu.delta,(yq m y.merged e).2,y.places⟩:yt)=qp m y e:=by rw [qp,qn,lv,if_neg kq];rfl
    all_goals rw [<-qY]
    all_goals exact PA.lp (i+1,vr,⟨y.clock,max y.time e.time,vF y.state a.xu.delta,(yq m y.merged e).2,y.places⟩) xE ⟨⟨qf,YQ,by simp only;rw [hz];exact yL,by simp only;rw [hz];exact Zu⟩,by simp only;omega⟩
 ·have vk:i=evl.length:=z6
  subst vk
  rw [zL] at Vm hy ⊢
  have ue:=h1.1.2.2
  have eL:(vN c evl).length<=1000:=by
   have:=List.length_filter_le (λe:yo=>decide (¬x9 c e.rep e.num)) evl
   unfold vN;omega
  have hF0:xi m ⟨b,evl,w⟩ c=(0,⟨{ y with clock:=c },vN c evl,{ w with merged:=(vN c evl).foldl (um m) y.merged }⟩):=by
   refine(@if_neg _ (zC _) (λh9=>h9 h1) _ _ _).trans ((@if_neg _ (zC _) (λh9=>h9 ⟨h2,h3,Vm⟩) _ _ _).trans ?_)
   rw [qo,<-hy]
  rw [hF0]
  repeat'(first|apply Sp.h|refine Lk.r rfl ?_|refine Rf.mk rfl ?_|refine xB ?_|fail)
  (refine Cl.use (YV) (by repeat'(first|exact y3.nil|apply y3.yB|fail)) .nil rfl ?_;rintro _ _ ⟨_,rfl,rfl⟩)
  (repeat'(first|(show CA _ _ (Code.region 26 _ _) _ _;apply z_.out)|apply Sp.h|refine Lk.r rfl ?_|refine Rf.mk rfl ?_|refine xT ?_|refine xV ?_|fail));any_goals apply z_.mk
  (apply CA.own;(focus(apply OX.rD (b:=b5);{exact z1};(focus(repeat'(first|exact FX.nil|(apply FX.s1;{exact z1};{exact zb})|apply FX.k)));{exact z1})))
  repeat'(first|apply Sp.h|refine Lk.r rfl ?_|refine Rf.mk rfl ?_|refine xU ?_|refine xT ?_|fail)
  refine CA.loop (λx:Nat×List xp=>⟨[(0,pm s),(5,pm b5),(6,.ow vr),(11,uH x.2),(130,.ow vr),(131,it ((vN c evl).length:Nat)),(132,it x.1)],[vw s m b v w,yb v 66 13 evl uf,yr b5 46 (FE { y with clock:=c }),yb vr 66 13 (vN c evl) uf]⟩)
   (λx=>x.1<=(vN c evl).length/\Re x.2/\x.2=((vN c evl).take x.1).foldl (um m) y.merged) (λx=>(vN c evl).length - x.1) (0,y.merged) xE ⟨zZ _,ij.mg,rfl⟩ ?_
  rintro⟨j,k⟩ ⟨hj,MN,hk⟩
  simp only at hj MN hk
  simp only
  by_cases lL:j < (vN c evl).length
  ·obtain⟨e,he⟩:=zz lL
   have jS:=nG m k e hm
   repeat'(first|apply Sp.h|refine Lk.r rfl ?_|refine Rf.mk rfl ?_|refine xA ?_|refine yu.r rfl ?_|refine yc.mk λ_=>?_|refine xU ?_|refine xT ?_|refine xI ?_|refine xJ ?_|refine Ch.l ⟨rfl,rfl⟩ ?_|refine Ch.r ?_|(apply y4.r;focus repeat' constructor)|refine xN ?_|refine xD ?_|refine xO ?_|(apply Cl.p (jS);focus repeat' constructor))
   all_goals exact PA.lp (j+1,um m k e) xE ⟨⟨lL,lY MN,by simp only;rw [zK,he,Option.toList_some,List.foldl_append,<-hk];rfl⟩,by simp only;omega⟩
  ·have R6:j=(vN c evl).length:=z6
   subst R6
   rw [zL] at hk
   have R8:=TZ k (by have:=MN.1;omega) MN.2
   rw [<-hk]
   repeat'(first|apply Sp.h|refine Lk.r rfl ?_|refine Rf.mk rfl ?_|refine xB ?_|refine yu.r rfl ?_|refine xT ?_|refine Ch.l ⟨rfl,rfl⟩ ?_|refine xV ?_|(apply y4.r;focus repeat' constructor)|refine xN ?_|refine xD ?_|(apply Cl.p (R8);focus repeat' constructor))
   all_goals exact⟨_,_,.one (.same (.z)),rfl,vr,rfl⟩
end Go.Proofs.YtmjllbjfkafhdaaGreatDoor
set_option maxRecDepth 100000
set_option maxHeartbeats 80000000
namespace Go.Proofs.YtmjllbjfkafhdaaGreatDoor
open Go Go.CF
theorem UT(st:List Int)(d:List (Int×Int))(hl:st.length<=1000000)(hd:∀p∈d,0<=p.1/\p.1 < (st.length:Nat)):y6 Tryz.prog 135 [ints st,yO d] (ints (vF st d)):=by
 have hc:=ud st z6
 refine zy.of pg JW Tryz.func135 rfl Tryz.ntmps135 Tryz.results135 rfl λh0 G0 O0=>?_
 repeat'(first|apply Sp.h|refine Lk.r rfl ?_|refine Rf.mk rfl ?_|fail)
 (refine Cl.use (hc) (by repeat'(first|exact y3.nil|apply y3.yB|fail)) .nil rfl ?_;rintro _ _ ⟨_,rfl,rfl⟩)
 repeat'(first|apply Sp.h|refine Lk.r rfl ?_|refine Rf.mk rfl ?_|apply Im.mk|intro _)
 rename_i u _
 refine CA.loop (λi:Nat=>⟨[(5,.ow u),(10,yO d),(11,it (d.length:Nat)),(12,it i)],[yb u 3 1 (vF st (d.take i)) xL]⟩) (λi=>i<=d.length) (λi=>d.length - i) 0 xE (zZ _) ?_
 intro i hi
 have hlen:=sM (d.take i) st
 by_cases qf:i < d.length
 ·obtain⟨p,hp⟩:=zz qf
  obtain⟨p1,p2⟩:=hd p (zM hp)
  obtain⟨z,hz⟩:=zz (l:=vF st (d.take i)) (i:=p.1.toNat) z6
  have hs:=pr (s:=st) hp
  rw [show o3 (vF st (d.take i)) p=(vF st (d.take i)).set p.1.toNat (IntKind.i64.wrap (z+p.2)) by rw [o3,hz];rfl] at hs
  repeat'(first|apply Sp.h|refine Lk.r rfl ?_|refine Rf.mk rfl ?_|refine xA ?_|refine yu.r rfl ?_|apply yc.mk|refine xU ?_|refine xT ?_|refine xI ?_|(apply Ix.r;{exact z8};{exact z6})|refine xJ ?_|refine Ch.l ⟨rfl,rfl⟩ ?_|(apply y4.r;focus repeat' constructor)|refine xN ?_|refine xD ?_|intro _)
  all_goals try exact(by omega:False).elim
  refine⟨?_⟩
  repeat'(first|apply Sp.h|refine Lk.r rfl ?_|refine Rf.mk rfl ?_|refine yu.r rfl ?_|refine xU ?_|(apply Ix.r;{exact z8};{exact z6})|refine xJ ?_|refine xV ?_|refine Up.r rfl ?_|refine xO ?_|fail)
  rw [<-hs]
  exact PA.lp (i+1) xE ⟨qf,z6⟩
 ·have vk:i=d.length:=z6
  subst vk
  rw [zL] at hlen ⊢
  repeat'(first|apply Sp.h|refine Lk.r rfl ?_|refine Rf.mk rfl ?_|refine xB ?_|refine xN ?_|fail)
  exact⟨_,_,.one (.fz z1 z6 (.z)),rfl,rfl⟩
noncomputable def yU(m:y8)(b:yt)(l:List yo)(c:List Int):List Int:=(uP c l).foldl (xY m) b.state
noncomputable def kE(m:y8)(b:yt)(l:List yo)(c:List Int):List xp:=(uP c l).foldl (um m) b.merged
noncomputable def vz(m:y8)(b:yt)(l:List yo)(c:List Int):List (List Int):=(tQ m (kE m b l c)).2
theorem tY{m:y8}(A:List yo) :∀s:List Int,(A.foldl (xY m) s).length=s.length:=by
 induction A with
 | nil=>exact λs=>rfl
 | cons e A ih=>intro s;rw [List.foldl_cons,ih,nH]
theorem fK(m:y8)(b:yt)(l:List yo)(w:yt)(c:List Int)(h:fu b l w)(hm:nR m)(hx:xR m)(wU:m.ops.length<=1000000000)(vL:xl m)(hb:b.state.length=xk m)(rB:∀e∈l,rE m (w.clock.length:Nat) e) :
  yV Tryz.prog 66 [wH m,.ad (sO m b l w) 0,ints c] (.agg [ints (yU m b l c),q8 (w_ m (yU m b l c)),vW (vz m b l c)]):=by
 have kz:=lU m b l w h.bs
 have Bk:=mw m b w l h.ln h.ps
 have hvq:=Xs m (kE m b l c) hm
 have qZ:(yU m b l c).length=xk m:=by rw [yU,tY,hb]
 have ko:=aG m (yU m b l c) hx qZ wU vL
 have eJ:=hm.str
 refine yJ.of pg ED Tryz.func66 rfl Tryz.ntmps66 Tryz.results66 rfl λh0 G0 O0 ga=>?_
 repeat'(first|apply Sp.h|refine Lk.r rfl ?_|refine Rf.mk rfl ?_|refine yu.r rfl ?_|refine Im.mk λ_=>?_|refine yc.mk λ_=>?_|refine xT ?_|(apply y4.r;focus repeat' constructor)|refine xN ?_|refine xD ?_|(apply Cl.p (kz);focus(repeat' constructor);done)|(apply Cl.p (Bk);focus(repeat' constructor);done))
 rename_i b3 b6 b7 _
 refine CA.loop (λi:Nat=>⟨[(2,ints c),(3,pm b3),(6,pm b6),(8,ints ((uP c (l.take i)).foldl (xY m) b.state)),(9,uH ((uP c (l.take i)).foldl (um m) b.merged)),(21,vm l),(22,it (l.length:Nat)),(23,it i)],[yr b3 30 (s_ m),yr b6 121 [tz,tz,tz]]⟩) (λi=>i<=l.length) (λi=>l.length - i) 0 xE (zZ _) ?_
 intro i hi
 by_cases yd:i < l.length
 ·obtain⟨e,he⟩:=zz yd
  have xe:=dZ (c:=c) he
  have nV:=hZ c e
  have hE:=rB e (zM he)
  by_cases hH:x9 c e.rep e.num
  ·rw [if_pos hH] at xe
   have jS:=nG m ((uP c (l.take i)).foldl (um m) b.merged) e hm
   have Gu:(uP c (l.take (i+1))).foldl (xY m) b.state=xY m ((uP c (l.take i)).foldl (xY m) b.state) e:=by rw [xe,List.foldl_append];rfl
   have Bu:(uP c (l.take (i+1))).foldl (um m) b.merged=(yq m ((uP c (l.take i)).foldl (um m) b.merged) e).2:=by rw [xe,List.foldl_append];rfl
   have hSl:((uP c (l.take i)).foldl (xY m) b.state).length=xk m:=by rw [tY,hb]
   generalize (uP c (l.take i)).foldl (xY m) b.state=S at Gu hSl ⊢
   generalize (uP c (l.take i)).foldl (um m) b.merged=K at jS Bu ⊢
   by_cases hk:e.kind=0
   ·have h1:=nq hE.1 hk
    have h2:=hE.2.2 hk
    obtain⟨a,ha⟩:=zz (l:=m.yP) (i:=e.action.toNat) z6
    have MR:=hm.xu a (zM ha)
    have jO:=UT S a.xu.delta z6 (λp hp=>by rw [hSl];exact MR.d p hp)
    rw [xY,if_pos hk,kh ha] at Gu
    repeat'(first|apply Sp.h|refine Lk.r rfl ?_|refine Rf.mk rfl ?_|refine xA ?_|refine Im.mk λ_=>?_|refine yc.mk λ_=>?_|refine xT ?_|refine xI ?_|(apply Ix.r;{exact z8};{exact z6})|refine Ch.l ⟨rfl,rfl⟩ ?_|(apply y4.r;focus repeat' constructor)|refine xN ?_|refine xO ?_|(apply Cl.p (nV);focus(repeat' constructor);done)|(apply Cl.p (jO);focus(repeat' constructor);done)|(apply Cl.p (jS);focus(repeat' constructor);done))
    all_goals try exact(by omega:False).elim
    rw [<-Gu,<-Bu]
    exact PA.lp (i+1) xE ⟨yd,z6⟩
   ·rw [xY,if_neg hk] at Gu
    repeat'(first|apply Sp.h|refine Lk.r rfl ?_|refine Rf.mk rfl ?_|refine xA ?_|refine xB ?_|refine yc.mk λ_=>?_|refine xT ?_|refine xI ?_|refine Ch.l ⟨rfl,rfl⟩ ?_|(apply y4.r;focus repeat' constructor)|refine xN ?_|refine xO ?_|(apply Cl.p (nV);focus(repeat' constructor);done)|(apply Cl.p (jS);focus(repeat' constructor);done))
    all_goals try exact(by omega:False).elim
    rw [<-Gu,<-Bu]
    exact PA.lp (i+1) xE ⟨yd,z6⟩
  ·rw [if_neg hH,List.append_nil] at xe
   rw [<-xe]
   repeat'(first|apply Sp.h|refine Lk.r rfl ?_|refine Rf.mk rfl ?_|refine xA ?_|refine xB ?_|refine yc.mk λ_=>?_|refine xT ?_|refine xI ?_|refine Ch.l ⟨rfl,rfl⟩ ?_|(apply y4.r;focus repeat' constructor)|refine xN ?_|refine xO ?_|(apply Cl.p (nV);focus repeat' constructor))
   exact PA.lp (i+1) xE ⟨yd,z6⟩
 ·have vk:i=l.length:=z6
  subst vk
  rw [zL]
  change CA _ _ _ [(2,ints c),(3,pm b3),(6,pm b6),(8,ints (yU m b l c)),(9,uH (kE m b l c)),(21,vm l),(22,it (l.length:Nat)),(23,it (l.length:Nat))] _
  have hV:(tQ m (kE m b l c)).2=vz m b l c:=rfl
  generalize yU m b l c=S at ko ⊢
  generalize vz m b l c=V at hV ⊢
  repeat'(first|apply Sp.h|refine Lk.r rfl ?_|refine Rf.mk rfl ?_|refine xB ?_|refine xT ?_|refine Ch.l ⟨rfl,rfl⟩ ?_|(apply y4.r;focus repeat' constructor)|(apply Fk.r;focus repeat' first|infer_instance|constructor)|refine xN ?_|(apply Cl.pG (ko);{exact ga};focus(repeat' constructor);done)|(apply Cl.p (hvq);focus(repeat' constructor);done))
  rw [hV]
  exact Fin.p rfl rfl
abbrev qj (S:List Int) (B:List Bool) (V:List (List Int)):List AV:= [ints S,q8 B,vW V]
def wh(S:List Int)(B:List Bool)(V:List (List Int))(q:vA):List Int :=
 if q.1=0 then [S[q.2.toNat]?.getD 0] else if q.1=1 then [if B[q.2.toNat]?.getD false then 1 else 0] else V[q.2.toNat]?.getD []
theorem RV(S:List Int)(B:List Bool)(V:List (List Int))(j:Nat)(x:Int)(hx:S[j]?=some x):tJ Tryz.prog 138 [it j,.ad (qj S B V) 0] 3 1 [x] xL:=by
 refine zy.of pg ye Tryz.func138 rfl Tryz.ntmps138 Tryz.results138 rfl λh0 G0 O0=>?_
 repeat'(first|apply Sp.h|refine Lk.r rfl ?_|refine Rf.mk rfl ?_|apply yc.mk|refine xI ?_|(apply Fk.r;focus repeat' first|infer_instance|constructor)|refine xN ?_|refine Rf.mk ⟨rfl,rfl,rfl⟩ ?_|intro _)
 refine⟨_,_,.one (.same (.nil (lF.cons .here .nil))),_,rfl, ?_⟩
 exact congrArg (λR=> [R]) (pc rfl)
theorem RU(S:List Int)(B:List Bool)(V:List (List Int))(j:Nat)(x:Bool)(hx:B[j]?=some x):tJ Tryz.prog 139 [it j,.ad (qj S B V) 0] 3 1 [if x then 1 else 0] xL:=by
 cases x
 ·refine zy.of pg ye Tryz.func139 rfl Tryz.ntmps139 Tryz.results139 rfl λh0 G0 O0=>?_
  repeat'(first|apply Sp.h|refine Lk.r rfl ?_|refine Rf.mk rfl ?_|apply yc.mk|refine xI ?_|(apply Fk.r;focus repeat' first|infer_instance|constructor)|refine xN ?_|refine Rf.mk ⟨rfl,rfl,rfl⟩ ?_|intro _)
  refine⟨_,_,.one (.same (.nil (lF.cons .here .nil))),_,rfl, ?_⟩
  exact congrArg (λR=> [R]) (pc rfl)
 ·refine zy.of pg ye Tryz.func139 rfl Tryz.ntmps139 Tryz.results139 rfl λh0 G0 O0=>?_
  repeat'(first|apply Sp.h|refine Lk.r rfl ?_|refine Rf.mk rfl ?_|apply yc.mk|refine xI ?_|(apply Fk.r;focus repeat' first|infer_instance|constructor)|refine xN ?_|refine Rf.mk ⟨rfl,rfl,rfl⟩ ?_|intro _)
  refine⟨_,_,.one (.same (.nil (lF.cons .here .nil))),_,rfl, ?_⟩
  exact congrArg (λR=> [R]) (pc rfl)
theorem RT(S:List Int)(B:List Bool)(V:List (List Int))(j:Nat)(x:List Int)(hx:V[j]?=some x)(hl:x.length<=100000):tJ Tryz.prog 140 [it j,.ad (qj S B V) 0] 3 1 x xL:=by
 have hc:=ud x z6
 refine zy.of pg ye Tryz.func140 rfl Tryz.ntmps140 Tryz.results140 rfl λh0 G0 O0=>?_
 repeat'(first|apply Sp.h|refine Lk.r rfl ?_|refine Rf.mk rfl ?_|refine xI ?_|fail)
 (refine Cl.use (hc) (by repeat'(first|exact y3.nil|apply y3.yB|fail)) .nil rfl ?_;rintro _ _ ⟨_,rfl,rfl⟩)
 repeat'(first|apply Sp.h|refine Lk.r rfl ?_|refine xN ?_|fail)
 exact⟨_,_,.one (.same (.z)),_,rfl,rfl⟩
structure ir (S:List Int) (B:List Bool) (V:List (List Int)) (q:vA):Prop where
 c:0<=q.2
 k:q.1=0/\q.2 < (S.length:Nat)∨q.1=1/\q.2 < (B.length:Nat)∨q.1=2/\q.2 < (V.length:Nat)
 l:∀x∈V,x.length<=100000
def BC(S:List Int)(B:List Bool)(V:List (List Int)):List (List AV):= [[.fn 138 [.ad (qj S B V) 0]],[.fn 139 [.ad (qj S B V) 0]],[.fn 140 [.ad (qj S B V) 0]]]
theorem iY(S:List Int)(B:List Bool)(V:List (List Int))(q:vA)(h:ir S B V q):tJ Tryz.prog 67 [.agg (qj S B V),.agg (qk q)] 3 1 (wh S B V q) xL:=by
 obtain⟨k,c⟩:=q
 obtain⟨hc,hk,hl⟩:=h
 simp only at hc hk
 obtain⟨j,rfl⟩:=Int.eq_ofNat_of_zero_le hc
 rcases hk with⟨rfl,hk⟩|⟨rfl,hk⟩|⟨rfl,hk⟩
 ·obtain⟨x,hx⟩:=zz (l:=S) (i:=j) z6
  have hv:=RV S B V j x hx
  rw [show wh S B V (0,(j:Int))= [x] by simp [wh,hx]]
  have hq:(BC S B V)[0]?=some [.fn 138 [.ad (qj S B V) 0]]:=rfl
  refine zy.of pg VE Tryz.func67 rfl Tryz.ntmps67 Tryz.results67 rfl λh0 G0 O0=>?_
  (repeat'(first|(show CA _ _ (Code.region 1 _ _) _ _;apply z_.out)|apply Sp.h|refine Lk.r rfl ?_|refine Rf.mk rfl ?_|apply yc.mk|intro _));any_goals apply z_.mk
  refine CA.xt 2 rfl z1 ?_
  repeat'(first|apply Sp.h|refine Lk.r rfl ?_|refine Rf.mk rfl ?_|refine yu.r rfl ?_|apply yc.mk|refine xU ?_|refine xT ?_|refine xI ?_|refine xJ ?_|(apply Fk.r;focus repeat' first|infer_instance|constructor)|refine Rf.mk ⟨rfl,rfl,rfl⟩ ?_|refine xD ?_|intro _)
  (refine Cl.use (hv) (by repeat'(first|exact y3.nil|apply y3.yB|fail)) .nil rfl ?_;rintro _ _ ⟨_,rfl,rfl⟩)
  repeat'(first|apply Sp.h|refine Lk.r rfl ?_|refine yu.r rfl ?_|refine xN ?_|fail)
  exact⟨_,_,.one (.same (.z)),_,rfl,rfl⟩
 ·obtain⟨x,hx⟩:=zz (l:=B) (i:=j) z6
  have hv:=RU S B V j x hx
  rw [show wh S B V (1,(j:Int))= [if x then 1 else 0] by simp [wh,hx]]
  have hq:(BC S B V)[1]?=some [.fn 139 [.ad (qj S B V) 0]]:=rfl
  refine zy.of pg VE Tryz.func67 rfl Tryz.ntmps67 Tryz.results67 rfl λh0 G0 O0=>?_
  (repeat'(first|(show CA _ _ (Code.region 1 _ _) _ _;apply z_.out)|apply Sp.h|refine Lk.r rfl ?_|refine Rf.mk rfl ?_|apply yc.mk|intro _));any_goals apply z_.mk
  refine CA.xt 2 rfl z1 ?_
  repeat'(first|apply Sp.h|refine Lk.r rfl ?_|refine Rf.mk rfl ?_|refine yu.r rfl ?_|apply yc.mk|refine xU ?_|refine xT ?_|refine xI ?_|refine xJ ?_|(apply Fk.r;focus repeat' first|infer_instance|constructor)|refine Rf.mk ⟨rfl,rfl,rfl⟩ ?_|refine xD ?_|intro _)
  (refine Cl.use (hv) (by repeat'(first|exact y3.nil|apply y3.yB|fail)) .nil rfl ?_;rintro _ _ ⟨_,rfl,rfl⟩)
  repeat'(first|apply Sp.h|refine Lk.r rfl ?_|refine yu.r rfl ?_|refine xN ?_|fail)
  exact⟨_,_,.one (.same (.z)),_,rfl,rfl⟩
 ·obtain⟨x,hx⟩:=zz (l:=V) (i:=j) z6
  have hv:=RT S B V j x hx (hl x (zM hx))
  rw [show wh S B V (2,(j:Int))=x by simp [wh,hx]]
  have hq:(BC S B V)[2]?=some [.fn 140 [.ad (qj S B V) 0]]:=rfl
  refine zy.of pg VE Tryz.func67 rfl Tryz.ntmps67 Tryz.results67 rfl λh0 G0 O0=>?_
  (repeat'(first|(show CA _ _ (Code.region 1 _ _) _ _;apply z_.out)|apply Sp.h|refine Lk.r rfl ?_|refine Rf.mk rfl ?_|apply yc.mk|intro _));any_goals apply z_.mk
  refine CA.xt 2 rfl z1 ?_
  repeat'(first|apply Sp.h|refine Lk.r rfl ?_|refine Rf.mk rfl ?_|refine yu.r rfl ?_|apply yc.mk|refine xU ?_|refine xT ?_|refine xI ?_|refine xJ ?_|(apply Fk.r;focus repeat' first|infer_instance|constructor)|refine Rf.mk ⟨rfl,rfl,rfl⟩ ?_|refine xD ?_|intro _)
  (refine Cl.use (hv) (by repeat'(first|exact y3.nil|apply y3.yB|fail)) .nil rfl ?_;rintro _ _ ⟨_,rfl,rfl⟩)
  repeat'(first|apply Sp.h|refine Lk.r rfl ?_|refine yu.r rfl ?_|refine xN ?_|fail)
  exact⟨_,_,.one (.same (.z)),_,rfl,rfl⟩
/-! ### The model -/
def tC:ym:=⟨⟨#[99]⟩,1,[],0,9,0⟩
def wG:y8:=⟨[],[tC],[⟨#[99]⟩],[⟨0,0,⟨[(0,-1)],0⟩,0,0⟩,⟨0,0,⟨[(0,1)],9⟩,0,0⟩],[⟨⟨#[111]⟩,false,[]⟩,⟨⟨#[112]⟩,false,[]⟩],[⟨0,[],⟨[(0,2)],[],[]⟩⟩,⟨1,[],⟨[(0,-1)],[],[]⟩⟩],[]⟩
theorem fU:yw wG= []:=by simp [yw,tM,wG,yi,tC]
theorem fT:xk wG=1:=by simp [xk,sN,wG,yi,jM,wD,tC]
theorem Yv:xS wG.y9 wG.tables:=by
 refine⟨by simp [wG],λx hx=>by simp [wG] at hx,by simp [wG],λt ht=>?_⟩
 simp only [wG,List.mem_cons,List.not_mem_nil,or_false] at ht
 subst ht
 simp [VT,uO,Sound,wG,tC]
theorem Ut:nR wG:=by
 refine⟨Yv,by simp [wG],by simp [wG],λa ha=>?_,by rw [fT];decide,by rw [fU];decide⟩
 simp only [wG,List.mem_cons,List.not_mem_nil,or_false] at ha
 rcases ha with rfl|rfl
 all_goals
  refine⟨by simp,by simp,by simp,λp hp=>?_,λp hp=>by simp at hp⟩
  simp only [List.mem_cons,List.not_mem_nil,or_false] at hp
  subst hp
  rw [fT];decide
/-! ### Two events -/
def ca:yo:=⟨0,1,1,[0,0],0,0,0,0,0,0,0,0,1⟩
def cb:yo:=⟨1,1,1,[0,0],0,1,0,0,0,0,0,0,1⟩
theorem gW(a b:Int)(ha:0<=a/\a<=1024)(hb:0<=b/\b<=1024):vY [a,b]:=⟨λx hx=>by
 simp only [List.mem_cons,List.not_mem_nil,or_false] at hx
 unfold tg
 omega,by simp,by simp⟩
theorem Lz:we ca:=⟨gW 0 0 zf zf,by decide,⟨0,rfl,rfl⟩,by decide,by unfold pV ca;decide,.inl ⟨rfl,by unfold kO pV ca;decide,by unfold fc ca;decide⟩⟩
theorem Ly:we cb:=⟨gW 0 0 zf zf,by decide,⟨0,rfl,rfl⟩,by decide,by unfold pV cb;decide,.inl ⟨rfl,by unfold kO pV cb;decide,by unfold fc cb;decide⟩⟩
theorem jq:dt wG [3] [ca,cb]:=by
 have hc:ta [ca,cb]:=by
  refine⟨by simp,λi j a b hi hj pz=>?_,λe he=>?_,λe he r n hr i h1 h2=>?_⟩
  ·match i,j with
   | 0,0=>rfl
   | 1,1=>rfl
   | 0,1=>simp at hi hj;subst hi;subst hj;simp [nm,ca,cb] at pz
   | 1,0=>simp at hi hj;subst hi;subst hj;simp [nm,ca,cb] at pz
   | i+2,_=>simp at hi
   | 0,j+2=>simp at hj
   | 1,j+2=>simp at hj
  ·simp only [List.mem_cons,List.not_mem_nil,or_false] at he
   rcases he with rfl|rfl
   ·exact⟨Lz,rfl⟩
   ·exact⟨Ly,rfl⟩
  ·exfalso
   simp only [List.mem_cons,List.not_mem_nil,or_false] at he
   have hn:n=0:=by
    rcases he with rfl|rfl
    all_goals
     have:=zM hr
     simp [ca,cb] at this
     exact this
   omega
 refine⟨⟨Ut,⟨by simp,λe he=>?_⟩,hc,λa ha u hu i t _ ht=>?_,λe he=>?_⟩,by simp,by rw [fT];rfl,by simp,λa ha p hp=>?_⟩
 ·simp only [List.mem_cons,List.not_mem_nil,or_false] at he
  rcases he with rfl|rfl <;> simp [ca,cb]
 ·rw [fU] at ht;simp at ht
 ·simp only [List.mem_cons,List.not_mem_nil,or_false] at he
  rcases he with rfl|rfl
  ·exact⟨Lz,rfl,λ_=>by decide⟩
  ·exact⟨Ly,rfl,λ_=>by decide⟩
 ·simp only [wG,List.mem_cons,List.not_mem_nil,or_false] at ha
  rcases ha with rfl|rfl <;> (simp at hp;subst hp;decide)
theorem YE:RP [ca,cb] [ca,cb]:=by
 have yD:∀e,e=ca∨e=cb->∀d:yo,¬x9 e.yj d.rep d.num:=λe he d ⟨_,_,h1,x,hx,h2⟩=>by
  have h3:e.yj= [0,0]:=by rcases he with rfl|rfl <;> rfl
  rw [h3] at hx
  have:=zM hx
  simp at this
  omega
 refine⟨λe he=>he,λi e he=>⟨?_,λd hd hh=>absurd hh (yD e (by have:=zM he;simpa using this) d)⟩⟩
 match i with
 | 0=>simp
 | 1=>simp at he;subst he;simp [ca,cb]
 | i+2=>simp at he
theorem Du:yA wG [] (y_ wG 2 [3] []) ca=(0,y_ wG 2 [3] [ca]):=(cc jq zd YE 0 zd).2 ca rfl
theorem Dt:yA wG [ca] (y_ wG 2 [3] [ca]) cb=(0,y_ wG 2 [3] [ca,cb]):=(cc jq zd YE 1 zd).2 cb rfl
theorem U2:(y_ wG 2 [3] [ca,cb]).clock= [1,1]/\(y_ wG 2 [3] [ca,cb]).state= [4]:=by
 exact⟨rfl,rfl⟩
theorem Mr(x y:Int)(hx:0<=x/\x<=1024)(hy:0<=y/\y<=1024):(x9 [x,y] 0 1↔1<=x)/\(x9 [x,y] 1 1↔1<=y) :=
 ⟨⟨λ⟨_,_,_,z,h1,h2⟩=>by simp at h1;omega,λh=>⟨gW x y hx hy,by decide,by decide,x,rfl,h⟩⟩,⟨λ⟨_,_,_,z,h1,h2⟩=>by simp at h1;omega,λh=>⟨gW x y hx hy,by decide,by decide,y,rfl,h⟩⟩⟩
theorem ZJ{a b c d:Int}(h1:a<=c)(h2:b<=d):Ins [a,b] [c,d]:=λi x y hx hy=>by
 match i with
 | 0=>simp at hx hy;omega
 | 1=>simp at hx hy;omega
 | i+2=>simp at hx
theorem Ds :∃B N,xi wG ⟨y_ wG 2 [3] [],[ca,cb],y_ wG 2 [3] [ca,cb]⟩ [1,0]=(0,⟨B,[cb],N⟩)/\B.state= [5]/\eC B/\N.clock= [1,1]:=by
 have hb:(y_ wG 2 [3] []).clock= [0,0]:=rfl
 obtain⟨h1,h2⟩:=Mr 1 0 zf zf
 have e1:uP [1,0] [ca,cb]= [ca]:=by
  have a1:x9 [1,0] ca.rep ca.num:=h1.2 zf
  have a2:¬x9 [1,0] cb.rep cb.num:=λh=>absurd (h2.1 h) zf
  simp [uP,a1,a2]
 have e2:vN [1,0] [ca,cb]= [cb]:=by
  have a1:x9 [1,0] ca.rep ca.num:=h1.2 zf
  have a2:¬x9 [1,0] cb.rep cb.num:=λh=>absurd (h2.1 h) zf
  simp [vN,a1,a2]
 refine⟨qo wG (y_ wG 2 [3] []) [1,0] [ca,cb],{ y_ wG 2 [3] [ca,cb] with merged:= [cb].foldl (um wG) (qo wG (y_ wG 2 [3] []) [1,0] [ca,cb]).merged }, ?_, ?_, ?_,U2.1⟩
 ·have q1:vY [1,0]/\([1,0]:List Int).length=(y_ wG 2 [3] [ca,cb]).clock.length:=⟨gW 1 0 zf zf,rfl⟩
  have q2:Ins (y_ wG 2 [3] []).clock [1,0]/\Ins [1,0] (y_ wG 2 [3] [ca,cb]).clock/\∀e∈ [ca,cb],x9 [1,0] e.rep e.num->Ins e.yj [1,0]:=by
   refine⟨by rw [hb];exact ZJ zf zf,by rw [U2.1];exact ZJ zf zf,λe he _=>?_⟩
   simp only [List.mem_cons,List.not_mem_nil,or_false] at he
   rcases he with rfl|rfl <;> exact ZJ zf zf
  refine(@if_neg _ (zC _) (λh9=>h9 q1) _ _ _).trans ((@if_neg _ (zC _) (λh9=>h9 q2) _ _ _).trans ?_)
  simp only [e2]
 ·rw [qo,e1];rfl
 ·rw [qo,e1]
  have u4:Re (um wG (y_ wG 2 [3] []).merged ca):=lY (by
   simp only [y_,List.foldl_nil,fU]
   exact⟨by simp,by simp⟩)
  exact⟨by simp,by simp only [List.foldl_cons,List.foldl_nil,qp,nH];simp [y_],u4.1,u4.2,by simp only [List.foldl_cons,List.foldl_nil,qp];simp [y_,lv,ca]⟩
theorem Q4(X:List yo)(hX:∀e∈X,e∈ [ca,cb])(hl:X.length<=1000):iS wG (y_ wG 2 [3] X):=J7 jq hX hl
theorem Z1{m:y8}{l:List yo}{i:Nat}{e:yo}(h:l[i]?=some e)(s:List Int):(l.take (i+1)).foldl (xY m) s=xY m ((l.take i).foldl (xY m) s) e:=by
 rw [zK,h,Option.toList_some,List.foldl_append];rfl
theorem Z4(p:yo->Bool) :∀l:List yo,(l.filter p).length+(l.filter λe=> !p e).length=l.length:=by
 intro l
 induction l with
 | nil=>rfl
 | cons e l ih=>by_cases h:p e <;> simp [h] <;> omega
theorem UN{m:y8}{k:List xp}(h:Re k) :∀X:List yo,Re (X.foldl (um m) k):=by
 intro X
 induction X generalizing k with
 | nil=>exact h
 | cons e X ih=>rw [List.foldl_cons];exact ih (lY h)
theorem Y0{m:y8}(hm:nR m)(n:Nat)(ld:List Int)(X:List yo):Re (y_ m n ld X).merged:=by
 refine UN ⟨by rw [zR];have:=hm.Sq;omega,λg hg=>?_⟩ X
 rw [(List.mem_replicate.1 hg).2];exact zZ _
structure kD where
 c:List Int
 w:Value
def bY(x:kD):List AV:= [.ow x.w]
abbrev bX (x:kD):yh:=yb x.w 3 1 x.c xL
def eQ(v:Value)(L:List kD):List yh:= [yb v 22 1 L bY,u9 (L.map bX)]
theorem TF{v:Value}{L:List kD} :∀R∈eQ v L,vS R:=λR hR=>by
 rcases List.mem_cons.1 hR with rfl|hR
 ·exact vS.arr λx _=> .cons (.ow _) .nil
 ·rw [zH.1 hR]
  refine vS.HH λR hR=>?_
  obtain⟨x,_,rfl⟩:=List.mem_map.1 hR
  exact gC
theorem P5{l:List Int} :∀(r:AV) (own:List yh),(∃u,r= .ow u/\own= [yb u 3 1 l xL])->s7 r/\∀R∈own,vS R:=by
 rintro _ _ ⟨u,rfl,rfl⟩
 exact⟨s7.ow _,λR hR=>by rw [zH.1 hR];exact gC⟩
def L4(code:Int)(rows:List (List Int))(r:AV)(own:List yh):Prop :=
 (code≠0/\r= .yE [tz,it code]/\own= [])∨(code=0/\∃v L,r= .yE [.ow v,it 0]/\own=eQ v L/\L.map kD.c=rows)
noncomputable def cX(m:y8)(b:yt)(l:List yo)(w:yt)(c:List Int)(qs:List vA):Int:=if sE m qs then wu b.clock l w.clock c else 1
noncomputable def r6(m:y8)(b:yt)(l:List yo)(c:List Int)(qs:List vA):List (List Int):=qs.map (wh (yU m b l c) (w_ m (yU m b l c)) (vz m b l c))
structure oU (m:y8) (b:yt) (l:List yo) (c:List Int):Prop where
 n:(vz m b l c).length=(yw m).length
 r:∀x∈vz m b l c,x.length<=100000
theorem dN{m:y8}(hm:xS m.y9 m.tables):((yw m).length:Int)=xZ m.y9 false m.tables:=by
 have key:∀l:List ym,(∀t∈l,t∈m.tables)->((tM m l).length:Int)=xZ m.y9 false l:=by
  intro l
  induction l with
  | nil=>intro _;rfl
  | cons t l ih =>
   intro h
   have ih:=ih λt ht=>h t (by simp [ht])
   have hc:=(hm.2.2.2 t (h t zd)).1
   have h1:=(sX hc).1
   unfold tM xZ at ih ⊢
   simp only [List.map_cons,List.sum_cons,List.flatMap_cons,zP]
   rw [<-ih]
   by_cases hs:yi t.kind
   ·rw [if_pos hs,if_neg (by simp [hs])];simp
   ·rw [if_neg hs,if_pos (by simp [hs]),wF,if_pos hc,zR];omega
 exact key m.tables λ_ h=>h
theorem VC{m:y8}(hx:xR m):(wB m true).length=xk m:=by
 rw [wB,if_pos hx];exact qK hx.lay
theorem M5{m:y8}(hx:xR m):(wB m false).length=(yw m).length:=by
 have h1:=dN hx.lay.ok
 have h2:=qM m.y9 false m.tables
 rw [wB,if_pos hx,sr,if_pos hx.lay];omega
theorem ZV{m:y8}{b:yt}{l:List yo}{c:List Int}(hx:xR m)(hb:b.state.length=xk m)(hs:oU m b l c){q:vA}(hq:t_ (wB m true).length (wB m false).length q):ir (yU m b l c) (w_ m (yU m b l c)) (vz m b l c) q:=by
 obtain⟨h1,h2⟩:=hq
 rw [VC hx,M5 hx] at h2
 have qZ:(yU m b l c).length=xk m:=by rw [yU,tY,hb]
 have PS:(w_ m (yU m b l c)).length=xk m:=by simp [w_,qZ]
 refine⟨h1, ?_,hs.r⟩
 unfold qE at h2
 rw [qZ,PS,hs.n]
 by_cases h0:q.1=0∨q.1=1
 ·rw [if_pos h0] at h2
  rcases h0 with h0|h0
  ·exact .inl ⟨h0,h2⟩
  ·exact .inr (.inl ⟨h0,h2⟩)
 ·rw [if_neg h0] at h2
  by_cases h3:q.1=2
  ·rw [if_pos h3] at h2
   exact .inr (.inr ⟨h3,h2⟩)
  ·rw [if_neg h3] at h2;omega
theorem Y3(m:y8)(b:yt)(l:List yo)(w:yt)(c:List Int)(qs:List vA)(h:fu b l w)(hm:nR m)(vL:xl m)(hb:b.state.length=xk m)(rB:∀e∈l,rE m (w.clock.length:Nat) e)(SB:xR m->oU m b l c)(gP:qs.length<=1000000) :
  yJ Tryz.prog 16 [wH m,.ad (sO m b l w) 0,ints c,uI qs] [] (L4 (cX m b l w c qs) (r6 m b l c qs)):=by
 have wU:m.ops.length<=1000000000:=by have:=hm.ops;omega
 have hv:=nv m qs wU vL
 have lz:=rh m b l w c h
 by_cases hq:sE m qs
 rotate_left
 ·rw [cX,if_neg hq]
  rw [zF hq] at hv
  refine yJ.of pg ye Tryz.func16 rfl Tryz.ntmps16 Tryz.results16 rfl λh0 G0 O0 ga=>?_
  repeat'(first|apply Sp.h|refine Lk.r rfl ?_|refine Rf.mk rfl ?_|refine xB ?_|refine yc.mk λ_=>?_|refine xT ?_|refine Ch.l ⟨rfl,rfl⟩ ?_|refine xN ?_|(apply Cl.pG (hv);{exact ga};focus(repeat' constructor);done))
  exact⟨_,_,.yE (.same (.same (.z))),.inl ⟨by decide,rfl,rfl⟩⟩
 rw [cX,if_pos hq]
 rw [zT hq] at hv
 by_cases bJ:wu b.clock l w.clock c=0
 rotate_left
 ·refine yJ.of pg ye Tryz.func16 rfl Tryz.ntmps16 Tryz.results16 rfl λh0 G0 O0 ga=>?_
  repeat'(first|apply Sp.h|refine Lk.r rfl ?_|refine Rf.mk rfl ?_|refine xA ?_|refine xB ?_|refine yc.mk λ_=>?_|refine xT ?_|refine Ch.l ⟨rfl,rfl⟩ ?_|refine xN ?_|(apply Cl.pG (hv);{exact ga};focus(repeat' constructor);done)|(apply Cl.p (lz);focus(repeat' constructor);done))
  ·exact⟨_,_,.yE (.same (.same (.z))),.inl ⟨bJ,rfl,rfl⟩⟩
  all_goals exact absurd z6 bJ
 have S_:=fK m b l w c h hm hq.1 wU vL hb rB
 have SB:=SB hq.1
 have YI:=λq (G8:q∈qs)=>ZV hq.1 hb SB (hq.2 q G8)
 rw [bJ] at lz ⊢
 unfold r6
 generalize yU m b l c=S at S_ YI ⊢
 generalize vz m b l c=V at S_ YI ⊢
 generalize w_ m S=B at S_ YI ⊢
 refine yJ.of pg ye Tryz.func16 rfl Tryz.ntmps16 Tryz.results16 rfl λh0 G0 O0 ga=>?_
 repeat'(first|apply Sp.h|refine Lk.r rfl ?_|refine Rf.mk rfl ?_|refine xA ?_|refine yc.mk λ_=>?_|refine xT ?_|refine Ch.l ⟨rfl,rfl⟩ ?_|(apply Cl.pG (hv);{exact ga};focus(repeat' constructor);done)|(apply Cl.p (lz);focus(repeat' constructor);done))
 all_goals try exact(by omega:False).elim
 repeat'(first|apply Sp.h|refine Lk.r rfl ?_|refine Rf.mk rfl ?_|refine Im.mk λ_=>?_|refine yc.mk λ_=>?_|refine xT ?_|(apply y4.r;focus repeat' constructor)|refine xN ?_|(apply Cl.pG (S_);{exact ga};focus(repeat' constructor);done))
 rename_i b11 _
 refine CA.uV 12 22 1 bY rfl λv=>?_
 apply CA.o9 bX
 refine CA.loop (λz:Nat×Value×List kD=>⟨[(11,pm b11),(12,.ow z.2.1),(29,uI qs),(30,it (qs.length:Nat)),(31,it z.1)],[yr b11 121 (qj S B V),yb z.2.1 22 1 z.2.2 bY,u9 (z.2.2.map bX)]⟩)
  (λz=>z.1<=qs.length/\z.2.2.map kD.c=(qs.take z.1).map (wh S B V)) (λz=>qs.length - z.1) (0,v,[]) xE ⟨zZ _,rfl⟩ ?_
 rintro⟨i,u,L⟩ ⟨hi,hL⟩
 simp only at hi hL
 simp only
 by_cases yd:i < qs.length
 ·obtain⟨q,PW⟩:=zz yd
  have SL:L.length=i:=by have:=congrArg List.length hL;simp at this;omega
  have qx:=iY S B V q (YI q (zM PW))
  have xe:(qs.take (i+1)).map (wh S B V)=(qs.take i).map (wh S B V) ++ [wh S B V q]:=by rw [zK,PW];simp
  repeat'(first|apply Sp.h|refine Lk.r rfl ?_|refine Rf.mk rfl ?_|refine xA ?_|apply yc.mk|refine xT ?_|refine xI ?_|refine Ch.l ⟨rfl,rfl⟩ ?_|(apply y4.r;focus repeat' constructor)|refine xN ?_|intro _)
  (refine Cl.use (qx) (by repeat'(first|exact y3.nil|apply y3.yB|fail)) .nil rfl ?_;rintro _ _ ⟨_,rfl,rfl⟩)
  rename_i x
  have inv:Inv bY [.ow x] ⟨wh S B V q,x⟩:=⟨rfl⟩
  (repeat'(first|(show CA _ _ (Code.region 12 _ _) _ _;apply z_.out)|apply Sp.h|refine Lk.r rfl ?_|refine Rf.mk rfl ?_|refine xP ?_|apply yc.mk|refine xU ?_|refine Ce.r ?_|(apply Fk.r;focus repeat' first|infer_instance|constructor)|refine Rf.mk ⟨rfl,rfl⟩ ?_|refine Rf.mk ⟨rfl,rfl,rfl⟩ ?_|(apply Mp.lit;(focus repeat(first|exact yK.nil|(apply yK.cons;{exact zu})|(apply yK.inv;{exact z1};{exact zh}))))|intro _));any_goals apply z_.mk
  apply CA.tU (l:=L) (g:=bX) (x:=⟨wh S B V q,x⟩)
  focus(repeat constructor)
  focus(repeat constructor)
  repeat'(first|apply Sp.h|refine Lk.r rfl ?_|refine Rf.mk rfl ?_|refine xO ?_|fail)
  exact PA.lp (i+1,_,L ++ [⟨wh S B V q,x⟩]) xE ⟨⟨yd,by simp only;rw [List.map_append,hL,xe];rfl⟩,by simp only;omega⟩
 ·have:i=qs.length:=z6
  subst this
  rw [zL] at hL
  repeat'(first|apply Sp.h|refine Lk.r rfl ?_|refine Rf.mk rfl ?_|refine xB ?_|refine xN ?_|fail)
  exact⟨_,_,.yE (.same (.same (.z))),.inr ⟨rfl,u,L,rfl,rfl,hL⟩⟩
end Go.Proofs.YtmjllbjfkafhdaaGreatDoor
namespace Go.CF
open Go
theorem Cl.Ui{Γ:Cx}{c:xa}{o:List yh}{f:FuncId}{yM tK:List AV}{K:AV->List yh->Prop}{M:AV->List yh->Prop}(hc:yJ Γ.P f tK [] K)(ga:eZ Γ.P Γ.h0 Γ.G0 Γ.O0)(hl:y3 o yM tK)(hK:∀r own,K r own->s7 r/\∀R∈own,vS R)(hm:∀r own,K r own->M r (own ++ o)):Cl Γ c f yM o M:=by
 refine⟨λ{h G Os vs} hp hr=>?_⟩
 have yd:yF h (λb=>G b∨U Os b) (U []) [] h (λb=>G b∨U Os b) [] :=
  ⟨trivial,λb hb=>⟨hb.elim (λh9=>(hp.g b h9).1) (λ⟨O,hO,h9⟩=>(hp.o O hO b h9).1),.inl hb⟩,λ_ h=>h,λO hO=>(by cases hO),List.Pairwise.nil,uo.refl h⟩
 refine(hc.run h _ [] vs (hl.rep hp.own hr) yd ((ga _ _ _ _ hp).mono (uo.refl h) λ_=> .inl)).mono λv h' ⟨r',wE,G',yz,hk,g3,g4⟩=>?_
 obtain⟨f1,f2⟩:=hK _ _ hk
 have yL:tc ([]:List Nat) h h':=⟨g4.fp.size,λb hb _=>g4.fp.same b (λ⟨O,hO,_⟩=>by cases hO) hb⟩
 have hx:∀S,uo S h h':=λS=>⟨yL.size,λb _ hb=>yL.same b hb zd⟩
 have hs:=hp.fp.size
 have px:=yL.size
 have vV:∀O∈yz,∀b,O b->h.size<=b:=λO hO b hb=>by
  rcases(g4.o O hO b hb).2.1 with⟨O2,Bs,_⟩|h9
  ·cases Bs
  ·exact h9
 refine⟨.inr yL,r',wE ++ o,G,yz ++ Os,hm _ _ hk,f1.h g3,⟨(vS.own f2 g4.own).app (xy.wm (λO _=>hx _) hp.own),λb hb=>⟨by have:=(hp.g b hb).1;omega,(hp.g b hb).2.imp id λq=>⟨q.1,q.2.eq (yL.same b (hp.g b hb).1 zd)⟩⟩,hp.g0,λO hO b hb=>?_,List.pairwise_append.2 ⟨g4.d,hp.d,λA hA B hB b ha hb=>?_⟩,⟨z6,λb hb hl=>?_⟩⟩,hx G,λ_ h=>h⟩
 ·rcases zV.1 hO with hO|hO
  ·have:=vV O hO b hb
   exact⟨(g4.o O hO b hb).1,.inr z6,λhg=>by have:=(hp.g b hg).1;omega⟩
  ·exact⟨by have:=(hp.o O hO b hb).1;omega,(hp.o O hO b hb).2⟩
 ·have:=vV A hA b ha
  have:=(hp.o B hB b hb).1
  omega
 ·rw [yL.same b z6 zd]
  exact hp.fp.same b hb hl
end Go.CF
namespace Go.Proofs.YtmjllbjfkafhdaaGreatDoor
open Go Go.CF
def NwK(code:Int)(rows:List (List Int))(wc:List Int)(r:AV)(own:List yh):Prop :=
 (code≠0/\r= .yE [tz,tz,it code]/\own= [])∨(code=0/\∃v L u,r= .yE [.ow v,.ow u,it 0]/\own=eQ v L ++ [yb u 3 1 wc xL]/\L.map kD.c=rows)
theorem Yr{code:Int}{rows:List (List Int)} :∀(r:AV) (own:List yh),L4 code rows r own->s7 r/\∀R∈own,vS R:=by
 rintro r own (⟨_,rfl,rfl⟩|⟨_,v,L,rfl,rfl,_⟩)
 ·exact⟨s7.yE (.cons (.val _) (.cons (.val _) .nil)),λR hR=>by cases hR⟩
 ·exact⟨s7.yE (.cons (.ow _) (.cons (.val _) .nil)),TF⟩
theorem av{v:Value}{L:List kD}(hl:L.length<=1000000)(hm:∀x∈L,x.c.length<=1000000){l l':List AV}{o own:List yh}(ht:FX o l l' own):FX (eQ v L ++ o) (.ow v :: l) (vW (L.map kD.c) :: l') own:=by
 refine .sl .here z6 (.PJ .here ?_) ht
 refine FX.rows (o:=o) (r:=bX) (f:=bY) (g:=kI) (φ:=kD.c) L λx hx o'=>?_
 have:=hm x hx
 exact .sl .here z6 (FX.refl _) (FX.refl _)
theorem J9(m:y8)(b:yt)(l:List yo)(w:yt)(qs:List vA)(h:fu b l w)(hm:nR m)(vL:xl m)(hb:b.state.length=xk m)(rB:∀e∈l,rE m (w.clock.length:Nat) e)(SB:xR m->oU m b l w.clock)(gP:qs.length<=1000000) :
  yJ Tryz.prog 18 [wH m,.ad (sO m b l w) 0,uI qs] [] (NwK (cX m b l w w.clock qs) (r6 m b l w.clock qs) w.clock):=by
 have wU:m.ops.length<=1000000000:=by have:=hm.ops;omega
 have hv:=nv m qs wU vL
 have ue:=dH m b w l h.ck
 have YN:=Y3 m b l w w.clock qs h hm vL hb rB SB gP
 have z4s:=h.ck
 by_cases hq:sE m qs
 rotate_left
 ·rw [cX,if_neg hq]
  rw [zF hq] at hv
  refine yJ.of pg ye Tryz.func18 rfl Tryz.ntmps18 Tryz.results18 rfl λh0 G0 O0 ga=>?_
  repeat'(first|apply Sp.h|refine Lk.r rfl ?_|refine Rf.mk rfl ?_|refine xB ?_|refine yc.mk λ_=>?_|refine xT ?_|refine Ch.l ⟨rfl,rfl⟩ ?_|refine xN ?_|(apply Cl.pG (hv);{exact ga};focus(repeat' constructor);done))
  exact⟨_,_,.yE (.same (.same (.same (.z)))),.inl ⟨by decide,rfl,rfl⟩⟩
 rw [zT hq] at hv
 generalize r6 m b l w.clock qs=rows at YN ⊢
 generalize cX m b l w w.clock qs=code at YN ⊢
 refine yJ.of pg ye Tryz.func18 rfl Tryz.ntmps18 Tryz.results18 rfl λh0 G0 O0 ga=>?_
 repeat'(first|apply Sp.h|refine Lk.r rfl ?_|refine Rf.mk rfl ?_|refine xA ?_|refine yc.mk λ_=>?_|refine xT ?_|refine Ch.l ⟨rfl,rfl⟩ ?_|(apply Cl.pG (hv);{exact ga};focus(repeat' constructor);done))
 all_goals try exact(by assumption:False).elim
 (refine Cl.use (ue) (by repeat'(first|exact y3.nil|apply y3.yB|fail)) .nil rfl ?_;rintro _ _ ⟨_,rfl,rfl⟩)
 repeat'(first|apply Sp.h|refine Lk.r rfl ?_|refine Rf.mk rfl ?_|refine xT ?_|refine Ch.l ⟨rfl,rfl⟩ ?_|fail)
 refine Cl.Ui YN ga (by repeat'(first|exact y3.nil|apply y3.yB|(apply y3.yY;{exact z1};{exact zc})|fail)) Yr ?_
 rintro _ _ (⟨vB,rfl,rfl⟩|⟨rfl,v,L,rfl,rfl,hL⟩)
 ·repeat'(first|apply Sp.h|refine Lk.r rfl ?_|refine Rf.mk rfl ?_|refine xB ?_|refine xN ?_|fail)
  ·exact⟨_,_,.yE (.same (.same (.same (.z)))),.inl ⟨vB,rfl,rfl⟩⟩
  all_goals exact absurd z6 vB
 ·repeat'(first|apply Sp.h|refine Lk.r rfl ?_|refine Rf.mk rfl ?_|refine xA ?_|refine xN ?_|fail)
  all_goals try exact(by omega:False).elim
  exact⟨_,_,.yE (.same (.same (.same (.z)))),.inr ⟨rfl,v,L,_,rfl,rfl,hL⟩⟩
structure iw where
 m:y8
 b:yt
 l:List yo
 w:yt
def H9:Option iw->List AV
 | none=> [.val (.pointer none)]
 | some s=> [.ad (sO s.m s.b s.l s.w) 0]
instance:Inhabited iw:=⟨⟨⟨[],[],[],[],[],[],[]⟩,⟨[],0,[],[],[]⟩,[],⟨[],0,[],[],[]⟩⟩⟩
def vp(L:List (Option iw)):List (List Int):=L.map λs=>(s.getD default).w.clock
def aA(L:List (Option iw))(c:List Int):Prop:=∃s,some s∈L/\¬tO c s.b.clock
noncomputable instance (L:List (Option iw)) (c:List Int):Decidable (aA L c):=zC _
noncomputable instance (L:List (Option iw)):Decidable (none∈L∨¬w9 (vp L)):=zC _
noncomputable def fq(L:List (Option iw)):Int :=
 if none∈L∨¬w9 (vp L) then 1 else if aA L (pL min (vp L)) then 7 else 0
def z0x(code:Int)(c:List Int)(r:AV)(own:List yh):Prop :=
 (code≠0/\r= .yE [tz,it code]/\own= [])∨(code=0/\∃u,r= .yE [.ow u,it 0]/\own= [yb u 3 1 c xL])
theorem XK(L:List (Option iw))(hL:L.length<=1000000)(h:∀s,some s∈L->fu s.b s.l s.w):zy Tryz.prog 39 [.sl 1 L H9] [] (z0x (fq L) (pL min (vp L))):=by
 refine zy.of pg ye Tryz.func39 rfl Tryz.ntmps39 Tryz.results39 rfl λh0 G0 O0=>?_
 repeat'(first|apply Sp.h|refine Lk.r rfl ?_|refine Rf.mk rfl ?_|apply Im.mk|intro _)
 refine CA.uV 4 22 1 kI rfl λv=>?_
 refine CA.loop (λz:Nat×Value=>⟨[(0,.sl 1 L H9),(4,.ow z.2),(10,.sl 1 L H9),(11,it (L.length:Nat)),(12,it z.1)],[yb z.2 22 1 (vp (L.take z.1)) kI]⟩)
  (λz=>z.1<=L.length/\∀j s,j < z.1->L[j]?=some s->s≠none) (λz=>L.length - z.1) (0,v) xE ⟨zZ _,λj s h=>by simp only at h;omega⟩ ?_
 rintro⟨i,u⟩ ⟨hi,yD⟩
 simp only at hi yD
 simp only
 by_cases yd:i < L.length
 ·obtain⟨s,hs⟩:=zz yd
  cases s with
  | none =>
   have hc:fq L=1:=by rw [fq,if_pos (.inl (zM hs))]
   rw [hc]
   repeat'(first|apply Sp.h|refine Lk.r rfl ?_|refine Rf.mk rfl ?_|refine xA ?_|refine xI ?_|refine xN ?_|fail)
   exact⟨_,_,.yE (.same (.same (.z))),.inl ⟨by decide,rfl,rfl⟩⟩
  | some s =>
   have gO:=h s (zM hs)
   have ue:=j8 s.m s.b s.w s.l gO.ck
   have qZ:(vp (L.take i)).length=i:=by simp [vp];omega
   have xe:vp (L.take (i+1))=vp (L.take i) ++ [s.w.clock]:=by rw [vp,zK,hs];simp [vp]
   repeat'(first|apply Sp.h|refine Lk.r rfl ?_|refine Rf.mk rfl ?_|refine xA ?_|refine xP ?_|refine yc.mk λ_=>?_|refine xU ?_|refine xI ?_|refine Ce.r ?_|(apply Fk.r;focus repeat' first|infer_instance|constructor)|refine Rf.mk ⟨rfl,rfl⟩ ?_|refine Rf.mk ⟨rfl,rfl,rfl⟩ ?_|(apply Mp.lit;(focus repeat(first|exact yK.nil|(apply yK.cons;{exact zu})|(apply yK.inv;{exact z1};{exact zh}))))|refine xO ?_|(apply Cl.p (ue);focus repeat' constructor))
   rw [<-xe]
   exact PA.lp (i+1,_) xE ⟨⟨yd,yg hs yD zd⟩,by simp only;omega⟩
 ·have:i=L.length:=z6
  subst this
  rw [zL]
  have jP:none ∉ L:=λhm=>by
   obtain⟨j,hj⟩:=zO hm
   exact yD j none (zS.1 hj).1 hj rfl
  have qZ:(vp L).length=L.length:=by simp [vp]
  by_cases rZ:w9 (vp L)
  rotate_left
  ·have hc:fq L=1:=by rw [fq,if_pos (.inr rZ)]
   have P_:=T9 (vp L) rZ
   rw [hc]
   repeat'(first|apply Sp.h|refine Lk.r rfl ?_|refine Rf.mk rfl ?_|refine xB ?_|fail)
   (apply Cl.yY (P_);(focus repeat'(first|exact y3.nil|(apply y3.yY;{exact z1};{exact zc})|fail)))
   repeat'(first|apply Sp.h|refine Lk.r rfl ?_|refine Rf.mk rfl ?_|refine xA ?_|refine xN ?_|fail)
   all_goals exact⟨_,_,.yE (.same (.same (.z))),.inl ⟨by decide,rfl,rfl⟩⟩
  have P_:=Ie (vp L) rZ
  have MW:0 < (pL min (vp L)).length/\(pL min (vp L)).length<=5:=by
   obtain⟨c0,bJ⟩:=zz rZ.1
   have h1:=rZ.2 c0 (zM bJ)
   have h2:=h1.1.2.1
   have h3:=h1.2
   have h4:=h1.1.2.2
   rw [TD rZ]
   omega
  have Bo:fq L=if aA L (pL min (vp L)) then 7 else 0:=by
   rw [fq,if_neg (λh=>h.elim jP λh=>h rZ)]
  generalize hC:pL min (vp L)=C at P_ MW Bo ⊢
  repeat'(first|apply Sp.h|refine Lk.r rfl ?_|refine Rf.mk rfl ?_|refine xB ?_|fail)
  refine Cl.Mg P_ (by repeat'(first|exact y3.nil|(apply y3.yY;{exact z1};{exact zc})|fail)) P5 ?_
  rintro _ _ ⟨q,rfl,rfl⟩
  repeat'(first|apply Sp.h|refine Lk.r rfl ?_|refine Rf.mk rfl ?_|refine xB ?_|apply Im.mk|refine xU ?_|intro _)
  all_goals try exact(by omega:False).elim
  refine CA.loop (λi:Nat=>⟨[(7,.ow q),(29,.sl 1 L H9),(30,it (L.length:Nat)),(31,it i)],[yb q 3 1 C xL]⟩)
   (λi=>i<=L.length/\∀j s,j < i->L[j]?=some s->∀q,s=some q->tO C q.b.clock) (λi=>L.length - i) 0 xE ⟨zZ _,λj s h=>z6⟩ ?_
  rintro i ⟨hi,YU⟩
  by_cases uU:i < L.length
  ·obtain⟨s,hs⟩:=zz uU
   cases s with
   | none=>exact absurd (zM hs) jP
   | some s =>
    have gO:=h s (zM hs)
    have kz:=lU s.m s.b s.l s.w gO.bs
    have YV:=sJ C s.b.clock
    by_cases rY:tO C s.b.clock
    ·rw [zT rY] at YV
     repeat'(first|apply Sp.h|refine Lk.r rfl ?_|refine Rf.mk rfl ?_|refine xA ?_|refine xI ?_|(apply Cl.p (kz);focus repeat' constructor))
     (apply Cl.yY (YV);(focus repeat'(first|exact y3.nil|apply y3.yB|(apply y3.yY;{exact z1};{exact zc})|fail)))
     repeat'(first|apply Sp.h|refine Lk.r rfl ?_|refine Rf.mk rfl ?_|refine xA ?_|refine xO ?_|fail)
     exact PA.lp (i+1) xE ⟨⟨uU,yg hs YU λq hq=>by cases hq;exact rY⟩,z6⟩
    ·rw [zF rY] at YV
     rw [Bo,if_pos ⟨s,zM hs,rY⟩]
     repeat'(first|apply Sp.h|refine Lk.r rfl ?_|refine Rf.mk rfl ?_|refine xA ?_|refine xI ?_|(apply Cl.p (kz);focus repeat' constructor))
     (apply Cl.yY (YV);(focus repeat'(first|exact y3.nil|apply y3.yB|(apply y3.yY;{exact z1};{exact zc})|fail)))
     repeat'(first|apply Sp.h|refine Lk.r rfl ?_|refine Rf.mk rfl ?_|refine xB ?_|refine xN ?_|fail)
     exact⟨_,_,.yE (.same (.same (.z))),.inl ⟨by decide,rfl,rfl⟩⟩
  ·have:i=L.length:=z6
   subst this
   rw [Bo,if_neg λ⟨s,hs,rY⟩=>by
    obtain⟨j,hj⟩:=zO hs
    exact rY (YU j _ (zS.1 hj).1 hj s rfl)]
   repeat'(first|apply Sp.h|refine Lk.r rfl ?_|refine Rf.mk rfl ?_|refine xB ?_|refine xN ?_|fail)
   exact⟨_,_,.yE (.same (.same (.z))),.inr ⟨rfl,_,rfl,rfl⟩⟩
instance {a b:Int}:Inv qk [it a,it b] (a,b):=⟨rfl⟩
theorem Y1(S:List Int)(B:List Bool)(V:List (List Int))(q:vA)(h:ir S B V q)(hl:(wh S B V q).length<=100000):y6 Tryz.prog 67 [.agg (qj S B V),.agg (qk q)] (ints (wh S B V q)):=zy.fz z6 (iY S B V q h)
theorem dz{S:List Int}{B:List Bool}{V:List (List Int)}(h:∀x∈V,x.length<=100000)(q:vA):(wh S B V q).length<=100000:=by
 unfold wh
 split
 ·simp
 ·split
  ·simp
  ·cases hx:V[q.2.toNat]? with
   | none=>simp
   | some x=>simpa using h x (zM hx)
def o0(S:List Int)(B:List Bool)(V:List (List Int))(S':List Int)(B':List Bool)(V':List (List Int))(k:Int)(n:Nat):List vA :=
 ((List.range n).filter λc:Nat=>decide (wh S B V (k,(c:Int))≠wh S' B' V' (k,(c:Int)))).map λc:Nat=>(k,(c:Int))
theorem gF(S:List Int)(B:List Bool)(V:List (List Int))(S':List Int)(B':List Bool)(V':List (List Int))(k:Int)(n:Nat):o0 S B V S' B' V' k (n+1)=o0 S B V S' B' V' k n ++ if wh S B V (k,(n:Int))=wh S' B' V' (k,(n:Int)) then [] else [(k,(n:Int))]:=by
 unfold o0
 rw [List.range_succ,List.filter_append,List.map_append]
 congr 1
 by_cases h:wh S B V (k,(n:Int))=wh S' B' V' (k,(n:Int)) <;> simp [h]
theorem nE{S:List Int}{B:List Bool}{V:List (List Int)}{S':List Int}{B':List Bool}{V':List (List Int)}{k:Int}{n:Nat}:(o0 S B V S' B' V' k n).length<=n:=by
 unfold o0
 rw [List.length_map]
 exact Nat.le_trans (List.length_filter_le _ _) zd
theorem mY(S:List Int)(B:List Bool)(V:List (List Int))(S':List Int)(B':List Bool)(V':List (List Int))(k:Int)(n b:Nat)(v:Value)(L:List vA)(hL:L.length<=1000)(hn:n<=1000)(h:∀c:Nat,c < n->ir S B V (k,(c:Int))/\ir S' B' V' (k,(c:Int))) :
  zy Tryz.prog 108 [it k,it n,.ad (qj S B V) 0,.ad (qj S' B' V') 0,pm b] [yr b 33 [.ow v],yb v 102 2 L qk] λr o=>r= .yE []/\∃v',o= [yr b 33 [.ow v'],yb v' 102 2 (L ++ o0 S B V S' B' V' k n) qk]:=by
 refine zy.of pg I8 Tryz.func108 rfl Tryz.ntmps108 Tryz.results108 rfl λh0 G0 O0=>?_
 repeat'(first|apply Sp.h|refine Lk.r rfl ?_|refine Rf.mk rfl ?_|fail)
 refine CA.loop (λz:Nat×Value=>⟨[(0,it k),(2,.ad (qj S B V) 0),(3,.ad (qj S' B' V') 0),(4,pm b),(9,it n),(10,it z.1)],[yr b 33 [.ow z.2],yb z.2 102 2 (L ++ o0 S B V S' B' V' k z.1) qk]⟩)
  (λz=>z.1<=n) (λz=>n - z.1) (0,v) ?_ (zZ _) ?_
 ·rw [show o0 S B V S' B' V' k 0= [] from rfl,List.append_nil]
  exact xE
 rintro⟨i,u⟩ hi
 simp only at hi
 simp only
 by_cases yd:i < n
 ·obtain⟨h1,h2⟩:=h i yd
  have WT:=dz (S:=S) (B:=B) h1.l (k,(i:Int))
  have ku:=dz (S:=S') (B:=B') h2.l (k,(i:Int))
  have Hf:=Y1 S B V (k,(i:Int)) h1 WT
  have YJ:=Y1 S' B' V' (k,(i:Int)) h2 ku
  have heq:=kg (wh S B V (k,(i:Int))) (wh S' B' V' (k,(i:Int)))
  have xe:=gF S B V S' B' V' k i
  have ue:=nE (S:=S) (B:=B) (V:=V) (S':=S') (B':=B') (V':=V') (k:=k) (n:=i)
  by_cases hd:wh S B V (k,(i:Int))=wh S' B' V' (k,(i:Int))
  ·rw [if_pos hd,List.append_nil] at xe
   rw [<-xe]
   rw [zT hd] at heq
   repeat'(first|apply Sp.h|refine Lk.r rfl ?_|refine Rf.mk rfl ?_|refine xA ?_|refine yu.r rfl ?_|refine yc.mk λ_=>?_|refine xT ?_|refine Ch.l ⟨rfl,rfl⟩ ?_|(apply y4.r;focus repeat' constructor)|(apply Fk.r;focus repeat' first|infer_instance|constructor)|refine xN ?_|refine xD ?_|refine xO ?_|(apply Cl.p (Hf);{exact ze})|(apply Cl.p (YJ);{exact ze})|(apply Cl.p (heq);{exact ze}))
   exact PA.lp (i+1,u) xE ⟨yd,by simp only;omega⟩
  ·rw [if_neg hd] at xe
   rw [zF hd] at heq
   repeat'(first|apply Sp.h|refine Lk.r rfl ?_|refine Rf.mk rfl ?_|refine xA ?_|refine xB ?_|refine yu.r rfl ?_|refine xP ?_|refine yc.mk λ_=>?_|refine xU ?_|refine xT ?_|refine Ce.r ?_|refine Ch.l ⟨rfl,rfl⟩ ?_|refine xV ?_|(apply y4.r;focus repeat' constructor)|(apply Fk.r;focus repeat' first|infer_instance|constructor)|refine xN ?_|refine Rf.mk ⟨rfl,rfl⟩ ?_|refine Rf.mk ⟨rfl,rfl,rfl⟩ ?_|(apply Mp.lit;(focus repeat(first|exact yK.nil|(apply yK.cons;{exact zu})|(apply yK.inv;{exact z1};{exact zh}))))|refine xD ?_|refine xO ?_|(apply Cl.p (Hf);{exact ze})|(apply Cl.p (YJ);{exact ze})|(apply Cl.p (heq);{exact ze}))
   rw [List.append_assoc,<-xe]
   exact PA.lp (i+1,_) xE ⟨yd,by simp only;omega⟩
 ·have:i=n:=z6
  subst this
  repeat'(first|apply Sp.h|refine Lk.r rfl ?_|refine Rf.mk rfl ?_|refine xB ?_|refine xN ?_|fail)
  exact⟨_,_,.yE (.z),rfl,u,rfl⟩
def z0y(code:Int)(rows:List vA)(r:AV)(own:List yh):Prop :=
 (code≠0/\r= .yE [tz,it code]/\own= [])∨(code=0/\∃v,r= .yE [.ow v,it 0]/\own= [yb v 102 2 rows qk])
noncomputable def qB(m:y8)(b:yt)(l:List yo)(w:yt)(a c:List Int):Int :=
 if xR m then(if wu b.clock l w.clock a=0 then wu b.clock l w.clock c else wu b.clock l w.clock a) else 1
noncomputable def kJ(m:y8)(b:yt)(l:List yo)(a c:List Int):List vA :=
 o0 (yU m b l a) (w_ m (yU m b l a)) (vz m b l a) (yU m b l c) (w_ m (yU m b l c)) (vz m b l c) 0 (xk m) ++
 o0 (yU m b l a) (w_ m (yU m b l a)) (vz m b l a) (yU m b l c) (w_ m (yU m b l c)) (vz m b l c) 2 (yw m).length
theorem jx(m:y8)(b:yt)(l:List yo)(w:yt)(a c:List Int)(h:fu b l w)(hm:nR m)(vL:xl m)(hb:b.state.length=xk m)(rB:∀e∈l,rE m (w.clock.length:Nat) e)(jO:xR m->oU m b l a)(CV:xR m->oU m b l c) :
  yJ Tryz.prog 45 [wH m,.ad (sO m b l w) 0,ints a,ints c] [] (z0y (qB m b l w a c) (kJ m b l a c)):=by
 have wU:m.ops.length<=1000000000:=by have:=hm.ops;omega
 have hv:=nB m wU vL
 by_cases hx:xR m
 rotate_left
 ·rw [qB,if_neg hx]
  rw [zF hx] at hv
  refine yJ.of pg M9 Tryz.func45 rfl Tryz.ntmps45 Tryz.results45 rfl λh0 G0 O0 ga=>?_
  repeat'(first|apply Sp.h|refine Lk.r rfl ?_|refine Rf.mk rfl ?_|refine xB ?_|refine yc.mk λ_=>?_|refine xT ?_|refine Ch.l ⟨rfl,rfl⟩ ?_|refine xN ?_|(apply Cl.pG (hv);{exact ga};focus(repeat' constructor);done))
  exact⟨_,_,.yE (.same (.same (.z))),.inl ⟨by decide,rfl,rfl⟩⟩
 rw [qB,if_pos hx]
 rw [zT hx] at hv
 have bn:=rh m b l w a h
 have Gi:=rh m b l w c h
 have S_:=fK m b l w a h hm hx wU vL hb rB
 have D_:=fK m b l w c h hm hx wU vL hb rB
 have qZ:(yU m b l a).length=xk m:=by rw [yU,tY,hb]
 have Aw:(yU m b l c).length=xk m:=by rw [yU,tY,hb]
 have PS:(vz m b l a).length=(yw m).length:=(jO hx).n
 have YI:∀j:Nat,(j < xk m->ir (yU m b l a) (w_ m (yU m b l a)) (vz m b l a) (0,(j:Int))/\ir (yU m b l c) (w_ m (yU m b l c)) (vz m b l c) (0,(j:Int)))/\(j < (yw m).length->ir (yU m b l a) (w_ m (yU m b l a)) (vz m b l a) (2,(j:Int))/\ir (yU m b l c) (w_ m (yU m b l c)) (vz m b l c) (2,(j:Int))):=λj =>
  ⟨λhj=>⟨⟨z6,.inl ⟨rfl,by simp only;omega⟩,(jO hx).r⟩,⟨z6,.inl ⟨rfl,by simp only;omega⟩,(CV hx).r⟩⟩,λhj=>⟨⟨z6,.inr (.inr ⟨rfl,by have:=(jO hx).n;simp only;omega⟩),(jO hx).r⟩,⟨z6,.inr (.inr ⟨rfl,by have:=(CV hx).n;simp only;omega⟩),(CV hx).r⟩⟩⟩
 have eJ:=hm.str
 have hmr:=hm.Sq
 unfold kJ
 generalize yU m b l a=S at S_ qZ YI ⊢
 generalize vz m b l a=V at S_ PS YI ⊢
 generalize w_ m S=B at S_ YI ⊢
 generalize yU m b l c=S' at D_ Aw YI ⊢
 generalize vz m b l c=V' at D_ YI ⊢
 generalize w_ m S'=B' at D_ YI ⊢
 generalize wu b.clock l w.clock a=ka at bn ⊢
 generalize wu b.clock l w.clock c=kc at Gi ⊢
 refine yJ.of pg M9 Tryz.func45 rfl Tryz.ntmps45 Tryz.results45 rfl λh0 G0 O0 ga=>?_
 repeat'(first|apply Sp.h|refine Lk.r rfl ?_|refine Rf.mk rfl ?_|refine xA ?_|refine yc.mk λ_=>?_|refine xU ?_|refine xT ?_|refine Ch.l ⟨rfl,rfl⟩ ?_|(apply Fk.r;focus repeat' first|infer_instance|constructor)|refine Rf.mk ⟨rfl,rfl,rfl⟩ ?_|(apply Cl.pG (hv);{exact ga};focus(repeat' constructor);done))
 rename_i b4 v22
 refine CA.loop (λi:Nat=>⟨[(1,.ad (sO m b l w) 0),(2,ints a),(3,ints c),(4,pm b4),(22,.ow v22),(23,it 2),(24,it i)],[yr b4 30 (s_ m),yb v22 22 1 [[ints a],[ints c]] id]⟩)
  (λi=>i<=2/\(1<=i->ka=0)/\(2<=i->kc=0)) (λi=>2 - i) 0 xE ⟨zZ _,λh=>z6,λh=>z6⟩ ?_
 rintro i ⟨hi,nV,pU⟩
 match i,hi with
 | 0,_ =>
  have hq:([[ints a],[ints c]]:List (List AV))[0]?=some [ints a]:=rfl
  by_cases h0:ka=0
  ·repeat'(first|apply Sp.h|refine Lk.r rfl ?_|refine Rf.mk rfl ?_|refine xA ?_|refine xU ?_|refine xI ?_|refine xJ ?_|refine xO ?_|(apply Cl.p (bn);focus(repeat' constructor);done))
   all_goals try exact(by omega:False).elim
   exact PA.lp 1 xE ⟨⟨z6,λ_=>h0,λh=>z6⟩,z6⟩
  ·repeat'(first|apply Sp.h|refine Lk.r rfl ?_|refine Rf.mk rfl ?_|refine xA ?_|refine xB ?_|refine xU ?_|refine xI ?_|refine xJ ?_|refine xN ?_|(apply Cl.p (bn);focus(repeat' constructor);done))
   all_goals try exact absurd z6 h0
   rw [if_neg h0]
   exact⟨_,_,.yE (.same (.same (.z))),.inl ⟨h0,rfl,rfl⟩⟩
 | 1,_ =>
  have hq:([[ints a],[ints c]]:List (List AV))[1]?=some [ints c]:=rfl
  have h0:=nV (Nat.le_refl _)
  rw [if_pos h0]
  by_cases h1:kc=0
  ·repeat'(first|apply Sp.h|refine Lk.r rfl ?_|refine Rf.mk rfl ?_|refine xA ?_|refine xU ?_|refine xI ?_|refine xJ ?_|refine xO ?_|(apply Cl.p (Gi);focus(repeat' constructor);done))
   all_goals try exact(by omega:False).elim
   exact PA.lp 2 xE ⟨⟨z6,λ_=>h0,λ_=>h1⟩,z6⟩
  ·repeat'(first|apply Sp.h|refine Lk.r rfl ?_|refine Rf.mk rfl ?_|refine xA ?_|refine xB ?_|refine xU ?_|refine xI ?_|refine xJ ?_|refine xN ?_|(apply Cl.p (Gi);focus(repeat' constructor);done))
   all_goals try exact absurd z6 h1
   exact⟨_,_,.yE (.same (.same (.z))),.inl ⟨h1,rfl,rfl⟩⟩
 | 2,_ =>
  have h0:=nV z6
  have h1:=pU z6
  rw [if_pos h0,h1]
  (repeat'(first|(show CA _ _ (Code.region 10 _ _) _ _;apply z_.out)|apply Sp.h|refine Lk.r rfl ?_|refine Rf.mk rfl ?_|refine xB ?_|fail));any_goals apply z_.mk
  refine CA.cut (λx:Nat×Nat=>⟨[(13,pm x.1),(14,pm x.2)],[yr x.1 121 (qj S B V),yr x.2 121 (qj S' B' V')]⟩) (λ_=>True) ?_ ?_
  ·repeat'(first|apply Sp.h|refine Lk.r rfl ?_|refine Rf.mk rfl ?_|refine yu.r rfl ?_|refine yc.mk λ_=>?_|refine xT ?_|refine Ch.l ⟨rfl,rfl⟩ ?_|(apply y4.r;focus repeat' constructor)|refine xN ?_|refine xD ?_|exact trivial|apply vn.both|(apply Cl.pG (S_);{exact ga};focus(repeat' constructor);done)|(apply Cl.pG (D_);{exact ga};focus(repeat' constructor);done))
   all_goals exact PA.lp (_,_) xE trivial
  rintro⟨b13,b14⟩ -
  simp only
  (repeat'(first|(show CA _ _ (Code.region 11 _ _) _ _;apply z_.out)|apply Sp.h|fail));any_goals apply z_.mk
  refine CA.xt 13 rfl z1 ?_
  refine CA.xt 14 rfl z1 ?_
  (repeat'(first|(show CA _ _ (Code.region 12 _ _) _ _;apply z_.out)|apply Sp.h|refine Lk.r rfl ?_|refine Rf.mk rfl ?_|apply yc.mk|refine xN ?_|intro _));any_goals apply z_.mk
  rename_i BI
  refine CA.QH (b:=BI) (i:=0) z1 rfl 102 2 qk λv=>?_
  have nQ:=mY S B V S' B' V' 0 (xk m) BI v [] zd z6 λj hj=>(YI j).1 hj
  rw [List.nil_append] at nQ
  have ue:=nE (S:=S) (B:=B) (V:=V) (S':=S') (B':=B') (V':=V') (k:=0) (n:=xk m)
  have tE:=λu=>mY S B V S' B' V' 2 (yw m).length BI u (o0 S B V S' B' V' 0 (xk m)) z6 z6 λj hj=>(YI j).2 hj
  rw [<-qZ] at nQ tE ⊢
  rw [<-PS] at tE ⊢
  repeat'(first|apply Sp.h|refine Lk.r rfl ?_|refine Rf.mk rfl ?_|apply Im.mk|intro _)
  refine xW (nQ) ?_
  rintro _ _ ⟨rfl,v2,rfl⟩
  repeat'(first|apply Sp.h|refine Lk.r rfl ?_|refine Rf.mk rfl ?_|apply Im.mk|intro _)
  have tE:=tE v2
  refine xW (tE) ?_
  rintro _ _ ⟨rfl,v3,rfl⟩
  repeat'(first|apply Sp.h|refine Lk.r rfl ?_|refine Rf.mk rfl ?_|refine xT ?_|refine xN ?_|fail)
  exact⟨_,_,.yE (.same (.same (.z))),.inr ⟨rfl,v3,rfl,rfl⟩⟩
theorem ZX{m:y8}(hl:vh m.y9 m.tables){c:Int}{ti:Nat}{q:List Int}{t:ym}(h:uS m.y9 m.tables false c=some (ti,q))(ht:m.tables[ti]?=some t):0<=c/\(yw m)[c.toNat]?=some t:=by
 unfold uS at h
 split at h
 rotate_left
 ·cases h
 rename_i hh
 obtain⟨j,h1,h2⟩:=Option.bind_eq_some_iff.1 h
 obtain⟨t',h3,h4⟩:=Option.map_eq_some_iff.1 h2
 injection h4 with h4 h5
 subst h4
 rw [ht] at h3;cases h3
 unfold Vf at h1
 obtain⟨lL,Ht,-⟩:=List.findIdx?_eq_some_iff_getElem.1 h1
 have hjt:m.tables[j]=t:=(zS.1 ht).2
 rw [hjt] at Ht
 obtain⟨g1,g2,g3⟩:=of_decide_eq_true Ht
 have bE:¬yi t.kind:=of_decide_eq_false g1
 have hx:=hl.t j t ht
 have hf:=hx.fs
 rw [g1] at hf
 have hc:=hx.ok.1
 have u4:=(sX (m:=m) hc).1
 have bQ:wF m.y9 t.ya=(jM m t:Nat):=by rw [wF,if_pos hc];exact u4
 have hlen:((tM m (m.tables.take j)).length:Int)=xZ m.y9 false (m.tables.take j):=by
  have key:∀l:List ym,(∀t∈l,t∈m.tables)->((tM m l).length:Int)=xZ m.y9 false l:=by
   intro l
   induction l with
   | nil=>intro _;rfl
   | cons t l ih =>
    intro h
    have ih:=ih λt ht=>h t (by simp [ht])
    have hc:=(hl.ok.2.2.2 t (h t zd)).1
    have h1:=(sX (m:=m) hc).1
    unfold tM xZ at ih ⊢
    simp only [List.map_cons,List.sum_cons,List.flatMap_cons,zP]
    rw [<-ih]
    by_cases hs:yi t.kind
    ·rw [if_pos hs,if_neg (by simp [hs])];simp
    ·rw [if_neg hs,if_pos (by simp [hs]),wF,if_pos hc,zR];omega
  exact key _ λt ht=>zW ht
 refine⟨hh.2, ?_⟩
 have pI:yw m=tM m (m.tables.take (j+1)) ++ tM m (m.tables.drop (j+1)):=by
  show tM m m.tables=_
  unfold tM
  rw [<-List.flatMap_append,List.take_append_drop]
 have xe:=pf (m:=m) ht
 rw [if_neg bE] at xe
 rw [pI,zI (by rw [xe,zP,zR];omega),xe,zJ z6,List.getElem?_replicate,if_pos z6]
theorem Pa{n:Nat}{l:List (Int×Int)}(h:∀(i:Nat) (p:Int×Int),l[i]?=some p->fw n l i p):l.length<=n:=by
 have key:∀(i:Nat) (p:Int×Int),l[i]?=some p->(i:Int)<=p.1:=by
  intro i
  induction i with
  | zero=>intro p hp;have:=(h 0 p hp).a;omega
  | succ i ih =>
   intro p hp
   obtain⟨q,hq⟩:=zz (l:=l) (i:=i) (by have:=(zS.1 hp).1;omega)
   have h1:=ih q hq
   have h2:=(h (i+1) p hp).e q z6 hq
   omega
 rcases Nat.eq_zero_or_pos l.length with h0|h0
 ·omega
 ·obtain⟨p,hp⟩:=zz (l:=l) (i:=l.length - 1) z6
  have h1:=key _ p hp
  have h2:=(h _ p hp).b
  omega
theorem xR.xu{m:y8}(hx:xR m){a:e_}(ha:a∈m.yP):s5 m a.xu:=by
 obtain⟨i,hi⟩:=zO ha
 exact(hx.act.a i a hi).e
theorem xR.Sr{m:y8}(hx:xR m):nR m:=by
 have h1:=qK hx.lay
 have h2:=dN hx.lay.ok
 have h3:(wA m).length<=128:=tu
 refine⟨hx.lay.ok,hx.act.o.l,hx.act.l,λa ha=>?_,z6,by have:=hx.lay.m;omega⟩
 have he:=hx.xu ha
 have hd:=Pa he.d
 refine⟨z6,he.hl,he.ul,λp hp=>?_,λp hp=>?_⟩
 ·obtain⟨i,hi⟩:=zO hp
  have g:=he.d i p hi
  have g1:=g.a
  have g2:=g.b
  omega
 ·obtain⟨i,hi⟩:=zO hp
  obtain⟨ti,q,t,g1,g2,-⟩:=(he.u i p hi).1
  obtain⟨g3,g4⟩:=ZX hx.lay g1 g2
  have:=(zS.1 g4).1
  omega
theorem xR.fit{m:y8}(hx:xR m):af m:=by
 intro a ha u hu i t hi ht
 obtain⟨j,hj⟩:=zO hu
 obtain⟨ti,q,t',g1,g2,g3,g4⟩:=((hx.xu ha).u j u hj).1
 obtain⟨g5,g6⟩:=ZX hx.lay g1 g2
 rw [hi,Int.toNat_natCast,ht] at g6
 cases g6
 unfold uz at g3 g4
 unfold Xa
 refine⟨⟨λh=>(g3 h).1,λh=>Classical.byContradiction λh9=>?_⟩,λh=>(g4 h).2⟩
 have:=(g4 h9).1
 omega
theorem qO{t:ym}{l:List yC}(h1:∀x∈l,wy t x)(h2:r9 l):mX t l l.length:=by
 intro i x hi hx
 obtain⟨hs,hn⟩:=h2
 rw [List.pairwise_iff_getElem] at hs hn
 obtain⟨i1,lx⟩:=zS.1 hx
 refine⟨h1 x (zM hx),λj y hj hy=>?_,λy hp hy=>?_⟩
 ·obtain⟨j1,PQ⟩:=zS.1 hy
  have:=hn j i j1 i1 hj
  rwa [lx,PQ] at this
 ·obtain⟨j1,PQ⟩:=zS.1 hy
  have:=hs (i - 1) i j1 i1 z6
  rw [lx,PQ] at this
  exact uZ _ _ this
theorem cI{t:ym}{l:List yC}(h:mX t l l.length) :∀x∈l,wy t x:=λx hx=>by
 obtain⟨i,hi⟩:=zO hx
 exact(h i x (zS.1 hi).1 hi).1
theorem r9.filter{l:List yC}(h:r9 l)(p:yC->Bool):r9 (l.filter p):=⟨List.Pairwise.filter p h.1,List.Pairwise.filter p h.2⟩
theorem r9.ins{l:List yC}(h:r9 l){x:yC}(hn:¬wj l x):r9 (vU l x):=by
 refine⟨(ml h.1 hn).1, ?_⟩
 have hp:(vU l x).Perm (x :: l):=by
  unfold vU
  refine List.perm_middle.trans ?_
  rw [List.take_append_drop]
 have hc:(x :: l).Pairwise λx y=>¬Nm x y:=List.pairwise_cons.2 ⟨λy hy h9=>hn ⟨y,hy,h9.1.symm,h9.2.symm⟩,h.2⟩
 exact hp.symm.pairwise hc λ{a b} h9 h8=>h9 ⟨h8.1.symm,h8.2.symm⟩
theorem gB(l:List yC)(x:yC):(vU l x).length=l.length+1:=by
 unfold vU
 rw [zP,List.length_cons,zN,List.length_drop]
 omega
theorem cx{t:ym}{l:List yC}{x:yC}(h1:∀y∈l,wy t y)(h2:r9 l)(hx:wy t x)(h:(xo l x).1=0):(∀y∈(xo l x).2,wy t y)/\r9 (xo l x).2/\(xo l x).2.length<=1024:=by
 unfold xo at h ⊢
 split at h
 ·cases h
 rename_i hn
 split at h
 ·cases h
 rename_i hl
 rw [if_neg hn,if_neg hl]
 refine⟨λy hy=>?_,h2.ins hn,by simp only [gB];omega⟩
 rcases((ml h2.1 hn).2 y).1 hy with hy|rfl
 ·exact h1 y hy
 ·exact hx
theorem Di(x:yC):r9 [x]:=⟨List.pairwise_singleton _ _,List.pairwise_singleton _ _⟩
theorem Wv{t:ym}{g:xp}{e:yo}{u:qh}(hg:sx t g)(hx:wy t ⟨e.rep,e.num,e.time,if x8 t.kind then u.2.2 else 0⟩)(h:(yQ e t (some u) g).1=0):sx t (yQ e t (some u) g).2:=by
 obtain⟨⟨g1,g2,g3,g4⟩,g5⟩:=hg
 have hG:=sx.Ls ⟨⟨g1,g2,g3,g4⟩,g5⟩
 have hR:=cI g5
 have qz:(vl e.yj g.marks).length<=g.marks.length:=List.length_filter_le _ _
 have Bg:∀y∈vl e.yj g.marks,wy t y:=λy hy=>hR y (List.mem_filter.1 hy).1
 have Bh:r9 (vl e.yj g.marks):=hG.filter _
 simp only [yQ] at h ⊢
 by_cases c1:t.kind=2/\u.1=0∨t.kind=3/\u.1=1
 ·rw [if_pos c1] at h ⊢
  obtain⟨a1,a2,a3⟩:=cx hR hG hx h
  exact⟨⟨g1,g2,λh9=>z6,a3⟩,qO a1 a2⟩
 rw [if_neg c1] at h ⊢
 by_cases c2:t.kind=2/\u.1=1
 ·rw [if_pos c2] at h ⊢
  exact⟨⟨g1,λh9=>(by cases h9.1),λh9=>z6,by simp only;omega⟩,qO Bg Bh⟩
 rw [if_neg c2] at h ⊢
 by_cases c3:t.kind=3/\u.1=0
 ·rw [if_pos c3] at h ⊢
  exact⟨⟨λh9=>(by cases h9),λh9=>by have:=h9.2;unfold x8 at this;omega,λh9=>z6,by simp only;omega⟩,qO Bg Bh⟩
 rw [if_neg c3] at h ⊢
 by_cases c4:t.kind=4/\u.1=2
 ·rw [if_pos c4] at h ⊢
  have WT:g.marks.length<=1:=by have:=g3;omega
  have rY:∀M:yC,wy t M->∃y,(wN g.marks M).2= [y]/\wy t y:=by
   intro M hM
   match hm:g.marks,WT with
   | [],_=>exact⟨M,by simp [wN,xo,wj,vU],hM⟩
   | [z],_ =>
    by_cases h9:eP z M < 0
    ·exact⟨M,by simp [wN,h9],hM⟩
    ·exact⟨z,by simp [wN,h9],hR z (by rw [hm];simp)⟩
  have rY:=rY _ hx
  obtain⟨y,e1,e2⟩:=rY
  rw [e1]
  refine⟨⟨g1,g2,λh9=>by simp at h9,by simp⟩,qO (λz hz=>by rw [zH.1 hz];exact e2) (Di y)⟩
 rw [if_neg c4] at h ⊢
 by_cases c5:t.kind=5/\u.1=2
 ·rw [if_pos c5] at h ⊢
  obtain⟨a1,a2,a3⟩:=cx Bg Bh hx h
  exact⟨⟨g1,g2,λh9=>z6,a3⟩,qO a1 a2⟩
 rw [if_neg c5] at h ⊢
 exact⟨⟨g1,g2,g3,g4⟩,g5⟩
theorem UH{us:List qh}{c:Int}{u:qh}(h:uR us c=some u):u∈us/\u.2.1=c:=by
 unfold uR at h
 exact⟨by simpa using List.mem_of_find?_eq_some h,by simpa using List.find?_some h⟩
theorem UU{m:y8}{t:ym}{e:yo}{u:qh}{n:Int}(hr:¬Xa t.kind->t.lo<=u.2.2/\u.2.2<=t.hi)(he:rE m n e):wy t ⟨e.rep,e.num,e.time,if x8 t.kind then u.2.2 else 0⟩:=by
 obtain⟨f1,f2,⟨y,f3,f4⟩,f5,f6,f7⟩:=he.1
 have hlen:=(zS.1 f3).1
 have:=f1.1 y (zM f3)
 have:=f1.2
 unfold tg at *
 unfold pV at f6
 refine⟨by simp only;omega,by simp only;omega,by simp only;omega, ?_⟩
 simp only [X9,iP]
 by_cases h9:x8 t.kind
 ·rw [if_pos h9,if_pos h9,if_pos h9]
  exact hr (by unfold x8 at h9;unfold Xa;omega)
 ·rw [if_neg h9,if_neg h9,if_neg h9];omega
theorem Zf{m:y8}(_hm:xS m.y9 m.tables)(hf:af m){l:List xp}{e:yo}(h:(yq m l e).1=0):vX (yw m) (yq m l e).2:=by
 have hv:vX (yw m) l/\rE m (e.yj.length:Nat) e:=Classical.byContradiction λh9=>by
  rw [yq,if_pos h9] at h
  cases h
 by_cases hk:e.kind=0
 rotate_left
 ·rw [yq,if_neg (λh9=>h9 hv),if_pos hk];exact hv.1
 rw [yq,if_neg (λh9=>h9 hv),if_neg (λh9=>h9 hk)] at h ⊢
 have ug:∀p∈vi (yw m) l (lr m e) e,p.1=0:=by
  unfold wi at h
  split at h
  ·rename_i p hp
   have:=List.find?_some hp
   simp at this
   exact absurd h this.1
  ·rename_i hn
   split at h
   ·cases h
   rename_i h8
   intro p hp
   have:=List.find?_eq_none.1 hn p hp
   simp at this
   exact Classical.byContradiction λh9=>h8 ⟨p,hp,this h9⟩
 rw [u_ (λp hp=> .inl (ug p hp)),if_neg (λ⟨p,hp,h8⟩=>by rw [ug p hp] at h8;cases h8)]
 refine⟨by rw [List.length_map,vK];exact hv.1.1,λi t g ht hg=>?_⟩
 obtain⟨g0,Va⟩:=zz (l:=l) (i:=i) (by have:=(zS.1 ht).1;have:=hv.1.1;omega)
 have YZ:=uY (us:=lr m e) (e:=e) ht Va
 rw [zG,YZ] at hg
 cases hg
 have h0:=ug _ (zM YZ)
 have PT:=hv.1.2 i t g0 ht Va
 cases hu:uR (lr m e) i with
 | none=>exact PT
 | some u =>
  rw [hu] at h0
  obtain⟨DY,Sy⟩:=UH hu
  have:∃a∈m.yP,u∈a.xu.yk:=by
   unfold lr at DY
   split at DY
   ·rename_i a ha;exact⟨a,zM ha,DY⟩
   ·cases DY
  obtain⟨a,ha,CQ⟩:=this
  have kH:=hf a ha u CQ i t Sy ht
  exact Wv PT (UU kH.2 hv.2) h0
theorem Xv{m:y8}:vX (yw m) (List.replicate (yw m).length nS):=by
 refine⟨by simp,λi t g ht hg=>?_⟩
 rw [(List.mem_replicate.1 (zM hg)).2]
 exact⟨⟨λh=>(by cases h),λh=>(by cases h.1),λh=>by simp [nS] at h,by simp [nS]⟩,λi x hi=>by simp [nS] at hi⟩
theorem ZU{m:y8}{k:List xp}(h:vX (yw m) k):(tQ m k).2.length=(yw m).length/\∀x∈(tQ m k).2,x.length<=100000:=by
 rw [rS h]
 refine⟨by rw [rq];have:=h.1;omega,λx hx=>?_⟩
 obtain⟨i,hi⟩:=zO hx
 unfold tG at hi
 rw [zG] at hi
 obtain⟨p,hp,rfl⟩:=Option.map_eq_some_iff.1 hi
 obtain⟨h1,h2⟩:=List.getElem?_zip_eq_some.1 hp
 have h3:=j5 h h1 h2
 have h4:=UF p.1 p.2
 omega
theorem z11{m:y8}{b:yt}{l:List yo}{c:List Int}{qs:List vA}(hs:oU m b l c):(r6 m b l c qs).length=qs.length/\∀x∈r6 m b l c qs,x.length<=1000000:=by
 refine⟨by simp [r6],λx hx=>?_⟩
 obtain⟨q,-,rfl⟩:=List.mem_map.1 hx
 unfold wh
 split
 ·simp
 split
 ·simp
 cases h:(vz m b l c)[q.2.toNat]? with
 | none=>simp
 | some y=>have:=hs.r y (zM h);simp only [Option.getD_some];omega
theorem P7(sizes:List Int)(l:List ym):VX Tryz.prog 110 [ints sizes,xG l] True:=by
 refine zy.of pg ye Tryz.func110 rfl Tryz.ntmps110 Tryz.results110 rfl λh0 G0 O0=>?_
 repeat'(first|apply Sp.h|refine Lk.r rfl ?_|refine Rf.mk rfl ?_|fail)
 refine CA.loop (λi:Nat=>⟨[(0,ints sizes),(1,xG l),(5,it i)],[]⟩) (λi=>i<=l.length) (λi=>l.length - i) 0 xE (zZ _) ?_
 intro i hi
 by_cases yd:i < l.length
 ·obtain⟨t,ht⟩:=zz yd
  repeat'(first|apply Sp.h|refine Lk.r rfl ?_|refine Rf.mk rfl ?_|refine xA ?_|refine xB ?_|apply Bd.mk|apply Im.mk|refine xI ?_|refine xN ?_|refine xO ?_|intro _)
  all_goals first
   | exact PA.lp (i+1) xE ⟨yd,z6⟩
   | exact⟨_,_,.one (.same (.z)),_,rfl,rfl,λ_=>trivial⟩
 ·repeat'(first|apply Sp.h|refine Lk.r rfl ?_|refine Rf.mk rfl ?_|refine xA ?_|refine xB ?_|apply Bd.mk|apply Im.mk|refine xN ?_|intro _)
  all_goals exact⟨_,_,.one (.same (.z)),_,rfl,rfl,λ_=>trivial⟩
theorem Wz(m:y8):VX Tryz.prog 48 [wH m] (m.ops.length<=8):=by
 have h9:=P7 m.y9 m.tables
 refine zy.of pg ye Tryz.func48 rfl Tryz.ntmps48 Tryz.results48 rfl λh0 G0 O0=>?_
 by_cases wU:¬m.ops.length<=8
 ·repeat'(first|apply Sp.h|refine Lk.r rfl ?_|refine Rf.mk rfl ?_|refine xA ?_|refine xB ?_|apply Bd.mk|apply Im.mk|apply yc.mk|refine xT ?_|refine xN ?_|intro _)
  all_goals first
   | exact⟨_,_,.one (.same (.z)),_,rfl,rfl,λh=>by cases h⟩
   | exact(wU z6).elim
 have wU:m.ops.length<=8:=Classical.not_not.1 wU
 (repeat'(first|(show CA _ _ (Code.region 1 _ _) _ _;apply z_.out)|apply Sp.h|refine Lk.r rfl ?_|refine Rf.mk rfl ?_|apply yc.mk|intro _));any_goals apply z_.mk
 rename_i b1
 repeat'(first|apply Sp.h|refine Lk.r rfl ?_|refine Rf.mk rfl ?_|refine xA ?_|refine xB ?_|apply Bd.mk|apply Im.mk|refine xT ?_|refine xN ?_|intro _)
 all_goals try exact⟨_,_,.one (.same (.z)),_,rfl,rfl,λh=>by cases h⟩
 refine xW (h9) ?_
 rintro _ _ ⟨b,rfl,rfl,-⟩
 cases b
 ·repeat'(first|apply Sp.h|refine Lk.r rfl ?_|refine Rf.mk rfl ?_|refine xB ?_|refine xN ?_|fail)
  exact⟨_,_,.one (.same (.z)),_,rfl,rfl,λh=>by cases h⟩
 repeat'(first|apply Sp.h|refine Lk.r rfl ?_|refine Rf.mk rfl ?_|refine xA ?_|refine xB ?_|fail)
 refine CA.loop (λi:Nat=>⟨[(1,pm b1),(3,it i)],[mR b1 m]⟩) (λi=>i<=m.xm.length) (λi=>m.xm.length - i) 0 xE (zZ _) ?_
 intro i hi
 by_cases yd:i < m.xm.length
 ·obtain⟨t,ht⟩:=zz yd
  repeat'(first|apply Sp.h|refine Lk.r rfl ?_|refine Rf.mk rfl ?_|refine xA ?_|apply Bd.mk|apply Im.mk|refine xT ?_|refine xI ?_|refine xN ?_|refine xO ?_|intro _)
  all_goals first
   | exact PA.lp (i+1) xE ⟨yd,z6⟩
   | exact⟨_,_,.one (.same (.z)),_,rfl,rfl,λh=>by cases h⟩
 repeat'(first|apply Sp.h|refine Lk.r rfl ?_|refine Rf.mk rfl ?_|refine xB ?_|apply Im.mk|refine xT ?_|intro _)
 refine CA.loop (λi:Nat=>⟨[(1,pm b1),(4,it i)],[mR b1 m]⟩) (λi=>i<=m.cons.length) (λi=>m.cons.length - i) 0 xE (zZ _) ?_
 intro i hi
 by_cases yd:i < m.cons.length
 ·obtain⟨t,ht⟩:=zz yd
  repeat'(first|apply Sp.h|refine Lk.r rfl ?_|refine Rf.mk rfl ?_|refine xA ?_|apply Bd.mk|apply Im.mk|refine xT ?_|refine xI ?_|refine xN ?_|refine xO ?_|intro _)
  all_goals first
   | exact PA.lp (i+1) xE ⟨yd,z6⟩
   | exact⟨_,_,.one (.same (.z)),_,rfl,rfl,λh=>by cases h⟩
 repeat'(first|apply Sp.h|refine Lk.r rfl ?_|refine Rf.mk rfl ?_|refine xB ?_|apply Im.mk|refine xT ?_|intro _)
 refine CA.loop (λi:Nat=>⟨[(1,pm b1),(5,it i)],[mR b1 m]⟩) (λi=>i<=m.ops.length) (λi=>m.ops.length - i) 0 xE (zZ _) ?_
 intro i hi
 by_cases yd:i < m.ops.length
 ·obtain⟨t,ht⟩:=zz yd
  repeat'(first|apply Sp.h|refine Lk.r rfl ?_|refine Rf.mk rfl ?_|refine xA ?_|refine xB ?_|apply Bd.mk|apply Im.mk|refine xT ?_|refine xI ?_|refine xN ?_|refine xO ?_|intro _)
  all_goals first
   | exact PA.lp (i+1) xE ⟨yd,z6⟩
   | exact⟨_,_,.one (.same (.z)),_,rfl,rfl,λh=>by cases h⟩
 repeat'(first|apply Sp.h|refine Lk.r rfl ?_|refine Rf.mk rfl ?_|refine xB ?_|apply Im.mk|refine xT ?_|intro _)
 refine CA.loop (λi:Nat=>⟨[(1,pm b1),(6,it i)],[mR b1 m]⟩) (λi=>i<=m.yP.length) (λi=>m.yP.length - i) 0 xE (zZ _) ?_
 intro i hi
 by_cases yd:i < m.yP.length
 ·obtain⟨a,ha⟩:=zz yd
  (repeat'(first|(show CA _ _ (Code.region 22 _ _) _ _;apply z_.out)|apply Sp.h|refine Lk.r rfl ?_|refine Rf.mk rfl ?_|refine xA ?_|apply Im.mk|apply yc.mk|refine xT ?_|refine xI ?_|refine Ch.r ?_|(apply y4.r;focus repeat' constructor)|refine xN ?_|intro _));any_goals apply z_.mk
  rename_i b7
  repeat'(first|apply Sp.h|refine Lk.r rfl ?_|refine Rf.mk rfl ?_|refine xA ?_|refine xB ?_|apply Bd.mk|apply Im.mk|refine xT ?_|refine xI ?_|refine xN ?_|intro _)
  all_goals try exact⟨_,_,.one (.same (.z)),_,rfl,rfl,λh=>by cases h⟩
  refine CA.loop (λk:Nat=>⟨[(1,pm b1),(6,it i),(7,pm b7),(8,it k)],[mR b1 m,yr b7 140 (il a.xu)]⟩) (λk=>k<=a.xu.hold.length) (λk=>a.xu.hold.length - k) 0 xE (zZ _) ?_
  intro k hk
  by_cases rz:k < a.xu.hold.length
  ·obtain⟨r,hr⟩:=zz rz
   repeat'(first|apply Sp.h|refine Lk.r rfl ?_|refine Rf.mk rfl ?_|refine xA ?_|apply Bd.mk|apply Im.mk|refine xT ?_|refine xI ?_|refine xN ?_|refine xO ?_|intro _)
   all_goals first
    | exact PA.lp (k+1) xE ⟨rz,z6⟩
    | exact⟨_,_,.one (.same (.z)),_,rfl,rfl,λh=>by cases h⟩
  repeat'(first|apply Sp.h|refine Lk.r rfl ?_|refine Rf.mk rfl ?_|refine xB ?_|apply Im.mk|refine xT ?_|refine xO ?_|intro _)
  exact PA.lp (i+1) xE ⟨yd,z6⟩
 repeat'(first|apply Sp.h|refine Lk.r rfl ?_|refine Rf.mk rfl ?_|refine xB ?_|apply Im.mk|refine xT ?_|refine xN ?_|intro _)
 exact⟨_,_,.one (.same (.z)),_,rfl,rfl,λ_=>wU⟩
theorem IE(e:yo):y6 Tryz.prog 50 [uL e] (.val (.bool (decide (8 < e.yj.length)))):=by
 refine zy.of pg ye Tryz.func50 rfl Tryz.ntmps50 Tryz.results50 rfl λh0 G0 O0=>?_
 repeat'(first|apply Sp.h|refine Lk.r rfl ?_|refine Rf.mk rfl ?_|apply Im.mk|apply yc.mk|refine xT ?_|refine xN ?_|intro _)
 exact Fin.p rfl (vb (zD.2 z6))
theorem ec{g:FuncId}{p:yo->Bool}(hg:∀e,y6 Tryz.prog g [uL e] (.val (.bool (p e))))(he:en g=true)(l:List yo) :
  y6 Tryz.prog 49 [vm l,.fn g []] (.val (.bool (decide (xw p l < l.length)))):=by
 have hi:y6 Tryz.prog 111 [vm l,.fn g []] (.val (.int .i64 (wW p l))):=by
  refine zy.of pg ye Tryz.func111 rfl Tryz.ntmps111 Tryz.results111 rfl λh0 G0 O0=>?_
  repeat'(first|apply Sp.h|refine Lk.r rfl ?_|refine Rf.mk rfl ?_|apply Im.mk|intro _)
  rename_i V8
  refine CA.loop (λi:Nat=>⟨[(0,vm l),(1,.fn g []),(7,.val (.int .i64 l.length)),(8,.val (.int .i64 i))],[]⟩)
   (λi=>i<=l.length/\∀j y,j < i->l[j]?=some y->p y=false) (λi=>l.length - i) 0 xE ⟨zZ _,λj y h=>z6⟩ ?_
  rintro i ⟨hi,hj⟩
  by_cases yd:i < l.length
  ·obtain⟨e,hx⟩:=zz yd
   repeat'(first|apply Sp.h|refine Lk.r rfl ?_|refine Rf.mk rfl ?_|refine xA ?_|(refine Bd.mk ?_ ?_ <;> intro _)|refine xI ?_|refine Ch.l ⟨rfl,rfl⟩ ?_|refine xN ?_|(apply Rf.mk;{exact z8})|refine xO ?_|(apply Cl.p (hg e);focus repeat' constructor))
   ·rename_i hp
    exact Fin.p rfl (by rw [wW,uA hx hp hj,if_pos yd])
   ·rename_i hp
    exact PA.lp (i+1) xE ⟨⟨yd,yg hx hj (by simpa using hp)⟩,z6⟩
  ·repeat'(first|apply Sp.h|refine Lk.r rfl ?_|refine Rf.mk rfl ?_|refine xB ?_|refine xN ?_|fail)
   exact Fin.p rfl (by rw [wW,wL (λx hx=>by obtain⟨j,hx⟩:=zO hx;exact hj j x (by have:=(zS.1 hx).1;omega) hx),if_neg z6])
 refine zy.of pg ye Tryz.func49 rfl Tryz.ntmps49 Tryz.results49 rfl λh0 G0 O0=>?_
 repeat'(first|apply Sp.h|refine Lk.r rfl ?_|refine Rf.mk rfl ?_|refine xN ?_|(apply Cl.p (hi);focus repeat' constructor))
 refine Fin.p rfl (vb (zD.2 ?_))
 unfold wW
 split <;> omega
structure z0v (m:y8) (ld:List Int) (l:List yo) (order:List Int):Prop where
 fo:m.ops.length<=8
 fd:ld.length<=150
 fl:l.length<=12
 fr:order.length<=20
 fp:∀e∈l,e.yj.length<=8
theorem P6(m:y8)(ld:List Int)(l:List yo)(order:List Int):VX Tryz.prog 10 [wH m,ints ld,vm l,MC order] (z0v m ld l order):=by
  have hb:=Wz m
  have hc:=ec IE rfl l
  refine zy.of pg ye Tryz.func10 rfl Tryz.ntmps10 Tryz.results10 rfl λh0 G0 O0=>?_
  repeat'(first|apply Sp.h|refine Lk.r rfl ?_|refine Rf.mk rfl ?_|apply yc.mk|refine xT ?_|refine Ch.l ⟨rfl,rfl⟩ ?_|intro _)
  refine xW (hb) ?_
  rintro _ _ ⟨b,rfl,rfl,wU⟩
  cases b
  · repeat'(first|apply Sp.h|refine Lk.r rfl ?_|refine xN ?_|fail)
    exact⟨_,_,.one (.same (.z)),_,rfl,rfl,λh=>by cases h⟩
  have wU:=wU rfl
  repeat'(first|apply Sp.h|refine Lk.r rfl ?_|refine Rf.mk rfl ?_|refine xA ?_|refine xB ?_|(refine Bd.mk ?_ ?_ <;> intro _)|refine Im.mk λ_=>?_|refine xN ?_|(apply Cl.p (hc);focus repeat' constructor))
  all_goals first
    | exact⟨_,_,.one (.same (.z)),_,rfl,rfl,λh=>by cases h⟩
    | (refine⟨_,_,.one (.same (.z)),_,rfl,rfl,λh=>⟨wU,z6,z6,z6,λe he=>Classical.byContradiction λh9=>?_⟩⟩
       have h8:=(tT (p:=λe:yo=>decide (8 < e.yj.length)) (l:=l)).2 ⟨e,he,zT z6⟩
       simp at h
       omega)
noncomputable instance (l:List yC) (x:yC):Decidable (wj l x):=zC _
theorem YH(l:List yC)(x:yC)(hn:wj l x)(hl:l.length<=100000):y6 Tryz.prog 237 [oK l,mA x] (.yE [.val (.slice none 0 0),bl true]):=by
 refine zy.of pg U9 Tryz.func237 rfl Tryz.ntmps237 Tryz.results237 rfl λh0 G0 O0=>?_
 repeat'(first|apply Sp.h|refine Lk.r rfl ?_|refine Rf.mk rfl ?_|apply yc.mk|(apply Fk.r;focus repeat' first|infer_instance|constructor)|refine Rf.mk ⟨rfl,rfl,rfl⟩ ?_|intro _)
 rename_i b3 v
 apply CA.yR (m:=([]:List yC)) (g:=qX)
 focus(repeat constructor)
 focus rfl
 refine CA.loop (λq:Nat×Value×List yC×Bool=>⟨[(0,oK l),(3,pm b3),(6,.ow q.2.1),(7,bl q.2.2.2),(8,it q.1)],[yr b3 233 (qX x),yb q.2.1 233 4 q.2.2.1 qX]⟩)
  (λq=>q.1<=l.length/\q.2.2.1.length<=2 * q.1/\∀z∈l.take q.1,¬Nm z x) (λq=>l.length - q.1) (0,v,[],false) xE ⟨zZ _,by simp,by simp⟩ ?_
 rintro⟨i,w,out,done⟩ ⟨hi,ho,hq⟩
 simp only at hi ho hq
 simp only
 have yd:i < l.length:=by
  rcases Nat.lt_or_ge i l.length with h|h
  ·exact h
  ·exfalso
   obtain⟨y,hy,h9⟩:=hn
   refine hq y ?_ h9
   rw [List.take_of_length_le h];exact hy
 obtain⟨y,hy⟩:=zz yd
 by_cases yD:Nm y x
 ·obtain⟨h1,h2⟩:=yD
  repeat'(first|apply Sp.h|refine Lk.r rfl ?_|refine Rf.mk rfl ?_|refine xA ?_|refine yu.r rfl ?_|apply Im.mk|refine xT ?_|refine xI ?_|refine xN ?_|refine xD ?_|intro _)
  all_goals exact Fin.p rfl rfl
 have iK:y.rep≠x.rep∨y.num≠x.num:=by unfold Nm at yD;omega
 have lJ:∀z∈l.take (i+1),¬Nm z x:=by
  intro z hz
  rw [zK,hy] at hz
  rcases zV.1 hz with hz|hz
  ·exact hq z hz
  ·rw [zH.1 hz];exact yD
 by_cases xC:wC x y
 ·by_cases hr:y.rep=x.rep
  ·have jP:y.num≠x.num:=iK.resolve_left (λh=>h hr)
   cases done
   ·repeat'(first|apply Sp.h|refine Lk.r rfl ?_|refine Rf.mk rfl ?_|refine xA ?_|refine xB ?_|refine yu.r rfl ?_|refine xP ?_|refine Im.mk λ_=>?_|refine yc.mk λ_=>?_|refine xU ?_|refine xT ?_|refine xI ?_|refine Ce.r ?_|refine Ch.l ⟨rfl,rfl⟩ ?_|(apply Fk.r;focus repeat' first|infer_instance|constructor)|refine Rf.mk ⟨rfl,rfl⟩ ?_|refine Rf.mk ⟨rfl,rfl,rfl⟩ ?_|(apply Mp.lit;(focus repeat(first|exact yK.nil|(apply yK.cons;{exact zu})|(apply yK.inv;{exact z1};{exact zh}))))|refine xD ?_|refine xO ?_|(apply Cl.p (w8 _ _);focus repeat' constructor))
    all_goals exact PA.lp (i+1,_,_,_) xE ⟨⟨yd,by simp only [zP,List.length_singleton];omega,lJ⟩,by simp only;omega⟩
   ·repeat'(first|apply Sp.h|refine Lk.r rfl ?_|refine Rf.mk rfl ?_|refine xA ?_|refine xB ?_|refine yu.r rfl ?_|refine xP ?_|refine Im.mk λ_=>?_|refine yc.mk λ_=>?_|refine xU ?_|refine xT ?_|refine xI ?_|refine Ce.r ?_|refine Ch.l ⟨rfl,rfl⟩ ?_|(apply Fk.r;focus repeat' first|infer_instance|constructor)|refine Rf.mk ⟨rfl,rfl⟩ ?_|refine Rf.mk ⟨rfl,rfl,rfl⟩ ?_|(apply Mp.lit;(focus repeat(first|exact yK.nil|(apply yK.cons;{exact zu})|(apply yK.inv;{exact z1};{exact zh}))))|refine xD ?_|refine xO ?_|(apply Cl.p (w8 _ _);(focus repeat'(first|fail))))
    all_goals exact PA.lp (i+1,_,_,_) xE ⟨⟨yd,by simp only [zP,List.length_singleton];omega,lJ⟩,by simp only;omega⟩
  ·cases done
   ·repeat'(first|apply Sp.h|refine Lk.r rfl ?_|refine Rf.mk rfl ?_|refine xA ?_|refine xB ?_|refine yu.r rfl ?_|refine xP ?_|refine Im.mk λ_=>?_|refine yc.mk λ_=>?_|refine xU ?_|refine xT ?_|refine xI ?_|refine Ce.r ?_|refine Ch.l ⟨rfl,rfl⟩ ?_|(apply Fk.r;focus repeat' first|infer_instance|constructor)|refine Rf.mk ⟨rfl,rfl⟩ ?_|refine Rf.mk ⟨rfl,rfl,rfl⟩ ?_|(apply Mp.lit;(focus repeat(first|exact yK.nil|(apply yK.cons;{exact zu})|(apply yK.inv;{exact z1};{exact zh}))))|refine xD ?_|refine xO ?_|(apply Cl.p (w8 _ _);focus repeat' constructor))
    all_goals exact PA.lp (i+1,_,_,_) xE ⟨⟨yd,by simp only [zP,List.length_singleton];omega,lJ⟩,by simp only;omega⟩
   ·repeat'(first|apply Sp.h|refine Lk.r rfl ?_|refine Rf.mk rfl ?_|refine xA ?_|refine xB ?_|refine yu.r rfl ?_|refine xP ?_|refine Im.mk λ_=>?_|refine yc.mk λ_=>?_|refine xU ?_|refine xT ?_|refine xI ?_|refine Ce.r ?_|refine Ch.l ⟨rfl,rfl⟩ ?_|(apply Fk.r;focus repeat' first|infer_instance|constructor)|refine Rf.mk ⟨rfl,rfl⟩ ?_|refine Rf.mk ⟨rfl,rfl,rfl⟩ ?_|(apply Mp.lit;(focus repeat(first|exact yK.nil|(apply yK.cons;{exact zu})|(apply yK.inv;{exact z1};{exact zh}))))|refine xD ?_|refine xO ?_|(apply Cl.p (w8 _ _);(focus repeat'(first|fail))))
    all_goals exact PA.lp (i+1,_,_,_) xE ⟨⟨yd,by simp only [zP,List.length_singleton];omega,lJ⟩,by simp only;omega⟩
 ·by_cases hr:y.rep=x.rep
  ·have jP:y.num≠x.num:=iK.resolve_left (λh=>h hr)
   cases done
   ·repeat'(first|apply Sp.h|refine Lk.r rfl ?_|refine Rf.mk rfl ?_|refine xA ?_|refine xB ?_|refine yu.r rfl ?_|refine xP ?_|refine Im.mk λ_=>?_|refine yc.mk λ_=>?_|refine xU ?_|refine xT ?_|refine xI ?_|refine Ce.r ?_|refine Ch.l ⟨rfl,rfl⟩ ?_|(apply Fk.r;focus repeat' first|infer_instance|constructor)|refine Rf.mk ⟨rfl,rfl⟩ ?_|refine Rf.mk ⟨rfl,rfl,rfl⟩ ?_|(apply Mp.lit;(focus repeat(first|exact yK.nil|(apply yK.cons;{exact zu})|(apply yK.inv;{exact z1};{exact zh}))))|refine xD ?_|refine xO ?_|(apply Cl.p (w8 _ _);focus repeat' constructor))
    all_goals exact PA.lp (i+1,_,_,_) xE ⟨⟨yd,by simp only [zP,List.length_singleton];omega,lJ⟩,by simp only;omega⟩
   ·repeat'(first|apply Sp.h|refine Lk.r rfl ?_|refine Rf.mk rfl ?_|refine xA ?_|refine xB ?_|refine yu.r rfl ?_|refine xP ?_|refine Im.mk λ_=>?_|refine yc.mk λ_=>?_|refine xU ?_|refine xT ?_|refine xI ?_|refine Ce.r ?_|refine Ch.l ⟨rfl,rfl⟩ ?_|(apply Fk.r;focus repeat' first|infer_instance|constructor)|refine Rf.mk ⟨rfl,rfl⟩ ?_|refine Rf.mk ⟨rfl,rfl,rfl⟩ ?_|(apply Mp.lit;(focus repeat(first|exact yK.nil|(apply yK.cons;{exact zu})|(apply yK.inv;{exact z1};{exact zh}))))|refine xD ?_|refine xO ?_|(apply Cl.p (w8 _ _);(focus repeat'(first|fail))))
    all_goals exact PA.lp (i+1,_,_,_) xE ⟨⟨yd,by simp only [zP,List.length_singleton];omega,lJ⟩,by simp only;omega⟩
  ·cases done
   ·repeat'(first|apply Sp.h|refine Lk.r rfl ?_|refine Rf.mk rfl ?_|refine xA ?_|refine xB ?_|refine yu.r rfl ?_|refine xP ?_|refine Im.mk λ_=>?_|refine yc.mk λ_=>?_|refine xU ?_|refine xT ?_|refine xI ?_|refine Ce.r ?_|refine Ch.l ⟨rfl,rfl⟩ ?_|(apply Fk.r;focus repeat' first|infer_instance|constructor)|refine Rf.mk ⟨rfl,rfl⟩ ?_|refine Rf.mk ⟨rfl,rfl,rfl⟩ ?_|(apply Mp.lit;(focus repeat(first|exact yK.nil|(apply yK.cons;{exact zu})|(apply yK.inv;{exact z1};{exact zh}))))|refine xD ?_|refine xO ?_|(apply Cl.p (w8 _ _);focus repeat' constructor))
    all_goals exact PA.lp (i+1,_,_,_) xE ⟨⟨yd,by simp only [zP,List.length_singleton];omega,lJ⟩,by simp only;omega⟩
   ·repeat'(first|apply Sp.h|refine Lk.r rfl ?_|refine Rf.mk rfl ?_|refine xA ?_|refine xB ?_|refine yu.r rfl ?_|refine xP ?_|refine Im.mk λ_=>?_|refine yc.mk λ_=>?_|refine xU ?_|refine xT ?_|refine xI ?_|refine Ce.r ?_|refine Ch.l ⟨rfl,rfl⟩ ?_|(apply Fk.r;focus repeat' first|infer_instance|constructor)|refine Rf.mk ⟨rfl,rfl⟩ ?_|refine Rf.mk ⟨rfl,rfl,rfl⟩ ?_|(apply Mp.lit;(focus repeat(first|exact yK.nil|(apply yK.cons;{exact zu})|(apply yK.inv;{exact z1};{exact zh}))))|refine xD ?_|refine xO ?_|(apply Cl.p (w8 _ _);(focus repeat'(first|fail))))
    all_goals exact PA.lp (i+1,_,_,_) xE ⟨⟨yd,by simp only [zP,List.length_singleton];omega,lJ⟩,by simp only;omega⟩
def kQ(a b:yC):Prop:=b.time < a.time∨a.time=b.time/\b.rep < a.rep
instance (a b:yC):Decidable (kQ a b):=by unfold kQ;infer_instance
theorem Wa(a b:yC):y6 Tryz.prog 238 [mA a,mA b] (bl (decide (kQ a b))):=by
 refine zy.of pg ye Tryz.func238 rfl Tryz.ntmps238 Tryz.results238 rfl λh0 G0 O0=>?_
 repeat'(first|apply Sp.h|refine Lk.r rfl ?_|refine Rf.mk rfl ?_|refine xA ?_|refine xB ?_|apply Bd.mk|apply yc.mk|refine xT ?_|refine xN ?_|intro _)
 all_goals exact Fin.p rfl (vb (by first|exact(zT (by unfold kQ;omega)).symm|exact(zF (by unfold kQ;omega)).symm|exact zD.2 (by unfold kQ;omega)))
theorem RY{us:List qh}{c:Int}{k:Nat}{u:qh}(hu:us[k]?=some u)(hc:u.2.1=c)(hd:∀w∈us.drop (k+1),w.2.1≠c):uR us c=some u:=by
 have hk:=(zS.1 hu).1
 have h9:=List.drop_eq_getElem_cons hk
 rw [(zS.1 hu).2] at h9
 have pI:us=us.take k ++ u :: us.drop (k+1):=by rw [<-h9,List.take_append_drop]
 unfold uR
 rw [pI,List.reverse_append,List.reverse_cons,List.append_assoc,List.find?_append]
 have hn:(us.drop (k+1)).reverse.find? (λu=>decide (u.2.1=c))=none:=List.find?_eq_none.2 λw hw=>by
  simpa using hd w (List.mem_reverse.1 hw)
 rw [hn]
 simp [hc]
theorem aF{us:List qh}{c:Int}(hd:∀w∈us,w.2.1≠c):uR us c=none :=
 List.find?_eq_none.2 λw hw=>by simpa using hd w (List.mem_reverse.1 hw)
def di(us:List qh)(c:Int):qh:=(uR us c).getD (0,0,0)
theorem Th(us:List qh)(c:Int)(hl:us.length<=1000000):y6 Tryz.prog 199 [.sl 3 us tL,it c] (.yE [.agg (tL (di us c)),bl (uR us c).isSome]):=by
 refine zy.of pg ye Tryz.func199 rfl Tryz.ntmps199 Tryz.results199 rfl λh0 G0 O0=>?_
 repeat'(first|apply Sp.h|refine Lk.r rfl ?_|refine Rf.mk rfl ?_|apply Im.mk|apply yc.mk|refine xN ?_|refine xO ?_|intro _)
 rename_i b4 _
 refine CA.loop (λk:Nat=>⟨[(0,.sl 3 us tL),(1,it c),(4,pm b4),(6,it ((k:Int) - 1))],[yr b4 206 [it 0,it 0,it 0]]⟩) (λk=>k<=us.length/\∀w∈us.drop k,w.2.1≠c) (λk=>k) us.length xE ⟨Nat.le_refl _,by simp⟩ ?_
 intro k ⟨hk,hd⟩
 cases k with
 | zero =>
  have hn:=aF (us:=us) (c:=c) (by simpa using hd)
  rw [di,hn]
  repeat'(first|apply Sp.h|refine Lk.r rfl ?_|refine Rf.mk rfl ?_|refine xB ?_|refine xT ?_|(apply y4.r;focus repeat' constructor)|(apply Fk.r;focus repeat' first|infer_instance|constructor)|refine xN ?_|fail)
  exact Fin.p rfl rfl
 | succ k =>
  obtain⟨⟨u1,u2,u3⟩,hu⟩:=zz (l:=us) (i:=k) z6
  have e1:((k+1:Nat):Int) - 1=(k:Nat):=z6
  rw [e1]
  by_cases hc:u2=c
  ·have hs:=RY hu hc hd
   rw [di,hs]
   repeat'(first|apply Sp.h|refine Lk.r rfl ?_|refine Rf.mk rfl ?_|refine xA ?_|refine xT ?_|refine xI ?_|refine Ch.l ⟨rfl,rfl⟩ ?_|(apply y4.r;focus repeat' constructor)|refine xN ?_|fail)
   all_goals exact Fin.p rfl rfl
  ·repeat'(first|apply Sp.h|refine Lk.r rfl ?_|refine Rf.mk rfl ?_|refine xA ?_|refine xB ?_|refine xI ?_|refine xO ?_|fail)
   all_goals exact PA.lp k xE ⟨⟨z6,λw hw=>by
    have lK:k < us.length:=z6
    rw [List.drop_eq_getElem_cons lK,(zS.1 hu).2] at hw
    rcases List.mem_cons.1 hw with rfl|hw
    ·exact hc
    ·exact hd w hw⟩,z6⟩
noncomputable def tB(k:Int)(g:xp)(u:qh)(e:yo):xp×Bool :=
 if k=2/\u.1=0∨k=3/\u.1=1 then(if wj g.marks ⟨e.rep,e.num,e.time,0⟩ then(⟨g.put,g.drop,[]⟩,true) else(⟨g.put,g.drop,pF g.marks ⟨e.rep,e.num,e.time,0⟩⟩,false))
 else if k=2/\u.1=1 then(⟨false,g.drop,vl e.yj g.marks⟩,false)
 else if k=3/\u.1=0 then(⟨true,false,vl e.yj g.marks⟩,false)
 else if k=4/\u.1=2 then(match g.marks with
  | []=>(⟨g.put,g.drop,[⟨e.rep,e.num,e.time,u.2.2⟩]⟩,false)
  | y :: r=>(⟨g.put,g.drop,if kQ ⟨e.rep,e.num,e.time,u.2.2⟩ y then [⟨e.rep,e.num,e.time,u.2.2⟩] else y :: r⟩,false))
 else if k=5/\u.1=2 then(if wj (vl e.yj g.marks) ⟨e.rep,e.num,e.time,u.2.2⟩ then(⟨g.put,g.drop,[]⟩,true) else(⟨g.put,g.drop,pF (vl e.yj g.marks) ⟨e.rep,e.num,e.time,u.2.2⟩⟩,false))
 else(g,false)
theorem aE(k:Int)(g:xp)(u:qh)(e:yo)(hl:g.marks.length<=10000):y6 Tryz.prog 200 [it k,.agg (jN g),.agg (tL u),uL e] (.yE [.agg (jN (tB k g u e).1),bl (tB k g u e).2]):=by
 obtain⟨u1,u2,u3⟩:=u
 obtain⟨gp,gd,gm⟩:=g
 simp only at hl
 have mN:=UJ gm e.yj z6
 have qz:(vl e.yj gm).length<=gm.length:=List.length_filter_le _ _
 by_cases c1:k=2/\u1=0∨k=3/\u1=1
 ·by_cases hn:wj gm ⟨e.rep,e.num,e.time,0⟩
  ·have hF:tB k ⟨gp,gd,gm⟩ (u1,u2,u3) e=(⟨gp,gd,[]⟩,true):=by unfold tB;rw [if_pos c1,if_pos hn]
   rw [hF]
   have R9:=YH gm ⟨e.rep,e.num,e.time,0⟩ hn z6
   refine zy.conv (a:= .yE [.agg [bl gp,bl gd,.val (.slice none 0 0)],bl true]) (.yE (.cons (.agg (.cons (wV.refl _) (.cons (wV.refl _) (.cons wV.nil .nil)))) (.cons (wV.refl _) .nil))) ?_
   refine zy.of pg sY Tryz.func200 rfl Tryz.ntmps200 Tryz.results200 rfl λh0 G0 O0=>?_
   rcases c1 with⟨rfl,rfl⟩|⟨rfl,rfl⟩
   ·repeat'(first|apply Sp.h|refine Lk.r rfl ?_|refine Rf.mk rfl ?_|refine xA ?_|refine yc.mk λ_=>?_|refine xT ?_|refine Ch.l ⟨rfl,rfl⟩ ?_|refine xV ?_|(apply y4.r;focus repeat' constructor)|(apply Fk.r;focus repeat' first|infer_instance|constructor)|refine xN ?_|(apply Cl.p (mN);focus repeat' constructor)|(apply Cl.p (R9);focus repeat' constructor))
    all_goals exact Fin.p rfl rfl
   ·repeat'(first|apply Sp.h|refine Lk.r rfl ?_|refine Rf.mk rfl ?_|refine xA ?_|refine xB ?_|refine yc.mk λ_=>?_|refine xT ?_|refine Ch.l ⟨rfl,rfl⟩ ?_|refine xV ?_|(apply y4.r;focus repeat' constructor)|(apply Fk.r;focus repeat' first|infer_instance|constructor)|refine xN ?_|(apply Cl.p (mN);focus repeat' constructor)|(apply Cl.p (R9);focus repeat' constructor))
    all_goals exact Fin.p rfl rfl
  ·have hF:tB k ⟨gp,gd,gm⟩ (u1,u2,u3) e=(⟨gp,gd,pF gm ⟨e.rep,e.num,e.time,0⟩⟩,false):=by unfold tB;rw [if_pos c1,if_neg hn]
   rw [hF]
   have R9:=YG gm ⟨e.rep,e.num,e.time,0⟩ hn z6
   refine zy.of pg sY Tryz.func200 rfl Tryz.ntmps200 Tryz.results200 rfl λh0 G0 O0=>?_
   rcases c1 with⟨rfl,rfl⟩|⟨rfl,rfl⟩
   ·repeat'(first|apply Sp.h|refine Lk.r rfl ?_|refine Rf.mk rfl ?_|refine xA ?_|refine yc.mk λ_=>?_|refine xT ?_|refine Ch.l ⟨rfl,rfl⟩ ?_|refine xV ?_|(apply y4.r;focus repeat' constructor)|(apply Fk.r;focus repeat' first|infer_instance|constructor)|refine xN ?_|(apply Cl.p (mN);focus repeat' constructor)|(apply Cl.p (R9);focus repeat' constructor))
    all_goals exact Fin.p rfl rfl
   ·repeat'(first|apply Sp.h|refine Lk.r rfl ?_|refine Rf.mk rfl ?_|refine xA ?_|refine xB ?_|refine yc.mk λ_=>?_|refine xT ?_|refine Ch.l ⟨rfl,rfl⟩ ?_|refine xV ?_|(apply y4.r;focus repeat' constructor)|(apply Fk.r;focus repeat' first|infer_instance|constructor)|refine xN ?_|(apply Cl.p (mN);focus repeat' constructor)|(apply Cl.p (R9);focus repeat' constructor))
    all_goals exact Fin.p rfl rfl
 by_cases c2:k=2/\u1=1
 ·have hF:tB k ⟨gp,gd,gm⟩ (u1,u2,u3) e=(⟨false,gd,vl e.yj gm⟩,false):=by unfold tB;rw [if_neg c1,if_pos c2]
  rw [hF]
  obtain⟨rfl,rfl⟩:=c2
  refine zy.of pg sY Tryz.func200 rfl Tryz.ntmps200 Tryz.results200 rfl λh0 G0 O0=>?_
  repeat'(first|apply Sp.h|refine Lk.r rfl ?_|refine Rf.mk rfl ?_|refine xA ?_|refine xB ?_|refine yc.mk λ_=>?_|refine xT ?_|refine Ch.l ⟨rfl,rfl⟩ ?_|refine xV ?_|(apply y4.r;focus repeat' constructor)|(apply Fk.r;focus repeat' first|infer_instance|constructor)|refine xN ?_|(apply Cl.p (mN);focus repeat' constructor))
  all_goals exact Fin.p rfl rfl
 by_cases c3:k=3/\u1=0
 ·have hF:tB k ⟨gp,gd,gm⟩ (u1,u2,u3) e=(⟨true,false,vl e.yj gm⟩,false):=by unfold tB;rw [if_neg c1,if_neg c2,if_pos c3]
  rw [hF]
  obtain⟨rfl,rfl⟩:=c3
  refine zy.of pg sY Tryz.func200 rfl Tryz.ntmps200 Tryz.results200 rfl λh0 G0 O0=>?_
  repeat'(first|apply Sp.h|refine Lk.r rfl ?_|refine Rf.mk rfl ?_|refine xA ?_|refine xB ?_|refine yc.mk λ_=>?_|refine xT ?_|refine Ch.l ⟨rfl,rfl⟩ ?_|refine xV ?_|(apply y4.r;focus repeat' constructor)|(apply Fk.r;focus repeat' first|infer_instance|constructor)|refine xN ?_|(apply Cl.p (mN);focus repeat' constructor))
  all_goals exact Fin.p rfl rfl
 by_cases c4:k=4/\u1=2
 ·obtain⟨rfl,rfl⟩:=c4
  cases gm with
  | nil =>
   have hF:tB 4 ⟨gp,gd,[]⟩ (2,u2,u3) e=(⟨gp,gd,[⟨e.rep,e.num,e.time,u3⟩]⟩,false):=by unfold tB;rw [if_neg c1,if_neg c2,if_neg c3,if_pos ⟨rfl,rfl⟩]
   rw [hF]
   have hz:(((⟨gp,gd,[]⟩:xp).marks.length:Nat):Int)=0:=rfl
   refine zy.of pg sY Tryz.func200 rfl Tryz.ntmps200 Tryz.results200 rfl λh0 G0 O0=>?_
   (repeat'(first|(show CA _ _ (Code.region 17 _ _) _ _;apply z_.out)|apply Sp.h|refine Lk.r rfl ?_|refine Rf.mk rfl ?_|refine xA ?_|refine xB ?_|refine yu.r rfl ?_|refine Im.mk λ_=>?_|refine yc.mk λ_=>?_|refine xT ?_|refine Ch.l ⟨rfl,rfl⟩ ?_|refine xV ?_|(apply y4.r;focus repeat' constructor)|(apply Fk.r;focus repeat' first|infer_instance|constructor)|refine xN ?_|refine Rf.mk ⟨rfl,rfl,rfl⟩ ?_|refine xD ?_|(apply Cl.p (mN);focus repeat' constructor)));any_goals apply z_.mk
   all_goals
    rename_i b5 _ _ _ _ _ _
    apply CA.yR (m:= [(⟨e.rep,e.num,e.time,u3⟩:yC)]) (g:=qX)
    focus(repeat constructor)
    focus rfl
    (apply CA.own;(focus(apply OX.rD (b:=b5);{exact z1};(focus(repeat'(first|exact FX.nil|(apply FX.s1;{exact z1};{exact zb})|apply FX.k)));{exact z1})))
    repeat'(first|apply Sp.h|refine Lk.r rfl ?_|refine Rf.mk rfl ?_|refine xT ?_|refine Ch.l ⟨rfl,rfl⟩ ?_|(apply y4.r;focus repeat' constructor)|refine xN ?_|fail)
    all_goals exact Fin.p rfl rfl
  | cons y r =>
   have WS:=Wa ⟨e.rep,e.num,e.time,u3⟩ y
   have hz:¬(((⟨gp,gd,y :: r⟩:xp).marks.length:Nat):Int)=0:=by simp;omega
   have bo:(⟨gp,gd,y :: r⟩:xp).marks[0]?=some y:=rfl
   by_cases hy:kQ ⟨e.rep,e.num,e.time,u3⟩ y
   ·have hF:tB 4 ⟨gp,gd,y :: r⟩ (2,u2,u3) e=(⟨gp,gd,[⟨e.rep,e.num,e.time,u3⟩]⟩,false):=by unfold tB;rw [if_neg c1,if_neg c2,if_neg c3,if_pos ⟨rfl,rfl⟩];simp only;rw [if_pos hy]
    rw [hF]
    refine zy.of pg sY Tryz.func200 rfl Tryz.ntmps200 Tryz.results200 rfl λh0 G0 O0=>?_
    (repeat'(first|(show CA _ _ (Code.region 17 _ _) _ _;apply z_.out)|apply Sp.h|refine Lk.r rfl ?_|refine Rf.mk rfl ?_|refine xA ?_|refine xB ?_|refine yu.r rfl ?_|refine Im.mk λ_=>?_|refine yc.mk λ_=>?_|refine xT ?_|refine xI ?_|refine Ch.l ⟨rfl,rfl⟩ ?_|refine xV ?_|(apply y4.r;focus repeat' constructor)|(apply Fk.r;focus repeat' first|infer_instance|constructor)|refine xN ?_|refine Rf.mk ⟨rfl,rfl,rfl⟩ ?_|refine xD ?_|(apply Cl.p (mN);focus(repeat' constructor);done)|(apply Cl.p (WS);focus(repeat' constructor);done)));any_goals apply z_.mk
    all_goals
     rename_i b5 _ _ _ _ _ _
     apply CA.yR (m:= [(⟨e.rep,e.num,e.time,u3⟩:yC)]) (g:=qX)
     focus(repeat constructor)
     focus rfl
     (apply CA.own;(focus(apply OX.rD (b:=b5);{exact z1};(focus(repeat'(first|exact FX.nil|(apply FX.s1;{exact z1};{exact zb})|apply FX.k)));{exact z1})))
     repeat'(first|apply Sp.h|refine Lk.r rfl ?_|refine Rf.mk rfl ?_|refine xT ?_|refine Ch.l ⟨rfl,rfl⟩ ?_|(apply y4.r;focus repeat' constructor)|refine xN ?_|fail)
     all_goals exact Fin.p rfl rfl
   ·have hF:tB 4 ⟨gp,gd,y :: r⟩ (2,u2,u3) e=(⟨gp,gd,y :: r⟩,false):=by unfold tB;rw [if_neg c1,if_neg c2,if_neg c3,if_pos ⟨rfl,rfl⟩];simp only;rw [if_neg hy]
    rw [hF]
    refine zy.of pg sY Tryz.func200 rfl Tryz.ntmps200 Tryz.results200 rfl λh0 G0 O0=>?_
    repeat'(first|apply Sp.h|refine Lk.r rfl ?_|refine Rf.mk rfl ?_|refine xA ?_|refine xB ?_|refine yu.r rfl ?_|refine Im.mk λ_=>?_|refine yc.mk λ_=>?_|refine xT ?_|refine xI ?_|refine Ch.l ⟨rfl,rfl⟩ ?_|refine xV ?_|(apply y4.r;focus repeat' constructor)|(apply Fk.r;focus repeat' first|infer_instance|constructor)|refine xN ?_|refine xD ?_|(apply Cl.p (mN);focus repeat' constructor)|(apply Cl.p (WS);focus repeat' constructor))
    all_goals exact Fin.p rfl rfl
 by_cases c5:k=5/\u1=2
 ·by_cases hn:wj (vl e.yj gm) ⟨e.rep,e.num,e.time,u3⟩
  ·have hF:tB k ⟨gp,gd,gm⟩ (u1,u2,u3) e=(⟨gp,gd,[]⟩,true):=by unfold tB;rw [if_neg c1,if_neg c2,if_neg c3,if_neg c4,if_pos c5,if_pos hn]
   rw [hF]
   have R9:=YH (vl e.yj gm) ⟨e.rep,e.num,e.time,u3⟩ hn z6
   refine zy.conv (a:= .yE [.agg [bl gp,bl gd,.val (.slice none 0 0)],bl true]) (.yE (.cons (.agg (.cons (wV.refl _) (.cons (wV.refl _) (.cons wV.nil .nil)))) (.cons (wV.refl _) .nil))) ?_
   obtain⟨rfl,rfl⟩:=c5
   refine zy.of pg sY Tryz.func200 rfl Tryz.ntmps200 Tryz.results200 rfl λh0 G0 O0=>?_
   repeat'(first|apply Sp.h|refine Lk.r rfl ?_|refine Rf.mk rfl ?_|refine xA ?_|refine xB ?_|refine yc.mk λ_=>?_|refine xT ?_|refine Ch.l ⟨rfl,rfl⟩ ?_|refine xV ?_|(apply y4.r;focus repeat' constructor)|(apply Fk.r;focus repeat' first|infer_instance|constructor)|refine xN ?_|(apply Cl.p (mN);focus repeat' constructor)|(apply Cl.p (R9);focus repeat' constructor))
   all_goals exact Fin.p rfl rfl
  ·have hF:tB k ⟨gp,gd,gm⟩ (u1,u2,u3) e=(⟨gp,gd,pF (vl e.yj gm) ⟨e.rep,e.num,e.time,u3⟩⟩,false):=by unfold tB;rw [if_neg c1,if_neg c2,if_neg c3,if_neg c4,if_pos c5,if_neg hn]
   rw [hF]
   have R9:=YG (vl e.yj gm) ⟨e.rep,e.num,e.time,u3⟩ hn z6
   obtain⟨rfl,rfl⟩:=c5
   refine zy.of pg sY Tryz.func200 rfl Tryz.ntmps200 Tryz.results200 rfl λh0 G0 O0=>?_
   repeat'(first|apply Sp.h|refine Lk.r rfl ?_|refine Rf.mk rfl ?_|refine xA ?_|refine xB ?_|refine yc.mk λ_=>?_|refine xT ?_|refine Ch.l ⟨rfl,rfl⟩ ?_|refine xV ?_|(apply y4.r;focus repeat' constructor)|(apply Fk.r;focus repeat' first|infer_instance|constructor)|refine xN ?_|(apply Cl.p (mN);focus repeat' constructor)|(apply Cl.p (R9);focus repeat' constructor))
   all_goals exact Fin.p rfl rfl
 have hF:tB k ⟨gp,gd,gm⟩ (u1,u2,u3) e=(⟨gp,gd,gm⟩,false):=by unfold tB;rw [if_neg c1,if_neg c2,if_neg c3,if_neg c4,if_neg c5]
 rw [hF]
 refine zy.of pg sY Tryz.func200 rfl Tryz.ntmps200 Tryz.results200 rfl λh0 G0 O0=>?_
 repeat'(first|apply Sp.h|refine Lk.r rfl ?_|refine Rf.mk rfl ?_|refine xA ?_|refine xB ?_|(refine Bd.mk ?_ ?_ <;> intro _)|refine yc.mk λ_=>?_|refine xT ?_|refine Ch.l ⟨rfl,rfl⟩ ?_|(apply y4.r;focus repeat' constructor)|(apply Fk.r;focus repeat' first|infer_instance|constructor)|refine xN ?_|(apply Cl.p (mN);focus repeat' constructor))
 all_goals exact Fin.p rfl rfl
end Go.Proofs.YtmjllbjfkafhdaaGreatDoor
