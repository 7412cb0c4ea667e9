/- Part 16 of the ground of this proof: what its texts say of the model, the program and the plain data; conditions: those that are named. -/
import Derived.Test.YtmjllbjfkafhdaaGreatDoorT15
namespace Go.Proofs.YtmjllbjfkafhdaaGreatDoor
open Go Go.CF
theorem P7(sizes:List Int)(l:List ym):VX Tryz.prog 110 [ints sizes,xG l] True:=by
 refine zy.of pg ye Tryz.func110 rfl Tryz.ntmps110 Tryz.results110 rfl λh0 G0 O0=>?_
 repeat'(first|apply Sp.h|refine Lk.r rfl ?_|refine Rf.mk rfl ?_|fail)
 refine CA.loop (λi:Nat=>⟨[(0,ints sizes),(1,xG l),(5,it i)],[]⟩) (λi=>i<=l.length) (λi=>l.length - i) 0 xE (zZ _) ?_
 intro i hi
 by_cases yd:i < l.length
 ·obtain⟨t,ht⟩:=zz yd
  repeat'(first|apply Sp.h|refine Lk.r rfl ?_|refine Rf.mk rfl ?_|refine xA ?_|refine xB ?_|apply Bd.mk|apply Im.mk|refine xI ?_|refine xN ?_|refine xO ?_|intro _)
  all_goals first
   | exact PA.lp (i+1) xE ⟨yd,z6⟩
   | exact⟨_,_,.one (.same (.z)),_,rfl,rfl,λ_=>trivial⟩
 ·repeat'(first|apply Sp.h|refine Lk.r rfl ?_|refine Rf.mk rfl ?_|refine xA ?_|refine xB ?_|apply Bd.mk|apply Im.mk|refine xN ?_|intro _)
  all_goals exact⟨_,_,.one (.same (.z)),_,rfl,rfl,λ_=>trivial⟩
theorem Wz(m:y8):VX Tryz.prog 48 [wH m] (m.ops.length<=8):=by
 have h9:=P7 m.y9 m.tables
 refine zy.of pg ye Tryz.func48 rfl Tryz.ntmps48 Tryz.results48 rfl λh0 G0 O0=>?_
 by_cases wU:¬m.ops.length<=8
 ·repeat'(first|apply Sp.h|refine Lk.r rfl ?_|refine Rf.mk rfl ?_|refine xA ?_|refine xB ?_|apply Bd.mk|apply Im.mk|apply yc.mk|refine xT ?_|refine xN ?_|intro _)
  all_goals first
   | exact⟨_,_,.one (.same (.z)),_,rfl,rfl,λh=>by cases h⟩
   | exact(wU z6).elim
 have wU:m.ops.length<=8:=Classical.not_not.1 wU
 (repeat'(first|(show CA _ _ (Code.region 1 _ _) _ _;apply z_.out)|apply Sp.h|refine Lk.r rfl ?_|refine Rf.mk rfl ?_|apply yc.mk|intro _));any_goals apply z_.mk
 rename_i b1
 repeat'(first|apply Sp.h|refine Lk.r rfl ?_|refine Rf.mk rfl ?_|refine xA ?_|refine xB ?_|apply Bd.mk|apply Im.mk|refine xT ?_|refine xN ?_|intro _)
 all_goals try exact⟨_,_,.one (.same (.z)),_,rfl,rfl,λh=>by cases h⟩
 refine xW (h9) ?_
 rintro _ _ ⟨b,rfl,rfl,-⟩
 cases b
 ·repeat'(first|apply Sp.h|refine Lk.r rfl ?_|refine Rf.mk rfl ?_|refine xB ?_|refine xN ?_|fail)
  exact⟨_,_,.one (.same (.z)),_,rfl,rfl,λh=>by cases h⟩
 repeat'(first|apply Sp.h|refine Lk.r rfl ?_|refine Rf.mk rfl ?_|refine xA ?_|refine xB ?_|fail)
 refine CA.loop (λi:Nat=>⟨[(1,pm b1),(3,it i)],[mR b1 m]⟩) (λi=>i<=m.xm.length) (λi=>m.xm.length - i) 0 xE (zZ _) ?_
 intro i hi
 by_cases yd:i < m.xm.length
 ·obtain⟨t,ht⟩:=zz yd
  repeat'(first|apply Sp.h|refine Lk.r rfl ?_|refine Rf.mk rfl ?_|refine xA ?_|apply Bd.mk|apply Im.mk|refine xT ?_|refine xI ?_|refine xN ?_|refine xO ?_|intro _)
  all_goals first
   | exact PA.lp (i+1) xE ⟨yd,z6⟩
   | exact⟨_,_,.one (.same (.z)),_,rfl,rfl,λh=>by cases h⟩
 repeat'(first|apply Sp.h|refine Lk.r rfl ?_|refine Rf.mk rfl ?_|refine xB ?_|apply Im.mk|refine xT ?_|intro _)
 refine CA.loop (λi:Nat=>⟨[(1,pm b1),(4,it i)],[mR b1 m]⟩) (λi=>i<=m.cons.length) (λi=>m.cons.length - i) 0 xE (zZ _) ?_
 intro i hi
 by_cases yd:i < m.cons.length
 ·obtain⟨t,ht⟩:=zz yd
  repeat'(first|apply Sp.h|refine Lk.r rfl ?_|refine Rf.mk rfl ?_|refine xA ?_|apply Bd.mk|apply Im.mk|refine xT ?_|refine xI ?_|refine xN ?_|refine xO ?_|intro _)
  all_goals first
   | exact PA.lp (i+1) xE ⟨yd,z6⟩
   | exact⟨_,_,.one (.same (.z)),_,rfl,rfl,λh=>by cases h⟩
 repeat'(first|apply Sp.h|refine Lk.r rfl ?_|refine Rf.mk rfl ?_|refine xB ?_|apply Im.mk|refine xT ?_|intro _)
 refine CA.loop (λi:Nat=>⟨[(1,pm b1),(5,it i)],[mR b1 m]⟩) (λi=>i<=m.ops.length) (λi=>m.ops.length - i) 0 xE (zZ _) ?_
 intro i hi
 by_cases yd:i < m.ops.length
 ·obtain⟨t,ht⟩:=zz yd
  repeat'(first|apply Sp.h|refine Lk.r rfl ?_|refine Rf.mk rfl ?_|refine xA ?_|refine xB ?_|apply Bd.mk|apply Im.mk|refine xT ?_|refine xI ?_|refine xN ?_|refine xO ?_|intro _)
  all_goals first
   | exact PA.lp (i+1) xE ⟨yd,z6⟩
   | exact⟨_,_,.one (.same (.z)),_,rfl,rfl,λh=>by cases h⟩
 repeat'(first|apply Sp.h|refine Lk.r rfl ?_|refine Rf.mk rfl ?_|refine xB ?_|apply Im.mk|refine xT ?_|intro _)
 refine CA.loop (λi:Nat=>⟨[(1,pm b1),(6,it i)],[mR b1 m]⟩) (λi=>i<=m.yP.length) (λi=>m.yP.length - i) 0 xE (zZ _) ?_
 intro i hi
 by_cases yd:i < m.yP.length
 ·obtain⟨a,ha⟩:=zz yd
  (repeat'(first|(show CA _ _ (Code.region 22 _ _) _ _;apply z_.out)|apply Sp.h|refine Lk.r rfl ?_|refine Rf.mk rfl ?_|refine xA ?_|apply Im.mk|apply yc.mk|refine xT ?_|refine xI ?_|refine Ch.r ?_|(apply y4.r;focus repeat' constructor)|refine xN ?_|intro _));any_goals apply z_.mk
  rename_i b7
  repeat'(first|apply Sp.h|refine Lk.r rfl ?_|refine Rf.mk rfl ?_|refine xA ?_|refine xB ?_|apply Bd.mk|apply Im.mk|refine xT ?_|refine xI ?_|refine xN ?_|intro _)
  all_goals try exact⟨_,_,.one (.same (.z)),_,rfl,rfl,λh=>by cases h⟩
  refine CA.loop (λk:Nat=>⟨[(1,pm b1),(6,it i),(7,pm b7),(8,it k)],[mR b1 m,yr b7 140 (il a.xu)]⟩) (λk=>k<=a.xu.hold.length) (λk=>a.xu.hold.length - k) 0 xE (zZ _) ?_
  intro k hk
  by_cases rz:k < a.xu.hold.length
  ·obtain⟨r,hr⟩:=zz rz
   repeat'(first|apply Sp.h|refine Lk.r rfl ?_|refine Rf.mk rfl ?_|refine xA ?_|apply Bd.mk|apply Im.mk|refine xT ?_|refine xI ?_|refine xN ?_|refine xO ?_|intro _)
   all_goals first
    | exact PA.lp (k+1) xE ⟨rz,z6⟩
    | exact⟨_,_,.one (.same (.z)),_,rfl,rfl,λh=>by cases h⟩
  repeat'(first|apply Sp.h|refine Lk.r rfl ?_|refine Rf.mk rfl ?_|refine xB ?_|apply Im.mk|refine xT ?_|refine xO ?_|intro _)
  exact PA.lp (i+1) xE ⟨yd,z6⟩
 repeat'(first|apply Sp.h|refine Lk.r rfl ?_|refine Rf.mk rfl ?_|refine xB ?_|apply Im.mk|refine xT ?_|refine xN ?_|intro _)
 exact⟨_,_,.one (.same (.z)),_,rfl,rfl,λ_=>wU⟩
theorem IE(e:yo):y6 Tryz.prog 50 [uL e] (.val (.bool (decide (8 < e.yj.length)))):=by
 refine zy.of pg ye Tryz.func50 rfl Tryz.ntmps50 Tryz.results50 rfl λh0 G0 O0=>?_
 repeat'(first|apply Sp.h|refine Lk.r rfl ?_|refine Rf.mk rfl ?_|apply Im.mk|apply yc.mk|refine xT ?_|refine xN ?_|intro _)
 exact Fin.p rfl (vb (zD.2 z6))
theorem ec{g:FuncId}{p:yo->Bool}(hg:∀e,y6 Tryz.prog g [uL e] (.val (.bool (p e))))(he:en g=true)(l:List yo) :
  y6 Tryz.prog 49 [vm l,.fn g []] (.val (.bool (decide (xw p l < l.length)))):=by
 have hi:y6 Tryz.prog 111 [vm l,.fn g []] (.val (.int .i64 (wW p l))):=by
  refine zy.of pg ye Tryz.func111 rfl Tryz.ntmps111 Tryz.results111 rfl λh0 G0 O0=>?_
  repeat'(first|apply Sp.h|refine Lk.r rfl ?_|refine Rf.mk rfl ?_|apply Im.mk|intro _)
  rename_i V8
  refine CA.loop (λi:Nat=>⟨[(0,vm l),(1,.fn g []),(7,.val (.int .i64 l.length)),(8,.val (.int .i64 i))],[]⟩)
   (λi=>i<=l.length/\∀j y,j < i->l[j]?=some y->p y=false) (λi=>l.length - i) 0 xE ⟨zZ _,λj y h=>z6⟩ ?_
  rintro i ⟨hi,hj⟩
  by_cases yd:i < l.length
  ·obtain⟨e,hx⟩:=zz yd
   repeat'(first|apply Sp.h|refine Lk.r rfl ?_|refine Rf.mk rfl ?_|refine xA ?_|(refine Bd.mk ?_ ?_ <;> intro _)|refine xI ?_|refine Ch.l ⟨rfl,rfl⟩ ?_|refine xN ?_|(apply Rf.mk;{exact z8})|refine xO ?_|(apply Cl.p (hg e);focus repeat' constructor))
   ·rename_i hp
    exact Fin.p rfl (by rw [wW,uA hx hp hj,if_pos yd])
   ·rename_i hp
    exact PA.lp (i+1) xE ⟨⟨yd,yg hx hj (by simpa using hp)⟩,z6⟩
  ·repeat'(first|apply Sp.h|refine Lk.r rfl ?_|refine Rf.mk rfl ?_|refine xB ?_|refine xN ?_|fail)
   exact Fin.p rfl (by rw [wW,wL (λx hx=>by obtain⟨j,hx⟩:=zO hx;exact hj j x (by have:=(zS.1 hx).1;omega) hx),if_neg z6])
 refine zy.of pg ye Tryz.func49 rfl Tryz.ntmps49 Tryz.results49 rfl λh0 G0 O0=>?_
 repeat'(first|apply Sp.h|refine Lk.r rfl ?_|refine Rf.mk rfl ?_|refine xN ?_|(apply Cl.p (hi);focus repeat' constructor))
 refine Fin.p rfl (vb (zD.2 ?_))
 unfold wW
 split <;> omega
structure z0v (m:y8) (ld:List Int) (l:List yo) (order:List Int):Prop where
 fo:m.ops.length<=8
 fd:ld.length<=150
 fl:l.length<=12
 fr:order.length<=20
 fp:∀e∈l,e.yj.length<=8
theorem P6(m:y8)(ld:List Int)(l:List yo)(order:List Int):VX Tryz.prog 10 [wH m,ints ld,vm l,MC order] (z0v m ld l order):=by
  have hb:=Wz m
  have hc:=ec IE rfl l
  refine zy.of pg ye Tryz.func10 rfl Tryz.ntmps10 Tryz.results10 rfl λh0 G0 O0=>?_
  repeat'(first|apply Sp.h|refine Lk.r rfl ?_|refine Rf.mk rfl ?_|apply yc.mk|refine xT ?_|refine Ch.l ⟨rfl,rfl⟩ ?_|intro _)
  refine xW (hb) ?_
  rintro _ _ ⟨b,rfl,rfl,wU⟩
  cases b
  · repeat'(first|apply Sp.h|refine Lk.r rfl ?_|refine xN ?_|fail)
    exact⟨_,_,.one (.same (.z)),_,rfl,rfl,λh=>by cases h⟩
  have wU:=wU rfl
  repeat'(first|apply Sp.h|refine Lk.r rfl ?_|refine Rf.mk rfl ?_|refine xA ?_|refine xB ?_|(refine Bd.mk ?_ ?_ <;> intro _)|refine Im.mk λ_=>?_|refine xN ?_|(apply Cl.p (hc);focus repeat' constructor))
  all_goals first
    | exact⟨_,_,.one (.same (.z)),_,rfl,rfl,λh=>by cases h⟩
    | (refine⟨_,_,.one (.same (.z)),_,rfl,rfl,λh=>⟨wU,z6,z6,z6,λe he=>Classical.byContradiction λh9=>?_⟩⟩
       have h8:=(tT (p:=λe:yo=>decide (8 < e.yj.length)) (l:=l)).2 ⟨e,he,zT z6⟩
       simp at h
       omega)
end Go.Proofs.YtmjllbjfkafhdaaGreatDoor
set_option maxRecDepth 100000
set_option maxHeartbeats 80000000
namespace Go.Proofs.YtmjllbjfkafhdaaGreatDoor
open Go Go.CF
theorem XH(m:y8)(ld:List Int)(l:List yo)(hm:nR m)(hl:ld.length=xk m)(ku:l.length<=1000)(h:∀e∈l,rE m (e.yj.length:Nat) e):y6 Tryz.prog 32 [wH m,ints ld,vm l] (.yE [ints (l.foldl (xY m) ld),it 0]):=by
 have eJ:=hm.str
 have yL:=aH m hm.lay
 refine zy.Gy (T:=3) (by rw [po];omega) ?_
 refine zy.of pg EN Tryz.func32 rfl Tryz.ntmps32 Tryz.results32 rfl λh0 G0 O0=>?_
 repeat'(first|apply Sp.h|refine Lk.r rfl ?_|refine Rf.mk rfl ?_|refine xA ?_|refine xP ?_|refine Im.mk λ_=>?_|refine yc.mk λ_=>?_|refine xU ?_|refine xT ?_|refine Ce.l rfl ?_|refine Ch.l ⟨rfl,rfl⟩ ?_|(apply Fk.r;focus repeat' first|infer_instance|constructor)|refine Rf.mk ⟨rfl,rfl⟩ ?_|refine Rf.mk ⟨rfl,rfl,rfl⟩ ?_|refine Mp.same ?_|(apply Cl.p (yL);focus repeat' constructor))
 rename_i b3 _ _ u
 refine CA.loop (λi:Nat=>⟨[(2,vm l),(3,pm b3),(8,.ow u),(9,it i)],[mR b3 m,yb u 3 1 ((l.take i).foldl (xY m) ld) xL]⟩) (λi=>i<=l.length) (λi=>l.length - i) 0 xE (zZ _) ?_
 intro i hi
 by_cases yd:i < l.length
 rotate_left
 ·have vk:i=l.length:=z6
  subst vk
  rw [zL]
  repeat'(first|apply Sp.h|refine Lk.r rfl ?_|refine Rf.mk rfl ?_|refine xB ?_|apply Im.mk|refine xN ?_|intro _)
  exact⟨_,_,.yE (.same (.same (.z))),_,rfl,rfl⟩
 obtain⟨e,he⟩:=zz yd
 have rB:=h e (zM he)
 have qx:=jC m (e.yj.length:Nat) e
 rw [zT rB] at qx
 have qZ:((l.take i).foldl (xY m) ld).length=xk m:=by rw [po];exact hl
 have xe:=Z1 (m:=m) he ld
 obtain⟨s,hs⟩:∃s,s=(l.take i).foldl (xY m) ld:=⟨_,rfl⟩
 rw [<-hs] at qZ xe ⊢
 by_cases hk:e.kind=0
 rotate_left
 ·have qn:xY m s e=s:=if_neg hk
  rw [qn] at xe
  repeat'(first|apply Sp.h|refine Lk.r rfl ?_|refine Rf.mk rfl ?_|refine xA ?_|refine xB ?_|refine yu.r rfl ?_|refine Im.mk λ_=>?_|refine xT ?_|refine xI ?_|refine Ch.l ⟨rfl,rfl⟩ ?_|refine xD ?_|refine xO ?_|(apply Cl.p (qx);focus repeat' constructor))
  rw [<-xe]
  all_goals exact PA.lp (i+1) xE ⟨yd,z6⟩
 have eN:=nq rB.1 hk
 have Dh:=rB.2.2 hk
 obtain⟨a,ha⟩:=zz (l:=m.yP) (i:=e.action.toNat) z6
 have hd:=kh ha
 have MR:=hm.xu a (zM ha)
 have qn:xY m s e=vF s a.xu.delta:=by rw [xY,if_pos hk,hd]
 repeat'(first|apply Sp.h|refine Lk.r rfl ?_|refine Rf.mk rfl ?_|refine xA ?_|refine yu.r rfl ?_|refine Im.mk λ_=>?_|refine xT ?_|refine xI ?_|(apply Ix.r;{exact z8};{exact z6})|refine Ch.l ⟨rfl,rfl⟩ ?_|refine xD ?_|(apply Cl.p (qx);focus repeat' constructor))
 refine CA.loop (λk:Nat=>⟨[(2,vm l),(3,pm b3),(8,.ow u),(9,it i),(10,yO a.xu.delta),(11,it k)],[mR b3 m,yb u 3 1 (vF s (a.xu.delta.take k)) xL]⟩) (λk=>k<=a.xu.delta.length) (λk=>a.xu.delta.length - k) 0 xE (zZ _) ?_
 intro k lK
 have hlen:=sM (a.xu.delta.take k) s
 by_cases MO:k < a.xu.delta.length
 ·obtain⟨p,hp⟩:=zz MO
  obtain⟨p1,p2⟩:=MR.d p (zM hp)
  obtain⟨z,hz⟩:=zz (l:=vF s (a.xu.delta.take k)) (i:=p.1.toNat) z6
  have HZ:=pr (s:=s) hp
  rw [show o3 (vF s (a.xu.delta.take k)) p=(vF s (a.xu.delta.take k)).set p.1.toNat (IntKind.i64.wrap (z+p.2)) by rw [o3,hz];rfl] at HZ
  repeat'(first|apply Sp.h|refine Lk.r rfl ?_|refine Rf.mk rfl ?_|refine xA ?_|refine yu.r rfl ?_|apply Im.mk|refine xU ?_|refine xI ?_|(apply Ix.r;{exact z8};{exact z6})|refine xJ ?_|refine xD ?_|intro _)
  refine⟨?_⟩
  repeat'(first|apply Sp.h|refine Lk.r rfl ?_|refine Rf.mk rfl ?_|refine yu.r rfl ?_|refine xU ?_|(apply Ix.r;{exact z8};{exact z6})|refine xJ ?_|refine xV ?_|refine Up.r rfl ?_|refine xO ?_|fail)
  rw [<-HZ]
  all_goals exact PA.lp (k+1) xE ⟨MO,z6⟩
 ·have mO:k=a.xu.delta.length:=z6
  subst mO
  rw [zL,<-qn,<-xe]
  repeat'(first|apply Sp.h|refine Lk.r rfl ?_|refine Rf.mk rfl ?_|refine xB ?_|apply Im.mk|refine xO ?_|intro _)
  exact PA.lp (i+1) xE ⟨yd,z6⟩
def z1w(c:List Int):Int:=c.foldl (· + ·) 0
theorem z1A{c:List Int}{i:Nat}{x:Int}(h:c[i]?=some x):z1w (c.take (i+1))=z1w (c.take i)+x:=by
 unfold z1w
 rw [zK,h,Option.toList_some,List.foldl_append]
 rfl
theorem z2z{c:List Int}(h:vY c) :∀i,i<=c.length->0<=z1w (c.take i)/\z1w (c.take i)<=1024 * (i:Int):=by
 intro i
 induction i with
 | zero=>intro _;simp [z1w]
 | succ i ih =>
  intro hi
  obtain⟨x,hx⟩:=zz (l:=c) (i:=i) z6
  have h1:=ih z6
  have h2:=h.1 x (zM hx)
  unfold tg at h2
  rw [z1A hx]
  omega
theorem z2E(c:List Int)(h:vY c):y6 Tryz.prog 76 [ints c] (it (z1w c)):=by
 have hv:=uB c
 rw [zT h] at hv
 have h5:=h.2
 refine zy.of pg ye Tryz.func76 rfl Tryz.ntmps76 Tryz.results76 rfl λh0 G0 O0=>?_
 repeat'(first|apply Sp.h|refine Lk.r rfl ?_|refine Rf.mk rfl ?_|fail)
 refine CA.loop (λi:Nat=>⟨[(0,ints c),(3,it (z1w (c.take i))),(4,it i)],[]⟩) (λi=>i<=c.length) (λi=>c.length - i) 0 xE (zZ _) ?_
 intro i hi
 have hb:=z2z h i hi
 by_cases yd:i < c.length
 ·obtain⟨x,hx⟩:=zz yd
  have h2:=h.1 x (zM hx)
  unfold tg at h2
  repeat'(first|apply Sp.h|refine Lk.r rfl ?_|refine Rf.mk rfl ?_|refine xA ?_|refine Im.mk λ_=>?_|refine xI ?_|refine xO ?_|(apply Cl.p (hv);focus repeat' constructor))
  rw [<-z1A hx]
  all_goals exact PA.lp (i+1) xE ⟨yd,z6⟩
 ·have vk:i=c.length:=z6
  subst vk
  rw [zL]
  repeat'(first|apply Sp.h|refine Lk.r rfl ?_|refine Rf.mk rfl ?_|refine xB ?_|refine Im.mk λ_=>?_|refine xN ?_|(apply Cl.p (hv);(focus repeat'(first|fail))))
  all_goals exact Fin.p rfl rfl
theorem cover{α:Type}[DecidableEq α] :∀(N A:List α),N.Nodup->(∀x∈N,x∈A)->A.length<=N.length->∀a∈A,a∈N:=by
 intro N
 induction N with
 | nil =>
  intro A _ _ hl a ha
  rw [List.length_nil] at hl
  rw [zQ (by omega:A.length=0)] at ha
  cases ha
 | cons x N ih =>
  intro A hn hs hl a ha
  obtain⟨h1,h2⟩:=List.nodup_cons.1 hn
  by_cases hax:a=x
  ·rw [hax];simp
  have hxA:=hs x zd
  have hle:=List.length_erase_of_mem hxA
  have hp:=List.length_pos_of_mem hxA
  rw [List.length_cons] at hl
  refine List.mem_cons_of_mem _ (ih (A.erase x) h2 (λy hy=>?_) z6 a ((List.mem_erase_of_ne hax).2 ha))
  exact(List.mem_erase_of_ne (λh:y=x=>h1 (by rw [<-h];exact hy))).2 (hs y (List.mem_cons_of_mem _ hy))
def z2s:List Int->Nat->List (List Int)
 | [],_=> []
 | n :: c,r=>(List.range n.toNat).map (λk:Nat=> [(r:Int),(k:Int)+1]) ++ z2s c (r+1)
theorem foldl_add :∀(c:List Int) (a:Int),c.foldl (· + ·) a=a+c.foldl (· + ·) 0:=by
 intro c
 induction c with
 | nil=>intro a;simp
 | cons x c ih=>intro a;rw [List.foldl_cons,List.foldl_cons,ih,ih (0+x)];omega
theorem z2G :∀(c:List Int) (r:Nat),(∀x∈c,0<=x)->((z2s c r).length:Int)=z1w c:=by
 intro c
 induction c with
 | nil=>intro r _;rfl
 | cons x c ih =>
  intro r h
  have h0:=h x zd
  have hi:=ih (r+1) λy hy=>h y (List.mem_cons_of_mem _ hy)
  unfold z1w at hi ⊢
  rw [List.foldl_cons,foldl_add,z2s,zP,List.length_map,List.length_range]
  omega
theorem z1I :∀(c:List Int) (r q:Nat) (n i:Int),c[q]?=some n->1<=i->i<=n-> [((r+q:Nat):Int),i]∈z2s c r:=by
 intro c
 induction c with
 | nil=>intro r q n i h;cases h
 | cons x c ih =>
  intro r q n i h h1 h2
  cases q with
  | zero =>
   cases h
   refine zV.2 (.inl (List.mem_map.2 ⟨(i - 1).toNat,List.mem_range.2 z6, ?_⟩))
   rw [show(((i - 1).toNat:Nat):Int)+1=i by omega];rfl
  | succ q =>
   refine zV.2 (.inr ?_)
   have:=ih (r+1) q n i h h1 h2
   rw [show r+1+q=r+(q+1) by omega] at this
   exact this
structure CkE (l:List yo) (j:Nat) (e:yo):Prop where
 f:we e
 n:e.yj.length=n0 l
 u:∀(k:Nat) d,l[k]?=some d->k≠j->nm d≠nm e
 b:∀d∈l,eY d e->Ins d.yj e.yj/\d.time < e.time
 c:((l.filter λd=>decide (eY d e)).length:Int)=z1w e.yj
theorem z29{l:List yo}(hl:l.length<=1024)(h:∀j e,l[j]?=some e->CkE l j e):ta l:=by
 have hu:RH l:=λi j a b ha hb hn=>Classical.byContradiction λu5=>(h j b hb).u i a ha u5 hn
 refine⟨hl,hu,λe he=>?_,λe he r n hr i h1 h2=>?_⟩
 ·obtain⟨j,hj⟩:=zO he
  exact⟨(h j e hj).f,(h j e hj).n⟩
 obtain⟨j,hj⟩:=zO he
 have hk:=h j e hj
 have hN:((l.filter λd=>decide (eY d e)).map nm).Nodup:=by
  have Zo:(l.map nm).Nodup:=by
   rw [List.nodup_iff_pairwise_ne,List.pairwise_map,List.pairwise_iff_getElem]
   intro a b ha hb pz vB
   have:=hu a b l[a] l[b] (zE ha) (zE hb) vB
   omega
  exact Zo.sublist (List.filter_sublist.map nm)
 have qm:∀x∈(l.filter λd=>decide (eY d e)).map nm,x∈z2s e.yj 0:=by
  intro x hx
  obtain⟨d,hd,rfl⟩:=List.mem_map.1 hx
  obtain⟨Og,hd2⟩:=List.mem_filter.1 hd
  obtain⟨_,_,_,g2,g3,y,g4,g5⟩:=of_decide_eq_true hd2
  have:=z1I e.yj 0 d.rep.toNat y d.num g4 g3 g5
  rw [show((0+d.rep.toNat:Nat):Int)=d.rep by omega] at this
  exact this
 have hlen:=z2G e.yj 0 λx hx=>by have:=hk.f.1.1 x hx;unfold tg at this;omega
 have hc:=hk.c
 have yd:=cover _ _ hN qm (by rw [List.length_map];omega) _ (z1I e.yj 0 r n i hr h1 h2)
 obtain⟨d,hd,hdn⟩:=List.mem_map.1 yd
 obtain⟨Og,hd2⟩:=List.mem_filter.1 hd
 have z3p:d.rep=((0+r:Nat):Int)/\d.num=i:=by simpa [nm] using hdn
 obtain⟨j2,Ht⟩:=zO Og
 have lK:=h j2 d Ht
 obtain⟨b1,b2⟩:=hk.b d Og (of_decide_eq_true hd2)
 exact⟨d,Og,z6,z3p.2,⟨(PC _ _).2 ⟨lK.f.1,hk.f.1,by rw [lK.n,hk.n]⟩,b1⟩,b2⟩
theorem z1y(l:List yo):VX Tryz.prog 23 [vm l] (ta l):=by
 refine zy.of pg z3d Tryz.func23 rfl Tryz.ntmps23 Tryz.results23 rfl λh0 G0 O0=>?_
 by_cases hl:¬l.length<=1024
 ·repeat'(first|apply Sp.h|refine Lk.r rfl ?_|refine Rf.mk rfl ?_|refine xA ?_|apply Im.mk|refine xN ?_|intro _)
  all_goals first
   | exact⟨_,_,.one (.same (.z)),_,rfl,rfl,λh=>by cases h⟩
   | exact(hl z6).elim
 have hl:l.length<=1024:=Classical.not_not.1 hl
 repeat'(first|apply Sp.h|refine Lk.r rfl ?_|refine Rf.mk rfl ?_|refine xB ?_|apply Im.mk|intro _)
 all_goals try exact(by omega:False).elim
 refine CA.loop (λi:Nat=>⟨[(0,vm l),(3,it i)],[]⟩) (λi=>i<=l.length/\∀j e,j < i->l[j]?=some e->CkE l j e) (λi=>l.length - i) 0 xE ⟨zZ _,λj e h=>z6⟩ ?_
 rintro i ⟨hi,lz⟩
 by_cases yd:i < l.length
 rotate_left
 ·have:i=l.length:=z6
  subst this
  have ue:ta l:=z29 hl λj e hj=>lz j e (zS.1 hj).1 hj
  repeat'(first|apply Sp.h|refine Lk.r rfl ?_|refine Rf.mk rfl ?_|refine xB ?_|apply Im.mk|refine xN ?_|intro _)
  exact⟨_,_,.one (.same (.z)),_,rfl,rfl,λ_=>ue⟩
 obtain⟨e,he⟩:=zz yd
 obtain⟨d,hd⟩:=zz (l:=l) (i:=0) z6
 have C5:n0 l=d.yj.length:=by rw [n0,hd];rfl
 have hfo:=mD e
 by_cases hf:we e
 rotate_left
 ·rw [zF hf] at hfo
  repeat'(first|apply Sp.h|refine Lk.r rfl ?_|refine Rf.mk rfl ?_|refine xA ?_|refine xB ?_|refine yu.r rfl ?_|refine Im.mk λ_=>?_|refine xI ?_|refine Ch.l ⟨rfl,rfl⟩ ?_|refine xN ?_|refine xD ?_|(apply Cl.p (hfo);focus repeat' constructor))
  all_goals exact⟨_,_,.one (.same (.z)),_,rfl,rfl,λh=>by cases h⟩
 rw [zT hf] at hfo
 have hcn:=z2E e.yj hf.1
 by_cases kq:e.yj.length=d.yj.length
 rotate_left
 ·repeat'(first|apply Sp.h|refine Lk.r rfl ?_|refine Rf.mk rfl ?_|refine xA ?_|refine xB ?_|refine yu.r rfl ?_|refine Im.mk λ_=>?_|refine xI ?_|refine Ch.l ⟨rfl,rfl⟩ ?_|refine xN ?_|refine xD ?_|(apply Cl.p (hfo);focus repeat' constructor))
  all_goals exact⟨_,_,.one (.same (.z)),_,rfl,rfl,λh=>by cases h⟩
 repeat'(first|apply Sp.h|refine Lk.r rfl ?_|refine Rf.mk rfl ?_|refine xA ?_|refine yu.r rfl ?_|refine Im.mk λ_=>?_|refine xI ?_|refine Ch.l ⟨rfl,rfl⟩ ?_|refine xD ?_|(apply Cl.p (hfo);focus repeat' constructor))
 all_goals try exact(by omega:False).elim
 obtain⟨c,hc⟩:∃c:Nat->Nat,c=λk=>((l.take k).filter λd=>decide (eY d e)).length:=⟨_,rfl⟩
 have bJ:c 0=0:=by rw [hc];rfl
 refine CA.loop (λk:Nat=>⟨[(0,vm l),(3,it i),(4,it (c k:Nat)),(5,it k)],[]⟩)
  (λk=>k<=l.length/\∀j x,j < k->l[j]?=some x->(j≠i->nm x≠nm e)/\(eY x e->Ins x.yj e.yj/\x.time < e.time)) (λk=>l.length - k) 0 (by rw [bJ];exact xE) ⟨zZ _,λj e h=>z6⟩ ?_
 rintro k ⟨hk,hkk⟩
 have qz:c k<=l.length:=by
  have h1:=List.length_filter_le (λd=>decide (eY d e)) (l.take k)
  rw [zN] at h1
  rw [hc]
  simp only
  omega
 by_cases rz:k < l.length
 ·obtain⟨x,hx⟩:=zz rz
  have YQ:=Yi x
  have vB:=Yi e
  have hbf:=Zd x e
  have z2V:=z27 x.yj e.yj
  have xe:c (k+1)=c k+if eY x e then 1 else 0:=by
   rw [hc]
   simp only
   rw [zK,hx,Option.toList_some,List.filter_append,zP]
   by_cases h:eY x e <;> simp [h]
  clear hc
  by_cases hB:eY x e
  ·rw [zT hB] at hbf
   rw [if_pos hB] at xe
   have u4:((c k:Nat):Int)+1=((c (k+1):Nat):Int):=z6
   by_cases O6:k=i
   ·subst O6
    rw [hx] at he
    cases he
    exact absurd hB.2.2 (Ts hf)
   ·have z3o:¬(k:Int)=(i:Int):=z6
    repeat'(first|apply Sp.h|refine Lk.r rfl ?_|refine Rf.mk rfl ?_|refine xA ?_|refine xB ?_|(refine Bd.mk ?_ ?_ <;> intro _)|refine yu.r rfl ?_|refine Im.mk λ_=>?_|refine xI ?_|refine Ch.l ⟨rfl,rfl⟩ ?_|refine xN ?_|refine xK ?_|(apply Kf.mk;{exact z7})|refine xD ?_|refine xO ?_|(apply Cl.p (YQ);{exact ze})|(apply Cl.p (vB);{exact ze})|(apply Cl.p (hbf);{exact ze})|(apply Cl.p (z2V);{exact ze}))
    all_goals first
     | exact⟨_,_,.one (.same (.z)),_,rfl,rfl,λh=>by cases h⟩
     | (exact PA.lp (k+1) (by rw [<-u4];exact xE) ⟨⟨rz,yg hx hkk ⟨λ_ h=>absurd (show [x.rep,x.num]= [e.rep,e.num] from h) z8,λ_=>⟨by assumption,z6⟩⟩⟩,z6⟩)
  ·rw [zF hB] at hbf
   rw [if_neg hB] at xe
   have u4:c k=c (k+1):=z6
   by_cases O6:k=i
   ·subst O6
    rw [hx] at he
    cases he
    repeat'(first|apply Sp.h|refine Lk.r rfl ?_|refine Rf.mk rfl ?_|refine xA ?_|refine xB ?_|refine yu.r rfl ?_|refine Im.mk λ_=>?_|refine xI ?_|refine Ch.l ⟨rfl,rfl⟩ ?_|refine xD ?_|refine xO ?_|(apply Cl.p (YQ);focus(repeat' constructor);done)|(apply Cl.p (vB);focus(repeat' constructor);done)|(apply Cl.p (hbf);focus(repeat' constructor);done)|(apply Cl.p (z2V);focus(repeat' constructor);done))
    all_goals first
     | exact⟨_,_,.one (.same (.z)),_,rfl,rfl,λh=>by cases h⟩
     | (exact PA.lp (k+1) (by rw [<-u4];exact xE) ⟨⟨rz,yg hx hkk ⟨λh=>absurd rfl h,λh=>absurd h hB⟩⟩,z6⟩)
   ·have z3o:¬(k:Int)=(i:Int):=z6
    repeat'(first|apply Sp.h|refine Lk.r rfl ?_|refine Rf.mk rfl ?_|refine xA ?_|refine xB ?_|(refine Bd.mk ?_ ?_ <;> intro _)|refine yu.r rfl ?_|refine Im.mk λ_=>?_|refine xI ?_|refine Ch.l ⟨rfl,rfl⟩ ?_|refine xN ?_|refine xK ?_|(apply Kf.mk;{exact z7})|refine xD ?_|refine xO ?_|(apply Cl.p (YQ);{exact ze})|(apply Cl.p (vB);{exact ze})|(apply Cl.p (hbf);{exact ze})|(apply Cl.p (z2V);{exact ze}))
    all_goals first
     | exact⟨_,_,.one (.same (.z)),_,rfl,rfl,λh=>by cases h⟩
     | (exact PA.lp (k+1) (by rw [<-u4];exact xE) ⟨⟨rz,yg hx hkk ⟨λ_ h=>absurd (show [x.rep,x.num]= [e.rep,e.num] from h) z8,λh=>absurd h hB⟩⟩,z6⟩)
 ·have:k=l.length:=z6
  subst this
  have ue:((c l.length:Nat):Int)=((l.filter λd=>decide (eY d e)).length:Nat):=by rw [hc];simp only [zL]
  clear hc
  repeat'(first|apply Sp.h|refine Lk.r rfl ?_|refine Rf.mk rfl ?_|refine xB ?_|(refine Bd.mk ?_ ?_ <;> intro _)|refine Im.mk λ_=>?_|refine xI ?_|refine xN ?_|refine xO ?_|(apply Cl.p (hcn);focus repeat' constructor))
  all_goals first
   | exact⟨_,_,.one (.same (.z)),_,rfl,rfl,λh=>by cases h⟩
   | exact PA.lp (i+1) xE ⟨⟨yd,yg he lz ⟨hf,z6,λj x hj py=>(hkk j x (zS.1 hj).1 hj).1 py,λx hx=>by
     obtain⟨j,hj⟩:=zO hx
     exact(hkk j x (zS.1 hj).1 hj).2,z6⟩⟩,z6⟩
noncomputable def pZ(m:y8):List vA:=(List.range (wB m true).length).map (λi:Nat=>((0:Int),(i:Int))) ++ (List.range (wB m false).length).map (λi:Nat=>((2:Int),(i:Int)))
theorem cd(m:y8):(pZ m).length<=256:=by
 have h1:=p9 m true
 have h2:=p9 m false
 simp only [pZ,zP,List.length_map,List.length_range]
 omega
theorem Dm{m:y8}(hx:xR m):sE m (pZ m):=by
 refine⟨hx,λq hq=>?_⟩
 unfold t_ qE
 rcases zV.1 hq with hq|hq
 ·obtain⟨i,hi,rfl⟩:=List.mem_map.1 hq
  have:=List.mem_range.1 hi
  simp only
  exact⟨z6,by simp <;> omega⟩
 ·obtain⟨i,hi,rfl⟩:=List.mem_map.1 hq
  have:=List.mem_range.1 hi
  simp only
  exact⟨z6,by simp <;> omega⟩
theorem fZ(m:y8)(wU:m.ops.length<=1000000000)(vL:xl m):y6 Tryz.prog 30 [wH m] (uI (pZ m)):=by
 have h1:=qR m wU vL
 have h2:=l8 m wU vL
 have WT:=p9 m true
 have ku:=p9 m false
 have hlen:=cd m
 unfold pZ at hlen ⊢
 generalize wB m true=R1 at h1 WT hlen ⊢
 generalize wB m false=R2 at h2 ku hlen ⊢
 refine zy.of pg ye Tryz.func30 rfl Tryz.ntmps30 Tryz.results30 rfl λh0 G0 O0=>?_
 (repeat'(first|(show CA _ _ (Code.region 2 _ _) _ _;apply z_.out)|apply Sp.h|refine Lk.r rfl ?_|refine Rf.mk rfl ?_|apply yc.mk|intro _));any_goals apply z_.mk
 rename_i b1
 refine CA.uV 3 102 2 qk rfl λv=>?_
 repeat'(first|apply Sp.h|refine Lk.r rfl ?_|refine Rf.mk rfl ?_|fail)
 refine CA.loop (λz:Nat×Value=>⟨[(1,pm b1),(3,.ow z.2),(4,it z.1)],[mR b1 m,yb z.2 102 2 ((List.range z.1).map λi:Nat=>((0:Int),(i:Int))) qk]⟩) (λz=>z.1<=R1.length) (λz=>R1.length - z.1) (0,v) xE (zZ _) ?_
 rintro⟨i,u⟩ hi
 simp only at hi
 simp only
 have bg:((List.range i).map λi:Nat=>((0:Int),(i:Int))).length=i:=by simp
 by_cases yd:i < R1.length
 ·have xe:(List.range (i+1)).map (λi:Nat=>((0:Int),(i:Int)))=(List.range i).map (λi:Nat=>((0:Int),(i:Int))) ++ [((0:Int),(i:Int))]:=by rw [List.range_succ,List.map_append];rfl
  repeat'(first|apply Sp.h|refine Lk.r rfl ?_|refine Rf.mk rfl ?_|refine xA ?_|refine xP ?_|refine Im.mk λ_=>?_|refine yc.mk λ_=>?_|refine xU ?_|refine xT ?_|refine Ce.r ?_|refine Ch.l ⟨rfl,rfl⟩ ?_|(apply Fk.r;focus repeat' first|infer_instance|constructor)|refine Rf.mk ⟨rfl,rfl⟩ ?_|refine Rf.mk ⟨rfl,rfl,rfl⟩ ?_|(apply Mp.lit;(focus repeat(first|exact yK.nil|(apply yK.cons;{exact zu})|(apply yK.inv;{exact z1};{exact zh}))))|refine xO ?_|(apply Cl.p (h1);focus repeat' constructor))
  rw [<-xe]
  exact PA.lp (i+1,_) xE ⟨yd,by simp only;omega⟩
 have:i=R1.length:=z6
 subst this
 repeat'(first|apply Sp.h|refine Lk.r rfl ?_|refine Rf.mk rfl ?_|refine xB ?_|refine Im.mk λ_=>?_|refine xT ?_|refine Ch.l ⟨rfl,rfl⟩ ?_|(apply Cl.p (h1);focus repeat' constructor))
 refine CA.loop (λz:Nat×Value=>⟨[(1,pm b1),(3,.ow z.2),(5,it z.1)],[mR b1 m,yb z.2 102 2 ((List.range R1.length).map (λi:Nat=>((0:Int),(i:Int))) ++ (List.range z.1).map λi:Nat=>((2:Int),(i:Int))) qk]⟩) (λz=>z.1<=R2.length) (λz=>R2.length - z.1) (0,u) (by simp only [List.range_zero,List.map_nil,List.append_nil];exact xE) (zZ _) ?_
 rintro⟨i,u⟩ hi
 simp only at hi
 simp only
 have z4j:((List.range R1.length).map (λi:Nat=>((0:Int),(i:Int))) ++ (List.range i).map λi:Nat=>((2:Int),(i:Int))).length=R1.length+i:=by simp
 by_cases yd:i < R2.length
 ·have xe:(List.range R1.length).map (λi:Nat=>((0:Int),(i:Int))) ++ (List.range (i+1)).map (λi:Nat=>((2:Int),(i:Int)))=((List.range R1.length).map (λi:Nat=>((0:Int),(i:Int))) ++ (List.range i).map (λi:Nat=>((2:Int),(i:Int)))) ++ [((2:Int),(i:Int))]:=by rw [List.range_succ,List.map_append,List.append_assoc];rfl
  repeat'(first|apply Sp.h|refine Lk.r rfl ?_|refine Rf.mk rfl ?_|refine xA ?_|refine xP ?_|refine Im.mk λ_=>?_|refine yc.mk λ_=>?_|refine xU ?_|refine xT ?_|refine Ce.r ?_|refine Ch.l ⟨rfl,rfl⟩ ?_|(apply Fk.r;focus repeat' first|infer_instance|constructor)|refine Rf.mk ⟨rfl,rfl⟩ ?_|refine Rf.mk ⟨rfl,rfl,rfl⟩ ?_|(apply Mp.lit;(focus repeat(first|exact yK.nil|(apply yK.cons;{exact zu})|(apply yK.inv;{exact z1};{exact zh}))))|refine xO ?_|(apply Cl.p (h2);focus repeat' constructor))
  rw [<-xe]
  exact PA.lp (i+1,_) xE ⟨yd,by simp only;omega⟩
 have:i=R2.length:=z6
 subst this
 repeat'(first|apply Sp.h|refine Lk.r rfl ?_|refine Rf.mk rfl ?_|refine xB ?_|refine Im.mk λ_=>?_|refine xT ?_|refine Ch.l ⟨rfl,rfl⟩ ?_|refine xN ?_|(apply Cl.p (h2);focus repeat' constructor))
 exact⟨_,_,.one (.fz z1 z6 (.z)),rfl,rfl⟩
theorem z15(a b:List Int):y6 Tryz.prog 72 [ints a,ints b] (bl (decide (a=b))):=by
 have h:=kg a b
 refine zy.of pg ye Tryz.func72 rfl Tryz.ntmps72 Tryz.results72 rfl λh0 G0 O0=>?_
 repeat'(first|apply Sp.h|refine Lk.r rfl ?_|refine Rf.mk rfl ?_|refine xN ?_|(apply Cl.p (h);focus repeat' constructor))
 exact Fin.p rfl rfl
theorem z10(a b:List (List Int)):y6 Tryz.prog 22 [vW a,vW b] (bl (decide (a=b))):=by
 have he:y6 Tryz.prog 71 [vW a,vW b,.fn 72 []] (bl (decide (a=b))):=by
  refine zy.of pg ye Tryz.func71 rfl Tryz.ntmps71 Tryz.results71 rfl λh0 G0 O0=>?_
  by_cases hl:a.length=b.length
  rotate_left
  ·repeat'(first|apply Sp.h|refine Lk.r rfl ?_|refine Rf.mk rfl ?_|refine xB ?_|apply Im.mk|refine xN ?_|intro _)
   all_goals first
    | exact Fin.p rfl (vb (zF (λe=>hl (by rw [e]))).symm)
    | exact(by omega:False).elim
  repeat'(first|apply Sp.h|refine Lk.r rfl ?_|refine Rf.mk rfl ?_|refine xA ?_|apply Im.mk|intro _)
  all_goals try exact(by omega:False).elim
  refine CA.loop (λi:Nat=>⟨[(1,vW b),(2,.fn 72 []),(15,vW a),(16,it (a.length:Nat)),(17,it i)],[]⟩) (λi=>i<=a.length/\∀j x,j < i->a[j]?=some x->b[j]?=some x) (λi=>a.length - i) 0 xE ⟨zZ _,λj x h=>z6⟩ ?_
  rintro i ⟨hi,ha⟩
  by_cases yd:i < a.length
  ·obtain⟨x,hx⟩:=zz yd
   obtain⟨y,hy⟩:=zz (l:=b) (i:=i) z6
   have h1:=z15 x y
   by_cases pS:x=y
   ·subst pS
    rw [zT rfl] at h1
    repeat'(first|apply Sp.h|refine Lk.r rfl ?_|refine Rf.mk rfl ?_|refine xA ?_|refine xI ?_|refine xO ?_|(apply Cl.p (h1);focus repeat' constructor))
    exact PA.lp (i+1) xE ⟨⟨yd,yg hx ha hy⟩,z6⟩
   ·rw [zF pS] at h1
    repeat'(first|apply Sp.h|refine Lk.r rfl ?_|refine Rf.mk rfl ?_|refine xA ?_|refine xB ?_|refine xI ?_|refine xN ?_|(apply Cl.p (h1);focus repeat' constructor))
    exact Fin.p rfl (vb (zF (λe=>pS (by subst e;rw [hx] at hy;cases hy;rfl))).symm)
  ·have:i=a.length:=z6
   subst this
   repeat'(first|apply Sp.h|refine Lk.r rfl ?_|refine Rf.mk rfl ?_|refine xB ?_|refine xN ?_|fail)
   refine Fin.p rfl (vb (zT (List.ext_getElem? λj=>?_)).symm)
   by_cases hj:j < a.length
   ·obtain⟨x,hx⟩:=zz hj
    rw [hx,ha j x hj hx]
   ·rw [zX z6,zX z6]
 refine zy.of pg ye Tryz.func22 rfl Tryz.ntmps22 Tryz.results22 rfl λh0 G0 O0=>?_
 repeat'(first|apply Sp.h|refine Lk.r rfl ?_|refine Rf.mk rfl ?_|refine xN ?_|(apply Cl.p (he);focus repeat' constructor))
 exact Fin.p rfl rfl
theorem Ti(a b:List Int):y6 Tryz.prog 265 [ints a,ints b] (bl (decide (a=b))):=by
 refine zy.of pg Jy Tryz.func265 rfl Tryz.ntmps265 Tryz.results265 rfl λh0 G0 O0=>?_
 by_cases hl:a.length=b.length
 rotate_left
 ·repeat'(first|apply Sp.h|refine Lk.r rfl ?_|refine Rf.mk rfl ?_|refine xB ?_|apply Im.mk|refine xN ?_|intro _)
  all_goals first
   | exact Fin.p rfl (vb (zF (λe=>hl (by rw [e]))).symm)
   | exact(by omega:False).elim
 repeat'(first|apply Sp.h|refine Lk.r rfl ?_|refine Rf.mk rfl ?_|refine xA ?_|apply Im.mk|intro _)
 all_goals try exact(by omega:False).elim
 refine CA.loop (λi:Nat=>⟨[(0,ints a),(1,ints b),(5,it i)],[]⟩) (λi=>i<=a.length/\∀j x,j < i->a[j]?=some x->b[j]?=some x) (λi=>a.length - i) 0 xE ⟨zZ _,λj x h=>z6⟩ ?_
 rintro i ⟨hi,ha⟩
 by_cases yd:i < a.length
 ·obtain⟨x,hx⟩:=zz yd
  obtain⟨y,hy⟩:=zz (l:=b) (i:=i) z6
  by_cases pS:x=y
  ·subst pS
   repeat'(first|apply Sp.h|refine Lk.r rfl ?_|refine Rf.mk rfl ?_|refine xA ?_|refine yu.r rfl ?_|apply Im.mk|refine xI ?_|refine xD ?_|refine xO ?_|intro _)
   all_goals first
    | exact PA.lp (i+1) xE ⟨⟨yd,yg hx ha hy⟩,z6⟩
    | exact(by omega:False).elim
  ·repeat'(first|apply Sp.h|refine Lk.r rfl ?_|refine Rf.mk rfl ?_|refine xA ?_|refine xB ?_|refine yu.r rfl ?_|apply Im.mk|refine xI ?_|refine xN ?_|refine xD ?_|intro _)
   all_goals first
    | exact Fin.p rfl (vb (zF (λe=>pS (by subst e;rw [hx] at hy;cases hy;rfl))).symm)
    | exact(pS z6).elim
 ·have:i=a.length:=z6
  subst this
  repeat'(first|apply Sp.h|refine Lk.r rfl ?_|refine Rf.mk rfl ?_|refine xB ?_|apply Im.mk|refine xN ?_|intro _)
  refine Fin.p rfl (vb (zT (List.ext_getElem? λj=>?_)).symm)
  by_cases hj:j < a.length
  ·obtain⟨x,hx⟩:=zz hj
   rw [hx,ha j x hj hx]
  ·rw [zX z6,zX z6]
def tH(z:Nat):List (List Int):=(List.range z).map λj:Nat=> [(j:Int)]
theorem Qw{z j:Nat}(h:j < z):(tH z)[j]?=some [(j:Int)]:=by simp [tH,h]
theorem Qs(z y:Nat)(h:y < z):y6 Tryz.prog 239 [vW (tH z),ints [(y:Int)]] (it y):=by
 have bC:(tH z).length=z:=by simp [tH]
 refine zy.of pg ye Tryz.func239 rfl Tryz.ntmps239 Tryz.results239 rfl λh0 G0 O0=>?_
 repeat'(first|apply Sp.h|refine Lk.r rfl ?_|refine Rf.mk rfl ?_|fail)
 refine CA.loop (λi:Nat=>⟨[(0,vW (tH z)),(1,ints [(y:Int)]),(5,it i)],[]⟩) (λi=>i<=y) (λi=>y - i) 0 xE (zZ _) ?_
 intro i hi
 have hx:=Qw (z:=z) (j:=i) z6
 have h1:=Ti [(i:Int)] [(y:Int)]
 by_cases Gj:i=y
 ·subst Gj
  rw [zT rfl] at h1
  repeat'(first|apply Sp.h|refine Lk.r rfl ?_|refine Rf.mk rfl ?_|refine xA ?_|refine Im.mk λ_=>?_|refine xI ?_|refine xN ?_|(apply Cl.p (h1);focus repeat' constructor))
  all_goals first
   | exact Fin.p rfl rfl
   | exact(by omega:False).elim
 ·rw [zF (λe=>Gj (by simp at e;omega))] at h1
  repeat'(first|apply Sp.h|refine Lk.r rfl ?_|refine Rf.mk rfl ?_|refine xA ?_|refine Im.mk λ_=>?_|refine xI ?_|refine xO ?_|(apply Cl.p (h1);focus repeat' constructor))
  all_goals first
   | exact PA.lp (i+1) xE ⟨z6,z6⟩
   | exact(by omega:False).elim
def La:Nat->Value->AV
 | 0,_=>vW [([]:List Int)]
 | _+1,v=> .ow v
def L9:Nat->Value->List kD->List yh
 | 0,_,_=> []
 | _+1,v,L=>eQ v L
theorem _root_.Go.CF.zv {p:Prop}(h:p:=by first|exact wV.refl _|exact wV.nil):p:=h
theorem Xz(sizes:List Int)(x z:Nat)(hs:Sound sizes)(hz:sizes[x]?=some (z:Int)):y6 Tryz.prog 240 [ints sizes,ints [(x:Int)]] (vW (tH z)):=by
 have qY:=oZ sizes
 rw [zT hs] at qY
 have hxl:=(zS.1 hz).1
 have hz6:=hs _ (zM hz)
 have nQ:([(x:Int)]:List Int).length=1:=rfl
 have bJ:([(x:Int)]:List Int)[0]?=some (x:Int):=rfl
 generalize ([(x:Int)]:List Int)=ya at nQ bJ ⊢
 refine zy.fx (K:=λr own=>∃v L,r= .ow v/\own=eQ v L/\L.map kD.c=tH z) ?_ ?_
 ·refine zy.of pg ye Tryz.func240 rfl Tryz.ntmps240 Tryz.results240 rfl λh0 G0 O0=>?_
  repeat'(first|apply Sp.h|refine Lk.r rfl ?_|refine Rf.mk rfl ?_|refine xA ?_|refine xB ?_|refine Im.mk λ_=>?_|refine yc.mk λ_=>?_|(apply Fk.r;focus repeat' first|infer_instance|constructor)|refine Rf.mk ⟨rfl,rfl,rfl⟩ ?_|(apply Cl.p (qY);focus repeat' constructor))
  all_goals try exact(by omega:False).elim
  apply CA.Yp 5 (b:=vW [([]:List Int)])
  focus rfl
  focus(repeat'(first|exact FX.nil|(apply FX.sl;{exact z1};{exact zw})|(apply FX.le;{exact zv})|apply FX.agg|apply FX.yE))
  have G9:([([]:List Int)]:List (List Int))[0]?=some []:=rfl
  have Hj:(([([]:List Int)]:List (List Int)).length:Int)=1:=rfl
  refine CA.loop (λq:Nat×Value×List kD=>⟨[(0,ints sizes),(1,ints ya),(5,La q.1 q.2.1),(6,it q.1)],L9 q.1 q.2.1 q.2.2⟩) (λq=>q.1<=1/\(q.1=1->q.2.2.map kD.c=tH z)) (λq=>1 - q.1) (0,.slice none 0 0,[]) xE ⟨zZ _,λh=>by cases h⟩ ?_
  rintro⟨i,u,L⟩ ⟨hi,hL⟩
  simp only at hi hL
  simp only
  match i,hi with
  | 1,_ =>
   simp only [La,L9]
   have hL:=hL rfl
   repeat'(first|apply Sp.h|refine Lk.r rfl ?_|refine Rf.mk rfl ?_|refine xB ?_|apply Im.mk|refine xN ?_|intro _)
   exact⟨_,_,.one (.same (.z)),u,L,rfl,rfl,hL⟩
  | 0,_ =>
   simp only [La,L9]
   (repeat'(first|(show CA _ _ (Code.region 10 _ _) _ _;apply z_.out)|apply Sp.h|refine Lk.r rfl ?_|refine Rf.mk rfl ?_|refine xA ?_|refine xB ?_|apply Im.mk|apply yc.mk|refine xI ?_|(apply Fk.r;focus repeat' first|infer_instance|constructor)|refine Rf.mk ⟨rfl,rfl,rfl⟩ ?_|intro _));any_goals apply z_.mk
   all_goals try exact(by omega:False).elim
   rename_i u7
   apply CA.yR (v:=u7) (m:=([]:List kD)) (g:=bY)
   focus(repeat constructor)
   focus rfl
   apply CA.o9 bX
   repeat'(first|apply Sp.h|refine Lk.r rfl ?_|refine Rf.mk rfl ?_|fail)
   refine CA.loop (λq:Nat×Value×List kD=>⟨[(0,ints sizes),(1,ints ya),(5,vW [([]:List Int)]),(6,it (0:Nat)),(7,.ow q.2.1),(8,it q.1)],eQ q.2.1 q.2.2⟩) (λq=>q.1<=1/\q.2.2.map kD.c=tH (if q.1=0 then 0 else z)) (λq=>1 - q.1) (0,u7,[]) xE ⟨zZ _,rfl⟩ ?_
   rintro⟨k,u,L⟩ ⟨hk,hL⟩
   simp only at hk hL
   simp only
   match k,hk with
   | 1,_ =>
    repeat'(first|apply Sp.h|refine Lk.r rfl ?_|refine Rf.mk rfl ?_|refine xB ?_|apply Im.mk|refine xO ?_|intro _)
    all_goals first
     | exact PA.lp (1,u,L) xE ⟨⟨Nat.le_refl _,λ_=>hL⟩,by simp only;omega⟩
     | exact(by omega:False).elim
   | 0,_ =>
    repeat'(first|apply Sp.h|refine Lk.r rfl ?_|refine Rf.mk rfl ?_|refine xA ?_|apply Im.mk|intro _)
    refine CA.loop (λq:Nat×Value×List kD=>⟨[(0,ints sizes),(1,ints ya),(5,vW [([]:List Int)]),(6,it (0:Nat)),(7,.ow q.2.1),(8,it (0:Nat)),(9,it q.1)],eQ q.2.1 q.2.2⟩) (λq=>q.1<=z/\q.2.2.map kD.c=tH q.1) (λq=>z - q.1) (0,u,L) xE ⟨zZ _,hL⟩ ?_
    rintro⟨j,u2,L2⟩ ⟨hj,iJ⟩
    simp only at hj iJ
    simp only
    have SL:L2.length=j:=by have:=congrArg List.length iJ;simpa [tH] using this
    by_cases hjz:j < z
    ·have xe:tH (j+1)=tH j ++ [[(j:Int)]]:=by simp [tH,List.range_succ]
     repeat'(first|apply Sp.h|refine Lk.r rfl ?_|refine Rf.mk rfl ?_|refine xA ?_|refine xP ?_|apply yc.mk|refine xU ?_|refine xI ?_|refine Ce.l rfl ?_|(apply Fk.r;focus repeat' first|infer_instance|constructor)|refine Rf.mk ⟨rfl,rfl⟩ ?_|refine Rf.mk ⟨rfl,rfl,rfl⟩ ?_|refine Mp.same ?_|intro _)
     refine Om.mk zw ?_
     (repeat'(first|(show OA _ _ _ (List.cons ⟨_,Op.buildSlice 43 _ _,_,_,_,_⟩ _) _ _;apply z_.out)|apply yc.mk|intro _));any_goals apply z_.mk
     rename_i w
     have inv:Inv bY [.ow w] ⟨[(j:Int)],w⟩:=⟨rfl⟩
     (repeat'(first|(show CA _ _ (Code.region 15 _ _) _ _;apply z_.out)|apply Sp.h|refine Lk.r rfl ?_|refine Rf.mk rfl ?_|refine xP ?_|apply yc.mk|refine xU ?_|refine Ce.r ?_|(apply Fk.r;focus repeat' first|infer_instance|constructor)|refine Rf.mk ⟨rfl,rfl⟩ ?_|refine Rf.mk ⟨rfl,rfl,rfl⟩ ?_|(apply Mp.lit;(focus repeat(first|exact yK.nil|(apply yK.cons;{exact zu})|(apply yK.inv;{exact z1};{exact zh}))))|intro _));any_goals apply z_.mk
     apply CA.yR (v:=w) (m:= [(j:Int)]) (g:=xL)
     focus(repeat constructor)
     focus rfl
     apply CA.tU (l:=L2) (g:=bX) (x:=⟨[(j:Int)],w⟩)
     focus(repeat constructor)
     focus(repeat constructor)
     repeat'(first|apply Sp.h|refine Lk.r rfl ?_|refine Rf.mk rfl ?_|refine xO ?_|fail)
     exact PA.lp (j+1,_,L2 ++ [⟨[(j:Int)],w⟩]) xE ⟨⟨hjz,by simp only;rw [List.map_append,iJ,xe];rfl⟩,by simp only;omega⟩
    ·have:j=z:=z6
     subst this
     repeat'(first|apply Sp.h|refine Lk.r rfl ?_|refine Rf.mk rfl ?_|refine xB ?_|refine xI ?_|refine xO ?_|fail)
     exact PA.lp (1,u2,L2) xE ⟨⟨Nat.le_refl _,iJ⟩,by simp only;omega⟩
 ·rintro _ _ ⟨v,L,rfl,rfl,hL⟩
  have SL:L.length=z:=by have:=congrArg List.length hL;simpa [tH] using this
  have hm:∀e∈L,e.c.length<=1000000:=λe he=>by
   have h1:=List.mem_map_of_mem (f:=kD.c) he
   rw [hL] at h1
   obtain⟨j,-,h2⟩:=List.mem_map.1 h1
   rw [<-h2];simp
  rw [<-hL]
  have:=av (v:=v) (L:=L) (l:= []) (l':= []) (o:= []) (own:= []) z6 hm .nil
  simpa using this
theorem Po(sizes:List Int)(l:List ym)(j:Nat)(u:ym)(x z y:Int)(hl:vh sizes l)(hu:l[j]?=some u)(hc:u.ya= [x])(hz:sizes[x.toNat]?=some z)(hx:0<=x)(hy:0<=y)(hyz:y < z):y6 Tryz.prog 202 [ints sizes,xG l,it j,ints [y]] (.yE [it (u.first+y),it 0]):=by
 have hv:=nt sizes l
 rw [zT hl] at hv
 have hf:=hl.first hu
 have hs:=hl.so z (zM hz)
 have lL:=(zS.1 hu).1
 obtain⟨xn,rfl⟩:=Int.eq_ofNat_of_zero_le hx
 obtain⟨yn,rfl⟩:=Int.eq_ofNat_of_zero_le hy
 obtain⟨zn,rfl⟩:=Int.eq_ofNat_of_zero_le (show 0<=z by omega)
 rw [Int.toNat_natCast] at hz
 have ht:=Xz sizes xn zn hl.so hz
 have hp:=Qs zn yn z6
 rw [<-hc] at ht
 refine zy.of pg ye Tryz.func202 rfl Tryz.ntmps202 Tryz.results202 rfl λh0 G0 O0=>?_
 repeat'(first|apply Sp.h|refine Lk.r rfl ?_|refine Rf.mk rfl ?_|refine xA ?_|refine xB ?_|refine Im.mk λ_=>?_|refine xI ?_|refine xN ?_|refine xO ?_|(apply Cl.p (hv);focus(repeat' constructor);done)|(apply Cl.p (ht);focus(repeat' constructor);done)|(apply Cl.p (hp);focus(repeat' constructor);done))
 all_goals first
  | exact⟨_,_,.yE (.same (.same (.z))),rfl,rfl⟩
  | exact(by omega:False).elim
theorem cB(m:y8)(st:List Int)(hx:xR m)(yL:st.length=xk m) :∀(n:Nat) (c:Int) (i:Nat) (t:ym),m.tables[i]?=some t->0<=c - t.first->0<=c->c < (xk m:Nat)->uS m.y9 m.tables true c=some (i,(wM m.y9 t.ya (c - t.first)).1)->¬Ot m.yp n i->
  y6 Tryz.prog 151 [wH m,ints st,it c] (bl (uQ m st c)):=by
 intro n
 induction n with
 | zero=>exact λc i t _ _ _ _ _ hw=>absurd trivial hw
 | succ n ih =>
  intro c i t ht h0 hc rY hq hw
  have uN:=dy hx.lay hx.V9 st ht h0 hq
  have eJ:=hx.Sr.str
  have fe:=ZW m.y9 m.tables true c z6
  rw [hq] at fe
  change y6 _ _ _ (.yE [it i,ints (wM m.y9 t.ya (c - t.first)).1,.val (.bool true)]) at fe
  obtain⟨cn,rfl⟩:=Int.eq_ofNat_of_zero_le hc
  obtain⟨x,V2⟩:=zz (l:=st) (i:=cn) z6
  rw [Int.toNat_natCast,V2,Option.getD_some] at uN
  have Oa:=fun(h:Int×Int×Int) (hm:h∈m.yp) (he:h.1=i)=>nC hx.lay hx.V9 ht h0 hm he
  generalize (wM m.y9 t.ya ((cn:Int) - t.first)).1=q at hq fe uN Oa
  by_cases lx:x < 1
  ·rw [zF z6,Bool.false_and] at uN
   rw [uN]
   refine zy.of pg Ub Tryz.func151 rfl Tryz.ntmps151 Tryz.results151 rfl λh0 G0 O0=>?_
   repeat'(first|apply Sp.h|refine Lk.r rfl ?_|refine Rf.mk rfl ?_|refine xA ?_|apply yc.mk|refine xI ?_|refine xN ?_|intro _)
   all_goals first
    | exact Fin.p rfl rfl
    | exact(by omega:False).elim
  rw [zT z6,Bool.true_and] at uN
  refine zy.of pg Ub Tryz.func151 rfl Tryz.ntmps151 Tryz.results151 rfl λh0 G0 O0=>?_
  (repeat'(first|(show CA _ _ (Code.region 1 _ _) _ _;apply z_.out)|apply Sp.h|refine Lk.r rfl ?_|refine Rf.mk rfl ?_|apply yc.mk|intro _));any_goals apply z_.mk
  rename_i b3
  repeat'(first|apply Sp.h|refine Lk.r rfl ?_|refine Rf.mk rfl ?_|refine xB ?_|refine xT ?_|refine xI ?_|(apply Cl.p (fe);focus repeat' constructor))
  all_goals try exact(by omega:False).elim
  refine CA.loop (λk:Nat=>⟨[(1,ints st),(3,pm b3),(7,it i),(8,ints q),(10,it k)],[mR b3 m]⟩) (λk=>k<=m.yp.length/\(m.yp.take k).all (λh=> !decide (h.1=i) || uQ m st (yS m q h))=true) (λk=>m.yp.length - k) 0 xE ⟨zZ _,rfl⟩ ?_
  rintro k ⟨hk,ug⟩
  by_cases rz:k < m.yp.length
  ·obtain⟨⟨g1,g2,g3⟩,hg⟩:=zz rz
   have xe:(m.yp.take (k+1)).all (λh=> !decide (h.1=i) || uQ m st (yS m q h))=((m.yp.take k).all (λh=> !decide (h.1=i) || uQ m st (yS m q h)) && (!decide (g1=(i:Int)) || uQ m st (yS m q (g1,g2,g3)))):=by
    rw [zK,hg,List.all_append];simp
   by_cases Oc:g1=i
   ·subst Oc
    obtain⟨j2,j3,u,xx,y,e1,e2,e3,e4,e5,e6,e7,e8,e9,mP,GA,⟨z,BG,BF⟩,BE⟩:=Oa _ (zM hg) rfl
    simp only at e1 e5
    subst e1;subst e5
    have Lg:=(BE.2.2 xx zd).1
    have hf:=hx.lay.first e2
    have jW:=Po m.y9 m.tables j2 u xx z y hx.lay e2 e4 BG Lg e8 BF
    have CS:=lP hx.lay e2 (s:=true) (zT e3) (k:=y) ⟨e8,e9⟩
    have O9:=ih (u.first+y) j2 u e2 z6 z6 (YD hx.lay e2 e3 e9) (by rw [show u.first+y - u.first=y by omega];exact CS) (λh9=>hw ⟨_,zM hg,rfl,h9⟩)
    rw [mP] at xe
    simp only [decide_true,Bool.not_true,Bool.false_or] at xe
    by_cases hv:uQ m st (u.first+y)=true
    ·rw [hv] at O9
     rw [ug,hv] at xe
     repeat'(first|apply Sp.h|refine Lk.r rfl ?_|refine Rf.mk rfl ?_|refine xA ?_|refine yu.r rfl ?_|refine Im.mk λ_=>?_|refine yc.mk λ_=>?_|refine xT ?_|refine xI ?_|refine Ch.l ⟨rfl,rfl⟩ ?_|(apply y4.r;focus repeat' constructor)|(apply Fk.r;focus repeat' first|infer_instance|constructor)|refine xN ?_|refine Rf.mk ⟨rfl,rfl,rfl⟩ ?_|refine xD ?_|refine xO ?_|(apply Cl.yY (jW);(focus((repeat'(first|exact y3.nil|apply y3.yB|(apply y3.yX;{exact z1};{exact zu};{exact za})|fail));done)))|(apply Cl.p (O9);focus(repeat' constructor);done))
     all_goals first
      | exact PA.lp (k+1) xE ⟨⟨rz,xe⟩,z6⟩
      | exact(by omega:False).elim
    ·rw [Bool.not_eq_true] at hv
     rw [hv] at O9
     have yD:m.yp.all (λh=> !decide (h.1=(i:Int)) || uQ m st (yS m q h))=false:=by
      rw [List.all_eq_false]
      exact⟨_,zM hg,by simp [mP,hv]⟩
     rw [uN,yD]
     repeat'(first|apply Sp.h|refine Lk.r rfl ?_|refine Rf.mk rfl ?_|refine xA ?_|refine xB ?_|refine yu.r rfl ?_|refine Im.mk λ_=>?_|refine yc.mk λ_=>?_|refine xT ?_|refine xI ?_|refine Ch.l ⟨rfl,rfl⟩ ?_|(apply y4.r;focus repeat' constructor)|(apply Fk.r;focus repeat' first|infer_instance|constructor)|refine xN ?_|refine Rf.mk ⟨rfl,rfl,rfl⟩ ?_|refine xD ?_|(apply Cl.yY (jW);(focus((repeat'(first|exact y3.nil|apply y3.yB|(apply y3.yX;{exact z1};{exact zu};{exact za})|fail));done)))|(apply Cl.p (O9);focus(repeat' constructor);done))
     all_goals first
      | exact Fin.p rfl rfl
      | exact(by omega:False).elim
   ·have vu:=xe
    rw [ug,zF Oc] at vu
    simp only [Bool.not_false,Bool.true_or,Bool.and_self] at vu
    repeat'(first|apply Sp.h|refine Lk.r rfl ?_|refine Rf.mk rfl ?_|refine xA ?_|refine xB ?_|apply Im.mk|apply yc.mk|refine xT ?_|refine xI ?_|refine Ch.l ⟨rfl,rfl⟩ ?_|(apply y4.r;focus repeat' constructor)|refine xN ?_|refine xO ?_|intro _)
    all_goals first
     | exact PA.lp (k+1) xE ⟨⟨rz,vu⟩,z6⟩
     | exact(Oc z6).elim
  ·have mO:k=m.yp.length:=z6
   subst mO
   rw [zL] at ug
   rw [uN,ug]
   repeat'(first|apply Sp.h|refine Lk.r rfl ?_|refine Rf.mk rfl ?_|refine xB ?_|apply Im.mk|refine xT ?_|refine xN ?_|intro _)
   exact Fin.p rfl rfl
theorem TH(m:y8)(st:List Int)(hx:xR m)(yL:st.length=xk m)(wU:m.ops.length<=1000000000)(vL:xl m):y6 Tryz.prog 150 [wH m,ints st] (bl true):=by
 have hv:=tW m wU vL
 rw [zT hx] at hv
 have hs:=qR m wU vL
 have hl:=VC hx
 refine zy.of pg ye Tryz.func150 rfl Tryz.ntmps150 Tryz.results150 rfl λh0 G0 O0=>?_
 repeat'(first|apply Sp.h|refine Lk.r rfl ?_|refine Rf.mk rfl ?_|refine Im.mk λ_=>?_|refine yc.mk λ_=>?_|refine xT ?_|refine Ch.l ⟨rfl,rfl⟩ ?_|refine xN ?_|(apply Cl.p (hv);focus repeat' constructor)|(apply Cl.p (hs);focus repeat' constructor))
 all_goals first
  | exact Fin.p rfl (vb (zT z6))
  | exact Fin.p rfl (vb zk)
theorem fW(m:y8)(st:List Int)(hx:xR m)(yL:st.length=xk m)(wU:m.ops.length<=1000000000)(vL:xl m):y6 Tryz.prog 84 [wH m,ints st] (q8 (w_ m st)):=by
 have hf:=TH m st hx yL wU vL
 have eJ:=hx.Sr.str
 have Aq:=fun(i:Nat) (hi:i < st.length)=>show y6 Tryz.prog 151 [wH m,ints st,it i] (bl (uQ m st (i:Nat))) by
  obtain⟨j,t,ht,hs,h0,h1,hq⟩:=U1 (s:=true) hx.lay (c:=(i:Int)) z6 (by rw [<-nw hx.lay.ok];omega)
  exact cB m st hx yL (m.tables.length+1) i j t ht h0 z6 z6 hq (ah hx.V9 j)
 refine zy.of pg ye Tryz.func84 rfl Tryz.ntmps84 Tryz.results84 rfl λh0 G0 O0=>?_
 (repeat'(first|(show CA _ _ (Code.region 2 _ _) _ _;apply z_.out)|apply Sp.h|refine Lk.r rfl ?_|refine Rf.mk rfl ?_|apply yc.mk|(apply Fk.r;focus repeat' first|infer_instance|constructor)|refine Rf.mk ⟨rfl,rfl,rfl⟩ ?_|intro _));any_goals apply z_.mk
 rename_i b2 v
 apply CA.yR (v:=v) (m:=([]:List Bool)) (g:=dp)
 focus(repeat constructor)
 focus rfl
 repeat'(first|apply Sp.h|refine Lk.r rfl ?_|refine Rf.mk rfl ?_|refine xA ?_|refine xT ?_|refine Ch.l ⟨rfl,rfl⟩ ?_|(apply Cl.p (hf);focus repeat' constructor))
 refine CA.loop (λz:Nat×Value=>⟨[(1,ints st),(2,pm b2),(5,.ow z.2),(6,it z.1)],[mR b2 m,yb z.2 4 1 ((List.range z.1).map λc=>uQ m st (c:Nat)) dp]⟩) (λz=>z.1<=st.length) (λz=>st.length - z.1) (0,v) xE (zZ _) ?_
 rintro⟨i,u⟩ hi
 simp only at hi
 simp only
 have bg:((List.range i).map λc=>uQ m st (c:Nat)).length=i:=by simp
 by_cases yd:i < st.length
 ·have hv:=Aq i yd
  have xe:(List.range (i+1)).map (λc=>uQ m st (c:Nat))=(List.range i).map (λc=>uQ m st (c:Nat)) ++ [uQ m st (i:Nat)]:=by rw [List.range_succ,List.map_append];rfl
  repeat'(first|apply Sp.h|refine Lk.r rfl ?_|refine Rf.mk rfl ?_|refine xA ?_|refine xP ?_|refine Im.mk λ_=>?_|refine yc.mk λ_=>?_|refine xU ?_|refine xT ?_|refine Ce.r ?_|refine Ch.l ⟨rfl,rfl⟩ ?_|(apply Fk.r;focus repeat' first|infer_instance|constructor)|refine Rf.mk ⟨rfl,rfl⟩ ?_|refine Rf.mk ⟨rfl,rfl,rfl⟩ ?_|(apply Mp.lit;(focus repeat(first|exact yK.nil|(apply yK.cons;{exact zu})|(apply yK.inv;{exact z1};{exact zh}))))|refine xO ?_|(apply Cl.p (hv);focus repeat' constructor))
  rw [<-xe]
  exact PA.lp (i+1,_) xE ⟨yd,by simp only;omega⟩
 ·have:i=st.length:=z6
  subst this
  repeat'(first|apply Sp.h|refine Lk.r rfl ?_|refine Rf.mk rfl ?_|refine xB ?_|apply Im.mk|refine xN ?_|intro _)
  exact⟨_,_,.one (.fz z1 (by have PS:(w_ m st).length=st.length:=(by simp [w_]);omega) (.z)),rfl,rfl⟩
def yx:y8:=⟨[],[tC],[⟨#[99]⟩],[⟨0,0,⟨[(0,-1)],0⟩,0,0⟩,⟨0,0,⟨[(0,1)],9⟩,0,0⟩],[⟨⟨#[117,112]⟩,false,[]⟩,⟨⟨#[100,111,119,110]⟩,false,[]⟩],[⟨0,[],⟨[(0,2)],[],[]⟩⟩,⟨1,[],⟨[(0,-1)],[],[]⟩⟩],[]⟩
theorem Dl:zy Tryz.prog 43 [] [] λr own=>∃vt vf t1 t2 vc vo d1 d2 va p1 p2 ve,r= .yE [.agg [tz,.ow vt,.ow vf,.ow vc,.ow vo,.ow va,tz],.ow ve]/\own= [
  yb ve 66 13 [[it 0,it 1,it 1,.ow p1,it 0,it 0,it 0,it 0,it 0,it 0,it 0,it 0,it 1],[it 1,it 1,it 1,.ow p2,it 0,it 1,it 0,it 0,it 0,it 0,it 0,it 0,it 1]] id,
  yb p2 3 1 [[it 0],[it 0]] id,
  yb p1 3 1 [[it 0],[it 0]] id,
  yb va 142 5 [[it 0,tz,.ow d1,tz,tz],[it 1,tz,.ow d2,tz,tz]] id,
  yb d2 144 2 [[it 0,it (-1)]] id,
  yb d1 144 2 [[it 0,it 2]] id,
  yb vo 174 3 [[sv ⟨#[117,112]⟩,bl false,tz],[sv ⟨#[100,111,119,110]⟩,bl false,tz]] id,
  yb vc 172 6 [[it 0,it 0,.ow t1,it 0,it 0,it 0],[it 0,it 0,.ow t2,it 9,it 0,it 0]] id,
  yb t2 167 2 [[it 0,it 1]] id,
  yb t1 167 2 [[it 0,it (-1)]] id,
  yb vf 9 1 [[sv ⟨#[99]⟩]] id,
  yb vt 150 6 [[sv ⟨#[99]⟩,it 1,tz,it 0,it 9,it 0]] id]:=by
 refine zy.of pg ye Tryz.func43 rfl Tryz.ntmps43 Tryz.results43 rfl λh0 G0 O0=>?_
 repeat'(first|apply Sp.h|refine Lk.r rfl ?_|refine Rf.mk rfl ?_|apply yc.mk|refine xT ?_|refine Ch.l ⟨rfl,rfl⟩ ?_|(apply y4.r;focus repeat' constructor)|(apply Fk.r;focus repeat' first|infer_instance|constructor)|refine xN ?_|refine Rf.mk ⟨rfl,rfl,rfl⟩ ?_|intro _)
 exact⟨_,_,.yE (.same (.same (.z))),_,_,_,_,_,_,_,_,_,_,_,_,rfl,rfl⟩
theorem Dk:y6 Tryz.prog 43 [] (.yE [wH yx,vm [ca,cb]]):=by
 refine zy.fx Dl ?_
 rintro _ _ ⟨vt,vf,t1,t2,vc,vo,d1,d2,va,p1,p2,ve,rfl,rfl⟩
 refine FX.yE ?_ .nil
 repeat'(first
  | exact FX.nil
  | (apply FX.sl;{exact z1};{exact zw})
  | apply FX.agg
  | (apply FX.le;(focus first|exact wV.nil|exact wV.refl _)))
theorem pb:yw yx= []:=by simp [yw,tM,yx,yi,tC]
theorem np:xk yx=1:=by simp [xk,sN,yx,yi,jM,wD,tC]
theorem Yy:xS yx.y9 yx.tables:=Yv
theorem o8:nR yx:=by
 have h:=Ut
 exact⟨h.lay,by simp [yx],h.yP,λa ha=>(let q:=h.xu a ha;⟨q.dl,q.hl,q.ul,q.d,q.u⟩),h.str,h.Sq⟩
theorem IV:yA yx [] (y_ yx 2 [3] []) ca=(0,y_ yx 2 [3] [ca]):=Du
theorem IU:yA yx [ca] (y_ yx 2 [3] [ca]) cb=(0,y_ yx 2 [3] [ca,cb]):=Dt
theorem IQ :∃B N,xi yx ⟨y_ yx 2 [3] [],[ca,cb],y_ yx 2 [3] [ca,cb]⟩ [1,0]=(0,⟨B,[cb],N⟩)/\B.state= [5]/\eC B/\N.clock= [1,1]:=Ds
theorem Fe:o4 ⟨#[99]⟩:=by
 refine⟨⟨by decide,by unfold yH yf;decide,λi h1 h2=>?_, ?_⟩,by decide⟩
 ·have:i < 1:=h2
  match i,this with
  | 0,_=>exact .inl (by unfold yH yf;decide)
 ·rintro⟨q,hq,he⟩
  rw [ByteArray.toList_eq,ByteArray.toList_eq] at he
  revert he
  revert q
  decide
theorem EW:o4 ⟨#[117,112]⟩:=by
 refine⟨⟨by decide,by unfold yH yf;decide,λi h1 h2=>?_, ?_⟩,by decide⟩
 ·have:i < 2:=h2
  match i,this with
  | 0,_=>exact .inl (by unfold yH yf;decide)
  | 1,_=>exact .inl (by unfold yH yf;decide)
 ·rintro⟨q,hq,he⟩
  rw [ByteArray.toList_eq,ByteArray.toList_eq] at he
  revert he
  revert q
  decide
theorem EX:o4 ⟨#[100,111,119,110]⟩:=by
 refine⟨⟨by decide,by unfold yH yf;decide,λi h1 h2=>?_, ?_⟩,by decide⟩
 ·have:i < 4:=h2
  match i,this with
  | 0,_=>exact .inl (by unfold yH yf;decide)
  | 1,_=>exact .inl (by unfold yH yf;decide)
  | 2,_=>exact .inl (by unfold yH yf;decide)
  | 3,_=>exact .inl (by unfold yH yf;decide)
 ·rintro⟨q,hq,he⟩
  rw [ByteArray.toList_eq,ByteArray.toList_eq] at he
  revert he
  revert q
  decide
theorem Pf:uO [] []:=by
 refine⟨by simp, ?_, ?_⟩ <;> (intro x hx;cases hx)
theorem Yx:wF [] []=1:=by rw [wF,if_pos Pf];rfl
theorem jm:vh yx.y9 yx.tables:=by
 refine⟨by decide,Yy.2.1,by decide,λi t hi=>?_, ?_, ?_⟩
 ·match i,hi with
  | 0,hi =>
   cases hi
   refine⟨Fe,λj u h=>z6,Yy.2.2.2 _ (by simp [yx]),λh=>?_, ?_⟩
   ·simp [tC] at h
   ·simp [xZ,tC]
  | n+1,hi=>cases hi
 ·simp [xZ,yx,tC,Yx,yi]
 ·simp [xZ,yx,tC,yi]
theorem k_:wA yx= [(0,9)]:=by
 rw [wA,sr,if_pos jm]
 simp [pX,yx,tC,Yx,yi]
theorem Pe:qu yx:=by
 refine⟨by rw [k_];decide,by decide,λi c hi=>?_⟩
 rw [k_]
 match i,hi with
 | 0,hi =>
  cases hi
  refine⟨λp hp=>by cases hp;simp,⟨by simp [yx],.inl ⟨rfl,rfl,rfl, ?_,by simp⟩⟩⟩
  intro i p hp
  match i,hp with
  | 0,hp=>cases hp;exact⟨by decide,by decide,by decide,by decide,λq h=>z6⟩
  | n+1,hp=>cases hp
 | 1,hi =>
  cases hi
  refine⟨λp hp=>by cases hp;simp,⟨by simp [yx],.inl ⟨rfl,rfl,rfl, ?_,by simp⟩⟩⟩
  intro i p hp
  match i,hp with
  | 0,hp=>cases hp;exact⟨by decide,by decide,by decide,by decide,λq h=>z6⟩
  | n+1,hp=>cases hp
 | n+2,hi=>cases hi
theorem Pd:lG yx:=by
 refine⟨λi o hi=>?_,by decide,λi s hi=>?_⟩
 ·match i,hi with
  | 0,hi=>cases hi;exact⟨(by intro k s h;cases h),by simp⟩
  | 1,hi=>cases hi;exact⟨(by intro k s h;cases h),by simp⟩
  | n+2,hi=>cases hi
 ·match i,hi with
  | 0,hi=>cases hi;exact⟨EW,λj q h=>z6⟩
  | 1,hi =>
   cases hi
   refine⟨EX,λj q h hq=>?_⟩
   match j,h with
   | 0,_=>cases hq;rw [ByteArray.toList_eq,ByteArray.toList_eq];decide
  | n+2,hi=>cases hi
theorem TT:qv yx:=by
 refine⟨Pd,by decide,λi a hi=>?_⟩
 match i,hi with
 | 0,hi =>
  cases hi
  refine⟨⟨0,rfl,_,rfl,rfl,λk x s h=>by cases h⟩,λb h=>z6, ?_⟩
  refine⟨λi p hp=>?_,(by intro i r h;cases h),(by intro i p h;cases h),by decide,by decide⟩
  rw [k_]
  match i,hp with
  | 0,hp=>cases hp;exact⟨by decide,by decide,by decide,by decide,λq h=>z6⟩
  | n+1,hp=>cases hp
 | 1,hi =>
  cases hi
  refine⟨⟨1,rfl,_,rfl,rfl,λk x s h=>by cases h⟩,λb h hb=>by cases hb;exact .inl zf, ?_⟩
  refine⟨λi p hp=>?_,(by intro i r h;cases h),(by intro i p h;cases h),by decide,by decide⟩
  rw [k_]
  match i,hp with
  | 0,hp=>cases hp;exact⟨by decide,by decide,by decide,by decide,λq h=>z6⟩
  | n+1,hp=>cases hp
 | n+2,hi=>cases hi
theorem ki:xR yx:=by
 refine⟨jm,by decide,λi s hi=>?_,Pe,TT,⟨by decide,(by intro i h hi;cases hi),(by intro i h hi;cases hi)⟩⟩
 match i,hi with
 | 0,hi=>cases hi;exact⟨Fe,λj q h=>z6⟩
 | n+1,hi=>cases hi
theorem nj:xl yx:=by
 intro a ha
 simp only [yx,List.mem_cons,List.not_mem_nil,or_false] at ha
 rcases ha with rfl|rfl <;> (intro u hu;cases hu)
theorem IJ:wB yx true= [(0,9)]:=by rw [wB,if_pos ki];exact k_
theorem IK:wB yx false= []:=by
 rw [wB,if_pos ki,sr,if_pos jm]
 simp [pX,yx,tC,yi]
theorem Yw(k c:Int):t_ (wB yx true).length (wB yx false).length (k,c)↔c=0/\(k=0∨k=1):=by
 rw [IJ,IK]
 unfold t_ qE
 simp only [List.length_cons,List.length_nil]
 by_cases h:k=0∨k=1
 ·rw [if_pos h]
  omega
 ·rw [if_neg h]
  split <;> omega
theorem au:sE yx [(0,0)]:=⟨ki,λq hq=>by
 simp only [List.mem_cons,List.not_mem_nil,or_false] at hq
 subst hq
 exact(Yw 0 0).2 ⟨rfl,.inl rfl⟩⟩
theorem jg(a b:List vA):y6 Tryz.prog 47 [uI a,uI b] (.val (.bool (decide (a=b)))):=by
  refine zy.of pg EK Tryz.func47 rfl Tryz.ntmps47 Tryz.results47 rfl λh0 G0 O0=>?_
  repeat'(first|apply Sp.h|refine Lk.r rfl ?_|refine Rf.mk rfl ?_|apply Bd.mk|apply Im.mk|refine xN ?_|intro _)
  · rename_i ha hb pz _
    refine CA.loop (λi:Nat=>⟨[(0,uI a),(1,uI b),(12,.val (.int .i64 a.length)),(13,.val (.int .i64 i))],[]⟩) (λi=>i<=a.length/\a.take i=b.take i) (λi=>a.length - i) 0 xE ⟨zZ _,by simp⟩ ?_
    rintro i ⟨hi,heq⟩
    by_cases yd:i < a.length
    · obtain⟨⟨x1,x2⟩,hx⟩:∃x,a[i]?=some x:=⟨_,zE yd⟩
      obtain⟨⟨y1,y2⟩,hy⟩:∃y,b[i]?=some y:=⟨_,zE z6⟩
      repeat'(first|apply Sp.h|refine Lk.r rfl ?_|refine Rf.mk rfl ?_|refine xA ?_|apply Bd.mk|refine yu.r rfl ?_|refine xI ?_|refine Ch.l ⟨rfl,rfl⟩ ?_|refine xN ?_|refine xK ?_|(apply Kf.mk;{exact z7})|refine xD ?_|refine xO ?_|intro _)
      all_goals first
        | (refine PA.lp (i+1) xE ⟨⟨yd, ?_⟩,z6⟩
           rw [zK,zK,hx,hy,heq,show(x1,x2)=(y1,y2) by simp_all]
           done)
        | (refine Fin.p rfl ?_
           rw [zF (λe=>by subst e;rw [hx] at hy;cases hy;simp_all)]
           done)
    · have:i=a.length:=z6
      subst this
      repeat'(first|apply Sp.h|refine Lk.r rfl ?_|refine Rf.mk rfl ?_|refine xB ?_|refine xN ?_|fail)
      refine Fin.p rfl ?_
      rw [zL] at heq
      rw [zT (by rw [heq,List.take_of_length_le z6])]
  · rename_i h
    refine Fin.p rfl ?_
    rw [zF (λe=>h (by rw [e]))]
theorem lT(b:yt)(l:List yo)(c:List Int):oU yx b l c:=by
 have h:vz yx b l c= []:=by
  rw [vz]
  by_cases hv:vX (yw yx) (kE yx b l c)
  ·rw [rS hv,pb]
   rfl
  ·rw [qQ hv]
 refine⟨by rw [h,pb];rfl,λx hx=>?_⟩
 rw [h] at hx
 cases hx
theorem Us:rE yx 2 ca:=⟨Lz,rfl,λ_=>by decide⟩
theorem Ur:rE yx 2 cb:=⟨Ly,rfl,λ_=>by decide⟩
theorem kU{a b c d:Int}(ha:0<=a/\a<=1024)(hb:0<=b/\b<=1024)(hc:0<=c/\c<=1024)(hd:0<=d/\d<=1024):tO [a,b] [c,d]↔c<=a/\d<=b:=by
 rw [jl]
 refine⟨λh=>⟨h.2 0 c a rfl rfl,h.2 1 d b rfl rfl⟩,λh=>⟨⟨gW a b ha hb,gW c d hc hd,rfl⟩,ZJ h.1 h.2⟩⟩
theorem Vt{l:List yo}(hl:∀e∈l,e=ca∨e=cb){a b c d:Int}(ha:0<=a/\a<=1024)(hb:0<=b/\b<=1024)(hc:0<=c/\c<=1024)(hd:0<=d/\d<=1024) :
  wu [a,b] l [1,1] [c,d]=if a<=c/\b<=d then if c<=1/\d<=1 then 0 else 11 else 7:=by
 have YS:¬∃e∈l,rP [c,d] e:=by
  rintro⟨e,he,-,h2⟩
  apply h2
  rcases hl e he with rfl|rfl
  ·exact(kU hc hd zf zf).2 ⟨hc.1,hd.1⟩
  ·exact(kU hc hd zf zf).2 ⟨hc.1,hd.1⟩
 unfold wu
 rw [if_neg (λh=>h ⟨gW c d hc hd,rfl⟩)]
 by_cases h1:a<=c/\b<=d
 ·rw [if_pos h1,if_neg (λh=>h ((kU hc hd ha hb).2 h1))]
  by_cases h2:c<=1/\d<=1
  ·rw [if_pos h2,if_neg (λh=>h ((kU zf zf hc hd).2 h2)),if_neg YS]
  ·rw [if_neg h2,if_pos (λh=>h2 ((kU zf zf hc hd).1 h))]
 ·rw [if_neg h1,if_pos (λh=>h1 ((kU hc hd ha hb).1 h))]
theorem Fg(l:List yo)(c d:Int)(hc:0<=c/\c<=1024)(hd:0<=d/\d<=1024)(hl:∀e∈l,e=ca∨e=cb):uP [c,d] l=l.filter λe=>(decide (e=ca) && decide (1<=c)) || (decide (e=cb) && decide (1<=d)):=by
 obtain⟨h1,h2⟩:=Mr c d hc hd
 unfold uP
 refine List.filter_congr λe he=>?_
 have vB:ca≠cb:=λh=>absurd (congrArg yo.rep h) zf
 rcases hl e he with rfl|rfl
 ·rw [show decide (x9 [c,d] ca.rep ca.num)=decide (1<=c) from zD.2 h1]
  simp [vB]
 ·rw [show decide (x9 [c,d] cb.rep cb.num)=decide (1<=d) from zD.2 h2]
  simp [vB,vB.symm]
theorem Je(b:yt)(hb:b.state= [3]):yU yx b [ca,cb] [1,0]= [5]/\yU yx b [ca,cb] [0,1]= [2]/\yU yx b [ca,cb] [1,1]= [4]/\yU yx b [ca,cb] [0,0]= [3]:=by
 have vB:ca≠cb:=λh=>absurd (congrArg yo.rep h) zf
 have hl:∀e∈ [ca,cb],e=ca∨e=cb:=λe he=>by simpa using he
 refine⟨?_, ?_, ?_, ?_⟩
 all_goals
  rw [yU,Fg _ _ _ zf zf hl,hb]
  simp [vB,vB.symm]
  try rfl
theorem Qc(b:yt)(hb:b.state= [5]):yU yx b [cb] [1,0]= [5]/\yU yx b [cb] [1,1]= [4]:=by
 have vB:ca≠cb:=λh=>absurd (congrArg yo.rep h) zf
 have hl:∀e∈ [cb],e=ca∨e=cb:=λe he=>by right;simpa using he
 refine⟨?_, ?_⟩
 all_goals
  rw [yU,Fg _ _ _ zf zf hl,hb]
  simp [vB,vB.symm]
  try rfl
theorem M3{b:yt}{l:List yo}{c:List Int}{x:Int}(h:yU yx b l c= [x]):r6 yx b l c [(0,0)]= [[x]]:=by
 unfold r6
 rw [h]
 rfl
theorem z0k{b:yt}{l:List yo}{a c:List Int}(ha:yU yx b l a= [5])(hc:yU yx b l c= [4]):kJ yx b l a c= [(0,0)]:=by
 unfold kJ
 rw [ha,hc,np,pb,gF,if_neg (show¬wh [5] _ _ (0,((0:Nat):Int))=wh [4] _ _ (0,((0:Nat):Int)) from by
  intro h
  have h:([5]:List Int)= [4]:=h
  simp at h)]
 rfl
theorem Fz(s:iw)(h1:s.w.clock= [1,1])(h2:s.b.clock= [1,0]):fq [some s,some s]=0/\z1q min (vp [some s,some s])= [1,1]:=by
 have hv:=gW 1 1 zf zf
 have h3:vp [some s,some s]= [[1,1],[1,1]]:=by simp [vp,h1]
 have hf:z1q min (vp [some s,some s])= [1,1]:=by rw [h3];rfl
 refine⟨?_,hf⟩
 rw [fq,if_neg,if_neg]
 ·rintro⟨s',hs,h⟩
  simp only [List.mem_cons,List.not_mem_nil,or_false,or_self,Option.some.injEq] at hs
  subst hs
  apply h
  rw [h2,hf]
  exact(kU (a:=1) (b:=1) zf zf zf zf).2 zf
 ·rintro(h|h)
  ·simp at h
  ·apply h
   rw [h3]
   refine⟨by simp,λc hc=>?_⟩
   simp only [List.mem_cons,List.not_mem_nil,or_false,or_self] at hc
   subst hc
   exact⟨hv,rfl⟩
theorem IP :∃B N,xi yx ⟨y_ yx 2 [3] [],[ca,cb],y_ yx 2 [3] [ca,cb]⟩ [1,0]=(0,⟨B,[cb],N⟩)/\B.state= [5]/\eC B/\N.clock= [1,1]/\B.clock= [1,0]:=by
 obtain⟨B,N,h1,h2,h3,h4⟩:=IQ
 refine⟨B,N,h1,h2,h3,h4, ?_⟩
 unfold xi at h1
 split at h1
 ·simp at h1
 split at h1
 ·simp at h1
 ·have:B=qo yx (y_ yx 2 [3] []) [1,0] [ca,cb]:=by
   have:=congrArg (λq:Int×LB=>q.2.base) h1
   exact this.symm
  rw [this]
  rfl
end Go.Proofs.YtmjllbjfkafhdaaGreatDoor
namespace Go.CF
open Go
theorem Cl.A6{Γ:Cx}{c:xa}{o:List yh}{f:FuncId}{ax:List AV}{M' M:AV->List yh->Prop}(h:Cl Γ c f ax o M')(hM:∀r o',M' r o'->∃a o2,FX o' [r] [a] o2/\M a o2):Cl Γ c f ax o M:=by
 refine⟨λ{hh G Os vs} hp hr=>(h.ok hp hr).mono λv h' ⟨g1,r,o',G',yz,g2,g3,g4,g5,g6⟩=>?_⟩
 obtain⟨a,o2,x,hm⟩:=hM r o' g2
 obtain⟨G2,qi,k1,k2,k3⟩:=x.rep g4 (vs:= [v]) ⟨g3,trivial⟩
 exact⟨g1,a,o2,G2,qi,hm,k2.1,k1,g5,λb hb=>k3 b (g6 b hb)⟩
theorem yJ.fx{P:Program}{f:FuncId}{ax:List AV}{own:List yh}{K:AV->List yh->Prop}{a:AV}(h:yJ P f ax own K)(hK:∀r o,K r o->FX o [r] [a] []):yJ P f ax own λq o=>q=a/\o= [] :=
 ⟨λhh G Os vs h1 h2 ha=>(h.run hh G Os vs h1 h2 ha).mono λv' h' ⟨r,o,G',yz,hk,g1,g2⟩=>by
  obtain⟨G2,qi,k1,k2,k3⟩:=(hK r o hk).rep g2 (vs:= [v']) ⟨g1,trivial⟩
  exact⟨a,[],G2,qi,⟨rfl,rfl⟩,k2.1,k1⟩⟩
end Go.CF
namespace Go.Proofs.YtmjllbjfkafhdaaGreatDoor
open Go Go.CF
theorem Eg{rows:List (List Int)}(hl:rows.length<=1000000)(hm:∀x∈rows,x.length<=1000000){r:AV}{own o:List yh}(h:L4 0 rows r own):FX (own ++ o) [r] [.yE [vW rows,it 0]] o:=by
 rcases h with⟨h,_⟩|⟨_,v,L,rfl,rfl,rfl⟩
 ·exact absurd rfl h
 refine .yE (av (by simpa using hl) (λx hx=>hm _ (List.mem_map_of_mem hx)) (.le (wV.refl _) .nil)) .nil
theorem Cl.Ef{Γ:Cx}{c:xa}{o:List yh}{f:FuncId}{ax ax':List AV}{rows:List (List Int)}{M:AV->List yh->Prop}(hc:yJ Γ.P f ax' [] (L4 0 rows))(ga:eZ Γ.P Γ.h0 Γ.G0 Γ.O0)(hs:rows.length<=1000000/\∀x∈rows,x.length<=1000000)(hl:y3 o ax ax')(hm:M (.yE [vW rows,it 0]) o):Cl Γ c f ax o M :=
 Cl.A6 (M':=λr o'=>∃own,L4 0 rows r own/\o'=own ++ o) (Cl.Ui hc ga hl Yr λr own h=>⟨own,h,rfl⟩) λr o' ⟨own,h,e⟩=>by
  subst e
  exact⟨_,_,Eg hs.1 hs.2 h,hm⟩
def RD:List (List Int×Int):= [([1,0],5),([0,1],2),([1,1],4),([0,0],3)]
def csC(q:List Int×Int):List AV:= [ints q.1,it q.2]
theorem Vg{b:yt}{l:List yo}{w:yt}(hb:eC b)(hw:w.clock= [1,1])(hl:∀e∈l,e=ca∨e=cb)(hn:l.length<=2):fu b l w:=by
 refine⟨hb,by rw [hw];decide,z6,λe he=>?_⟩
 rcases hl e he with rfl|rfl <;> decide
theorem BD{l:List yo}{w:yt}(hw:w.clock= [1,1])(hl:∀e∈l,e=ca∨e=cb) :∀e∈l,rE yx (w.clock.length:Nat) e:=by
 intro e he
 rw [hw]
 rcases hl e he with rfl|rfl
 ·exact Us
 ·exact Ur
theorem ZG{b:yt}{l:List yo}{w:yt}{c:List Int}{x:Int}(hb:eC b)(YY:b.state.length=1)(hw:w.clock= [1,1])(hl:∀e∈l,e=ca∨e=cb)(hn:l.length<=2)(hc:wu b.clock l [1,1] c=0)(hx:yU yx b l c= [x]) :
  yJ Tryz.prog 16 [wH yx,.ad (sO yx b l w) 0,ints c,uI [(0,0)]] [] (L4 0 [[x]]):=by
 have h:=Y3 yx b l w c [(0,0)] (Vg hb hw hl hn) o8 nj (by rw [np];exact YY) (BD hw hl) (λ_=>lT b l c) zf
 rw [cX,if_pos au,hw,hc,M3 hx] at h
 exact h
theorem DP:eC (y_ yx 2 [3] []):=by
 refine⟨by simp [y_,p_],by simp [y_], ?_, ?_,by simp [y_]⟩
 ·simp only [y_,List.foldl_nil,pb];simp
 ·simp only [y_,List.foldl_nil,pb];simp
theorem l5 :∀e∈ [ca,cb],e=ca∨e=cb:=λe he=>by simpa using he
theorem Jk(i:Nat)(q:List Int×Int)(hq:RD[i]?=some q):yJ Tryz.prog 16 [wH yx,.ad (sO yx (y_ yx 2 [3] []) [ca,cb] (y_ yx 2 [3] [ca,cb])) 0,ints q.1,uI [(0,0)]] [] (L4 0 [[q.2]]):=by
 obtain⟨s1,s2,s3,s4⟩:=Je (y_ yx 2 [3] []) rfl
 have hk:∀c d:Int,0<=c/\c<=1->0<=d/\d<=1->wu (y_ yx 2 [3] []).clock [ca,cb] [1,1] [c,d]=0:=λc d hc hd=>by
  rw [show(y_ yx 2 [3] []).clock= [0,0] from rfl,Vt l5 zf zf z6 z6,if_pos z6,if_pos z6]
 match i,hq with
 | 0,hq=>cases hq;exact ZG DP rfl rfl l5 zf (hk _ _ zf zf) s1
 | 1,hq=>cases hq;exact ZG DP rfl rfl l5 zf (hk _ _ zf zf) s2
 | 2,hq=>cases hq;exact ZG DP rfl rfl l5 zf (hk _ _ zf zf) s3
 | 3,hq=>cases hq;exact ZG DP rfl rfl l5 zf (hk _ _ zf zf) s4
 | n+4,hq=>cases hq
theorem Af{b:yt}{l:List yo}{w:yt}{x:Int}(hb:eC b)(YY:b.state.length=1)(hw:w.clock= [1,1])(hl:∀e∈l,e=ca∨e=cb)(hn:l.length<=2)(hc:wu b.clock l [1,1] [1,1]=0)(hx:yU yx b l [1,1]= [x]) :
  yV Tryz.prog 18 [wH yx,.ad (sO yx b l w) 0,uI [(0,0)]] (.yE [vW [[x]],ints [1,1],it 0]):=by
 have h:=J9 yx b l w [(0,0)] (Vg hb hw hl hn) o8 nj (by rw [np];exact YY) (BD hw hl) (λ_=>lT b l _) zf
 rw [cX,if_pos au,hw,hc,M3 hx] at h
 refine yJ.fx h ?_
 rintro r o (⟨h,_⟩|⟨_,v,L,u,rfl,rfl,hL⟩)
 ·exact absurd rfl h
 rw [<-hL]
 have hl:L.length=1:=by rw [<-List.length_map (f:=kD.c),hL];rfl
 refine .yE (av z6 (λy hy=>?_) (.s1 .here zd (.le (wV.refl _) .nil))) .nil
 have:=List.mem_map_of_mem (f:=kD.c) hy
 rw [hL] at this
 simp at this
 rw [this];simp
theorem II(s:iw)(hb:eC s.b)(hw:s.w.clock= [1,1])(Bp:s.b.clock= [1,0])(hl:∀e∈s.l,e=ca∨e=cb)(hn:s.l.length<=2) :
  y6 Tryz.prog 39 [.sl 1 [some s,some s] H9] (.yE [ints [1,1],it 0]):=by
 have h:=XK [some s,some s] zd (λs' hs=>by
  simp only [List.mem_cons,List.not_mem_nil,or_false,or_self,Option.some.injEq] at hs
  subst hs
  exact Vg hb hw hl hn)
 rw [(Fz s hw Bp).1,(Fz s hw Bp).2] at h
 refine zy.fx h ?_
 rintro r o (⟨h,_⟩|⟨_,u,rfl,rfl⟩)
 ·exact absurd rfl h
 exact .yE (.s1 .here zd (.le (wV.refl _) .nil)) .nil
theorem IM{b:yt}{l:List yo}{w:yt}{a c:List Int}(hb:eC b)(YY:b.state.length=1)(hw:w.clock= [1,1])(hl:∀e∈l,e=ca∨e=cb)(hn:l.length<=2)(SK:wu b.clock l [1,1] a=0)(YV:wu b.clock l [1,1] c=0)(ha:yU yx b l a= [5])(hc:yU yx b l c= [4]) :
  yV Tryz.prog 45 [wH yx,.ad (sO yx b l w) 0,ints a,ints c] (.yE [uI [(0,0)],it 0]):=by
 have h:=jx yx b l w a c (Vg hb hw hl hn) o8 nj (by rw [np];exact YY) (BD hw hl) (λ_=>lT b l _) (λ_=>lT b l _)
 rw [qB,if_pos ki,hw,if_pos SK,YV,z0k ha hc] at h
 refine yJ.fx h ?_
 rintro r o (⟨h,_⟩|⟨_,u,rfl,rfl⟩)
 ·exact absurd rfl h
 exact .yE (.s1 .here zd (.le (wV.refl _) .nil)) .nil
theorem lR(X:List yo)(hX:∀e∈X,e∈ [ca,cb])(hl:X.length<=1000):iS yx (y_ yx 2 [3] X):=by
 have h:=Q4 X hX hl
 exact⟨h.Vc,h.st,h.WZ,h.SS⟩
theorem WB:yV Tryz.prog 9 [] (bl true):=by
 have hc:=Dk
 have h1:zy Tryz.prog 35 [wH yx,it 2,ints [3]] [] λq own=>∃p v,q= .yE [pm p,it 0]/\own= [vw p yx (y_ yx 2 [3] []) v (y_ yx 2 [3] []),yb v 66 13 [] uf]:=Yh yx 2 [3] o8 zf (by rw [np];rfl) (QW zd)
 have h3:∀p v,zy Tryz.prog 37 [pm p,uL ca] [vw p yx (y_ yx 2 [3] []) v (y_ yx 2 [3] []),yb v 66 13 ([]:List yo) uf] λr own=>r=it 0/\∃v',own= [vw p yx (y_ yx 2 [3] []) v' (y_ yx 2 [3] [ca]),yb v' 66 13 [ca] uf]:=λp v=>by
  have:=mI p yx (y_ yx 2 [3] []) v [] (y_ yx 2 [3] []) ca o8 (lR [] zd zd) zd
  rw [lD,IV,if_pos rfl] at this
  exact this
 have h4:∀p v,zy Tryz.prog 37 [pm p,uL cb] [vw p yx (y_ yx 2 [3] []) v (y_ yx 2 [3] [ca]),yb v 66 13 [ca] uf] λr own=>r=it 0/\∃v',own= [vw p yx (y_ yx 2 [3] []) v' (y_ yx 2 [3] [ca,cb]),yb v' 66 13 [ca,cb] uf]:=λp v=>by
  have:=mI p yx (y_ yx 2 [3] []) v [ca] (y_ yx 2 [3] [ca]) cb o8 (lR [ca] zd zd) zd
  rw [lD,IU,if_pos rfl] at this
  exact this
 obtain⟨B,N,c1,c2,c3,c4,c5⟩:=IP
 have h5:∀p v,zy Tryz.prog 44 [pm p,ints [1,0]] [vw p yx (y_ yx 2 [3] []) v (y_ yx 2 [3] [ca,cb]),yb v 66 13 [ca,cb] uf] λr own=>r=it 0/\∃v',own= [vw p yx B v' N,yb v' 66 13 [cb] uf]:=λp v=>by
  have hN:=lR [ca,cb] zd zd
  have h0:=lR [] zd zd
  have:=gD p yx (y_ yx 2 [3] []) v [ca,cb] (y_ yx 2 [3] [ca,cb]) [1,0] o8 hN ⟨h0.Vc,rfl,h0.st,by simp only [y_,List.foldl_nil,pb];exact⟨by simp,by simp⟩,h0.WZ,by simp [y_]⟩ zd (λe he=>by
   rcases l5 e he with rfl|rfl
   ·exact Us
   ·exact Ur)
  rw [c1] at this
  exact this
 have YN:=Jk
 have O5:∀e∈ [cb],e=ca∨e=cb:=λe he=>by right;simpa using he
 have CU:=Vg (l:= [cb]) c3 c4 O5 zf
 have k7:=rh yx B [cb] N [0,1] CU
 have He:=rh yx B [cb] N [2,1] CU
 have k0:=rh yx B [cb] N [1,1] CU
 have r10:wu B.clock [cb] [1,1] [1,0]=0:=by rw [c5,Vt O5 zf zf zf zf];rfl
 have CG:wu B.clock [cb] [1,1] [1,1]=0:=by rw [c5,Vt O5 zf zf zf zf];rfl
 rw [c4,c5,Vt O5 zf zf zf zf,if_neg zf] at k7
 rw [c4,c5,Vt O5 zf zf zf zf,if_pos zf,if_neg zf] at He
 rw [c4,CG] at k0
 obtain⟨s1,s2⟩:=Qc B c2
 have m1:=Af c3 (by rw [c2];rfl) c4 O5 zf CG s2
 have m2:=II ⟨yx,B,[cb],N⟩ c3 c4 c5 O5 (Nat.le_succ 1)
 have m3:=IM c3 (by rw [c2];rfl) c4 O5 zf r10 CG s1 s2
 have m4:=nv yx [(0,0)] zf nj
 have m5:=nv yx [(0,1)] zf nj
 rw [zT au] at m4
 rw [zF (λh:sE yx [(0,1)]=>absurd ((Yw 0 1).1 (h.2 _ zd)).1 zf)] at m5
 have e2:=kg [1,1] [1,1]
 have e3:=jg [(0,0)] [(0,0)]
 rw [zT rfl] at e2 e3
 obtain⟨M,hM⟩:∃M:y8,M=yx:=⟨_,rfl⟩
 obtain⟨B0,Cn⟩:∃B:yt,B=y_ yx 2 [3] []:=⟨_,rfl⟩
 obtain⟨N1,hN1⟩:∃B:yt,B=y_ yx 2 [3] [ca]:=⟨_,rfl⟩
 obtain⟨N2,hN2⟩:∃B:yt,B=y_ yx 2 [3] [ca,cb]:=⟨_,rfl⟩
 rw [<-Cn,<-hM] at h1
 rw [<-Cn,<-hN1,<-hM] at h3
 rw [<-Cn,<-hN1,<-hN2,<-hM] at h4
 rw [<-Cn,<-hN2,<-hM] at h5 YN
 rw [<-hM] at hc k7 He k0 m1 m2 m3 m4 m5
 have hi0:([ca,cb]:List yo)[0]?=some ca:=rfl
 have nV:([ca,cb]:List yo)[1]?=some cb:=rfl
 refine yJ.of pg Ad Tryz.func9 rfl Tryz.ntmps9 Tryz.results9 rfl λh0 G0 O0 ga=>?_
 repeat'(first|apply Sp.h|refine Lk.r rfl ?_|refine Rf.mk rfl ?_|refine yc.mk λ_=>?_|refine xT ?_|refine Ch.l ⟨rfl,rfl⟩ ?_|(apply y4.r;focus repeat' constructor)|(apply Fk.r;focus repeat' first|infer_instance|constructor)|refine xN ?_|refine Rf.mk ⟨rfl,rfl,rfl⟩ ?_|(apply Cl.p (hc);(focus repeat'(first|exact y3.nil|fail))))
 apply Cl.fx [wH M,it 2,ints [3]]
 focus(repeat'(first|exact FX.nil|(apply FX.sl;{exact z1};{exact zw})|(apply FX.le;{exact zv})|apply FX.agg|apply FX.yE))
 refine xW (h1) ?_
 rintro _ _ ⟨p,v,rfl,rfl⟩
 repeat'(first|apply Sp.h|refine Lk.r rfl ?_|refine Rf.mk rfl ?_|refine xA ?_|refine xB ?_|refine xI ?_|refine Ch.l ⟨rfl,rfl⟩ ?_|fail)
 refine xW (h3 p v) ?_
 rintro _ _ ⟨rfl,v1,rfl⟩
 repeat'(first|apply Sp.h|refine Lk.r rfl ?_|refine Rf.mk rfl ?_|refine xA ?_|refine xB ?_|refine xI ?_|refine Ch.l ⟨rfl,rfl⟩ ?_|fail)
 refine xW (h4 p v1) ?_
 rintro _ _ ⟨rfl,v2,rfl⟩
 (repeat'(first|(show CA _ _ (Code.block 0 _) _ _;apply z_.out)|apply Sp.h|refine Lk.r rfl ?_|refine Rf.mk rfl ?_|refine xA ?_|apply yc.mk|refine xU ?_|refine xT ?_|(apply y4.r;focus repeat' constructor)|(apply Fk.r;focus repeat' first|infer_instance|constructor)|refine xN ?_|refine Rf.mk ⟨rfl,rfl,rfl⟩ ?_|intro _));any_goals apply z_.mk
 rename_i b1 w1 b5 w2 w3 w4 w5 w6
 apply CA.Yp 57 (b:= .sl 2 RD csC)
 focus rfl
 focus(repeat'(first|exact FX.nil|(apply FX.sl;{exact z1};{exact zw})|(apply FX.le;{exact zv})|apply FX.agg|apply FX.yE))
 repeat'(first|apply Sp.h|fail)
 refine CA.loop (λi:Nat=>⟨[(1,pm b1),(3,pm p),(5,pm b5),(57,.sl 2 RD csC),(58,it 4),(59,it i)],[yr b1 30 (s_ M),yr b5 102 [it 0,it 0],vw p M B0 v2 N2,yb v2 66 13 [ca,cb] uf]⟩) (λi=>i<=4) (λi=>4 - i) 0 xE (zZ _) ?_
 intro i hi
 by_cases yd:i < 4
 ·obtain⟨q,hq⟩:∃q,RD[i]?=some q:=zz yd
  have hr:=YN i q hq
  have he:=kg [q.2] [q.2]
  have G9: [[q.2]][0]?=some [q.2]:=rfl
  rw [zT rfl] at he
  repeat'(first|apply Sp.h|refine Lk.r rfl ?_|refine Rf.mk rfl ?_|refine xA ?_|apply yc.mk|refine xT ?_|refine xI ?_|refine Ch.l ⟨rfl,rfl⟩ ?_|(apply y4.r;focus repeat' constructor)|(apply Fk.r;focus repeat' first|infer_instance|constructor)|refine xN ?_|refine Rf.mk ⟨rfl,rfl,rfl⟩ ?_|intro _)
  refine Cl.Ef hr ga ⟨by simp,by simp⟩ (by repeat'(first|exact y3.nil|apply y3.yB|(apply y3.yX;{exact z1};{exact zu};{exact za})|(apply y3.cell;{exact z1})|fail)) ?_
  repeat'(first|apply Sp.h|refine Lk.r rfl ?_|refine Rf.mk rfl ?_|refine xA ?_|refine yu.r rfl ?_|refine Im.mk λ_=>?_|refine yc.mk λ_=>?_|refine xT ?_|refine xI ?_|(apply Fk.r;focus repeat' first|infer_instance|constructor)|refine Rf.mk ⟨rfl,rfl,rfl⟩ ?_|refine xD ?_|refine xO ?_|(apply Cl.yY (he);(focus((repeat'(first|exact y3.nil|apply y3.yB|(apply y3.yX;{exact z1};{exact zu};{exact za})|fail));done))))
  all_goals exact PA.lp (i+1) xE ⟨z6,z6⟩
 ·have:i=4:=z6
  subst this
  repeat'(first|apply Sp.h|refine Lk.r rfl ?_|refine Rf.mk rfl ?_|refine xB ?_|apply yc.mk|(apply Fk.r;focus repeat' first|infer_instance|constructor)|refine Rf.mk ⟨rfl,rfl,rfl⟩ ?_|intro _)
  apply Cl.fx [pm p,ints [1,0]]
  focus(repeat'(first|exact FX.nil|(apply FX.sl;{exact z1};{exact zw})|(apply FX.le;{exact zv})|apply FX.agg|apply FX.yE))
  refine xW (h5 p v2) ?_
  rintro _ _ ⟨rfl,v3,rfl⟩
  repeat'(first|apply Sp.h|refine Lk.r rfl ?_|refine Rf.mk rfl ?_|refine xA ?_|apply yc.mk|(apply Fk.r;focus repeat' first|infer_instance|constructor)|refine Rf.mk ⟨rfl,rfl,rfl⟩ ?_|intro _)
  repeat'(first|(show CA _ _ (Code.region 15 _ _) _ _;apply z_.out)|apply Sp.h|refine Lk.r rfl ?_|refine Rf.mk rfl ?_|refine xA ?_|refine yc.mk λ_=>?_|(apply Fk.r;focus repeat' first|infer_instance|constructor)|refine Rf.mk ⟨rfl,rfl,rfl⟩ ?_|(apply Cl.yY k7;(focus((repeat'(first|exact y3.nil|apply y3.yB|(apply y3.yX;{exact z1};{exact zu};{exact za})|(apply y3.cell;{exact z1})|fail));done)))|(apply Cl.yY He;(focus((repeat'(first|exact y3.nil|apply y3.yB|(apply y3.yX;{exact z1};{exact zu};{exact za})|(apply y3.cell;{exact z1})|fail));done)))|(apply Cl.yY k0;(focus((repeat'(first|exact y3.nil|apply y3.yB|(apply y3.yX;{exact z1};{exact zu};{exact za})|(apply y3.cell;{exact z1})|fail));done))))
  any_goals apply z_.mk
  (apply CA.own;(focus(apply OX.rD (b:=p);{exact z1};(focus(repeat'(first|exact FX.nil|(apply FX.s1;{exact z1};{exact zb})|apply FX.k)));{exact z1})))
  apply CA.xt 3
  focus rfl
  focus(repeat constructor)
  repeat'(first|apply Sp.h|refine Lk.r rfl ?_|refine Rf.mk rfl ?_|apply yc.mk|refine xT ?_|refine Ch.l ⟨rfl,rfl⟩ ?_|(apply Fk.r;focus repeat' first|infer_instance|constructor)|refine Rf.mk ⟨rfl,rfl,rfl⟩ ?_|intro _)
  apply Cl.fx [wH M,.ad (sO M B [cb] N) 0,uI [(0,0)]]
  focus(repeat'(first|exact FX.nil|(apply FX.sl;{exact z1};{exact zw})|(apply FX.le;{exact zv})|apply FX.agg|apply FX.yE))
  (apply Cl.pG (m1);{exact ga};focus repeat' constructor)
  repeat'(first|apply Sp.h|refine Lk.r rfl ?_|refine Rf.mk rfl ?_|apply yc.mk|(apply Fk.r;focus repeat' first|infer_instance|constructor)|refine Rf.mk ⟨rfl,rfl,rfl⟩ ?_|intro _)
  apply Cl.fx [.sl 1 [some ⟨M,B,[cb],N⟩,some ⟨M,B,[cb],N⟩] H9]
  focus(repeat'(first|exact FX.nil|(apply FX.sl;{exact z1};{exact zw})|(apply FX.le;{exact zv})|apply FX.agg|apply FX.yE))
  apply Cl.p m2
  focus(repeat'(first|exact y3.nil|apply y3.yB|fail))
  repeat'(first|apply Sp.h|refine Lk.r rfl ?_|refine Rf.mk rfl ?_|apply yc.mk|refine xT ?_|refine Ch.l ⟨rfl,rfl⟩ ?_|(apply Fk.r;focus repeat' first|infer_instance|constructor)|refine Rf.mk ⟨rfl,rfl,rfl⟩ ?_|intro _)
  apply Cl.fx [wH M,.ad (sO M B [cb] N) 0,ints [1,0],ints [1,1]]
  focus(repeat'(first|exact FX.nil|(apply FX.sl;{exact z1};{exact zw})|(apply FX.le;{exact zv})|apply FX.agg|apply FX.yE))
  (apply Cl.pG (m3);{exact ga};focus repeat' constructor)
  repeat'(first|apply Sp.h|refine Lk.r rfl ?_|refine Rf.mk rfl ?_|refine xA ?_|apply yc.mk|(apply Fk.r;focus repeat' first|infer_instance|constructor)|refine Rf.mk ⟨rfl,rfl,rfl⟩ ?_|intro _)
  repeat'(first|apply Sp.h|refine Lk.r rfl ?_|refine Rf.mk rfl ?_|refine xA ?_|refine yc.mk λ_=>?_|refine xT ?_|refine Ch.l ⟨rfl,rfl⟩ ?_|(apply Fk.r;focus repeat' first|infer_instance|constructor)|refine xN ?_|refine Rf.mk ⟨rfl,rfl,rfl⟩ ?_|(apply Cl.yY e2;(focus((repeat'(first|exact y3.nil|apply y3.yB|(apply y3.yX;{exact z1};{exact zu};{exact za})|fail));done)))|(apply Cl.yY e3;(focus((repeat'(first|exact y3.nil|apply y3.yB|(apply y3.yX;{exact z1};{exact zu};{exact za})|fail));done)))|(apply Cl.dh m4;{exact ga};(focus((repeat'(first|exact y3.nil|apply y3.yB|(apply y3.yX;{exact z1};{exact zu};{exact za})|fail));done)))|(apply Cl.dh m5;{exact ga};(focus((repeat'(first|exact y3.nil|apply y3.yB|(apply y3.yX;{exact z1};{exact zu};{exact za})|fail));done))))
  all_goals exact Fin.p rfl rfl
theorem XV(m:y8)(n:Nat)(ld:List Int)(hm:nR m)(hn:1<=n/\n<=5)(h:¬(ld.length=xk m/\lC ld)):y6 Tryz.prog 35 [wH m,it n,ints ld] (.yE [.val (.pointer none),it 1]):=by
 have h1:=gG m hm.lay
 have h2:=ou ld
 refine zy.of pg VG Tryz.func35 rfl Tryz.ntmps35 Tryz.results35 rfl λh0 G0 O0=>?_
 by_cases hl:ld.length=xk m
 ·rw [zF λh9=>h ⟨hl,h9⟩] at h2
  repeat'(first|apply Sp.h|refine Lk.r rfl ?_|refine Rf.mk rfl ?_|refine xA ?_|refine xB ?_|refine Im.mk λ_=>?_|refine yc.mk λ_=>?_|refine xT ?_|refine Ch.l ⟨rfl,rfl⟩ ?_|refine xN ?_|(apply Cl.p (h1);focus(repeat' constructor);done)|(apply Cl.p (h2);focus(repeat' constructor);done))
  all_goals first
   | exact Fin.p rfl rfl
   | exact(by omega:False).elim
 ·repeat'(first|apply Sp.h|refine Lk.r rfl ?_|refine Rf.mk rfl ?_|refine xB ?_|refine Im.mk λ_=>?_|refine yc.mk λ_=>?_|refine xT ?_|refine Ch.l ⟨rfl,rfl⟩ ?_|refine xN ?_|(apply Cl.p (h1);focus(repeat' constructor);done)|(apply Cl.p (h2);focus(repeat' constructor);done))
  all_goals first
   | exact Fin.p rfl rfl
   | exact(by omega:False).elim
theorem Wi{c:List Int}{l:List yo}{i:Nat}{e:yo}(h:l[i]?=some e):uP c (l.take (i+1))=uP c (l.take i) ++ if x9 c e.rep e.num then [e] else []:=by
 rw [zK,h,uP,Option.toList_some,List.filter_append]
 by_cases hh:x9 c e.rep e.num <;> simp [hh,uP]
theorem U6(l:List yo)(c:List Int)(hl:l.length<=1000000):y6 Tryz.prog 31 [vm l,ints c] (vm (uP c l)):=by
 refine zy.fz (T:=66) (by have:(uP c l).length<=l.length:=List.length_filter_le _ _;omega) ?_
 refine zy.of pg ye Tryz.func31 rfl Tryz.ntmps31 Tryz.results31 rfl λh0 G0 O0=>?_
 (repeat'(first|(show CA _ _ (Code.region 2 _ _) _ _;apply z_.out)|apply Sp.h|refine Lk.r rfl ?_|refine Rf.mk rfl ?_|apply yc.mk|(apply Fk.r;focus repeat' first|infer_instance|constructor)|refine Rf.mk ⟨rfl,rfl,rfl⟩ ?_|intro _));any_goals apply z_.mk
 rename_i v
 apply CA.yR (v:=v) (m:=([]:List yo)) (g:=uf)
 focus(repeat constructor)
 focus rfl
 repeat'(first|apply Sp.h|refine Lk.r rfl ?_|refine Rf.mk rfl ?_|fail)
 refine CA.loop (λz:Nat×Value=>⟨[(0,vm l),(1,ints c),(5,.ow z.2),(6,it z.1)],[yb z.2 66 13 (uP c (l.take z.1)) uf]⟩) (λz=>z.1<=l.length) (λz=>l.length - z.1) (0,v) xE (zZ _) ?_
 rintro⟨i,u⟩ hi
 simp only at hi
 simp only
 have qz:(uP c (l.take i)).length<=i:=by
  have h1:(uP c (l.take i)).length<=(l.take i).length:=List.length_filter_le _ _
  rw [zN] at h1
  omega
 by_cases yd:i < l.length
 ·obtain⟨e,he⟩:=zz yd
  have hn:=Yi e
  have hh:=fH c e.rep e.num
  have xe:=Wi (c:=c) he
  by_cases hH:x9 c e.rep e.num
  ·rw [zT hH] at hh
   rw [if_pos hH] at xe
   repeat'(first|apply Sp.h|refine Lk.r rfl ?_|refine Rf.mk rfl ?_|refine xA ?_|refine xP ?_|refine Im.mk λ_=>?_|refine yc.mk λ_=>?_|refine xU ?_|refine xI ?_|refine Ce.r ?_|refine Ch.l ⟨rfl,rfl⟩ ?_|(apply Fk.r;focus repeat' first|infer_instance|constructor)|refine Rf.mk ⟨rfl,rfl⟩ ?_|refine Rf.mk ⟨rfl,rfl,rfl⟩ ?_|(apply Mp.lit;(focus repeat(first|exact yK.nil|(apply yK.cons;{exact zu})|(apply yK.inv;{exact z1};{exact zh}))))|refine xO ?_|(apply Cl.p (hn);focus(repeat' constructor);done)|(apply Cl.p (hh);focus(repeat' constructor);done))
   rw [<-xe]
   all_goals exact PA.lp (i+1,_) xE ⟨yd,by simp only;omega⟩
  ·rw [zF hH] at hh
   rw [if_neg hH,List.append_nil] at xe
   rw [<-xe]
   repeat'(first|apply Sp.h|refine Lk.r rfl ?_|refine Rf.mk rfl ?_|refine xA ?_|refine Im.mk λ_=>?_|refine xI ?_|refine Ch.l ⟨rfl,rfl⟩ ?_|refine xO ?_|(apply Cl.p (hn);focus(repeat' constructor);done)|(apply Cl.p (hh);focus(repeat' constructor);done))
   all_goals exact PA.lp (i+1,u) xE ⟨yd,by simp only;omega⟩
 ·have:i=l.length:=z6
  subst this
  rw [zL]
  repeat'(first|apply Sp.h|refine Lk.r rfl ?_|refine Rf.mk rfl ?_|refine xB ?_|apply Im.mk|refine xN ?_|intro _)
  exact⟨_,_,.one (.same (.z)),_,rfl,rfl⟩
inductive L5 where
 | own (c:List Int) (w:Value)
 | rd (c:List Int)
def SU:L5->List AV
 | .own _ w=> [.ow w]
 | .rd c=> [ints c]
def Sk:L5->yh
 | .own c w=>yb w 3 1 c xL
 | .rd _=>u9 []
def cY:L5->List Int
 | .own c _=>c
 | .rd c=>c
theorem Ep{v:Value}{L:List L5}(hl:L.length<=1000000)(hm:∀x∈L,(cY x).length<=1000000):FX [yb v 22 1 L SU,u9 (L.map Sk)] [.ow v] [vW (L.map cY)] []:=by
 refine .sl .here z6 (.PJ .here ?_) .nil
 refine FX.rows (o:= []) (r:=Sk) (f:=SU) (g:=kI) (φ:=cY) L λx hx o'=>?_
 have:=hm x hx
 cases x with
 | own c w=>exact .sl .here (by simp only [cY] at this;omega) (FX.refl _) (FX.refl _)
 | rd c=>exact .PJ .here (FX.refl _)
theorem XP(m:y8)(st:List Int)(V:List (List Int))(qs:List vA)(hx:xR m)(yL:st.length=xk m)(wU:m.ops.length<=1000000000)(vL:xl m)(hq:∀q∈qs,ir st (w_ m st) V q)(gP:qs.length<=1000) :
  y6 Tryz.prog 34 [wH m,ints st,vW V,uI qs] (vW (qs.map (wh st (w_ m st) V))):=by
 have hv:=fW m st hx yL wU vL
 have PS:(w_ m st).length=st.length:=by simp [w_]
 generalize w_ m st=B at hv hq PS ⊢
 refine zy.fx (K:=λr own=>∃v L,r= .ow v/\own= [yb v 22 1 L SU,u9 (L.map Sk)]/\L.map cY=qs.map (wh st B V)/\∀x∈L,(cY x).length<=1000000) ?_ ?_
 rotate_left
 ·rintro _ _ ⟨v,L,rfl,rfl,hL,hm⟩
  have SL:L.length=qs.length:=by have:=congrArg List.length hL;simpa using this
  rw [<-hL]
  exact Ep z6 hm
 refine zy.of pg ye Tryz.func34 rfl Tryz.ntmps34 Tryz.results34 rfl λh0 G0 O0=>?_
 (repeat'(first|(show CA _ _ (Code.region 2 _ _) _ _;apply z_.out)|apply Sp.h|refine Lk.r rfl ?_|refine Rf.mk rfl ?_|apply yc.mk|intro _));any_goals apply z_.mk
 rename_i b4
 refine CA.uV 9 22 1 SU rfl λv=>?_
 apply CA.o9 Sk
 repeat'(first|apply Sp.h|refine Lk.r rfl ?_|refine Rf.mk rfl ?_|refine xT ?_|refine Ch.l ⟨rfl,rfl⟩ ?_|(apply Cl.p (hv);focus repeat' constructor))
 refine CA.loop (λz:Nat×Value×List L5=>⟨[(1,ints st),(2,vW V),(3,uI qs),(4,pm b4),(9,.ow z.2.1),(10,q8 B),(11,it z.1)],[mR b4 m,yb z.2.1 22 1 z.2.2 SU,u9 (z.2.2.map Sk)]⟩)
  (λz=>z.1<=qs.length/\z.2.2.map cY=(qs.take z.1).map (wh st B V)/\∀x∈z.2.2,(cY x).length<=1000000) (λz=>qs.length - z.1) (0,v,[]) xE ⟨zZ _,rfl,λx h=>by cases h⟩ ?_
 rintro⟨i,u,L⟩ ⟨hi,hL,Ci⟩
 simp only at hi hL Ci
 simp only
 have SL:L.length=i:=by have:=congrArg List.length hL;simp at this;omega
 by_cases yd:i < qs.length
 rotate_left
 ·have:i=qs.length:=z6
  subst this
  rw [zL] at hL
  repeat'(first|apply Sp.h|refine Lk.r rfl ?_|refine Rf.mk rfl ?_|refine xB ?_|apply Im.mk|refine xN ?_|intro _)
  exact⟨_,_,.one (.same (.z)),u,L,rfl,rfl,hL,Ci⟩
 obtain⟨q,PW⟩:=zz yd
 have hk:=hq q (zM PW)
 have xe:∀x:L5,cY x=wh st B V q->(L ++ [x]).map cY=(qs.take (i+1)).map (wh st B V):=λx hx=>by
  rw [List.map_append,hL,zK,PW,Option.toList_some,List.map_append]
  simp [hx]
 have O4:∀x:L5,(cY x).length<=1000000->∀y∈L ++ [x],(cY y).length<=1000000:=λx hx y hy=>(zV.1 hy).elim (Ci y) λh=>by rw [zH.1 h];exact hx
 obtain⟨k1,k2,k3⟩:=hk
 obtain⟨c,Bn⟩:=Int.eq_ofNat_of_zero_le k1
 rcases k2 with⟨e1,e2⟩|⟨e1,e2⟩|⟨e1,e2⟩
 ·obtain⟨x,V2⟩:=zz (l:=st) (i:=c) z6
  have su:wh st B V q= [x]:=by rw [wh,if_pos e1,Bn,Int.toNat_natCast,V2];rfl
  (repeat'(first|(show OA _ _ _ (List.cons ⟨_,Op.buildSlice 43 _ _,_,_,_,_⟩ _) _ _;apply z_.out)|apply Sp.h|refine Lk.r rfl ?_|refine Rf.mk rfl ?_|refine xA ?_|apply Im.mk|apply yc.mk|refine xT ?_|refine xI ?_|(apply Ix.r;{exact z8};{exact z6})|refine Ch.l ⟨rfl,rfl⟩ ?_|(apply y4.r;focus repeat' constructor)|(apply Fk.r;focus repeat' first|infer_instance|constructor)|refine xN ?_|refine Rf.mk ⟨rfl,rfl,rfl⟩ ?_|intro _));any_goals apply z_.mk
  rename_i w
  have inv:Inv SU [.ow w] (.own [x] w):=⟨rfl⟩
  (repeat'(first|(show CA _ _ (Code.region 5 _ _) _ _;apply z_.out)|apply Sp.h|refine Lk.r rfl ?_|refine Rf.mk rfl ?_|refine xP ?_|apply yc.mk|refine xU ?_|refine Ce.r ?_|(apply Fk.r;focus repeat' first|infer_instance|constructor)|refine Rf.mk ⟨rfl,rfl⟩ ?_|refine Rf.mk ⟨rfl,rfl,rfl⟩ ?_|(apply Mp.lit;(focus repeat(first|exact yK.nil|(apply yK.cons;{exact zu})|(apply yK.inv;{exact z1};{exact zh}))))|intro _));any_goals apply z_.mk
  apply CA.yR (v:=w) (m:= [x]) (g:=xL)
  focus(repeat constructor)
  focus rfl
  apply CA.tU (l:=L) (g:=Sk) (x:= .own [x] w)
  focus(repeat constructor)
  focus(repeat constructor)
  repeat'(first|apply Sp.h|refine Lk.r rfl ?_|refine Rf.mk rfl ?_|refine xO ?_|fail)
  exact PA.lp (i+1,_,L ++ [.own [x] w]) xE ⟨⟨yd,xe (.own [x] w) su.symm,O4 (.own [x] w) (by simp [cY])⟩,by simp only;omega⟩
 ·obtain⟨x,V2⟩:=zz (l:=B) (i:=c) z6
  have su:wh st B V q= [if x then 1 else 0]:=by rw [wh,if_neg z6,if_pos e1,Bn,Int.toNat_natCast,V2];rfl
  cases x
  ·rw [if_neg zd] at su
   (repeat'(first|(show OA _ _ _ (List.cons ⟨_,Op.buildSlice 43 _ _,_,_,_,_⟩ _) _ _;apply z_.out)|apply Sp.h|refine Lk.r rfl ?_|refine Rf.mk rfl ?_|refine xA ?_|refine xB ?_|apply Im.mk|apply yc.mk|refine xT ?_|refine xI ?_|(apply Ix.r;{exact z8};{exact z6})|refine Ch.l ⟨rfl,rfl⟩ ?_|(apply y4.r;focus repeat' constructor)|(apply Fk.r;focus repeat' first|infer_instance|constructor)|refine xN ?_|refine Rf.mk ⟨rfl,rfl,rfl⟩ ?_|intro _));any_goals apply z_.mk
   rename_i w
   have inv:Inv SU [.ow w] (.own [0] w):=⟨rfl⟩
   (repeat'(first|(show CA _ _ (Code.region 5 _ _) _ _;apply z_.out)|apply Sp.h|refine Lk.r rfl ?_|refine Rf.mk rfl ?_|refine xP ?_|apply yc.mk|refine xU ?_|refine Ce.r ?_|(apply Fk.r;focus repeat' first|infer_instance|constructor)|refine Rf.mk ⟨rfl,rfl⟩ ?_|refine Rf.mk ⟨rfl,rfl,rfl⟩ ?_|(apply Mp.lit;(focus repeat(first|exact yK.nil|(apply yK.cons;{exact zu})|(apply yK.inv;{exact z1};{exact zh}))))|intro _));any_goals apply z_.mk
   apply CA.yR (v:=w) (m:= [(0:Int)]) (g:=xL)
   focus(repeat constructor)
   focus rfl
   apply CA.tU (l:=L) (g:=Sk) (x:= .own [0] w)
   focus(repeat constructor)
   focus(repeat constructor)
   repeat'(first|apply Sp.h|refine Lk.r rfl ?_|refine Rf.mk rfl ?_|refine xO ?_|fail)
   exact PA.lp (i+1,_,L ++ [.own [0] w]) xE ⟨⟨yd,xe (.own [0] w) su.symm,O4 (.own [0] w) (by simp [cY])⟩,by simp only;omega⟩
  ·rw [if_pos rfl] at su
   (repeat'(first|(show OA _ _ _ (List.cons ⟨_,Op.buildSlice 43 _ _,_,_,_,_⟩ _) _ _;apply z_.out)|apply Sp.h|refine Lk.r rfl ?_|refine Rf.mk rfl ?_|refine xA ?_|refine xB ?_|apply Im.mk|apply yc.mk|refine xT ?_|refine xI ?_|(apply Ix.r;{exact z8};{exact z6})|refine Ch.l ⟨rfl,rfl⟩ ?_|(apply y4.r;focus repeat' constructor)|(apply Fk.r;focus repeat' first|infer_instance|constructor)|refine xN ?_|refine Rf.mk ⟨rfl,rfl,rfl⟩ ?_|intro _));any_goals apply z_.mk
   rename_i w
   have inv:Inv SU [.ow w] (.own [1] w):=⟨rfl⟩
   (repeat'(first|(show CA _ _ (Code.region 5 _ _) _ _;apply z_.out)|apply Sp.h|refine Lk.r rfl ?_|refine Rf.mk rfl ?_|refine xP ?_|apply yc.mk|refine xU ?_|refine Ce.r ?_|(apply Fk.r;focus repeat' first|infer_instance|constructor)|refine Rf.mk ⟨rfl,rfl⟩ ?_|refine Rf.mk ⟨rfl,rfl,rfl⟩ ?_|(apply Mp.lit;(focus repeat(first|exact yK.nil|(apply yK.cons;{exact zu})|(apply yK.inv;{exact z1};{exact zh}))))|intro _));any_goals apply z_.mk
   apply CA.yR (v:=w) (m:= [(1:Int)]) (g:=xL)
   focus(repeat constructor)
   focus rfl
   apply CA.tU (l:=L) (g:=Sk) (x:= .own [1] w)
   focus(repeat constructor)
   focus(repeat constructor)
   repeat'(first|apply Sp.h|refine Lk.r rfl ?_|refine Rf.mk rfl ?_|refine xO ?_|fail)
   exact PA.lp (i+1,_,L ++ [.own [1] w]) xE ⟨⟨yd,xe (.own [1] w) su.symm,O4 (.own [1] w) (by simp [cY])⟩,by simp only;omega⟩
 ·obtain⟨x,V2⟩:=zz (l:=V) (i:=c) z6
  have su:wh st B V q=x:=by rw [wh,if_neg z6,if_neg z6,Bn,Int.toNat_natCast,V2];rfl
  have CM:=k3 x (zM V2)
  have inv:Inv SU [ints x] (.rd x):=⟨rfl⟩
  (repeat'(first|(show CA _ _ (Code.region 5 _ _) _ _;apply z_.out)|apply Sp.h|refine Lk.r rfl ?_|refine Rf.mk rfl ?_|refine xA ?_|refine xB ?_|refine xP ?_|apply Im.mk|apply yc.mk|refine xU ?_|refine xT ?_|refine xI ?_|(apply Ix.r;{exact z8};{exact z6})|refine Ce.r ?_|refine Ch.l ⟨rfl,rfl⟩ ?_|(apply y4.r;focus repeat' constructor)|(apply Fk.r;focus repeat' first|infer_instance|constructor)|refine xN ?_|refine Rf.mk ⟨rfl,rfl⟩ ?_|refine Rf.mk ⟨rfl,rfl,rfl⟩ ?_|(apply Mp.lit;(focus repeat(first|exact yK.nil|(apply yK.cons;{exact zu})|(apply yK.inv;{exact z1};{exact zh}))))|intro _));any_goals apply z_.mk
  apply CA.o9 Sk
  apply CA.tU (l:=L) (g:=Sk) (x:= .rd x)
  focus(exact Take.there z1)
  focus(repeat constructor)
  repeat'(first|apply Sp.h|refine Lk.r rfl ?_|refine Rf.mk rfl ?_|refine xO ?_|fail)
  exact PA.lp (i+1,_,L ++ [.rd x]) xE ⟨⟨yd,xe (.rd x) su.symm,O4 (.rd x) (by simp only [cY];omega)⟩,by simp only;omega⟩
theorem XT(l:List yo)(hl:l.length<=100000):zy Tryz.prog 38 [vm l] [] λr own=>∃v s,r= .ow v/\own= [yb v 66 13 s uf]/\s.Perm l:=by
 refine zy.of pg EL Tryz.func38 rfl Tryz.ntmps38 Tryz.results38 rfl λh0 G0 O0=>?_
 repeat'(first|apply Sp.h|refine Lk.r rfl ?_|refine Rf.mk rfl ?_|apply yc.mk|(apply Fk.r;focus repeat' first|infer_instance|constructor)|refine Rf.mk ⟨rfl,rfl,rfl⟩ ?_|intro _)
 rename_i v
 apply CA.yR (m:=([]:List yo)) (g:=uf)
 focus(repeat constructor)
 focus rfl
 refine CA.loop (λx:Nat×Value×List yo=>⟨[(0,vm l),(3,.ow x.2.1),(4,it x.1)],[yb x.2.1 66 13 x.2.2 uf]⟩) (λx=>x.1<=l.length/\x.2.2.length=x.1/\(l.take x.1).Perm x.2.2/\RN x.2.2) (λx=>l.length - x.1) (0,v,[]) xE ⟨zZ _,rfl,by simp,List.Pairwise.nil⟩ ?_
 rintro⟨i,w,s⟩ ⟨hi,qZ,hp,hs⟩
 simp only at hi qZ hp hs
 simp only
 by_cases yd:i < l.length
 ·obtain⟨x,hx⟩:=zz yd
  have xe:l.take (i+1)=l.take i ++ [x]:=by rw [zK,hx];rfl
  repeat'(first|apply Sp.h|refine Lk.r rfl ?_|refine Rf.mk rfl ?_|refine xA ?_|apply Im.mk|refine xU ?_|intro _)
  refine CA.loop (λj:Nat=>⟨[(0,vm l),(3,.ow w),(4,it i),(5,it j)],[yb w 66 13 s uf]⟩) (λj=>j<=s.length/\∀y∈s.drop j,X3 x y) (λj=>j) s.length ?_ ⟨Nat.le_refl _,by simp⟩ ?_
  ·exact xE
  rintro j ⟨hj,xC⟩
  have fin:(∀m y,s.take j=m ++ [y]->¬X3 x y)->(l.take (i+1)).Perm (s.take j ++ x :: s.drop j)/\RN (s.take j ++ x :: s.drop j):=λh=>by
   refine⟨?_,Q5 (by rw [List.take_append_drop];exact hs) xC h⟩
   rw [xe]
   refine(hp.append_right [x]).trans ?_
   refine List.perm_append_comm.trans ?_
   rw [List.singleton_append]
   refine(List.Perm.cons x (by rw [List.take_append_drop]:s.Perm (s.take j ++ s.drop j))).trans ?_
   exact List.perm_middle.symm
  have he:s.take (j - 0) ++ [x] ++ ([] ++ (s.drop j).take (s.length - j))=s.take j ++ x :: s.drop j:=by
   rw [List.take_of_length_le (l:=s.drop j) zd];simp
  by_cases Bc:j=0
  ·subst Bc
   obtain⟨f1,f2⟩:=fin (λm y h=>by simp at h)
   repeat'(first|apply Sp.h|refine Lk.r rfl ?_|refine Rf.mk rfl ?_|refine xB ?_|refine yu.r rfl ?_|refine xP ?_|apply yc.mk|refine xU ?_|refine xI ?_|refine Ce.l rfl ?_|refine Ce.r ?_|refine Ch.l ⟨rfl,rfl⟩ ?_|(apply Fk.r;focus repeat' first|infer_instance|constructor)|refine Rf.mk ⟨rfl,rfl⟩ ?_|refine Rf.mk ⟨rfl,rfl,rfl⟩ ?_|(apply Jx.r;{exact zj};{exact zb})|refine Mp.same ?_|(apply Mp.lit;(focus repeat(first|exact yK.nil|(apply yK.cons;{exact zu})|(apply yK.inv;{exact z1};{exact zh}))))|refine xD ?_|refine xO ?_|intro _)
   all_goals rw [he]
   all_goals exact PA.lp (i+1,_,s.take 0 ++ x :: s.drop 0) xE ⟨⟨yd,by simp;omega,f1,f2⟩,by simp only;omega⟩
  ·obtain⟨y,hy⟩:=zz (l:=s) (i:=j - 1) z6
   have hle:=Td x y
   have htj:s.take j=s.take (j - 1) ++ [y]:=by
    have:=zK (l:=s) (i:=j - 1)
    rw [show j - 1+1=j by omega,hy] at this
    exact this
   by_cases pS:X3 x y
   ·repeat'(first|apply Sp.h|refine Lk.r rfl ?_|refine Rf.mk rfl ?_|refine xA ?_|refine yu.r rfl ?_|refine xU ?_|refine xI ?_|(apply Ix.r;{exact z8};{exact z6})|refine xJ ?_|refine Ch.l ⟨rfl,rfl⟩ ?_|refine xD ?_|refine xO ?_|(apply Cl.p (hle);focus repeat' constructor))
    rw [show((j:Int) - 1)=((j - 1:Nat):Int) by omega]
    refine PA.lp (j - 1) xE ⟨⟨z6,λz hz=>?_⟩,z6⟩
    have hd:s.drop (j - 1)=y :: s.drop j:=by
     have h9:=List.drop_eq_getElem_cons (l:=s) (i:=j - 1) z6
     rw [(zS.1 hy).2,show j - 1+1=j by omega] at h9
     exact h9
    rw [hd] at hz
    rcases List.mem_cons.1 hz with rfl|hz
    ·exact pS
    ·exact xC z hz
   ·obtain⟨f1,f2⟩:=fin (λm z h=>by
     rw [htj] at h
     have:=List.append_inj_right' h rfl
     cases this;exact pS)
    repeat'(first|apply Sp.h|refine Lk.r rfl ?_|refine Rf.mk rfl ?_|refine xA ?_|refine xB ?_|refine yu.r rfl ?_|refine xP ?_|refine yc.mk λ_=>?_|refine xU ?_|refine xI ?_|(apply Ix.r;{exact z8};{exact z6})|refine xJ ?_|refine Ce.l rfl ?_|refine Ce.r ?_|refine Ch.l ⟨rfl,rfl⟩ ?_|(apply Fk.r;focus repeat' first|infer_instance|constructor)|refine Rf.mk ⟨rfl,rfl⟩ ?_|refine Rf.mk ⟨rfl,rfl,rfl⟩ ?_|(apply Jx.r;{exact zj};{exact zb})|refine Mp.same ?_|(apply Mp.lit;(focus repeat(first|exact yK.nil|(apply yK.cons;{exact zu})|(apply yK.inv;{exact z1};{exact zh}))))|refine xD ?_|refine xO ?_|(apply Cl.p (hle);focus repeat' constructor))
    all_goals rw [he]
    all_goals exact PA.lp (i+1,_,s.take j ++ x :: s.drop j) xE ⟨⟨yd,by simp only [zP,List.length_cons,zN,List.length_drop];omega,f1,f2⟩,by simp only;omega⟩
 ·have vk:i=l.length:=z6
  subst vk
  rw [zL] at hp
  repeat'(first|apply Sp.h|refine Lk.r rfl ?_|refine Rf.mk rfl ?_|refine xB ?_|apply Im.mk|refine xN ?_|intro _)
  exact⟨_,_,.one (.same (.z)),_,s,rfl,rfl,hp.symm⟩
theorem cK(l:List yo)(order:List Int)(hl:l.length<=100000)(ho:∀x∈order,0<=x/\x<=255):zy Tryz.prog 36 [vm l,MC order] [] λr own=>∃v X,r= .ow v/\own= [yb v 66 13 X uf]/\(∀e∈X,e∈l)/\X.length<=l.length:=by
 have Ga:=XT l hl
 refine zy.of pg EM Tryz.func36 rfl Tryz.ntmps36 Tryz.results36 rfl λh0 G0 O0=>?_
 repeat'(first|apply Sp.h|refine Lk.r rfl ?_|refine Rf.mk rfl ?_|fail)
 refine xW (Ga) ?_
 rintro _ _ ⟨w,s,rfl,rfl,pI⟩
 have qZ:=pI.length_eq
 repeat'(first|apply Sp.h|refine Lk.r rfl ?_|refine Rf.mk rfl ?_|apply yc.mk|(apply Fk.r;focus repeat' first|infer_instance|constructor)|refine Rf.mk ⟨rfl,rfl,rfl⟩ ?_|intro _)
 rename_i v
 apply CA.yR (v:=v) (m:=([]:List yo)) (g:=uf)
 focus(repeat constructor)
 focus rfl
 refine CA.loop (λx:Value×Value×List yo×List yo=>⟨[(0,vm l),(1,MC order),(5,.ow x.1),(6,.ow x.2.1)],[yb x.1 66 13 x.2.2.2 uf,yb x.2.1 66 13 x.2.2.1 uf]⟩) (λx=>(∀e∈x.2.2.1,e∈l)/\(∀e∈x.2.2.2,e∈l)/\x.2.2.1.length+x.2.2.2.length<=l.length) (λx=>x.2.2.2.length) (w,v,[],s) xE ⟨λe h=>(by cases h),λe h=>pI.mem_iff.1 h,by simp;omega⟩ ?_
 rintro⟨wr,wo,out,rest⟩ ⟨PV,qy,hlen⟩
 simp only at PV qy hlen
 simp only
 by_cases hz:rest.length=0
 ·repeat'(first|apply Sp.h|refine Lk.r rfl ?_|refine Rf.mk rfl ?_|refine xB ?_|refine xU ?_|refine xN ?_|fail)
  all_goals first
   | exact⟨_,_,.one (.same (.z)),_,out,rfl,rfl,PV,z6⟩
   | exact(by omega:False).elim
 ·repeat'(first|apply Sp.h|refine Lk.r rfl ?_|refine Rf.mk rfl ?_|refine xA ?_|apply yc.mk|refine xU ?_|(apply Fk.r;focus repeat' first|infer_instance|constructor)|refine Rf.mk ⟨rfl,rfl,rfl⟩ ?_|intro _)
  all_goals try exact(by omega:False).elim
  rename_i vf
  apply CA.yR (v:=vf) (m:=([]:List Int)) (g:=xL)
  focus(repeat constructor)
  focus rfl
  refine CA.loop (λx:Nat×Value=>⟨[(0,vm l),(1,MC order),(5,.ow wr),(6,.ow wo),(7,.ow x.2),(8,it x.1)],[yb wr 66 13 rest uf,yb wo 66 13 out uf,yb x.2 3 1 (r8 rest x.1) xL]⟩) (λx=>x.1<=rest.length) (λx=>rest.length - x.1) (0,vf) xE (zZ _) ?_
  rintro⟨q,vf⟩ hq
  simp only at hq
  simp only
  by_cases H_:q < rest.length
  ·obtain⟨x,hx⟩:=zz H_
   have qz:=Tx rest q
   repeat'(first|apply Sp.h|refine Lk.r rfl ?_|refine Rf.mk rfl ?_|refine xA ?_|refine xU ?_|fail)
   refine CA.loop (λs:Nat×Bool=>⟨[(0,vm l),(1,MC order),(5,.ow wr),(6,.ow wo),(7,.ow vf),(8,it q),(9,bl s.2),(10,it s.1)],[yb wr 66 13 rest uf,yb wo 66 13 out uf,yb vf 3 1 (r8 rest q) xL]⟩) (λs=>s.1<=rest.length/\(s.2=true↔∀y∈rest.take s.1,¬eY y x)) (λs=>rest.length - s.1) (0,true) xE ⟨zZ _,by simp⟩ ?_
   rintro⟨k,b⟩ ⟨hk,hb⟩
   simp only at hk hb
   simp only
   by_cases rz:k < rest.length
   ·obtain⟨y,hy⟩:=zz rz
    have hbf:=Zd y x
    have xe:rest.take (k+1)=rest.take k ++ [y]:=by rw [zK,hy];rfl
    cases b
    ·repeat'(first|apply Sp.h|refine Lk.r rfl ?_|refine Rf.mk rfl ?_|refine xA ?_|refine yu.r rfl ?_|refine xU ?_|refine xD ?_|refine xO ?_|fail)
     refine PA.lp (k+1,false) xE ⟨⟨rz, ?_⟩,by simp only;omega⟩
     simp only [Bool.false_eq_true,false_iff] at hb ⊢
     intro h
     exact hb λz hz=>h z (by rw [xe];simp [hz])
    ·repeat'(first|apply Sp.h|refine Lk.r rfl ?_|refine Rf.mk rfl ?_|refine xA ?_|refine yu.r rfl ?_|refine xU ?_|refine xI ?_|refine xJ ?_|refine Ch.l ⟨rfl,rfl⟩ ?_|refine xD ?_|refine xO ?_|(apply Cl.p (hbf);focus repeat' constructor))
     refine PA.lp (k+1,decide (¬eY y x)) xE ⟨⟨rz, ?_⟩,by simp only;omega⟩
     simp only [decide_eq_true_eq]
     rw [xe]
     have hb:=hb.1 rfl
     constructor
     ·intro h z hz
      rcases zV.1 hz with hz|hz
      ·exact hb z hz
      ·rw [zH.1 hz];exact h
     ·intro h;exact h y zd
   ·have mO:k=rest.length:=z6
    subst mO
    rw [zL] at hb
    have Zt:r8 rest (q+1)=r8 rest q ++ (if b=true then [(q:Int)] else []):=by
     rw [r8,hx]
     by_cases h9:ZS rest x
     ·rw [if_pos (hb.2 h9)];simp only [if_pos h9]
     ·rw [if_neg (λh8=>h9 (hb.1 h8))];simp only [if_neg h9]
    cases b
    ·rw [if_neg zd,List.append_nil] at Zt
     repeat'(first|apply Sp.h|refine Lk.r rfl ?_|refine Rf.mk rfl ?_|refine xB ?_|refine xU ?_|refine xO ?_|fail)
     rw [<-Zt]
     exact PA.lp (q+1,vf) xE ⟨H_,by simp only;omega⟩
    ·rw [if_pos rfl] at Zt
     repeat'(first|apply Sp.h|refine Lk.r rfl ?_|refine Rf.mk rfl ?_|refine xB ?_|refine xP ?_|apply yc.mk|refine xU ?_|refine Ce.r ?_|(apply Fk.r;focus repeat' first|infer_instance|constructor)|refine Rf.mk ⟨rfl,rfl⟩ ?_|refine Rf.mk ⟨rfl,rfl,rfl⟩ ?_|(apply Mp.lit;(focus repeat(first|exact yK.nil|(apply yK.cons;{exact zu})|(apply yK.inv;{exact z1};{exact zh}))))|refine xO ?_|intro _)
     rw [<-Zt]
     exact PA.lp (q+1,_) xE ⟨H_,by simp only;omega⟩
  ·have ML:q=rest.length:=z6
   subst ML
   have ik:=λx=>@Tw rest rest.length (Nat.le_refl _) x
   obtain⟨fr,YT⟩:∃fr,fr=r8 rest rest.length:=⟨_,rfl⟩
   rw [<-YT] at ik ⊢
   by_cases hf:fr.length=0
   ·repeat'(first|apply Sp.h|refine Lk.r rfl ?_|refine Rf.mk rfl ?_|refine xA ?_|refine xB ?_|refine xU ?_|refine xN ?_|fail)
    all_goals first
     | exact⟨_,_,.one (.same (.z)),_,out,rfl,rfl,PV,z6⟩
     | exact(by omega:False).elim
   have her:∀i:Nat,[] ++ (rest.drop 0).take (i - 0) ++ (rest.drop (i+1)).take (rest.length - (i+1))=rest.eraseIdx i:=λi=>by
    rw [List.take_of_length_le (l:=rest.drop (i+1)) zd,List.eraseIdx_eq_take_drop_succ];rfl
   have gT:∀i,i < rest.length->(rest.eraseIdx i).length+1=rest.length:=λi hi=>by rw [List.length_eraseIdx,if_pos hi];omega
   obtain⟨f0,Gm⟩:=zz (l:=fr) (i:=0) z6
   have vu:∀e∈rest,∀i,(∀x∈out ++ [e],x∈l)/\∀x∈rest.eraseIdx i,x∈l:=λe he i=>⟨λx hx=>(zV.1 hx).elim (PV x) λh=>by rw [zH.1 h];exact qy e he,λx hx=>qy x (List.mem_of_mem_eraseIdx hx)⟩
   by_cases wU:out.length < order.length
   ·obtain⟨o,ho1⟩:=zz wU
    have ho2:=ho o (zM ho1)
    have Hq:0<=o % (fr.length:Int):=Int.emod_nonneg _ z6
    have C7:o % (fr.length:Int) < fr.length:=Int.emod_lt_of_pos _ z6
    obtain⟨y,hy⟩:=zz (l:=fr) (i:=(o % (fr.length:Int)).toNat) z6
    obtain⟨i,e,rfl,hi,he,-⟩:=(ik y).1 (zM hy)
    have gT:=gT i hi
    have vu:=vu e (zM he) i
    repeat'(first|apply Sp.h|refine Lk.r rfl ?_|refine Rf.mk rfl ?_|refine xA ?_|refine xB ?_|refine yu.r rfl ?_|refine xP ?_|apply Im.mk|apply yc.mk|refine xU ?_|refine xI ?_|(apply Ix.r;{exact z8};{exact z6})|refine xJ ?_|refine Ce.l rfl ?_|refine Ce.r ?_|refine Ch.l ⟨rfl,rfl⟩ ?_|(apply Fk.r;focus repeat' first|infer_instance|constructor)|refine Rf.mk ⟨rfl,rfl⟩ ?_|refine Rf.mk ⟨rfl,rfl,rfl⟩ ?_|(apply Jx.r;{exact zj};{exact zb})|refine Mp.same ?_|(apply Mp.lit;(focus repeat(first|exact yK.nil|(apply yK.cons;{exact zu})|(apply yK.inv;{exact z1};{exact zh}))))|refine xD ?_|refine xO ?_|(apply r_.i64;{exact zu};{exact z6})|intro _)
    all_goals rw [her]
    all_goals exact PA.lp (_,_,out ++ [e],rest.eraseIdx i) xE ⟨⟨vu.1,vu.2,by simp only [zP,List.length_cons,List.length_nil];omega⟩,by simp only;omega⟩
   ·obtain⟨i,e,rfl,hi,he,-⟩:=(ik f0).1 (zM Gm)
    have gT:=gT i hi
    have vu:=vu e (zM he) i
    repeat'(first|apply Sp.h|refine Lk.r rfl ?_|refine Rf.mk rfl ?_|refine xB ?_|refine yu.r rfl ?_|refine xP ?_|apply Im.mk|apply yc.mk|refine xU ?_|refine xI ?_|refine xJ ?_|refine Ce.l rfl ?_|refine Ce.r ?_|refine Ch.l ⟨rfl,rfl⟩ ?_|(apply Fk.r;focus repeat' first|infer_instance|constructor)|refine Rf.mk ⟨rfl,rfl⟩ ?_|refine Rf.mk ⟨rfl,rfl,rfl⟩ ?_|(apply Jx.r;{exact zj};{exact zb})|refine Mp.same ?_|(apply Mp.lit;(focus repeat(first|exact yK.nil|(apply yK.cons;{exact zu})|(apply yK.inv;{exact z1};{exact zh}))))|refine xD ?_|refine xO ?_|intro _)
    all_goals rw [her]
    all_goals exact PA.lp (_,_,out ++ [e],rest.eraseIdx i) xE ⟨⟨vu.1,vu.2,by simp only [zP,List.length_cons,List.length_nil];omega⟩,by simp only;omega⟩
noncomputable def DR(m:y8)(b:yt)(l:List yo)(w:yt)(c:List Int)(qs:List vA):List (List Int):=if cX m b l w c qs=0 then r6 m b l c qs else []
theorem z16{m:y8}{b:yt}{l:List yo}{w:yt}(h:AnyS m b l w)(hm:nR m)(vL:xl m)(c:List Int)(qs:List vA)(gP:qs.length<=1000):yV Tryz.prog 16 [wH m,.ad (sO m b l w) 0,ints c,uI qs] (.yE [vW (DR m b l w c qs),it (cX m b l w c qs)]):=by
 have hg:=Y3 m b l w c qs h.shw hm vL h.hb h.ev (λ_=>h.sn c) z6
 obtain⟨r1,r2⟩:=z11 (qs:=qs) (h.sn c)
 unfold DR
 generalize r6 m b l c qs=rows at hg r1 r2 ⊢
 generalize cX m b l w c qs=code at hg ⊢
 refine yJ.fx hg ?_
 rintro r o (⟨h9,rfl,rfl⟩|⟨rfl,v,L,rfl,rfl,hL⟩)
 ·rw [if_neg h9]
  exact .yE (.le wV.nil (.le (wV.refl _) .nil)) .nil
 ·rw [if_pos rfl]
  have:=Eg (o:= []) z6 r2 (r:= .yE [.ow v,it 0]) (own:=eQ v L) (.inr ⟨rfl,v,L,rfl,rfl,hL⟩)
  simpa using this
end Go.Proofs.YtmjllbjfkafhdaaGreatDoor
