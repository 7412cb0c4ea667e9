/- Part 9 of the ground of this proof: what its texts say of the model, the program and the plain data; conditions: those that are named. -/
import Derived.Test.YtmjllbjfkafhdaaGreatDoorS08
namespace Go.Proofs.YtmjllbjfkafhdaaGreatDoor
open Go Go.CF
def tp(m:y8)(R:List (Int×Int)):List AV:= [ints m.y9,xG m.tables,.sl 1 m.xm ur,.sl 6 m.cons lE,.sl 3 m.ops PM,.sl 5 m.yP iq,.sl 3 m.yp tL,.sl 2 R vT]
theorem rl(i n:Int):y6 Tryz.prog 182 [it i,it n] (.val (.bool (decide (0<=i/\i < n)))):=by
 refine zy.of pg ye Tryz.func182 rfl Tryz.ntmps182 Tryz.results182 rfl λh0 G0 O0=>?_
 repeat'(first|apply Sp.h|refine Lk.r rfl ?_|refine Rf.mk rfl ?_|refine xA ?_|refine xB ?_|apply Bd.mk|refine xN ?_|intro _)
 all_goals exact Fin.p rfl (vb (by first|exact(zT z6).symm|exact(zF z6).symm|exact zD.2 z6))
theorem nF(x m:Int)(hm:0<=m/\m<=9223372036854775807):y6 Tryz.prog 187 [it x,it m] (.val (.bool (decide (-m<=x/\x<=m)))):=by
 refine zy.of pg ye Tryz.func187 rfl Tryz.ntmps187 Tryz.results187 rfl λh0 G0 O0=>?_
 repeat'(first|apply Sp.h|refine Lk.r rfl ?_|refine Rf.mk rfl ?_|refine xA ?_|refine xB ?_|apply Bd.mk|refine xP ?_|refine xN ?_|intro _)
 all_goals exact Fin.p rfl (vb (by first|exact(zT z6).symm|exact(zF z6).symm|exact zD.2 z6))
theorem Uf(m:y8)(R:List (Int×Int))(r:sU):y6 Tryz.prog 183 [.agg (tp m R),.agg (pA r)] (.val (.bool (decide (rJ R.length r)))):=by
 have q_:=nF r.bound 1000000000 z6
 refine zy.of pg ye Tryz.func183 rfl Tryz.ntmps183 Tryz.results183 rfl λh0 G0 O0=>?_
 repeat'(first|apply Sp.h|refine Lk.r rfl ?_|refine Rf.mk rfl ?_|apply Im.mk|apply yc.mk|refine xT ?_|intro _)
 rename_i b2 b3 _
 refine CA.loop (λx:Nat×Int=>⟨[(2,pm b2),(3,pm b3),(5,it x.2),(9,yO r.yO),(10,it (r.yO.length:Nat)),(11,it x.1)],[yr b3 170 (pA r),yr b2 196 (tp m R)]⟩) (λx=>x.1<=r.yO.length/\(∀j p,j < x.1->r.yO[j]?=some p->Xl R.length r.yO j p)/\ -1<=x.2/\(x.1=0->x.2= -1)/\∀q,0 < x.1->r.yO[x.1 - 1]?=some q->q.1=x.2) (λx=>r.yO.length - x.1) (0,-1) xE ⟨zZ _,λj p h=>(by simp only at h;omega),by simp,λ_=>rfl,λq h=>(by simp only at h;omega)⟩ ?_
 rintro⟨i,c⟩ ⟨hi,ha,nQ,tE,bI⟩
 simp only at hi ha nQ tE bI
 simp only
 by_cases yd:i < r.yO.length
 ·obtain⟨p,hp⟩:=zz yd
  have bt:=nF p.2 1000 z6
  have vE:Xl R.length r.yO i p↔c < p.1/\p.1 < R.length/\p.2≠0/\ -1000<=p.2/\p.2<=1000:=by
   constructor
   ·rintro⟨g1,g2,g3,g4,g5⟩
    refine⟨?_,g2,g3,g4⟩
    rcases Nat.eq_zero_or_pos i with h0|h0
    ·have:=tE h0;omega
    ·obtain⟨q,hq⟩:=zz (l:=r.yO) (i:=i - 1) z6
     have:=bI q h0 hq
     have:=g5 q h0 hq
     omega
   ·rintro⟨g1,g2,g3,g4⟩
    exact⟨z6,g2,g3,g4,λq h0 hq=>by have:=bI q h0 hq;omega⟩
  by_cases hT:Xl R.length r.yO i p
  ·have Ra:=vE.1 hT
   obtain⟨g1,g2,g3,g4,g5⟩:=Ra
   repeat'(first|apply Sp.h|refine Lk.r rfl ?_|refine Rf.mk rfl ?_|refine xA ?_|refine xB ?_|refine Im.mk λ_=>?_|refine yc.mk λ_=>?_|refine xT ?_|refine xI ?_|refine Ch.l ⟨rfl,rfl⟩ ?_|(apply y4.r;focus repeat' constructor)|refine xN ?_|refine xO ?_|(apply Cl.p (bt);focus repeat' constructor))
   all_goals first
    | exact PA.lp (i+1,p.1) xE ⟨⟨yd,yg hp ha hT,by simp only;omega,λh=>(by simp only at h;omega),λq _ hq=>(by simp only [Nat.add_sub_cancel] at hq;rw [hp] at hq;cases hq;rfl)⟩,by simp only;omega⟩
    | (exfalso;omega)
  ·have yD:¬rJ R.length r:=λh=>hT (h.t i p hp)
   have Ra:=λh=>hT (vE.2 h)
   repeat'(first|apply Sp.h|refine Lk.r rfl ?_|refine Rf.mk rfl ?_|refine xA ?_|refine xB ?_|(refine Bd.mk ?_ ?_ <;> intro _)|refine Im.mk λ_=>?_|refine yc.mk λ_=>?_|refine xT ?_|refine xI ?_|refine Ch.l ⟨rfl,rfl⟩ ?_|(apply y4.r;focus repeat' constructor)|refine xN ?_|refine xO ?_|(apply Cl.p (bt);focus repeat' constructor))
   all_goals first
    | exact Fin.p rfl (vb (zF yD).symm)
    | exact(Ra ⟨z6,z6,z6,z6,z6⟩).elim
 ·have:i=r.yO.length:=z6
  subst this
  repeat'(first|apply Sp.h|refine Lk.r rfl ?_|refine Rf.mk rfl ?_|refine xB ?_|refine xT ?_|refine xN ?_|(apply Cl.p (q_);focus repeat' constructor))
  refine Fin.p rfl (vb ?_)
  by_cases h9: -1000000000<=r.bound/\r.bound<=1000000000
  ·rw [zT h9,zT (show rJ R.length r from⟨xc ha,h9⟩)]
  ·rw [zF h9,zF (λh8:rJ R.length r=>h9 h8.b)]
theorem TN(a b:List (Int×Int)):y6 Tryz.prog 225 [yO a,yO b] (.val (.bool (decide (a=b)))):=by
 refine zy.of pg JI Tryz.func225 rfl Tryz.ntmps225 Tryz.results225 rfl λh0 G0 O0=>?_
 by_cases hl:a.length=b.length
 ·repeat'(first|apply Sp.h|refine Lk.r rfl ?_|refine Rf.mk rfl ?_|refine xA ?_|apply Im.mk|intro _)
  refine CA.loop (λi:Nat=>⟨[(0,yO a),(1,yO b),(11,yO a),(12,it (a.length:Nat)),(13,it i)],[]⟩) (λi=>i<=a.length/\a.take i=b.take i) (λi=>a.length - i) 0 xE ⟨zZ _,rfl⟩ ?_
  rintro i ⟨hi,he⟩
  by_cases yd:i < a.length
  ·obtain⟨p,hp⟩:=zz yd
   obtain⟨q,hq⟩:=zz (l:=b) (i:=i) z6
   by_cases V6:p=q
   ·subst V6
    repeat'(first|apply Sp.h|refine Lk.r rfl ?_|refine Rf.mk rfl ?_|refine xA ?_|refine yu.r rfl ?_|refine xI ?_|refine Ch.l ⟨rfl,rfl⟩ ?_|refine xK ?_|(apply Kf.mk;{exact z7})|refine xD ?_|refine xO ?_|fail)
    all_goals first
     | exact PA.lp (i+1) xE ⟨⟨yd,by rw [zK,zK,he,hp,hq]⟩,z6⟩
     | exact absurd rfl z8
   ·have vB:a≠b:=λh=>V6 (by rw [h,hq] at hp;cases hp;rfl)
    repeat'(first|apply Sp.h|refine Lk.r rfl ?_|refine Rf.mk rfl ?_|refine xA ?_|apply Bd.mk|refine yu.r rfl ?_|refine xI ?_|refine Ch.l ⟨rfl,rfl⟩ ?_|refine xN ?_|refine xK ?_|(apply Kf.mk;{exact z7})|refine xD ?_|refine xO ?_|intro _)
    all_goals first
     | exact Fin.p rfl (vb (zF vB).symm)
     | (rename_i h9;injection h9 with h8 h9;injection h9 with h9;exact(V6 (Prod.ext h8 h9)).elim)
  ·have:i=a.length:=z6
   rw [List.take_of_length_le z6,List.take_of_length_le z6] at he
   repeat'(first|apply Sp.h|refine Lk.r rfl ?_|refine Rf.mk rfl ?_|refine xB ?_|refine xN ?_|fail)
   exact Fin.p rfl (vb (zT he).symm)
 ·have vB:a≠b:=λh=>hl (by rw [h])
  repeat'(first|apply Sp.h|refine Lk.r rfl ?_|refine Rf.mk rfl ?_|refine xB ?_|apply Im.mk|refine xN ?_|intro _)
  all_goals exact Fin.p rfl (vb (zF vB).symm)
end Go.Proofs.YtmjllbjfkafhdaaGreatDoor
set_option maxRecDepth 100000
set_option maxHeartbeats 80000000
namespace Go.Proofs.YtmjllbjfkafhdaaGreatDoor
open Go Go.CF
theorem gu(r:sU)(a b c:Int):y6 Tryz.prog 185 [.agg (pA r),it a,it b,it c] (.val (.bool (decide (r.yO= [(a,b)]/\r.bound=c)))):=by
 have he:=TN r.yO [(a,b)]
 refine zy.of pg ye Tryz.func185 rfl Tryz.ntmps185 Tryz.results185 rfl λh0 G0 O0=>?_
 by_cases ht:r.yO= [(a,b)]
 ·repeat'(first|apply Sp.h|refine Lk.r rfl ?_|refine Rf.mk rfl ?_|refine xA ?_|refine yc.mk λ_=>?_|refine xT ?_|(apply Fk.r;focus repeat' first|infer_instance|constructor)|refine xN ?_|refine Rf.mk ⟨rfl,rfl,rfl⟩ ?_|(apply Cl.yY (he);(focus((repeat'(first|exact y3.nil|apply y3.yB|(apply y3.yX;{exact z1};{exact zu};{exact za})|fail));done))))
  all_goals first
   | exact Fin.p rfl (vb (zD.2 ⟨λh=>⟨ht,h⟩,λh=>h.2⟩))
   | exact absurd ht z8
 ·repeat'(first|apply Sp.h|refine Lk.r rfl ?_|refine Rf.mk rfl ?_|refine xB ?_|refine yc.mk λ_=>?_|refine xT ?_|(apply Fk.r;focus repeat' first|infer_instance|constructor)|refine xN ?_|refine Rf.mk ⟨rfl,rfl,rfl⟩ ?_|(apply Cl.yY (he);(focus((repeat'(first|exact y3.nil|apply y3.yB|(apply y3.yX;{exact z1};{exact zu};{exact za})|fail));done))))
  all_goals first
   | exact Fin.p rfl (vb (zF λh=>ht h.1).symm)
   | exact absurd z8 ht
/-! ### cA in tables -/
theorem Wh{g:FuncId}{caps:List AV}{p:ym->Bool}{l:List ym}(hg:∀t∈l,y6 Tryz.prog g (.agg (v8 t) :: caps) (.val (.bool (p t))))(he:en g=true) :
  y6 Tryz.prog 261 [xG l,.fn g caps] (it (wW p l)):=by
 refine zy.of pg ye Tryz.func261 rfl Tryz.ntmps261 Tryz.results261 rfl λh0 G0 O0=>?_
 repeat'(first|apply Sp.h|refine Lk.r rfl ?_|refine Rf.mk rfl ?_|apply Im.mk|intro _)
 refine CA.loop (λi:Nat=>⟨[(0,xG l),(1,.fn g caps),(7,it (l.length:Nat)),(8,it i)],[]⟩)
  (λi=>i<=l.length/\∀j y,j < i->l[j]?=some y->p y=false) (λi=>l.length - i) 0 xE ⟨zZ _,λj y h=>z6⟩ ?_
 rintro i ⟨hi,hj⟩
 by_cases yd:i < l.length
 ·obtain⟨e,hx⟩:=zz yd
  have WV:=hg e (zM hx)
  repeat'(first|apply Sp.h|refine Lk.r rfl ?_|refine Rf.mk rfl ?_|refine xA ?_|(refine Bd.mk ?_ ?_ <;> intro _)|refine xI ?_|refine Ch.l ⟨rfl,rfl⟩ ?_|refine xN ?_|(apply Rf.mk;{exact z8})|refine xO ?_|(apply Cl.p (WV);(focus repeat'(first|apply y3.yB|fail))))
  ·exact pa _
  ·rename_i hp
   exact Fin.p rfl (by rw [wW,uA hx hp hj,if_pos yd])
  ·rename_i hp
   exact PA.lp (i+1) xE ⟨⟨yd,yg hx hj (by simpa using hp)⟩,z6⟩
 ·repeat'(first|apply Sp.h|refine Lk.r rfl ?_|refine Rf.mk rfl ?_|refine xB ?_|refine xN ?_|fail)
  exact Fin.p rfl (by rw [wW,wL (λx hx=>by obtain⟨j,hx⟩:=zO hx;exact hj j x (by have:=(zS.1 hx).1;omega) hx),if_neg z6])
theorem f_{g:FuncId}{caps:List AV}{p:ym->Bool}{l:List ym}(hg:∀t∈l,y6 Tryz.prog g (.agg (v8 t) :: caps) (.val (.bool (p t))))(he:en g=true) :
  y6 Tryz.prog 223 [xG l,.fn g caps] (.val (.bool (decide (∃t∈l,p t=true)))):=by
 have hi:=Wh hg he
 refine zy.of pg ye Tryz.func223 rfl Tryz.ntmps223 Tryz.results223 rfl λh0 G0 O0=>?_
 repeat'(first|apply Sp.h|refine Lk.r rfl ?_|refine Rf.mk rfl ?_|refine xN ?_|(apply Cl.p (hi);focus repeat' constructor))
 refine Fin.p rfl (vb (zD.2 ?_))
 rw [<-tT]
 unfold wW
 split <;> omega
noncomputable instance (y9:List Int) (c:mh) (t:ym):Decidable (iy y9 c t):=zC _
theorem Tu(m:y8)(R:List (Int×Int))(c:mh)(t:ym)(h:uO m.y9 t.ya):y6 Tryz.prog 224 [.agg (v8 t),.ad (lE c) 0,.ad (tp m R) 0] (.val (.bool (decide (iy m.y9 c t)))):=by
 obtain⟨g1,g2,g3⟩:=h
 refine zy.of pg JJ Tryz.func224 rfl Tryz.ntmps224 Tryz.results224 rfl λh0 G0 O0=>?_
 by_cases hl:t.ya.length=2
 ·obtain⟨x,hx⟩:=zz (l:=t.ya) (i:=0) z6
  obtain⟨y,hy⟩:=zz (l:=t.ya) (i:=1) z6
  have rY:t.ya= [x,y]:=by
   match hc:t.ya,hl with
   | [u,v],_=>rw [hc] at hx hy;cases hx;cases hy;rfl
  obtain⟨lx,Zl⟩:=g3 x (zM hx)
  obtain⟨k,rfl⟩:=Int.eq_ofNat_of_zero_le lx
  obtain⟨z,hz⟩:=zz (l:=m.y9) (i:=k) z6
  by_cases hT:iy m.y9 c t
  ·have Ra:=hT
   obtain⟨h1,h2,w,h3,h4⟩:=Ra
   rw [rY] at h3
   injection h3 with e1 h3
   injection h3 with e2 h3
   subst e2
   obtain rfl:k=w:=z6
   rw [hz] at h4
   injection h4 with h4
   repeat'(first|apply Sp.h|refine Lk.r rfl ?_|refine Rf.mk rfl ?_|refine xA ?_|refine yu.r rfl ?_|apply Im.mk|apply yc.mk|refine xT ?_|refine xI ?_|refine xN ?_|refine xD ?_|intro _)
   all_goals first
    | exact Fin.p rfl (vb (by rw [zT hT];first|exact zT h4|exact zT z6))
    | exact absurd z8 z8
    | exact(by omega:False).elim
  ·have yD:¬(t.kind=0/\t.first=c.first/\(k:Int)=y/\z=c.size):=λ⟨h1,h2,h3,h4⟩=>hT ⟨h1,h2,k,by rw [rY,h3],by rw [hz,h4]⟩
   repeat'(first|apply Sp.h|refine Lk.r rfl ?_|refine Rf.mk rfl ?_|refine xA ?_|refine xB ?_|apply Bd.mk|refine yu.r rfl ?_|apply Im.mk|apply yc.mk|refine xT ?_|refine xI ?_|refine xN ?_|refine xD ?_|intro _)
   all_goals first
    | exact Fin.p rfl (vb (zF hT).symm)
    | exact Fin.p rfl (vb (by rw [zF hT];exact zF (λh9=>yD ⟨z6,z6,z6,z6⟩)))
 ·have hT:¬iy m.y9 c t:=by
   rintro⟨-,-,x,h,-⟩
   exact hl (by rw [h];rfl)
  repeat'(first|apply Sp.h|refine Lk.r rfl ?_|refine Rf.mk rfl ?_|refine xA ?_|refine xB ?_|apply Bd.mk|refine yu.r rfl ?_|apply Im.mk|apply yc.mk|refine xT ?_|refine xN ?_|refine xD ?_|intro _)
  all_goals exact Fin.p rfl (vb (zF hT).symm)
theorem T8(m:y8)(R:List (Int×Int))(c:mh)(hm:xS m.y9 m.tables):y6 Tryz.prog 184 [.agg (tp m R),.agg (lE c)] (.val (.bool (decide (eX m c)))):=by
 have hc:=f_ (g:=224) (caps:= [.ad (lE c) 0,.ad (tp m R) 0]) (p:=λt=>decide (iy m.y9 c t)) (l:=m.tables) (λt ht=>Tu m R c t (hm.2.2.2 t ht).1) rfl
 have vE:eX m c↔c.row.yO.length=0/\c.row.bound=0/\∃t∈m.tables,decide (iy m.y9 c t)=true:=by
  constructor
  ·rintro⟨h1,h2,i,t,ht,h3⟩
   exact⟨by rw [h1];rfl,h2,t,zM ht,zT h3⟩
  ·rintro⟨h1,h2,t,ht,h3⟩
   obtain⟨i,hi⟩:=zO ht
   exact⟨List.length_eq_zero_iff.1 h1,h2,i,t,hi,of_decide_eq_true h3⟩
 refine zy.of pg ye Tryz.func184 rfl Tryz.ntmps184 Tryz.results184 rfl λh0 G0 O0=>?_
 (repeat'(first|(show CA _ _ (Code.region 1 _ _) _ _;apply z_.out)|apply Sp.h|refine Lk.r rfl ?_|refine Rf.mk rfl ?_|apply yc.mk|intro _));any_goals apply z_.mk
 refine CA.xt 2 rfl z1 ?_
 refine CA.xt 3 rfl z1 ?_
 by_cases h0:c.row.yO.length=0/\c.row.bound=0
 ·obtain⟨h1,h2⟩:=h0
  repeat'(first|apply Sp.h|refine Lk.r rfl ?_|refine Rf.mk rfl ?_|refine xA ?_|refine Im.mk λ_=>?_|refine xN ?_|(apply Cl.p (hc);focus repeat' constructor))
  all_goals first
   | exact Fin.p rfl (vb (zD.2 ⟨λh=>vE.2 ⟨h1,h2,h⟩,λh=>(vE.1 h).2.2⟩))
   | (exfalso;omega)
 ·have yD:¬eX m c:=λh=>h0 ⟨(vE.1 h).1,(vE.1 h).2.1⟩
  repeat'(first|apply Sp.h|refine Lk.r rfl ?_|refine Rf.mk rfl ?_|refine xA ?_|refine xB ?_|(refine Bd.mk ?_ ?_ <;> intro _)|refine Im.mk λ_=>?_|refine xN ?_|(apply Cl.p (hc);(focus repeat'(first|fail))))
  all_goals first
   | exact Fin.p rfl (vb (zF yD).symm)
   | exact(h0 ⟨z6,z6⟩).elim
noncomputable def wA(m:y8):List (Int×Int):=sr m.y9 true m.tables
theorem og(m:y8):y6 Tryz.prog 117 [wH m] (.sl 2 (wA m) vT):=by
 have hr:=dM m.y9 m.tables true
 refine zy.of pg ye Tryz.func117 rfl Tryz.ntmps117 Tryz.results117 rfl λh0 G0 O0=>?_
 repeat'(first|apply Sp.h|refine Lk.r rfl ?_|refine Rf.mk rfl ?_|refine yc.mk λ_=>?_|refine xT ?_|refine xN ?_|(apply Cl.p (hr);focus repeat' constructor))
 exact Fin.p rfl rfl
def iB(rs:List (Int×Int))(i:Nat)(c:mh):Prop:=∀p,rs[i / 2]?=some p->c.row.yO= [(((i / 2:Nat):Int),if i % 2=0 then -1 else 1)]/\c.row.bound=if i % 2=0 then -p.1 else p.2
structure fA (m:y8) (n:Nat) (i:Nat) (c:mh):Prop where
 f:0<=c.family/\c.family < m.xm.length
 k:(c.kind=0/\c.first=0/\c.size=0/\rJ n c.row)∨(2 * n<=i/\c.kind=1/\eX m c)
structure qu (m:y8):Prop where
 a:2 * (wA m).length<=m.cons.length
 b:m.cons.length<=512
 c:∀i c,m.cons[i]?=some c->iB (wA m) i c/\fA m (wA m).length i c
noncomputable instance (m:y8):Decidable (qu m):=zC _
theorem _root_.Go.CF.zq {p:Prop}(h:p:=by first|omega|decide|exact zB rfl|(simp <;> omega)):p:=h
theorem iG(m:y8)(hm:xS m.y9 m.tables):y6 Tryz.prog 53 [wH m] (.val (.bool (decide (qu m)))):=by
 have hs:=og m
 have R0:=tu (sizes:=m.y9) (s:=true) (l:=m.tables)
 have bj:=Y7 (sizes:=m.y9) (s:=true) (l:=m.tables)
 change (wA m).length<=128 at R0
 change LC (wA m) at bj
 have hx:∀h:qu m,True:=λ_=>trivial
 have wQ:qu m↔2 * (wA m).length<=m.cons.length/\m.cons.length<=512/\∀i c,m.cons[i]?=some c->iB (wA m) i c/\fA m (wA m).length i c:=⟨λh=>⟨h.a,h.b,h.c⟩,λh=>⟨h.1,h.2.1,h.2.2⟩⟩
 obtain⟨rs,YM⟩:∃rs,rs=wA m:=⟨_,rfl⟩
 rw [<-YM] at hs R0 bj wQ
 clear hx
 refine zy.of pg EH Tryz.func53 rfl Tryz.ntmps53 Tryz.results53 rfl λh0 G0 O0=>?_
 by_cases h0:2 * rs.length<=m.cons.length/\m.cons.length<=512
 rotate_left
 ·have yD:¬qu m:=λh=>h0 ⟨(wQ.1 h).1,(wQ.1 h).2.1⟩
  repeat'(first|apply Sp.h|refine Lk.r rfl ?_|refine Rf.mk rfl ?_|refine xA ?_|refine xB ?_|(refine Bd.mk ?_ ?_ <;> intro _)|refine xP ?_|refine Im.mk λ_=>?_|refine yc.mk λ_=>?_|refine xT ?_|refine Ch.l ⟨rfl,rfl⟩ ?_|refine xN ?_|(apply Cl.p (hs);focus repeat' constructor))
  all_goals first
   | exact Fin.p rfl (vb (zF yD).symm)
   | exact(h0 ⟨z6,z6⟩).elim
 obtain⟨nQ,ue⟩:=h0
 repeat'(first|apply Sp.h|refine Lk.r rfl ?_|refine Rf.mk rfl ?_|refine xB ?_|refine xP ?_|refine Im.mk λ_=>?_|refine yc.mk λ_=>?_|refine xT ?_|refine Ch.l ⟨rfl,rfl⟩ ?_|(apply Cl.p (hs);focus repeat' constructor))
 rename_i b1 _ _ _
 refine CA.loop (λi:Nat=>⟨[(1,.val (.pointer (some ⟨b1,0,none⟩))),(3,.sl 2 rs vT),(4,it i)],[yr b1 30 (s_ m)]⟩) (λi=>i<=rs.length/\∀j c,j < 2 * i->m.cons[j]?=some c->iB rs j c) (λi=>rs.length - i) 0 xE ⟨zZ _,λj c h=>z6⟩ ?_
 rintro i ⟨hi,Oi⟩
 by_cases yd:i < rs.length
 ·obtain⟨p,hp⟩:=zz yd
  obtain⟨h1,h2,h3⟩:=bj p (zM hp)
  obtain⟨c,hc⟩:=zz (l:=m.cons) (i:=2 * i) z6
  obtain⟨c2,tE⟩:=zz (l:=m.cons) (i:=2 * i+1) z6
  have e1:2 * i / 2=i:=z6
  have e2:(2 * i+1) / 2=i:=z6
  have e3:2 * i % 2=0:=z6
  have e4:(2 * i+1) % 2≠0:=z6
  by_cases hA:c.row.yO= [((i:Int),-1)]/\c.row.bound= -p.1
  ·by_cases hB:c2.row.yO= [((i:Int),1)]/\c2.row.bound=p.2
   ·have vu:=yg tE (yg hc Oi λq hq=>by rw [e1,hp] at hq;cases hq;rw [e1,if_pos e3,if_pos e3];exact hA) λq hq=>by rw [e2,hp] at hq;cases hq;rw [e2,if_neg e4,if_neg e4];exact hB
    have z00:m.cons[2 * i+1]?=some c2:=tE
    clear tE
    repeat'(first|apply Sp.h|refine Lk.r rfl ?_|refine Rf.mk rfl ?_|refine xA ?_|refine yu.r rfl ?_|refine xP ?_|apply Im.mk|apply yc.mk|refine xT ?_|refine xI ?_|refine Ch.l ⟨rfl,rfl⟩ ?_|refine Ch.r ?_|(apply y4.r;focus repeat' constructor)|(apply Fk.r;focus repeat' first|infer_instance|constructor)|refine xN ?_|refine Rf.mk ⟨rfl,rfl,rfl⟩ ?_|refine xD ?_|intro _)
    (apply Cl.fz;(focus repeat'(first|exact FZ.nil|(apply FZ.fz;{exact z1};{exact zq})|apply FZ.agg|apply FZ.same)))
    apply Cl.p (rr c.row ⟨[((i:Int),-1)],-p.1⟩)
    focus exact .yB (.agg (.mp rfl (.yB .nil)) .nil)
    clear hc
    repeat'(first|apply Sp.h|refine Lk.r rfl ?_|refine Rf.mk rfl ?_|refine xA ?_|refine yu.r rfl ?_|refine xP ?_|refine xT ?_|refine xI ?_|refine Ch.l ⟨rfl,rfl⟩ ?_|refine Ch.r ?_|refine xO ?_|fail)
    (apply Cl.fz;(focus repeat'(first|exact FZ.nil|(apply FZ.fz;{exact z1};{exact zq})|apply FZ.agg|apply FZ.same)))
    apply Cl.p (rr c2.row ⟨[((i:Int),1)],p.2⟩)
    focus exact .yB (.agg (.mp rfl (.yB .nil)) .nil)
    repeat'(first|apply Sp.h|refine Lk.r rfl ?_|refine Rf.mk rfl ?_|refine xA ?_|refine yu.r rfl ?_|refine xO ?_|fail)
    exact PA.lp (i+1) xE ⟨⟨yd,vu⟩,z6⟩
   ·have yD:¬qu m:=λh=>hB (by
     have h9:=((wQ.1 h).2.2 _ c2 tE).1 p (by rw [e2];exact hp)
     rw [e2,if_neg e4,if_neg e4] at h9;exact h9)
    have z00:m.cons[2 * i+1]?=some c2:=tE
    clear tE
    repeat'(first|apply Sp.h|refine Lk.r rfl ?_|refine Rf.mk rfl ?_|refine xA ?_|refine yu.r rfl ?_|refine xP ?_|apply Im.mk|apply yc.mk|refine xT ?_|refine xI ?_|refine Ch.l ⟨rfl,rfl⟩ ?_|refine Ch.r ?_|(apply y4.r;focus repeat' constructor)|(apply Fk.r;focus repeat' first|infer_instance|constructor)|refine xN ?_|refine Rf.mk ⟨rfl,rfl,rfl⟩ ?_|refine xD ?_|intro _)
    (apply Cl.fz;(focus repeat'(first|exact FZ.nil|(apply FZ.fz;{exact z1};{exact zq})|apply FZ.agg|apply FZ.same)))
    apply Cl.p (rr c.row ⟨[((i:Int),-1)],-p.1⟩)
    focus exact .yB (.agg (.mp rfl (.yB .nil)) .nil)
    clear hc
    repeat'(first|apply Sp.h|refine Lk.r rfl ?_|refine Rf.mk rfl ?_|refine xA ?_|refine yu.r rfl ?_|refine xP ?_|refine xT ?_|refine xI ?_|refine Ch.l ⟨rfl,rfl⟩ ?_|refine Ch.r ?_|refine xO ?_|fail)
    (apply Cl.fz;(focus repeat'(first|exact FZ.nil|(apply FZ.fz;{exact z1};{exact zq})|apply FZ.agg|apply FZ.same)))
    apply Cl.p (rr c2.row ⟨[((i:Int),1)],p.2⟩)
    focus exact .yB (.agg (.mp rfl (.yB .nil)) .nil)
    repeat'(first|apply Sp.h|refine Lk.r rfl ?_|refine Rf.mk rfl ?_|refine xA ?_|refine xB ?_|refine yu.r rfl ?_|refine xN ?_|fail)
    exact Fin.p rfl (vb (zF yD).symm)
  ·have yD:¬qu m:=λh=>hA (by
    have h9:=((wQ.1 h).2.2 _ c hc).1 p (by rw [e1];exact hp)
    rw [e1,if_pos e3,if_pos e3] at h9;exact h9)
   clear tE
   repeat'(first|apply Sp.h|refine Lk.r rfl ?_|refine Rf.mk rfl ?_|refine xA ?_|refine yu.r rfl ?_|refine xP ?_|apply Im.mk|apply yc.mk|refine xT ?_|refine xI ?_|refine Ch.l ⟨rfl,rfl⟩ ?_|refine Ch.r ?_|(apply y4.r;focus repeat' constructor)|(apply Fk.r;focus repeat' first|infer_instance|constructor)|refine xN ?_|refine Rf.mk ⟨rfl,rfl,rfl⟩ ?_|refine xD ?_|intro _)
   (apply Cl.fz;(focus repeat'(first|exact FZ.nil|(apply FZ.fz;{exact z1};{exact zq})|apply FZ.agg|apply FZ.same)))
   apply Cl.p (rr c.row ⟨[((i:Int),-1)],-p.1⟩)
   focus exact .yB (.agg (.mp rfl (.yB .nil)) .nil)
   repeat'(first|apply Sp.h|refine Lk.r rfl ?_|refine Rf.mk rfl ?_|refine xB ?_|refine yu.r rfl ?_|refine xN ?_|fail)
   exact Fin.p rfl (vb (zF yD).symm)
 ·have:i=rs.length:=z6
  subst this
  have Oi:∀j c,m.cons[j]?=some c->iB rs j c:=by
   intro j c hj
   by_cases lL:j < 2 * rs.length
   ·exact Oi j c lL hj
   ·intro p hp
    have:=(zS.1 hp).1
    omega
  repeat'(first|apply Sp.h|refine Lk.r rfl ?_|refine Rf.mk rfl ?_|refine xB ?_|apply Im.mk|intro _)
  refine CA.loop (λi:Nat=>⟨[(1,.val (.pointer (some ⟨b1,0,none⟩))),(3,.sl 2 rs vT),(7,it i)],[yr b1 30 (s_ m)]⟩) (λi=>i<=m.cons.length/\∀j c,j < i->m.cons[j]?=some c->fA m rs.length j c) (λi=>m.cons.length - i) 0 xE ⟨zZ _,λj c h=>z6⟩ ?_
  rintro i ⟨hi,Hy⟩
  by_cases yd:i < m.cons.length
  ·obtain⟨c,hc⟩:=zz yd
   have hg:=Q_ m c hm
   have tN:=M4 c.row (rs.length:Int)
   by_cases hC:fA m rs.length i c
   ·have vu:=yg hc Hy hC
    obtain⟨⟨lM,Zv⟩,hk⟩:=hC
    rcases hk with⟨k1,k2,k3,k4⟩|⟨k1,k2,k3⟩
    ·repeat'(first|apply Sp.h|refine Lk.r rfl ?_|refine Rf.mk rfl ?_|refine xA ?_|refine xB ?_|refine Im.mk λ_=>?_|refine yc.mk λ_=>?_|refine xT ?_|refine xI ?_|refine Ch.l ⟨rfl,rfl⟩ ?_|refine Ch.r ?_|(apply y4.r;focus repeat' constructor)|refine xN ?_|refine xO ?_|(apply Cl.p (tN);focus repeat' constructor)|(apply Cl.p (hg);focus repeat' constructor))
     all_goals first
      | exact PA.lp (i+1) xE ⟨⟨yd,vu⟩,z6⟩
      | exact absurd k4 z8
      | exact(by omega:False).elim
    ·repeat'(first|apply Sp.h|refine Lk.r rfl ?_|refine Rf.mk rfl ?_|refine xA ?_|refine xB ?_|refine xP ?_|refine Im.mk λ_=>?_|refine yc.mk λ_=>?_|refine xT ?_|refine xI ?_|refine Ch.l ⟨rfl,rfl⟩ ?_|(apply y4.r;focus repeat' constructor)|refine xN ?_|refine xO ?_|(apply Cl.p (tN);focus repeat' constructor)|(apply Cl.p (hg);focus repeat' constructor))
     all_goals first
      | exact PA.lp (i+1) xE ⟨⟨yd,vu⟩,z6⟩
      | exact absurd k3 z8
      | exact(by omega:False).elim
   ·have yD:¬qu m:=λh=>hC ((wQ.1 h).2.2 i c hc).2
    repeat'(first|apply Sp.h|refine Lk.r rfl ?_|refine Rf.mk rfl ?_|refine xA ?_|refine xB ?_|(refine Bd.mk ?_ ?_ <;> intro _)|refine xP ?_|refine Im.mk λ_=>?_|refine yc.mk λ_=>?_|refine xT ?_|refine xI ?_|refine Ch.l ⟨rfl,rfl⟩ ?_|refine Ch.r ?_|(apply y4.r;focus repeat' constructor)|refine xN ?_|refine xO ?_|(apply Cl.p (tN);focus repeat' constructor)|(apply Cl.p (hg);focus repeat' constructor))
    all_goals first
     | exact Fin.p rfl (vb (zF yD).symm)
     | exact(hC ⟨⟨z6,z6⟩,.inl ⟨z6,z6,z6,by assumption⟩⟩).elim
     | exact(hC ⟨⟨z6,z6⟩,.inr ⟨z6,z6,by assumption⟩⟩).elim
  ·have:i=m.cons.length:=z6
   subst this
   repeat'(first|apply Sp.h|refine Lk.r rfl ?_|refine Rf.mk rfl ?_|refine xB ?_|apply Im.mk|refine xT ?_|refine xN ?_|intro _)
   exact Fin.p rfl (vb (zT (wQ.2 ⟨nQ,by assumption,λj c hj=>⟨Oi j c hj,Hy j c (zS.1 hj).1 hj⟩⟩)).symm)
theorem jJ(m:y8)(hm:xS m.y9 m.tables):y6 Tryz.prog 128 [.agg (tp m (wA m))] (.val (.bool (decide (qu m)))):=by
 have R0:=tu (sizes:=m.y9) (s:=true) (l:=m.tables)
 have bj:=Y7 (sizes:=m.y9) (s:=true) (l:=m.tables)
 change (wA m).length<=128 at R0
 change LC (wA m) at bj
 have wQ:qu m↔2 * (wA m).length<=m.cons.length/\m.cons.length<=512/\∀i c,m.cons[i]?=some c->iB (wA m) i c/\fA m (wA m).length i c:=⟨λh=>⟨h.a,h.b,h.c⟩,λh=>⟨h.1,h.2.1,h.2.2⟩⟩
 obtain⟨rs,YM⟩:∃rs,rs=wA m:=⟨_,rfl⟩
 rw [<-YM] at R0 bj wQ ⊢
 refine zy.of pg JZ Tryz.func128 rfl Tryz.ntmps128 Tryz.results128 rfl λh0 G0 O0=>?_
 by_cases h0:2 * rs.length<=m.cons.length/\m.cons.length<=512
 rotate_left
 ·have yD:¬qu m:=λh=>h0 ⟨(wQ.1 h).1,(wQ.1 h).2.1⟩
  repeat'(first|apply Sp.h|refine Lk.r rfl ?_|refine Rf.mk rfl ?_|refine xA ?_|refine xB ?_|apply Bd.mk|refine xP ?_|apply Im.mk|apply yc.mk|refine xT ?_|refine xN ?_|intro _)
  all_goals first
   | exact Fin.p rfl (vb (zF yD).symm)
   | exact(h0 ⟨z6,z6⟩).elim
 obtain⟨nQ,ue⟩:=h0
 repeat'(first|apply Sp.h|refine Lk.r rfl ?_|refine Rf.mk rfl ?_|refine xB ?_|refine xP ?_|apply Im.mk|apply yc.mk|refine xT ?_|intro _)
 all_goals try exact(by omega:False).elim
 rename_i b1 _ _ _ _
 refine CA.loop (λi:Nat=>⟨[(1,pm b1),(26,.sl 6 m.cons lE),(27,it (m.cons.length:Nat)),(28,it i)],[yr b1 196 (tp m rs)]⟩) (λi=>i<=m.cons.length/\∀j c,j < i->m.cons[j]?=some c->iB rs j c/\fA m rs.length j c) (λi=>m.cons.length - i) 0 xE ⟨zZ _,λj c h=>z6⟩ ?_
 rintro i ⟨hi,ha⟩
 by_cases yd:i < m.cons.length
 ·obtain⟨c,hc⟩:=zz yd
  have bo:=rl c.family (m.xm.length:Nat)
  have hg:=T8 m rs c hm
  have tN:=Uf m rs c.row
  by_cases uU:i / 2 < rs.length
  ·obtain⟨p,hp⟩:=zz uU
   obtain⟨p1,p2,p3⟩:=bj p (zM hp)
   have Hk:rs[((i:Int) / 2).toNat]?=some p:=by rw [show((i:Int) / 2).toNat=i / 2 by omega];exact hp
   have hz:0<=(i:Int) / 2:=z6
   have bC:(i:Int) / 2 < rs.length:=z6
   have MK:=gu c.row ((i:Int) / 2) (-1) (-p.1)
   have nP:=gu c.row ((i:Int) / 2) 1 p.2
   have Mo:((i / 2:Nat):Int)=(i:Int) / 2:=z6
   have hB:iB rs i c↔c.row.yO= [((i:Int) / 2,if i % 2=0 then -1 else 1)]/\c.row.bound=if i % 2=0 then -p.1 else p.2:=by
    constructor
    ·intro h
     have:=h p hp
     rwa [Mo] at this
    ·intro h q hq
     rw [hp] at hq
     cases hq
     rw [Mo]
     exact h
   by_cases Rs:i % 2=0
   ·rw [if_pos Rs,if_pos Rs] at hB
    have D9:(i:Int) % 2=0:=z6
    by_cases hC:iB rs i c/\fA m rs.length i c
    ·have vu:=yg hc ha hC
     obtain⟨hb,⟨lM,Zv⟩,hk⟩:=hC
     have hb:=hB.1 hb
     rcases hk with⟨k1,k2,k3,k4⟩|⟨k1,k2,k3⟩
     ·repeat'(first|apply Sp.h|refine Lk.r rfl ?_|refine Rf.mk rfl ?_|refine xA ?_|refine yu.r rfl ?_|refine xP ?_|refine Im.mk λ_=>?_|refine yc.mk λ_=>?_|refine xT ?_|refine xI ?_|refine Ch.l ⟨rfl,rfl⟩ ?_|refine Ch.r ?_|(apply y4.r;focus repeat' constructor)|refine xN ?_|refine xD ?_|refine xO ?_|(apply Cl.p (bo);focus(repeat' constructor);done)|(apply Cl.p (tN);focus(repeat' constructor);done)|(apply Cl.p (hg);focus(repeat' constructor);done)|(apply Cl.p (MK);focus(repeat' constructor);done))
      all_goals first
       | exact PA.lp (i+1) xE ⟨⟨yd,vu⟩,z6⟩
       | exact absurd hb z8
       | exact absurd k4 z8
       | exact(by omega:False).elim
     ·omega
    ·have yD:¬qu m:=λh=>hC ((wQ.1 h).2.2 i c hc)
     repeat'(first|apply Sp.h|refine Lk.r rfl ?_|refine Rf.mk rfl ?_|refine xA ?_|refine xB ?_|(refine Bd.mk ?_ ?_ <;> intro _)|refine yu.r rfl ?_|refine xP ?_|refine Im.mk λ_=>?_|refine yc.mk λ_=>?_|refine xT ?_|refine xI ?_|refine Ch.l ⟨rfl,rfl⟩ ?_|refine Ch.r ?_|(apply y4.r;focus repeat' constructor)|refine xN ?_|refine xD ?_|refine xO ?_|(apply Cl.p (bo);focus(repeat' constructor);done)|(apply Cl.p (tN);focus(repeat' constructor);done)|(apply Cl.p (hg);focus(repeat' constructor);done)|(apply Cl.p (MK);focus(repeat' constructor);done))
     all_goals first
      | exact Fin.p rfl (vb (zF yD).symm)
      | exact(hC ⟨hB.2 z8,⟨z6,z6⟩,.inl ⟨z6,z6,z6,by assumption⟩⟩).elim
      | exact(by omega:False).elim
   ·rw [if_neg Rs,if_neg Rs] at hB
    have D9:¬(i:Int) % 2=0:=z6
    by_cases hC:iB rs i c/\fA m rs.length i c
    ·have vu:=yg hc ha hC
     obtain⟨hb,⟨lM,Zv⟩,hk⟩:=hC
     have hb:=hB.1 hb
     rcases hk with⟨k1,k2,k3,k4⟩|⟨k1,k2,k3⟩
     ·repeat'(first|apply Sp.h|refine Lk.r rfl ?_|refine Rf.mk rfl ?_|refine xA ?_|refine xB ?_|refine xP ?_|refine Im.mk λ_=>?_|refine yc.mk λ_=>?_|refine xT ?_|refine xI ?_|refine Ch.l ⟨rfl,rfl⟩ ?_|refine Ch.r ?_|(apply y4.r;focus repeat' constructor)|refine xN ?_|refine xO ?_|(apply Cl.p (bo);focus(repeat' constructor);done)|(apply Cl.p (tN);focus(repeat' constructor);done)|(apply Cl.p (hg);focus(repeat' constructor);done)|(apply Cl.p (nP);focus(repeat' constructor);done))
      all_goals first
       | exact PA.lp (i+1) xE ⟨⟨yd,vu⟩,z6⟩
       | exact absurd hb z8
       | exact absurd k4 z8
       | exact(by omega:False).elim
     ·omega
    ·have yD:¬qu m:=λh=>hC ((wQ.1 h).2.2 i c hc)
     repeat'(first|apply Sp.h|refine Lk.r rfl ?_|refine Rf.mk rfl ?_|refine xA ?_|refine xB ?_|(refine Bd.mk ?_ ?_ <;> intro _)|refine xP ?_|refine Im.mk λ_=>?_|refine yc.mk λ_=>?_|refine xT ?_|refine xI ?_|refine Ch.l ⟨rfl,rfl⟩ ?_|refine Ch.r ?_|(apply y4.r;focus repeat' constructor)|refine xN ?_|refine xO ?_|(apply Cl.p (bo);focus(repeat' constructor);done)|(apply Cl.p (tN);focus(repeat' constructor);done)|(apply Cl.p (hg);focus(repeat' constructor);done)|(apply Cl.p (nP);focus(repeat' constructor);done))
     all_goals first
      | exact Fin.p rfl (vb (zF yD).symm)
      | exact(hC ⟨hB.2 z8,⟨z6,z6⟩,.inl ⟨z6,z6,z6,by assumption⟩⟩).elim
      | exact(by omega:False).elim
  ·have YX:iB rs i c:=λp hp=>absurd (zS.1 hp).1 uU
   have bC:¬(i:Int) / 2 < rs.length:=z6
   by_cases hC:fA m rs.length i c
   ·have vu:=yg hc ha ⟨YX,hC⟩
    obtain⟨⟨lM,Zv⟩,hk⟩:=hC
    rcases hk with⟨k1,k2,k3,k4⟩|⟨k1,k2,k3⟩
    ·repeat'(first|apply Sp.h|refine Lk.r rfl ?_|refine Rf.mk rfl ?_|refine xA ?_|refine xB ?_|refine xP ?_|refine Im.mk λ_=>?_|refine yc.mk λ_=>?_|refine xT ?_|refine xI ?_|refine Ch.l ⟨rfl,rfl⟩ ?_|refine Ch.r ?_|(apply y4.r;focus repeat' constructor)|refine xN ?_|refine xO ?_|(apply Cl.p (bo);focus(repeat' constructor);done)|(apply Cl.p (tN);focus(repeat' constructor);done)|(apply Cl.p (hg);focus(repeat' constructor);done))
     all_goals first
      | exact PA.lp (i+1) xE ⟨⟨yd,vu⟩,z6⟩
      | exact absurd k4 z8
      | exact(by omega:False).elim
    ·repeat'(first|apply Sp.h|refine Lk.r rfl ?_|refine Rf.mk rfl ?_|refine xA ?_|refine xB ?_|refine xP ?_|refine Im.mk λ_=>?_|refine yc.mk λ_=>?_|refine xT ?_|refine xI ?_|refine Ch.l ⟨rfl,rfl⟩ ?_|(apply y4.r;focus repeat' constructor)|refine xN ?_|refine xO ?_|(apply Cl.p (bo);focus(repeat' constructor);done)|(apply Cl.p (tN);focus(repeat' constructor);done)|(apply Cl.p (hg);focus(repeat' constructor);done))
     all_goals first
      | exact PA.lp (i+1) xE ⟨⟨yd,vu⟩,z6⟩
      | exact absurd k3 z8
      | exact(by omega:False).elim
   ·have yD:¬qu m:=λh=>hC ((wQ.1 h).2.2 i c hc).2
    repeat'(first|apply Sp.h|refine Lk.r rfl ?_|refine Rf.mk rfl ?_|refine xA ?_|refine xB ?_|(refine Bd.mk ?_ ?_ <;> intro _)|refine xP ?_|refine Im.mk λ_=>?_|refine yc.mk λ_=>?_|refine xT ?_|refine xI ?_|refine Ch.l ⟨rfl,rfl⟩ ?_|refine Ch.r ?_|(apply y4.r;focus repeat' constructor)|refine xN ?_|refine xO ?_|(apply Cl.p (bo);focus(repeat' constructor);done)|(apply Cl.p (tN);focus(repeat' constructor);done)|(apply Cl.p (hg);focus(repeat' constructor);done))
    all_goals first
     | exact Fin.p rfl (vb (zF yD).symm)
     | exact(hC ⟨⟨z6,z6⟩,.inl ⟨z6,z6,z6,by assumption⟩⟩).elim
     | exact(hC ⟨⟨z6,z6⟩,.inr ⟨z6,z6,by assumption⟩⟩).elim
     | exact(by omega:False).elim
 ·have:i=m.cons.length:=z6
  subst this
  repeat'(first|apply Sp.h|refine Lk.r rfl ?_|refine Rf.mk rfl ?_|refine xB ?_|refine xN ?_|fail)
  exact Fin.p rfl (vb (zT (wQ.2 ⟨nQ,ue,xc ha⟩)).symm)
structure fw (n:Int) (l:List (Int×Int)) (i:Nat) (p:Int×Int):Prop where
 a:0<=p.1
 b:p.1 < n
 c:p.2≠0
 d: -1000000000<=p.2/\p.2<=1000000000
 e:∀q,0 < i->l[i - 1]?=some q->q.1 < p.1
def eS(t:ym)(k v:Int):Prop:=(uz t.kind->(k=0∨k=1)/\v=0)/\(¬uz t.kind->k=2/\t.lo<=v/\v<=t.hi)
def iu(m:y8)(l:List (Int×Int×Int))(i:Nat)(u:Int×Int×Int):Prop :=
 (∃ti q t,uS m.y9 m.tables false u.2.1=some (ti,q)/\m.tables[ti]?=some t/\eS t u.1 u.2.2)/\∀q,0 < i->l[i - 1]?=some q->q.2.1 < u.2.1
structure s5 (m:y8) (x:iA):Prop where
 d:∀i p,x.delta[i]?=some p->fw (wA m).length x.delta i p
 h:∀(i:Nat) (r:sU),x.hold[i]?=some r->rJ (wA m).length r
 u:∀i p,x.yk[i]?=some p->iu m x.yk i p
 hl:x.hold.length<=8
 ul:x.yk.length<=32
noncomputable instance (m:y8) (x:iA):Decidable (s5 m x):=zC _
def VS(x:iA):Prop:=∀u∈x.yk,u.2.1<=9223372036854775807
theorem ZZ{sizes:List Int}{l:List ym}{s:Bool}{cell:Int}{i:Nat}{q:List Int}(h:uS sizes l s cell=some (i,q)) :∃t,l[i]?=some t:=by
 unfold uS at h
 split at h
 ·obtain⟨j,-,h2⟩:=Option.bind_eq_some_iff.1 h
  obtain⟨t,h3,h4⟩:=Option.map_eq_some_iff.1 h2
  injection h4 with h4 h5
  subst h4
  exact⟨t,h3⟩
 ·cases h
theorem TP(m:y8)(x:iA)(hu:VS x):y6 Tryz.prog 123 [wH m,.agg (il x)] (.val (.bool (decide (s5 m x)))):=by
 have hb:=λp:Int×Int=>sL p.2 1000000000 z6
 have hs:=og m
 have wQ:s5 m x↔(∀i p,x.delta[i]?=some p->fw (wA m).length x.delta i p)/\(∀(i:Nat) (r:sU),x.hold[i]?=some r->rJ (wA m).length r)/\(∀i p,x.yk[i]?=some p->iu m x.yk i p)/\x.hold.length<=8/\x.yk.length<=32:=⟨λh=>⟨h.d,h.h,h.u,h.hl,h.ul⟩,λh=>⟨h.1,h.2.1,h.2.2.1,h.2.2.2.1,h.2.2.2.2⟩⟩
 obtain⟨rs,YM⟩:∃rs,rs=wA m:=⟨_,rfl⟩
 rw [<-YM] at hs wQ
 refine zy.of pg I3 Tryz.func123 rfl Tryz.ntmps123 Tryz.results123 rfl λh0 G0 O0=>?_
 repeat'(first|apply Sp.h|refine Lk.r rfl ?_|refine Rf.mk rfl ?_|refine Im.mk λ_=>?_|refine yc.mk λ_=>?_|refine xT ?_|refine Ch.l ⟨rfl,rfl⟩ ?_|(apply Cl.p (hs);focus repeat' constructor))
 rename_i b2 b3 _
 refine CA.loop (λi:Nat=>⟨[(2,pm b2),(3,pm b3),(5,it (rs.length:Nat)),(6,it i)],[yr b3 140 (il x),yr b2 30 (s_ m)]⟩) (λi=>i<=x.delta.length/\∀j p,j < i->x.delta[j]?=some p->fw rs.length x.delta j p) (λi=>x.delta.length - i) 0 xE ⟨zZ _,λj p h=>z6⟩ ?_
 rintro i ⟨hi,hd⟩
 by_cases yd:i < x.delta.length
 ·obtain⟨p,hp⟩:=zz yd
  have bt:=hb p
  by_cases hT:fw rs.length x.delta i p
  ·obtain⟨g1,g2,g3,g4,g5⟩:=hT
   rcases Nat.eq_zero_or_pos i with h0|h0
   ·subst h0
    repeat'(first|apply Sp.h|refine Lk.r rfl ?_|refine Rf.mk rfl ?_|refine xA ?_|refine xB ?_|refine yu.r rfl ?_|refine Im.mk λ_=>?_|refine yc.mk λ_=>?_|refine xT ?_|refine xI ?_|refine Ch.l ⟨rfl,rfl⟩ ?_|(apply y4.r;focus repeat' constructor)|refine xN ?_|refine xD ?_|refine xO ?_|(apply Cl.p (bt);focus repeat' constructor))
    exact PA.lp 1 xE ⟨⟨yd,yg hp hd ⟨g1,g2,g3,g4,g5⟩⟩,z6⟩
   ·obtain⟨k,rfl⟩:∃k,i=k+1:=⟨i - 1,z6⟩
    obtain⟨q,hq⟩:=zz (l:=x.delta) (i:=k) z6
    have hqp:=g5 q h0 hq
    repeat'(first|apply Sp.h|refine Lk.r rfl ?_|refine Rf.mk rfl ?_|refine xA ?_|refine xB ?_|refine yu.r rfl ?_|refine Im.mk λ_=>?_|refine yc.mk λ_=>?_|refine xT ?_|refine xI ?_|(apply Ix.r;{exact z8};{exact z6})|refine Ch.l ⟨rfl,rfl⟩ ?_|(apply y4.r;focus repeat' constructor)|refine xN ?_|refine xD ?_|refine xO ?_|(apply Cl.p (bt);focus repeat' constructor))
    exact PA.lp (k+1+1) xE ⟨⟨yd,yg hp hd ⟨g1,g2,g3,g4,g5⟩⟩,z6⟩
  ·have yD:¬s5 m x:=λh=>hT ((wQ.1 h).1 i p hp)
   rcases Nat.eq_zero_or_pos i with h0|h0
   ·subst h0
    repeat'(first|apply Sp.h|refine Lk.r rfl ?_|refine Rf.mk rfl ?_|refine xA ?_|refine xB ?_|(refine Bd.mk ?_ ?_ <;> intro _)|refine yu.r rfl ?_|refine Im.mk λ_=>?_|refine yc.mk λ_=>?_|refine xT ?_|refine xI ?_|refine Ch.l ⟨rfl,rfl⟩ ?_|(apply y4.r;focus repeat' constructor)|refine xN ?_|refine xD ?_|refine xO ?_|(apply Cl.p (bt);focus repeat' constructor))
    all_goals first
     | exact Fin.p rfl (vb (zF yD).symm)
     | exact(hT ⟨z6,z6,z6,z6,λq h=>z6⟩).elim
   ·obtain⟨k,rfl⟩:∃k,i=k+1:=⟨i - 1,z6⟩
    obtain⟨q,hq⟩:=zz (l:=x.delta) (i:=k) z6
    repeat'(first|apply Sp.h|refine Lk.r rfl ?_|refine Rf.mk rfl ?_|refine xA ?_|refine xB ?_|(refine Bd.mk ?_ ?_ <;> intro _)|refine yu.r rfl ?_|refine Im.mk λ_=>?_|refine yc.mk λ_=>?_|refine xT ?_|refine xI ?_|(apply Ix.r;{exact z8};{exact z6})|refine Ch.l ⟨rfl,rfl⟩ ?_|(apply y4.r;focus repeat' constructor)|refine xN ?_|refine xD ?_|refine xO ?_|(apply Cl.p (bt);focus repeat' constructor))
    all_goals first
     | exact Fin.p rfl (vb (zF yD).symm)
     | exact(hT ⟨z6,z6,z6,z6,λq' _ h=>by rw [show k+1 - 1=k by omega,hq] at h;cases h;omega⟩).elim
 have:i=x.delta.length:=z6
 subst this
 have hd:=xc hd
 repeat'(first|apply Sp.h|refine Lk.r rfl ?_|refine Rf.mk rfl ?_|refine xB ?_|apply Im.mk|refine xT ?_|intro _)
 refine CA.loop (λi:Nat=>⟨[(2,pm b2),(3,pm b3),(5,it (rs.length:Nat)),(8,it i)],[yr b3 140 (il x),yr b2 30 (s_ m)]⟩) (λi=>i<=x.hold.length/\∀(j:Nat) (r:sU),j < i->x.hold[j]?=some r->rJ rs.length r) (λi=>x.hold.length - i) 0 xE ⟨zZ _,λj p h=>z6⟩ ?_
 rintro i ⟨hi,hh⟩
 by_cases yd:i < x.hold.length
 ·obtain⟨r,hr⟩:=zz yd
  have tN:=M4 r (rs.length:Nat)
  by_cases hT:rJ rs.length r
  ·repeat'(first|apply Sp.h|refine Lk.r rfl ?_|refine Rf.mk rfl ?_|refine xA ?_|refine Im.mk λ_=>?_|refine xT ?_|refine xI ?_|refine Ch.l ⟨rfl,rfl⟩ ?_|refine xO ?_|(apply Cl.p (tN);focus repeat' constructor))
   exact PA.lp (i+1) xE ⟨⟨yd,yg hr hh hT⟩,z6⟩
  ·repeat'(first|apply Sp.h|refine Lk.r rfl ?_|refine Rf.mk rfl ?_|refine xA ?_|refine xB ?_|refine Im.mk λ_=>?_|refine xT ?_|refine xI ?_|refine Ch.l ⟨rfl,rfl⟩ ?_|refine xN ?_|(apply Cl.p (tN);focus repeat' constructor))
   exact Fin.p rfl (vb (zF λh=>hT ((wQ.1 h).2.1 i r hr)).symm)
 have:i=x.hold.length:=z6
 subst this
 have hh:=xc hh
 repeat'(first|apply Sp.h|refine Lk.r rfl ?_|refine Rf.mk rfl ?_|refine xB ?_|apply Im.mk|refine xT ?_|intro _)
 refine CA.loop (λi:Nat=>⟨[(2,pm b2),(3,pm b3),(9,it i)],[yr b3 140 (il x),yr b2 30 (s_ m)]⟩) (λi=>i<=x.yk.length/\∀j p,j < i->x.yk[j]?=some p->iu m x.yk j p) (λi=>x.yk.length - i) 0 xE ⟨zZ _,λj p h=>z6⟩ ?_
 rintro i ⟨hi,mM⟩
 by_cases yd:i < x.yk.length
 ·obtain⟨⟨uk,uc,uv⟩,Sy⟩:=zz yd
  have Zm:=ZW m.y9 m.tables false uc (hu _ (zM Sy))
  have yD:¬iu m x.yk i (uk,uc,uv)->¬s5 m x:=λhT h=>hT ((wQ.1 h).2.2.1 i _ Sy)
  cases SZ:uS m.y9 m.tables false uc with
  | none =>
   rw [SZ,X6] at Zm
   have hT:¬iu m x.yk i (uk,uc,uv):=by
    rintro⟨⟨ti,q,t,h,-⟩,-⟩
    simp only [SZ] at h
    cases h
   repeat'(first|apply Sp.h|refine Lk.r rfl ?_|refine Rf.mk rfl ?_|refine xA ?_|refine xB ?_|refine yu.r rfl ?_|refine Im.mk λ_=>?_|refine yc.mk λ_=>?_|refine xT ?_|refine xI ?_|refine Ch.l ⟨rfl,rfl⟩ ?_|(apply y4.r;focus repeat' constructor)|refine xN ?_|refine xD ?_|(apply Cl.p (Zm);focus repeat' constructor))
   exact Fin.p rfl (vb (zF (yD hT)).symm)
  | some tq =>
   obtain⟨ti,tq⟩:=tq
   rw [SZ,X6] at Zm
   obtain⟨t,ht⟩:=ZZ SZ
   have xC:=(zS.1 ht).1
   have Gt:iu m x.yk i (uk,uc,uv)↔eS t uk uv/\∀q,0 < i->x.yk[i - 1]?=some q->q.2.1 < uc:=by
    constructor
    ·rintro⟨⟨ti',q',t',h1,h2,h3⟩,h4⟩
     simp only [SZ] at h1
     cases h1
     rw [ht] at h2;cases h2
     exact⟨h3,h4⟩
    ·rintro⟨h1,h2⟩
     exact⟨⟨ti,tq,t,SZ,ht,h1⟩,h2⟩
   rcases Nat.eq_zero_or_pos i with h0|h0
   ·subst h0
    by_cases hT:eS t uk uv
    ·have vu:=yg Sy mM (Gt.2 ⟨hT,λq h=>z6⟩)
     by_cases yL:uz t.kind
     ·obtain⟨g1,g2⟩:=hT.1 yL
      repeat'(first|apply Sp.h|refine Lk.r rfl ?_|refine Rf.mk rfl ?_|refine xA ?_|refine xB ?_|(refine Bd.mk ?_ ?_ <;> intro _)|refine yu.r rfl ?_|refine Im.mk λ_=>?_|refine yc.mk λ_=>?_|refine xT ?_|refine xI ?_|refine Ch.l ⟨rfl,rfl⟩ ?_|(apply y4.r;focus repeat' constructor)|refine xN ?_|refine xD ?_|refine xO ?_|(apply Cl.p (Zm);focus repeat' constructor)|(apply Cl.p (sF _);focus repeat' constructor))
      all_goals first
       | exact PA.lp 1 xE ⟨⟨yd,vu⟩,z6⟩
       | exact absurd yL z8
       | exact(by omega:False).elim
     ·obtain⟨g1,g2,g3⟩:=hT.2 yL
      repeat'(first|apply Sp.h|refine Lk.r rfl ?_|refine Rf.mk rfl ?_|refine xA ?_|refine xB ?_|refine yu.r rfl ?_|refine Im.mk λ_=>?_|refine yc.mk λ_=>?_|refine xT ?_|refine xI ?_|refine Ch.l ⟨rfl,rfl⟩ ?_|(apply y4.r;focus repeat' constructor)|refine xN ?_|refine xD ?_|refine xO ?_|(apply Cl.p (Zm);focus repeat' constructor)|(apply Cl.p (sF _);focus repeat' constructor))
      all_goals first
       | exact PA.lp 1 xE ⟨⟨yd,vu⟩,z6⟩
       | exact absurd z8 yL
       | exact(by omega:False).elim
    ·have yD:=yD λh=>hT (Gt.1 h).1
     by_cases yL:uz t.kind
     ·repeat'(first|apply Sp.h|refine Lk.r rfl ?_|refine Rf.mk rfl ?_|refine xA ?_|refine xB ?_|(refine Bd.mk ?_ ?_ <;> intro _)|refine yu.r rfl ?_|refine Im.mk λ_=>?_|refine yc.mk λ_=>?_|refine xT ?_|refine xI ?_|refine Ch.l ⟨rfl,rfl⟩ ?_|(apply y4.r;focus repeat' constructor)|refine xN ?_|refine xD ?_|refine xO ?_|(apply Cl.p (Zm);focus repeat' constructor)|(apply Cl.p (sF _);focus repeat' constructor))
      all_goals first
       | exact Fin.p rfl (vb (zF yD).symm)
       | exact absurd yL z8
       | exact(hT ⟨λ_=>⟨z6,z6⟩,λh=>absurd yL h⟩).elim
     ·repeat'(first|apply Sp.h|refine Lk.r rfl ?_|refine Rf.mk rfl ?_|refine xA ?_|refine xB ?_|(refine Bd.mk ?_ ?_ <;> intro _)|refine yu.r rfl ?_|refine Im.mk λ_=>?_|refine yc.mk λ_=>?_|refine xT ?_|refine xI ?_|refine Ch.l ⟨rfl,rfl⟩ ?_|(apply y4.r;focus repeat' constructor)|refine xN ?_|refine xD ?_|refine xO ?_|(apply Cl.p (Zm);focus repeat' constructor)|(apply Cl.p (sF _);focus repeat' constructor))
      all_goals first
       | exact Fin.p rfl (vb (zF yD).symm)
       | exact absurd z8 yL
       | exact(hT ⟨λh=>absurd h yL,λ_=>⟨z6,z6,z6⟩⟩).elim
   ·obtain⟨k,rfl⟩:∃k,i=k+1:=⟨i - 1,z6⟩
    obtain⟨⟨wk,wc,wv⟩,hw⟩:=zz (l:=x.yk) (i:=k) z6
    by_cases hT:eS t uk uv/\wc < uc
    ·obtain⟨hT,hwu⟩:=hT
     have vu:=yg Sy mM (Gt.2 ⟨hT,λq _ h=>by rw [show k+1 - 1=k by omega,hw] at h;cases h;exact hwu⟩)
     by_cases yL:uz t.kind
     ·obtain⟨g1,g2⟩:=hT.1 yL
      repeat'(first|apply Sp.h|refine Lk.r rfl ?_|refine Rf.mk rfl ?_|refine xA ?_|refine xB ?_|(refine Bd.mk ?_ ?_ <;> intro _)|refine yu.r rfl ?_|refine Im.mk λ_=>?_|refine yc.mk λ_=>?_|refine xT ?_|refine xI ?_|(apply Ix.r;{exact z8};{exact z6})|refine Ch.l ⟨rfl,rfl⟩ ?_|(apply y4.r;focus repeat' constructor)|refine xN ?_|refine xD ?_|refine xO ?_|(apply Cl.p (Zm);focus repeat' constructor)|(apply Cl.p (sF _);focus repeat' constructor))
      all_goals first
       | exact PA.lp (k+1+1) xE ⟨⟨yd,vu⟩,z6⟩
       | exact absurd yL z8
       | exact(by omega:False).elim
     ·obtain⟨g1,g2,g3⟩:=hT.2 yL
      repeat'(first|apply Sp.h|refine Lk.r rfl ?_|refine Rf.mk rfl ?_|refine xA ?_|refine xB ?_|refine yu.r rfl ?_|refine Im.mk λ_=>?_|refine yc.mk λ_=>?_|refine xT ?_|refine xI ?_|(apply Ix.r;{exact z8};{exact z6})|refine Ch.l ⟨rfl,rfl⟩ ?_|(apply y4.r;focus repeat' constructor)|refine xN ?_|refine xD ?_|refine xO ?_|(apply Cl.p (Zm);focus repeat' constructor)|(apply Cl.p (sF _);focus repeat' constructor))
      all_goals first
       | exact PA.lp (k+1+1) xE ⟨⟨yd,vu⟩,z6⟩
       | exact absurd z8 yL
       | exact(by omega:False).elim
    ·have yD:=yD λh=>hT ⟨(Gt.1 h).1,(Gt.1 h).2 _ h0 (by rw [show k+1 - 1=k by omega];exact hw)⟩
     by_cases yL:uz t.kind
     ·repeat'(first|apply Sp.h|refine Lk.r rfl ?_|refine Rf.mk rfl ?_|refine xA ?_|refine xB ?_|(refine Bd.mk ?_ ?_ <;> intro _)|refine yu.r rfl ?_|refine Im.mk λ_=>?_|refine yc.mk λ_=>?_|refine xT ?_|refine xI ?_|(apply Ix.r;{exact z8};{exact z6})|refine Ch.l ⟨rfl,rfl⟩ ?_|(apply y4.r;focus repeat' constructor)|refine xN ?_|refine xD ?_|refine xO ?_|(apply Cl.p (Zm);focus repeat' constructor)|(apply Cl.p (sF _);focus repeat' constructor))
      all_goals first
       | exact Fin.p rfl (vb (zF yD).symm)
       | exact absurd yL z8
       | exact(hT ⟨⟨λ_=>⟨z6,z6⟩,λh=>absurd yL h⟩,z6⟩).elim
     ·repeat'(first|apply Sp.h|refine Lk.r rfl ?_|refine Rf.mk rfl ?_|refine xA ?_|refine xB ?_|(refine Bd.mk ?_ ?_ <;> intro _)|refine yu.r rfl ?_|refine Im.mk λ_=>?_|refine yc.mk λ_=>?_|refine xT ?_|refine xI ?_|(apply Ix.r;{exact z8};{exact z6})|refine Ch.l ⟨rfl,rfl⟩ ?_|(apply y4.r;focus repeat' constructor)|refine xN ?_|refine xD ?_|refine xO ?_|(apply Cl.p (Zm);focus repeat' constructor)|(apply Cl.p (sF _);focus repeat' constructor))
      all_goals first
       | exact Fin.p rfl (vb (zF yD).symm)
       | exact absurd z8 yL
       | exact(hT ⟨⟨λh=>absurd h yL,λ_=>⟨z6,z6,z6⟩⟩,z6⟩).elim
 have:i=x.yk.length:=z6
 subst this
 have mM:=xc mM
 repeat'(first|apply Sp.h|refine Lk.r rfl ?_|refine Rf.mk rfl ?_|refine xA ?_|refine xB ?_|apply Bd.mk|apply Im.mk|refine xT ?_|refine xN ?_|intro _)
 ·rename_i h
  refine Fin.p rfl (vb ?_)
  by_cases h9:x.yk.length<=32
  ·rw [zT (show s5 m x from wQ.2 ⟨hd,hh,mM,z6,h9⟩)]
   exact zT z6
  ·rw [zF λh8:s5 m x=>h9 h8.ul]
   exact zF z6
 ·rename_i h
  exact Fin.p rfl (vb (zF λh8:s5 m x=>h (by have:=h8.hl;omega)).symm)
def lexB:List Int->List Int->Bool
 | [],[]=>false
 | [],_ :: _=>true
 | _ :: _,[]=>false
 | x :: a,y :: b=>if x=y then lexB a b else decide (x < y)
theorem Ij(a b:List Int):y6 Tryz.prog 122 [ints a,ints b] (.val (.bool (lexB a b))):=by
 refine zy.of pg I4 Tryz.func122 rfl Tryz.ntmps122 Tryz.results122 rfl λh0 G0 O0=>?_
 repeat'(first|apply Sp.h|refine Lk.r rfl ?_|refine Rf.mk rfl ?_|fail)
 refine CA.loop (λi:Nat=>⟨[(0,ints a),(1,ints b),(5,it i)],[]⟩) (λi=>i<=a.length/\i<=b.length/\lexB (a.drop i) (b.drop i)=lexB a b) (λi=>a.length - i) 0 xE ⟨zZ _,zZ _,rfl⟩ ?_
 rintro i ⟨nV,pU,he⟩
 by_cases ha:i < a.length
 ·obtain⟨x,hx⟩:=zz ha
  rw [List.drop_eq_getElem_cons ha,(zS.1 hx).2] at he
  by_cases hb:i < b.length
  ·obtain⟨y,hy⟩:=zz hb
   rw [List.drop_eq_getElem_cons hb,(zS.1 hy).2,lexB] at he
   by_cases pS:x=y
   ·rw [if_pos pS] at he
    repeat'(first|apply Sp.h|refine Lk.r rfl ?_|refine Rf.mk rfl ?_|refine xA ?_|refine yu.r rfl ?_|apply Im.mk|refine xI ?_|refine xD ?_|refine xO ?_|intro _)
    all_goals first
     | exact PA.lp (i+1) xE ⟨⟨ha,hb,he⟩,z6⟩
     | exact(by omega:False).elim
   ·rw [if_neg pS] at he
    repeat'(first|apply Sp.h|refine Lk.r rfl ?_|refine Rf.mk rfl ?_|refine xA ?_|refine xB ?_|refine yu.r rfl ?_|apply Im.mk|refine xI ?_|refine xN ?_|refine xD ?_|intro _)
    all_goals first
     | exact Fin.p rfl (vb he)
     | exact(by omega:False).elim
  ·rw [List.drop_of_length_le (l:=b) z6,lexB] at he
   repeat'(first|apply Sp.h|refine Lk.r rfl ?_|refine Rf.mk rfl ?_|refine xA ?_|refine xB ?_|apply Im.mk|refine xN ?_|intro _)
   exact Fin.p rfl (vb (by rw [<-he];exact zF z6))
 ·rw [List.drop_of_length_le (l:=a) z6] at he
  by_cases hb:i < b.length
  ·rw [List.drop_eq_getElem_cons hb,lexB] at he
   repeat'(first|apply Sp.h|refine Lk.r rfl ?_|refine Rf.mk rfl ?_|refine xB ?_|apply Im.mk|refine xN ?_|intro _)
   exact Fin.p rfl (vb (by rw [<-he];exact zT z6))
  ·rw [List.drop_of_length_le (l:=b) z6,lexB] at he
   repeat'(first|apply Sp.h|refine Lk.r rfl ?_|refine Rf.mk rfl ?_|refine xB ?_|apply Im.mk|refine xN ?_|intro _)
   exact Fin.p rfl (vb (by rw [<-he];exact zF z6))
def RM(m:y8)(o:mQ):Prop:=∀(k:Nat) (s:Int),o.y9[k]?=some s-> -1<=s/\s < m.y9.length
structure lG (m:y8):Prop where
 s:∀(i:Nat) (o:mQ),m.ops[i]?=some o->RM m o/\o.y9.length<=3
 l:m.ops.length<=8
 d:o6 (m.ops.map mQ.name)
def Xo(m:y8)(s x:Int):Prop:=(s < 0-> -9999<=x/\x<=9999)/\(0<=s->0<=x/\∃y,m.y9[s.toNat]?=some y/\x < y)
structure fB (m:y8) (i:Nat) (a:e_):Prop where
 o:∃j:Nat,a.op=(j:Int)/\∃o,m.ops[j]?=some o/\a.args.length=o.y9.length/\∀(k:Nat) (x s:Int),a.args[k]?=some x->o.y9[k]?=some s->Xo m s x
 b:∀b,0 < i->m.yP[i - 1]?=some b->b.op < a.op∨(b.op=a.op/\lexB b.args a.args=true)
 e:s5 m a.xu
structure qv (m:y8):Prop where
 o:lG m
 l:m.yP.length<=256
 a:∀(i:Nat) (a:e_),m.yP[i]?=some a->fB m i a
noncomputable instance (m:y8):Decidable (qv m):=zC _
def xl(m:y8):Prop:=∀a∈m.yP,VS a.xu
theorem WH(m:y8)(wU:m.ops.length<=1000000000)(vL:xl m):y6 Tryz.prog 54 [wH m] (.val (.bool (decide (qv m)))):=by
 have hd:=jD (m.ops.map mQ.name)
 refine zy.of pg EG Tryz.func54 rfl Tryz.ntmps54 Tryz.results54 rfl λh0 G0 O0=>?_
 repeat'(first|apply Sp.h|refine Lk.r rfl ?_|refine Rf.mk rfl ?_|apply yc.mk|(apply Fk.r;focus repeat' first|infer_instance|constructor)|refine Rf.mk ⟨rfl,rfl,rfl⟩ ?_|intro _)
 rename_i b1 v
 apply CA.yR (m:=([]:List ByteArray)) (g:=ur)
 focus(repeat constructor)
 focus rfl
 refine CA.loop (λx:Nat×Value=>⟨[(1,pm b1),(3,.ow x.2),(4,it x.1)],[mR b1 m,yb x.2 9 1 ((m.ops.take x.1).map mQ.name) ur]⟩) (λx=>x.1<=m.ops.length/\x.1<=1000000000/\∀j o,j < x.1->m.ops[j]?=some o->RM m o/\o.y9.length<=3) (λx=>m.ops.length - x.1) (0,v) xE ⟨zZ _,by simp,λj o h=>by simp at h⟩ ?_
 rintro⟨i,v⟩ ⟨hi,hib,qY⟩
 simp only at hi hib qY
 simp only
 have jQ:((m.ops.take i).map mQ.name).length=i:=by rw [List.length_map,zN];omega
 by_cases yd:i < m.ops.length
 ·obtain⟨o,ho⟩:=zz yd
  have Lq:i < 1000000000:=z6
  have bE:(m.ops.take (i+1)).map mQ.name=(m.ops.take i).map mQ.name ++ [o.name]:=by rw [zK,ho,List.map_append];rfl
  generalize hgn:(m.ops.take i).map mQ.name=names at jQ bE ⊢
  repeat'(first|apply Sp.h|refine Lk.r rfl ?_|refine Rf.mk rfl ?_|refine xA ?_|refine xP ?_|apply Im.mk|apply yc.mk|refine xU ?_|refine xT ?_|refine xI ?_|refine Ce.r ?_|refine Ch.l ⟨rfl,rfl⟩ ?_|(apply y4.r;focus repeat' constructor)|(apply Fk.r;focus repeat' first|infer_instance|constructor)|refine xN ?_|refine Rf.mk ⟨rfl,rfl⟩ ?_|refine Rf.mk ⟨rfl,rfl,rfl⟩ ?_|(apply Mp.lit;(focus repeat(first|exact yK.nil|(apply yK.cons;{exact zu})|(apply yK.inv;{exact z1};{exact zh}))))|intro _)
  rename_i b5 _ v2
  refine CA.loop (λk:Nat=>⟨[(1,pm b1),(3,.ow v2),(4,it i),(5,pm b5),(6,it k)],[mR b1 m,yb v2 9 1 (names ++ [o.name]) ur,yr b5 174 (PM o)]⟩) (λk=>k<=o.y9.length/\∀j s,j < k->o.y9[j]?=some s-> -1<=s/\s < m.y9.length) (λk=>o.y9.length - k) 0 xE ⟨zZ _,λj s h=>z6⟩ ?_
  rintro k ⟨hk,Ca⟩
  by_cases rz:k < o.y9.length
  ·obtain⟨s,hs⟩:=zz rz
   repeat'(first|apply Sp.h|refine Lk.r rfl ?_|refine Rf.mk rfl ?_|refine xA ?_|refine xB ?_|apply Bd.mk|refine yu.r rfl ?_|apply Im.mk|refine xT ?_|refine xI ?_|refine xN ?_|refine xD ?_|refine xO ?_|intro _)
   all_goals first
    | exact Fin.p rfl (vb (zF λh:qv m=>by have:=(h.o.s i o ho).1 k s hs;omega).symm)
    | exact PA.lp (k+1) xE ⟨⟨rz,yg hs Ca ⟨z6,z6⟩⟩,z6⟩
  ·have:k=o.y9.length:=z6
   subst this
   have Ca:=xc Ca
   repeat'(first|apply Sp.h|refine Lk.r rfl ?_|refine Rf.mk rfl ?_|refine xB ?_|apply Bd.mk|apply Im.mk|refine xT ?_|refine xN ?_|refine xO ?_|intro _)
   ·exact Fin.p rfl (vb (zF λh:qv m=>by have:=(h.o.s i o ho).2;omega).symm)
   ·refine PA.lp (i+1,v2) ?_ ⟨⟨yd,by simp only;omega,yg ho qY ⟨Ca,z6⟩⟩,by simp only;omega⟩
    simp only
    rw [bE]
    exact xE
 have vk:i=m.ops.length:=z6
 subst vk
 have qY:=xc qY
 rw [zL]
 rw [zL] at jQ
 by_cases Gg:m.ops.length<=8
 rotate_left
 ·generalize m.ops.map mQ.name=names at hd ⊢
  repeat'(first|apply Sp.h|refine Lk.r rfl ?_|refine Rf.mk rfl ?_|refine xA ?_|refine xB ?_|apply Im.mk|refine xT ?_|refine xN ?_|intro _)
  exact Fin.p rfl (vb (zF λh:qv m=>Gg h.o.l).symm)
 by_cases Cf:o6 (m.ops.map mQ.name)
 rotate_left
 ·have yD:¬qv m:=λh=>Cf h.o.d
  generalize m.ops.map mQ.name=names at hd jQ Cf ⊢
  repeat'(first|apply Sp.h|refine Lk.r rfl ?_|refine Rf.mk rfl ?_|refine xB ?_|apply Im.mk|refine xT ?_|intro _)
  (apply Cl.fz;(focus repeat'(first|exact FZ.nil|(apply FZ.fz;{exact z1};{exact zq})|apply FZ.agg|apply FZ.same)))
  refine xQ (hd) ?_
  repeat'(first|apply Sp.h|refine Lk.r rfl ?_|refine Rf.mk rfl ?_|refine xB ?_|refine xN ?_|fail)
  exact Fin.p rfl (vb (zF yD).symm)
 have fh:lG m:=⟨qY,Gg,Cf⟩
 generalize m.ops.map mQ.name=names at hd jQ Cf ⊢
 repeat'(first|apply Sp.h|refine Lk.r rfl ?_|refine Rf.mk rfl ?_|refine xB ?_|apply Im.mk|refine xT ?_|intro _)
 (apply Cl.fz;(focus repeat'(first|exact FZ.nil|(apply FZ.fz;{exact z1};{exact zq})|apply FZ.agg|apply FZ.same)))
 refine xQ (hd) ?_
 by_cases rZ:m.yP.length<=256
 rotate_left
 ·repeat'(first|apply Sp.h|refine Lk.r rfl ?_|refine Rf.mk rfl ?_|refine xA ?_|refine xB ?_|apply Im.mk|refine xT ?_|refine xN ?_|intro _)
  exact Fin.p rfl (vb (zF λh:qv m=>rZ h.l).symm)
 repeat'(first|apply Sp.h|refine Lk.r rfl ?_|refine Rf.mk rfl ?_|refine xA ?_|refine xB ?_|apply Im.mk|refine xT ?_|intro _)
 refine CA.loop (λi:Nat=>⟨[(1,pm b1),(7,it i)],[mR b1 m]⟩) (λi=>i<=m.yP.length/\∀j a,j < i->m.yP[j]?=some a->fB m j a) (λi=>m.yP.length - i) 0 xE ⟨zZ _,λj a h=>z6⟩ ?_
 rintro i ⟨hi,MS⟩
 by_cases yd:i < m.yP.length
 ·obtain⟨a,ha⟩:=zz yd
  have yD:¬fB m i a->¬qv m:=λh h2=>h (h2.a i a ha)
  by_cases hb:0<=a.op/\a.op < m.ops.length
  rotate_left
  ·have yD:=yD λh=>hb (by obtain⟨j,h1,o,h2,-⟩:=h.o;have:=(zS.1 h2).1;omega)
   repeat'(first|apply Sp.h|refine Lk.r rfl ?_|refine Rf.mk rfl ?_|refine xA ?_|refine xB ?_|apply Bd.mk|refine yu.r rfl ?_|apply Im.mk|apply yc.mk|refine xT ?_|refine xI ?_|refine Ch.l ⟨rfl,rfl⟩ ?_|(apply y4.r;focus repeat' constructor)|refine xN ?_|refine xD ?_|intro _)
   all_goals first
    | exact Fin.p rfl (vb (zF yD).symm)
    | exact(hb ⟨z6,z6⟩).elim
  obtain⟨j,hj⟩:=Int.eq_ofNat_of_zero_le hb.1
  obtain⟨o,ho⟩:=zz (l:=m.ops) (i:=j) z6
  have B1:=(qY j o ho).1
  have Bc:0<=a.op:=hb.1
  have hj1:a.op < m.ops.length:=hb.2
  clear hb
  have HA:fB m i a->a.args.length=o.y9.length/\∀(k:Nat) (x s:Int),a.args[k]?=some x->o.y9[k]?=some s->Xo m s x:=by
   intro h
   obtain⟨j',h1,o',h2,h3⟩:=h.o
   obtain rfl:j=j':=z6
   rw [ho] at h2;cases h2
   exact h3
  by_cases hlen:a.args.length=o.y9.length
  rotate_left
  ·have yD:=yD λh=>hlen (HA h).1
   repeat'(first|apply Sp.h|refine Lk.r rfl ?_|refine Rf.mk rfl ?_|refine xA ?_|refine xB ?_|refine yu.r rfl ?_|apply Im.mk|apply yc.mk|refine xT ?_|refine xI ?_|(apply Ix.r;{exact z8};{exact z6})|refine Ch.l ⟨rfl,rfl⟩ ?_|(apply y4.r;focus repeat' constructor)|refine xN ?_|refine xD ?_|intro _)
   all_goals exact Fin.p rfl (vb (zF yD).symm)
  repeat'(first|apply Sp.h|refine Lk.r rfl ?_|refine Rf.mk rfl ?_|refine xA ?_|refine xB ?_|refine yu.r rfl ?_|apply Im.mk|apply yc.mk|refine xT ?_|refine xI ?_|(apply Ix.r;{exact z8};{exact z6})|refine Ch.l ⟨rfl,rfl⟩ ?_|(apply y4.r;focus repeat' constructor)|refine xN ?_|refine xD ?_|intro _)
  rename_i b8 _ _ _
  refine CA.loop (λk:Nat=>⟨[(1,pm b1),(7,it i),(8,pm b8),(9,it k)],[mR b1 m,yr b8 142 (iq a)]⟩) (λk=>k<=a.args.length/\∀q x,q < k->a.args[q]?=some x->∀s,o.y9[q]?=some s->Xo m s x) (λk=>a.args.length - k) 0 xE ⟨zZ _,λq x h=>z6⟩ ?_
  rintro k ⟨hk,bn⟩
  by_cases rz:k < a.args.length
  ·obtain⟨x,hx⟩:=zz rz
   obtain⟨s,hs⟩:=zz (l:=o.y9) (i:=k) z6
   obtain⟨nP,bf⟩:=B1 k s hs
   have YW:=sL x 9999 z6
   by_cases hA:Xo m s x
   ·have vu:=yg hx bn λs' h=>by rw [hs] at h;cases h;exact hA
    by_cases MK:s < 0
    ·have MX:=hA.1 MK
     repeat'(first|apply Sp.h|refine Lk.r rfl ?_|refine Rf.mk rfl ?_|refine xA ?_|refine xB ?_|refine yu.r rfl ?_|refine Im.mk λ_=>?_|refine xT ?_|refine xI ?_|(apply Ix.r;{exact z8};{exact z6})|refine xD ?_|refine xO ?_|(apply Cl.p (YW);focus repeat' constructor))
     all_goals first
      | exact PA.lp (k+1) xE ⟨⟨rz,vu⟩,z6⟩
      | exact absurd MX z8
    ·obtain⟨MX,y,hy,HB⟩:=hA.2 z6
     obtain⟨q,rfl⟩:=Int.eq_ofNat_of_zero_le (show 0<=s by omega)
     rw [Int.toNat_natCast] at hy
     repeat'(first|apply Sp.h|refine Lk.r rfl ?_|refine Rf.mk rfl ?_|refine xA ?_|refine xB ?_|refine yu.r rfl ?_|refine Im.mk λ_=>?_|refine xT ?_|refine xI ?_|(apply Ix.r;{exact z8};{exact z6})|refine xD ?_|refine xO ?_|(apply Cl.p (YW);(focus repeat'(first|fail))))
     all_goals first
      | exact PA.lp (k+1) xE ⟨⟨rz,vu⟩,z6⟩
      | exact(by omega:False).elim
   ·have yD:=yD λh=>hA ((HA h).2 k x s hx hs)
    by_cases MK:s < 0
    ·repeat'(first|apply Sp.h|refine Lk.r rfl ?_|refine Rf.mk rfl ?_|refine xA ?_|refine xB ?_|(refine Bd.mk ?_ ?_ <;> intro _)|refine yu.r rfl ?_|refine Im.mk λ_=>?_|refine xT ?_|refine xI ?_|(apply Ix.r;{exact z8};{exact z6})|refine xN ?_|refine xD ?_|refine xO ?_|(apply Cl.p (YW);focus repeat' constructor))
     all_goals first
      | exact Fin.p rfl (vb (zF yD).symm)
      | exact(hA ⟨λ_=>by assumption,λh=>z6⟩).elim
    ·obtain⟨q,rfl⟩:=Int.eq_ofNat_of_zero_le (show 0<=s by omega)
     obtain⟨y,hy⟩:=zz (l:=m.y9) (i:=q) z6
     repeat'(first|apply Sp.h|refine Lk.r rfl ?_|refine Rf.mk rfl ?_|refine xA ?_|refine xB ?_|(refine Bd.mk ?_ ?_ <;> intro _)|refine yu.r rfl ?_|refine Im.mk λ_=>?_|refine xT ?_|refine xI ?_|(apply Ix.r;{exact z8};{exact z6})|refine xN ?_|refine xD ?_|refine xO ?_|(apply Cl.p (YW);(focus repeat'(first|fail))))
     all_goals first
      | exact Fin.p rfl (vb (zF yD).symm)
      | exact(hA ⟨λh=>z6,λ_=>⟨z6,y,by rw [Int.toNat_natCast];exact hy,z6⟩⟩).elim
  ·have mO:k=a.args.length:=z6
   subst mO
   have bn:=xc bn
   have Zw:=TP m a.xu (vL a (zM ha))
   have kF:(∀b,0 < i->m.yP[i - 1]?=some b->b.op < a.op∨(b.op=a.op/\lexB b.args a.args=true))->s5 m a.xu->fB m i a:=λh1 h2=>⟨⟨j,hj,o,ho,hlen,λk x s h3 h4=>bn k x h3 s h4⟩,h1,h2⟩
   rcases Nat.eq_zero_or_pos i with h0|h0
   ·subst h0
    by_cases hE:s5 m a.xu
    ·have vu:=yg ha MS (kF (λb h=>z6) hE)
     repeat'(first|apply Sp.h|refine Lk.r rfl ?_|refine Rf.mk rfl ?_|refine xA ?_|refine xB ?_|refine Im.mk λ_=>?_|refine xT ?_|refine Ch.l ⟨rfl,rfl⟩ ?_|refine Ch.r ?_|refine xO ?_|(apply Cl.p (Zw);focus repeat' constructor))
     exact PA.lp 1 xE ⟨⟨yd,vu⟩,z6⟩
    ·have yD:=yD λh=>hE h.e
     repeat'(first|apply Sp.h|refine Lk.r rfl ?_|refine Rf.mk rfl ?_|refine xB ?_|refine Im.mk λ_=>?_|refine xT ?_|refine Ch.l ⟨rfl,rfl⟩ ?_|refine Ch.r ?_|refine xN ?_|(apply Cl.p (Zw);focus repeat' constructor))
     exact Fin.p rfl (vb (zF yD).symm)
   ·obtain⟨q,rfl⟩:∃q,i=q+1:=⟨i - 1,z6⟩
    obtain⟨b,Hz⟩:=zz (l:=m.yP) (i:=q) z6
    have ey:=Ij b.args a.args
    by_cases hL:b.op < a.op∨(b.op=a.op/\lexB b.args a.args=true)
    ·by_cases hE:s5 m a.xu
     ·have vu:=yg ha MS (kF (λb' _ h=>by rw [show q+1 - 1=q by omega,Hz] at h;cases h;exact hL) hE)
      rcases hL with hL|⟨MV,iJ⟩
      ·repeat'(first|apply Sp.h|refine Lk.r rfl ?_|refine Rf.mk rfl ?_|refine xA ?_|refine xB ?_|refine Im.mk λ_=>?_|refine yc.mk λ_=>?_|refine xT ?_|(apply Ix.r;{exact z8};{exact z6})|refine Ch.l ⟨rfl,rfl⟩ ?_|refine Ch.r ?_|(apply y4.r;focus repeat' constructor)|refine xN ?_|refine xO ?_|(apply Cl.p (ey);focus repeat' constructor)|(apply Cl.p (Zw);focus repeat' constructor))
       all_goals first
        | exact PA.lp (q+1+1) xE ⟨⟨yd,vu⟩,z6⟩
        | exact(by omega:False).elim
      ·rw [iJ] at ey
       repeat'(first|apply Sp.h|refine Lk.r rfl ?_|refine Rf.mk rfl ?_|refine xA ?_|refine xB ?_|refine Im.mk λ_=>?_|refine yc.mk λ_=>?_|refine xT ?_|(apply Ix.r;{exact z8};{exact z6})|refine Ch.l ⟨rfl,rfl⟩ ?_|refine Ch.r ?_|(apply y4.r;focus repeat' constructor)|refine xN ?_|refine xO ?_|(apply Cl.p (ey);focus repeat' constructor)|(apply Cl.p (Zw);focus repeat' constructor))
       all_goals first
        | exact PA.lp (q+1+1) xE ⟨⟨yd,vu⟩,z6⟩
        | exact(by omega:False).elim
     ·have yD:=yD λh=>hE h.e
      rcases hL with hL|⟨MV,iJ⟩
      ·repeat'(first|apply Sp.h|refine Lk.r rfl ?_|refine Rf.mk rfl ?_|refine xA ?_|refine xB ?_|refine Im.mk λ_=>?_|refine yc.mk λ_=>?_|refine xT ?_|(apply Ix.r;{exact z8};{exact z6})|refine Ch.l ⟨rfl,rfl⟩ ?_|refine Ch.r ?_|(apply y4.r;focus repeat' constructor)|refine xN ?_|refine xO ?_|(apply Cl.p (ey);focus repeat' constructor)|(apply Cl.p (Zw);focus repeat' constructor))
       all_goals first
        | exact Fin.p rfl (vb (zF yD).symm)
        | exact(by omega:False).elim
      ·rw [iJ] at ey
       repeat'(first|apply Sp.h|refine Lk.r rfl ?_|refine Rf.mk rfl ?_|refine xA ?_|refine xB ?_|refine Im.mk λ_=>?_|refine yc.mk λ_=>?_|refine xT ?_|(apply Ix.r;{exact z8};{exact z6})|refine Ch.l ⟨rfl,rfl⟩ ?_|refine Ch.r ?_|(apply y4.r;focus repeat' constructor)|refine xN ?_|refine xO ?_|(apply Cl.p (ey);focus repeat' constructor)|(apply Cl.p (Zw);focus repeat' constructor))
       all_goals first
        | exact Fin.p rfl (vb (zF yD).symm)
        | exact(by omega:False).elim
    ·have yD:=yD λh=>hL (h.b b h0 (by rw [show q+1 - 1=q by omega];exact Hz))
     cases bm:lexB b.args a.args
     ·rw [bm] at ey
      repeat'(first|apply Sp.h|refine Lk.r rfl ?_|refine Rf.mk rfl ?_|refine xA ?_|refine xB ?_|(refine Bd.mk ?_ ?_ <;> intro _)|refine Im.mk λ_=>?_|refine yc.mk λ_=>?_|refine xT ?_|(apply Ix.r;{exact z8};{exact z6})|refine Ch.l ⟨rfl,rfl⟩ ?_|(apply y4.r;focus repeat' constructor)|refine xN ?_|refine xO ?_|(apply Cl.p (ey);focus repeat' constructor)|(apply Cl.p (Zw);focus repeat' constructor))
      all_goals first
       | exact Fin.p rfl (vb (zF yD).symm)
       | exact(hL (.inl z6)).elim
     ·rw [bm] at ey
      repeat'(first|apply Sp.h|refine Lk.r rfl ?_|refine Rf.mk rfl ?_|refine xA ?_|refine xB ?_|(refine Bd.mk ?_ ?_ <;> intro _)|refine Im.mk λ_=>?_|refine yc.mk λ_=>?_|refine xT ?_|(apply Ix.r;{exact z8};{exact z6})|refine Ch.l ⟨rfl,rfl⟩ ?_|refine Ch.r ?_|(apply y4.r;focus repeat' constructor)|refine xN ?_|refine xO ?_|(apply Cl.p (ey);focus repeat' constructor)|(apply Cl.p (Zw);focus repeat' constructor))
      all_goals first
       | exact Fin.p rfl (vb (zF yD).symm)
       | exact(hL (.inl z6)).elim
       | exact(hL (.inr ⟨z6,bm⟩)).elim
 ·have:i=m.yP.length:=z6
  subst this
  repeat'(first|apply Sp.h|refine Lk.r rfl ?_|refine Rf.mk rfl ?_|refine xB ?_|apply Im.mk|refine xT ?_|refine xN ?_|intro _)
  exact Fin.p rfl (vb (zT (show qv m from⟨fh,rZ,xc MS⟩)).symm)
noncomputable instance (m:y8):Decidable (lG m):=zC _
theorem Ia(m:y8)(R:List (Int×Int))(x:Int):y6 Tryz.prog 186 [it x,.ad (tp m R) 0] (.val (.bool (!decide (-1<=x/\x < m.y9.length)))):=by
 refine zy.of pg ye Tryz.func186 rfl Tryz.ntmps186 Tryz.results186 rfl λh0 G0 O0=>?_
 repeat'(first|apply Sp.h|refine Lk.r rfl ?_|refine Rf.mk rfl ?_|refine xA ?_|refine xB ?_|apply Bd.mk|apply Im.mk|refine xN ?_|intro _)
 all_goals
  refine Fin.p rfl (vb ?_)
  by_cases hc: -1<=x/\x < m.y9.length
  ·rw [zT hc]
   first
    | exact zF z6
    | (exfalso;omega)
  ·rw [zF hc]
   first
    | exact zT z6
    | rfl
    | (exfalso;omega)
theorem iF(m:y8)(R:List (Int×Int))(wU:m.ops.length<=1000000000):yV Tryz.prog 129 [.agg (tp m R)] (.val (.bool (decide (lG m)))):=by
 have hd:=lf (m.ops.map mQ.name)
 refine yJ.of pg ye Tryz.func129 rfl Tryz.ntmps129 Tryz.results129 rfl λh0 G0 O0 ga=>?_
 (repeat'(first|(show CA _ _ (Code.region 1 _ _) _ _;apply z_.out)|apply Sp.h|refine Lk.r rfl ?_|refine Rf.mk rfl ?_|apply yc.mk|intro _));any_goals apply z_.mk
 refine CA.xt 1 rfl z1 ?_
 repeat'(first|apply Sp.h|refine Lk.r rfl ?_|refine Rf.mk rfl ?_|apply Im.mk|intro _)
 refine CA.uV 3 9 1 ur rfl λv=>?_
 refine CA.loop (λx:Nat×Value=>⟨[(1,.ad (tp m R) 0),(3,.ow x.2),(8,.sl 3 m.ops PM),(9,it (m.ops.length:Nat)),(10,it x.1)],[yb x.2 9 1 ((m.ops.take x.1).map mQ.name) ur]⟩) (λx=>x.1<=m.ops.length/\∀j o,j < x.1->m.ops[j]?=some o->RM m o/\o.y9.length<=3) (λx=>m.ops.length - x.1) (0,v) xE ⟨zZ _,λj o h=>by simp at h⟩ ?_
 rintro⟨i,v⟩ ⟨hi,qY⟩
 simp only at hi qY
 simp only
 have jQ:((m.ops.take i).map mQ.name).length=i:=by rw [List.length_map,zN];omega
 by_cases yd:i < m.ops.length
 ·obtain⟨o,ho⟩:=zz yd
  have bE:(m.ops.take (i+1)).map mQ.name=(m.ops.take i).map mQ.name ++ [o.name]:=by rw [zK,ho,List.map_append];rfl
  generalize hgn:(m.ops.take i).map mQ.name=names at jQ bE ⊢
  have YU:=qS (Ia m R) rfl o.y9
  have hq:¬xw (λx:Int=> !decide (-1<=x/\x < m.y9.length)) o.y9 < o.y9.length↔RM m o:=by
   rw [tT]
   constructor
   ·intro h k s hs
    exact Classical.byContradiction λh9=>h ⟨s,zM hs,by rw [zF h9];rfl⟩
   ·rintro h ⟨x,hx,h9⟩
    obtain⟨k,hk⟩:=zO hx
    rw [zT (h k x hk)] at h9
    cases h9
  repeat'(first|apply Sp.h|refine Lk.r rfl ?_|refine Rf.mk rfl ?_|refine xA ?_|refine xB ?_|(refine Bd.mk ?_ ?_ <;> intro _)|refine xP ?_|refine Im.mk λ_=>?_|refine yc.mk λ_=>?_|refine xU ?_|refine xT ?_|refine xI ?_|refine Ce.r ?_|refine Ch.l ⟨rfl,rfl⟩ ?_|(apply y4.r;focus repeat' constructor)|(apply Fk.r;focus repeat' first|infer_instance|constructor)|refine xN ?_|refine Rf.mk ⟨rfl,rfl⟩ ?_|refine Rf.mk ⟨rfl,rfl,rfl⟩ ?_|(apply Mp.lit;(focus repeat(first|exact yK.nil|(apply yK.cons;{exact zu})|(apply yK.inv;{exact z1};{exact zh}))))|refine xO ?_|(apply Cl.p (YU);focus repeat' constructor))
  ·exact Fin.p rfl (vb (zF λh:lG m=>by have:=(h.s i o ho).2;omega).symm)
  ·exact Fin.p rfl (vb (zF λh:lG m=>absurd z8 (hq.2 (h.s i o ho).1)).symm)
  ·rename_i v2 _ h3 h4
   refine PA.lp (i+1,v2) ?_ ⟨⟨yd,yg ho qY ⟨hq.1 h4,z6⟩⟩,by simp only;omega⟩
   simp only
   rw [bE]
   exact xE
 have vk:i=m.ops.length:=z6
 subst vk
 have qY:=xc qY
 rw [zL]
 rw [zL] at jQ
 by_cases Gg:m.ops.length<=8
 ·have vE:lG m↔o6 (m.ops.map mQ.name):=⟨λh=>h.d,λh=>⟨qY,Gg,h⟩⟩
  generalize m.ops.map mQ.name=names at hd jQ vE ⊢
  repeat'(first|apply Sp.h|refine Lk.r rfl ?_|refine Rf.mk rfl ?_|refine xA ?_|refine xB ?_|refine xU ?_|refine xN ?_|(apply Cl.dh (hd);{exact ga};(focus((repeat'(first|exact y3.nil|(apply y3.yY;{exact z1};{exact zc})|fail));done))))
  all_goals first
   | exact Fin.p rfl (vb (zD.2 vE.symm))
   | (exfalso;omega)
 ·have yD:¬lG m:=λh=>Gg h.l
  generalize m.ops.map mQ.name=names at hd jQ ⊢
  repeat'(first|apply Sp.h|refine Lk.r rfl ?_|refine Rf.mk rfl ?_|refine xB ?_|refine xU ?_|refine xN ?_|(apply Cl.dh (hd);{exact ga};{exact zr}))
  all_goals first
   | exact Fin.p rfl (vb (zF yD).symm)
   | (exfalso;omega)
def kM(m:y8)(u:Int×Int×Int):Prop:=∃ti q t,uS m.y9 m.tables false u.2.1=some (ti,q)/\m.tables[ti]?=some t/\eS t u.1 u.2.2
noncomputable instance (m:y8) (u:Int×Int×Int):Decidable (kM m u):=zC _
theorem _root_.Go.CF.zg {p:Prop}(h:p:=by first|omega|(simp <;> omega)):p:=h
theorem XZ(m:y8)(R:List (Int×Int))(u:Int×Int×Int)(hu:u.2.1<=9223372036854775807):yV Tryz.prog 227 [.agg (tp m R),.agg (tL u)] (.val (.bool (decide (kM m u)))):=by
 have ht:=cj m.y9 m.tables false u.2.1 hu
 have wQ:kM m u↔∃ti q t,uS m.y9 m.tables false u.2.1=some (ti,q)/\m.tables[ti]?=some t/\eS t u.1 u.2.2:=Iff.rfl
 have xC:=@ZZ m.y9 m.tables false u.2.1
 obtain⟨k,ce,v⟩:=u
 simp only at ht wQ xC
 generalize uS m.y9 m.tables false ce=tf at ht wQ xC
 refine yJ.of pg ye Tryz.func227 rfl Tryz.ntmps227 Tryz.results227 rfl λh0 G0 O0 ga=>?_
 cases tf with
 | none =>
  have yD:¬kM m (k,ce,v):=λh=>by obtain⟨_,_,_,h1,-⟩:=wQ.1 h;cases h1
  unfold X6 at ht
  repeat'(first|apply Sp.h|refine Lk.r rfl ?_|refine Rf.mk rfl ?_|refine xA ?_|refine xB ?_|(refine Bd.mk ?_ ?_ <;> intro _)|refine yu.r rfl ?_|refine xP ?_|refine Im.mk λ_=>?_|refine yc.mk λ_=>?_|refine xU ?_|refine xT ?_|refine xI ?_|(apply Ix.r;{exact z8};{exact z6})|refine xJ ?_|refine Ce.l rfl ?_|refine Ce.r ?_|refine Ch.l ⟨rfl,rfl⟩ ?_|refine Ch.r ?_|refine xV ?_|(apply y4.r;focus repeat' constructor)|(apply Fk.r;focus repeat' first|infer_instance|constructor)|refine xN ?_|refine Rf.mk ⟨rfl,rfl⟩ ?_|refine Rf.mk ⟨rfl,rfl,rfl⟩ ?_|(apply Jx.r;{exact zj};{exact zb})|refine Up.r rfl ?_|(apply Up.inv;{exact z1};{exact zh})|refine xK ?_|(apply Kf.mk;{exact z7})|refine xM ?_|refine eo.r rfl ?_|(apply Zx.agg;{exact zu};{exact zu};{exact z1})|(apply Zx.b;{exact zu})|(apply Zx.i;{exact zu})|apply Zx.one|(apply sf.s;{exact zi})|(apply sf.n;{exact zi})|(apply Rf.mk;{exact z8})|refine yC.r xL 0 rfl ?_|refine Mp.same ?_|(apply Mp.lit;(focus repeat(first|exact yK.nil|(apply yK.cons;{exact zu})|(apply yK.inv;{exact z1};{exact zh}))))|refine xD ?_|exact trivial|(apply Lk.r;{exact z8})|(apply Sx.r;{exact zj};{exact zc})|(apply CA.sB;{exact zu};{exact z7};{exact z7};{exact zo};{exact zu};intro X1 tr)|(apply mS.nr;{exact zu})|(apply mS.lt;(focus first|assumption|omega|(apply tr;repeat constructor)))|(apply ZB.nr;{exact zu})|apply vn.both|refine xO ?_|(apply nX.part;{exact zm})|(apply nX.all;{exact zm})|(apply ep.r;{exact z1})|(apply kB.short;{exact zu};{exact zg};{exact zg})|(apply kB.g_;{exact zu};{exact zg};{exact zg})|(apply ZA.mk';{exact z1};{exact z1};{exact zf})|(apply r_.i64;{exact zu};{exact z6})|(apply r_.u64;{exact zu};{exact z6})|(apply r_.u8;{exact zu};{exact z6})|refine Rf.mk ⟨rfl,by decide⟩ ?_|(apply Rf.mk;{exact⟨by decide,rfl⟩})|(apply Sx.r;{exact z8};{exact zc})|(apply Ix.q;{exact z8};{exact z8})|(apply Vd.r;{exact z1})|(apply Rc.r;{exact z1})|(apply Rg.mk)|(apply Ix.q;{exact z8};{exact z8})|(apply bz.r;{exact z1})|(apply Ix.q;{exact z8};{exact z8})|(apply Cl.pG (ht);{exact ga};(focus((repeat'(first|exact y3.nil|apply y3.yB|apply y3.vC|(apply y3.mp;{exact zu})|(apply y3.yY;{exact z1};{exact zc})|(apply y3.yX;{exact z1};{exact zu};{exact za})|(apply y3.cell;{exact z1})|refine y3.fn ?_ ?_|apply y3.agg));done))))
  all_goals exact Fin.p rfl (vb (zF yD).symm)
 | some r =>
  obtain⟨ti,q⟩:=r
  obtain⟨t,ew⟩:=xC rfl
  have vE:kM m (k,ce,v)↔eS t k v:=by
   rw [wQ]
   constructor
   ·rintro⟨ti',q',t',h1,h2,h3⟩
    cases h1
    rw [ew] at h2
    cases h2
    exact h3
   ·exact λh=>⟨ti,q,t,rfl,ew,h⟩
  have hU:eS t k v↔(t.kind=2∨t.kind=3->(k=0∨k=1)/\v=0)/\(¬(t.kind=2∨t.kind=3)->k=2/\t.lo<=v/\v<=t.hi):=Iff.rfl
  unfold X6 at ht
  by_cases hs:t.kind=2∨t.kind=3
  ·have MU:kM m (k,ce,v)↔(k=0∨k=1)/\v=0:=vE.trans (hU.trans ⟨λh=>h.1 hs,λh=>⟨λ_=>h,λh9=>absurd hs h9⟩⟩)
   repeat'(first|apply Sp.h|refine Lk.r rfl ?_|refine Rf.mk rfl ?_|refine xA ?_|refine xB ?_|(refine Bd.mk ?_ ?_ <;> intro _)|refine yu.r rfl ?_|refine xP ?_|refine Im.mk λ_=>?_|refine yc.mk λ_=>?_|refine xU ?_|refine xT ?_|refine xI ?_|(apply Ix.r;{exact z8};{exact z6})|refine xJ ?_|refine Ce.l rfl ?_|refine Ce.r ?_|refine Ch.l ⟨rfl,rfl⟩ ?_|refine Ch.r ?_|refine xV ?_|(apply y4.r;focus repeat' constructor)|(apply Fk.r;focus repeat' first|infer_instance|constructor)|refine xN ?_|refine Rf.mk ⟨rfl,rfl⟩ ?_|refine Rf.mk ⟨rfl,rfl,rfl⟩ ?_|(apply Jx.r;{exact zj};{exact zb})|refine Up.r rfl ?_|(apply Up.inv;{exact z1};{exact zh})|refine xK ?_|(apply Kf.mk;{exact z7})|refine xM ?_|refine eo.r rfl ?_|(apply Zx.agg;{exact zu};{exact zu};{exact z1})|(apply Zx.b;{exact zu})|(apply Zx.i;{exact zu})|apply Zx.one|(apply sf.s;{exact zi})|(apply sf.n;{exact zi})|(apply Rf.mk;{exact z8})|refine yC.r xL 0 rfl ?_|refine Mp.same ?_|(apply Mp.lit;(focus repeat(first|exact yK.nil|(apply yK.cons;{exact zu})|(apply yK.inv;{exact z1};{exact zh}))))|refine xD ?_|exact trivial|(apply Lk.r;{exact z8})|(apply Sx.r;{exact zj};{exact zc})|(apply CA.sB;{exact zu};{exact z7};{exact z7};{exact zo};{exact zu};intro X1 tr)|(apply mS.nr;{exact zu})|(apply mS.lt;(focus first|assumption|omega|(apply tr;repeat constructor)))|(apply ZB.nr;{exact zu})|apply vn.both|refine xO ?_|(apply nX.part;{exact zm})|(apply nX.all;{exact zm})|(apply ep.r;{exact z1})|(apply kB.short;{exact zu};{exact zg};{exact zg})|(apply kB.g_;{exact zu};{exact zg};{exact zg})|(apply ZA.mk';{exact z1};{exact z1};{exact zf})|(apply r_.i64;{exact zu};{exact z6})|(apply r_.u64;{exact zu};{exact z6})|(apply r_.u8;{exact zu};{exact z6})|refine Rf.mk ⟨rfl,by decide⟩ ?_|(apply Rf.mk;{exact⟨by decide,rfl⟩})|(apply Sx.r;{exact z8};{exact zc})|(apply Ix.q;{exact z8};{exact z8})|(apply Vd.r;{exact z1})|(apply Rc.r;{exact z1})|(apply Rg.mk)|(apply Ix.q;{exact z8};{exact z8})|(apply bz.r;{exact z1})|(apply Ix.q;{exact z8};{exact z8})|(apply Cl.pG (ht);{exact ga};(focus((repeat'(first|exact y3.nil|apply y3.yB|apply y3.vC|(apply y3.mp;{exact zu})|(apply y3.yY;{exact z1};{exact zc})|(apply y3.yX;{exact z1};{exact zu};{exact za})|(apply y3.cell;{exact z1})|refine y3.fn ?_ ?_|apply y3.agg));done))))
   all_goals first
    | (exfalso;omega)
    | exact Fin.p rfl (vb (by first|exact zD.2 (by rw [MU];omega)|exact(zT (MU.2 z6)).symm|exact(zF (λh=>by have:=MU.1 h;omega)).symm))
  ·have MU:kM m (k,ce,v)↔k=2/\t.lo<=v/\v<=t.hi:=vE.trans (hU.trans ⟨λh=>h.2 hs,λh=>⟨λh9=>absurd h9 hs,λ_=>h⟩⟩)
   repeat'(first|apply Sp.h|refine Lk.r rfl ?_|refine Rf.mk rfl ?_|refine xA ?_|refine xB ?_|(refine Bd.mk ?_ ?_ <;> intro _)|refine yu.r rfl ?_|refine xP ?_|refine Im.mk λ_=>?_|refine yc.mk λ_=>?_|refine xU ?_|refine xT ?_|refine xI ?_|(apply Ix.r;{exact z8};{exact z6})|refine xJ ?_|refine Ce.l rfl ?_|refine Ce.r ?_|refine Ch.l ⟨rfl,rfl⟩ ?_|refine Ch.r ?_|refine xV ?_|(apply y4.r;focus repeat' constructor)|(apply Fk.r;focus repeat' first|infer_instance|constructor)|refine xN ?_|refine Rf.mk ⟨rfl,rfl⟩ ?_|refine Rf.mk ⟨rfl,rfl,rfl⟩ ?_|(apply Jx.r;{exact zj};{exact zb})|refine Up.r rfl ?_|(apply Up.inv;{exact z1};{exact zh})|refine xK ?_|(apply Kf.mk;{exact z7})|refine xM ?_|refine eo.r rfl ?_|(apply Zx.agg;{exact zu};{exact zu};{exact z1})|(apply Zx.b;{exact zu})|(apply Zx.i;{exact zu})|apply Zx.one|(apply sf.s;{exact zi})|(apply sf.n;{exact zi})|(apply Rf.mk;{exact z8})|refine yC.r xL 0 rfl ?_|refine Mp.same ?_|(apply Mp.lit;(focus repeat(first|exact yK.nil|(apply yK.cons;{exact zu})|(apply yK.inv;{exact z1};{exact zh}))))|refine xD ?_|exact trivial|(apply Lk.r;{exact z8})|(apply Sx.r;{exact zj};{exact zc})|(apply CA.sB;{exact zu};{exact z7};{exact z7};{exact zo};{exact zu};intro X1 tr)|(apply mS.nr;{exact zu})|(apply mS.lt;(focus first|assumption|omega|(apply tr;repeat constructor)))|(apply ZB.nr;{exact zu})|apply vn.both|refine xO ?_|(apply nX.part;{exact zm})|(apply nX.all;{exact zm})|(apply ep.r;{exact z1})|(apply kB.short;{exact zu};{exact zg};{exact zg})|(apply kB.g_;{exact zu};{exact zg};{exact zg})|(apply ZA.mk';{exact z1};{exact z1};{exact zf})|(apply r_.i64;{exact zu};{exact z6})|(apply r_.u64;{exact zu};{exact z6})|(apply r_.u8;{exact zu};{exact z6})|refine Rf.mk ⟨rfl,by decide⟩ ?_|(apply Rf.mk;{exact⟨by decide,rfl⟩})|(apply Sx.r;{exact z8};{exact zc})|(apply Ix.q;{exact z8};{exact z8})|(apply Vd.r;{exact z1})|(apply Rc.r;{exact z1})|(apply Rg.mk)|(apply Ix.q;{exact z8};{exact z8})|(apply bz.r;{exact z1})|(apply Ix.q;{exact z8};{exact z8})|(apply Cl.pG (ht);{exact ga};(focus((repeat'(first|exact y3.nil|apply y3.yB|apply y3.vC|(apply y3.mp;{exact zu})|(apply y3.yY;{exact z1};{exact zc})|(apply y3.yX;{exact z1};{exact zu};{exact za})|(apply y3.cell;{exact z1})|refine y3.fn ?_ ?_|apply y3.agg));done))))
   all_goals first
    | (exfalso;omega)
    | exact Fin.p rfl (vb (by first|exact zD.2 (by rw [MU];omega)|exact(zT (MU.2 z6)).symm|exact(zF (λh=>by have:=MU.1 h;omega)).symm))
def cmpL:List Int->List Int->Int
 | [],[]=>0
 | [],_ :: _=> -1
 | _ :: _,[]=>1
 | x :: a,y :: b=>if x=y then cmpL a b else if x < y then -1 else 1
theorem Yz :∀a b,cmpL a b < 0↔lexB a b=true
 | [],[]=>by simp [cmpL,lexB]
 | [],_ :: _=>by simp [cmpL,lexB]
 | _ :: _,[]=>by simp [cmpL,lexB]
 | x :: a,y :: b=>by
  rw [cmpL,lexB]
  by_cases h:x=y
  ·rw [if_pos h,if_pos h];exact Yz a b
  ·rw [if_neg h,if_neg h,decide_eq_true_eq]
   by_cases h2:x < y
   ·rw [if_pos h2];exact⟨λ_=>h2,λ_=>z6⟩
   ·rw [if_neg h2];exact⟨λh9=>z6,λh9=>absurd h9 h2⟩
theorem Me(x:Int):y6 Tryz.prog 253 [it x] (.val (.bool false)):=by
 refine zy.of pg ye Tryz.func253 rfl Tryz.ntmps253 Tryz.results253 rfl λh0 G0 O0=>?_
 repeat'(first|apply Sp.h|refine Lk.r rfl ?_|refine Rf.mk rfl ?_|refine xN ?_|fail)
 exact Fin.p rfl (vb zd)
theorem Dp(x y:Int):y6 Tryz.prog 226 [it x,it y] (it (if x=y then 0 else if x < y then -1 else 1)):=by
 have h1:=Me x
 have h2:=Me y
 refine zy.of pg ye Tryz.func226 rfl Tryz.ntmps226 Tryz.results226 rfl λh0 G0 O0=>?_
 rcases Int.lt_trichotomy x y with h|h|h
 ·rw [if_neg z6,if_pos h]
  repeat'(first|apply Sp.h|refine Lk.r rfl ?_|refine Rf.mk rfl ?_|refine xA ?_|refine xN ?_|(apply Cl.p (h1);focus(repeat' constructor);done)|(apply Cl.p (h2);focus(repeat' constructor);done))
  all_goals first
   | exact Fin.p rfl rfl
   | (exfalso;omega)
 ·rw [if_pos h]
  repeat'(first|apply Sp.h|refine Lk.r rfl ?_|refine Rf.mk rfl ?_|refine xB ?_|refine xN ?_|(apply Cl.p (h1);focus(repeat' constructor);done)|(apply Cl.p (h2);focus(repeat' constructor);done))
  all_goals first
   | exact Fin.p rfl rfl
   | (exfalso;omega)
 ·rw [if_neg z6,if_neg z6]
  repeat'(first|apply Sp.h|refine Lk.r rfl ?_|refine Rf.mk rfl ?_|refine xA ?_|refine xB ?_|refine xN ?_|(apply Cl.p (h1);focus(repeat' constructor);done)|(apply Cl.p (h2);focus(repeat' constructor);done))
  all_goals first
   | exact Fin.p rfl rfl
   | (exfalso;omega)
theorem Pg(a b:List Int):y6 Tryz.prog 188 [ints a,ints b] (it (cmpL a b)):=by
 refine zy.of pg ye Tryz.func188 rfl Tryz.ntmps188 Tryz.results188 rfl λh0 G0 O0=>?_
 repeat'(first|apply Sp.h|refine Lk.r rfl ?_|refine Rf.mk rfl ?_|apply Im.mk|intro _)
 refine CA.loop (λi:Nat=>⟨[(0,ints a),(1,ints b),(9,ints a),(10,it (a.length:Nat)),(11,it i)],[]⟩) (λi=>i<=a.length/\i<=b.length/\cmpL (a.drop i) (b.drop i)=cmpL a b) (λi=>a.length - i) 0 xE ⟨zZ _,zZ _,rfl⟩ ?_
 rintro i ⟨nV,pU,he⟩
 by_cases ha:i < a.length
 ·obtain⟨x,hx⟩:=zz ha
  rw [List.drop_eq_getElem_cons ha,(zS.1 hx).2] at he
  by_cases hb:i < b.length
  ·obtain⟨y,hy⟩:=zz hb
   rw [List.drop_eq_getElem_cons hb,(zS.1 hy).2,cmpL] at he
   have hc:=Dp x y
   rcases Int.lt_trichotomy x y with h|h|h
   ·rw [if_neg z6,if_pos h] at he hc
    repeat'(first|apply Sp.h|refine Lk.r rfl ?_|refine Rf.mk rfl ?_|refine xA ?_|refine xB ?_|refine Im.mk λ_=>?_|refine xI ?_|refine xN ?_|(apply Cl.p (hc);focus repeat' constructor))
    all_goals first
     | exact Fin.p rfl (by rw [he])
     | exact absurd rfl z8
     | (exfalso;omega)
   ·rw [if_pos h] at he hc
    repeat'(first|apply Sp.h|refine Lk.r rfl ?_|refine Rf.mk rfl ?_|refine xA ?_|refine xB ?_|refine Im.mk λ_=>?_|refine xI ?_|refine xO ?_|(apply Cl.p (hc);focus repeat' constructor))
    all_goals first
     | exact PA.lp (i+1) xE ⟨⟨ha,hb,he⟩,z6⟩
     | exact absurd rfl z8
     | (exfalso;omega)
   ·rw [if_neg z6,if_neg z6] at he hc
    repeat'(first|apply Sp.h|refine Lk.r rfl ?_|refine Rf.mk rfl ?_|refine xA ?_|refine xB ?_|refine Im.mk λ_=>?_|refine xI ?_|refine xN ?_|(apply Cl.p (hc);focus repeat' constructor))
    all_goals first
     | exact Fin.p rfl (by rw [he])
     | exact absurd rfl z8
     | (exfalso;omega)
  ·rw [List.drop_of_length_le (l:=b) z6,cmpL] at he
   repeat'(first|apply Sp.h|refine Lk.r rfl ?_|refine Rf.mk rfl ?_|refine xA ?_|apply Im.mk|refine xI ?_|refine xN ?_|intro _)
   all_goals first
    | exact Fin.p rfl (by rw [he])
    | (exfalso;omega)
 ·rw [List.drop_of_length_le (l:=a) z6] at he
  by_cases hb:i < b.length
  ·rw [List.drop_eq_getElem_cons hb,cmpL] at he
   repeat'(first|apply Sp.h|refine Lk.r rfl ?_|refine Rf.mk rfl ?_|refine xA ?_|refine xB ?_|apply Im.mk|refine xN ?_|intro _)
   all_goals first
    | exact Fin.p rfl (by rw [he])
    | (exfalso;omega)
  ·rw [List.drop_of_length_le (l:=b) z6,cmpL] at he
   repeat'(first|apply Sp.h|refine Lk.r rfl ?_|refine Rf.mk rfl ?_|refine xB ?_|apply Im.mk|refine xN ?_|intro _)
   all_goals first
    | exact Fin.p rfl (by rw [he])
    | (exfalso;omega)
theorem Tl{g:FuncId}{caps:List AV}{p:sU->Bool}(hg:∀e,y6 Tryz.prog g (.agg (pA e) :: caps) (.val (.bool (p e))))(he:en g=true)(l:List sU) :
  y6 Tryz.prog 262 [.sl 2 l pA,.fn g caps] (it (wW p l)):=by
 refine zy.of pg ye Tryz.func262 rfl Tryz.ntmps262 Tryz.results262 rfl λh0 G0 O0=>?_
 repeat'(first|apply Sp.h|refine Lk.r rfl ?_|refine Rf.mk rfl ?_|apply Im.mk|intro _)
 refine CA.loop (λi:Nat=>⟨[(0,.sl 2 l pA),(1,.fn g caps),(7,it (l.length:Nat)),(8,it i)],[]⟩)
  (λi=>i<=l.length/\∀j y,j < i->l[j]?=some y->p y=false) (λi=>l.length - i) 0 xE ⟨zZ _,λj y h=>z6⟩ ?_
 rintro i ⟨hi,hj⟩
 by_cases yd:i < l.length
 ·obtain⟨e,hx⟩:=zz yd
  have WV:=hg e
  repeat'(first|apply Sp.h|refine Lk.r rfl ?_|refine Rf.mk rfl ?_|refine xA ?_|(refine Bd.mk ?_ ?_ <;> intro _)|refine xI ?_|refine Ch.l ⟨rfl,rfl⟩ ?_|refine xN ?_|(apply Rf.mk;{exact z8})|refine xO ?_|(apply Cl.p (WV);(focus repeat'(first|apply y3.yB|fail))))
  ·exact pa _
  ·rename_i hp
   exact Fin.p rfl (by rw [wW,uA hx hp hj,if_pos yd])
  ·rename_i hp
   exact PA.lp (i+1) xE ⟨⟨yd,yg hx hj (by simpa using hp)⟩,z6⟩
 ·repeat'(first|apply Sp.h|refine Lk.r rfl ?_|refine Rf.mk rfl ?_|refine xB ?_|refine xN ?_|fail)
  exact Fin.p rfl (by rw [wW,wL (λx hx=>by obtain⟨j,hx⟩:=zO hx;exact hj j x (by have:=(zS.1 hx).1;omega) hx),if_neg z6])
theorem cM{g:FuncId}{caps:List AV}{p:sU->Bool}(hg:∀e,y6 Tryz.prog g (.agg (pA e) :: caps) (.val (.bool (p e))))(he:en g=true)(l:List sU) :
  y6 Tryz.prog 228 [.sl 2 l pA,.fn g caps] (.val (.bool (decide (∃e∈l,p e=true)))):=by
 have hi:=Tl hg he l
 refine zy.of pg ye Tryz.func228 rfl Tryz.ntmps228 Tryz.results228 rfl λh0 G0 O0=>?_
 repeat'(first|apply Sp.h|refine Lk.r rfl ?_|refine Rf.mk rfl ?_|refine xN ?_|(apply Cl.p (hi);focus repeat' constructor))
 refine Fin.p rfl (vb (zD.2 ?_))
 rw [<-tT]
 unfold wW
 split <;> omega
theorem Wn(m:y8)(R:List (Int×Int))(r:sU):y6 Tryz.prog 229 [.agg (pA r),.ad (tp m R) 0] (.val (.bool (!decide (rJ R.length r)))):=by
 have hr:=Uf m R r
 refine zy.of pg ye Tryz.func229 rfl Tryz.ntmps229 Tryz.results229 rfl λh0 G0 O0=>?_
 repeat'(first|apply Sp.h|refine Lk.r rfl ?_|refine Rf.mk rfl ?_|refine yc.mk λ_=>?_|refine xT ?_|refine Ch.l ⟨rfl,rfl⟩ ?_|refine xN ?_|(apply Cl.p (hr);focus repeat' constructor))
 exact Fin.p rfl (vb decide_not)
theorem kM.nn{m:y8}{u:Int×Int×Int}(h:kM m u):0<=u.2.1:=by
 obtain⟨ti,q,t,h1,-⟩:=h
 unfold uS at h1
 split at h1
 ·rename_i h;exact h.2
 ·cases h1
theorem W4(m:y8)(x:iA)(hu:VS x):yV Tryz.prog 189 [.agg (tp m (wA m)),.agg (il x)] (.val (.bool (decide (s5 m x)))):=by
 have wQ:s5 m x↔(∀i p,x.delta[i]?=some p->fw (wA m).length x.delta i p)/\(∀(i:Nat) (r:sU),x.hold[i]?=some r->rJ (wA m).length r)/\(∀i p,x.yk[i]?=some p->iu m x.yk i p)/\x.hold.length<=8/\x.yk.length<=32:=⟨λh=>⟨h.d,h.h,h.u,h.hl,h.ul⟩,λh=>⟨h.1,h.2.1,h.2.2.1,h.2.2.2.1,h.2.2.2.2⟩⟩
 obtain⟨rs,YM⟩:∃rs,rs=wA m:=⟨_,rfl⟩
 rw [<-YM] at wQ ⊢
 have Oa:=cM (Wn m rs) rfl x.hold
 have Zs:¬(∃e∈x.hold,(!decide (rJ rs.length e))=true)↔∀(i:Nat) (r:sU),x.hold[i]?=some r->rJ rs.length r:=by
  constructor
  ·intro h i r hr
   exact Classical.byContradiction λh9=>h ⟨r,zM hr,by rw [zF h9];rfl⟩
  ·rintro h ⟨r,hr,h9⟩
   obtain⟨i,hi⟩:=zO hr
   rw [zT (h i r hi)] at h9
   cases h9
 refine yJ.of pg ye Tryz.func189 rfl Tryz.ntmps189 Tryz.results189 rfl λh0 G0 O0 ga=>?_
 (repeat'(first|(show CA _ _ (Code.region 1 _ _) _ _;apply z_.out)|apply Sp.h|refine Lk.r rfl ?_|refine Rf.mk rfl ?_|apply yc.mk|intro _));any_goals apply z_.mk
 refine CA.xt 2 rfl z1 ?_
 refine CA.xt 3 rfl z1 ?_
 repeat'(first|apply Sp.h|refine Lk.r rfl ?_|refine Rf.mk rfl ?_|apply Im.mk|intro _)
 refine CA.loop (λy:Nat×Int=>⟨[(2,.ad (tp m rs) 0),(3,.ad (il x) 0),(5,it y.2),(11,yO x.delta),(12,it (x.delta.length:Nat)),(13,it y.1)],[]⟩) (λy=>y.1<=x.delta.length/\(∀j p,j < y.1->x.delta[j]?=some p->fw rs.length x.delta j p)/\ -1<=y.2/\(y.1=0->y.2= -1)/\∀q,0 < y.1->x.delta[y.1 - 1]?=some q->q.1=y.2) (λy=>x.delta.length - y.1) (0,-1) xE ⟨zZ _,λj p h=>(by simp only at h;omega),by simp,λ_=>rfl,λq h=>(by simp only at h;omega)⟩ ?_
 rintro⟨i,c⟩ ⟨hi,ha,nQ,tE,bI⟩
 simp only at hi ha nQ tE bI
 simp only
 by_cases yd:i < x.delta.length
 ·obtain⟨p,hp⟩:=zz yd
  have bt:=nF p.2 1000000000 z6
  have vE:fw rs.length x.delta i p↔c < p.1/\p.1 < rs.length/\p.2≠0/\ -1000000000<=p.2/\p.2<=1000000000:=by
   constructor
   ·rintro⟨g1,g2,g3,g4,g5⟩
    refine⟨?_,g2,g3,g4⟩
    rcases Nat.eq_zero_or_pos i with h0|h0
    ·have:=tE h0;omega
    ·obtain⟨q,hq⟩:=zz (l:=x.delta) (i:=i - 1) z6
     have:=bI q h0 hq
     have:=g5 q h0 hq
     omega
   ·rintro⟨g1,g2,g3,g4⟩
    exact⟨z6,g2,g3,g4,λq h0 hq=>by have:=bI q h0 hq;omega⟩
  by_cases hT:fw rs.length x.delta i p
  ·have Ra:=vE.1 hT
   obtain⟨g1,g2,g3,g4,g5⟩:=Ra
   repeat'(first|apply Sp.h|refine Lk.r rfl ?_|refine Rf.mk rfl ?_|refine xA ?_|refine xB ?_|refine Im.mk λ_=>?_|refine yc.mk λ_=>?_|refine xT ?_|refine xI ?_|refine Ch.l ⟨rfl,rfl⟩ ?_|(apply y4.r;focus repeat' constructor)|refine xN ?_|refine xO ?_|(apply Cl.p (bt);focus repeat' constructor))
   all_goals first
    | exact PA.lp (i+1,p.1) xE ⟨⟨yd,yg hp ha hT,by simp only;omega,λh=>(by simp only at h;omega),λq _ hq=>(by simp only [Nat.add_sub_cancel] at hq;rw [hp] at hq;cases hq;rfl)⟩,by simp only;omega⟩
    | (exfalso;omega)
  ·have yD:¬s5 m x:=λh=>hT ((wQ.1 h).1 i p hp)
   have Ra:=λh=>hT (vE.2 h)
   repeat'(first|apply Sp.h|refine Lk.r rfl ?_|refine Rf.mk rfl ?_|refine xA ?_|refine xB ?_|(refine Bd.mk ?_ ?_ <;> intro _)|refine Im.mk λ_=>?_|refine yc.mk λ_=>?_|refine xT ?_|refine xI ?_|refine Ch.l ⟨rfl,rfl⟩ ?_|(apply y4.r;focus repeat' constructor)|refine xN ?_|refine xO ?_|(apply Cl.p (bt);focus repeat' constructor))
   all_goals first
    | exact Fin.p rfl (vb (zF yD).symm)
    | exact(Ra ⟨z6,z6,z6,z6,z6⟩).elim
 have vk:i=x.delta.length:=z6
 subst vk
 have Of:=xc ha
 clear ha nQ tE bI hi
 repeat'(first|apply Sp.h|refine Lk.r rfl ?_|refine Rf.mk rfl ?_|refine xB ?_|apply Im.mk|intro _)
 refine CA.loop (λy:Nat×Int=>⟨[(2,.ad (tp m rs) 0),(3,.ad (il x) 0),(5,it y.2),(44,.sl 3 x.yk tL),(45,it (x.yk.length:Nat)),(46,it y.1)],[]⟩) (λy=>y.1<=x.yk.length/\(∀j p,j < y.1->x.yk[j]?=some p->iu m x.yk j p)/\ -1<=y.2/\(y.1=0->y.2= -1)/\∀q,0 < y.1->x.yk[y.1 - 1]?=some q->q.2.1=y.2) (λy=>x.yk.length - y.1) (0,-1) xE ⟨zZ _,λj p h=>(by simp only at h;omega),by simp,λ_=>rfl,λq h=>(by simp only at h;omega)⟩ ?_
 rintro⟨i,c⟩ ⟨hi,ha,nQ,tE,bI⟩
 simp only at hi ha nQ tE bI
 simp only
 by_cases yd:i < x.yk.length
 ·obtain⟨u,hp⟩:=zz yd
  have mM:=XZ m rs u (hu u (zM hp))
  have vE:iu m x.yk i u↔c < u.2.1/\kM m u:=by
   constructor
   ·rintro⟨g1,g2⟩
    refine⟨?_,g1⟩
    rcases Nat.eq_zero_or_pos i with h0|h0
    ·have:=tE h0
     have:=kM.nn (m:=m) (u:=u) g1
     omega
    ·obtain⟨q,hq⟩:=zz (l:=x.yk) (i:=i - 1) z6
     have:=bI q h0 hq
     have:=g2 q h0 hq
     omega
   ·rintro⟨g1,g2⟩
    exact⟨g2,λq h0 hq=>by have:=bI q h0 hq;omega⟩
  have YQ:∀q,x.yk[i+1 - 1]?=some q->q.2.1=u.2.1:=λq hq=>by rw [Nat.add_sub_cancel,hp] at hq;cases hq;rfl
  have DZ:c < u.2.1-> -1<=u.2.1:=λh=>z6
  obtain⟨u0,u1,u2⟩:=u
  simp only at mM vE YQ DZ
  by_cases hT:iu m x.yk i (u0,u1,u2)
  ·obtain⟨g1,g2⟩:=vE.1 hT
   repeat'(first|apply Sp.h|refine Lk.r rfl ?_|refine Rf.mk rfl ?_|refine xA ?_|refine xB ?_|refine yc.mk λ_=>?_|refine xT ?_|refine xI ?_|refine Ch.l ⟨rfl,rfl⟩ ?_|(apply y4.r;focus repeat' constructor)|refine xN ?_|refine xO ?_|(apply Cl.pG (mM);{exact ga};focus(repeat' constructor);done))
   all_goals first
    | exact PA.lp (i+1,u1) xE ⟨⟨yd,yg hp ha hT,by simp only;omega,λh=>(by simp only at h;omega),λq _ hq=>YQ q hq⟩,by simp only;omega⟩
    | exact absurd g2 z8
    | (exfalso;omega)
  ·have yD:¬s5 m x:=λh=>hT ((wQ.1 h).2.2.1 i _ hp)
   repeat'(first|apply Sp.h|refine Lk.r rfl ?_|refine Rf.mk rfl ?_|refine xA ?_|refine xB ?_|(refine Bd.mk ?_ ?_ <;> intro _)|refine yc.mk λ_=>?_|refine xT ?_|refine xI ?_|refine Ch.l ⟨rfl,rfl⟩ ?_|(apply y4.r;focus repeat' constructor)|refine xN ?_|refine xO ?_|(apply Cl.pG (mM);{exact ga};focus(repeat' constructor);done))
   all_goals first
    | exact Fin.p rfl (vb (zF yD).symm)
    | exact(hT (vE.2 ⟨z6,by assumption⟩)).elim
 have vk:i=x.yk.length:=z6
 subst vk
 have hud:=xc ha
 clear ha nQ tE bI hi
 by_cases hle:x.hold.length<=8/\x.yk.length<=32
 ·have vE:s5 m x↔¬(∃e∈x.hold,(!decide (rJ rs.length e))=true):=⟨λh=>Zs.2 (wQ.1 h).2.1,λh=>wQ.2 ⟨Of,Zs.1 h,hud,hle⟩⟩
  obtain⟨WT,ku⟩:=hle
  repeat'(first|apply Sp.h|refine Lk.r rfl ?_|refine Rf.mk rfl ?_|refine xA ?_|refine xB ?_|refine Im.mk λ_=>?_|refine xN ?_|(apply Cl.p (Oa);focus repeat' constructor))
  all_goals first
   | exact Fin.p rfl (vb (zD.2 vE.symm))
   | (exfalso;omega)
 ·have yD:¬s5 m x:=λh=>hle (wQ.1 h).2.2.2
  repeat'(first|apply Sp.h|refine Lk.r rfl ?_|refine Rf.mk rfl ?_|refine xA ?_|refine xB ?_|(refine Bd.mk ?_ ?_ <;> intro _)|refine Im.mk λ_=>?_|refine xN ?_|(apply Cl.p (Oa);(focus repeat'(first|fail))))
  all_goals first
   | exact Fin.p rfl (vb (zF yD).symm)
   | exact(hle ⟨z6,z6⟩).elim
   | exact Fin.p rfl (vb (by rw [zF yD];exact zF z6))
theorem aS(m:y8)(fh:lG m)(vL:xl m):yV Tryz.prog 130 [.agg (tp m (wA m))] (.val (.bool (decide (qv m)))):=by
 have qY:=fh.s
 have Fs:∀a∈m.yP,yV Tryz.prog 189 [.agg (tp m (wA m)),.agg (il a.xu)] (.val (.bool (decide (s5 m a.xu)))):=λa ha=>W4 m a.xu (vL a ha)
 generalize wA m=rs at Fs ⊢
 refine yJ.of pg JY Tryz.func130 rfl Tryz.ntmps130 Tryz.results130 rfl λh0 G0 O0 ga=>?_
 (repeat'(first|(show CA _ _ (Code.region 1 _ _) _ _;apply z_.out)|apply Sp.h|refine Lk.r rfl ?_|refine Rf.mk rfl ?_|apply yc.mk|intro _));any_goals apply z_.mk
 refine CA.xt 1 rfl z1 ?_
 by_cases rZ:m.yP.length<=256
 rotate_left
 ·repeat'(first|apply Sp.h|refine Lk.r rfl ?_|refine Rf.mk rfl ?_|refine xA ?_|apply Im.mk|refine xN ?_|intro _)
  exact Fin.p rfl (vb (zF λh:qv m=>rZ h.l).symm)
 repeat'(first|apply Sp.h|refine Lk.r rfl ?_|refine Rf.mk rfl ?_|refine xB ?_|apply Im.mk|intro _)
 refine CA.loop (λi:Nat=>⟨[(1,.ad (tp m rs) 0),(16,.sl 5 m.yP iq),(17,it (m.yP.length:Nat)),(18,it i)],[]⟩) (λi=>i<=m.yP.length/\∀j a,j < i->m.yP[j]?=some a->fB m j a) (λi=>m.yP.length - i) 0 xE ⟨zZ _,λj a h=>z6⟩ ?_
 rintro i ⟨hi,MS⟩
 by_cases yd:i < m.yP.length
 ·obtain⟨a,ha⟩:=zz yd
  have yD:¬fB m i a->¬qv m:=λh h2=>h (h2.a i a ha)
  have bo:=rl a.op (m.ops.length:Nat)
  by_cases hb:0<=a.op/\a.op < m.ops.length
  rotate_left
  ·have yD:=yD λh=>hb (by obtain⟨j,h1,o,h2,-⟩:=h.o;have:=(zS.1 h2).1;omega)
   repeat'(first|apply Sp.h|refine Lk.r rfl ?_|refine Rf.mk rfl ?_|refine xA ?_|refine xB ?_|refine yu.r rfl ?_|refine Im.mk λ_=>?_|refine yc.mk λ_=>?_|refine xT ?_|refine xI ?_|refine Ch.l ⟨rfl,rfl⟩ ?_|(apply y4.r;focus repeat' constructor)|refine xN ?_|refine xD ?_|(apply Cl.p (bo);focus(repeat' constructor);done))
   all_goals first
    | exact Fin.p rfl (vb (zF yD).symm)
    | exact(hb ⟨z6,z6⟩).elim
    | exact absurd z8 hb
  obtain⟨j,hj⟩:=Int.eq_ofNat_of_zero_le hb.1
  obtain⟨o,ho⟩:=zz (l:=m.ops) (i:=j) z6
  have C3:m.ops[a.op.toNat]?=some o:=by rw [hj];exact ho
  have B1:=(qY j o ho).1
  have Bc:0<=a.op:=hb.1
  have hj1:a.op < m.ops.length:=hb.2
  have HA:fB m i a->a.args.length=o.y9.length/\∀(k:Nat) (x s:Int),a.args[k]?=some x->o.y9[k]?=some s->Xo m s x:=by
   intro h
   obtain⟨j',h1,o',h2,h3⟩:=h.o
   obtain rfl:j=j':=z6
   rw [ho] at h2;cases h2
   exact h3
  by_cases hlen:a.args.length=o.y9.length
  rotate_left
  ·have yD:=yD λh=>hlen (HA h).1
   repeat'(first|apply Sp.h|refine Lk.r rfl ?_|refine Rf.mk rfl ?_|refine xA ?_|refine xB ?_|refine yu.r rfl ?_|refine Im.mk λ_=>?_|refine yc.mk λ_=>?_|refine xT ?_|refine xI ?_|(apply Ix.r;{exact z8};{exact z6})|refine Ch.l ⟨rfl,rfl⟩ ?_|(apply y4.r;focus repeat' constructor)|refine xN ?_|refine xD ?_|(apply Cl.p (bo);focus(repeat' constructor);done))
   all_goals first
    | exact Fin.p rfl (vb (zF yD).symm)
    | (exfalso;omega)
  repeat'(first|apply Sp.h|refine Lk.r rfl ?_|refine Rf.mk rfl ?_|refine xA ?_|refine yu.r rfl ?_|refine Im.mk λ_=>?_|refine yc.mk λ_=>?_|refine xT ?_|refine xI ?_|(apply Ix.r;{exact z8};{exact z6})|refine Ch.l ⟨rfl,rfl⟩ ?_|(apply y4.r;focus repeat' constructor)|refine xN ?_|refine xD ?_|(apply Cl.p (bo);focus(repeat' constructor);done))
  all_goals try exact(by omega:False).elim
  all_goals try exact absurd hb z8
  rename_i b4 _ _ _ _
  refine CA.loop (λk:Nat=>⟨[(1,.ad (tp m rs) 0),(3,it i),(4,pm b4),(16,.sl 5 m.yP iq),(17,it (m.yP.length:Nat)),(18,it i),(53,ints o.y9),(54,it (o.y9.length:Nat)),(55,it k)],[yr b4 142 (iq a)]⟩) (λk=>k<=a.args.length/\∀q x,q < k->a.args[q]?=some x->∀s,o.y9[q]?=some s->Xo m s x) (λk=>a.args.length - k) 0 xE ⟨zZ _,λq x h=>z6⟩ ?_
  rintro k ⟨hk,bn⟩
  by_cases rz:k < a.args.length
  ·obtain⟨x,hx⟩:=zz rz
   obtain⟨s,hs⟩:=zz (l:=o.y9) (i:=k) z6
   obtain⟨nP,bf⟩:=B1 k s hs
   have YW:=nF x 9999 z6
   by_cases MK:s < 0
   ·by_cases MX: -9999<=x/\x<=9999
    ·have vu:=yg hx bn λs' h=>by rw [hs] at h;cases h;exact⟨λ_=>MX,λh=>z6⟩
     repeat'(first|apply Sp.h|refine Lk.r rfl ?_|refine Rf.mk rfl ?_|refine xA ?_|refine xB ?_|refine xT ?_|refine xI ?_|refine xO ?_|(apply Cl.p (YW);focus repeat' constructor))
     all_goals first
      | exact PA.lp (k+1) xE ⟨⟨rz,vu⟩,z6⟩
      | exact absurd MX z8
      | (exfalso;omega)
    ·have yD:=yD λh=>MX (((HA h).2 k x s hx hs).1 MK)
     repeat'(first|apply Sp.h|refine Lk.r rfl ?_|refine Rf.mk rfl ?_|refine xA ?_|refine xB ?_|refine xT ?_|refine xI ?_|refine xN ?_|(apply Cl.p (YW);focus repeat' constructor))
     all_goals first
      | exact Fin.p rfl (vb (zF yD).symm)
      | exact absurd z8 MX
      | (exfalso;omega)
   ·obtain⟨q,rfl⟩:=Int.eq_ofNat_of_zero_le (show 0<=s by omega)
    obtain⟨y,hy⟩:=zz (l:=m.y9) (i:=q) z6
    have Gj:=rl x y
    by_cases HB:0<=x/\x < y
    ·have vu:=yg hx bn λs' h=>by rw [hs] at h;cases h;exact⟨λh=>z6,λ_=>⟨HB.1,y,by rw [Int.toNat_natCast];exact hy,HB.2⟩⟩
     repeat'(first|apply Sp.h|refine Lk.r rfl ?_|refine Rf.mk rfl ?_|refine xA ?_|refine xB ?_|refine xT ?_|refine xI ?_|refine xO ?_|(apply Cl.p (YW);focus repeat' constructor)|(apply Cl.p (Gj);focus repeat' constructor))
     all_goals first
      | exact PA.lp (k+1) xE ⟨⟨rz,vu⟩,z6⟩
      | exact absurd HB z8
      | (exfalso;omega)
    ·have yD:=yD λh=>HB (by
      obtain⟨h1,y',h2,h3⟩:=((HA h).2 k x _ hx hs).2 z6
      rw [Int.toNat_natCast,hy] at h2
      cases h2
      exact⟨h1,h3⟩)
     repeat'(first|apply Sp.h|refine Lk.r rfl ?_|refine Rf.mk rfl ?_|refine xA ?_|refine xB ?_|refine xT ?_|refine xI ?_|refine xN ?_|(apply Cl.p (YW);focus repeat' constructor)|(apply Cl.p (Gj);focus repeat' constructor))
     all_goals first
      | exact Fin.p rfl (vb (zF yD).symm)
      | exact absurd z8 HB
      | (exfalso;omega)
  ·have mO:k=a.args.length:=z6
   subst mO
   have bn:=xc bn
   have Zw:=Fs a (zM ha)
   have kF:(∀b,0 < i->m.yP[i - 1]?=some b->b.op < a.op∨(b.op=a.op/\lexB b.args a.args=true))->s5 m a.xu->fB m i a:=λh1 h2=>⟨⟨j,hj,o,ho,hlen,λk x s h3 h4=>bn k x h3 s h4⟩,h1,h2⟩
   rcases Nat.eq_zero_or_pos i with h0|h0
   ·subst h0
    by_cases hE:s5 m a.xu
    ·have vu:=yg ha MS (kF (λb h=>z6) hE)
     repeat'(first|apply Sp.h|refine Lk.r rfl ?_|refine Rf.mk rfl ?_|refine xA ?_|refine xB ?_|refine xT ?_|refine Ch.l ⟨rfl,rfl⟩ ?_|refine Ch.r ?_|refine xO ?_|(apply Cl.pG (Zw);{exact ga};focus(repeat' constructor);done))
     all_goals first
      | exact PA.lp 1 xE ⟨⟨yd,vu⟩,z6⟩
      | exact absurd hE z8
      | (exfalso;omega)
    ·have yD:=yD λh=>hE h.e
     repeat'(first|apply Sp.h|refine Lk.r rfl ?_|refine Rf.mk rfl ?_|refine xB ?_|refine xT ?_|refine Ch.l ⟨rfl,rfl⟩ ?_|refine Ch.r ?_|refine xN ?_|(apply Cl.pG (Zw);{exact ga};focus(repeat' constructor);done))
     all_goals first
      | exact Fin.p rfl (vb (zF yD).symm)
      | exact absurd z8 hE
      | (exfalso;omega)
   ·obtain⟨q,rfl⟩:∃q,i=q+1:=⟨i - 1,z6⟩
    obtain⟨b,Hz⟩:=zz (l:=m.yP) (i:=q) z6
    have ey:=Pg b.args a.args
    have xC:=Yz b.args a.args
    by_cases hL:b.op < a.op∨(b.op=a.op/\cmpL b.args a.args < 0)
    ·by_cases hE:s5 m a.xu
     ·have vu:=yg ha MS (kF (λb' _ h=>by rw [show q+1 - 1=q by omega,Hz] at h;cases h;exact hL.imp id λh=>⟨h.1,xC.1 h.2⟩) hE)
      repeat'(first|apply Sp.h|refine Lk.r rfl ?_|refine Rf.mk rfl ?_|refine xA ?_|refine xB ?_|(refine Bd.mk ?_ ?_ <;> intro _)|refine yc.mk λ_=>?_|refine xT ?_|(apply Ix.r;{exact z8};{exact z6})|refine Ch.l ⟨rfl,rfl⟩ ?_|refine Ch.r ?_|(apply y4.r;focus repeat' constructor)|refine xN ?_|refine xO ?_|(apply Cl.pG (Zw);{exact ga};focus(repeat' constructor);done)|(apply Cl.p (ey);focus(repeat' constructor);done))
      all_goals first
       | exact PA.lp (q+1+1) xE ⟨⟨yd,vu⟩,z6⟩
       | exact absurd hE z8
       | (exfalso;omega)
     ·have yD:=yD λh=>hE h.e
      repeat'(first|apply Sp.h|refine Lk.r rfl ?_|refine Rf.mk rfl ?_|refine xA ?_|refine xB ?_|(refine Bd.mk ?_ ?_ <;> intro _)|refine yc.mk λ_=>?_|refine xT ?_|(apply Ix.r;{exact z8};{exact z6})|refine Ch.l ⟨rfl,rfl⟩ ?_|refine Ch.r ?_|(apply y4.r;focus repeat' constructor)|refine xN ?_|refine xO ?_|(apply Cl.pG (Zw);{exact ga};focus(repeat' constructor);done)|(apply Cl.p (ey);focus(repeat' constructor);done))
      all_goals first
       | exact Fin.p rfl (vb (zF yD).symm)
       | exact absurd z8 hE
       | (exfalso;omega)
    ·have yD:=yD λh=>hL ((h.b b h0 (by rw [show q+1 - 1=q by omega];exact Hz)).imp id λh=>⟨h.1,xC.2 h.2⟩)
     repeat'(first|apply Sp.h|refine Lk.r rfl ?_|refine Rf.mk rfl ?_|refine xA ?_|refine xB ?_|(refine Bd.mk ?_ ?_ <;> intro _)|refine yc.mk λ_=>?_|refine xT ?_|(apply Ix.r;{exact z8};{exact z6})|refine Ch.l ⟨rfl,rfl⟩ ?_|(apply y4.r;focus repeat' constructor)|refine xN ?_|refine xO ?_|(apply Cl.pG (Zw);{exact ga};focus(repeat' constructor);done)|(apply Cl.p (ey);focus(repeat' constructor);done))
     all_goals first
      | exact Fin.p rfl (vb (zF yD).symm)
      | exact(hL (.inl z6)).elim
      | exact(hL (.inr ⟨z6,z6⟩)).elim
      | (exfalso;omega)
 ·have:i=m.yP.length:=z6
  subst this
  repeat'(first|apply Sp.h|refine Lk.r rfl ?_|refine Rf.mk rfl ?_|refine xB ?_|refine xN ?_|fail)
  exact Fin.p rfl (vb (zT (show qv m from⟨fh,rZ,xc MS⟩)).symm)
def vG(hs:List (Int×Int×Int)):Nat->Int->Int->Prop
 | 0,a,b=>a=b
 | n+1,a,b=>a=b∨∃(i:Nat) (h:Int×Int×Int),hs[i]?=some h/\h.1=a/\vG hs n h.2.2 b
noncomputable instance (hs:List (Int×Int×Int)) (n:Nat) (a b:Int):Decidable (vG hs n a b):=zC _
theorem QQ(m:y8)(n:Nat)(hn:n<=1000) :∀a b:Int,y6 Tryz.prog 124 [wH m,it a,it b,it n] (.val (.bool (decide (vG m.yp n a b)))):=by
 induction n with
 | zero =>
  intro a b
  refine zy.of pg Ud Tryz.func124 rfl Tryz.ntmps124 Tryz.results124 rfl λh0 G0 O0=>?_
  repeat'(first|apply Sp.h|refine Lk.r rfl ?_|refine Rf.mk rfl ?_|apply Bd.mk|apply yc.mk|refine xN ?_|intro _)
  ·rename_i h
   exact Fin.p rfl (vb (zT (show vG m.yp 0 a b from h)).symm)
  rename_i b4 vB
  refine CA.loop (λi:Nat=>⟨[(1,it a),(2,it b),(3,it (0:Nat)),(4,.val (.pointer (some ⟨b4,0,none⟩))),(9,it i)],[yr b4 30 (s_ m)]⟩) (λi=>i<=m.yp.length) (λi=>m.yp.length - i) 0 xE (zZ _) ?_
  intro i hi
  have yD:¬vG m.yp 0 a b:=vB
  by_cases yd:i < m.yp.length
  ·repeat'(first|apply Sp.h|refine Lk.r rfl ?_|refine Rf.mk rfl ?_|refine xA ?_|refine xB ?_|apply Im.mk|refine xT ?_|refine xN ?_|intro _)
   exact Fin.p rfl (vb (zF yD).symm)
  ·repeat'(first|apply Sp.h|refine Lk.r rfl ?_|refine Rf.mk rfl ?_|refine xB ?_|apply Im.mk|refine xT ?_|refine xN ?_|intro _)
   exact Fin.p rfl (vb (zF yD).symm)
 | succ n ih =>
  intro a b
  have ih:=ih z6
  refine zy.of pg Ud Tryz.func124 rfl Tryz.ntmps124 Tryz.results124 rfl λh0 G0 O0=>?_
  repeat'(first|apply Sp.h|refine Lk.r rfl ?_|refine Rf.mk rfl ?_|apply Bd.mk|apply yc.mk|refine xN ?_|intro _)
  ·rename_i h
   exact Fin.p rfl (vb (zT (show vG m.yp (n+1) a b from .inl h)).symm)
  rename_i b4 vB
  refine CA.loop (λi:Nat=>⟨[(1,it a),(2,it b),(3,it (n+1:Nat)),(4,.val (.pointer (some ⟨b4,0,none⟩))),(9,it i)],[yr b4 30 (s_ m)]⟩) (λi=>i<=m.yp.length/\∀j h,j < i->m.yp[j]?=some h->¬(h.1=a/\vG m.yp n h.2.2 b)) (λi=>m.yp.length - i) 0 xE ⟨zZ _,λj h hj=>z6⟩ ?_
  rintro i ⟨hi,yD⟩
  by_cases yd:i < m.yp.length
  ·obtain⟨⟨h1,h2,h3⟩,hh⟩:=zz yd
   have CJ:=ih h3 b
   rw [show(n:Int)=((n+1:Nat):Int) - 1 by omega] at CJ
   by_cases hL:h1=a/\vG m.yp n h3 b
   ·obtain⟨MV,iJ⟩:=hL
    have kF:vG m.yp (n+1) a b:= .inr ⟨i,_,hh,MV,iJ⟩
    repeat'(first|apply Sp.h|refine Lk.r rfl ?_|refine Rf.mk rfl ?_|refine xA ?_|refine yu.r rfl ?_|refine Im.mk λ_=>?_|refine xT ?_|refine xI ?_|refine Ch.l ⟨rfl,rfl⟩ ?_|refine xN ?_|refine xD ?_|refine xO ?_|(apply Cl.p (CJ);focus repeat' constructor))
    all_goals first
     | exact Fin.p rfl (vb (zT kF).symm)
     | exact(by omega:False).elim
   ·have vu:=yg hh yD hL
    repeat'(first|apply Sp.h|refine Lk.r rfl ?_|refine Rf.mk rfl ?_|refine xA ?_|refine xB ?_|(refine Bd.mk ?_ ?_ <;> intro _)|refine yu.r rfl ?_|refine Im.mk λ_=>?_|refine xT ?_|refine xI ?_|refine Ch.l ⟨rfl,rfl⟩ ?_|refine xN ?_|refine xD ?_|refine xO ?_|(apply Cl.p (CJ);focus repeat' constructor))
    all_goals first
     | exact PA.lp (i+1) xE ⟨⟨yd,vu⟩,z6⟩
     | exact(hL ⟨z6,by assumption⟩).elim
  ·have:i=m.yp.length:=z6
   subst this
   have hn:¬vG m.yp (n+1) a b:=by
    rintro(h|⟨j,h,h1,h2,h3⟩)
    ·exact vB h
    ·exact yD j h (zS.1 h1).1 h1 ⟨h2,h3⟩
   repeat'(first|apply Sp.h|refine Lk.r rfl ?_|refine Rf.mk rfl ?_|refine xB ?_|apply Im.mk|refine xT ?_|refine xN ?_|intro _)
   exact Fin.p rfl (vb (zF hn).symm)
def ae(m:y8)(h:Int×Int×Int):Prop:=∃(j1 j2 j3:Nat) (t u:ym) (x:Int),h.1=(j1:Int)/\m.tables[j1]?=some t/\h.2.2=(j2:Int)/\m.tables[j2]?=some u/\j1≠j2/\t.kind=0/\u.kind=0/\h.2.1=(j3:Int)/\t.ya[j3]?=some x/\u.ya= [x]
structure pH (m:y8):Prop where
 l:m.yp.length<=12
 i:∀(i:Nat) (h:Int×Int×Int),m.yp[i]?=some h->ae m h
 a:∀(i:Nat) (h:Int×Int×Int),m.yp[i]?=some h->¬vG m.yp m.tables.length h.2.2 h.1
noncomputable instance (m:y8):Decidable (pH m):=zC _
theorem cm{l:List Int}{y:Int}(h:l.length=1)(hy:l[0]?=some y):l= [y]:=by
 match l,h with
 | [z],_=>cases hy;rfl
theorem Tr(m:y8)(hm:xS m.y9 m.tables):y6 Tryz.prog 55 [wH m] (.val (.bool (decide (pH m)))):=by
 have ly:=hm.2.2.1
 refine zy.of pg EF Tryz.func55 rfl Tryz.ntmps55 Tryz.results55 rfl λh0 G0 O0=>?_
 by_cases hl:m.yp.length<=12
 rotate_left
 ·repeat'(first|apply Sp.h|refine Lk.r rfl ?_|refine Rf.mk rfl ?_|refine xA ?_|apply Im.mk|apply yc.mk|refine xT ?_|refine xN ?_|intro _)
  exact Fin.p rfl (vb (zF λh:pH m=>hl h.l).symm)
 repeat'(first|apply Sp.h|refine Lk.r rfl ?_|refine Rf.mk rfl ?_|refine xB ?_|apply Im.mk|apply yc.mk|refine xT ?_|intro _)
 rename_i b1 _
 refine CA.loop (λi:Nat=>⟨[(1,.val (.pointer (some ⟨b1,0,none⟩))),(3,it i)],[yr b1 30 (s_ m)]⟩) (λi=>i<=m.yp.length/\∀j h,j < i->m.yp[j]?=some h->ae m h) (λi=>m.yp.length - i) 0 xE ⟨zZ _,λj h hj=>z6⟩ ?_
 rintro i ⟨hi,bp⟩
 by_cases yd:i < m.yp.length
 ·obtain⟨⟨ht,pD,Sz⟩,hh⟩:=zz yd
  have yD:¬ae m (ht,pD,Sz)->¬pH m:=λh h2=>h (h2.i i _ hh)
  by_cases hb:0<=ht/\ht < m.tables.length/\0<=Sz/\Sz < m.tables.length
  ·obtain⟨j1,rfl⟩:=Int.eq_ofNat_of_zero_le hb.1
   obtain⟨j2,rfl⟩:=Int.eq_ofNat_of_zero_le hb.2.2.1
   obtain⟨-,q_,-,rC⟩:=hb
   obtain⟨t,MI⟩:=zz (l:=m.tables) (i:=j1) z6
   obtain⟨u,MH⟩:=zz (l:=m.tables) (i:=j2) z6
   by_cases hc:0<=pD/\pD < t.ya.length/\u.ya.length=1
   ·obtain⟨j3,rfl⟩:=Int.eq_ofNat_of_zero_le hc.1
    obtain⟨-,nQ,tE⟩:=hc
    obtain⟨x,hx⟩:=zz (l:=t.ya) (i:=j3) z6
    obtain⟨y,hy⟩:=zz (l:=u.ya) (i:=0) z6
    have HY:=cm tE hy
    by_cases hI:ae m ((j1:Int),(j3:Int),(j2:Int))
    ·have vu:=yg hh bp hI
     obtain⟨k1,k2,k3,t',u',x',e1,e2,e3,e4,e5,e6,e7,e8,e9,mP⟩:=hI
     simp only at e1 e3 e8
     obtain rfl:j1=k1:=z6
     obtain rfl:j2=k2:=z6
     obtain rfl:j3=k3:=z6
     rw [MI] at e2;cases e2
     rw [MH] at e4;cases e4
     rw [hx] at e9;cases e9
     rw [HY] at mP;injection mP with mP
     repeat'(first|apply Sp.h|refine Lk.r rfl ?_|refine Rf.mk rfl ?_|refine xA ?_|refine xB ?_|refine yu.r rfl ?_|refine xP ?_|apply Im.mk|apply yc.mk|refine xT ?_|refine xI ?_|refine Ch.l ⟨rfl,rfl⟩ ?_|(apply y4.r;focus repeat' constructor)|refine xN ?_|refine xD ?_|exact trivial|(apply CA.sB;{exact zu};{exact z7};{exact z7};{exact zo};{exact zu};intro X1 tr)|(apply mS.lt;(focus first|assumption|omega|(apply tr;repeat constructor)))|apply vn.both|refine xO ?_|intro _)
     all_goals first
      | exact PA.lp (i+1) xE ⟨⟨yd,vu⟩,z6⟩
      | exact(by omega:False).elim
    ·have yD:=yD hI
     repeat'(first|apply Sp.h|refine Lk.r rfl ?_|refine Rf.mk rfl ?_|refine xA ?_|refine xB ?_|apply Bd.mk|refine yu.r rfl ?_|refine xP ?_|apply Im.mk|apply yc.mk|refine xT ?_|refine xI ?_|refine Ch.l ⟨rfl,rfl⟩ ?_|(apply y4.r;focus repeat' constructor)|refine xN ?_|refine xD ?_|exact trivial|(apply CA.sB;{exact zu};{exact z7};{exact z7};{exact zo};{exact zu};intro X1 tr)|(apply mS.lt;(focus first|assumption|omega|(apply tr;repeat constructor)))|apply vn.both|refine xO ?_|intro _)
     all_goals first
      | exact Fin.p rfl (vb (zF yD).symm)
      | exact(hI ⟨j1,j2,j3,t,u,x,rfl,MI,rfl,MH,z6,z6,z6,rfl,hx,by rw [HY,show y=x by omega]⟩).elim
   ·have yD:=yD λ⟨k1,k2,k3,t',u',x',e1,e2,e3,e4,e5,e6,e7,e8,e9,mP⟩=>by
     simp only at e1 e3 e8
     obtain rfl:j1=k1:=z6
     obtain rfl:j2=k2:=z6
     rw [MI] at e2;cases e2
     rw [MH] at e4;cases e4
     have:=(zS.1 e9).1
     exact hc ⟨z6,z6,by rw [mP];rfl⟩
    repeat'(first|apply Sp.h|refine Lk.r rfl ?_|refine Rf.mk rfl ?_|refine xA ?_|refine xB ?_|apply Bd.mk|refine yu.r rfl ?_|refine xP ?_|apply Im.mk|apply yc.mk|refine xT ?_|refine xI ?_|refine Ch.l ⟨rfl,rfl⟩ ?_|(apply y4.r;focus repeat' constructor)|refine xN ?_|refine xD ?_|exact trivial|(apply CA.sB;{exact zu};{exact z7};{exact z7};{exact zo};{exact zu};intro X1 tr)|(apply mS.lt;(focus first|assumption|omega|(apply tr;repeat constructor)))|apply vn.both|intro _)
    all_goals first
     | exact Fin.p rfl (vb (zF yD).symm)
     | exact(hc ⟨z6,z6,z6⟩).elim
  ·have yD:=yD λ⟨k1,k2,k3,t',u',x',e1,e2,e3,e4,_⟩=>by
    simp only at e1 e3
    have:=(zS.1 e2).1
    have:=(zS.1 e4).1
    exact hb ⟨z6,z6,z6,z6⟩
   repeat'(first|apply Sp.h|refine Lk.r rfl ?_|refine Rf.mk rfl ?_|refine xA ?_|refine xB ?_|apply Bd.mk|apply Im.mk|apply yc.mk|refine xT ?_|refine xI ?_|refine Ch.l ⟨rfl,rfl⟩ ?_|(apply y4.r;focus repeat' constructor)|refine xN ?_|intro _)
   all_goals first
    | exact Fin.p rfl (vb (zF yD).symm)
    | exact(hb ⟨z6,z6,z6,z6⟩).elim
 ·have:i=m.yp.length:=z6
  subst this
  have bp:=xc bp
  repeat'(first|apply Sp.h|refine Lk.r rfl ?_|refine Rf.mk rfl ?_|refine xB ?_|apply Im.mk|refine xT ?_|intro _)
  refine CA.loop (λi:Nat=>⟨[(1,.val (.pointer (some ⟨b1,0,none⟩))),(7,it i)],[yr b1 30 (s_ m)]⟩) (λi=>i<=m.yp.length/\∀j h,j < i->m.yp[j]?=some h->¬vG m.yp m.tables.length h.2.2 h.1) (λi=>m.yp.length - i) 0 xE ⟨zZ _,λj h hj=>z6⟩ ?_
  rintro i ⟨hi,C9⟩
  by_cases yd:i < m.yp.length
  ·obtain⟨⟨h1,h2,h3⟩,hh⟩:=zz yd
   have hle:=QQ m m.tables.length z6 h3 h1
   by_cases hL:vG m.yp m.tables.length h3 h1
   ·repeat'(first|apply Sp.h|refine Lk.r rfl ?_|refine Rf.mk rfl ?_|refine xA ?_|refine yu.r rfl ?_|refine Im.mk λ_=>?_|refine xT ?_|refine xI ?_|refine Ch.l ⟨rfl,rfl⟩ ?_|refine xN ?_|refine xD ?_|(apply Cl.p (hle);focus repeat' constructor))
    exact Fin.p rfl (vb (zF λh:pH m=>h.a i _ hh hL).symm)
   ·repeat'(first|apply Sp.h|refine Lk.r rfl ?_|refine Rf.mk rfl ?_|refine xA ?_|refine xB ?_|refine yu.r rfl ?_|refine Im.mk λ_=>?_|refine xT ?_|refine xI ?_|refine Ch.l ⟨rfl,rfl⟩ ?_|refine xD ?_|refine xO ?_|(apply Cl.p (hle);focus repeat' constructor))
    exact PA.lp (i+1) xE ⟨⟨yd,yg hh C9 hL⟩,z6⟩
  ·have:i=m.yp.length:=z6
   subst this
   repeat'(first|apply Sp.h|refine Lk.r rfl ?_|refine Rf.mk rfl ?_|refine xB ?_|apply Im.mk|refine xT ?_|refine xN ?_|intro _)
   exact Fin.p rfl (vb (zT (show pH m from⟨hl,bp,xc C9⟩)).symm)
structure xR (m:y8):Prop where
 lay:vh m.y9 m.tables
 fl:m.xm.length<=24
 fd:o6 m.xm
 con:qu m
 act:qv m
 V9:pH m
noncomputable instance (m:y8):Decidable (xR m):=zC _
theorem tW(m:y8)(wU:m.ops.length<=1000000000)(vL:xl m):y6 Tryz.prog 11 [wH m] (.val (.bool (decide (xR m)))):=by
 have h9:=nt m.y9 m.tables
 have Zu:=jD m.xm
 have eN:=WH m wU vL
 refine zy.of pg ye Tryz.func11 rfl Tryz.ntmps11 Tryz.results11 rfl λh0 G0 O0=>?_
 by_cases hx:vh m.y9 m.tables/\m.xm.length<=24/\o6 m.xm
 rotate_left
 ·have yD:¬xR m:=λh=>hx ⟨h.lay,h.fl,h.fd⟩
  repeat'(first|apply Sp.h|refine Lk.r rfl ?_|refine Rf.mk rfl ?_|refine xA ?_|refine xB ?_|(refine Bd.mk ?_ ?_ <;> intro _)|refine Im.mk λ_=>?_|refine yc.mk λ_=>?_|refine xT ?_|refine Ch.l ⟨rfl,rfl⟩ ?_|refine xN ?_|(apply Cl.p (h9);focus repeat' constructor)|(apply Cl.p (Zu);focus repeat' constructor))
  all_goals first
   | exact Fin.p rfl (vb (zF yD).symm)
   | exact(hx ⟨by assumption,z6,by assumption⟩).elim
 obtain⟨x1,x2,x3⟩:=hx
 have uK:=iG m x1.ok
 have fi:=Tr m x1.ok
 by_cases hc:qu m
 ·by_cases ha:qv m
  ·repeat'(first|apply Sp.h|refine Lk.r rfl ?_|refine Rf.mk rfl ?_|refine xA ?_|refine xB ?_|refine Im.mk λ_=>?_|refine yc.mk λ_=>?_|refine xT ?_|refine Ch.l ⟨rfl,rfl⟩ ?_|refine xN ?_|(apply Cl.p (h9);focus(repeat' constructor);done)|(apply Cl.p (Zu);focus(repeat' constructor);done)|(apply Cl.p (uK);focus(repeat' constructor);done)|(apply Cl.p (eN);focus(repeat' constructor);done)|(apply Cl.p (fi);focus(repeat' constructor);done))
   refine Fin.p rfl (vb ?_)
   exact zD.2 ⟨λh=>⟨x1,x2,x3,hc,ha,h⟩,λh=>h.V9⟩
  ·repeat'(first|apply Sp.h|refine Lk.r rfl ?_|refine Rf.mk rfl ?_|refine xA ?_|refine xB ?_|refine Im.mk λ_=>?_|refine yc.mk λ_=>?_|refine xT ?_|refine Ch.l ⟨rfl,rfl⟩ ?_|refine xN ?_|(apply Cl.p (h9);focus(repeat' constructor);done)|(apply Cl.p (Zu);focus(repeat' constructor);done)|(apply Cl.p (uK);focus(repeat' constructor);done)|(apply Cl.p (eN);focus(repeat' constructor);done)|(apply Cl.p (fi);focus(repeat' constructor);done))
   exact Fin.p rfl (vb (zF λh:xR m=>ha h.act).symm)
 ·repeat'(first|apply Sp.h|refine Lk.r rfl ?_|refine Rf.mk rfl ?_|refine xA ?_|refine xB ?_|refine Im.mk λ_=>?_|refine yc.mk λ_=>?_|refine xT ?_|refine Ch.l ⟨rfl,rfl⟩ ?_|refine xN ?_|(apply Cl.p (h9);focus(repeat' constructor);done)|(apply Cl.p (Zu);focus(repeat' constructor);done)|(apply Cl.p (uK);focus(repeat' constructor);done)|(apply Cl.p (eN);focus(repeat' constructor);done)|(apply Cl.p (fi);focus(repeat' constructor);done))
  exact Fin.p rfl (vb (zF λh:xR m=>hc h.con).symm)
end Go.Proofs.YtmjllbjfkafhdaaGreatDoor
