/- Part 11 of the ground of this proof: what its texts say of the model, the program and the plain data; conditions: those that are named. -/
import Derived.Test.YtmjllbjfkafhdaaGreatDoorT10
namespace Go.Proofs.YtmjllbjfkafhdaaGreatDoor
open Go Go.CF
def cmpL:List Int->List Int->Int
 | [],[]=>0
 | [],_ :: _=> -1
 | _ :: _,[]=>1
 | x :: a,y :: b=>if x=y then cmpL a b else if x < y then -1 else 1
theorem Yz :∀a b,cmpL a b < 0↔lexB a b=true
 | [],[]=>by simp [cmpL,lexB]
 | [],_ :: _=>by simp [cmpL,lexB]
 | _ :: _,[]=>by simp [cmpL,lexB]
 | x :: a,y :: b=>by
  rw [cmpL,lexB]
  by_cases h:x=y
  ·rw [if_pos h,if_pos h];exact Yz a b
  ·rw [if_neg h,if_neg h,decide_eq_true_eq]
   by_cases h2:x < y
   ·rw [if_pos h2];exact⟨λ_=>h2,λ_=>z6⟩
   ·rw [if_neg h2];exact⟨λh9=>z6,λh9=>absurd h9 h2⟩
theorem Me(x:Int):y6 Tryz.prog 253 [it x] (.val (.bool false)):=by
 refine zy.of pg ye Tryz.func253 rfl Tryz.ntmps253 Tryz.results253 rfl λh0 G0 O0=>?_
 repeat'(first|apply Sp.h|refine Lk.r rfl ?_|refine Rf.mk rfl ?_|refine xN ?_|fail)
 exact Fin.p rfl (vb zd)
theorem Dp(x y:Int):y6 Tryz.prog 226 [it x,it y] (it (if x=y then 0 else if x < y then -1 else 1)):=by
 have h1:=Me x
 have h2:=Me y
 refine zy.of pg ye Tryz.func226 rfl Tryz.ntmps226 Tryz.results226 rfl λh0 G0 O0=>?_
 rcases Int.lt_trichotomy x y with h|h|h
 ·rw [if_neg z6,if_pos h]
  repeat'(first|apply Sp.h|refine Lk.r rfl ?_|refine Rf.mk rfl ?_|refine xA ?_|refine xN ?_|(apply Cl.p (h1);focus(repeat' constructor);done)|(apply Cl.p (h2);focus(repeat' constructor);done))
  all_goals first
   | exact Fin.p rfl rfl
   | (exfalso;omega)
 ·rw [if_pos h]
  repeat'(first|apply Sp.h|refine Lk.r rfl ?_|refine Rf.mk rfl ?_|refine xB ?_|refine xN ?_|(apply Cl.p (h1);focus(repeat' constructor);done)|(apply Cl.p (h2);focus(repeat' constructor);done))
  all_goals first
   | exact Fin.p rfl rfl
   | (exfalso;omega)
 ·rw [if_neg z6,if_neg z6]
  repeat'(first|apply Sp.h|refine Lk.r rfl ?_|refine Rf.mk rfl ?_|refine xA ?_|refine xB ?_|refine xN ?_|(apply Cl.p (h1);focus(repeat' constructor);done)|(apply Cl.p (h2);focus(repeat' constructor);done))
  all_goals first
   | exact Fin.p rfl rfl
   | (exfalso;omega)
theorem Pg(a b:List Int):y6 Tryz.prog 188 [ints a,ints b] (it (cmpL a b)):=by
 refine zy.of pg ye Tryz.func188 rfl Tryz.ntmps188 Tryz.results188 rfl λh0 G0 O0=>?_
 repeat'(first|apply Sp.h|refine Lk.r rfl ?_|refine Rf.mk rfl ?_|apply Im.mk|intro _)
 refine CA.loop (λi:Nat=>⟨[(0,ints a),(1,ints b),(9,ints a),(10,it (a.length:Nat)),(11,it i)],[]⟩) (λi=>i<=a.length/\i<=b.length/\cmpL (a.drop i) (b.drop i)=cmpL a b) (λi=>a.length - i) 0 xE ⟨zZ _,zZ _,rfl⟩ ?_
 rintro i ⟨nV,pU,he⟩
 by_cases ha:i < a.length
 ·obtain⟨x,hx⟩:=zz ha
  rw [List.drop_eq_getElem_cons ha,(zS.1 hx).2] at he
  by_cases hb:i < b.length
  ·obtain⟨y,hy⟩:=zz hb
   rw [List.drop_eq_getElem_cons hb,(zS.1 hy).2,cmpL] at he
   have hc:=Dp x y
   rcases Int.lt_trichotomy x y with h|h|h
   ·rw [if_neg z6,if_pos h] at he hc
    repeat'(first|apply Sp.h|refine Lk.r rfl ?_|refine Rf.mk rfl ?_|refine xA ?_|refine xB ?_|refine Im.mk λ_=>?_|refine xI ?_|refine xN ?_|(apply Cl.p (hc);focus repeat' constructor))
    all_goals first
     | exact Fin.p rfl (by rw [he])
     | exact absurd rfl z8
     | (exfalso;omega)
   ·rw [if_pos h] at he hc
    repeat'(first|apply Sp.h|refine Lk.r rfl ?_|refine Rf.mk rfl ?_|refine xA ?_|refine xB ?_|refine Im.mk λ_=>?_|refine xI ?_|refine xO ?_|(apply Cl.p (hc);focus repeat' constructor))
    all_goals first
     | exact PA.lp (i+1) xE ⟨⟨ha,hb,he⟩,z6⟩
     | exact absurd rfl z8
     | (exfalso;omega)
   ·rw [if_neg z6,if_neg z6] at he hc
    repeat'(first|apply Sp.h|refine Lk.r rfl ?_|refine Rf.mk rfl ?_|refine xA ?_|refine xB ?_|refine Im.mk λ_=>?_|refine xI ?_|refine xN ?_|(apply Cl.p (hc);focus repeat' constructor))
    all_goals first
     | exact Fin.p rfl (by rw [he])
     | exact absurd rfl z8
     | (exfalso;omega)
  ·rw [List.drop_of_length_le (l:=b) z6,cmpL] at he
   repeat'(first|apply Sp.h|refine Lk.r rfl ?_|refine Rf.mk rfl ?_|refine xA ?_|apply Im.mk|refine xI ?_|refine xN ?_|intro _)
   all_goals first
    | exact Fin.p rfl (by rw [he])
    | (exfalso;omega)
 ·rw [List.drop_of_length_le (l:=a) z6] at he
  by_cases hb:i < b.length
  ·rw [List.drop_eq_getElem_cons hb,cmpL] at he
   repeat'(first|apply Sp.h|refine Lk.r rfl ?_|refine Rf.mk rfl ?_|refine xA ?_|refine xB ?_|apply Im.mk|refine xN ?_|intro _)
   all_goals first
    | exact Fin.p rfl (by rw [he])
    | (exfalso;omega)
  ·rw [List.drop_of_length_le (l:=b) z6,cmpL] at he
   repeat'(first|apply Sp.h|refine Lk.r rfl ?_|refine Rf.mk rfl ?_|refine xB ?_|apply Im.mk|refine xN ?_|intro _)
   all_goals first
    | exact Fin.p rfl (by rw [he])
    | (exfalso;omega)
end Go.Proofs.YtmjllbjfkafhdaaGreatDoor
set_option maxRecDepth 100000
set_option maxHeartbeats 80000000
namespace Go.Proofs.YtmjllbjfkafhdaaGreatDoor
open Go Go.CF
theorem Tl{g:FuncId}{caps:List AV}{p:sU->Bool}(hg:∀e,y6 Tryz.prog g (.agg (pA e) :: caps) (.val (.bool (p e))))(he:en g=true)(l:List sU) :
  y6 Tryz.prog 262 [.sl 2 l pA,.fn g caps] (it (wW p l)):=by
 refine zy.of pg ye Tryz.func262 rfl Tryz.ntmps262 Tryz.results262 rfl λh0 G0 O0=>?_
 repeat'(first|apply Sp.h|refine Lk.r rfl ?_|refine Rf.mk rfl ?_|apply Im.mk|intro _)
 refine CA.loop (λi:Nat=>⟨[(0,.sl 2 l pA),(1,.fn g caps),(7,it (l.length:Nat)),(8,it i)],[]⟩)
  (λi=>i<=l.length/\∀j y,j < i->l[j]?=some y->p y=false) (λi=>l.length - i) 0 xE ⟨zZ _,λj y h=>z6⟩ ?_
 rintro i ⟨hi,hj⟩
 by_cases yd:i < l.length
 ·obtain⟨e,hx⟩:=zz yd
  have WV:=hg e
  repeat'(first|apply Sp.h|refine Lk.r rfl ?_|refine Rf.mk rfl ?_|refine xA ?_|(refine Bd.mk ?_ ?_ <;> intro _)|refine xI ?_|refine Ch.l ⟨rfl,rfl⟩ ?_|refine xN ?_|(apply Rf.mk;{exact z8})|refine xO ?_|(apply Cl.p (WV);(focus repeat'(first|apply y3.yB|fail))))
  ·exact pa _
  ·rename_i hp
   exact Fin.p rfl (by rw [wW,uA hx hp hj,if_pos yd])
  ·rename_i hp
   exact PA.lp (i+1) xE ⟨⟨yd,yg hx hj (by simpa using hp)⟩,z6⟩
 ·repeat'(first|apply Sp.h|refine Lk.r rfl ?_|refine Rf.mk rfl ?_|refine xB ?_|refine xN ?_|fail)
  exact Fin.p rfl (by rw [wW,wL (λx hx=>by obtain⟨j,hx⟩:=zO hx;exact hj j x (by have:=(zS.1 hx).1;omega) hx),if_neg z6])
theorem cM{g:FuncId}{caps:List AV}{p:sU->Bool}(hg:∀e,y6 Tryz.prog g (.agg (pA e) :: caps) (.val (.bool (p e))))(he:en g=true)(l:List sU) :
  y6 Tryz.prog 228 [.sl 2 l pA,.fn g caps] (.val (.bool (decide (∃e∈l,p e=true)))):=by
 have hi:=Tl hg he l
 refine zy.of pg ye Tryz.func228 rfl Tryz.ntmps228 Tryz.results228 rfl λh0 G0 O0=>?_
 repeat'(first|apply Sp.h|refine Lk.r rfl ?_|refine Rf.mk rfl ?_|refine xN ?_|(apply Cl.p (hi);focus repeat' constructor))
 refine Fin.p rfl (vb (zD.2 ?_))
 rw [<-tT]
 unfold wW
 split <;> omega
theorem Wn(m:y8)(R:List (Int×Int))(r:sU):y6 Tryz.prog 229 [.agg (pA r),.ad (tp m R) 0] (.val (.bool (!decide (rJ R.length r)))):=by
 have hr:=Uf m R r
 refine zy.of pg ye Tryz.func229 rfl Tryz.ntmps229 Tryz.results229 rfl λh0 G0 O0=>?_
 repeat'(first|apply Sp.h|refine Lk.r rfl ?_|refine Rf.mk rfl ?_|refine yc.mk λ_=>?_|refine xT ?_|refine Ch.l ⟨rfl,rfl⟩ ?_|refine xN ?_|(apply Cl.p (hr);focus repeat' constructor))
 exact Fin.p rfl (vb decide_not)
theorem kM.nn{m:y8}{u:Int×Int×Int}(h:kM m u):0<=u.2.1:=by
 obtain⟨ti,q,t,h1,-⟩:=h
 unfold uS at h1
 split at h1
 ·rename_i h;exact h.2
 ·cases h1
theorem W4(m:y8)(x:iA)(hu:VS x):yV Tryz.prog 189 [.agg (tp m (wA m)),.agg (il x)] (.val (.bool (decide (qb m x)))):=by
 have wQ:qb m x↔(∀i p,x.delta[i]?=some p->fw (wA m).length x.delta i p)/\(∀(i:Nat) (r:sU),x.hold[i]?=some r->rJ (wA m).length r)/\(∀i p,x.yk[i]?=some p->iu m x.yk i p)/\x.hold.length<=8/\x.yk.length<=32:=⟨λh=>⟨h.d,h.h,h.u,h.hl,h.ul⟩,λh=>⟨h.1,h.2.1,h.2.2.1,h.2.2.2.1,h.2.2.2.2⟩⟩
 obtain⟨rs,YM⟩:∃rs,rs=wA m:=⟨_,rfl⟩
 rw [<-YM] at wQ ⊢
 have Oa:=cM (Wn m rs) rfl x.hold
 have Zs:¬(∃e∈x.hold,(!decide (rJ rs.length e))=true)↔∀(i:Nat) (r:sU),x.hold[i]?=some r->rJ rs.length r:=by
  constructor
  ·intro h i r hr
   exact Classical.byContradiction λh9=>h ⟨r,zM hr,by rw [zF h9];rfl⟩
  ·rintro h ⟨r,hr,h9⟩
   obtain⟨i,hi⟩:=zO hr
   rw [zT (h i r hi)] at h9
   cases h9
 refine yJ.of pg ye Tryz.func189 rfl Tryz.ntmps189 Tryz.results189 rfl λh0 G0 O0 ga=>?_
 (repeat'(first|(show CA _ _ (Code.region 1 _ _) _ _;apply z_.out)|apply Sp.h|refine Lk.r rfl ?_|refine Rf.mk rfl ?_|apply yc.mk|intro _));any_goals apply z_.mk
 refine CA.xt 2 rfl z1 ?_
 refine CA.xt 3 rfl z1 ?_
 repeat'(first|apply Sp.h|refine Lk.r rfl ?_|refine Rf.mk rfl ?_|apply Im.mk|intro _)
 refine CA.loop (λy:Nat×Int=>⟨[(2,.ad (tp m rs) 0),(3,.ad (il x) 0),(5,it y.2),(11,yO x.delta),(12,it (x.delta.length:Nat)),(13,it y.1)],[]⟩) (λy=>y.1<=x.delta.length/\(∀j p,j < y.1->x.delta[j]?=some p->fw rs.length x.delta j p)/\ -1<=y.2/\(y.1=0->y.2= -1)/\∀q,0 < y.1->x.delta[y.1 - 1]?=some q->q.1=y.2) (λy=>x.delta.length - y.1) (0,-1) xE ⟨zZ _,λj p h=>(by simp only at h;omega),by simp,λ_=>rfl,λq h=>(by simp only at h;omega)⟩ ?_
 rintro⟨i,c⟩ ⟨hi,ha,nQ,tE,bI⟩
 simp only at hi ha nQ tE bI
 simp only
 by_cases yd:i < x.delta.length
 ·obtain⟨p,hp⟩:=zz yd
  have bt:=nF p.2 1000000000 z6
  have vE:fw rs.length x.delta i p↔c < p.1/\p.1 < rs.length/\p.2≠0/\ -1000000000<=p.2/\p.2<=1000000000:=by
   constructor
   ·rintro⟨g1,g2,g3,g4,g5⟩
    refine⟨?_,g2,g3,g4⟩
    rcases Nat.eq_zero_or_pos i with h0|h0
    ·have:=tE h0;omega
    ·obtain⟨q,hq⟩:=zz (l:=x.delta) (i:=i - 1) z6
     have:=bI q h0 hq
     have:=g5 q h0 hq
     omega
   ·rintro⟨g1,g2,g3,g4⟩
    exact⟨z6,g2,g3,g4,λq h0 hq=>by have:=bI q h0 hq;omega⟩
  by_cases hT:fw rs.length x.delta i p
  ·have Ra:=vE.1 hT
   obtain⟨g1,g2,g3,g4,g5⟩:=Ra
   repeat'(first|apply Sp.h|refine Lk.r rfl ?_|refine Rf.mk rfl ?_|refine xA ?_|refine xB ?_|refine Im.mk λ_=>?_|refine yc.mk λ_=>?_|refine xT ?_|refine xI ?_|refine Ch.l ⟨rfl,rfl⟩ ?_|(apply y4.r;focus repeat' constructor)|refine xN ?_|refine xO ?_|(apply Cl.p (bt);focus repeat' constructor))
   all_goals first
    | exact PA.lp (i+1,p.1) xE ⟨⟨yd,yg hp ha hT,by simp only;omega,λh=>(by simp only at h;omega),λq _ hq=>(by simp only [Nat.add_sub_cancel] at hq;rw [hp] at hq;cases hq;rfl)⟩,by simp only;omega⟩
    | (exfalso;omega)
  ·have yD:¬qb m x:=λh=>hT ((wQ.1 h).1 i p hp)
   have Ra:=λh=>hT (vE.2 h)
   repeat'(first|apply Sp.h|refine Lk.r rfl ?_|refine Rf.mk rfl ?_|refine xA ?_|refine xB ?_|(refine Bd.mk ?_ ?_ <;> intro _)|refine Im.mk λ_=>?_|refine yc.mk λ_=>?_|refine xT ?_|refine xI ?_|refine Ch.l ⟨rfl,rfl⟩ ?_|(apply y4.r;focus repeat' constructor)|refine xN ?_|refine xO ?_|(apply Cl.p (bt);focus repeat' constructor))
   all_goals first
    | exact Fin.p rfl (vb (zF yD).symm)
    | exact(Ra ⟨z6,z6,z6,z6,z6⟩).elim
 have vk:i=x.delta.length:=z6
 subst vk
 have Of:=xc ha
 clear ha nQ tE bI hi
 repeat'(first|apply Sp.h|refine Lk.r rfl ?_|refine Rf.mk rfl ?_|refine xB ?_|apply Im.mk|intro _)
 refine CA.loop (λy:Nat×Int=>⟨[(2,.ad (tp m rs) 0),(3,.ad (il x) 0),(5,it y.2),(44,.sl 3 x.yk tL),(45,it (x.yk.length:Nat)),(46,it y.1)],[]⟩) (λy=>y.1<=x.yk.length/\(∀j p,j < y.1->x.yk[j]?=some p->iu m x.yk j p)/\ -1<=y.2/\(y.1=0->y.2= -1)/\∀q,0 < y.1->x.yk[y.1 - 1]?=some q->q.2.1=y.2) (λy=>x.yk.length - y.1) (0,-1) xE ⟨zZ _,λj p h=>(by simp only at h;omega),by simp,λ_=>rfl,λq h=>(by simp only at h;omega)⟩ ?_
 rintro⟨i,c⟩ ⟨hi,ha,nQ,tE,bI⟩
 simp only at hi ha nQ tE bI
 simp only
 by_cases yd:i < x.yk.length
 ·obtain⟨u,hp⟩:=zz yd
  have mM:=XZ m rs u (hu u (zM hp))
  have vE:iu m x.yk i u↔c < u.2.1/\kM m u:=by
   constructor
   ·rintro⟨g1,g2⟩
    refine⟨?_,g1⟩
    rcases Nat.eq_zero_or_pos i with h0|h0
    ·have:=tE h0
     have:=kM.nn (m:=m) (u:=u) g1
     omega
    ·obtain⟨q,hq⟩:=zz (l:=x.yk) (i:=i - 1) z6
     have:=bI q h0 hq
     have:=g2 q h0 hq
     omega
   ·rintro⟨g1,g2⟩
    exact⟨g2,λq h0 hq=>by have:=bI q h0 hq;omega⟩
  have YQ:∀q,x.yk[i+1 - 1]?=some q->q.2.1=u.2.1:=λq hq=>by rw [Nat.add_sub_cancel,hp] at hq;cases hq;rfl
  have DZ:c < u.2.1-> -1<=u.2.1:=λh=>z6
  obtain⟨u0,u1,u2⟩:=u
  simp only at mM vE YQ DZ
  by_cases hT:iu m x.yk i (u0,u1,u2)
  ·obtain⟨g1,g2⟩:=vE.1 hT
   repeat'(first|apply Sp.h|refine Lk.r rfl ?_|refine Rf.mk rfl ?_|refine xA ?_|refine xB ?_|refine yc.mk λ_=>?_|refine xT ?_|refine xI ?_|refine Ch.l ⟨rfl,rfl⟩ ?_|(apply y4.r;focus repeat' constructor)|refine xN ?_|refine xO ?_|(apply Cl.pG (mM);{exact ga};focus(repeat' constructor);done))
   all_goals first
    | exact PA.lp (i+1,u1) xE ⟨⟨yd,yg hp ha hT,by simp only;omega,λh=>(by simp only at h;omega),λq _ hq=>YQ q hq⟩,by simp only;omega⟩
    | exact absurd g2 z8
    | (exfalso;omega)
  ·have yD:¬qb m x:=λh=>hT ((wQ.1 h).2.2.1 i _ hp)
   repeat'(first|apply Sp.h|refine Lk.r rfl ?_|refine Rf.mk rfl ?_|refine xA ?_|refine xB ?_|(refine Bd.mk ?_ ?_ <;> intro _)|refine yc.mk λ_=>?_|refine xT ?_|refine xI ?_|refine Ch.l ⟨rfl,rfl⟩ ?_|(apply y4.r;focus repeat' constructor)|refine xN ?_|refine xO ?_|(apply Cl.pG (mM);{exact ga};focus(repeat' constructor);done))
   all_goals first
    | exact Fin.p rfl (vb (zF yD).symm)
    | exact(hT (vE.2 ⟨z6,by assumption⟩)).elim
 have vk:i=x.yk.length:=z6
 subst vk
 have hud:=xc ha
 clear ha nQ tE bI hi
 by_cases hle:x.hold.length<=8/\x.yk.length<=32
 ·have vE:qb m x↔¬(∃e∈x.hold,(!decide (rJ rs.length e))=true):=⟨λh=>Zs.2 (wQ.1 h).2.1,λh=>wQ.2 ⟨Of,Zs.1 h,hud,hle⟩⟩
  obtain⟨WT,ku⟩:=hle
  repeat'(first|apply Sp.h|refine Lk.r rfl ?_|refine Rf.mk rfl ?_|refine xA ?_|refine xB ?_|refine Im.mk λ_=>?_|refine xN ?_|(apply Cl.p (Oa);focus repeat' constructor))
  all_goals first
   | exact Fin.p rfl (vb (zD.2 vE.symm))
   | (exfalso;omega)
 ·have yD:¬qb m x:=λh=>hle (wQ.1 h).2.2.2
  repeat'(first|apply Sp.h|refine Lk.r rfl ?_|refine Rf.mk rfl ?_|refine xA ?_|refine xB ?_|(refine Bd.mk ?_ ?_ <;> intro _)|refine Im.mk λ_=>?_|refine xN ?_|(apply Cl.p (Oa);(focus repeat'(first|fail))))
  all_goals first
   | exact Fin.p rfl (vb (zF yD).symm)
   | exact(hle ⟨z6,z6⟩).elim
   | exact Fin.p rfl (vb (by rw [zF yD];exact zF z6))
theorem aS(m:y8)(fh:lG m)(vL:xl m):yV Tryz.prog 130 [.agg (tp m (wA m))] (.val (.bool (decide (qv m)))):=by
 have qY:=fh.s
 have Fs:∀a∈m.yP,yV Tryz.prog 189 [.agg (tp m (wA m)),.agg (il a.xu)] (.val (.bool (decide (qb m a.xu)))):=λa ha=>W4 m a.xu (vL a ha)
 generalize wA m=rs at Fs ⊢
 refine yJ.of pg JY Tryz.func130 rfl Tryz.ntmps130 Tryz.results130 rfl λh0 G0 O0 ga=>?_
 (repeat'(first|(show CA _ _ (Code.region 1 _ _) _ _;apply z_.out)|apply Sp.h|refine Lk.r rfl ?_|refine Rf.mk rfl ?_|apply yc.mk|intro _));any_goals apply z_.mk
 refine CA.xt 1 rfl z1 ?_
 by_cases rZ:m.yP.length<=256
 rotate_left
 ·repeat'(first|apply Sp.h|refine Lk.r rfl ?_|refine Rf.mk rfl ?_|refine xA ?_|apply Im.mk|refine xN ?_|intro _)
  exact Fin.p rfl (vb (zF λh:qv m=>rZ h.l).symm)
 repeat'(first|apply Sp.h|refine Lk.r rfl ?_|refine Rf.mk rfl ?_|refine xB ?_|apply Im.mk|intro _)
 refine CA.loop (λi:Nat=>⟨[(1,.ad (tp m rs) 0),(16,.sl 5 m.yP iq),(17,it (m.yP.length:Nat)),(18,it i)],[]⟩) (λi=>i<=m.yP.length/\∀j a,j < i->m.yP[j]?=some a->fB m j a) (λi=>m.yP.length - i) 0 xE ⟨zZ _,λj a h=>z6⟩ ?_
 rintro i ⟨hi,MS⟩
 by_cases yd:i < m.yP.length
 ·obtain⟨a,ha⟩:=zz yd
  have yD:¬fB m i a->¬qv m:=λh h2=>h (h2.a i a ha)
  have bo:=rl a.op (m.ops.length:Nat)
  by_cases hb:0<=a.op/\a.op < m.ops.length
  rotate_left
  ·have yD:=yD λh=>hb (by obtain⟨j,h1,o,h2,-⟩:=h.o;have:=(zS.1 h2).1;omega)
   repeat'(first|apply Sp.h|refine Lk.r rfl ?_|refine Rf.mk rfl ?_|refine xA ?_|refine xB ?_|refine yu.r rfl ?_|refine Im.mk λ_=>?_|refine yc.mk λ_=>?_|refine xT ?_|refine xI ?_|refine Ch.l ⟨rfl,rfl⟩ ?_|(apply y4.r;focus repeat' constructor)|refine xN ?_|refine xD ?_|(apply Cl.p (bo);focus(repeat' constructor);done))
   all_goals first
    | exact Fin.p rfl (vb (zF yD).symm)
    | exact(hb ⟨z6,z6⟩).elim
    | exact absurd z8 hb
  obtain⟨j,hj⟩:=Int.eq_ofNat_of_zero_le hb.1
  obtain⟨o,ho⟩:=zz (l:=m.ops) (i:=j) z6
  have C3:m.ops[a.op.toNat]?=some o:=by rw [hj];exact ho
  have B1:=(qY j o ho).1
  have Bc:0<=a.op:=hb.1
  have hj1:a.op < m.ops.length:=hb.2
  have HA:fB m i a->a.args.length=o.y9.length/\∀(k:Nat) (x s:Int),a.args[k]?=some x->o.y9[k]?=some s->Xo m s x:=by
   intro h
   obtain⟨j',h1,o',h2,h3⟩:=h.o
   obtain rfl:j=j':=z6
   rw [ho] at h2;cases h2
   exact h3
  by_cases hlen:a.args.length=o.y9.length
  rotate_left
  ·have yD:=yD λh=>hlen (HA h).1
   repeat'(first|apply Sp.h|refine Lk.r rfl ?_|refine Rf.mk rfl ?_|refine xA ?_|refine xB ?_|refine yu.r rfl ?_|refine Im.mk λ_=>?_|refine yc.mk λ_=>?_|refine xT ?_|refine xI ?_|(apply Ix.r;{exact z8};{exact z6})|refine Ch.l ⟨rfl,rfl⟩ ?_|(apply y4.r;focus repeat' constructor)|refine xN ?_|refine xD ?_|(apply Cl.p (bo);focus(repeat' constructor);done))
   all_goals first
    | exact Fin.p rfl (vb (zF yD).symm)
    | (exfalso;omega)
  repeat'(first|apply Sp.h|refine Lk.r rfl ?_|refine Rf.mk rfl ?_|refine xA ?_|refine yu.r rfl ?_|refine Im.mk λ_=>?_|refine yc.mk λ_=>?_|refine xT ?_|refine xI ?_|(apply Ix.r;{exact z8};{exact z6})|refine Ch.l ⟨rfl,rfl⟩ ?_|(apply y4.r;focus repeat' constructor)|refine xN ?_|refine xD ?_|(apply Cl.p (bo);focus(repeat' constructor);done))
  all_goals try exact(by omega:False).elim
  all_goals try exact absurd hb z8
  rename_i b4 _ _ _ _
  refine CA.loop (λk:Nat=>⟨[(1,.ad (tp m rs) 0),(3,it i),(4,pm b4),(16,.sl 5 m.yP iq),(17,it (m.yP.length:Nat)),(18,it i),(53,ints o.y9),(54,it (o.y9.length:Nat)),(55,it k)],[yr b4 142 (iq a)]⟩) (λk=>k<=a.args.length/\∀q x,q < k->a.args[q]?=some x->∀s,o.y9[q]?=some s->Xo m s x) (λk=>a.args.length - k) 0 xE ⟨zZ _,λq x h=>z6⟩ ?_
  rintro k ⟨hk,bn⟩
  by_cases rz:k < a.args.length
  ·obtain⟨x,hx⟩:=zz rz
   obtain⟨s,hs⟩:=zz (l:=o.y9) (i:=k) z6
   obtain⟨nP,bf⟩:=B1 k s hs
   have YW:=nF x 9999 z6
   by_cases MK:s < 0
   ·by_cases MX: -9999<=x/\x<=9999
    ·have vu:=yg hx bn λs' h=>by rw [hs] at h;cases h;exact⟨λ_=>MX,λh=>z6⟩
     repeat'(first|apply Sp.h|refine Lk.r rfl ?_|refine Rf.mk rfl ?_|refine xA ?_|refine xB ?_|refine xT ?_|refine xI ?_|refine xO ?_|(apply Cl.p (YW);focus repeat' constructor))
     all_goals first
      | exact PA.lp (k+1) xE ⟨⟨rz,vu⟩,z6⟩
      | exact absurd MX z8
      | (exfalso;omega)
    ·have yD:=yD λh=>MX (((HA h).2 k x s hx hs).1 MK)
     repeat'(first|apply Sp.h|refine Lk.r rfl ?_|refine Rf.mk rfl ?_|refine xA ?_|refine xB ?_|refine xT ?_|refine xI ?_|refine xN ?_|(apply Cl.p (YW);focus repeat' constructor))
     all_goals first
      | exact Fin.p rfl (vb (zF yD).symm)
      | exact absurd z8 MX
      | (exfalso;omega)
   ·obtain⟨q,rfl⟩:=Int.eq_ofNat_of_zero_le (show 0<=s by omega)
    obtain⟨y,hy⟩:=zz (l:=m.y9) (i:=q) z6
    have Gj:=rl x y
    by_cases HB:0<=x/\x < y
    ·have vu:=yg hx bn λs' h=>by rw [hs] at h;cases h;exact⟨λh=>z6,λ_=>⟨HB.1,y,by rw [Int.toNat_natCast];exact hy,HB.2⟩⟩
     repeat'(first|apply Sp.h|refine Lk.r rfl ?_|refine Rf.mk rfl ?_|refine xA ?_|refine xB ?_|refine xT ?_|refine xI ?_|refine xO ?_|(apply Cl.p (YW);focus repeat' constructor)|(apply Cl.p (Gj);focus repeat' constructor))
     all_goals first
      | exact PA.lp (k+1) xE ⟨⟨rz,vu⟩,z6⟩
      | exact absurd HB z8
      | (exfalso;omega)
    ·have yD:=yD λh=>HB (by
      obtain⟨h1,y',h2,h3⟩:=((HA h).2 k x _ hx hs).2 z6
      rw [Int.toNat_natCast,hy] at h2
      cases h2
      exact⟨h1,h3⟩)
     repeat'(first|apply Sp.h|refine Lk.r rfl ?_|refine Rf.mk rfl ?_|refine xA ?_|refine xB ?_|refine xT ?_|refine xI ?_|refine xN ?_|(apply Cl.p (YW);focus repeat' constructor)|(apply Cl.p (Gj);focus repeat' constructor))
     all_goals first
      | exact Fin.p rfl (vb (zF yD).symm)
      | exact absurd z8 HB
      | (exfalso;omega)
  ·have mO:k=a.args.length:=z6
   subst mO
   have bn:=xc bn
   have Zw:=Fs a (zM ha)
   have kF:(∀b,0 < i->m.yP[i - 1]?=some b->b.op < a.op∨(b.op=a.op/\lexB b.args a.args=true))->qb m a.xu->fB m i a:=λh1 h2=>⟨⟨j,hj,o,ho,hlen,λk x s h3 h4=>bn k x h3 s h4⟩,h1,h2⟩
   rcases Nat.eq_zero_or_pos i with h0|h0
   ·subst h0
    by_cases hE:qb m a.xu
    ·have vu:=yg ha MS (kF (λb h=>z6) hE)
     repeat'(first|apply Sp.h|refine Lk.r rfl ?_|refine Rf.mk rfl ?_|refine xA ?_|refine xB ?_|refine xT ?_|refine Ch.l ⟨rfl,rfl⟩ ?_|refine Ch.r ?_|refine xO ?_|(apply Cl.pG (Zw);{exact ga};focus(repeat' constructor);done))
     all_goals first
      | exact PA.lp 1 xE ⟨⟨yd,vu⟩,z6⟩
      | exact absurd hE z8
      | (exfalso;omega)
    ·have yD:=yD λh=>hE h.e
     repeat'(first|apply Sp.h|refine Lk.r rfl ?_|refine Rf.mk rfl ?_|refine xB ?_|refine xT ?_|refine Ch.l ⟨rfl,rfl⟩ ?_|refine Ch.r ?_|refine xN ?_|(apply Cl.pG (Zw);{exact ga};focus(repeat' constructor);done))
     all_goals first
      | exact Fin.p rfl (vb (zF yD).symm)
      | exact absurd z8 hE
      | (exfalso;omega)
   ·obtain⟨q,rfl⟩:∃q,i=q+1:=⟨i - 1,z6⟩
    obtain⟨b,Hz⟩:=zz (l:=m.yP) (i:=q) z6
    have ey:=Pg b.args a.args
    have xC:=Yz b.args a.args
    by_cases hL:b.op < a.op∨(b.op=a.op/\cmpL b.args a.args < 0)
    ·by_cases hE:qb m a.xu
     ·have vu:=yg ha MS (kF (λb' _ h=>by rw [show q+1 - 1=q by omega,Hz] at h;cases h;exact hL.imp id λh=>⟨h.1,xC.1 h.2⟩) hE)
      repeat'(first|apply Sp.h|refine Lk.r rfl ?_|refine Rf.mk rfl ?_|refine xA ?_|refine xB ?_|(refine Bd.mk ?_ ?_ <;> intro _)|refine yc.mk λ_=>?_|refine xT ?_|(apply Ix.r;{exact z8};{exact z6})|refine Ch.l ⟨rfl,rfl⟩ ?_|refine Ch.r ?_|(apply y4.r;focus repeat' constructor)|refine xN ?_|refine xO ?_|(apply Cl.pG (Zw);{exact ga};focus(repeat' constructor);done)|(apply Cl.p (ey);focus(repeat' constructor);done))
      all_goals first
       | exact PA.lp (q+1+1) xE ⟨⟨yd,vu⟩,z6⟩
       | exact absurd hE z8
       | (exfalso;omega)
     ·have yD:=yD λh=>hE h.e
      repeat'(first|apply Sp.h|refine Lk.r rfl ?_|refine Rf.mk rfl ?_|refine xA ?_|refine xB ?_|(refine Bd.mk ?_ ?_ <;> intro _)|refine yc.mk λ_=>?_|refine xT ?_|(apply Ix.r;{exact z8};{exact z6})|refine Ch.l ⟨rfl,rfl⟩ ?_|refine Ch.r ?_|(apply y4.r;focus repeat' constructor)|refine xN ?_|refine xO ?_|(apply Cl.pG (Zw);{exact ga};focus(repeat' constructor);done)|(apply Cl.p (ey);focus(repeat' constructor);done))
      all_goals first
       | exact Fin.p rfl (vb (zF yD).symm)
       | exact absurd z8 hE
       | (exfalso;omega)
    ·have yD:=yD λh=>hL ((h.b b h0 (by rw [show q+1 - 1=q by omega];exact Hz)).imp id λh=>⟨h.1,xC.2 h.2⟩)
     repeat'(first|apply Sp.h|refine Lk.r rfl ?_|refine Rf.mk rfl ?_|refine xA ?_|refine xB ?_|(refine Bd.mk ?_ ?_ <;> intro _)|refine yc.mk λ_=>?_|refine xT ?_|(apply Ix.r;{exact z8};{exact z6})|refine Ch.l ⟨rfl,rfl⟩ ?_|(apply y4.r;focus repeat' constructor)|refine xN ?_|refine xO ?_|(apply Cl.pG (Zw);{exact ga};focus(repeat' constructor);done)|(apply Cl.p (ey);focus(repeat' constructor);done))
     all_goals first
      | exact Fin.p rfl (vb (zF yD).symm)
      | exact(hL (.inl z6)).elim
      | exact(hL (.inr ⟨z6,z6⟩)).elim
      | (exfalso;omega)
 ·have:i=m.yP.length:=z6
  subst this
  repeat'(first|apply Sp.h|refine Lk.r rfl ?_|refine Rf.mk rfl ?_|refine xB ?_|refine xN ?_|fail)
  exact Fin.p rfl (vb (zT (show qv m from⟨fh,rZ,xc MS⟩)).symm)
def vG(hs:List (Int×Int×Int)):Nat->Int->Int->Prop
 | 0,a,b=>a=b
 | n+1,a,b=>a=b∨∃(i:Nat) (h:Int×Int×Int),hs[i]?=some h/\h.1=a/\vG hs n h.2.2 b
noncomputable instance (hs:List (Int×Int×Int)) (n:Nat) (a b:Int):Decidable (vG hs n a b):=zC _
theorem QQ(m:y8)(n:Nat)(hn:n<=1000) :∀a b:Int,y6 Tryz.prog 124 [wH m,it a,it b,it n] (.val (.bool (decide (vG m.yp n a b)))):=by
 induction n with
 | zero =>
  intro a b
  refine zy.of pg Ud Tryz.func124 rfl Tryz.ntmps124 Tryz.results124 rfl λh0 G0 O0=>?_
  repeat'(first|apply Sp.h|refine Lk.r rfl ?_|refine Rf.mk rfl ?_|apply Bd.mk|apply yc.mk|refine xN ?_|intro _)
  ·rename_i h
   exact Fin.p rfl (vb (zT (show vG m.yp 0 a b from h)).symm)
  rename_i b4 vB
  refine CA.loop (λi:Nat=>⟨[(1,it a),(2,it b),(3,it (0:Nat)),(4,.val (.pointer (some ⟨b4,0,none⟩))),(9,it i)],[yr b4 30 (s_ m)]⟩) (λi=>i<=m.yp.length) (λi=>m.yp.length - i) 0 xE (zZ _) ?_
  intro i hi
  have yD:¬vG m.yp 0 a b:=vB
  by_cases yd:i < m.yp.length
  ·repeat'(first|apply Sp.h|refine Lk.r rfl ?_|refine Rf.mk rfl ?_|refine xA ?_|refine xB ?_|apply Im.mk|refine xT ?_|refine xN ?_|intro _)
   exact Fin.p rfl (vb (zF yD).symm)
  ·repeat'(first|apply Sp.h|refine Lk.r rfl ?_|refine Rf.mk rfl ?_|refine xB ?_|apply Im.mk|refine xT ?_|refine xN ?_|intro _)
   exact Fin.p rfl (vb (zF yD).symm)
 | succ n ih =>
  intro a b
  have ih:=ih z6
  refine zy.of pg Ud Tryz.func124 rfl Tryz.ntmps124 Tryz.results124 rfl λh0 G0 O0=>?_
  repeat'(first|apply Sp.h|refine Lk.r rfl ?_|refine Rf.mk rfl ?_|apply Bd.mk|apply yc.mk|refine xN ?_|intro _)
  ·rename_i h
   exact Fin.p rfl (vb (zT (show vG m.yp (n+1) a b from .inl h)).symm)
  rename_i b4 vB
  refine CA.loop (λi:Nat=>⟨[(1,it a),(2,it b),(3,it (n+1:Nat)),(4,.val (.pointer (some ⟨b4,0,none⟩))),(9,it i)],[yr b4 30 (s_ m)]⟩) (λi=>i<=m.yp.length/\∀j h,j < i->m.yp[j]?=some h->¬(h.1=a/\vG m.yp n h.2.2 b)) (λi=>m.yp.length - i) 0 xE ⟨zZ _,λj h hj=>z6⟩ ?_
  rintro i ⟨hi,yD⟩
  by_cases yd:i < m.yp.length
  ·obtain⟨⟨h1,h2,h3⟩,hh⟩:=zz yd
   have CJ:=ih h3 b
   rw [show(n:Int)=((n+1:Nat):Int) - 1 by omega] at CJ
   by_cases hL:h1=a/\vG m.yp n h3 b
   ·obtain⟨MV,iJ⟩:=hL
    have kF:vG m.yp (n+1) a b:= .inr ⟨i,_,hh,MV,iJ⟩
    repeat'(first|apply Sp.h|refine Lk.r rfl ?_|refine Rf.mk rfl ?_|refine xA ?_|refine yu.r rfl ?_|refine Im.mk λ_=>?_|refine xT ?_|refine xI ?_|refine Ch.l ⟨rfl,rfl⟩ ?_|refine xN ?_|refine xD ?_|refine xO ?_|(apply Cl.p (CJ);focus repeat' constructor))
    all_goals first
     | exact Fin.p rfl (vb (zT kF).symm)
     | exact(by omega:False).elim
   ·have vu:=yg hh yD hL
    repeat'(first|apply Sp.h|refine Lk.r rfl ?_|refine Rf.mk rfl ?_|refine xA ?_|refine xB ?_|(refine Bd.mk ?_ ?_ <;> intro _)|refine yu.r rfl ?_|refine Im.mk λ_=>?_|refine xT ?_|refine xI ?_|refine Ch.l ⟨rfl,rfl⟩ ?_|refine xN ?_|refine xD ?_|refine xO ?_|(apply Cl.p (CJ);focus repeat' constructor))
    all_goals first
     | exact PA.lp (i+1) xE ⟨⟨yd,vu⟩,z6⟩
     | exact(hL ⟨z6,by assumption⟩).elim
  ·have:i=m.yp.length:=z6
   subst this
   have hn:¬vG m.yp (n+1) a b:=by
    rintro(h|⟨j,h,h1,h2,h3⟩)
    ·exact vB h
    ·exact yD j h (zS.1 h1).1 h1 ⟨h2,h3⟩
   repeat'(first|apply Sp.h|refine Lk.r rfl ?_|refine Rf.mk rfl ?_|refine xB ?_|apply Im.mk|refine xT ?_|refine xN ?_|intro _)
   exact Fin.p rfl (vb (zF hn).symm)
def ae(m:y8)(h:Int×Int×Int):Prop:=∃(j1 j2 j3:Nat) (t u:ym) (x:Int),h.1=(j1:Int)/\m.tables[j1]?=some t/\h.2.2=(j2:Int)/\m.tables[j2]?=some u/\j1≠j2/\t.kind=0/\u.kind=0/\h.2.1=(j3:Int)/\t.ya[j3]?=some x/\u.ya= [x]
structure pH (m:y8):Prop where
 l:m.yp.length<=12
 i:∀(i:Nat) (h:Int×Int×Int),m.yp[i]?=some h->ae m h
 a:∀(i:Nat) (h:Int×Int×Int),m.yp[i]?=some h->¬vG m.yp m.tables.length h.2.2 h.1
noncomputable instance (m:y8):Decidable (pH m):=zC _
theorem cm{l:List Int}{y:Int}(h:l.length=1)(hy:l[0]?=some y):l= [y]:=by
 match l,h with
 | [z],_=>cases hy;rfl
theorem Tr(m:y8)(hm:xS m.y9 m.tables):y6 Tryz.prog 55 [wH m] (.val (.bool (decide (pH m)))):=by
 have ly:=hm.2.2.1
 refine zy.of pg EF Tryz.func55 rfl Tryz.ntmps55 Tryz.results55 rfl λh0 G0 O0=>?_
 by_cases hl:m.yp.length<=12
 rotate_left
 ·repeat'(first|apply Sp.h|refine Lk.r rfl ?_|refine Rf.mk rfl ?_|refine xA ?_|apply Im.mk|apply yc.mk|refine xT ?_|refine xN ?_|intro _)
  exact Fin.p rfl (vb (zF λh:pH m=>hl h.l).symm)
 repeat'(first|apply Sp.h|refine Lk.r rfl ?_|refine Rf.mk rfl ?_|refine xB ?_|apply Im.mk|apply yc.mk|refine xT ?_|intro _)
 rename_i b1 _
 refine CA.loop (λi:Nat=>⟨[(1,.val (.pointer (some ⟨b1,0,none⟩))),(3,it i)],[yr b1 30 (s_ m)]⟩) (λi=>i<=m.yp.length/\∀j h,j < i->m.yp[j]?=some h->ae m h) (λi=>m.yp.length - i) 0 xE ⟨zZ _,λj h hj=>z6⟩ ?_
 rintro i ⟨hi,bp⟩
 by_cases yd:i < m.yp.length
 ·obtain⟨⟨ht,pD,Sz⟩,hh⟩:=zz yd
  have yD:¬ae m (ht,pD,Sz)->¬pH m:=λh h2=>h (h2.i i _ hh)
  by_cases hb:0<=ht/\ht < m.tables.length/\0<=Sz/\Sz < m.tables.length
  ·obtain⟨j1,rfl⟩:=Int.eq_ofNat_of_zero_le hb.1
   obtain⟨j2,rfl⟩:=Int.eq_ofNat_of_zero_le hb.2.2.1
   obtain⟨-,q_,-,rC⟩:=hb
   obtain⟨t,MI⟩:=zz (l:=m.tables) (i:=j1) z6
   obtain⟨u,MH⟩:=zz (l:=m.tables) (i:=j2) z6
   by_cases hc:0<=pD/\pD < t.ya.length/\u.ya.length=1
   ·obtain⟨j3,rfl⟩:=Int.eq_ofNat_of_zero_le hc.1
    obtain⟨-,nQ,tE⟩:=hc
    obtain⟨x,hx⟩:=zz (l:=t.ya) (i:=j3) z6
    obtain⟨y,hy⟩:=zz (l:=u.ya) (i:=0) z6
    have HY:=cm tE hy
    by_cases hI:ae m ((j1:Int),(j3:Int),(j2:Int))
    ·have vu:=yg hh bp hI
     obtain⟨k1,k2,k3,t',u',x',e1,e2,e3,e4,e5,e6,e7,e8,e9,mP⟩:=hI
     simp only at e1 e3 e8
     obtain rfl:j1=k1:=z6
     obtain rfl:j2=k2:=z6
     obtain rfl:j3=k3:=z6
     rw [MI] at e2;cases e2
     rw [MH] at e4;cases e4
     rw [hx] at e9;cases e9
     rw [HY] at mP;injection mP with mP
     repeat'(first|apply Sp.h|refine Lk.r rfl ?_|refine Rf.mk rfl ?_|refine xA ?_|refine xB ?_|refine yu.r rfl ?_|refine xP ?_|apply Im.mk|apply yc.mk|refine xT ?_|refine xI ?_|refine Ch.l ⟨rfl,rfl⟩ ?_|(apply y4.r;focus repeat' constructor)|refine xN ?_|refine xD ?_|exact trivial|(apply CA.sB;{exact zu};{exact z7};{exact z7};{exact zo};{exact zu};intro X1 tr)|(apply mS.lt;(focus first|assumption|omega|(apply tr;repeat constructor)))|apply vn.both|refine xO ?_|intro _)
     all_goals first
      | exact PA.lp (i+1) xE ⟨⟨yd,vu⟩,z6⟩
      | exact(by omega:False).elim
    ·have yD:=yD hI
     repeat'(first|apply Sp.h|refine Lk.r rfl ?_|refine Rf.mk rfl ?_|refine xA ?_|refine xB ?_|apply Bd.mk|refine yu.r rfl ?_|refine xP ?_|apply Im.mk|apply yc.mk|refine xT ?_|refine xI ?_|refine Ch.l ⟨rfl,rfl⟩ ?_|(apply y4.r;focus repeat' constructor)|refine xN ?_|refine xD ?_|exact trivial|(apply CA.sB;{exact zu};{exact z7};{exact z7};{exact zo};{exact zu};intro X1 tr)|(apply mS.lt;(focus first|assumption|omega|(apply tr;repeat constructor)))|apply vn.both|refine xO ?_|intro _)
     all_goals first
      | exact Fin.p rfl (vb (zF yD).symm)
      | exact(hI ⟨j1,j2,j3,t,u,x,rfl,MI,rfl,MH,z6,z6,z6,rfl,hx,by rw [HY,show y=x by omega]⟩).elim
   ·have yD:=yD λ⟨k1,k2,k3,t',u',x',e1,e2,e3,e4,e5,e6,e7,e8,e9,mP⟩=>by
     simp only at e1 e3 e8
     obtain rfl:j1=k1:=z6
     obtain rfl:j2=k2:=z6
     rw [MI] at e2;cases e2
     rw [MH] at e4;cases e4
     have:=(zS.1 e9).1
     exact hc ⟨z6,z6,by rw [mP];rfl⟩
    repeat'(first|apply Sp.h|refine Lk.r rfl ?_|refine Rf.mk rfl ?_|refine xA ?_|refine xB ?_|apply Bd.mk|refine yu.r rfl ?_|refine xP ?_|apply Im.mk|apply yc.mk|refine xT ?_|refine xI ?_|refine Ch.l ⟨rfl,rfl⟩ ?_|(apply y4.r;focus repeat' constructor)|refine xN ?_|refine xD ?_|exact trivial|(apply CA.sB;{exact zu};{exact z7};{exact z7};{exact zo};{exact zu};intro X1 tr)|(apply mS.lt;(focus first|assumption|omega|(apply tr;repeat constructor)))|apply vn.both|intro _)
    all_goals first
     | exact Fin.p rfl (vb (zF yD).symm)
     | exact(hc ⟨z6,z6,z6⟩).elim
  ·have yD:=yD λ⟨k1,k2,k3,t',u',x',e1,e2,e3,e4,_⟩=>by
    simp only at e1 e3
    have:=(zS.1 e2).1
    have:=(zS.1 e4).1
    exact hb ⟨z6,z6,z6,z6⟩
   repeat'(first|apply Sp.h|refine Lk.r rfl ?_|refine Rf.mk rfl ?_|refine xA ?_|refine xB ?_|apply Bd.mk|apply Im.mk|apply yc.mk|refine xT ?_|refine xI ?_|refine Ch.l ⟨rfl,rfl⟩ ?_|(apply y4.r;focus repeat' constructor)|refine xN ?_|intro _)
   all_goals first
    | exact Fin.p rfl (vb (zF yD).symm)
    | exact(hb ⟨z6,z6,z6,z6⟩).elim
 ·have:i=m.yp.length:=z6
  subst this
  have bp:=xc bp
  repeat'(first|apply Sp.h|refine Lk.r rfl ?_|refine Rf.mk rfl ?_|refine xB ?_|apply Im.mk|refine xT ?_|intro _)
  refine CA.loop (λi:Nat=>⟨[(1,.val (.pointer (some ⟨b1,0,none⟩))),(7,it i)],[yr b1 30 (s_ m)]⟩) (λi=>i<=m.yp.length/\∀j h,j < i->m.yp[j]?=some h->¬vG m.yp m.tables.length h.2.2 h.1) (λi=>m.yp.length - i) 0 xE ⟨zZ _,λj h hj=>z6⟩ ?_
  rintro i ⟨hi,C9⟩
  by_cases yd:i < m.yp.length
  ·obtain⟨⟨h1,h2,h3⟩,hh⟩:=zz yd
   have hle:=QQ m m.tables.length z6 h3 h1
   by_cases hL:vG m.yp m.tables.length h3 h1
   ·repeat'(first|apply Sp.h|refine Lk.r rfl ?_|refine Rf.mk rfl ?_|refine xA ?_|refine yu.r rfl ?_|refine Im.mk λ_=>?_|refine xT ?_|refine xI ?_|refine Ch.l ⟨rfl,rfl⟩ ?_|refine xN ?_|refine xD ?_|(apply Cl.p (hle);focus repeat' constructor))
    exact Fin.p rfl (vb (zF λh:pH m=>h.a i _ hh hL).symm)
   ·repeat'(first|apply Sp.h|refine Lk.r rfl ?_|refine Rf.mk rfl ?_|refine xA ?_|refine xB ?_|refine yu.r rfl ?_|refine Im.mk λ_=>?_|refine xT ?_|refine xI ?_|refine Ch.l ⟨rfl,rfl⟩ ?_|refine xD ?_|refine xO ?_|(apply Cl.p (hle);focus repeat' constructor))
    exact PA.lp (i+1) xE ⟨⟨yd,yg hh C9 hL⟩,z6⟩
  ·have:i=m.yp.length:=z6
   subst this
   repeat'(first|apply Sp.h|refine Lk.r rfl ?_|refine Rf.mk rfl ?_|refine xB ?_|apply Im.mk|refine xT ?_|refine xN ?_|intro _)
   exact Fin.p rfl (vb (zT (show pH m from⟨hl,bp,xc C9⟩)).symm)
structure xR (m:y8):Prop where
 lay:vh m.y9 m.tables
 fl:m.xm.length<=24
 fd:o6 m.xm
 con:qu m
 act:qv m
 V9:pH m
noncomputable instance (m:y8):Decidable (xR m):=zC _
theorem tW(m:y8)(wU:m.ops.length<=1000000000)(vL:xl m):y6 Tryz.prog 11 [wH m] (.val (.bool (decide (xR m)))):=by
 have h9:=nt m.y9 m.tables
 have Zu:=jD m.xm
 have eN:=WH m wU vL
 refine zy.of pg ye Tryz.func11 rfl Tryz.ntmps11 Tryz.results11 rfl λh0 G0 O0=>?_
 by_cases hx:vh m.y9 m.tables/\m.xm.length<=24/\o6 m.xm
 rotate_left
 ·have yD:¬xR m:=λh=>hx ⟨h.lay,h.fl,h.fd⟩
  repeat'(first|apply Sp.h|refine Lk.r rfl ?_|refine Rf.mk rfl ?_|refine xA ?_|refine xB ?_|(refine Bd.mk ?_ ?_ <;> intro _)|refine Im.mk λ_=>?_|refine yc.mk λ_=>?_|refine xT ?_|refine Ch.l ⟨rfl,rfl⟩ ?_|refine xN ?_|(apply Cl.p (h9);focus repeat' constructor)|(apply Cl.p (Zu);focus repeat' constructor))
  all_goals first
   | exact Fin.p rfl (vb (zF yD).symm)
   | exact(hx ⟨by assumption,z6,by assumption⟩).elim
 obtain⟨x1,x2,x3⟩:=hx
 have uK:=iG m x1.ok
 have fi:=Tr m x1.ok
 by_cases hc:qu m
 ·by_cases ha:qv m
  ·repeat'(first|apply Sp.h|refine Lk.r rfl ?_|refine Rf.mk rfl ?_|refine xA ?_|refine xB ?_|refine Im.mk λ_=>?_|refine yc.mk λ_=>?_|refine xT ?_|refine Ch.l ⟨rfl,rfl⟩ ?_|refine xN ?_|(apply Cl.p (h9);focus(repeat' constructor);done)|(apply Cl.p (Zu);focus(repeat' constructor);done)|(apply Cl.p (uK);focus(repeat' constructor);done)|(apply Cl.p (eN);focus(repeat' constructor);done)|(apply Cl.p (fi);focus(repeat' constructor);done))
   refine Fin.p rfl (vb ?_)
   exact zD.2 ⟨λh=>⟨x1,x2,x3,hc,ha,h⟩,λh=>h.V9⟩
  ·repeat'(first|apply Sp.h|refine Lk.r rfl ?_|refine Rf.mk rfl ?_|refine xA ?_|refine xB ?_|refine Im.mk λ_=>?_|refine yc.mk λ_=>?_|refine xT ?_|refine Ch.l ⟨rfl,rfl⟩ ?_|refine xN ?_|(apply Cl.p (h9);focus(repeat' constructor);done)|(apply Cl.p (Zu);focus(repeat' constructor);done)|(apply Cl.p (uK);focus(repeat' constructor);done)|(apply Cl.p (eN);focus(repeat' constructor);done)|(apply Cl.p (fi);focus(repeat' constructor);done))
   exact Fin.p rfl (vb (zF λh:xR m=>ha h.act).symm)
 ·repeat'(first|apply Sp.h|refine Lk.r rfl ?_|refine Rf.mk rfl ?_|refine xA ?_|refine xB ?_|refine Im.mk λ_=>?_|refine yc.mk λ_=>?_|refine xT ?_|refine Ch.l ⟨rfl,rfl⟩ ?_|refine xN ?_|(apply Cl.p (h9);focus(repeat' constructor);done)|(apply Cl.p (Zu);focus(repeat' constructor);done)|(apply Cl.p (uK);focus(repeat' constructor);done)|(apply Cl.p (eN);focus(repeat' constructor);done)|(apply Cl.p (fi);focus(repeat' constructor);done))
  exact Fin.p rfl (vb (zF λh:xR m=>hc h.con).symm)
theorem XY(m:y8)(wU:m.ops.length<=1000000000)(vL:xl m)(fi:xS m.y9 m.tables->y6 Tryz.prog 131 [.agg (tp m (wA m))] (.val (.bool (decide (pH m))))):yV Tryz.prog 56 [wH m] (.val (.bool (decide (xR m)))):=by
 have h9:=nD m.y9 m.tables
 have Zu:=lf m.xm
 have nT:=mJ m.y9 m.tables true
 change yV _ _ _ (.sl 2 (wA m) vT) at nT
 have fh:=iF m (wA m) wU
 have Fx:lG m->yV Tryz.prog 130 [.agg (tp m (wA m))] (.val (.bool (decide (qv m)))):=λh=>aS m h vL
 have Ft:=λh=>jJ m h
 generalize wA m=rs at nT fh Fx Ft fi
 refine yJ.of pg EE Tryz.func56 rfl Tryz.ntmps56 Tryz.results56 rfl λh0 G0 O0 ga=>?_
 by_cases hx:vh m.y9 m.tables/\m.xm.length<=24/\o6 m.xm
 rotate_left
 ·have yD:¬xR m:=λh=>hx ⟨h.lay,h.fl,h.fd⟩
  repeat'(first|apply Sp.h|refine Lk.r rfl ?_|refine Rf.mk rfl ?_|refine xA ?_|refine xB ?_|(refine Bd.mk ?_ ?_ <;> intro _)|refine yu.r rfl ?_|refine xP ?_|refine Im.mk λ_=>?_|refine yc.mk λ_=>?_|refine xU ?_|refine xT ?_|refine xI ?_|(apply Ix.r;{exact z8};{exact z6})|refine xJ ?_|refine Ce.l rfl ?_|refine Ce.r ?_|refine Ch.l ⟨rfl,rfl⟩ ?_|refine Ch.r ?_|refine xV ?_|(apply y4.r;focus repeat' constructor)|(apply Fk.r;focus repeat' first|infer_instance|constructor)|refine xN ?_|refine Rf.mk ⟨rfl,rfl⟩ ?_|refine Rf.mk ⟨rfl,rfl,rfl⟩ ?_|(apply Jx.r;{exact zj};{exact zb})|refine Up.r rfl ?_|(apply Up.inv;{exact z1};{exact zh})|refine xK ?_|(apply Kf.mk;{exact z7})|refine xM ?_|refine eo.r rfl ?_|(apply Zx.agg;{exact zu};{exact zu};{exact z1})|(apply Zx.b;{exact zu})|(apply Zx.i;{exact zu})|apply Zx.one|(apply sf.s;{exact zi})|(apply sf.n;{exact zi})|(apply Rf.mk;{exact z8})|refine yC.r xL 0 rfl ?_|refine Mp.same ?_|(apply Mp.lit;(focus repeat(first|exact yK.nil|(apply yK.cons;{exact zu})|(apply yK.inv;{exact z1};{exact zh}))))|refine xD ?_|exact trivial|(apply Lk.r;{exact z8})|(apply Sx.r;{exact zj};{exact zc})|(apply CA.sB;{exact zu};{exact z7};{exact z7};{exact zo};{exact zu};intro X1 tr)|(apply mS.nr;{exact zu})|(apply mS.lt;(focus first|assumption|omega|(apply tr;repeat constructor)))|(apply ZB.nr;{exact zu})|apply vn.both|refine xO ?_|(apply nX.part;{exact zm})|(apply nX.all;{exact zm})|(apply ep.r;{exact z1})|(apply kB.short;{exact zu};{exact zg};{exact zg})|(apply kB.g_;{exact zu};{exact zg};{exact zg})|(apply ZA.mk';{exact z1};{exact z1};{exact zf})|(apply r_.i64;{exact zu};{exact z6})|(apply r_.u64;{exact zu};{exact z6})|(apply r_.u8;{exact zu};{exact z6})|refine Rf.mk ⟨rfl,by decide⟩ ?_|(apply Rf.mk;{exact⟨by decide,rfl⟩})|(apply Sx.r;{exact z8};{exact zc})|(apply Ix.q;{exact z8};{exact z8})|(apply Vd.r;{exact z1})|(apply Rc.r;{exact z1})|(apply Rg.mk)|(apply Ix.q;{exact z8};{exact z8})|(apply bz.r;{exact z1})|(apply Ix.q;{exact z8};{exact z8})|(apply Cl.pG (h9);{exact ga};(focus((repeat'(first|exact y3.nil|apply y3.yB|apply y3.vC|(apply y3.mp;{exact zu})|(apply y3.yY;{exact z1};{exact zc})|(apply y3.yX;{exact z1};{exact zu};{exact za})|(apply y3.cell;{exact z1})|refine y3.fn ?_ ?_|apply y3.agg));done)))|(apply Cl.pG (Zu);{exact ga};(focus((repeat'(first|exact y3.nil|apply y3.yB|apply y3.vC|(apply y3.mp;{exact zu})|(apply y3.yY;{exact z1};{exact zc})|(apply y3.yX;{exact z1};{exact zu};{exact za})|(apply y3.cell;{exact z1})|refine y3.fn ?_ ?_|apply y3.agg));done))))
  all_goals first
   | exact Fin.p rfl (vb (zF yD).symm)
   | exact(hx ⟨by assumption,z6,by assumption⟩).elim
 obtain⟨x1,x2,x3⟩:=hx
 have uK:=Ft x1.ok
 have fi:=fi x1.ok
 by_cases ho:lG m
 rotate_left
 ·have yD:¬xR m:=λh=>ho h.act.o
  repeat'(first|apply Sp.h|refine Lk.r rfl ?_|refine Rf.mk rfl ?_|refine xA ?_|refine xB ?_|(refine Bd.mk ?_ ?_ <;> intro _)|refine yu.r rfl ?_|refine xP ?_|refine Im.mk λ_=>?_|refine yc.mk λ_=>?_|refine xU ?_|refine xT ?_|refine xI ?_|(apply Ix.r;{exact z8};{exact z6})|refine xJ ?_|refine Ce.l rfl ?_|refine Ce.r ?_|refine Ch.l ⟨rfl,rfl⟩ ?_|refine Ch.r ?_|refine xV ?_|(apply y4.r;focus repeat' constructor)|(apply Fk.r;focus repeat' first|infer_instance|constructor)|refine xN ?_|refine Rf.mk ⟨rfl,rfl⟩ ?_|refine Rf.mk ⟨rfl,rfl,rfl⟩ ?_|(apply Jx.r;{exact zj};{exact zb})|refine Up.r rfl ?_|(apply Up.inv;{exact z1};{exact zh})|refine xK ?_|(apply Kf.mk;{exact z7})|refine xM ?_|refine eo.r rfl ?_|(apply Zx.agg;{exact zu};{exact zu};{exact z1})|(apply Zx.b;{exact zu})|(apply Zx.i;{exact zu})|apply Zx.one|(apply sf.s;{exact zi})|(apply sf.n;{exact zi})|(apply Rf.mk;{exact z8})|refine yC.r xL 0 rfl ?_|refine Mp.same ?_|(apply Mp.lit;(focus repeat(first|exact yK.nil|(apply yK.cons;{exact zu})|(apply yK.inv;{exact z1};{exact zh}))))|refine xD ?_|exact trivial|(apply Lk.r;{exact z8})|(apply Sx.r;{exact zj};{exact zc})|(apply CA.sB;{exact zu};{exact z7};{exact z7};{exact zo};{exact zu};intro X1 tr)|(apply mS.nr;{exact zu})|(apply mS.lt;(focus first|assumption|omega|(apply tr;repeat constructor)))|(apply ZB.nr;{exact zu})|apply vn.both|refine xO ?_|(apply nX.part;{exact zm})|(apply nX.all;{exact zm})|(apply ep.r;{exact z1})|(apply kB.short;{exact zu};{exact zg};{exact zg})|(apply kB.g_;{exact zu};{exact zg};{exact zg})|(apply ZA.mk';{exact z1};{exact z1};{exact zf})|(apply r_.i64;{exact zu};{exact z6})|(apply r_.u64;{exact zu};{exact z6})|(apply r_.u8;{exact zu};{exact z6})|refine Rf.mk ⟨rfl,by decide⟩ ?_|(apply Rf.mk;{exact⟨by decide,rfl⟩})|(apply Sx.r;{exact z8};{exact zc})|(apply Ix.q;{exact z8};{exact z8})|(apply Vd.r;{exact z1})|(apply Rc.r;{exact z1})|(apply Rg.mk)|(apply Ix.q;{exact z8};{exact z8})|(apply bz.r;{exact z1})|(apply Ix.q;{exact z8};{exact z8})|(apply Cl.pG (h9);{exact ga};(focus((repeat'(first|exact y3.nil|apply y3.yB|apply y3.vC|(apply y3.mp;{exact zu})|(apply y3.yY;{exact z1};{exact zc})|(apply y3.yX;{exact z1};{exact zu};{exact za})|(apply y3.cell;{exact z1})|refine y3.fn ?_ ?_|apply y3.agg));done)))|(apply Cl.pG (Zu);{exact ga};(focus((repeat'(first|exact y3.nil|apply y3.yB|apply y3.vC|(apply y3.mp;{exact zu})|(apply y3.yY;{exact z1};{exact zc})|(apply y3.yX;{exact z1};{exact zu};{exact za})|(apply y3.cell;{exact z1})|refine y3.fn ?_ ?_|apply y3.agg));done)))|(apply Cl.pG (nT);{exact ga};(focus((repeat'(first|exact y3.nil|apply y3.yB|apply y3.vC|(apply y3.mp;{exact zu})|(apply y3.yY;{exact z1};{exact zc})|(apply y3.yX;{exact z1};{exact zu};{exact za})|(apply y3.cell;{exact z1})|refine y3.fn ?_ ?_|apply y3.agg));done)))|(apply Cl.p (uK);(focus((repeat'(first|exact y3.nil|apply y3.yB|apply y3.vC|(apply y3.mp;{exact zu})|(apply y3.yY;{exact z1};{exact zc})|(apply y3.yX;{exact z1};{exact zu};{exact za})|(apply y3.cell;{exact z1})|refine y3.fn ?_ ?_|apply y3.agg));done)))|(apply Cl.pG (fh);{exact ga};(focus((repeat'(first|exact y3.nil|apply y3.yB|apply y3.vC|(apply y3.mp;{exact zu})|(apply y3.yY;{exact z1};{exact zc})|(apply y3.yX;{exact z1};{exact zu};{exact za})|(apply y3.cell;{exact z1})|refine y3.fn ?_ ?_|apply y3.agg));done))))
  all_goals first
   | exact Fin.p rfl (vb (zF yD).symm)
   | exact absurd z8 ho
   | exact Fin.p rfl (vb (by rw [zF yD];exact zF ho))
 have eN:=Fx ho
 by_cases hv:qu m/\qv m
 ·have vE:xR m↔pH m:=⟨λh=>h.V9,λh=>⟨x1,x2,x3,hv.1,hv.2,h⟩⟩
  obtain⟨Hf,YJ⟩:=hv
  repeat'(first|apply Sp.h|refine Lk.r rfl ?_|refine Rf.mk rfl ?_|refine xA ?_|refine xB ?_|(refine Bd.mk ?_ ?_ <;> intro _)|refine yu.r rfl ?_|refine xP ?_|refine Im.mk λ_=>?_|refine yc.mk λ_=>?_|refine xU ?_|refine xT ?_|refine xI ?_|(apply Ix.r;{exact z8};{exact z6})|refine xJ ?_|refine Ce.l rfl ?_|refine Ce.r ?_|refine Ch.l ⟨rfl,rfl⟩ ?_|refine Ch.r ?_|refine xV ?_|(apply y4.r;focus repeat' constructor)|(apply Fk.r;focus repeat' first|infer_instance|constructor)|refine xN ?_|refine Rf.mk ⟨rfl,rfl⟩ ?_|refine Rf.mk ⟨rfl,rfl,rfl⟩ ?_|(apply Jx.r;{exact zj};{exact zb})|refine Up.r rfl ?_|(apply Up.inv;{exact z1};{exact zh})|refine xK ?_|(apply Kf.mk;{exact z7})|refine xM ?_|refine eo.r rfl ?_|(apply Zx.agg;{exact zu};{exact zu};{exact z1})|(apply Zx.b;{exact zu})|(apply Zx.i;{exact zu})|apply Zx.one|(apply sf.s;{exact zi})|(apply sf.n;{exact zi})|(apply Rf.mk;{exact z8})|refine yC.r xL 0 rfl ?_|refine Mp.same ?_|(apply Mp.lit;(focus repeat(first|exact yK.nil|(apply yK.cons;{exact zu})|(apply yK.inv;{exact z1};{exact zh}))))|refine xD ?_|exact trivial|(apply Lk.r;{exact z8})|(apply Sx.r;{exact zj};{exact zc})|(apply CA.sB;{exact zu};{exact z7};{exact z7};{exact zo};{exact zu};intro X1 tr)|(apply mS.nr;{exact zu})|(apply mS.lt;(focus first|assumption|omega|(apply tr;repeat constructor)))|(apply ZB.nr;{exact zu})|apply vn.both|refine xO ?_|(apply nX.part;{exact zm})|(apply nX.all;{exact zm})|(apply ep.r;{exact z1})|(apply kB.short;{exact zu};{exact zg};{exact zg})|(apply kB.g_;{exact zu};{exact zg};{exact zg})|(apply ZA.mk';{exact z1};{exact z1};{exact zf})|(apply r_.i64;{exact zu};{exact z6})|(apply r_.u64;{exact zu};{exact z6})|(apply r_.u8;{exact zu};{exact z6})|refine Rf.mk ⟨rfl,by decide⟩ ?_|(apply Rf.mk;{exact⟨by decide,rfl⟩})|(apply Sx.r;{exact z8};{exact zc})|(apply Ix.q;{exact z8};{exact z8})|(apply Vd.r;{exact z1})|(apply Rc.r;{exact z1})|(apply Rg.mk)|(apply Ix.q;{exact z8};{exact z8})|(apply bz.r;{exact z1})|(apply Ix.q;{exact z8};{exact z8})|(apply Cl.pG (h9);{exact ga};(focus((repeat'(first|exact y3.nil|apply y3.yB|apply y3.vC|(apply y3.mp;{exact zu})|(apply y3.yY;{exact z1};{exact zc})|(apply y3.yX;{exact z1};{exact zu};{exact za})|(apply y3.cell;{exact z1})|refine y3.fn ?_ ?_|apply y3.agg));done)))|(apply Cl.pG (Zu);{exact ga};(focus((repeat'(first|exact y3.nil|apply y3.yB|apply y3.vC|(apply y3.mp;{exact zu})|(apply y3.yY;{exact z1};{exact zc})|(apply y3.yX;{exact z1};{exact zu};{exact za})|(apply y3.cell;{exact z1})|refine y3.fn ?_ ?_|apply y3.agg));done)))|(apply Cl.pG (nT);{exact ga};(focus((repeat'(first|exact y3.nil|apply y3.yB|apply y3.vC|(apply y3.mp;{exact zu})|(apply y3.yY;{exact z1};{exact zc})|(apply y3.yX;{exact z1};{exact zu};{exact za})|(apply y3.cell;{exact z1})|refine y3.fn ?_ ?_|apply y3.agg));done)))|(apply Cl.p (uK);(focus((repeat'(first|exact y3.nil|apply y3.yB|apply y3.vC|(apply y3.mp;{exact zu})|(apply y3.yY;{exact z1};{exact zc})|(apply y3.yX;{exact z1};{exact zu};{exact za})|(apply y3.cell;{exact z1})|refine y3.fn ?_ ?_|apply y3.agg));done)))|(apply Cl.pG (fh);{exact ga};(focus((repeat'(first|exact y3.nil|apply y3.yB|apply y3.vC|(apply y3.mp;{exact zu})|(apply y3.yY;{exact z1};{exact zc})|(apply y3.yX;{exact z1};{exact zu};{exact za})|(apply y3.cell;{exact z1})|refine y3.fn ?_ ?_|apply y3.agg));done)))|(apply Cl.pG (eN);{exact ga};(focus((repeat'(first|exact y3.nil|apply y3.yB|apply y3.vC|(apply y3.mp;{exact zu})|(apply y3.yY;{exact z1};{exact zc})|(apply y3.yX;{exact z1};{exact zu};{exact za})|(apply y3.cell;{exact z1})|refine y3.fn ?_ ?_|apply y3.agg));done)))|(apply Cl.p (fi);(focus((repeat'(first|exact y3.nil|apply y3.yB|apply y3.vC|(apply y3.mp;{exact zu})|(apply y3.yY;{exact z1};{exact zc})|(apply y3.yX;{exact z1};{exact zu};{exact za})|(apply y3.cell;{exact z1})|refine y3.fn ?_ ?_|apply y3.agg));done))))
  all_goals first
   | exact Fin.p rfl (vb (zD.2 vE.symm))
   | exact absurd Hf z8
   | exact absurd YJ z8
   | exact absurd ho z8
 ·have yD:¬xR m:=λh=>hv ⟨h.con,h.act⟩
  repeat'(first|apply Sp.h|refine Lk.r rfl ?_|refine Rf.mk rfl ?_|refine xA ?_|refine xB ?_|(refine Bd.mk ?_ ?_ <;> intro _)|refine yu.r rfl ?_|refine xP ?_|refine Im.mk λ_=>?_|refine yc.mk λ_=>?_|refine xU ?_|refine xT ?_|refine xI ?_|(apply Ix.r;{exact z8};{exact z6})|refine xJ ?_|refine Ce.l rfl ?_|refine Ce.r ?_|refine Ch.l ⟨rfl,rfl⟩ ?_|refine Ch.r ?_|refine xV ?_|(apply y4.r;focus repeat' constructor)|(apply Fk.r;focus repeat' first|infer_instance|constructor)|refine xN ?_|refine Rf.mk ⟨rfl,rfl⟩ ?_|refine Rf.mk ⟨rfl,rfl,rfl⟩ ?_|(apply Jx.r;{exact zj};{exact zb})|refine Up.r rfl ?_|(apply Up.inv;{exact z1};{exact zh})|refine xK ?_|(apply Kf.mk;{exact z7})|refine xM ?_|refine eo.r rfl ?_|(apply Zx.agg;{exact zu};{exact zu};{exact z1})|(apply Zx.b;{exact zu})|(apply Zx.i;{exact zu})|apply Zx.one|(apply sf.s;{exact zi})|(apply sf.n;{exact zi})|(apply Rf.mk;{exact z8})|refine yC.r xL 0 rfl ?_|refine Mp.same ?_|(apply Mp.lit;(focus repeat(first|exact yK.nil|(apply yK.cons;{exact zu})|(apply yK.inv;{exact z1};{exact zh}))))|refine xD ?_|exact trivial|(apply Lk.r;{exact z8})|(apply Sx.r;{exact zj};{exact zc})|(apply CA.sB;{exact zu};{exact z7};{exact z7};{exact zo};{exact zu};intro X1 tr)|(apply mS.nr;{exact zu})|(apply mS.lt;(focus first|assumption|omega|(apply tr;repeat constructor)))|(apply ZB.nr;{exact zu})|apply vn.both|refine xO ?_|(apply nX.part;{exact zm})|(apply nX.all;{exact zm})|(apply ep.r;{exact z1})|(apply kB.short;{exact zu};{exact zg};{exact zg})|(apply kB.g_;{exact zu};{exact zg};{exact zg})|(apply ZA.mk';{exact z1};{exact z1};{exact zf})|(apply r_.i64;{exact zu};{exact z6})|(apply r_.u64;{exact zu};{exact z6})|(apply r_.u8;{exact zu};{exact z6})|refine Rf.mk ⟨rfl,by decide⟩ ?_|(apply Rf.mk;{exact⟨by decide,rfl⟩})|(apply Sx.r;{exact z8};{exact zc})|(apply Ix.q;{exact z8};{exact z8})|(apply Vd.r;{exact z1})|(apply Rc.r;{exact z1})|(apply Rg.mk)|(apply Ix.q;{exact z8};{exact z8})|(apply bz.r;{exact z1})|(apply Ix.q;{exact z8};{exact z8})|(apply Cl.pG (h9);{exact ga};(focus((repeat'(first|exact y3.nil|apply y3.yB|apply y3.vC|(apply y3.mp;{exact zu})|(apply y3.yY;{exact z1};{exact zc})|(apply y3.yX;{exact z1};{exact zu};{exact za})|(apply y3.cell;{exact z1})|refine y3.fn ?_ ?_|apply y3.agg));done)))|(apply Cl.pG (Zu);{exact ga};(focus((repeat'(first|exact y3.nil|apply y3.yB|apply y3.vC|(apply y3.mp;{exact zu})|(apply y3.yY;{exact z1};{exact zc})|(apply y3.yX;{exact z1};{exact zu};{exact za})|(apply y3.cell;{exact z1})|refine y3.fn ?_ ?_|apply y3.agg));done)))|(apply Cl.pG (nT);{exact ga};(focus((repeat'(first|exact y3.nil|apply y3.yB|apply y3.vC|(apply y3.mp;{exact zu})|(apply y3.yY;{exact z1};{exact zc})|(apply y3.yX;{exact z1};{exact zu};{exact za})|(apply y3.cell;{exact z1})|refine y3.fn ?_ ?_|apply y3.agg));done)))|(apply Cl.p (uK);(focus((repeat'(first|exact y3.nil|apply y3.yB|apply y3.vC|(apply y3.mp;{exact zu})|(apply y3.yY;{exact z1};{exact zc})|(apply y3.yX;{exact z1};{exact zu};{exact za})|(apply y3.cell;{exact z1})|refine y3.fn ?_ ?_|apply y3.agg));done)))|(apply Cl.pG (fh);{exact ga};(focus((repeat'(first|exact y3.nil|apply y3.yB|apply y3.vC|(apply y3.mp;{exact zu})|(apply y3.yY;{exact z1};{exact zc})|(apply y3.yX;{exact z1};{exact zu};{exact za})|(apply y3.cell;{exact z1})|refine y3.fn ?_ ?_|apply y3.agg));done)))|(apply Cl.pG (eN);{exact ga};(focus((repeat'(first|exact y3.nil|apply y3.yB|apply y3.vC|(apply y3.mp;{exact zu})|(apply y3.yY;{exact z1};{exact zc})|(apply y3.yX;{exact z1};{exact zu};{exact za})|(apply y3.cell;{exact z1})|refine y3.fn ?_ ?_|apply y3.agg));done)))|(apply Cl.p (fi);(focus((repeat'(first|exact y3.nil|apply y3.yB|apply y3.vC|(apply y3.mp;{exact zu})|(apply y3.yY;{exact z1};{exact zc})|(apply y3.yX;{exact z1};{exact zu};{exact za})|(apply y3.cell;{exact z1})|refine y3.fn ?_ ?_|apply y3.agg));done))))
  all_goals first
   | exact Fin.p rfl (vb (zF yD).symm)
   | exact absurd ho z8
   | exact(hv ⟨by assumption,by assumption⟩).elim
abbrev qI (l:List (Int×Int×Int)):AV:= .sl 3 l tL
theorem Tp{g:FuncId}{caps:List AV}{p:Int×Int×Int->Bool}(hg:∀e,y6 Tryz.prog g (.agg (tL e) :: caps) (.val (.bool (p e))))(he:en g=true)(l:List (Int×Int×Int)) :
  y6 Tryz.prog 230 [qI l,.fn g caps] (it (wW p l)):=by
 refine zy.of pg ye Tryz.func230 rfl Tryz.ntmps230 Tryz.results230 rfl λh0 G0 O0=>?_
 repeat'(first|apply Sp.h|refine Lk.r rfl ?_|refine Rf.mk rfl ?_|apply Im.mk|intro _)
 refine CA.loop (λi:Nat=>⟨[(0,qI l),(1,.fn g caps),(7,it (l.length:Nat)),(8,it i)],[]⟩)
  (λi=>i<=l.length/\∀j y,j < i->l[j]?=some y->p y=false) (λi=>l.length - i) 0 xE ⟨zZ _,λj y h=>z6⟩ ?_
 rintro i ⟨hi,hj⟩
 by_cases yd:i < l.length
 ·obtain⟨⟨u0,u1,u2⟩,hx⟩:=zz yd
  have WV:=hg (u0,u1,u2)
  repeat'(first|apply Sp.h|refine Lk.r rfl ?_|refine Rf.mk rfl ?_|refine xA ?_|(refine Bd.mk ?_ ?_ <;> intro _)|refine xI ?_|refine Ch.l ⟨rfl,rfl⟩ ?_|refine xN ?_|(apply Rf.mk;{exact z8})|refine xO ?_|(apply Cl.p (WV);(focus repeat'(first|apply y3.yB|fail))))
  ·exact pa _
  ·rename_i hp
   exact Fin.p rfl (by rw [wW,uA hx hp hj,if_pos yd])
  ·rename_i hp
   exact PA.lp (i+1) xE ⟨⟨yd,yg hx hj (by simpa using hp)⟩,z6⟩
 ·repeat'(first|apply Sp.h|refine Lk.r rfl ?_|refine Rf.mk rfl ?_|refine xB ?_|refine xN ?_|fail)
  exact Fin.p rfl (by rw [wW,wL (λx hx=>by obtain⟨j,hx⟩:=zO hx;exact hj j x (by have:=(zS.1 hx).1;omega) hx),if_neg z6])
theorem cR{g:FuncId}{caps:List AV}{p:Int×Int×Int->Bool}(hg:∀e,y6 Tryz.prog g (.agg (tL e) :: caps) (.val (.bool (p e))))(he:en g=true)(l:List (Int×Int×Int)) :
  y6 Tryz.prog 190 [qI l,.fn g caps] (.val (.bool (decide (∃e∈l,p e=true)))):=by
 have hi:=Tp hg he l
 refine zy.of pg ye Tryz.func190 rfl Tryz.ntmps190 Tryz.results190 rfl λh0 G0 O0=>?_
 repeat'(first|apply Sp.h|refine Lk.r rfl ?_|refine Rf.mk rfl ?_|refine xN ?_|(apply Cl.p (hi);focus repeat' constructor))
 refine Fin.p rfl (vb (zD.2 ?_))
 rw [<-tT]
 unfold wW
 split <;> omega
def LF(hs:List (Int×Int×Int))(S:Int->Prop):Prop:=∀k,S k->∃h∈hs,h.1=k/\S h.2.2
theorem jz{hs:List (Int×Int×Int)} :∀{n:Nat} {a b:Int},vG hs n a b->vG hs (n+1) a b
 | 0,_,_,h=> .inl h
 | _+1,_,_,.inl h=> .inl h
 | _+1,_,_,.inr ⟨i,h,h1,h2,h3⟩=> .inr ⟨i,h,h1,h2,jz h3⟩
theorem Pb{hs:List (Int×Int×Int)}{n:Nat}{h:Int×Int×Int}(hm:h∈hs)(hl:vG hs n h.2.2 h.1) :∃S:Int->Prop,S h.1/\LF hs S:=by
 refine⟨λk=>(∃n,vG hs n k h.1),⟨0,rfl⟩, ?_⟩
 rintro k ⟨q,hq⟩
 cases q with
 | zero =>
  have hk:k=h.1:=hq
  exact⟨h,hm,hk.symm,n,hl⟩
 | succ q =>
  rcases hq with hq|⟨i,g,g1,g2,g3⟩
  ·exact⟨h,hm,hq.symm,n,hl⟩
  ·exact⟨g,zM g1,g2,q,g3⟩
def SP(hs:List (Int×Int×Int))(S:List Int)(k:Int):Prop:=∃h∈hs,h.1=k/\h.2.2∈S
noncomputable instance (hs:List (Int×Int×Int)) (S:List Int) (k:Int):Decidable (SP hs S k):=zC _
structure qF (hs:List (Int×Int×Int)) (S0 cur rem:List Int):Prop where
 sub:∀k∈cur,k∈S0
 rm:∀k∈rem,k∈cur
 nd:cur.Nodup
 rn:rem.Nodup
 yB:∀T:Int->Prop,LF hs T->(∀k,T k->k∈S0)->∀k,T k->k∈cur
 seen:∀k∈cur,k∈rem∨SP hs S0 k
theorem qF.start{hs:List (Int×Int×Int)}{S:List Int}(h:S.Nodup):qF hs S S S:=⟨λ_ h=>h,λ_ h=>h,h,h,λ_ _ h=>h,λ_ h=> .inl h⟩
theorem qF.stay{hs:List (Int×Int×Int)}{S0 cur rem pB:List Int}{k:Int}(x:qF hs S0 cur rem)(hp:(k :: pB).Perm rem)(px:SP hs cur k):qF hs S0 cur pB:=by
 have hn:=List.nodup_cons.1 (hp.nodup_iff.2 x.rn)
 refine⟨x.sub,λq hq=>x.rm q (hp.mem_iff.1 (List.mem_cons_of_mem _ hq)),x.nd,hn.2,x.yB,λq hq=>?_⟩
 rcases x.seen q hq with h|h
 ·rcases List.mem_cons.1 (hp.mem_iff.2 h) with rfl|h
  ·obtain⟨h,h1,h2,h3⟩:=px
   exact .inr ⟨h,h1,h2,x.sub _ h3⟩
  ·exact .inl h
 ·exact .inr h
theorem qF.z0p{hs:List (Int×Int×Int)}{S0 cur rem pB:List Int}{k:Int}(x:qF hs S0 cur rem)(hp:(k :: pB).Perm rem)(px:¬SP hs cur k):qF hs S0 (cur.filter (λq=>decide (q≠k))) pB:=by
 have hn:=List.nodup_cons.1 (hp.nodup_iff.2 x.rn)
 refine⟨λq hq=>x.sub q (List.mem_filter.1 hq).1,λq hq=>?_,x.nd.filter _,hn.2,λT hT hS q hq=>?_,λq hq=>?_⟩
 ·refine List.mem_filter.2 ⟨x.rm q (hp.mem_iff.1 (List.mem_cons_of_mem _ hq)),zT λe=>hn.1 (e▸hq)⟩
 ·refine List.mem_filter.2 ⟨x.yB T hT hS q hq,zT λe=>?_⟩
  subst e
  obtain⟨h,h1,h2,h3⟩:=hT q hq
  exact px ⟨h,h1,h2,x.yB T hT hS _ h3⟩
 ·obtain⟨h1,h2⟩:=List.mem_filter.1 hq
  have h2:=of_decide_eq_true h2
  rcases x.seen q h1 with h|h
  ·rcases List.mem_cons.1 (hp.mem_iff.2 h) with e|h
   ·exact absurd e h2
   ·exact .inl h
  ·exact .inr h
structure fv (hs:List (Int×Int×Int)) (S:List Int) (i:Nat):Prop where
 nd:S.Nodup
 fst:∀k∈S,∃h∈hs,h.1=k
 yB:∀T:Int->Prop,LF hs T->∀k,T k->k∈S
 Ol:(∀k∈S,SP hs S k)∨S.length+i<=hs.length
theorem fv.step{hs:List (Int×Int×Int)}{S cur:List Int}{i:Nat}(x:fv hs S i)(p:qF hs S cur []):fv hs cur (i+1):=by
 refine⟨p.nd,λk hk=>x.fst k (p.sub k hk),λT hT k hk=>p.yB T hT (x.yB T hT) k hk, ?_⟩
 by_cases hc:∀k∈S,SP hs S k
 ·left
  intro k hk
  obtain⟨h,h1,h2,h3⟩:=hc k (p.sub k hk)
  exact⟨h,h1,h2,p.yB (·∈S) (λq hq=>hc q hq) (λ_ h=>h) _ h3⟩
 ·right
  obtain⟨k,hk⟩:=Classical.not_forall.1 hc
  obtain⟨hk,hn⟩:=Classical.not_imp.1 hk
  have Gi:k ∉ cur:=λh=>by
   rcases p.seen k h with h|h
   ·cases h
   ·exact hn h
  have h1:=x.Ol.resolve_left hc
  have h2:=List.Nodup.length_le_of_subset (List.nodup_cons.2 ⟨Gi,p.nd⟩) (l₂:=S) λq hq=>by
   rcases List.mem_cons.1 hq with rfl|hq
   ·exact hk
   ·exact p.sub q hq
  simp only [List.length_cons] at h2
  omega
theorem fv.sup{hs:List (Int×Int×Int)}{S:List Int}(x:fv hs S hs.length) :∀k∈S,SP hs S k:=by
 rcases x.Ol with h|h
 ·exact h
 ·have:S= []:=zQ z6
  subst this
  exact λk hk=>by cases hk
theorem dS{hs:List (Int×Int×Int)}{n q:Nat}(hq:n<=q){a b:Int}(h:vG hs n a b):vG hs q a b:=by
 obtain⟨d,rfl⟩:=Nat.exists_eq_add_of_le hq
 induction d with
 | zero=>exact h
 | succ d ih=>exact jz (ih z6)
theorem Q2{hs:List (Int×Int×Int)}{n:Nat}{S:List Int}(hr:∀h∈hs,0<=h.1/\h.1 < n)(As:∀k∈S,SP hs S k)(vB:S≠ []) :∃h∈hs,vG hs n h.2.2 h.1:=by
 obtain⟨k0,kx⟩:=List.exists_mem_of_ne_nil S vB
 have uN:∀x: { k // k∈S },∃y: { k // k∈S },∃h∈hs,h.1=x.1/\h.2.2=y.1:=λx=>by
  obtain⟨h,h1,h2,h3⟩:=As x.1 x.2
  exact⟨⟨_,h3⟩,h,h1,h2,rfl⟩
 let nx: { k // k∈S }->{ k // k∈S }:=λx=>Classical.choose (uN x)
 have YQ:∀x,∃h∈hs,h.1=x.1/\h.2.2=(nx x).1:=λx=>Classical.choose_spec (uN x)
 let a:Nat->{ k // k∈S }:=λi=>Nat.rec ⟨k0,kx⟩ (λ_ x=>nx x) i
 have ha:∀i,∃h∈hs,h.1=(a i).1/\h.2.2=(a (i+1)).1:=λi=>YQ (a i)
 have Ay:∀i,0<=(a i).1/\(a i).1 < n:=λi=>by
  obtain⟨h,h1,h2,_⟩:=ha i
  have:=hr h h1
  rw [h2] at this;exact this
 have VM:∀d i,vG hs d (a i).1 (a (i+d)).1:=by
  intro d
  induction d with
  | zero=>intro i;rfl
  | succ d ih =>
   intro i
   obtain⟨h,h1,h2,h3⟩:=ha i
   obtain⟨j,hj⟩:=zO h1
   refine .inr ⟨j,h,hj,h2, ?_⟩
   rw [h3,show i+(d+1)=i+1+d by omega]
   exact ih (i+1)
 have Lm:∃i j,i < j/\j<=n/\(a i).1=(a j).1:=by
  refine Classical.byContradiction λyD=>?_
  have Zp:((List.range (n+1)).map λi=>(a i).1).Nodup:=by
   refine List.pairwise_iff_getElem.2 λi j hi hj u5 he=>?_
   simp only [List.length_map,List.length_range] at hi hj
   simp only [List.getElem_map,List.getElem_range] at he
   exact yD ⟨i,j,u5,z6,he⟩
  have:=List.Nodup.length_le_of_subset Zp (l₂:=(List.range n).map Int.ofNat) λq hq=>by
   obtain⟨i,_,rfl⟩:=List.mem_map.1 hq
   have:=Ay i
   exact List.mem_map.2 ⟨(a i).1.toNat,List.mem_range.2 z6,Int.toNat_of_nonneg z6⟩
  simp only [List.length_map,List.length_range] at this
  omega
 obtain⟨i,j,u5,hj,he⟩:=Lm
 obtain⟨h,h1,h2,h3⟩:=ha i
 refine⟨h,h1, ?_⟩
 rw [h2,h3,he]
 have:=VM (j - (i+1)) (i+1)
 rw [show i+1+(j - (i+1))=j by omega] at this
 exact dS z6 this
theorem fv.fin{hs:List (Int×Int×Int)}{n:Nat}{S:List Int}(hr:∀h∈hs,0<=h.1/\h.1 < n)(x:fv hs S hs.length):S= []↔∀h∈hs,¬vG hs n h.2.2 h.1:=by
 constructor
 ·rintro rfl h hm hl
  obtain⟨T,h1,h2⟩:=Pb hm hl
  have:=x.yB T h2 _ h1
  cases this
 ·intro h
  refine Classical.byContradiction λvB=>?_
  obtain⟨g,g1,g2⟩:=Q2 hr x.sup vB
  exact h g g1 g2
end Go.Proofs.YtmjllbjfkafhdaaGreatDoor
namespace Go.CF
open Go
def AV.rm(P:Program){β:Type}(kt:TypeId)(kvs:List (List Int×β))(f:β->AV):AV :=
  ⟨λh G v=>∃b es cl,v= .map (some b)/\G b/\b < h.size/\h[b]?=some (.map es cl)/\uy P kt es.toList (kvs.map (·.1))/\∀(i:Nat) (e:MapEntry) (p:List Int×β),es.toList[i]?=some e->kvs[i]?=some p->(f p.2).R h G e.val,
   by rintro h h' G v x ⟨b,es,cl,h1,h2,h3,h4,h5,h6⟩;exact⟨b,es,cl,h1,h2,Nat.lt_of_lt_of_le h3 x.size,(x.same b h2 h3).trans h4,h5,λi e p g1 g2=>(f p.2).wm x (h6 i e p g1 g2)⟩,
   by rintro h G G' v x ⟨b,es,cl,h1,h2,h3,h4,h5,h6⟩;exact⟨b,es,cl,h1,x b h2,h3,h4,h5,λi e p g1 g2=>(f p.2).mono x (h6 i e p g1 g2)⟩⟩
section
variable {Γ:Cx} {k:List KI} {e:EA} {o:List yh} {N:NA} {c:xa} {d:Tmp} {ty:TypeId} {x y z:Operand} {t u:TypeId}
theorem Ig{key:AV}{ok:Bool}{p:Nat×Nat×TI}(hp:jU Γ.tt t=some p){β:Type}{kvs:List (List Int×β)}{f:β->AV}{xs:List Int}(bG:ig Γ.P p.1 xs.length=true)(h2:(∃x,xs= [x]/\key= .val (.int .i64 x))∨∃cs,key= .agg cs/\z1u cs xs/\2<=xs.length)(ha:xr e x=some (.rm Γ.P p.1 kvs f))(hb:xr e y=some key)(hc:wT c=true)
  (hx:∀v,yG kvs xs=some v->N ((d,if ok then .yE [f v,.val (.bool true)] else f v) :: e) o) (hy:yG kvs xs=none->Zx p.2.2.zero λz=>N ((d,if ok then .yE [z,.val (.bool false)] else z) :: e) o):SA Γ c (some d) (.lookup t x y ok) ty e o N:=⟨λenv hh G Os cn=>by
 obtain⟨m,g1,b,es,cl,rfl,b1,b2,qg,pT,ko⟩:=cn.get ha
 obtain⟨kv,g2,r2⟩:=cn.get hb
 obtain⟨hf,hl,jR⟩:=kb bG h2 r2
 have hlen:es.toList.length=kvs.length:=by have:=pT.len;simpa using this
 rcases ng es.toList kvs xs 0 hlen with⟨q1,q2,_⟩|⟨j,en,v,q1,q2,q3,q4,_⟩
 ·refine St.qG hc (λhc Zq=>St.l_ Γ.ok hc hp hf hl jR g1 g2 qg pT ok _ false (.inl ⟨q1,rfl,rfl⟩) Zq ?_) (λ_=>cn.nf.o_ b1)
  obtain⟨z,SX,V1⟩:=(hy q2).ok
  cases ok with
  | true=>exact CN.mk (cn.put d (a:= .yE [z,.val (.bool false)]) ⟨[_,_],rfl,V1 _ _,rfl,trivial⟩) SX
  | false=>exact CN.mk (cn.put d (a:=z) (V1 _ _)) SX
 ·have hr:=ko j en _ q2 q3
  refine St.qG hc (λhc Zq=>St.l_ Γ.ok hc hp hf hl jR g1 g2 qg pT ok _ true (.inr ⟨_,q1,rfl⟩) Zq ?_) (λ_=>cn.nf.o_ b1)
  cases ok with
  | true=>exact CN.mk (cn.put d (a:= .yE [f v,.val (.bool true)]) ⟨[_,_],rfl,hr,rfl,trivial⟩) (hx v q4)
  | false=>exact CN.mk (cn.put d (a:=f v) hr) (hx v q4)⟩
instance {P:Program} {β:Type} {kt:TypeId} {kvs:List (List Int×β)} {f:β->AV} {key:AV}:Sp (HL Γ c d t x y false ty e o N (.rm P kt kvs f) key) (Rf (P=Γ.P) (Lk (jU Γ.tt t) λp=>Ky key λxs=>Rf (kt=p.1) (Kf (ig Γ.P kt xs.length=true) (sf (yG kvs xs) (λv=>N ((d,f v) :: e) o) (Zx p.2.2.zero λz=>N ((d,z) :: e) o))))):=⟨λ⟨hP,p,hp,xs,⟨R5,bG,hn⟩,h2⟩=>⟨λha hb hc=>by
 subst hP;subst R5
 exact Ig (ok:=false) hp bG h2 ha hb hc hn.x hn.y⟩⟩
end
structure VW (o:List yh) (yM tK:List AV):Prop where
 r:∀{h:y7} {G:Nat->Prop} {Os:List (Nat->Prop)} {vs:List Value},xy h G o Os->xb h G vs yM->xb h (λb=>G b∨U Os b) vs tK
theorem Cl.VH{Γ:Cx}{o:List yh}{c:xa}{f:FuncId}{yM tK:List AV}{r:AV}{M:AV->List yh->Prop}[hf:Flat r](hc:y6 Γ.P f tK r)(hl:VW o yM tK)(hm:M r o):Cl Γ c f yM o M:=by
 refine⟨λ{h G Os vs} hp hr=>?_⟩
 have yd:yF h (λb=>G b∨U Os b) (U []) [] h (λb=>G b∨U Os b) [] :=
  ⟨trivial,λb hb=>⟨hb.elim (λh9=>(hp.g b h9).1) (λ⟨O,hO,h9⟩=>(hp.o O hO b h9).1),.inl hb⟩,λ_ h=>h,λO hO=>(by cases hO),List.Pairwise.nil,uo.refl h⟩
 refine(zy.run hc h _ [] vs (hl.r hp.own hr) yd).mono λv h' ⟨r',wE,G',yz,⟨g1,g2⟩,g3,g4⟩=>?_
 subst g1;subst g2
 have yL:tc ([]:List Nat) h h':=⟨g4.fp.size,λb hb _=>g4.fp.same b (λ⟨O,hO,_⟩=>by cases hO) hb⟩
 have hx:∀S,uo S h h':=λS=>⟨yL.size,λb _ hb=>yL.same b hb zd⟩
 have hs:=hp.fp.size
 have px:=yL.size
 refine⟨.inr yL,r',o,G,Os,hm,hf.h _ _ _ _ _ g3,⟨xy.wm (λO _=>hx _) hp.own,λb hb=>⟨by have:=(hp.g b hb).1;omega,(hp.g b hb).2.imp id λq=>⟨q.1,q.2.eq (yL.same b (hp.g b hb).1 zd)⟩⟩,hp.g0,λO hO b hb=>⟨by have:=(hp.o O hO b hb).1;omega,(hp.o O hO b hb).2⟩,hp.d,⟨z6,λb hb hl=>?_⟩⟩,hx G,λ_ h=>h⟩
 rw [yL.same b z6 zd]
 exact hp.fp.same b hb hl
section
variable {Γ:Cx} {k:List KI} {e:EA} {o:List yh} {N:NA} {c:xa} {d:Tmp} {ty:TypeId} {x y z:Operand} {t u:TypeId}
def sQ(P:Program){β:Type}(b r:Nat)(kt:TypeId)(kvs rem:List (List Int×β))(f:β->AV)(cur:Option (List Int×β)):yh :=
  ⟨λh O G=>(∀x,O x↔x=b∨x=r)/\r≠b/\∃es clock seen c0,h[b]?=some (.map es clock)/\uy P kt es.toList (kvs.map (·.1))/\(∀(i:Nat) (e:MapEntry) (p:List Int×β),es.toList[i]?=some e->kvs[i]?=some p->(f p.2).R h G e.val)/\Vw es.toList clock/\
      h[r]?=some (.mapIter (some b) clock seen c0)/\clock<=c0/\(((es.toList.zip kvs).filter λp=> !seen.contains p.1.born).map (·.2)).Perm rem/\(∀p,cur=some p->∃(i:Nat) (en:MapEntry) (s0:Array Nat),es.toList[i]?=some en/\kvs[i]?=some p/\seen=s0.push en.born/\c0=clock),
   by rintro h h' O G x ⟨ho,vB,es,cl,seen,c0,h1,h2,h3,h4,h5,h6⟩;exact⟨ho,vB,es,cl,seen,c0,(x.same b (.inl ((ho b).2 (.inl rfl))) (zA.1 h1).1).trans h1,h2,λi e p g1 g2=>(f p.2).wm (x.mono λ_=> .inr) (h3 i e p g1 g2),h4,(x.same r (.inl ((ho r).2 (.inr rfl))) (zA.1 h5).1).trans h5,h6⟩,
   by rintro h O G G' x ⟨ho,vB,es,cl,seen,c0,h1,h2,h3,h4,h5,h6⟩;exact⟨ho,vB,es,cl,seen,c0,h1,h2,λi e p g1 g2=>(f p.2).mono x (h3 i e p g1 g2),h4,h5,h6⟩,
   by
    rintro h O G ⟨ho,vB,es,cl,seen,c0,h1,h2,h3,h4,h5,h6⟩ y hy
    rcases(ho y).1 hy with rfl|rfl
    · exact NC.of h1 rfl
    · exact NC.of h5 rfl⟩
structure Vd (P:Program) (o:List yh) (r:Nat) (k:∀{β:Type},Nat->TypeId->List (List Int×β)->List (List Int×β)->(β->AV)->Option (List Int×β)->List yh->Prop):Prop where
 ok:∃(β:Type) (b:Nat) (kt:TypeId) (kvs rem:List (List Int×β)) (f:β->AV) (cur:Option (List Int×β)) (rest:List yh),Take o (sQ P b r kt kvs rem f cur) rest/\k b kt kvs rem f cur rest
theorem Vd.r{β:Type}{P:Program}{o rest:List yh}{b r:Nat}{k:∀{β:Type},Nat->TypeId->List (List Int×β)->List (List Int×β)->(β->AV)->Option (List Int×β)->List yh->Prop}{kt:TypeId}{kvs rem:List (List Int×β)}{f:β->AV}{cur:Option (List Int×β)}(h:Take o (sQ P b r kt kvs rem f cur) rest)(hk:k b kt kvs rem f cur rest):Vd P o r k:=⟨β,b,kt,kvs,rem,f,cur,rest,h,hk⟩
instance (priority:=1100) {b:Nat}:Sp (Rng Γ c d t x ty e o N (.val (.map (some b)))) (Lk (jU Γ.tt t) λ_p=>Ou Γ.P o b λkt kvs f rest=>yc λr:Nat=>N ((d,.val (.pointer (some ⟨r,0,none⟩))) :: e) (sQ Γ.P b r kt kvs kvs f none :: rest)):=⟨λ⟨p,hp,β,kt,kvs,f,rest,tk,hn⟩=>⟨λha hc=>⟨λenv hh G Os cn=>by
 obtain⟨m,g1,rfl⟩:=cn.get ha
 obtain⟨O,yz,yT⟩:=cn.take tk
 obtain⟨⟨ho,es,cl,qg,pT,ko,tV⟩,_⟩:=yT.hp.own
 have xC:=(zA.1 qg).1
 obtain⟨ti,t1,t2,t3⟩:=sa hp
 have ef:=(Γ.ok.ok _ _ t1).map t2
 refine .th hc λa w oo next Q ha' hw YP pv PY=>?_
 have sA:w.heap[b]?=some (.map es cl):=hw▸qg
 have wq:(execOp a.eval (yI (.range t x) ty)).run Γ.P w= .ok (.value (.pointer (some ⟨w.heap.size,0,none⟩))) (w.alloc (.mapIter (some b) cl #[] cl)):=by
  simp [yI,execOp,ha'.ev g1,Go.run_range_map w t p.1 p.2.1 b es cl ef sA]
 unfold Oper.wp
 rw [xj,YP,pv,wq]
 refine PY _ _ (yW.sH rfl) ?_
 simp only [World.alloc,hw]
 have hx:uo (λ_=>True) hh (hh.push (Obj.mapIter (some b) cl #[] cl)):=⟨by simp,λy _ hl=>by rw [Array.getElem?_push,if_neg z6]⟩
 have AQ:((es.toList.zip kvs).filter λp=> !(#[]:Array Nat).contains p.1.born).map (·.2)=kvs:=by
  rw [List.filter_eq_self.2 (λ_ _=>by simp),List.map_snd_zip]
  have:=pT.len;simp at this;simp;omega
 have On:=(yT.jT (R':=sQ Γ.P b hh.size kt kvs kvs f none) (O':=λy=>O y∨y=hh.size) (h':=hh.push (Obj.mapIter (some b) cl #[] cl)) (hx.mono λ_ _=>trivial) (λy hy=>by
   rcases hy with hy|rfl
   ·have:=(yT.hp.o O zd y hy).1
    exact⟨by simp;omega,.inl hy⟩
   ·exact⟨by simp,.inr (Nat.le_refl _)⟩)
  ⟨λy=>or_congr (ho y) Iff.rfl,z6,es,cl,#[],cl,by rw [Array.getElem?_push,if_neg z6];exact qg,pT,λi en q h7 h8=>AV.wm _ (hx.mono λ_ _=>trivial) (ko i en q h7 h8),tV,by simp,Nat.le_refl _,by rw [AQ],λ_ hp=>by cases hp⟩)
 exact CN.mk (On.put d (a:= .val _) rfl) (hn.ok hh.size)⟩⟩⟩
instance (priority:=1100) {r:Nat}:Sp (Nxi Γ c d x ty e o N (.val (.pointer (some ⟨r,0,none⟩)))) (Vd Γ.P o r λb kt kvs rem f cur rest=>Rg rem (λp pB=>N ((d,.yE [.val (.bool true),.top,f p.2]) :: e) (sQ Γ.P b r kt kvs pB f (some p) :: rest)) (N ((d,.yE [.val (.bool false)]) :: e) (sQ Γ.P b r kt kvs rem f cur :: rest))):=⟨λ⟨β,b,kt,kvs,rem,f,cur,rest,tk,hx,hy⟩=>⟨λha hc=>⟨λenv hh G Os cn=>by
 obtain⟨m,g1,rfl⟩:=cn.get ha
 obtain⟨O,yz,yT⟩:=cn.take tk
 obtain⟨⟨ho,vB,es,cl,seen,c0,qg,pT,ko,tV,WO,bJ,WQ,_⟩,_⟩:=yT.hp.own
 have hlen:es.toList.length=kvs.length:=by have:=pT.len;simpa using this
 have bg:=(zA.1 WO).1
 refine .th hc λa w oo next Q ha' hw YP pv PY=>?_
 have sA:w.heap[b]?=some (.map es cl):=hw▸qg
 have SD:w.heap[r]?=some (.mapIter (some b) cl seen c0):=hw▸WO
 unfold Oper.wp
 rw [xj,YP,pv]
 rcases Go.run_next_at (P:=Γ.P) w ty r b cl c0 seen es cl SD sA tV.1 bJ with⟨h0,wq⟩|⟨en,WW,w1,Sw,wq⟩
 ·have dm:(execOp a.eval (yI (.next x false) ty)).run Γ.P w= .ok (.value (.tuple #[.bool false])) w:=by
   simp [yI,execOp,ha'.ev g1,wq]
  rw [dm]
  have Ll:rem= []:=by
   have h1:(es.toList.zip kvs).filter (λp=> !seen.contains p.1.born)= []:=List.filter_eq_nil_iff.2 λp hp h9=>by
    have h2:p.1∈(leftOf es seen).toList:=by
     unfold leftOf
     rw [Array.toList_filter,List.mem_filter]
     exact⟨(List.of_mem_zip hp).1,h9⟩
    have h3:(leftOf es seen).toList.length=0:=by simpa using h0
    rw [zQ h3] at h2
    cases h2
   rw [h1] at WQ
   exact List.nil_perm.1 WQ
  refine PY _ _ (yW.refl w) ?_
  rw [hw]
  exact CN.mk (yT.put d (a:= .yE [.val (.bool false)]) ⟨[_],rfl,rfl,trivial⟩) (hy Ll)
 ·have dm:(execOp a.eval (yI (.next x false) ty)).run Γ.P w= .ok (.value (.tuple #[.bool true,en.key,en.val])) (ChangeMaps.setBlock w1 r (.mapIter (some b) cl (seen.push en.born) cl)):=by
   simp [yI,execOp,ha'.ev g1,wq]
  rw [dm]
  have Ap:w1.heap=hh:=by rcases Sw with rfl|rfl <;> exact hw
  obtain⟨Oe,Bk⟩:en∈es.toList/\seen.contains en.born=false:=by
   unfold leftOf at WW
   rw [Array.toList_filter,List.mem_filter] at WW
   exact⟨WW.1,by simpa using WW.2⟩
  obtain⟨i,hi⟩:=zO Oe
  have qf:=(zS.1 hi).1
  obtain⟨p,hp⟩:∃p,kvs[i]?=some p:=⟨_,zE z6⟩
  have hlp:=W8 tV.2 hlen seen hi hp Bk
  refine PY _ _ (by rcases Sw with rfl|rfl <;> exact yW.rM SD rfl rfl) ?_
  have VO:(ChangeMaps.setBlock w1 r (.mapIter (some b) cl (seen.push en.born) cl)).heap=hh.setIfInBounds r (.mapIter (some b) cl (seen.push en.born) cl):=by
   simp only [ChangeMaps.setBlock,Ap]
  rw [VO]
  have hxo:uo (λy=>¬O y) hh (hh.setIfInBounds r (.mapIter (some b) cl (seen.push en.born) cl)):=⟨by simp,λy hy hl=>by rw [Array.getElem?_setIfInBounds,if_neg (λe9=>hy ((ho y).2 (.inr e9.symm)))]⟩
  have hg:uo G hh (hh.setIfInBounds r (.mapIter (some b) cl (seen.push en.born) cl)):=hxo.mono λy hy bD=>(yT.hp.o O zd y bD).2.2 hy
  have On:=yT.jT (R':=sQ Γ.P b r kt kvs (((es.toList.zip kvs).filter λq=> !(seen.push en.born).contains q.1.born).map (·.2)) f (some p)) (O':=O) hxo (λy hy=>⟨by have:=(yT.hp.o O zd y hy).1;simpa using this,.inl hy⟩)
   ⟨ho,vB,es,cl,seen.push en.born,cl,by rw [Array.getElem?_setIfInBounds,if_neg vB];exact qg,pT,λi en q h7 h8=>AV.wm _ hg (ko i en q h7 h8),tV,by simp [bg],Nat.le_refl _,List.Perm.refl _,λp' Hk=>by cases Hk;exact⟨i,en,seen,hi,hp,rfl,rfl⟩⟩
  exact CN.mk (On.put d (a:= .yE [.val (.bool true),.top,f p.2]) ⟨[_,_,_],rfl,rfl,trivial,AV.wm _ hg (ko i en p hi hp),trivial⟩) (hx p _ (hlp.trans WQ))⟩⟩⟩
theorem yF.QU{h0:y7}{G0 O0:Nat->Prop}{h:y7}{G:Nat->Prop}{Os:List (Nat->Prop)}{P:Program}{β:Type}{b r:Nat}{kt:TypeId}{kvs rem:List (List Int×β)}{f:β->AV}{cur:Option (List Int×β)}{rest:List yh}(tk:Take o (sQ P b r kt kvs rem f cur) rest)(c:yF h0 G0 O0 o h G Os) :∃yz,yF h0 G0 O0 (vg P b kt kvs f :: rest) h G yz:=by
 obtain⟨O,yz,c2⟩:=c.take tk
 obtain⟨⟨ho,vB,es,cl,seen,c0,qg,pT,ko,tV,_⟩,xq⟩:=c2.own
 have hd:=List.pairwise_cons.1 c2.d
 refine⟨(λy=>y=b) :: yz,⟨⟨λy=>Iff.rfl,es,cl,qg,pT,ko,tV⟩,xq⟩,c2.g,c2.g0,λX hX y hy=>?_,List.pairwise_cons.2 ⟨λB hB y hy hyB=>?_,hd.2⟩,c2.fp⟩
 ·rcases List.mem_cons.1 hX with rfl|hX
  ·exact c2.o O zd y ((ho y).2 (.inl hy))
  ·exact c2.o X (by simp [hX]) y hy
 ·exact hd.1 B hB y ((ho y).2 (.inl hy)) hyB
theorem OX.itc{P:Program}{β:Type}{b r:Nat}{kt:TypeId}{kvs rem:List (List Int×β)}{f:β->AV}{cur:Option (List Int×β)}{rest:List yh}(tk:Take o (sQ P b r kt kvs rem f cur) rest):OX o (vg P b kt kvs f :: rest):=⟨λ{h0 G0 O0 h G Os} c=>by
 obtain⟨yz,h1⟩:=yF.QU tk c
 exact⟨G,yz,h1,λ_ h=>h⟩⟩

structure Ent (Γ:Cx) (c:xa) (d:Tmp) (x:Operand) (ty:TypeId) (e:EA) (o:List yh) (N:NA) (m:AV):Prop where
 h:xr e x=some m->yN c=true->SA Γ c (some d) (.entry x) ty e o N
instance:Sp (SA Γ c (some d) (.entry x) ty e o N) (Rf (yN c=true) (Lk (xr e x) λm=>Ent Γ c d x ty e o N m)):=⟨λ⟨hc,_,h1,h⟩=>h.h h1 hc⟩
structure Rc (P:Program) (o:List yh) (r:Nat) (k:∀{β:Type},(β->AV)->(List Int×β)->Prop):Prop where
 ok:∃(β:Type) (b:Nat) (kt:TypeId) (kvs rem:List (List Int×β)) (f:β->AV) (p:List Int×β) (rest:List yh),Take o (sQ P b r kt kvs rem f (some p)) rest/\k f p
theorem Rc.r{β:Type}{P:Program}{o rest:List yh}{b r:Nat}{k:∀{β:Type},(β->AV)->(List Int×β)->Prop}{kt:TypeId}{kvs rem:List (List Int×β)}{f:β->AV}{p:List Int×β}(h:Take o (sQ P b r kt kvs rem f (some p)) rest)(hk:k f p):Rc P o r k:=⟨β,b,kt,kvs,rem,f,p,rest,h,hk⟩
instance {b:Nat}:Sp (lO Γ c d (.call { callee:= .builtin .len,args:=#[x],argTypes:=#[t] }) ty e o N x (.val (.map (some b)))) (Rf (yN c=true) (Lk (jU Γ.tt t) λ_=>Ou Γ.P o b λ_ kvs _ _=>N ((d,.val (.int .i64 (kvs.length:Int))) :: e) o)):=⟨λ⟨hc,p,hp,β,kt,kvs,f,rest,tk,hn⟩=>⟨λha=>⟨λenv hh G Os cn=>by
 obtain⟨m,g1,rfl⟩:=cn.get ha
 obtain⟨O,yz,yT⟩:=cn.take tk
 obtain⟨⟨ho,es,cl,qg,pT,ko,tV⟩,_⟩:=yT.hp.own
 obtain⟨ti,t1,t2,t3⟩:=sa hp
 have ef:=(Γ.ok.ok _ _ t1).map t2
 have hlen:es.size=kvs.length:=by have:=pT.len;simpa using this
 refine .th hc λa w oo next Q ha' hw YP pv PY=>?_
 have sA:w.heap[b]?=some (.map es cl):=hw▸qg
 have wq:(execOp a.eval (yI (.call { callee:= .builtin .len,args:=#[x],argTypes:=#[t] }) ty)).run Γ.P w= .ok (.value (.int .i64 (kvs.length:Int))) w:=by
  simp [yI,execOp,resolve,invoke,builtin,ha'.ev g1,Builtin.len_,run_underlying ef,getObj,Sem.run_bind,Sem.run,sA,Result.andThen,goInt,hlen]
 unfold Oper.wp
 rw [xj,YP,pv,wq]
 refine PY _ _ (yW.refl w) ?_
 rw [hw]
 exact CN.mk (cn.put d (a:= .val _) rfl) hn⟩⟩⟩
end
theorem iU{α β:Type} :∀(a:List α) (b:List β) (j:Nat),(a.eraseIdx j).zip (b.eraseIdx j)=(a.zip b).eraseIdx j
 | [],b,j=>by simp
 | a :: yM,[],j=>by simp
 | a :: yM,b :: bs,0=>by simp
 | a :: yM,b :: bs,j+1=>by simp [iU yM bs j]
theorem nM{α:Type}(p:α->Bool) :∀(l:List α) (j:Nat),(∀x,l[j]?=some x->p x=false)->(l.eraseIdx j).filter p=l.filter p
 | [],_,_=>by simp
 | a :: l,0,h=>by simp [h a rfl]
 | a :: l,j+1,h=>by
  have ih:=nM p l j λx hx=>h x (by simpa using hx)
  simp only [List.eraseIdx_cons_succ,List.filter_cons,ih]
theorem Uo{β:Type} :∀(es:List MapEntry) (kvs:List (List Int×β)) (xs:List Int) (i:Nat) {j:Nat} {u:Value},es.length=kvs.length->fE es (kvs.map (·.1)) xs i=some (i+j,u)->∃v,kvs[j]?=some (xs,v)
 | [],[],xs,i,j,u,_,h=>by simp [fE] at h
 | [],_ :: _,_,_,_,_,h,_=>by simp at h
 | _ :: _,[],_,_,_,_,h,_=>by simp at h
 | e :: es,(k,v) :: kvs,xs,i,j,u,h,h1=>by
  by_cases hx:xs=k
  ·subst hx
   simp only [List.map_cons,fE,if_true,Option.some.injEq,Prod.mk.injEq] at h1
   have:j=0:=z6
   subst this
   exact⟨v,rfl⟩
  ·simp only [List.map_cons,fE,hx,if_false] at h1
   cases j with
   | zero =>
    have key:∀(es:List MapEntry) (ks:List (List Int)) (i0:Nat) (q:Nat) (u:Value),fE es ks xs i0=some (q,u)->i0<=q:=by
     intro es
     induction es with
     | nil=>intro ks i0 q u h;simp [fE] at h
     | cons e es ih =>
      intro ks i0 q u h
      cases ks with
      | nil=>simp [fE] at h
      | cons k ks =>
       simp only [fE] at h
       split at h
       ·simp only [Option.some.injEq,Prod.mk.injEq] at h;omega
       ·have:=ih _ _ _ _ h;omega
    have:=key _ _ _ _ _ h1
    omega
   | succ j =>
    obtain⟨v',h2⟩:=Uo es kvs xs (i+1) (j:=j) (u:=u) (by simpa using h) (by rw [h1];congr 2;omega)
    exact⟨v',by simpa using h2⟩
section
variable {Γ:Cx} {k:List KI} {e:EA} {o:List yh} {N:NA} {c:xa} {d:Tmp} {ty:TypeId} {x y z:Operand} {t u:TypeId}
structure RJ (P:Program) (o:List yh) (b:Nat) (k:∀{β:Type},Nat->TypeId->List (List Int×β)->List (List Int×β)->(β->AV)->List yh->Prop):Prop where
 ok:∃(β:Type) (r:Nat) (kt:TypeId) (kvs rem:List (List Int×β)) (f:β->AV) (cur:Option (List Int×β)) (rest:List yh),Take o (sQ P b r kt kvs rem f cur) rest/\k r kt kvs rem f rest
theorem RJ.r{β:Type}{P:Program}{o rest:List yh}{b r:Nat}{k:∀{β:Type},Nat->TypeId->List (List Int×β)->List (List Int×β)->(β->AV)->List yh->Prop}{kt:TypeId}{kvs rem:List (List Int×β)}{f:β->AV}{cur:Option (List Int×β)}(h:Take o (sQ P b r kt kvs rem f cur) rest)(hk:k r kt kvs rem f rest):RJ P o b k:=⟨β,r,kt,kvs,rem,f,cur,rest,h,hk⟩
theorem QM{b r:Nat}{key:AV}{sg:Array TypeId}{β:Type}{kvs rem:List (List Int×β)}{f:β->AV}{cur:Option (List Int×β)}{rest:List yh}{p:Nat×Nat×TI}{xs:List Int}(hp:jU Γ.tt t=some p)(tk:Take o (sQ Γ.P b r p.1 kvs rem f cur) rest)(h2:(∃x,xs= [x]/\key= .val (.int .i64 x))∨∃cs,key= .agg cs/\z1u cs xs/\2<=xs.length)(bG:ig Γ.P p.1 xs.length=true)(Hm:∀q∈rem,q.1≠xs)
  (hn:N e (sQ Γ.P b r p.1 (ma kvs xs) rem f none :: rest)):BN Γ c t x y sg ty e o N (.val (.map (some b))) key:=⟨λh0 ha hb hc=>⟨λenv hh G Os cn=>by
 obtain⟨m,g1,rfl⟩:=cn.get ha
 obtain⟨kv,g2,r2⟩:=cn.get hb
 obtain⟨hf,hl,jR⟩:=kb bG h2 r2
 obtain⟨O,yz,yT⟩:=cn.take tk
 obtain⟨⟨ho,vB,es,cl,seen,c0,qg,pT,ko,tV,WO,bJ,WQ,_⟩,_⟩:=yT.hp.own
 have xC:=(zA.1 qg).1
 have hlen:es.toList.length=kvs.length:=by have:=pT.len;simpa using this
 have fin:∀rA nY,uy Γ.P p.1 rA.toList (nY.map (·.1))->(∀(i:Nat) (en:MapEntry) (q:List Int×β),rA.toList[i]?=some en->nY[i]?=some q->(f q.2).R hh G en.val)->nY=ma kvs xs->Vw rA.toList cl->(((rA.toList.zip nY).filter λp=> !seen.contains p.1.born).map (·.2)).Perm rem->CN Γ N env (hh.setIfInBounds b (.map rA cl)):=by
  intro rA nY qe YJ e2 Lj AB
  subst e2
  have hx:uo (λy=>¬O y) hh (hh.setIfInBounds b (.map rA cl)):=⟨by simp,λy hy hl=>by rw [Array.getElem?_setIfInBounds,if_neg (λe9=>hy ((ho y).2 (.inl e9.symm)))]⟩
  have hg:uo G hh (hh.setIfInBounds b (.map rA cl)):=hx.mono λy hy bD=>(yT.hp.o O zd y bD).2.2 hy
  exact CN.mk (yT.jT (R':=sQ Γ.P b r p.1 (ma kvs xs) rem f none) (O':=O) hx (λy hy=>⟨by have:=(yT.hp.o O zd y hy).1;simpa using this,.inl hy⟩) ⟨ho,vB,rA,cl,seen,c0,by simp [xC],qe,λi en q h7 h8=>AV.wm _ hg (YJ i en q h7 h8),Lj,by rw [Array.getElem?_setIfInBounds,if_neg (λe9=>vB e9.symm)];exact WO,bJ,AB,λ_ hp=>by cases hp⟩) hn
 refine .th hc (Ik Γ.ok h0 hp hf hl jR g1 g2 qg pT (λjV=>?_) (λj u jV=>?_))
 ·rcases ji es.toList kvs xs 0 hlen with⟨_,q2⟩|⟨j,en,q1,_⟩
  ·exact fin es kvs pT ko q2.symm tV WQ
  ·rw [jV] at q1;cases q1
 ·rcases ji es.toList kvs xs 0 hlen with⟨q1,_⟩|⟨j',en,q1,q2,q3⟩
  ·rw [jV] at q1;cases q1
  ·have AR:=q1
   rw [jV] at q1
   simp only [Nat.zero_add,Option.some.injEq,Prod.mk.injEq] at q1
   obtain⟨rfl,_⟩:=q1
   have gT:(es.eraseIdxIfInBounds j).toList=es.toList.eraseIdx j:=by
    unfold Array.eraseIdxIfInBounds
    rw [dif_pos (by simpa using q2)]
    simp
   obtain⟨vj,Cb⟩:=Uo es.toList kvs xs 0 hlen AR
   refine fin _ (kvs.eraseIdx j) ⟨by rw [gT,List.length_map,List.length_eraseIdx,List.length_eraseIdx,hlen],λi e1 k h7 h8=>?_⟩ (λi e1 q h7 h8=>?_) q3.symm ⟨λe1 h7=>?_, ?_⟩ ?_
   ·rw [gT,List.getElem?_eraseIdx] at h7
    rw [mG,List.getElem?_eraseIdx] at h8
    split at h7 <;> rename_i u5
    ·rw [if_pos u5] at h8;exact pT.key i e1 k h7 h8
    ·rw [if_neg u5] at h8;exact pT.key _ e1 k h7 h8
   ·rw [gT,List.getElem?_eraseIdx] at h7
    rw [List.getElem?_eraseIdx] at h8
    split at h7 <;> rename_i u5
    ·rw [if_pos u5] at h8;exact ko i e1 q h7 h8
    ·rw [if_neg u5] at h8;exact ko _ e1 q h7 h8
   ·rw [gT] at h7
    exact tV.1 e1 (List.mem_of_mem_eraseIdx h7)
   ·rw [gT,mG];exact cH tV.2 j
   ·rw [gT,iU,nM]
    ·exact WQ
    ·intro q hq
     cases hs:seen.contains q.1.born with
     | true=>rfl
     | false =>
      have hm:q.2∈rem:=WQ.mem_iff.1 (List.mem_map.2 ⟨q,List.mem_filter.2 ⟨zM hq,by rw [hs];rfl⟩,rfl⟩)
      have lJ:kvs[j]?=some q.2:=by
       rw [List.getElem?_zip_eq_some] at hq
       exact hq.2
      rw [Cb] at lJ
      have:=Hm _ hm
      rw [<-Option.some.inj lJ] at this
      exact absurd rfl this⟩⟩
instance (priority:=1200) {b:Nat} {key:AV} {sg:Array TypeId}:Sp (BN Γ c t x y sg ty e o N (.val (.map (some b))) key) (Lk (jU Γ.tt t) λp=>RJ Γ.P o b λr kt kvs rem f rest=>Ky key λxs=>Rf (kt=p.1) (Kf (ig Γ.P kt xs.length=true) (Rf (∀q∈rem,q.1≠xs) (N e (sQ Γ.P b r kt (ma kvs xs) rem f none :: rest))))):=⟨λ⟨p,hp,β,r,kt,kvs,rem,f,cur,rest,tk,xs,⟨R5,bG,Hm,hn⟩,h2⟩=>by
 subst R5
 exact QM hp tk h2 bG Hm hn⟩
structure RK (P:Program) (o:List yh) (r:Nat) (k:∀{β:Type},TypeId->(β->AV)->(List Int×β)->Prop):Prop where
 ok:∃(β:Type) (b:Nat) (kt:TypeId) (kvs rem:List (List Int×β)) (f:β->AV) (p:List Int×β) (rest:List yh),Take o (sQ P b r kt kvs rem f (some p)) rest/\k kt f p
theorem RK.r{β:Type}{P:Program}{o rest:List yh}{b r:Nat}{k:∀{β:Type},TypeId->(β->AV)->(List Int×β)->Prop}{kt:TypeId}{kvs rem:List (List Int×β)}{f:β->AV}{p:List Int×β}(h:Take o (sQ P b r kt kvs rem f (some p)) rest)(hk:k kt f p):RK P o r k:=⟨β,b,kt,kvs,rem,f,p,rest,h,hk⟩
instance (priority:=1200) {r:Nat}:Sp (Ent Γ c d x ty e o N (.val (.pointer (some ⟨r,0,none⟩)))) (RK Γ.P o r λkt f p=>Kf (DV Γ.P kt=true) (N ((d,.yE [.val (.int .i64 (p.1.headD 0)),f p.2]) :: e) o)):=⟨λ⟨β,b,kt,kvs,rem,f,p,rest,tk,hi,hn⟩=>⟨λha hc=>⟨λenv hh G Os cn=>by
 obtain⟨m,g1,rfl⟩:=cn.get ha
 obtain⟨O,yz,yT⟩:=cn.take tk
 obtain⟨⟨ho,vB,es,cl,seen,c0,qg,pT,ko,tV,WO,bJ,WQ,AZ⟩,_⟩:=yT.hp.own
 obtain⟨i,en,s0,h1,h2,rfl,rfl⟩:=AZ p rfl
 refine .th hc λa w oo next Q ha' hw YP pv PY=>?_
 have wq:=run_entry_at (P:=Γ.P) w r b _ s0 es _ en (hw▸WO) (hw▸qg) (zM h1) tV.2
 have dm:(execOp a.eval (yI (.entry x) ty)).run Γ.P w= .ok (.value (.tuple #[en.key,en.val])) w:=by
  simp [yI,execOp,ha'.ev g1,wq]
 have AL:en.key= .int .i64 (p.1.headD 0):=by
  obtain⟨h3,_⟩:=pT.key i en p.1 h1 (by rw [zG,h2];rfl)
  have hu:=dW hi
  generalize p.1=xs at h3
  generalize en.key=kv at h3
  cases h3 with
  | int _=>rfl
  | st h9=>rw [hu] at h9;cases h9
 unfold Oper.wp
 rw [xj,YP,pv,dm]
 refine PY _ _ (yW.refl w) ?_
 rw [hw]
 exact CN.mk (cn.put d (a:= .yE [.val (.int .i64 (p.1.headD 0)),f p.2]) ⟨[_,_],rfl,AL,ko i en p h1 h2,trivial⟩) hn⟩⟩⟩
end
end Go.CF
namespace Go.Proofs.YtmjllbjfkafhdaaGreatDoor
open Go Go.CF
def lH(S:List Int):List (List Int×Int):=S.map λk=>([k],k)
def HT:Int->AV:=λ_=> .val (.bool true)
theorem Uh(S:List Int)(x:Int):yG (lH S) [x]=if x∈S then some x else none:=by
 induction S with
 | nil=>rfl
 | cons a S ih =>
  unfold yG lH at ih ⊢
  simp only [List.map_cons,List.find?_cons]
  by_cases h:a=x
  ·subst h;simp
  ·have h':¬x=a:=λe=>h e.symm
   simp only [List.cons.injEq,h,and_true,decide_false,ih,List.mem_cons,h',false_or]
theorem FK(S:List Int)(x:Int):td (lH S) [x] x=lH (if x∈S then S else S ++ [x]):=by
 induction S with
 | nil=>rfl
 | cons a S ih =>
  unfold lH at ih ⊢
  simp only [List.map_cons,td]
  by_cases h:a=x
  ·subst h;simp
  ·have h':¬x=a:=λe=>h e.symm
   simp only [List.cons.injEq,h,and_true,if_false,ih,List.mem_cons,h',false_or]
   by_cases hm:x∈S <;> simp [hm]
theorem Dn{S:List Int}(hn:S.Nodup)(x:Int):ma (lH S) [x]=lH (S.filter λq=>decide (q≠x)):=by
 induction S with
 | nil=>rfl
 | cons a S ih =>
  obtain⟨h1,h2⟩:=List.nodup_cons.1 hn
  have ih:=ih h2
  unfold lH at ih ⊢
  simp only [List.map_cons,ma]
  by_cases h:a=x
  ·subst h
   have:(a :: S).filter (λq=>decide (q≠a))=S:=by
    rw [List.filter_cons,if_neg zd]
    exact List.filter_eq_self.2 λq hq=>zT λe=>h1 (e▸hq)
   rw [this]
   simp
  ·simp only [List.cons.injEq,h,and_true,if_false,ih,List.filter_cons,ne_eq,not_false_eq_true,decide_true,if_true,List.map_cons]
theorem Jt{p:List Int×Int}{pB:List (List Int×Int)}{rem:List Int}(h:(p :: pB).Perm (lH rem)) :∃k bN,p=([k],k)/\pB=lH bN/\(k :: bN).Perm rem:=by
 have hm:∀q∈p :: pB,q=([q.2],q.2):=λq hq=>by
  obtain⟨k,_,rfl⟩:=List.mem_map.1 (h.mem_iff.1 hq)
  rfl
 have h2:=h.map Prod.snd
 have e1:(lH rem).map Prod.snd=rem:=by unfold lH;rw [List.map_map];exact List.map_id' _
 rw [e1,List.map_cons] at h2
 refine⟨p.2,pB.map Prod.snd,hm p zd, ?_,h2⟩
 unfold lH
 rw [List.map_map]
 have:∀l:List (List Int×Int),(∀q∈l,q=([q.2],q.2))->l=l.map ((λk=>([k],k)) ∘ Prod.snd):=λl hl=>by
  induction l with
  | nil=>rfl
  | cons a l ih=>rw [List.map_cons,<-ih λq hq=>hl q (by simp [hq])];congr 1;exact hl a zd
 exact this _ λq hq=>hm q (by simp [hq])
theorem IA(S:List Int)(k:Int)(h:Int×Int×Int):y6 Tryz.prog 191 [.agg (tL h),.ad [it k] 0,.ad [.rm Tryz.prog 3 (lH S) HT] 0] (.val (.bool (decide (h.1=k/\h.2.2∈S)))):=by
 obtain⟨h1,h2,h3⟩:=h
 refine zy.of pg ye Tryz.func191 rfl Tryz.ntmps191 Tryz.results191 rfl λh0 G0 O0=>?_
 by_cases hm:h3∈S
 ·have hl:yG (lH S) [h3]=some h3:=by rw [Uh,if_pos hm]
  repeat'(first|apply Sp.h|refine Lk.r rfl ?_|refine Rf.mk rfl ?_|refine xA ?_|refine xB ?_|apply Bd.mk|apply yc.mk|refine xT ?_|refine xN ?_|(apply Kf.mk;{exact z7})|(apply sf.s;{exact zi})|intro _)
  all_goals exact Fin.p rfl (vb (by by_cases e:h1=k <;> simp_all))
 ·have hl:yG (lH S) [h3]=none:=by rw [Uh,if_neg hm]
  repeat'(first|apply Sp.h|refine Lk.r rfl ?_|refine Rf.mk rfl ?_|refine xA ?_|refine xB ?_|apply Bd.mk|apply yc.mk|refine xT ?_|refine xN ?_|(apply Kf.mk;{exact z7})|(apply Zx.b;{exact zu})|(apply sf.n;{exact zi})|intro _)
  all_goals exact Fin.p rfl (vb (by by_cases e:h1=k <;> simp_all))
theorem gz{o r1 r2 r3:List yh}{P:Program}{X0 b7 M r:Nat}{T1 T2 kt:TypeId}{k:Int}{β:Type}{kvs rem:List (List Int×β)}{f:β->AV}{cur:Option (List Int×β)}{a:AV}{g:FuncId}
  (t1:Take o (yr X0 T1 [it k]) r1) (t2:Take o (yr b7 T2 [.val (.map (some M))]) r2) (t3:Take o (sQ P M r kt kvs rem f cur) r3) :
  VW o [a,.fn g [pm X0,pm b7]] [a,.fn g [.ad [it k] 0,.ad [.rm P kt kvs f] 0]]:=⟨λ{h G Os vs} ho hr=>by
 match vs,hr with
 | [v1,v2],⟨h1,⟨us,h2,h3⟩,_⟩ =>
  match us,h3 with
  | [u1,u2],⟨g1,g2,_⟩ =>
   have g1:u1=_:=g1
   have g2:u2=_:=g2
   subst g1;subst g2
   refine⟨AV.mono _ (λ_=> .inl) h1,⟨_,h2, ?_, ?_,trivial⟩,trivial⟩
   ·obtain⟨O,nO,⟨g0,ws,gb,gr⟩,_,g3⟩:=t1.own ho
    exact⟨X0,0,ws,rfl,.inr ⟨O,g3.mem_iff.2 zd,(g0 _).2 rfl⟩,gb.lt,gb.z1r,gr.mono λ_=> .inl⟩
   ·obtain⟨O,nO,⟨g0,ws,gb,gr⟩,_,g3⟩:=t2.own ho
    obtain⟨O3,os3,⟨q0,_,es,cl,seen,c0,q1,q2,q3,_⟩,_,q4⟩:=t3.own ho
    refine⟨b7,0,ws,rfl,.inr ⟨O,g3.mem_iff.2 zd,(g0 _).2 rfl⟩,gb.lt,gb.z1r, ?_,gr.one⟩
    match ws,gr.t with
    | [w],⟨e1,_⟩ =>
     exact⟨⟨M,es,cl,e1,.inr ⟨O3,q4.mem_iff.2 zd,(q0 _).2 (.inl rfl)⟩,(zA.1 q1).1,q1,q2,λi e p k1 k2=>AV.mono _ (λ_=> .inl) (q3 i e p k1 k2)⟩,trivial⟩⟩
theorem W3(m:y8)(R:List (Int×Int))(hm:xS m.y9 m.tables):y6 Tryz.prog 131 [.agg (tp m R)] (.val (.bool (decide (pH m)))):=by
 have ly:=hm.2.2.1
 refine zy.of pg JX Tryz.func131 rfl Tryz.ntmps131 Tryz.results131 rfl λh0 G0 O0=>?_
 (repeat'(first|(show CA _ _ (Code.region 1 _ _) _ _;apply z_.out)|apply Sp.h|refine Lk.r rfl ?_|refine Rf.mk rfl ?_|apply yc.mk|intro _));any_goals apply z_.mk
 refine CA.xt 1 rfl z1 ?_
 by_cases hl:m.yp.length<=12
 rotate_left
 ·repeat'(first|apply Sp.h|refine Lk.r rfl ?_|refine Rf.mk rfl ?_|refine xA ?_|apply Im.mk|refine xN ?_|intro _)
  exact Fin.p rfl (vb (zF λh:pH m=>hl h.l).symm)
 repeat'(first|apply Sp.h|refine Lk.r rfl ?_|refine Rf.mk rfl ?_|refine xB ?_|apply Im.mk|intro _)
 refine CA.loop (λi:Nat=>⟨[(1,.ad (tp m R) 0),(18,qI m.yp),(19,it (m.yp.length:Nat)),(20,it i)],[]⟩) (λi=>i<=m.yp.length/\∀j h,j < i->m.yp[j]?=some h->ae m h) (λi=>m.yp.length - i) 0 xE ⟨zZ _,λj h hj=>z6⟩ ?_
 rintro i ⟨hi,bp⟩
 by_cases yd:i < m.yp.length
 ·obtain⟨⟨ht,pD,Sz⟩,hh⟩:=zz yd
  have yD:¬ae m (ht,pD,Sz)->¬pH m:=λh h2=>h (h2.i i _ hh)
  have lx:=rl ht (m.tables.length:Nat)
  have Zl:=rl Sz (m.tables.length:Nat)
  by_cases hb:0<=ht/\ht < m.tables.length/\0<=Sz/\Sz < m.tables.length
  ·obtain⟨j1,rfl⟩:=Int.eq_ofNat_of_zero_le hb.1
   obtain⟨j2,rfl⟩:=Int.eq_ofNat_of_zero_le hb.2.2.1
   obtain⟨-,q_,-,rC⟩:=hb
   obtain⟨t,MI⟩:=zz (l:=m.tables) (i:=j1) z6
   obtain⟨u,MH⟩:=zz (l:=m.tables) (i:=j2) z6
   have CP:=rl pD (t.ya.length:Nat)
   by_cases hc:0<=pD/\pD < t.ya.length/\u.ya.length=1
   ·obtain⟨j3,rfl⟩:=Int.eq_ofNat_of_zero_le hc.1
    obtain⟨-,nQ,tE⟩:=hc
    obtain⟨x,hx⟩:=zz (l:=t.ya) (i:=j3) z6
    obtain⟨y,hy⟩:=zz (l:=u.ya) (i:=0) z6
    have HY:=cm tE hy
    by_cases hI:ae m ((j1:Int),(j3:Int),(j2:Int))
    ·have vu:=yg hh bp hI
     obtain⟨k1,k2,k3,t',u',x',e1,e2,e3,e4,e5,e6,e7,e8,e9,mP⟩:=hI
     simp only at e1 e3 e8
     obtain rfl:j1=k1:=z6
     obtain rfl:j2=k2:=z6
     obtain rfl:j3=k3:=z6
     rw [MI] at e2;cases e2
     rw [MH] at e4;cases e4
     rw [hx] at e9;cases e9
     rw [HY] at mP;injection mP with mP
     repeat'(first|apply Sp.h|refine Lk.r rfl ?_|refine Rf.mk rfl ?_|refine xA ?_|refine xB ?_|refine yu.r rfl ?_|refine xP ?_|refine Im.mk λ_=>?_|refine yc.mk λ_=>?_|refine xT ?_|refine xI ?_|refine Ch.l ⟨rfl,rfl⟩ ?_|(apply y4.r;focus repeat' constructor)|refine xN ?_|refine xD ?_|exact trivial|(apply CA.sB;{exact zu};{exact z7};{exact z7};{exact zo};{exact zu};intro X1 tr)|(apply mS.lt;(focus first|assumption|omega|(apply tr;repeat constructor)))|apply vn.both|refine xO ?_|(apply Cl.p (lx);focus(repeat' constructor);done)|(apply Cl.p (Zl);focus(repeat' constructor);done)|(apply Cl.p (CP);focus(repeat' constructor);done))
     all_goals first
      | exact PA.lp (i+1) xE ⟨⟨yd,vu⟩,z6⟩
      | exact(by omega:False).elim
    ·have yD:=yD hI
     repeat'(first|apply Sp.h|refine Lk.r rfl ?_|refine Rf.mk rfl ?_|refine xA ?_|refine xB ?_|(refine Bd.mk ?_ ?_ <;> intro _)|refine yu.r rfl ?_|refine xP ?_|refine Im.mk λ_=>?_|refine yc.mk λ_=>?_|refine xT ?_|refine xI ?_|refine Ch.l ⟨rfl,rfl⟩ ?_|(apply y4.r;focus repeat' constructor)|refine xN ?_|refine xD ?_|exact trivial|(apply CA.sB;{exact zu};{exact z7};{exact z7};{exact zo};{exact zu};intro X1 tr)|(apply mS.lt;(focus first|assumption|omega|(apply tr;repeat constructor)))|apply vn.both|refine xO ?_|(apply Cl.p (lx);focus(repeat' constructor);done)|(apply Cl.p (Zl);focus(repeat' constructor);done)|(apply Cl.p (CP);focus(repeat' constructor);done))
     all_goals first
      | exact Fin.p rfl (vb (zF yD).symm)
      | exact(hI ⟨j1,j2,j3,t,u,x,rfl,MI,rfl,MH,z6,z6,z6,rfl,hx,by rw [HY,show y=x by omega]⟩).elim
      | exact(by omega:False).elim
   ·have yD:=yD λ⟨k1,k2,k3,t',u',x',e1,e2,e3,e4,e5,e6,e7,e8,e9,mP⟩=>by
     simp only at e1 e3 e8
     obtain rfl:j1=k1:=z6
     obtain rfl:j2=k2:=z6
     rw [MI] at e2;cases e2
     rw [MH] at e4;cases e4
     have:=(zS.1 e9).1
     exact hc ⟨z6,z6,by rw [mP];rfl⟩
    repeat'(first|apply Sp.h|refine Lk.r rfl ?_|refine Rf.mk rfl ?_|refine xA ?_|refine xB ?_|(refine Bd.mk ?_ ?_ <;> intro _)|refine yu.r rfl ?_|refine xP ?_|refine Im.mk λ_=>?_|refine yc.mk λ_=>?_|refine xT ?_|refine xI ?_|refine Ch.l ⟨rfl,rfl⟩ ?_|(apply y4.r;focus repeat' constructor)|refine xN ?_|refine xD ?_|exact trivial|(apply CA.sB;{exact zu};{exact z7};{exact z7};{exact zo};{exact zu};intro X1 tr)|(apply mS.lt;(focus first|assumption|omega|(apply tr;repeat constructor)))|apply vn.both|(apply Cl.p (lx);focus(repeat' constructor);done)|(apply Cl.p (Zl);focus(repeat' constructor);done)|(apply Cl.p (CP);focus(repeat' constructor);done))
    all_goals first
     | exact Fin.p rfl (vb (zF yD).symm)
     | exact(hc ⟨z6,z6,z6⟩).elim
     | exact(by omega:False).elim
  ·have yD:=yD λ⟨k1,k2,k3,t',u',x',e1,e2,e3,e4,_⟩=>by
    simp only at e1 e3
    have:=(zS.1 e2).1
    have:=(zS.1 e4).1
    exact hb ⟨z6,z6,z6,z6⟩
   by_cases q_:0<=ht/\ht < m.tables.length
   ·have rC:¬(0<=Sz/\Sz < m.tables.length):=λh=>hb ⟨q_.1,q_.2,h.1,h.2⟩
    rw [zT q_] at lx
    rw [zF rC] at Zl
    repeat'(first|apply Sp.h|refine Lk.r rfl ?_|refine Rf.mk rfl ?_|refine xA ?_|refine xB ?_|refine Im.mk λ_=>?_|refine yc.mk λ_=>?_|refine xT ?_|refine xI ?_|refine Ch.l ⟨rfl,rfl⟩ ?_|(apply y4.r;focus repeat' constructor)|refine xN ?_|(apply Cl.p (lx);focus(repeat' constructor);done)|(apply Cl.p (Zl);focus(repeat' constructor);done))
    exact Fin.p rfl (vb (zF yD).symm)
   ·rw [zF q_] at lx
    repeat'(first|apply Sp.h|refine Lk.r rfl ?_|refine Rf.mk rfl ?_|refine xA ?_|refine xB ?_|refine Im.mk λ_=>?_|refine yc.mk λ_=>?_|refine xT ?_|refine xI ?_|refine Ch.l ⟨rfl,rfl⟩ ?_|(apply y4.r;focus repeat' constructor)|refine xN ?_|(apply Cl.p (lx);focus(repeat' constructor);done)|(apply Cl.p (Zl);focus(repeat' constructor);done))
    exact Fin.p rfl (vb (zF yD).symm)
 have vk:i=m.yp.length:=z6
 subst vk
 have bp:=xc bp
 repeat'(first|apply Sp.h|refine Lk.r rfl ?_|refine Rf.mk rfl ?_|refine xB ?_|fail)
 refine X2.r HT ?_
 repeat'(first|apply Sp.h|refine Lk.r rfl ?_|refine Rf.mk rfl ?_|apply Im.mk|apply yc.mk|refine xT ?_|refine xV ?_|refine xN ?_|intro _)
 rename_i M b7 _
 refine CA.loop (λx:Nat×List Int=>⟨[(1,.ad (tp m R) 0),(7,pm b7),(103,qI m.yp),(104,it (m.yp.length:Nat)),(105,it x.1)],[yr b7 254 [.val (.map (some M))],vg Tryz.prog M 3 (lH x.2) HT]⟩)
  (λx=>x.1<=m.yp.length/\x.2.Nodup/\x.2.length<=x.1/\(∀k∈x.2,∃h∈m.yp,h.1=k)/\∀j h,j < x.1->m.yp[j]?=some h->h.1∈x.2) (λx=>m.yp.length - x.1) (0,[]) xE ⟨zZ _,List.nodup_nil,zZ _,λk h=>(by cases h),λj h hj=>absurd hj z6⟩ ?_
 rintro⟨i,S⟩ ⟨hi,Zp,qZ,C0,jO⟩
 simp only at hi Zp qZ C0 jO
 simp only
 by_cases uU:i < m.yp.length
 ·obtain⟨⟨h1,h2,h3⟩,hh⟩:=zz uU
  repeat'(first|apply Sp.h|refine Lk.r rfl ?_|refine Rf.mk rfl ?_|refine xA ?_|apply yc.mk|refine xT ?_|refine xI ?_|refine Ch.l ⟨rfl,rfl⟩ ?_|(apply y4.r;focus repeat' constructor)|refine xN ?_|(apply Kf.mk;{exact z7})|refine xM ?_|intro _)
  refine eo.r (v:=h1) rfl ?_
  rw [FK]
  repeat'(first|apply Sp.h|refine Lk.r rfl ?_|refine Rf.mk rfl ?_|refine xO ?_|fail)
  refine PA.lp (i+1,if h1∈S then S else S ++ [h1]) xE ⟨⟨uU, ?_, ?_, ?_, ?_⟩,by simp only;omega⟩
  ·split
   ·exact Zp
   ·rename_i h9
    exact List.nodup_append.2 ⟨Zp,by simp,λa ha b hb=>by rw [zH.1 hb];exact λe=>h9 (e▸ha)⟩
  ·split <;> simp <;> omega
  ·intro k hk
   have:k∈S∨k=h1:=by
    split at hk
    ·exact .inl hk
    ·simpa using hk
   rcases this with h9|h9
   ·exact C0 k h9
   ·exact⟨_,zM hh,h9.symm⟩
  ·intro j h hj B9
   have:h.1∈S∨h.1=h1:=by
    rcases Nat.lt_or_ge j i with h9|h9
    ·exact .inl (jO j h h9 B9)
    ·obtain rfl:j=i:=by simp only at hj;omega
     rw [hh] at B9;cases B9;exact .inr rfl
   split
   ·rename_i h9
    rcases this with h8|h8
    ·exact h8
    ·rw [h8];exact h9
   ·simpa using this
 have vk:i=m.yp.length:=z6
 subst vk
 repeat'(first|apply Sp.h|refine Lk.r rfl ?_|refine Rf.mk rfl ?_|refine xB ?_|apply Im.mk|intro _)
 have eL:fv m.yp S 0:=⟨Zp,C0,λT hT k hk=>by
  obtain⟨h,g1,g2,g3⟩:=hT k hk
  obtain⟨j,hj⟩:=zO g1
  rw [<-g2]
  exact jO j h (zS.1 hj).1 hj,.inr z6⟩
 refine CA.loop (λx:Nat×List Int=>⟨[(1,.ad (tp m R) 0),(7,pm b7),(115,qI m.yp),(116,it (m.yp.length:Nat)),(117,it x.1)],[yr b7 254 [.val (.map (some M))],vg Tryz.prog M 3 (lH x.2) HT]⟩)
  (λx=>x.1<=m.yp.length/\fv m.yp x.2 x.1) (λx=>m.yp.length - x.1) (0,S) xE ⟨zZ _,eL⟩ ?_
 clear eL C0 jO Zp qZ uU
 rintro⟨i,S⟩ ⟨hi,eL⟩
 simp only at hi eL
 simp only
 by_cases uU:i < m.yp.length
 ·repeat'(first|apply Sp.h|refine Lk.r rfl ?_|refine Rf.mk rfl ?_|refine xA ?_|apply yc.mk|refine xT ?_|refine xM ?_|intro _)
  rename_i r
  refine CA.loop (λx:List Int×List Int×Option (List Int×Int)=>⟨[(1,.ad (tp m R) 0),(7,pm b7),(115,qI m.yp),(116,it (m.yp.length:Nat)),(117,it i),(120,pm r)],[yr b7 254 [.val (.map (some M))],sQ Tryz.prog M r 3 (lH x.1) (lH x.2.1) HT x.2.2]⟩)
   (λx=>qF m.yp S x.1 x.2.1) (λx=>x.2.1.length) (S,S,none) xE (qF.start eL.nd) ?_
  rintro⟨cur,rem,c0⟩ Zn
  simp only at Zn
  simp only
  repeat'(first|apply Sp.h|refine Lk.r rfl ?_|refine Rf.mk rfl ?_|(apply Vd.r;{exact z1})|(apply Rg.mk)|fail)
  ·intro p pB WQ
   obtain⟨k,bN,rfl,rfl,Rr⟩:=Jt WQ
   repeat'(first|apply Sp.h|refine Lk.r rfl ?_|refine Rf.mk rfl ?_|fail)
   refine RK.r z1 ?_
   repeat'(first|apply Sp.h|refine Lk.r rfl ?_|refine Rf.mk rfl ?_|apply yc.mk|refine xT ?_|refine xV ?_|refine xN ?_|(apply Kf.mk;{exact z7})|intro _)
   have uK:=cR (g:=191) (p:=λh=>decide (h.1=k/\h.2.2∈cur)) (λh=>IA cur k h) rfl m.yp
   have vE:(∃e∈m.yp,decide (e.1=k/\e.2.2∈cur)=true)↔SP m.yp cur k:=⟨λ⟨e,e1,e2⟩=>⟨e,e1,of_decide_eq_true e2⟩,λ⟨e,e1,e2⟩=>⟨e,e1,zT e2⟩⟩
   have Zp:=List.nodup_cons.1 (Rr.nodup_iff.2 Zn.rn)
   have Hm:∀q∈lH bN,q.1≠ [k]:=λq hq e=>by
    obtain⟨y,hy,rfl⟩:=List.mem_map.1 hq
    simp only [List.cons.injEq,and_true] at e
    exact Zp.1 (e▸hy)
   have hlr:bN.length < rem.length:=by have:=Rr.length_eq;simp only [List.length_cons] at this;omega
   by_cases hS:SP m.yp cur k
   ·rw [zT (vE.2 hS)] at uK
    refine Cl.VH uK (gz (k:=k) z1 z1 z1) ?_
    repeat'(first|apply Sp.h|refine Lk.r rfl ?_|refine xA ?_|fail)
    exact PA.lp (cur,bN,some ([k],k)) xE ⟨Zn.stay Rr hS,hlr⟩
   ·rw [zF (λh=>hS (vE.1 h))] at uK
    refine Cl.VH uK (gz (k:=k) z1 z1 z1) ?_
    repeat'(first|apply Sp.h|refine Lk.r rfl ?_|refine Rf.mk rfl ?_|refine xB ?_|refine xT ?_|fail)
    refine RJ.r z1 ?_
    repeat'(first|apply Sp.h|refine Rf.mk rfl ?_|(apply Kf.mk;{exact z7})|(apply Rf.mk;{exact z8})|fail)
    have Of:ma (lH cur) [([k],k).fst.headD 0]=lH (cur.filter λq=>decide (q≠k)):=Dn Zn.nd k
    rw [Of]
    exact PA.lp (cur.filter (λq=>decide (q≠k)),bN,none) xE ⟨Zn.z0p Rr hS,hlr⟩
  ·intro Ll
   have WO:rem= []:=List.map_eq_nil_iff.1 Ll
   subst WO
   repeat'(first|apply Sp.h|refine Lk.r rfl ?_|refine Rf.mk rfl ?_|refine xO ?_|fail)
   refine PA.own (OX.itc z1) ?_
   exact PA.lp (i+1,cur) xE ⟨⟨uU,eL.step Zn⟩,by simp only;omega⟩
 have vk:i=m.yp.length:=z6
 subst vk
 repeat'(first|apply Sp.h|refine Lk.r rfl ?_|refine Rf.mk rfl ?_|refine xB ?_|refine xT ?_|refine xN ?_|refine xM ?_|fail)
 refine Fin.p rfl (vb (zD.2 ?_))
 have Vo:=eL.fin (n:=m.tables.length) λh hh=>by
  obtain⟨j,hj⟩:=zO hh
  obtain⟨j1,j2,j3,t,u,x,e1,e2,_⟩:=bp j h hj
  have:=(zS.1 e2).1
  omega
 constructor
 ·intro h
  have h0:S= []:=List.map_eq_nil_iff.1 (zQ z6:lH S= [])
  exact⟨hl,bp,λi h hi=>Vo.1 h0 h (zM hi)⟩
 ·intro h
  have h0:S= []:=Vo.2 λg hg=>by
   obtain⟨j,hj⟩:=zO hg
   exact h.a j g hj
  subst h0
  rfl
theorem nB(m:y8)(wU:m.ops.length<=1000000000)(vL:xl m):yV Tryz.prog 56 [wH m] (.val (.bool (decide (xR m)))):=XY m wU vL λh=>W3 m (wA m) h
noncomputable def wB(m:y8)(s:Bool):List (Int×Int):=if xR m then sr m.y9 s m.tables else []
theorem gv(m:y8)(s:Bool)(wU:m.ops.length<=1000000000)(vL:xl m):yV Tryz.prog 132 [wH m,.val (.bool s)] (.sl 2 (wB m s) vT):=by
 have hv:=nB m wU vL
 have nT:=mJ m.y9 m.tables s
 by_cases hx:xR m
 ·rw [wB,if_pos hx]
  rw [zT hx] at hv
  refine yJ.of pg ye Tryz.func132 rfl Tryz.ntmps132 Tryz.results132 rfl λh0 G0 O0 ga=>?_
  repeat'(first|apply Sp.h|refine Lk.r rfl ?_|refine Rf.mk rfl ?_|refine xA ?_|refine yc.mk λ_=>?_|refine xT ?_|refine Ch.l ⟨rfl,rfl⟩ ?_|refine xN ?_|(apply Cl.pG (hv);{exact ga};focus(repeat' constructor);done)|(apply Cl.pG (nT);{exact ga};focus(repeat' constructor);done))
  exact Fin.p rfl rfl
 ·rw [wB,if_neg hx]
  rw [zF hx] at hv
  refine yJ.of pg ye Tryz.func132 rfl Tryz.ntmps132 Tryz.results132 rfl λh0 G0 O0 ga=>?_
  repeat'(first|apply Sp.h|refine Lk.r rfl ?_|refine Rf.mk rfl ?_|refine xB ?_|refine yc.mk λ_=>?_|refine xT ?_|refine Ch.l ⟨rfl,rfl⟩ ?_|refine xN ?_|(apply Cl.pG (hv);{exact ga};focus(repeat' constructor);done))
  exact⟨_,_,.one (.ic (.z)),rfl,rfl⟩
theorem X_(m:y8)(wU:m.ops.length<=1000000000)(vL:xl m):yV Tryz.prog 57 [wH m] (.sl 2 (wB m true) vT):=by
 have h:=gv m true wU vL
 refine yJ.of pg ye Tryz.func57 rfl Tryz.ntmps57 Tryz.results57 rfl λh0 G0 O0 ga=>?_
 repeat'(first|apply Sp.h|refine Lk.r rfl ?_|refine Rf.mk rfl ?_|refine yc.mk λ_=>?_|refine xT ?_|refine Ch.l ⟨rfl,rfl⟩ ?_|refine xN ?_|(apply Cl.pG (h);{exact ga};focus(repeat' constructor);done))
 exact Fin.p rfl rfl
theorem W0(m:y8)(wU:m.ops.length<=1000000000)(vL:xl m):yV Tryz.prog 58 [wH m] (.sl 2 (wB m false) vT):=by
 have h:=gv m false wU vL
 refine yJ.of pg ye Tryz.func58 rfl Tryz.ntmps58 Tryz.results58 rfl λh0 G0 O0 ga=>?_
 repeat'(first|apply Sp.h|refine Lk.r rfl ?_|refine Rf.mk rfl ?_|refine yc.mk λ_=>?_|refine xT ?_|refine Ch.l ⟨rfl,rfl⟩ ?_|refine xN ?_|(apply Cl.pG (h);{exact ga};focus(repeat' constructor);done))
 exact Fin.p rfl rfl
theorem aR(m:y8):y6 Tryz.prog 144 [wH m] (.sl 2 (sr m.y9 false m.tables) vT):=by
 have h:=dM m.y9 m.tables false
 refine zy.of pg ye Tryz.func144 rfl Tryz.ntmps144 Tryz.results144 rfl λh0 G0 O0=>?_
 repeat'(first|apply Sp.h|refine Lk.r rfl ?_|refine Rf.mk rfl ?_|refine yc.mk λ_=>?_|refine xT ?_|refine xN ?_|(apply Cl.p (h);focus repeat' constructor))
 exact Fin.p rfl rfl
theorem qR(m:y8)(wU:m.ops.length<=1000000000)(vL:xl m):y6 Tryz.prog 78 [wH m] (.sl 2 (wB m true) vT):=by
 have hv:=tW m wU vL
 have nT:=og m
 by_cases hx:xR m
 ·rw [wB,if_pos hx]
  change y6 _ _ _ (.sl 2 (sr m.y9 true m.tables) vT) at nT
  rw [zT hx] at hv
  refine zy.of pg ye Tryz.func78 rfl Tryz.ntmps78 Tryz.results78 rfl λh0 G0 O0=>?_
  repeat'(first|apply Sp.h|refine Lk.r rfl ?_|refine Rf.mk rfl ?_|refine xA ?_|refine yc.mk λ_=>?_|refine xT ?_|refine Ch.l ⟨rfl,rfl⟩ ?_|refine xN ?_|(apply Cl.p (hv);focus(repeat' constructor);done)|(apply Cl.p (nT);focus(repeat' constructor);done))
  exact Fin.p rfl rfl
 ·rw [wB,if_neg hx]
  rw [zF hx] at hv
  refine zy.of pg ye Tryz.func78 rfl Tryz.ntmps78 Tryz.results78 rfl λh0 G0 O0=>?_
  repeat'(first|apply Sp.h|refine Lk.r rfl ?_|refine Rf.mk rfl ?_|refine xB ?_|refine yc.mk λ_=>?_|refine xT ?_|refine Ch.l ⟨rfl,rfl⟩ ?_|refine xN ?_|(apply Cl.p (hv);focus repeat' constructor))
  exact⟨_,_,.one (.ic (.z)),rfl,rfl⟩
theorem l8(m:y8)(wU:m.ops.length<=1000000000)(vL:xl m):y6 Tryz.prog 79 [wH m] (.sl 2 (wB m false) vT):=by
 have hv:=tW m wU vL
 have nT:=aR m
 by_cases hx:xR m
 ·rw [wB,if_pos hx]
  rw [zT hx] at hv
  refine zy.of pg ye Tryz.func79 rfl Tryz.ntmps79 Tryz.results79 rfl λh0 G0 O0=>?_
  repeat'(first|apply Sp.h|refine Lk.r rfl ?_|refine Rf.mk rfl ?_|refine xA ?_|refine yc.mk λ_=>?_|refine xT ?_|refine Ch.l ⟨rfl,rfl⟩ ?_|refine xN ?_|(apply Cl.p (hv);focus(repeat' constructor);done)|(apply Cl.p (nT);focus(repeat' constructor);done))
  exact Fin.p rfl rfl
 ·rw [wB,if_neg hx]
  rw [zF hx] at hv
  refine zy.of pg ye Tryz.func79 rfl Tryz.ntmps79 Tryz.results79 rfl λh0 G0 O0=>?_
  repeat'(first|apply Sp.h|refine Lk.r rfl ?_|refine Rf.mk rfl ?_|refine xB ?_|refine yc.mk λ_=>?_|refine xT ?_|refine Ch.l ⟨rfl,rfl⟩ ?_|refine xN ?_|(apply Cl.p (hv);focus repeat' constructor))
  exact⟨_,_,.one (.ic (.z)),rfl,rfl⟩
end Go.Proofs.YtmjllbjfkafhdaaGreatDoor
