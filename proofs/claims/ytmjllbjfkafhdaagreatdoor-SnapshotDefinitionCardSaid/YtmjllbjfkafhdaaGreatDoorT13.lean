/- Part 13 of the ground of this proof: what its texts say of the model, the program and the plain data; conditions: those that are named. -/
import Derived.Shelf.Slices.In.SortNone
import Derived.Test.YtmjllbjfkafhdaaGreatDoorT12
namespace Go.Proofs.YtmjllbjfkafhdaaGreatDoor
open Go Go.CF
instance {v:Value} {sz j r:Nat}:qt (.oe v sz j r):=⟨by rintro h G u ⟨b,o,len,cap,_,rfl⟩;rfl⟩
def lr(m:y8)(e:yo):List qh:=match m.yP[e.action.toNat]? with
 | some a=>a.xu.yk
 | none=> []
noncomputable def vi(ts:List ym)(l:List xp)(us:List qh)(e:yo):List (Int×xp):=(List.range l.length).map fun(i:Nat)=>match ts[i]?,l[i]? with
 | some t,some g=>yQ e t (uR us i) g
 | _,_=>(0,⟨false,false,[]⟩)
theorem uY{ts:List ym}{l:List xp}{us:List qh}{e:yo}{i:Nat}{t:ym}{g:xp}(ht:ts[i]?=some t)(hg:l[i]?=some g):(vi ts l us e)[i]?=some (yQ e t (uR us i) g):=by
 have hi:=(zS.1 hg).1
 rw [vi,zG,List.getElem?_range hi,Option.map_some,ht,hg]
theorem vK{ts:List ym}{l:List xp}{us:List qh}{e:yo}:(vi ts l us e).length=l.length:=by simp [vi]
noncomputable def wi(C:List (Int×xp)):Int×List xp:=match C.find? λp=>decide (p.1≠0/\p.1≠8) with
 | some p=>(p.1,[])
 | none=>if∃p∈C,p.1=8 then(8,[]) else(0,C.map (·.2))
noncomputable def yq(m:y8)(l:List xp)(e:yo):Int×List xp :=
 if¬(vX (yw m) l/\rE m (e.yj.length:Nat) e) then(1,[])
 else if e.kind≠0 then(0,l)
 else wi (vi (yw m) l (lr m e) e)
theorem Xw{us:List qh}{i:Nat}{u:qh}(h:us[i]?=some u):j_ (us.take (i+1))=td (j_ (us.take i)) [u.2.1] u:=by
 rw [zK,h,j_,List.foldl_append];rfl
theorem Z0{C:List (Int×xp)}{i:Nat}{q:Int×xp}(hq:C[i]?=some q)(h1:∀p∈C.take i,p.1=0∨p.1=8)(h2:q.1≠0)(h3:q.1≠8):wi C=(q.1,[]):=by
 have hf:C.find? (λp=>decide (p.1≠0/\p.1≠8))=some q:=fR hq (by simp [h2,h3]) λj y hj hy=>by
  have:=h1 y (zM (i:=j) (by rw [List.getElem?_take,if_pos hj];exact hy))
  rcases this with h|h <;> simp [h]
 rw [wi,hf]
theorem u_{C:List (Int×xp)}(h1:∀p∈C,p.1=0∨p.1=8):wi C=if∃p∈C,p.1=8 then(8,[]) else(0,C.map (·.2)):=by
 have hf:C.find? (λp=>decide (p.1≠0/\p.1≠8))=none:=List.find?_eq_none.2 λp hp=>by
  rcases h1 p hp with h|h <;> simp [h]
 rw [wi,hf]
theorem Zb{e:yo}{t:ym}{u:qh}{g:xp}(h:yG vH [t.kind,u.1]=none):yQ e t (some u) g=(0,g):=by
 have no:∀a b:Int,t.kind=a/\u.1=b->yG vH [a,b]=none:=λa b ⟨h1,h2⟩=>by rw [<-h1,<-h2];exact h
 have n1:¬(t.kind=2/\u.1=0):=λh9=>absurd (no _ _ h9) zf
 have n2:¬(t.kind=3/\u.1=1):=λh9=>absurd (no _ _ h9) zf
 have n3:¬(t.kind=2/\u.1=1):=λh9=>absurd (no _ _ h9) zf
 have n4:¬(t.kind=3/\u.1=0):=λh9=>absurd (no _ _ h9) zf
 have n5:¬(t.kind=4/\u.1=2):=λh9=>absurd (no _ _ h9) zf
 have n6:¬(t.kind=5/\u.1=2):=λh9=>absurd (no _ _ h9) zf
 simp only [yQ,n1,n2,n3,n4,n5,n6,or_self,if_false]
def ApK(q:Int×List xp)(r:AV)(own:List yh):Prop :=
 (∃v L,q.1=0/\r= .yE [.ow v,it 0]/\own=Rk v L/\L.map uM.g=q.2)∨(q.1≠0/\r= .yE [.val (.slice none 0 0),it q.1]/\own= [])
theorem YF(m:y8)(l:List xp)(e:yo)(hm:nR m):zy Tryz.prog 105 [wH m,uH l,uL e] [] (ApK (yq m l e)):=by
 have qx:=j4 m l hm.lay
 have rB:=cf m (e.yj.length:Nat) e
 by_cases hv:vX (yw m) l/\rE m (e.yj.length:Nat) e
 rotate_left
 ·have hF:yq m l e=(1,[]):=if_pos hv
  rw [hF]
  refine zy.of pg an Tryz.func105 rfl Tryz.ntmps105 Tryz.results105 rfl λh0 G0 O0=>?_
  by_cases h1:vX (yw m) l
  ·have h2:¬rE m (e.yj.length:Nat) e:=λh=>hv ⟨h1,h⟩
   repeat'(first|apply Sp.h|refine Lk.r rfl ?_|refine Rf.mk rfl ?_|refine xA ?_|refine xB ?_|refine Im.mk λ_=>?_|refine yc.mk λ_=>?_|refine xT ?_|refine Ch.l ⟨rfl,rfl⟩ ?_|refine xN ?_|(apply Cl.p (qx);focus repeat' constructor)|(apply Cl.p (rB);focus repeat' constructor))
   exact⟨_,_,.yE (.same (.same (.z))),.inr ⟨by decide,rfl,rfl⟩⟩
  ·repeat'(first|apply Sp.h|refine Lk.r rfl ?_|refine Rf.mk rfl ?_|refine xB ?_|refine yc.mk λ_=>?_|refine xT ?_|refine Ch.l ⟨rfl,rfl⟩ ?_|refine xN ?_|(apply Cl.p (qx);focus repeat' constructor)|(apply Cl.p (rB);focus repeat' constructor))
   exact⟨_,_,.yE (.same (.same (.z))),.inr ⟨by decide,rfl,rfl⟩⟩
 obtain⟨h1,h2⟩:=hv
 have hl:l.length<=64:=by have:=h1.1;have:=hm.Sq;omega
 have hg:∀(i:Nat) g,l[i]?=some g->∃t,(yw m)[i]?=some t/\sx t g:=λi g hi=>by
  obtain⟨t,ht⟩:=zz (l:=yw m) (i:=i) (by have:=h1.1;have:=(zS.1 hi).1;omega)
  exact⟨t,ht,h1.2 i t g ht hi⟩
 have ue:=Wt l z6 (λg Ob=>by
  obtain⟨i,hi⟩:=zO Ob
  obtain⟨t,_,hv⟩:=hg i g hi
  have:=hv.1.2.2.2
  omega)
 have jW:=kj m hm.lay
 have hru:=Qf
 by_cases hk:e.kind=0
 rotate_left
 ·have hF:yq m l e=(0,l):=by rw [yq,if_neg (λh=>h ⟨h1,h2⟩),if_pos hk]
  rw [hF]
  refine zy.of pg an Tryz.func105 rfl Tryz.ntmps105 Tryz.results105 rfl λh0 G0 O0=>?_
  repeat'(first|apply Sp.h|refine Lk.r rfl ?_|refine Rf.mk rfl ?_|refine xA ?_|refine Im.mk λ_=>?_|refine yc.mk λ_=>?_|refine xT ?_|refine Ch.l ⟨rfl,rfl⟩ ?_|(apply Cl.p (qx);focus repeat' constructor)|(apply Cl.p (rB);focus repeat' constructor))
  refine xW (ue) ?_
  rintro _ _ ⟨v,L,rfl,hL,rfl⟩
  repeat'(first|apply Sp.h|refine Lk.r rfl ?_|refine Rf.mk rfl ?_|refine xB ?_|refine xT ?_|refine xN ?_|fail)
  exact⟨_,_,.yE (.same (.same (.z))),.inl ⟨v,L,rfl,rfl,rfl,hL⟩⟩
 have hF:yq m l e=wi (vi (yw m) l (lr m e) e):=by rw [yq,if_neg (λh=>h ⟨h1,h2⟩),if_neg (λh=>h hk)]
 rw [hF]
 have MT:0<=e.action:=by
  have h9:=h2.1.2.2.2.2.2
  simp only [ux,kO,pV] at h9
  omega
 have Vb:=h2.2.2 hk
 obtain⟨a,ha⟩:=zz (l:=m.yP) (i:=e.action.toNat) z6
 obtain⟨n,hn⟩:∃n:Nat,e.action=n:=⟨e.action.toNat,z6⟩
 have PU:lr m e=a.xu.yk:=by rw [lr,ha]
 rw [hn] at ha
 rw [PU]
 have Gr:m.yP[n]?=some a:=by simpa using ha
 refine zy.of pg an Tryz.func105 rfl Tryz.ntmps105 Tryz.results105 rfl λh0 G0 O0=>?_
 repeat'(first|apply Sp.h|refine Lk.r rfl ?_|refine Rf.mk rfl ?_|refine xA ?_|refine Im.mk λ_=>?_|refine yc.mk λ_=>?_|refine xT ?_|refine Ch.l ⟨rfl,rfl⟩ ?_|(apply Cl.p (qx);focus repeat' constructor)|(apply Cl.p (rB);focus repeat' constructor))
 refine xW (ue) ?_
 rintro _ _ ⟨v,L0,rfl,hL,rfl⟩
 repeat'(first|apply Sp.h|refine Lk.r rfl ?_|refine Rf.mk rfl ?_|refine xA ?_|refine xT ?_|refine Ch.l ⟨rfl,rfl⟩ ?_|(apply Cl.p (jW);focus repeat' constructor))
 (apply Cl.use (hru);(focus repeat'(first|exact y3.nil|fail));(focus(repeat(first|exact qa.nil|(apply qa.cons;{exact z1}))));{exact zu})
 rintro _ _ ⟨br,kvs,rfl,rfl,ez⟩
 repeat'(first|apply Sp.h|refine Lk.r rfl ?_|refine Rf.mk rfl ?_|fail)
 refine X2.r (λu:qh=>AV.agg (tL u)) ?_
 repeat'(first|apply Sp.h|refine Lk.r rfl ?_|refine Rf.mk rfl ?_|apply Im.mk|apply yc.mk|refine xT ?_|(apply Ix.r;{exact z8};{exact z6})|intro _)
 refine CA.loop (λi:Nat=>⟨[(5,pm _),(8,.ow v),(9,xG (yw m)),(10,.val (.map (some br))),(11,.val (.map (some _))),(12,bl false),(53,.sl 3 a.xu.yk tL),(54,it (a.xu.yk.length:Nat)),(55,it i)],
   [yb v 231 3 L0 vD,u9 (L0.map tj),vg Tryz.prog br 227 kvs HC,vg Tryz.prog _ 3 (j_ (a.xu.yk.take i)) (λu:qh=>AV.agg (tL u)),yr _ 66 (uf e)]⟩)
  (λi=>i<=a.xu.yk.length) (λi=>a.xu.yk.length - i) 0 xE (zZ _) ?_
 intro i hi
 by_cases yd:i < a.xu.yk.length
 ·obtain⟨u,hu⟩:=zz yd
  have xe:=Xw hu
  repeat'(first|apply Sp.h|refine Lk.r rfl ?_|refine Rf.mk rfl ?_|refine xA ?_|apply yc.mk|refine xT ?_|refine xI ?_|refine Ch.l ⟨rfl,rfl⟩ ?_|(apply y4.r;focus repeat' constructor)|refine xN ?_|(apply Kf.mk;{exact z7})|refine xM ?_|refine eo.r rfl ?_|refine xO ?_|intro _)
  rw [<-xe]
  exact PA.lp (i+1) xE ⟨yd,z6⟩
 ·have vk:i=a.xu.yk.length:=z6
  subst vk
  rw [zL]
  have hlen:(yw m).length=l.length:=h1.1
  obtain⟨C,hC⟩:∃C,C=vi (yw m) l a.xu.yk e:=⟨_,rfl⟩
  rw [<-hC]
  (repeat'(first|(show CA _ _ (Code.region 13 _ _) _ _;apply z_.out)|apply Sp.h|refine Lk.r rfl ?_|refine Rf.mk rfl ?_|refine xB ?_|fail));any_goals apply z_.mk
  refine CA.sub ⟨[(5,pm _),(8,.ow v),(9,xG (yw m)),(10,.val (.map (some br))),(11,.val (.map (some _))),(12,bl false)],
   [yb v 231 3 L0 vD,u9 (L0.map tj),vg Tryz.prog br 227 kvs HC,vg Tryz.prog _ 3 (j_ a.xu.yk) (λu:qh=>AV.agg (tL u)),yr _ 66 (uf e)]⟩ xE ?_
  repeat'(first|apply Sp.h|refine Lk.r rfl ?_|refine Rf.mk rfl ?_|apply Im.mk|intro _)
  rename_i b5 _ bu _ _
  refine CA.loop (λx:Nat×List uM×Bool=>⟨[(5,pm b5),(8,.ow v),(10,.val (.map (some br))),(11,.val (.map (some bu))),(12,bl x.2.2),(64,xG (yw m)),(65,it ((yw m).length:Nat)),(66,it x.1)],
    [yb v 231 3 x.2.1 vD,u9 (x.2.1.map tj),vg Tryz.prog br 227 kvs HC,vg Tryz.prog bu 3 (j_ a.xu.yk) (λu:qh=>AV.agg (tL u)),yr b5 66 (uf e)]⟩)
   (λx=>x.1<=l.length/\x.2.1.map uM.g=(C.take x.1).map (·.2) ++ l.drop x.1/\(∀p∈C.take x.1,p.1=0∨p.1=8)/\(x.2.2=true↔∃p∈C.take x.1,p.1=8)) (λx=>l.length - x.1) (0,L0,false) xE ⟨zZ _,by simpa using hL,by simp,by simp⟩ ?_
  rintro⟨i,D,lg⟩ ⟨g1,g2,g3,g4⟩
  simp only at g1 g2 g3 g4
  simp only
  by_cases yd:i < l.length
  ·obtain⟨g,Oc⟩:=zz yd
   obtain⟨t,ew,PT⟩:=hg i g Oc
   have hq:C[i]?=some (yQ e t (uR a.xu.yk i) g):=by rw [hC];exact uY ew Oc
   have SY:(C.take i).length=i:=by have:=(zS.1 hq).1;simp;omega
   have Gw:(D.map uM.g)[i]?=some g:=by
    rw [g2,zJ zk,List.getElem?_drop,List.length_map,SY]
    simpa using Oc
   obtain⟨x,hx,V3⟩:∃x,D[i]?=some x/\x.g=g:=by
    rw [zG] at Gw
    cases hd:D[i]? with
    | none=>rw [hd] at Gw;cases Gw
    | some x=>rw [hd] at Gw;exact⟨x,rfl,by simpa using Gw⟩
   have Zy:=(zS.1 hx).1
   have ly:x.marks.length<=1024:=by have:=PT.1.2.2.2;rw [<-V3] at this;exact this
   have Li:kP x.marks:=by have:=PT.WY;rw [<-V3] at this;exact this
   have Xd:=sc t
   have C8:=Xx a.xu.yk i
   have oQ:∀c y,yQ e t (uR a.xu.yk i) g=(c,y)->c≠0->c≠8->wi C=(c,[]):=λc y h h0 h8=>Z0 (h▸hq) g3 h0 h8
   have wO:D.set i x=D:=by
    apply List.ext_getElem?
    intro j
    rw [List.getElem?_set]
    split
    ·rename_i hj;subst hj;first|rw [if_pos Zy,hx] | rw [hx]
    ·rfl
   (repeat'(first|(show CA _ _ (Code.block 3 _) _ _;apply z_.out)|apply Sp.h|refine Lk.r rfl ?_|refine Rf.mk rfl ?_|refine xA ?_|fail));any_goals apply z_.mk
   apply CA.Pr (l:=D) (g:=tj) (i:=i) (x:=x)
   focus(repeat constructor)
   focus exact hx
   refine CA.cut (λp:List uM×uM×Bool=>⟨[(5,pm b5),(8,.ow v),(10,.val (.map (some br))),(11,.val (.map (some bu))),(12,bl p.2.2),(64,xG (yw m)),(65,it ((yw m).length:Nat)),(66,it i)],
    [yb v 231 3 p.1 vD,tj p.2.1,u9 ((D.eraseIdx i).map tj),vg Tryz.prog br 227 kvs HC,vg Tryz.prog bu 3 (j_ a.xu.yk) (λu:qh=>AV.agg (tL u)),yr b5 66 (uf e)]⟩)
    (λp=>p.1=D.set i p.2.1/\p.2.1.g=(yQ e t (uR a.xu.yk i) g).2/\((yQ e t (uR a.xu.yk i) g).1=0/\p.2.2=lg∨(yQ e t (uR a.xu.yk i) g).1=8/\p.2.2=true)) ?_ ?_
   ·cases mM:uR a.xu.yk i with
    | none =>
     rw [mM] at C8
     rcases hz:yG vH [t.kind,0] with _|f0
     ·rw [<-ez] at hz
      repeat'(first|apply Sp.h|refine Lk.r rfl ?_|refine Rf.mk rfl ?_|refine xB ?_|apply yc.mk|refine xT ?_|refine xI ?_|refine Ch.l ⟨rfl,rfl⟩ ?_|(apply y4.r;focus repeat' constructor)|(apply Fk.r;focus repeat' first|infer_instance|constructor)|refine xN ?_|refine xK ?_|(apply Kf.mk;{exact z7})|refine xM ?_|(apply Zx.agg;{exact zu};{exact zu};{exact z1})|apply Zx.one|(apply sf.n;{exact zi})|intro _)
      all_goals exact PA.lp (D,x,lg) xE ⟨wO.symm,V3,.inl ⟨rfl,rfl⟩⟩
     ·rw [<-ez] at hz
      repeat'(first|apply Sp.h|refine Lk.r rfl ?_|refine Rf.mk rfl ?_|refine xB ?_|apply yc.mk|refine xT ?_|refine xI ?_|refine Ch.l ⟨rfl,rfl⟩ ?_|(apply y4.r;focus repeat' constructor)|(apply Fk.r;focus repeat' first|infer_instance|constructor)|refine xN ?_|refine xK ?_|(apply Kf.mk;{exact z7})|refine xM ?_|(apply Zx.agg;{exact zu};{exact zu};{exact z1})|(apply sf.s;{exact zi})|(apply sf.n;{exact zi})|intro _)
      all_goals exact PA.lp (D,x,lg) xE ⟨wO.symm,V3,.inl ⟨rfl,rfl⟩⟩
    | some u =>
     obtain⟨uk,uc,uv⟩:=u
     rw [mM] at C8 oQ
     rcases cG t.kind uk with hz|⟨k1,k2,hz⟩|⟨k1,k2,hz⟩|⟨k1,k2,hz⟩|⟨k1,k2,hz⟩|⟨k1,k2,hz⟩|⟨k1,k2,hz⟩
     ·have yS:=Zb (e:=e) (g:=g) (u:=(uk,uc,uv)) hz
      rw [<-ez] at hz
      repeat'(first|apply Sp.h|refine Lk.r rfl ?_|refine Rf.mk rfl ?_|refine xA ?_|refine xB ?_|apply yc.mk|refine xT ?_|refine xI ?_|refine Ch.l ⟨rfl,rfl⟩ ?_|(apply y4.r;focus repeat' constructor)|(apply Fk.r;focus repeat' first|infer_instance|constructor)|refine xN ?_|refine xK ?_|(apply Kf.mk;{exact z7})|refine xM ?_|apply Zx.one|(apply sf.s;{exact zi})|(apply sf.n;{exact zi})|intro _)
      all_goals exact PA.lp (D,x,lg) xE ⟨wO.symm,by rw [yS];exact V3,.inl ⟨by rw [yS],rfl⟩⟩
     ·have hr:¬x8 t.kind:=by unfold x8;omega
      have yS:yQ e t (some (uk,uc,uv)) g=((xo x.marks ⟨e.rep,e.num,e.time,0⟩).1,⟨x.put,x.drop,(xo x.marks ⟨e.rep,e.num,e.time,0⟩).2⟩):=by
       rw [<-V3];simp [yQ,k1,k2,x8,uM.g]
      have uK:=ZP v i e ⟨e.rep,e.num,e.time,0⟩ D x hx (Li.mono _) ly
      rw [<-ez] at hz
      repeat'(first|apply Sp.h|refine Lk.r rfl ?_|refine Rf.mk rfl ?_|refine xA ?_|refine xB ?_|refine yu.r rfl ?_|refine yc.mk λ_=>?_|refine xU ?_|refine xT ?_|refine xI ?_|refine Ch.l ⟨rfl,rfl⟩ ?_|(apply y4.r;focus repeat' constructor)|(apply Fk.r;focus repeat' first|infer_instance|constructor)|refine xN ?_|refine xK ?_|(apply Kf.mk;{exact z7})|refine xM ?_|(apply sf.s;{exact zi})|refine xD ?_|(apply Cl.p (Xd);focus repeat' constructor))
      refine xW (uK) ?_
      rintro _ _ ⟨w',rfl,rfl⟩
      repeat'(first|apply Sp.h|refine Lk.r rfl ?_|refine Rf.mk rfl ?_|apply Bd.mk|refine xN ?_|intro _)
      ·exact PA.lp (D.set i ⟨x.put,x.drop,w',(xo x.marks ⟨e.rep,e.num,e.time,0⟩).2⟩,⟨x.put,x.drop,w',(xo x.marks ⟨e.rep,e.num,e.time,0⟩).2⟩,lg) xE ⟨rfl,by rw [yS];rfl,.inl ⟨by rw [yS];assumption,rfl⟩⟩
      ·exact PA.lp (D.set i ⟨x.put,x.drop,w',(xo x.marks ⟨e.rep,e.num,e.time,0⟩).2⟩,⟨x.put,x.drop,w',(xo x.marks ⟨e.rep,e.num,e.time,0⟩).2⟩,true) xE ⟨rfl,by rw [yS];rfl,.inr ⟨by rw [yS];assumption,rfl⟩⟩
      ·rw [oQ _ _ yS z8 z8]
       exact⟨_,_,.yE (.same (.same (.z))),.inr ⟨by assumption,rfl,rfl⟩⟩
     ·have hr:¬x8 t.kind:=by unfold x8;omega
      have yS:yQ e t (some (uk,uc,uv)) g=(0,⟨false,x.drop,vl e.yj x.marks⟩):=by
       rw [<-V3];simp [yQ,k1,k2,uM.g]
      have uK:=IF v i e ⟨e.rep,e.num,e.time,0⟩ D x hx ly
      rw [<-ez] at hz
      repeat'(first|apply Sp.h|refine Lk.r rfl ?_|refine Rf.mk rfl ?_|refine xA ?_|refine xB ?_|refine yu.r rfl ?_|refine yc.mk λ_=>?_|refine xU ?_|refine xT ?_|refine xI ?_|refine Ch.l ⟨rfl,rfl⟩ ?_|(apply y4.r;focus repeat' constructor)|(apply Fk.r;focus repeat' first|infer_instance|constructor)|refine xN ?_|refine xK ?_|(apply Kf.mk;{exact z7})|refine xM ?_|(apply sf.s;{exact zi})|refine xD ?_|(apply Cl.p (Xd);focus repeat' constructor))
      refine xW (uK) ?_
      rintro _ _ ⟨rfl,w',rfl⟩
      repeat'(first|apply Sp.h|refine Lk.r rfl ?_|refine Rf.mk rfl ?_|refine xA ?_|fail)
      exact PA.lp (D.set i ⟨false,x.drop,w',vl e.yj x.marks⟩,⟨false,x.drop,w',vl e.yj x.marks⟩,lg) xE ⟨rfl,by rw [yS];rfl,.inl ⟨by rw [yS],rfl⟩⟩
     ·have hr:¬x8 t.kind:=by unfold x8;omega
      have yS:yQ e t (some (uk,uc,uv)) g=(0,⟨true,false,vl e.yj x.marks⟩):=by
       rw [<-V3];simp [yQ,k1,k2,uM.g]
      have uK:=En v i e ⟨e.rep,e.num,e.time,0⟩ D x hx ly
      rw [<-ez] at hz
      repeat'(first|apply Sp.h|refine Lk.r rfl ?_|refine Rf.mk rfl ?_|refine xA ?_|refine xB ?_|refine yu.r rfl ?_|refine yc.mk λ_=>?_|refine xU ?_|refine xT ?_|refine xI ?_|refine Ch.l ⟨rfl,rfl⟩ ?_|(apply y4.r;focus repeat' constructor)|(apply Fk.r;focus repeat' first|infer_instance|constructor)|refine xN ?_|refine xK ?_|(apply Kf.mk;{exact z7})|refine xM ?_|(apply sf.s;{exact zi})|refine xD ?_|(apply Cl.p (Xd);focus repeat' constructor))
      refine xW (uK) ?_
      rintro _ _ ⟨rfl,w',rfl⟩
      repeat'(first|apply Sp.h|refine Lk.r rfl ?_|refine Rf.mk rfl ?_|refine xA ?_|fail)
      exact PA.lp (D.set i ⟨true,false,w',vl e.yj x.marks⟩,⟨true,false,w',vl e.yj x.marks⟩,lg) xE ⟨rfl,by rw [yS];rfl,.inl ⟨by rw [yS],rfl⟩⟩
     ·have hr:¬x8 t.kind:=by unfold x8;omega
      have yS:yQ e t (some (uk,uc,uv)) g=((xo x.marks ⟨e.rep,e.num,e.time,0⟩).1,⟨x.put,x.drop,(xo x.marks ⟨e.rep,e.num,e.time,0⟩).2⟩):=by
       rw [<-V3];simp [yQ,k1,k2,x8,uM.g]
      have uK:=ZP v i e ⟨e.rep,e.num,e.time,0⟩ D x hx (Li.mono _) ly
      rw [<-ez] at hz
      repeat'(first|apply Sp.h|refine Lk.r rfl ?_|refine Rf.mk rfl ?_|refine xA ?_|refine xB ?_|refine yu.r rfl ?_|refine yc.mk λ_=>?_|refine xU ?_|refine xT ?_|refine xI ?_|refine Ch.l ⟨rfl,rfl⟩ ?_|(apply y4.r;focus repeat' constructor)|(apply Fk.r;focus repeat' first|infer_instance|constructor)|refine xN ?_|refine xK ?_|(apply Kf.mk;{exact z7})|refine xM ?_|(apply sf.s;{exact zi})|refine xD ?_|(apply Cl.p (Xd);focus repeat' constructor))
      refine xW (uK) ?_
      rintro _ _ ⟨w',rfl,rfl⟩
      repeat'(first|apply Sp.h|refine Lk.r rfl ?_|refine Rf.mk rfl ?_|apply Bd.mk|refine xN ?_|intro _)
      ·exact PA.lp (D.set i ⟨x.put,x.drop,w',(xo x.marks ⟨e.rep,e.num,e.time,0⟩).2⟩,⟨x.put,x.drop,w',(xo x.marks ⟨e.rep,e.num,e.time,0⟩).2⟩,lg) xE ⟨rfl,by rw [yS];rfl,.inl ⟨by rw [yS];assumption,rfl⟩⟩
      ·exact PA.lp (D.set i ⟨x.put,x.drop,w',(xo x.marks ⟨e.rep,e.num,e.time,0⟩).2⟩,⟨x.put,x.drop,w',(xo x.marks ⟨e.rep,e.num,e.time,0⟩).2⟩,true) xE ⟨rfl,by rw [yS];rfl,.inr ⟨by rw [yS];assumption,rfl⟩⟩
      ·rw [oQ _ _ yS z8 z8]
       exact⟨_,_,.yE (.same (.same (.z))),.inr ⟨by assumption,rfl,rfl⟩⟩
     ·have hr:x8 t.kind:=by unfold x8;omega
      have yS:yQ e t (some (uk,uc,uv)) g=((wN x.marks ⟨e.rep,e.num,e.time,uv⟩).1,⟨x.put,x.drop,(wN x.marks ⟨e.rep,e.num,e.time,uv⟩).2⟩):=by
       rw [<-V3];simp [yQ,k1,k2,x8,uM.g]
      have uK:=Io v i e ⟨e.rep,e.num,e.time,uv⟩ D x hx ly
      rw [<-ez] at hz
      repeat'(first|apply Sp.h|refine Lk.r rfl ?_|refine Rf.mk rfl ?_|refine xA ?_|refine yu.r rfl ?_|refine yc.mk λ_=>?_|refine xU ?_|refine xT ?_|refine xI ?_|refine Ch.l ⟨rfl,rfl⟩ ?_|refine xV ?_|(apply y4.r;focus repeat' constructor)|(apply Fk.r;focus repeat' first|infer_instance|constructor)|refine xN ?_|refine xK ?_|(apply Kf.mk;{exact z7})|refine xM ?_|(apply sf.s;{exact zi})|refine xD ?_|(apply Cl.p (Xd);focus repeat' constructor))
      refine xW (uK) ?_
      rintro _ _ ⟨rfl,w',rfl⟩
      repeat'(first|apply Sp.h|refine Lk.r rfl ?_|refine Rf.mk rfl ?_|apply Bd.mk|refine xN ?_|intro _)
      ·exact PA.lp (D.set i ⟨x.put,x.drop,w',(wN x.marks ⟨e.rep,e.num,e.time,uv⟩).2⟩,⟨x.put,x.drop,w',(wN x.marks ⟨e.rep,e.num,e.time,uv⟩).2⟩,lg) xE ⟨rfl,by rw [yS];rfl,.inl ⟨by rw [yS];assumption,rfl⟩⟩
      ·exact PA.lp (D.set i ⟨x.put,x.drop,w',(wN x.marks ⟨e.rep,e.num,e.time,uv⟩).2⟩,⟨x.put,x.drop,w',(wN x.marks ⟨e.rep,e.num,e.time,uv⟩).2⟩,true) xE ⟨rfl,by rw [yS];rfl,.inr ⟨by rw [yS];assumption,rfl⟩⟩
      ·rw [oQ _ _ yS z8 z8]
       exact⟨_,_,.yE (.same (.same (.z))),.inr ⟨by assumption,rfl,rfl⟩⟩
     ·have hr:x8 t.kind:=by unfold x8;omega
      have yS:yQ e t (some (uk,uc,uv)) g=((xo (vl e.yj x.marks) ⟨e.rep,e.num,e.time,uv⟩).1,⟨x.put,x.drop,(xo (vl e.yj x.marks) ⟨e.rep,e.num,e.time,uv⟩).2⟩):=by
       rw [<-V3];simp [yQ,k1,k2,x8,uM.g]
      have uK:=QJ v i e ⟨e.rep,e.num,e.time,uv⟩ D x hx ly ((Li.filter _).mono _)
      rw [<-ez] at hz
      repeat'(first|apply Sp.h|refine Lk.r rfl ?_|refine Rf.mk rfl ?_|refine xA ?_|refine yu.r rfl ?_|refine yc.mk λ_=>?_|refine xU ?_|refine xT ?_|refine xI ?_|refine Ch.l ⟨rfl,rfl⟩ ?_|refine xV ?_|(apply y4.r;focus repeat' constructor)|(apply Fk.r;focus repeat' first|infer_instance|constructor)|refine xN ?_|refine xK ?_|(apply Kf.mk;{exact z7})|refine xM ?_|(apply sf.s;{exact zi})|refine xD ?_|(apply Cl.p (Xd);focus repeat' constructor))
      refine xW (uK) ?_
      rintro _ _ ⟨rfl,w',rfl⟩
      repeat'(first|apply Sp.h|refine Lk.r rfl ?_|refine Rf.mk rfl ?_|apply Bd.mk|refine xN ?_|intro _)
      ·exact PA.lp (D.set i ⟨x.put,x.drop,w',(xo (vl e.yj x.marks) ⟨e.rep,e.num,e.time,uv⟩).2⟩,⟨x.put,x.drop,w',(xo (vl e.yj x.marks) ⟨e.rep,e.num,e.time,uv⟩).2⟩,lg) xE ⟨rfl,by rw [yS];rfl,.inl ⟨by rw [yS];assumption,rfl⟩⟩
      ·exact PA.lp (D.set i ⟨x.put,x.drop,w',(xo (vl e.yj x.marks) ⟨e.rep,e.num,e.time,uv⟩).2⟩,⟨x.put,x.drop,w',(xo (vl e.yj x.marks) ⟨e.rep,e.num,e.time,uv⟩).2⟩,true) xE ⟨rfl,by rw [yS];rfl,.inr ⟨by rw [yS];assumption,rfl⟩⟩
      ·rw [oQ _ _ yS z8 z8]
       exact⟨_,_,.yE (.same (.same (.z))),.inr ⟨by assumption,rfl,rfl⟩⟩
   ·rintro⟨D',x',lg'⟩ ⟨Ck,c_,hc⟩
    simp only at Ck c_ hc
    subst Ck
    simp only
    have ba:C.take (i+1)=C.take i ++ [yQ e t (uR a.xu.yk i) g]:=by rw [zK,hq];rfl
    have SH:l.drop i=g :: l.drop (i+1):=by
     have h9:=List.drop_eq_getElem_cons yd
     rw [(zS.1 Oc).2] at h9
     exact h9
    have hA:(D.set i x').map uM.g=(C.take (i+1)).map (·.2) ++ l.drop (i+1):=by
     rw [List.map_set,g2,c_,SH,List.set_append,if_neg (by rw [List.length_map,SY];omega),List.length_map,SY,Nat.sub_self,List.set_cons_zero,ba]
     simp
    have hB:∀p∈C.take (i+1),p.1=0∨p.1=8:=λp hp=>by
     rw [ba] at hp
     rcases zV.1 hp with h9|h9
     ·exact g3 p h9
     ·rw [zH.1 h9]
      exact hc.imp (·.1) (·.1)
    have hE:lg'=true↔∃p∈C.take (i+1),p.1=8:=by
     rw [ba]
     rcases hc with⟨c1,rfl⟩|⟨c1,rfl⟩
     ·rw [g4]
      constructor
      ·rintro⟨p,hp,h8⟩
       exact⟨p,by simp [hp],h8⟩
      ·rintro⟨p,hp,h8⟩
       rcases zV.1 hp with h9|h9
       ·exact⟨p,h9,h8⟩
       ·rw [zH.1 h9,c1] at h8;cases h8
     ·exact⟨λ_=>⟨_,by simp,c1⟩,λ_=>rfl⟩
    (repeat'(first|(show CA _ _ (Code.region 28 _ _) _ _;apply z_.out)|apply Sp.h|fail));any_goals apply z_.mk
    apply CA.IX (l:=D) (g:=tj) (i:=i) (x:=x')
    focus(repeat constructor)
    focus(repeat constructor)
    focus exact Zy
    repeat'(first|apply Sp.h|refine Lk.r rfl ?_|refine Rf.mk rfl ?_|refine xO ?_|fail)
    exact PA.lp (i+1,D.set i x',lg') xE ⟨⟨yd,hA,hB,hE⟩,by simp only;omega⟩
  ·have vk:i=l.length:=z6
   subst vk
   have MW:C.length=l.length:=by rw [hC];exact vK
   rw [<-MW,zL] at g3 g4
   rw [<-MW,zL,MW,List.drop_length,List.append_nil] at g2
   cases lg with
   | true =>
    have hG:wi C=(8,[]):=by rw [u_ g3,if_pos (g4.1 rfl)]
    rw [hG]
    repeat'(first|apply Sp.h|refine Lk.r rfl ?_|refine Rf.mk rfl ?_|refine xB ?_|refine xN ?_|fail)
    exact⟨_,_,.yE (.same (.same (.z))),.inr ⟨by decide,rfl,rfl⟩⟩
   | false =>
    have hG:wi C=(0,C.map (·.2)):=by rw [u_ g3,if_neg (λh9=>by have:=g4.2 h9;cases this)]
    rw [hG]
    repeat'(first|apply Sp.h|refine Lk.r rfl ?_|refine Rf.mk rfl ?_|refine xB ?_|refine xN ?_|fail)
    exact⟨_,_,.yE (.same (.same (.z))),.inl ⟨v,D,rfl,rfl,rfl,g2⟩⟩
end Go.Proofs.YtmjllbjfkafhdaaGreatDoor
set_option maxRecDepth 100000
set_option maxHeartbeats 80000000
namespace Go.Proofs.YtmjllbjfkafhdaaGreatDoor
open Go Go.CF
structure yt where
 clock:List Int
 time:Int
 state:List Int
 merged:List xp
 places:List Int
def oS(c:List Int)(e:yo):List Int:=c.set e.rep.toNat (max (c[e.rep.toNat]?.getD 0) e.num)
def bU(m:y8)(e:yo):List (Int×Int):=match m.yP[e.action.toNat]? with
 | some a=>a.xu.delta
 | none=> []
def o3(s:List Int)(p:Int×Int):List Int:=s.set p.1.toNat (IntKind.i64.wrap ((s[p.1.toNat]?.getD 0)+p.2))
def vF(s:List Int)(d:List (Int×Int)):List Int:=d.foldl o3 s
def xY(m:y8)(s:List Int)(e:yo):List Int:=if e.kind=0 then vF s (bU m e) else s
def lC(l:List Int):Prop:=∀x∈l,-1000000000<=x/\x<=1000000000
noncomputable instance (l:List Int):Decidable (lC l):=zC _
def tF(l:List Int)(n:Int):List Int:=if n∈l then l else l.filter (· < n) ++ n :: l.filter (n < ·)
def lv(l:List Int)(e:yo):List Int:=if 0 < e.place then tF l e.place else l
def iT(vm:List yo)(e:yo):Prop:=∃x∈vm,x9 e.yj x.rep x.num/\e.time<=x.time
noncomputable instance (vm:List yo) (e:yo):Decidable (iT vm e):=zC _
noncomputable def yA(m:y8)(vm:List yo)(w:yt)(e:yo):Int×yt :=
 if¬rE m (w.clock.length:Nat) e then(1,w)
 else if x9 w.clock e.rep e.num then(6,w)
 else if¬Ins e.yj w.clock then(9,w)
 else if iT vm e then(2,w)
 else if e.kind=0/\¬lC (xY m w.state e) then(2,w)
 else if(yq m w.merged e).1≠0 then((yq m w.merged e).1,w)
 else(0,⟨oS w.clock e,max w.time e.time,xY m w.state e,(yq m w.merged e).2,lv w.places e⟩)
def nS:xp:=⟨false,false,[]⟩
theorem EY(m:y8)(hm:xS m.y9 m.tables):y6 Tryz.prog 89 [wH m] (uH (List.replicate (yw m).length nS)):=by
 have hc:=kj m hm
 have hle:=lX hm
 refine zy.conv (a:= .sl 3 (List.replicate (yw m).length ()) λ_=> [bl false,bl false,.val (.slice none 0 0)]) (wV.sl zd λi x y _ hy=>?_) (zy.fz (T:=231) zk ?_)
 ·have:y=nS:=(List.mem_replicate.1 (zM hy)).2
  subst this
  exact .cons (wV.refl _) (.cons (wV.refl _) (.cons wV.nil .nil))
 ·refine zy.of pg ye Tryz.func89 rfl Tryz.ntmps89 Tryz.results89 rfl λh0 G0 O0=>?_
  repeat'(first|apply Sp.h|refine Lk.r rfl ?_|refine Rf.mk rfl ?_|refine Im.mk λ_=>?_|refine yc.mk λ_=>?_|refine xT ?_|refine Ch.l ⟨rfl,rfl⟩ ?_|refine xN ?_|refine Rf.mk ⟨rfl,rfl,rfl⟩ ?_|(apply Jx.r;{exact zj};{exact zb})|(apply Cl.p (hc);focus repeat' constructor))
  refine CF.yC.r (λ_:Unit=> [bl false,bl false,.val (.slice none 0 0)]) () rfl ?_
  repeat'(first|apply Sp.h|refine Lk.r rfl ?_|apply yc.mk|refine xN ?_|intro _)
  exact⟨_,_,.one (.same (.z)),_,rfl,rfl⟩
abbrev tz:AV:= .val (.slice none 0 0)
theorem Dv(b:Bool):zy Tryz.prog 231 [bl b] [] λr own=>∃v,r= .ow v/\own= [yb v 3 1 [[it (if b=true then 1 else 0)]] id]:=by
 refine zy.of pg ye Tryz.func231 rfl Tryz.ntmps231 Tryz.results231 rfl λh0 G0 O0=>?_
 cases b with
 | true =>
  repeat'(first|apply Sp.h|refine Lk.r rfl ?_|refine Rf.mk rfl ?_|apply yc.mk|(apply Fk.r;focus repeat' first|infer_instance|constructor)|refine xN ?_|refine Rf.mk ⟨rfl,rfl,rfl⟩ ?_|intro _)
  exact⟨_,_,.one (.same (.z)),_,rfl,rfl⟩
 | false =>
  repeat'(first|apply Sp.h|refine Lk.r rfl ?_|refine Rf.mk rfl ?_|apply yc.mk|(apply Fk.r;focus repeat' first|infer_instance|constructor)|refine xN ?_|refine Rf.mk ⟨rfl,rfl,rfl⟩ ?_|intro _)
  exact⟨_,_,.one (.same (.z)),_,rfl,rfl⟩
theorem dq(b:Bool):y6 Tryz.prog 231 [bl b] (ints [if b=true then 1 else 0]) :=
 zy.fx (Dv b) λ_ _ ⟨_,e1,e2⟩=>by
  subst e1;subst e2
  exact .sl .here (zB rfl) (.agg (.le (wV.refl _) .nil) .nil) .nil
def eG(t:ym)(g:xp):Bool:=if t.kind=2 then g.put || decide (0 < g.marks.length) else g.put && !g.drop && decide (g.marks.length=0)
def ia(t:ym)(g:xp):List Int:= [if eG t g=true then 1 else 0]
theorem Xq(t:ym)(g:xp)(h:t.kind=2∨t.kind=3):y6 Tryz.prog 193 [.agg (v8 t),.agg (jN g)] (ints (ia t g)):=by
 obtain⟨put,drop,l⟩:=g
 rcases h with h|h
 ·have hB:eG t ⟨put,drop,l⟩=(put || decide (0 < l.length)):=if_pos h
  refine zy.of pg ye Tryz.func193 rfl Tryz.ntmps193 Tryz.results193 rfl λh0 G0 O0=>?_
  cases put with
  | true =>
   repeat'(first|apply Sp.h|refine Lk.r rfl ?_|refine Rf.mk rfl ?_|refine xA ?_|refine yc.mk λ_=>?_|refine xT ?_|refine xN ?_|(apply Cl.p (dq _);focus repeat' constructor))
   exact Fin.p rfl (congrArg ints (by unfold ia;rw [hB];simp))
  | false =>
   repeat'(first|apply Sp.h|refine Lk.r rfl ?_|refine Rf.mk rfl ?_|refine xA ?_|refine Im.mk λ_=>?_|refine yc.mk λ_=>?_|refine xT ?_|refine xN ?_|(apply Cl.p (dq _);focus repeat' constructor))
   exact Fin.p rfl (congrArg ints (by unfold ia;rw [hB];simp))
 ·have hB:eG t ⟨put,drop,l⟩=(put && !drop && decide (l.length=0)):=if_neg z6
  refine zy.of pg ye Tryz.func193 rfl Tryz.ntmps193 Tryz.results193 rfl λh0 G0 O0=>?_
  cases put with
  | true =>
   cases drop with
   | true =>
    repeat'(first|apply Sp.h|refine Lk.r rfl ?_|refine Rf.mk rfl ?_|refine xA ?_|refine xB ?_|refine yc.mk λ_=>?_|refine xT ?_|refine xN ?_|(apply Cl.p (dq _);focus repeat' constructor))
    exact Fin.p rfl (congrArg ints (by unfold ia;rw [hB];simp))
   | false =>
    repeat'(first|apply Sp.h|refine Lk.r rfl ?_|refine Rf.mk rfl ?_|refine xA ?_|refine xB ?_|refine Im.mk λ_=>?_|refine yc.mk λ_=>?_|refine xT ?_|refine xN ?_|(apply Cl.p (dq _);focus repeat' constructor))
    exact Fin.p rfl (congrArg ints (by unfold ia;rw [hB];simp))
  | false =>
   repeat'(first|apply Sp.h|refine Lk.r rfl ?_|refine Rf.mk rfl ?_|refine xA ?_|refine xB ?_|refine yc.mk λ_=>?_|refine xT ?_|refine xN ?_|(apply Cl.p (dq _);focus repeat' constructor))
   exact Fin.p rfl (congrArg ints (by unfold ia;rw [hB];simp))
def tR:ym:=⟨⟨#[114]⟩,3,[],0,1,1⟩
def k1:yC:=⟨0,1,1,0⟩
def k2:yC:=⟨1,1,1,0⟩
def k3:yC:=⟨0,2,2,0⟩
def L0:List xp:= [nS,nS]
def L1:List xp:= [⟨false,false,[k1]⟩,⟨true,false,[]⟩]
def L2:List xp:= [⟨false,false,[k1]⟩,⟨true,false,[k2]⟩]
theorem U7{v:Value}{L:List uM}(hl:L.length<=1000000)(hm:∀x∈L,x.marks.length<=1000000){l l':List AV}{own:List yh}(ht:FX [] l l' own):FX (Rk v L) (.ow v :: l) (uH (L.map uM.g) :: l') own:=by
 refine .sl .here z6 (.PJ .here ?_) ht
 refine FX.rows (o:= []) (r:=tj) (f:=vD) (g:=jN) (φ:=uM.g) L λx hx o'=>?_
 have:=hm x hx
 exact .le (wV.refl _) (.le (wV.refl _) (.sl .here z6 (FX.refl _) .nil))
theorem WE(m:y8)(l:List xp)(e:yo)(F:List xp)(hm:nR m)(hF:yq m l e=(0,F))(hl:F.length<=1000000)(hk:∀g∈F,g.marks.length<=1000000) :
  y6 Tryz.prog 105 [wH m,uH l,uL e] (.yE [uH F,it 0]):=by
 refine zy.fx (YF m l e hm) ?_
 rw [hF]
 rintro r o (⟨v,L,_,rfl,rfl,hL⟩|⟨h,_⟩)
 ·have hL:L.map uM.g=F:=hL
  subst hL
  exact .yE (U7 (by simpa using hl) (λx hx=>hk x.g (List.mem_map_of_mem hx)) (FX.refl _)) .nil
 ·exact absurd rfl h
theorem Yb{v:Value}{L:List uM}{o rest r7:List yh}(MD:Take o (yb v 231 3 L vD) rest)(Sj:Take rest (u9 (L.map tj)) r7)(hl:L.length<=1000000)(hm:∀x∈L,x.marks.length<=1000000){l l':List AV}{own:List yh}(ht:FX r7 l l' own):FX o (.ow v :: l) (uH (L.map uM.g) :: l') own:=by
 refine .sl MD z6 (.PJ Sj ?_) ht
 refine FX.rows (o:=r7) (r:=tj) (f:=vD) (g:=jN) (φ:=uM.g) L λx hx o'=>?_
 have:=hm x hx
 exact .le (wV.refl _) (.le (wV.refl _) (.sl .here z6 (FX.refl _) .nil))
theorem jt(l:List yC)(m:yC):(xo l m).2.length<=l.length+1:=by
 unfold xo
 split
 ·simp
 ·split
  ·simp
  ·simp [vU];omega
theorem Ww{e:yo}{t:ym}{u:Option qh}{g:xp}:(yQ e t u g).2.marks.length<=g.marks.length+1:=by
 have hf:(vl e.yj g.marks).length<=g.marks.length:=List.length_filter_le _ _
 match u with
 | none=>simp [yQ]
 | some u =>
  simp only [yQ]
  split
  ·exact jt _ _
  ·split
   ·simp only;omega
   ·split
    ·simp only;omega
    ·split
     ·simp only
      match hg:g.marks with
      | []=>exact jt _ _
      | x :: r=>simp only [wN];repeat' split <;> simp
     ·split
      ·simp only
       have:=jt (vl e.yj g.marks) ⟨e.rep,e.num,e.time,if x8 t.kind then u.2.2 else 0⟩
       omega
      ·simp
theorem mL{m:y8}{l:List xp}{e:yo}(h:(yq m l e).1=0):vX (yw m) l/\rE m (e.yj.length:Nat) e/\(yq m l e).2.length=l.length/\
  (∀(i:Nat) g,l[i]?=some g->(e.kind=0->uR (lr m e) i=none)->(yq m l e).2[i]?=some g)/\∀g∈(yq m l e).2,g.marks.length<=1000000:=by
 have hv:vX (yw m) l/\rE m (e.yj.length:Nat) e:=Classical.byContradiction λh9=>by
  rw [yq,if_pos h9] at h
  cases h
 have PZ:∀(i:Nat) g,l[i]?=some g->∃t,(yw m)[i]?=some t/\sx t g:=λi g hi=>by
  obtain⟨t,ht⟩:=zz (l:=yw m) (i:=i) (by have:=hv.1.1;have:=(zS.1 hi).1;omega)
  exact⟨t,ht,hv.1.2 i t g ht hi⟩
 refine⟨hv.1,hv.2, ?_⟩
 by_cases hk:e.kind=0
 rotate_left
 ·have hF:yq m l e=(0,l):=by rw [yq,if_neg (λh9=>h9 hv),if_pos hk]
  rw [hF]
  refine⟨rfl,λi g hg _=>hg,λg hg=>?_⟩
  obtain⟨i,hi⟩:=zO hg
  obtain⟨t,_,h9⟩:=PZ i g hi
  have:=h9.1.2.2.2
  omega
 have hF:yq m l e=wi (vi (yw m) l (lr m e) e):=by rw [yq,if_neg (λh9=>h9 hv),if_neg (λh9=>h9 hk)]
 rw [hF] at h
 have hG:wi (vi (yw m) l (lr m e) e)=(0,(vi (yw m) l (lr m e) e).map (·.2)):=by
  unfold wi at h ⊢
  cases hf:(vi (yw m) l (lr m e) e).find? λp=>decide (p.1≠0/\p.1≠8) with
  | some p =>
   have:=List.find?_some hf
   rw [hf] at h
   simp at this
   exact absurd h this.1
  | none =>
   rw [hf] at h
   simp only at h ⊢
   split at h
   ·cases h
   ·rename_i h9;rw [if_neg h9]
 rw [hF,hG]
 refine⟨by simp [vK],λi g hg hu=>?_,λg hg=>?_⟩
 ·obtain⟨t,ht,_⟩:=PZ i g hg
  rw [zG,uY ht hg,hu hk]
  rfl
 ·obtain⟨p,hp,rfl⟩:=List.mem_map.1 hg
  obtain⟨i,hi⟩:=zO hp
  have qf:=(zS.1 hi).1
  rw [vK] at qf
  obtain⟨x,hx⟩:=zz qf
  obtain⟨t,ht,h9⟩:=PZ i x hx
  rw [uY ht hx] at hi
  cases hi
  have h1:=Ww (e:=e) (t:=t) (u:=uR (lr m e) i) (g:=x)
  have:=h9.1.2.2.2
  omega
/-! ### cA in numbers -/
theorem Tn{g:FuncId}{p:Int->Bool}(hg:∀x,y6 Tryz.prog g [it x] (bl (p x)))(he:en g=true)(l:List Int) :
  y6 Tryz.prog 203 [ints l,.fn g []] (it (wW p l)):=by
 refine zy.of pg ye Tryz.func203 rfl Tryz.ntmps203 Tryz.results203 rfl λh0 G0 O0=>?_
 repeat'(first|apply Sp.h|refine Lk.r rfl ?_|refine Rf.mk rfl ?_|apply Im.mk|intro _)
 refine CA.loop (λi:Nat=>⟨[(0,ints l),(1,.fn g []),(7,it (l.length:Nat)),(8,it i)],[]⟩)
  (λi=>i<=l.length/\∀j y,j < i->l[j]?=some y->p y=false) (λi=>l.length - i) 0 xE ⟨zZ _,λj y h=>z6⟩ ?_
 rintro i ⟨hi,hj⟩
 by_cases yd:i < l.length
 ·obtain⟨e,hx⟩:=zz yd
  repeat'(first|apply Sp.h|refine Lk.r rfl ?_|refine Rf.mk rfl ?_|refine xA ?_|(refine Bd.mk ?_ ?_ <;> intro _)|refine xI ?_|refine xN ?_|(apply Rf.mk;{exact z8})|refine xO ?_|(apply Cl.p (hg e);focus repeat' constructor))
  ·rename_i hp
   exact Fin.p rfl (by rw [wW,uA hx hp hj,if_pos yd])
  ·rename_i hp
   refine PA.lp (i+1) xE ⟨⟨yd,λj y h1 h2=>?_⟩,z6⟩
   by_cases u5:j=i
   ·subst u5;rw [hx] at h2;cases h2;simpa using hp
   ·exact hj j y z6 h2
 ·repeat'(first|apply Sp.h|refine Lk.r rfl ?_|refine Rf.mk rfl ?_|refine xB ?_|refine xN ?_|fail)
  exact Fin.p rfl (by rw [wW,wL (λx hx=>by obtain⟨j,hx⟩:=zO hx;exact hj j x (by have:=(zS.1 hx).1;omega) hx),if_neg z6])
theorem cQ{g:FuncId}{p:Int->Bool}(hg:∀x,y6 Tryz.prog g [it x] (bl (p x)))(he:en g=true)(l:List Int) :
  y6 Tryz.prog 152 [ints l,.fn g []] (bl (decide (xw p l < l.length))):=by
 refine zy.of pg ye Tryz.func152 rfl Tryz.ntmps152 Tryz.results152 rfl λh0 G0 O0=>?_
 repeat'(first|apply Sp.h|refine Lk.r rfl ?_|refine Rf.mk rfl ?_|refine xN ?_|(apply Cl.p (Tn hg he l);focus repeat' constructor))
 refine Fin.p rfl (vb (zD.2 ?_))
 unfold wW
 split <;> omega
theorem Wb(x:Int):y6 Tryz.prog 153 [it x] (bl (decide (¬(-1000000000<=x/\x<=1000000000)))):=by
 refine zy.of pg ye Tryz.func153 rfl Tryz.ntmps153 Tryz.results153 rfl λh0 G0 O0=>?_
 repeat'(first|apply Sp.h|refine Lk.r rfl ?_|refine Rf.mk rfl ?_|refine xA ?_|refine xB ?_|apply Bd.mk|refine xN ?_|intro _)
 all_goals exact Fin.p rfl (vb (by first|exact(zT z6).symm|exact(zF z6).symm|exact zD.2 z6))
theorem ou(l:List Int):y6 Tryz.prog 86 [ints l] (bl (decide (lC l))):=by
 refine zy.of pg ye Tryz.func86 rfl Tryz.ntmps86 Tryz.results86 rfl λh0 G0 O0=>?_
 repeat'(first|apply Sp.h|refine Lk.r rfl ?_|refine Rf.mk rfl ?_|refine xN ?_|(apply Cl.p (cQ Wb rfl l);focus repeat' constructor))
 refine Fin.p rfl (vb (zD.2 ?_))
 rw [kd]
 constructor
 ·intro h x hx
  exact Classical.byContradiction λh9=>h ⟨x,hx,zT h9⟩
 ·rintro h ⟨x,hx,h9⟩
  have:=h x hx
  have:=of_decide_eq_true h9
  omega
/-! ### z0K -/
theorem cr(l:List xp)(hl:l.length<=1000000)(hm:∀g∈l,g.marks.length<=1000000) :
  zy Tryz.prog 107 [uH l] [] λr own=>∃v L,r= .ow v/\L.map uM.g=l/\own=Rk v L:=by
 have hc:=cu l z6
 refine zy.of pg ye Tryz.func107 rfl Tryz.ntmps107 Tryz.results107 rfl λh0 G0 O0=>?_
 repeat'(first|apply Sp.h|refine Lk.r rfl ?_|refine Rf.mk rfl ?_|fail)
 (refine Cl.use (hc) (by repeat'(first|exact y3.nil|apply y3.yB|fail)) .nil rfl ?_;rintro _ _ ⟨_,rfl,rfl⟩)
 repeat'(first|apply Sp.h|refine Lk.r rfl ?_|refine Rf.mk rfl ?_|refine xU ?_|fail)
 rename_i v
 apply CA.yR (m:=l.map gM) (g:=ME)
 focus(repeat constructor)
 focus exact Yd l
 refine CA.o9 tj ?_
 refine CA.loop (λx:Nat×List uM=>⟨[(3,.ow v),(8,it (l.length:Nat)),(9,it x.1)],[yb v 231 3 (x.2.map V0 ++ (l.drop x.1).map gM) ME,u9 (x.2.map tj)]⟩)
  (λx=>x.1<=l.length/\x.2.map uM.g=l.take x.1) (λx=>l.length - x.1) (0,[]) xE ⟨zZ _,by simp⟩ ?_
 rintro⟨i,D⟩ ⟨hi,hD⟩
 simp only at hi hD
 simp only
 by_cases yd:i < l.length
 ·obtain⟨g,hg⟩:=zz yd
  have Ob:=hm g (zM hg)
  have Zy:D.length=i:=by have:=congrArg List.length hD;simp at this;omega
  have SH:(l.drop i).map gM=gM g :: (l.drop (i+1)).map gM:=by
   have h9:=List.drop_eq_getElem_cons yd
   rw [(zS.1 hg).2] at h9
   rw [h9,List.map_cons]
  have tN:(D.map V0 ++ (l.drop i).map gM)[i]?=some (g.put,g.drop,oK g.marks):=by
   rw [SH,zJ zk];simp [Zy,gM]
  have ue:=ct g.marks z6
  repeat'(first|apply Sp.h|refine Lk.r rfl ?_|refine Rf.mk rfl ?_|refine xA ?_|refine xU ?_|refine xI ?_|refine xJ ?_|fail)
  (refine Cl.use (ue) (by repeat'(first|exact y3.nil|apply y3.yB|fail)) .nil rfl ?_;rintro _ _ ⟨_,rfl,rfl⟩)
  (repeat'(first|(show CA _ _ (Code.region 6 _ _) _ _;apply z_.out)|apply Sp.h|refine Lk.r rfl ?_|refine Rf.mk rfl ?_|refine xU ?_|refine xI ?_|refine xJ ?_|refine xV ?_|(apply Up.inv;{exact z1};{exact zh})|fail));any_goals apply z_.mk
  rename_i w2
  have pC:(D.map V0 ++ (l.drop i).map gM).set i (g.put,g.drop,.ow w2)=(D ++ [(uM.mk g.put g.drop w2 g.marks)]).map V0 ++ (l.drop (i+1)).map gM:=by
   rw [SH,List.set_append,if_neg zk]
   simp [Zy,V0]
  rw [pC]
  apply CA.tU (g:=tj) (x:=(uM.mk g.put g.drop w2 g.marks))
  focus(repeat constructor)
  focus(repeat constructor)
  repeat'(first|apply Sp.h|refine Lk.r rfl ?_|refine Rf.mk rfl ?_|refine xO ?_|fail)
  exact PA.lp (i+1,D ++ [(uM.mk g.put g.drop w2 g.marks)]) xE ⟨⟨yd,by simp only;rw [List.map_append,hD,zK,hg];rfl⟩,by simp only;omega⟩
 ·have vk:i=l.length:=z6
  subst vk
  rw [zL] at hD
  rw [List.drop_length,List.map_nil,List.append_nil]
  (repeat'(first|(show CA _ _ (Code.region 7 _ _) _ _;apply z_.out)|apply Sp.h|refine Lk.r rfl ?_|refine Rf.mk rfl ?_|refine xB ?_|fail));any_goals apply z_.mk
  apply CA.yR (m:=D) (g:=vD)
  focus(repeat constructor)
  focus exact Ye D
  repeat'(first|apply Sp.h|refine Lk.r rfl ?_|refine Rf.mk rfl ?_|refine xN ?_|fail)
  exact⟨_,_,.one (.same (.z)),_,D,rfl,hD,rfl⟩
theorem TZ(l:List xp)(hl:l.length<=1000000)(hm:∀g∈l,g.marks.length<=1000000):y6 Tryz.prog 107 [uH l] (uH l):=by
 refine zy.fx (cr l hl hm) ?_
 rintro r o ⟨v,L,rfl,rfl,rfl⟩
 exact U7 (by simpa using hl) (λx hx=>hm x.g (List.mem_map_of_mem hx)) .nil
theorem TY(l:List yo)(hl:l.length<=1000000000):tJ Tryz.prog 157 [vm l] 66 13 l uf:=by
 refine zy.of pg ye Tryz.func157 rfl Tryz.ntmps157 Tryz.results157 rfl λh0 G0 O0=>?_
 repeat'(first|apply Sp.h|refine Lk.r rfl ?_|refine Rf.mk rfl ?_|apply Bd.mk|refine xP ?_|apply Im.mk|apply yc.mk|refine xU ?_|refine Ce.l rfl ?_|(apply Fk.r;focus repeat' first|infer_instance|constructor)|refine xN ?_|refine Rf.mk ⟨rfl,rfl⟩ ?_|refine Rf.mk ⟨rfl,rfl,rfl⟩ ?_|refine Mp.same ?_|intro _)
 ·rename_i b hb YX
  have eg:l= []:=Decidable.byContradiction λh=>by rw [hb h] at YX;cases YX
  subst eg
  exact⟨_,_,.one (.vC (.z)),_,rfl,rfl⟩
 ·repeat'(first|fail)
  exact⟨_,_,.one (.same (.z)),_,rfl,rfl⟩
structure bL where
 e:yo
 w:Value
def evQ(e:yo)(p:AV):List AV:= [iv e.rep,iv e.num,iv e.time,p,iv e.kind,iv e.action,iv e.gk,iv e.gi,iv e.ge,iv e.ga,iv e.to,iv e.place,iv e.wx]
def RC(x:bL):List AV:=evQ x.e (.ow x.w)
abbrev Vq (x:bL):yh:=yb x.w 3 1 x.e.yj xL
def HR(x:yo×AV):List AV:=evQ x.1 x.2
instance {e:yo} {p:AV}:Inv HR [iv e.rep,iv e.num,iv e.time,p,iv e.kind,iv e.action,iv e.gk,iv e.gi,iv e.ge,iv e.ga,iv e.to,iv e.place,iv e.wx] (e,p):=⟨rfl⟩
def Hd(x:bL):yo×AV:=(x.e,.ow x.w)
def Sn(e:yo):yo×AV:=(e,ints e.yj)
theorem Qz(l:List bL):l.map RC=(l.map Hd).map HR:=by rw [List.map_map];rfl
theorem Qy(l:List yo):(l.map Sn).map HR=l.map uf:=by rw [List.map_map];rfl
abbrev Lc (v:Value) (L:List bL):List yh:= [yb v 66 13 L RC,u9 (L.map Vq)]
theorem Yc{v:Value}{L:List bL}(hl:L.length<=1000000)(hm:∀x∈L,x.e.yj.length<=1000000){l l':List AV}{o own:List yh}(ht:FX o l l' own):FX (Lc v L ++ o) (.ow v :: l) (vm (L.map bL.e) :: l') own:=by
 refine .sl .here z6 (.PJ .here ?_) ht
 refine FX.rows (o:=o) (r:=Vq) (f:=RC) (g:=uf) (φ:=bL.e) L λx hx o'=>?_
 have:=hm x hx
 exact .le (wV.refl _) (.le (wV.refl _) (.le (wV.refl _) (.sl .here z6 (FX.refl _) (FX.refl _))))
theorem gE(l:List yo)(hl:l.length<=1000000)(hm:∀e∈l,e.yj.length<=1000000) :
  zy Tryz.prog 99 [vm l] [] λr own=>∃v L,r= .ow v/\L.map bL.e=l/\own=Lc v L:=by
 have hc:=TY l z6
 refine zy.of pg ye Tryz.func99 rfl Tryz.ntmps99 Tryz.results99 rfl λh0 G0 O0=>?_
 repeat'(first|apply Sp.h|refine Lk.r rfl ?_|refine Rf.mk rfl ?_|fail)
 (refine Cl.use (hc) (by repeat'(first|exact y3.nil|apply y3.yB|fail)) .nil rfl ?_;rintro _ _ ⟨_,rfl,rfl⟩)
 repeat'(first|apply Sp.h|refine Lk.r rfl ?_|refine Rf.mk rfl ?_|refine xU ?_|fail)
 rename_i v
 apply CA.yR (m:=l.map Sn) (g:=HR)
 focus(repeat constructor)
 focus exact Qy l
 refine CA.o9 Vq ?_
 refine CA.loop (λx:Nat×List bL=>⟨[(3,.ow v),(8,it (l.length:Nat)),(9,it x.1)],[yb v 66 13 (x.2.map Hd ++ (l.drop x.1).map Sn) HR,u9 (x.2.map Vq)]⟩)
  (λx=>x.1<=l.length/\x.2.map bL.e=l.take x.1) (λx=>l.length - x.1) (0,[]) xE ⟨zZ _,by simp⟩ ?_
 rintro⟨i,D⟩ ⟨hi,hD⟩
 simp only at hi hD
 simp only
 by_cases yd:i < l.length
 ·obtain⟨g,hg⟩:=zz yd
  have Ob:=hm g (zM hg)
  have Zy:D.length=i:=by have:=congrArg List.length hD;simp at this;omega
  have SH:(l.drop i).map Sn=Sn g :: (l.drop (i+1)).map Sn:=by
   have h9:=List.drop_eq_getElem_cons yd
   rw [(zS.1 hg).2] at h9
   rw [h9,List.map_cons]
  have tN:(D.map Hd ++ (l.drop i).map Sn)[i]?=some (g,ints g.yj):=by
   rw [SH,zJ zk];simp [Zy,Sn]
  have ue:=ud g.yj z6
  repeat'(first|apply Sp.h|refine Lk.r rfl ?_|refine Rf.mk rfl ?_|refine xA ?_|refine xU ?_|refine xI ?_|refine xJ ?_|fail)
  (refine Cl.use (ue) (by repeat'(first|exact y3.nil|apply y3.yB|fail)) .nil rfl ?_;rintro _ _ ⟨_,rfl,rfl⟩)
  (repeat'(first|(show CA _ _ (Code.region 6 _ _) _ _;apply z_.out)|apply Sp.h|refine Lk.r rfl ?_|refine Rf.mk rfl ?_|refine xU ?_|refine xI ?_|refine xJ ?_|refine xV ?_|(apply Up.inv;{exact z1};{exact zh})|fail));any_goals apply z_.mk
  rename_i w2
  have pC:(D.map Hd ++ (l.drop i).map Sn).set i (g,.ow w2)=(D ++ [(bL.mk g w2)]).map Hd ++ (l.drop (i+1)).map Sn:=by
   rw [SH,List.set_append,if_neg zk]
   simp [Zy,Hd]
  rw [pC]
  apply CA.tU (g:=Vq) (x:=(bL.mk g w2))
  focus(repeat constructor)
  focus(repeat constructor)
  repeat'(first|apply Sp.h|refine Lk.r rfl ?_|refine Rf.mk rfl ?_|refine xO ?_|fail)
  exact PA.lp (i+1,D ++ [(bL.mk g w2)]) xE ⟨⟨yd,by simp only;rw [List.map_append,hD,zK,hg];rfl⟩,by simp only;omega⟩
 ·have vk:i=l.length:=z6
  subst vk
  rw [zL] at hD
  rw [List.drop_length,List.map_nil,List.append_nil]
  (repeat'(first|(show CA _ _ (Code.region 7 _ _) _ _;apply z_.out)|apply Sp.h|refine Lk.r rfl ?_|refine Rf.mk rfl ?_|refine xB ?_|fail));any_goals apply z_.mk
  apply CA.yR (m:=D) (g:=RC)
  focus(repeat constructor)
  focus exact Qz D
  repeat'(first|apply Sp.h|refine Lk.r rfl ?_|refine Rf.mk rfl ?_|refine xN ?_|fail)
  exact⟨_,_,.one (.same (.z)),_,D,rfl,hD,rfl⟩
theorem Ws(l:List yo)(hl:l.length<=1000000)(hm:∀e∈l,e.yj.length<=1000000):y6 Tryz.prog 99 [vm l] (vm l):=by
 refine zy.fx (gE l hl hm) ?_
 rintro r o ⟨v,L,rfl,rfl,rfl⟩
 have:=Yc (v:=v) (L:=L) (o:= []) (by simpa using hl) (λx hx=>hm x.e (List.mem_map_of_mem hx)) .nil
 simpa using this
/-! ### The strict cells of a model -/
theorem gG(m:y8)(hm:xS m.y9 m.tables):y6 Tryz.prog 85 [wH m] (it (xk m:Nat)):=by
 have ly:=hm.2.2.1
 refine zy.of pg ye Tryz.func85 rfl Tryz.ntmps85 Tryz.results85 rfl λh0 G0 O0=>?_
 repeat'(first|apply Sp.h|refine Lk.r rfl ?_|refine Rf.mk rfl ?_|apply Im.mk|apply yc.mk|refine xT ?_|intro _)
 rename_i b1 _
 refine CA.loop (λi:Nat=>⟨[(1,pm b1),(3,it (sN m (m.tables.take i):Nat)),(10,xG m.tables),(11,it (m.tables.length:Nat)),(12,it i)],[mR b1 m]⟩) (λi=>i<=m.tables.length) (λi=>m.tables.length - i) 0 xE (zZ _) ?_
 intro i hi
 by_cases yd:i < m.tables.length
 ·obtain⟨t,ht⟩:=zz yd
  have hc:=(hm.2.2.2 t (zM ht)).1
  have h1:=sX (m:=m) hc
  have hn:=Y2 hm i hi
  have xe:=mv (m:=m) ht
  by_cases yL:yi t.kind
  ·rw [if_pos yL] at xe
   have h0:t.kind=0∨t.kind=1:=yL
   rcases h0 with h0|h0
   all_goals repeat'(first|apply Sp.h|refine Lk.r rfl ?_|refine Rf.mk rfl ?_|refine xA ?_|refine xB ?_|apply Im.mk|apply yc.mk|refine xT ?_|refine xI ?_|refine Ch.l ⟨rfl,rfl⟩ ?_|(apply y4.r;focus repeat' constructor)|refine xN ?_|intro _)
   all_goals rename_i b5 _
   all_goals refine CA.loop (λk:Nat=>⟨[(1,pm b1),(3,it (sN m (m.tables.take i):Nat)),(5,pm b5),(6,it (wD m.y9 (t.ya.take k))),(10,xG m.tables),(11,it (m.tables.length:Nat)),(12,it i),(25,ints t.ya),(26,it (t.ya.length:Nat)),(27,it k)],[mR b1 m,yr b5 150 (v8 t)]⟩) (λk=>k<=t.ya.length) (λk=>t.ya.length - k) 0 xE (zZ _) ?_
   all_goals intro k hk
   all_goals by_cases rz:k < t.ya.length
   any_goals
    obtain⟨x,hx⟩:=zz rz
    obtain⟨j,rfl,y,hy,PQ,DX⟩:=ni hc hx
    have hb:=rv hx (show m.y9[((j:Int)).toNat]?=some y by simpa using hy)
    have hp:=s8 hc k
    have kr:=s8 hc (k+1)
    rw [hb] at kr
    have hj:=(zS.1 hy).1
    repeat'(first|apply Sp.h|refine Lk.r rfl ?_|refine Rf.mk rfl ?_|refine xA ?_|refine xP ?_|refine xT ?_|refine xI ?_|refine xO ?_|fail)
    rw [<-hb]
    exact PA.lp (k+1) xE ⟨rz,z6⟩
   all_goals
    have mO:k=t.ya.length:=z6
    subst mO
    simp only [zL]
    rw [h1.1]
    repeat'(first|apply Sp.h|refine Lk.r rfl ?_|refine Rf.mk rfl ?_|refine xB ?_|refine xO ?_|fail)
    rw [show((sN m (m.tables.take i):Nat):Int)+(jM m t:Nat)=(sN m (m.tables.take (i+1)):Nat) by omega]
    exact PA.lp (i+1) xE ⟨yd,z6⟩
  ·rw [if_neg yL] at xe
   unfold yi at yL
   repeat'(first|apply Sp.h|refine Lk.r rfl ?_|refine Rf.mk rfl ?_|refine xA ?_|refine xB ?_|apply yc.mk|refine xT ?_|refine xI ?_|refine Ch.l ⟨rfl,rfl⟩ ?_|(apply y4.r;focus repeat' constructor)|refine xN ?_|refine xO ?_|intro _)
   all_goals rw [show sN m (m.tables.take i)=sN m (m.tables.take (i+1)) by omega]
   all_goals exact PA.lp (i+1) xE ⟨yd,z6⟩
 ·have vk:i=m.tables.length:=z6
  subst vk
  simp only [zL]
  repeat'(first|apply Sp.h|refine Lk.r rfl ?_|refine Rf.mk rfl ?_|refine xB ?_|refine xN ?_|fail)
  exact Fin.p rfl rfl
theorem Qu:BM Tryz.prog 214 22 :=
 ⟨_,4,Tryz.func214,by kernel_rfl,by kernel_rfl,by kernel_rfl,by kernel_rfl⟩
instance (priority:=2000) {T:Nat->Ord×(Nat->xa)} {n:Nat} {rs:Array ResultVar} {K:AV->List yh->Prop} {h0:y7} {G0 O0:Nat->Prop} {d:Tmp} {x y:Operand} {sg:Array TypeId} {ty:TypeId} {e:EA} {o:List yh} {N:NA} :
  Sp (SA ⟨Tryz.prog,tt,en,pg,T,n,rs,K,h0,G0,O0,⟨none⟩⟩ .uJ (some d) (.call { callee:= .value (.func 214),args:=#[x,y],argTypes:=sg }) ty e o N)
   (Lk (xr e x) λa=>Lk (xr e y) λb=>ZA o a b (N ((d,.val (.bool false)) :: e) o)):=⟨λh=>SA.ovl Qu (tS:=22) rfl rfl h⟩
theorem Wf(w u:Value)(L:List (List Value))(r:List Value)(i:Nat)(hi:i<=L.length)(hl:L.length<=1000000) :
  zy Tryz.prog 165 [.ow w,it i,.ow u] [yb w 3 1 L wP,yb u 3 1 [r] wP] λq own=>∃w',q= .ow w'/\own= [yb w' 3 1 (L.take i ++ r :: L.drop i) wP]:=by
 refine zy.of pg JT Tryz.func165 rfl Tryz.ntmps165 Tryz.results165 rfl λh0 G0 O0=>?_
 have Gx:([r]:List (List Value)).length=1:=rfl
 by_cases yd:i=L.length
 ·subst yd
  rw [zL,List.drop_length]
  repeat'(first|apply Sp.h|refine Lk.r rfl ?_|refine Rf.mk rfl ?_|refine xA ?_|refine xB ?_|refine xP ?_|apply yc.mk|refine xU ?_|refine Ce.r ?_|refine xN ?_|refine Rf.mk ⟨rfl,rfl⟩ ?_|(apply Jx.r;{exact zj};{exact zb})|refine Mp.same ?_|intro _)
  exact⟨_,_,.one (.same (.z)),_,rfl,rfl⟩
 have yd:i < L.length:=z6
 by_cases hc:eR w < L.length+1
 ·repeat'(first|apply Sp.h|refine Lk.r rfl ?_|refine Rf.mk rfl ?_|refine xA ?_|refine xB ?_|apply Im.mk|refine xU ?_|refine Rf.mk ⟨rfl,rfl⟩ ?_|refine Rf.mk ⟨rfl,rfl,rfl⟩ ?_|(apply Jx.r;{exact zj};{exact zb})|refine Mp.same ?_|refine xO ?_|intro _)
  refine Jx.r (j:=L.length+ [r].length - i) z6 z6 ?_
  (repeat'(first|(show CA _ _ (Code.region 12 _ _) _ _;apply z_.out)|apply Sp.h|refine Lk.r rfl ?_|refine Rf.mk rfl ?_|refine yu.r rfl ?_|refine xP ?_|apply yc.mk|refine xU ?_|refine Rf.mk ⟨rfl,rfl⟩ ?_|refine Rf.mk ⟨rfl,rfl,rfl⟩ ?_|(apply Jx.r;{exact zj};{exact zb})|refine Mp.same ?_|refine xD ?_|refine xO ?_|(apply nX.part;{exact zm})|(apply ep.r;{exact z1})|intro _));any_goals apply z_.mk
  apply CA.ofX 9
  focus rfl
  focus(repeat constructor)
  focus(simp;omega)
  repeat'(first|apply Sp.h|refine Lk.r rfl ?_|refine Rf.mk rfl ?_|refine xN ?_|fail)
  rw [Yo yd _ _ _ _ _ _ z6 z6 z6 zk z6 Gx]
  exact⟨_,_,.one (.same (.z)),_,rfl,rfl⟩
 ·(repeat'(first|(show CA _ _ (Code.region 13 _ _) _ _;apply z_.out)|apply Sp.h|refine Lk.r rfl ?_|refine Rf.mk rfl ?_|refine xB ?_|apply Im.mk|refine xU ?_|(apply Jx.r;{exact zj};{exact zb})|refine xO ?_|intro _));any_goals apply z_.mk
  apply CA.DN 0
  focus rfl
  focus(repeat constructor)
  intro _
  (repeat'(first|(show CA _ _ (Code.region 16 _ _) _ _;apply z_.out)|apply Sp.h|refine Lk.r rfl ?_|refine Rf.mk rfl ?_|refine xB ?_|refine yu.r rfl ?_|refine xP ?_|refine Rf.mk ⟨rfl,rfl,rfl⟩ ?_|(apply Jx.r;{exact zj};{exact zb})|refine xD ?_|refine xO ?_|(apply nX.part;{exact zm})|(apply ep.r;{exact z1})|(apply kB.g_;{exact zu};{exact zg};{exact zg})|(apply ZA.mk';{exact z1};{exact z1};{exact zf})|fail));any_goals apply z_.mk
  refine CA.sub ⟨[(0,.ow _),(1,it i),(2,.ow u)],[yb _ 3 1 _ wP,yb u 3 1 [r] wP]⟩ xE ?_
  repeat'(first|apply Sp.h|refine Lk.r rfl ?_|refine Rf.mk rfl ?_|refine xU ?_|refine xN ?_|refine Rf.mk ⟨rfl,rfl,rfl⟩ ?_|(apply Jx.r;{exact zj};{exact zb})|refine Mp.same ?_|(apply nX.all;{exact zm})|fail)
  rw [Uk yd _ _ _ z6 zk Gx]
  exact⟨_,_,.one (.same (.z)),_,rfl,rfl⟩
theorem dV(x:Int):y6 Tryz.prog 213 [it x] (bl false):=by
 refine zy.of pg ye Tryz.func213 rfl Tryz.ntmps213 Tryz.results213 rfl λh0 G0 O0=>?_
 repeat'(first|apply Sp.h|refine Lk.r rfl ?_|refine Rf.mk rfl ?_|refine xN ?_|fail)
 all_goals exact Fin.p rfl (vb zd)
theorem QP(x y:Int):y6 Tryz.prog 212 [it x,it y] (bl (decide (x < y))):=by
 refine zy.of pg ye Tryz.func212 rfl Tryz.ntmps212 Tryz.results212 rfl λh0 G0 O0=>?_
 repeat'(first|apply Sp.h|refine Lk.r rfl ?_|refine Rf.mk rfl ?_|refine xN ?_|(apply Cl.p (Yn _);focus repeat' constructor))
 all_goals exact Fin.p rfl (vb (by first|rfl|(simp;done)|(simp;omega)))
noncomputable def pY(l:List Int)(n:Int):Nat:=xw (λy=>decide (¬y < n)) l
theorem Qr{l:List Int}{x:Int}{n:Nat}(hn:n<=l.length)(h1:∀(q:Nat) y,q < n->l[q]?=some y->y < x)(h2:∀(q:Nat) y,n<=q->l[q]?=some y->¬y < x):pY l x=n:=by
 by_cases Zo:n < l.length
 ·obtain⟨y,hy⟩:=zz Zo
  exact uA hy (zT (h2 n y (Nat.le_refl _) hy)) λj z hj hz=>zF (λh=>h (h1 j z hj hz))
 ·have vB:n=l.length:=z6
  rw [vB]
  exact wL λy hy=>by
   obtain⟨j,hj⟩:=zO hy
   exact zF (λh=>h (h1 j y (by have:=(zS.1 hj).1;omega) hj))
abbrev oT (l:List Int):Prop:=l.Pairwise (· < ·)
theorem fL{l:List Int}(h:oT l){i j:Nat}{a b:Int}(u5:i < j)(ha:l[i]?=some a)(hb:l[j]?=some b):a < b:=by
 obtain⟨h1,rfl⟩:=zS.1 ha
 obtain⟨h2,rfl⟩:=zS.1 hb
 exact List.pairwise_iff_getElem.1 h i j h1 h2 u5
theorem I_(l:List Int)(x:Int)(hs:oT l)(hl:l.length<=1000000) :
  y6 Tryz.prog 164 [ints l,it x] (.yE [it (pY l x:Nat),bl (decide (x∈l))]):=by
 have ik:∀n,pY l x=n->(∀(q:Nat) y,q < n->l[q]?=some y->y < x)->(∀(q:Nat) y,n<=q->l[q]?=some y->¬y < x)->(x∈l↔l[n]?=some x):=λn _ h1 h2=>by
  constructor
  ·intro h
   obtain⟨j,hj⟩:=zO h
   rcases Nat.lt_trichotomy j n with Zr|Zr|Zr
   ·have:=h1 j x Zr hj;omega
   ·rw [<-Zr];exact hj
   ·have lL:=(zS.1 hj).1
    obtain⟨z,hz⟩:=zz (l:=l) (i:=n) z6
    have:=fL hs Zr hz hj
    exact absurd this (h2 n z (Nat.le_refl _) hz)
  ·exact zM
 refine zy.of pg ye Tryz.func164 rfl Tryz.ntmps164 Tryz.results164 rfl λh0 G0 O0=>?_
 repeat'(first|apply Sp.h|refine Lk.r rfl ?_|refine Rf.mk rfl ?_|apply Im.mk|intro _)
 refine CA.loop (λp:Nat×Nat=>⟨[(0,ints l),(1,it x),(6,it (l.length:Nat)),(7,it p.1),(8,it p.2)],[]⟩)
  (λp=>p.1<=p.2/\p.2<=l.length/\(∀(q:Nat) y,q < p.1->l[q]?=some y->y < x)/\∀(q:Nat) y,p.2<=q->l[q]?=some y->¬y < x) (λp=>p.2 - p.1) (0,l.length) xE
  ⟨zZ _,Nat.le_refl _,λq y h=>absurd h (Nat.not_lt_zero q),λq y h h'=>by have:=(zS.1 h').1;simp only at h;omega⟩ ?_
 rintro⟨i,j⟩ ⟨h1,h2,h3,h4⟩
 simp only at h1 h2 h3 h4
 simp only
 by_cases u5:i < j
 ·obtain⟨y,hy⟩:=zz (l:=l) (i:=(i+j) / 2) z6
  have e1:((i:Int)+(j:Int)) / 2=(((i+j) / 2:Nat):Int):=z6
  have hle:=QP y x
  by_cases Ss:y < x
  ·repeat'(first|apply Sp.h|refine Lk.r rfl ?_|refine Rf.mk rfl ?_|refine xA ?_|refine xI ?_|refine xO ?_|(apply r_.i64;{exact zu};{exact z6})|(apply r_.u64;{exact zu};{exact z6})|(apply Cl.p (hle);focus repeat' constructor))
   exact PA.lp ((i+j) / 2+1,j) xE ⟨⟨by simp only;omega,h2,λq z hq hz=>by
    simp only at hq
    by_cases ML:q=(i+j) / 2
    ·subst ML;rw [hy] at hz;cases hz;exact Ss
    ·have:=fL hs (show q < (i+j) / 2 by omega) hz hy;omega,h4⟩,by simp only;omega⟩
  ·repeat'(first|apply Sp.h|refine Lk.r rfl ?_|refine Rf.mk rfl ?_|refine xA ?_|refine xB ?_|refine xI ?_|refine xO ?_|(apply r_.i64;{exact zu};{exact z6})|(apply r_.u64;{exact zu};{exact z6})|(apply Cl.p (hle);focus repeat' constructor))
   exact PA.lp (i,(i+j) / 2) xE ⟨⟨by simp only;omega,by simp only;omega,h3,λq z hq hz h=>by
    simp only at hq
    by_cases ML:q=(i+j) / 2
    ·subst ML;rw [hy] at hz;cases hz;exact Ss h
    ·have:=fL hs (show(i+j) / 2 < q by omega) hy hz;omega⟩,by simp only;omega⟩
 ·have Lo:i=j:=z6
  subst Lo
  have sR:=Qr h2 h3 h4
  have hm:=ik i sR h3 h4
  rw [sR]
  by_cases yd:i < l.length
  ·obtain⟨y,hy⟩:=zz yd
   have P_:x∈l↔y=x:=hm.trans (by rw [hy];simp)
   rw [show decide (x∈l)=decide (y=x) from zD.2 P_]
   repeat'(first|apply Sp.h|refine Lk.r rfl ?_|refine Rf.mk rfl ?_|refine xA ?_|refine xB ?_|(refine Bd.mk ?_ ?_ <;> intro _)|refine xI ?_|refine xN ?_|(apply Cl.p (dV _);focus repeat' constructor))
   all_goals exact Fin.p rfl (by first|rw [zT (by first|rfl|assumption)] | rw [zF z8])
  ·have:decide (x∈l)=false:=zF (λh=>by have:=(zS.1 (hm.1 h)).1;omega)
   rw [this]
   repeat'(first|apply Sp.h|refine Lk.r rfl ?_|refine Rf.mk rfl ?_|refine xB ?_|refine xN ?_|(apply Cl.p (dV _);(focus repeat'(first|fail))))
   all_goals exact Fin.p rfl rfl
def gZ(x:Int):List Value:= [.int .i64 x]
theorem dJ(l:List Int):(l.map gZ).map wP=l.map xL:=by rw [List.map_map];rfl
theorem ZT{l:List Int}{n:Int}(hs:oT l)(hn:n ∉ l):tF l n=l.take (pY l n) ++ n :: l.drop (pY l n):=by
 rw [tF,if_neg hn]
 have key:∀l:List Int,oT l->n ∉ l->l.filter (· < n)=l.take (pY l n)/\l.filter (n < ·)=l.drop (pY l n):=by
  intro l
  induction l with
  | nil=>intro _ _;exact⟨rfl,rfl⟩
  | cons a l ih =>
   intro hs hn
   obtain⟨s1,s2⟩:=List.pairwise_cons.1 hs
   obtain⟨i1,i2⟩:=ih s2 (λh=>hn (List.mem_cons_of_mem _ h))
   by_cases ha:a < n
   ·have hp:pY (a :: l) n=pY l n+1:=by simp [pY,xw,ha]
    rw [hp,List.take_succ_cons,List.drop_succ_cons,List.filter_cons_of_pos (by simpa using ha),List.filter_cons_of_neg zk,i1,i2]
    exact⟨rfl,rfl⟩
   ·have hp:pY (a :: l) n=0:=by simp [pY,xw,ha]
    have vB:a≠n:=λe=>hn (e▸List.mem_cons_self)
    rw [hp,List.take_zero,List.drop_zero]
    refine⟨List.filter_eq_nil_iff.2 λy hy=>?_,List.filter_eq_self.2 λy hy=>?_⟩
    ·rcases List.mem_cons.1 hy with rfl|hy
     ·simp;omega
     ·have:=s1 y hy;simp;omega
    ·rcases List.mem_cons.1 hy with rfl|hy
     ·simp;omega
     ·have:=s1 y hy;simp;omega
 obtain⟨k1,k2⟩:=key l hs hn
 rw [k1,k2]
theorem We(w u:Value)(l:List Int)(n:Int)(i:Nat)(hi:i<=l.length)(hl:l.length<=1000000) :
  zy Tryz.prog 165 [.ow w,it i,.ow u] [yb w 3 1 l xL,yb u 3 1 [[it n]] id] λq own=>∃w',q= .ow w'/\own= [yb w' 3 1 (l.take i ++ n :: l.drop i) xL]:=by
 have h:=Wf w u (l.map gZ) (gZ n) i (by simpa using hi) (by simpa using hl)
 rw [pc (l:=l.map gZ) (f:=wP) (m:=l) (g:=xL) (dJ l),pc (l:= [gZ n]) (f:=wP) (m:= [[it n]]) (g:=id) rfl] at h
 refine h.mono ?_
 rintro _ _ ⟨w',rfl,rfl⟩
 refine⟨w',rfl, ?_⟩
 rw [show(l.map gZ).take i ++ gZ n :: (l.map gZ).drop i=(l.take i ++ n :: l.drop i).map gZ by simp]
 rw [pc (dJ _)]
theorem VZ(l:List Int)(n:Int)(hs:oT l)(hl:l.length<=100000):y6 Tryz.prog 106 [ints l,it n] (ints (tF l n)):=by
 have hb:=I_ l n hs z6
 have hc:=ud l z6
 by_cases hn:n∈l
 ·rw [show tF l n=l from if_pos hn]
  rw [zT hn] at hb
  refine zy.of pg ye Tryz.func106 rfl Tryz.ntmps106 Tryz.results106 rfl λh0 G0 O0=>?_
  repeat'(first|apply Sp.h|refine Lk.r rfl ?_|refine Rf.mk rfl ?_|refine xN ?_|(apply Cl.p (hb);focus repeat' constructor))
  exact Fin.p rfl rfl
 ·have kq:pY l n<=l.length:=n9 _ _
  rw [zF hn] at hb
  rw [ZT hs hn]
  refine zy.fz (T:=3) zk ?_
  refine zy.of pg ye Tryz.func106 rfl Tryz.ntmps106 Tryz.results106 rfl λh0 G0 O0=>?_
  repeat'(first|apply Sp.h|refine Lk.r rfl ?_|refine Rf.mk rfl ?_|(apply Cl.p (hb);focus repeat' constructor))
  (refine Cl.use (hc) (by repeat'(first|exact y3.nil|apply y3.yB|fail)) .nil rfl ?_;rintro _ _ ⟨_,rfl,rfl⟩)
  repeat'(first|apply Sp.h|refine Lk.r rfl ?_|refine Rf.mk rfl ?_|apply yc.mk|(apply Fk.r;focus repeat' first|infer_instance|constructor)|refine Rf.mk ⟨rfl,rfl,rfl⟩ ?_|intro _)
  rename_i w u
  have hi:=We w u l n (pY l n) kq z6
  refine xW (hi) ?_
  rintro _ _ ⟨w',rfl,rfl⟩
  repeat'(first|apply Sp.h|refine Lk.r rfl ?_|refine xN ?_|fail)
  exact⟨_,_,.one (.same (.z)),_,rfl,rfl⟩
abbrev FE (b:yt):List AV:= [ints b.clock,it b.time,ints b.state,uH b.merged,tz,tz,ints b.places]
abbrev RF (b:yt):AV:= .agg (FE b)
abbrev A3 (m:y8) (b:yt) (v:Value) (w:yt):List AV:= [ints m.y9,xG m.tables,.sl 1 m.xm ur,.sl 6 m.cons lE,.sl 3 m.ops PM,.sl 5 m.yP iq,.sl 3 m.yp tL,ints b.clock,it b.time,ints b.state,uH b.merged,tz,tz,ints b.places,.ow v,ints w.clock,it w.time,ints w.state,uH w.merged,ints w.places]
abbrev vw (p:Nat) (m:y8) (b:yt) (v:Value) (w:yt):yh:=yr p 133 (A3 m b v w)
abbrev A2 (s:Nat) (e:yo) (w:yt):List AV:= [pm s,iv e.rep,iv e.num,iv e.time,ints e.yj,iv e.kind,iv e.action,iv e.gk,iv e.gi,iv e.ge,iv e.ga,iv e.to,iv e.place,iv e.wx,ints w.clock,it w.time,ints w.state,uH w.merged,ints w.places]
abbrev lA (p s:Nat) (e:yo) (w:yt):yh:=yr p 161 (A2 s e w)
theorem jd(e:yo):y6 Tryz.prog 92 [uL e] (Vr e.rep e.num):=by
 refine zy.of pg ye Tryz.func92 rfl Tryz.ntmps92 Tryz.results92 rfl λh0 G0 O0=>?_
 repeat'(first|apply Sp.h|refine Lk.r rfl ?_|refine Rf.mk rfl ?_|apply yc.mk|refine xT ?_|(apply y4.r;focus repeat' constructor)|(apply Fk.r;focus repeat' first|infer_instance|constructor)|refine xN ?_|intro _)
 exact Fin.p rfl rfl
theorem Pc(x s:Nat)(e:yo)(w:yt)(h0:0<=e.rep)(h1:e.rep.toNat < w.clock.length)(hl:w.clock.length<=5) :
  zy Tryz.prog 94 [pm x] [lA x s e w] λr own=>r=it 0/\own= [lA x s e { w with clock:=oS w.clock e }]:=by
 obtain⟨y,hy⟩:=zz h1
 have hc:=ud w.clock z6
 have A_:oS w.clock e=w.clock.set e.rep.toNat (max y e.num):=by rw [oS,hy];rfl
 rw [A_]
 refine zy.of pg Et Tryz.func94 rfl Tryz.ntmps94 Tryz.results94 rfl λh0 G0 O0=>?_
 repeat'(first|apply Sp.h|refine Lk.r rfl ?_|refine Rf.mk rfl ?_|refine xT ?_|fail)
 (refine Cl.use (hc) (by repeat'(first|exact y3.nil|apply y3.yB|fail)) .nil rfl ?_;rintro _ _ ⟨_,rfl,rfl⟩)
 (repeat'(first|(show CA _ _ (Code.region 3 _ _) _ _;apply z_.out)|apply Sp.h|refine Lk.r rfl ?_|refine Rf.mk rfl ?_|refine yu.r rfl ?_|refine xU ?_|refine xT ?_|(apply Ix.r;{exact z8};{exact z6})|refine xJ ?_|refine xV ?_|refine Up.r rfl ?_|refine xD ?_|fail));any_goals apply z_.mk
 (apply CA.own;(focus(apply OX.rD (b:=x);{exact z1};(focus(repeat'(first|exact FX.nil|(apply FX.s1;{exact z1};{exact zb})|apply FX.k)));{exact z1})))
 repeat'(first|apply Sp.h|refine Lk.r rfl ?_|refine Rf.mk rfl ?_|refine xN ?_|fail)
 exact⟨_,_,.one (.same (.z)),rfl,rfl⟩
theorem Qv(x s:Nat)(m:y8)(b:yt)(v:Value)(n_:List yo)(wn:yt)(e:yo)(w:yt)(hl:n_.length<=1000000) :
  zy Tryz.prog 95 [pm x] [lA x s e w,vw s m b v wn,yb v 66 13 n_ uf] λr own=>(iT n_ e/\r=it 2/\own= [vw s m b v wn,yb v 66 13 n_ uf])∨(¬iT n_ e/\r=it 0/\own= [lA x s e { w with time:=max w.time e.time },vw s m b v wn,yb v 66 13 n_ uf]):=by
 refine zy.of pg Es Tryz.func95 rfl Tryz.ntmps95 Tryz.results95 rfl λh0 G0 O0=>?_
 repeat'(first|apply Sp.h|refine Lk.r rfl ?_|refine Rf.mk rfl ?_|refine xU ?_|refine xT ?_|fail)
 refine CA.loop (λi:Nat=>⟨[(0,pm x),(11,.ow v),(12,it (n_.length:Nat)),(13,it i)],[lA x s e w,vw s m b v wn,yb v 66 13 n_ uf]⟩) (λi=>i<=n_.length/\∀y∈n_.take i,¬(x9 e.yj y.rep y.num/\e.time<=y.time)) (λi=>n_.length - i) 0 xE ⟨zZ _,by simp⟩ ?_
 rintro i ⟨hi,ha⟩
 by_cases yd:i < n_.length
 ·obtain⟨y,hy⟩:=zz yd
  have h1:=jd y
  have h2:=kZ e.yj y.rep y.num
  by_cases hh:x9 e.yj y.rep y.num
  ·by_cases ht:e.time<=y.time
   ·repeat'(first|apply Sp.h|refine Lk.r rfl ?_|refine Rf.mk rfl ?_|refine xA ?_|refine yu.r rfl ?_|refine yc.mk λ_=>?_|refine xU ?_|refine xT ?_|refine xI ?_|refine xJ ?_|refine Ch.l ⟨rfl,rfl⟩ ?_|(apply y4.r;focus repeat' constructor)|refine xN ?_|refine xD ?_|(apply Cl.p (h1);focus(repeat' constructor);done)|(apply Cl.p (h2);focus(repeat' constructor);done))
    all_goals exact⟨_,_,.one (.same (.z)),.inl ⟨⟨y,zM hy,hh,ht⟩,rfl,rfl⟩⟩
   ·repeat'(first|apply Sp.h|refine Lk.r rfl ?_|refine Rf.mk rfl ?_|refine xA ?_|refine xB ?_|refine yu.r rfl ?_|refine yc.mk λ_=>?_|refine xU ?_|refine xT ?_|refine xI ?_|refine xJ ?_|refine Ch.l ⟨rfl,rfl⟩ ?_|(apply y4.r;focus repeat' constructor)|refine xN ?_|refine xD ?_|refine xO ?_|(apply Cl.p (h1);focus(repeat' constructor);done)|(apply Cl.p (h2);focus(repeat' constructor);done))
    all_goals exact PA.lp (i+1) xE ⟨⟨yd,all_succ hy ha (λh=>ht h.2)⟩,z6⟩
  ·repeat'(first|apply Sp.h|refine Lk.r rfl ?_|refine Rf.mk rfl ?_|refine xA ?_|refine xB ?_|refine yu.r rfl ?_|refine yc.mk λ_=>?_|refine xU ?_|refine xT ?_|refine xI ?_|refine xJ ?_|refine Ch.l ⟨rfl,rfl⟩ ?_|(apply y4.r;focus repeat' constructor)|refine xN ?_|refine xD ?_|refine xO ?_|(apply Cl.p (h1);focus(repeat' constructor);done)|(apply Cl.p (h2);focus(repeat' constructor);done))
   all_goals exact PA.lp (i+1) xE ⟨⟨yd,all_succ hy ha (λh=>hh h.1)⟩,z6⟩
 ·have vk:i=n_.length:=z6
  subst vk
  rw [zL] at ha
  repeat'(first|apply Sp.h|refine Lk.r rfl ?_|refine Rf.mk rfl ?_|refine xB ?_|refine yu.r rfl ?_|refine xT ?_|refine xV ?_|refine xN ?_|refine xD ?_|fail)
  exact⟨_,_,.one (.same (.z)),.inr ⟨λ⟨y,hy,h⟩=>ha y hy h,rfl,rfl⟩⟩
theorem kh{m:y8}{e:yo}{a:e_}(h:m.yP[e.action.toNat]?=some a):bU m e=a.xu.delta:=by rw [bU,h]
theorem pr{s:List Int}{d:List (Int×Int)}{i:Nat}{p:Int×Int}(h:d[i]?=some p):vF s (d.take (i+1))=o3 (vF s (d.take i)) p:=by
 rw [zK,h,vF,List.foldl_append];rfl
theorem sM(d:List (Int×Int)) :∀s:List Int,(vF s d).length=s.length:=by
 induction d with
 | nil=>intro s;rfl
 | cons p d ih=>intro s;rw [vF,List.foldl_cons];exact(ih _).trans (by simp [o3])
theorem Jg(x s:Nat)(m:y8)(b:yt)(v:Value)(wn:yt)(e:yo)(w:yt)(hm:nR m)(yL:w.state.length=xk m)(rB:e.kind=0->0<=e.action/\e.action < (m.yP.length:Nat)) :
  zy Tryz.prog 96 [pm x] [lA x s e w,vw s m b v wn] λr own=>(e.kind=0/\¬lC (xY m w.state e)/\r=it 2/\own= [vw s m b v wn])∨(¬(e.kind=0/\¬lC (xY m w.state e))/\r=it 0/\own= [lA x s e { w with state:=xY m w.state e },vw s m b v wn]):=by
 by_cases hk:e.kind=0
 ·obtain⟨h1,h2⟩:=rB hk
  obtain⟨a,ha⟩:=zz (l:=m.yP) (i:=e.action.toNat) z6
  have hd:=kh ha
  have MR:=hm.xu a (zM ha)
  have qZ:=hm.str
  have qn:xY m w.state e=vF w.state a.xu.delta:=by rw [xY,if_pos hk,hd]
  rw [qn]
  have hc:=ud w.state z6
  have yd:=ou (vF w.state a.xu.delta)
  refine zy.of pg M8 Tryz.func96 rfl Tryz.ntmps96 Tryz.results96 rfl λh0 G0 O0=>?_
  repeat'(first|apply Sp.h|refine Lk.r rfl ?_|refine Rf.mk rfl ?_|refine xA ?_|refine xT ?_|fail)
  (refine Cl.use (hc) (by repeat'(first|exact y3.nil|apply y3.yB|fail)) .nil rfl ?_;rintro _ _ ⟨_,rfl,rfl⟩)
  repeat'(first|apply Sp.h|refine Lk.r rfl ?_|refine Rf.mk rfl ?_|refine yu.r rfl ?_|apply Im.mk|refine xT ?_|(apply Ix.r;{exact z8};{exact z6})|refine xV ?_|refine xD ?_|intro _)
  rename_i u _
  refine CA.loop (λi:Nat=>⟨[(0,pm x),(37,yO a.xu.delta),(38,it (a.xu.delta.length:Nat)),(39,it i)],[yb u 3 1 (vF w.state (a.xu.delta.take i)) xL,yr x 161 [pm s,iv e.rep,iv e.num,iv e.time,ints e.yj,iv e.kind,iv e.action,iv e.gk,iv e.gi,iv e.ge,iv e.ga,iv e.to,iv e.place,iv e.wx,ints w.clock,it w.time,.ow u,uH w.merged,ints w.places],vw s m b v wn]⟩) (λi=>i<=a.xu.delta.length) (λi=>a.xu.delta.length - i) 0 xE (zZ _) ?_
  intro i hi
  have hlen:=sM (a.xu.delta.take i) w.state
  by_cases qf:i < a.xu.delta.length
  ·obtain⟨p,hp⟩:=zz qf
   obtain⟨p1,p2⟩:=MR.d p (zM hp)
   obtain⟨z,hz⟩:=zz (l:=vF w.state (a.xu.delta.take i)) (i:=p.1.toNat) z6
   have hs:=pr (s:=w.state) hp
   rw [show o3 (vF w.state (a.xu.delta.take i)) p=(vF w.state (a.xu.delta.take i)).set p.1.toNat (IntKind.i64.wrap (z+p.2)) by rw [o3,hz];rfl] at hs
   repeat'(first|apply Sp.h|refine Lk.r rfl ?_|refine Rf.mk rfl ?_|refine xA ?_|refine yu.r rfl ?_|apply yc.mk|refine xU ?_|refine xT ?_|refine xI ?_|(apply Ix.r;{exact z8};{exact z6})|refine xJ ?_|refine Ch.l ⟨rfl,rfl⟩ ?_|(apply y4.r;focus repeat' constructor)|refine xN ?_|refine xD ?_|intro _)
   refine⟨?_⟩
   repeat'(first|apply Sp.h|refine Lk.r rfl ?_|refine Rf.mk rfl ?_|refine yu.r rfl ?_|refine xU ?_|(apply Ix.r;{exact z8};{exact z6})|refine xJ ?_|refine xV ?_|refine Up.r rfl ?_|refine xO ?_|fail)
   rw [<-hs]
   exact PA.lp (i+1) xE ⟨qf,z6⟩
  ·have vk:i=a.xu.delta.length:=z6
   subst vk
   rw [zL] at hlen ⊢
   by_cases hS:lC (vF w.state a.xu.delta)
   ·rw [zT hS] at yd
    repeat'(first|apply Sp.h|refine Lk.r rfl ?_|refine Rf.mk rfl ?_|refine xB ?_|refine xT ?_|fail)
    (apply Cl.yY (yd);(focus repeat'(first|exact y3.nil|(apply y3.yY;{exact z1};{exact zc})|fail)))
    (repeat'(first|(show CA _ _ (Code.region 11 _ _) _ _;apply z_.out)|apply Sp.h|refine Lk.r rfl ?_|refine xA ?_|fail));any_goals apply z_.mk
    (apply CA.own;(focus(apply OX.rD (b:=x);{exact z1};(focus(repeat'(first|exact FX.nil|(apply FX.s1;{exact z1};{exact zb})|apply FX.k)));{exact z1})))
    repeat'(first|apply Sp.h|refine Lk.r rfl ?_|refine Rf.mk rfl ?_|refine xN ?_|fail)
    exact⟨_,_,.one (.same (.z)),.inr ⟨λh=>h.2 hS,rfl,rfl⟩⟩
   ·rw [zF hS] at yd
    repeat'(first|apply Sp.h|refine Lk.r rfl ?_|refine Rf.mk rfl ?_|refine xB ?_|refine xT ?_|fail)
    (apply Cl.yY (yd);(focus repeat'(first|exact y3.nil|(apply y3.yY;{exact z1};{exact zc})|fail)))
    repeat'(first|apply Sp.h|refine Lk.r rfl ?_|refine Rf.mk rfl ?_|refine xB ?_|refine xN ?_|fail)
    exact⟨_,_,.one (.same (.z)),.inl ⟨hk,hS,rfl,rfl⟩⟩
 ·have qn:xY m w.state e=w.state:=if_neg hk
  rw [qn]
  refine zy.of pg M8 Tryz.func96 rfl Tryz.ntmps96 Tryz.results96 rfl λh0 G0 O0=>?_
  repeat'(first|apply Sp.h|refine Lk.r rfl ?_|refine Rf.mk rfl ?_|refine xB ?_|refine xT ?_|refine xN ?_|fail)
  exact⟨_,_,.one (.same (.z)),.inr ⟨λh=>hk h.1,rfl,rfl⟩⟩
theorem nG(m:y8)(l:List xp)(e:yo)(hm:nR m):y6 Tryz.prog 105 [wH m,uH l,uL e] (.yE [uH (yq m l e).2,it (yq m l e).1]):=by
 by_cases h0:(yq m l e).1=0
 ·obtain⟨h1,_,h3,_,h5⟩:=mL h0
  have:=h1.1
  have:=hm.Sq
  have hF:yq m l e=(0,(yq m l e).2):=by rw [<-h0]
  rw [h0]
  exact WE m l e _ hm hF z6 h5
 ·refine zy.fx (YF m l e hm) ?_
  have h2:(yq m l e).2= []:=by
   unfold yq at h0 ⊢
   split
   ·rfl
   ·rename_i h1
    rw [if_neg h1] at h0
    split
    ·rename_i h2;rw [if_pos h2] at h0;exact absurd rfl h0
    ·rename_i h2
     rw [if_neg h2] at h0
     unfold wi at h0 ⊢
     split
     ·rfl
     ·rename_i h3
      rw [h3] at h0
      simp only at h0
      split
      ·rfl
      ·rename_i h4;rw [if_neg h4] at h0;exact absurd rfl h0
  rw [h2]
  rintro r o (⟨v,L,h,_⟩|⟨_,rfl,rfl⟩)
  ·exact absurd h h0
  ·exact .yE (FX.kn (FX.refl _)) .nil
theorem UG(x s:Nat)(m:y8)(b:yt)(v:Value)(wn:yt)(e:yo)(w:yt)(hm:nR m) :
  zy Tryz.prog 97 [pm x] [lA x s e w,vw s m b v wn] λr own=>r=it (yq m w.merged e).1/\own= [lA x s e { w with merged:=(yq m w.merged e).2 },vw s m b v wn]:=by
 have ha:=nG m w.merged e hm
 refine zy.of pg Er Tryz.func97 rfl Tryz.ntmps97 Tryz.results97 rfl λh0 G0 O0=>?_
 repeat'(first|apply Sp.h|refine Lk.r rfl ?_|refine Rf.mk rfl ?_|refine yu.r rfl ?_|refine xT ?_|refine Ch.r ?_|refine xV ?_|refine xN ?_|refine xD ?_|(apply Cl.p (ha);focus repeat' constructor))
 exact⟨_,_,.one (.same (.z)),rfl,rfl⟩
theorem Qt(x s:Nat)(e:yo)(w:yt)(hp:oT w.places)(hl:w.places.length<=100000) :
  zy Tryz.prog 98 [pm x] [lA x s e w] λr own=>r=it 0/\own= [lA x s e { w with places:=lv w.places e }]:=by
 have hw:=VZ w.places e.place hp hl
 by_cases h:0 < e.place
 ·rw [show lv w.places e=tF w.places e.place from if_pos h]
  refine zy.of pg M7 Tryz.func98 rfl Tryz.ntmps98 Tryz.results98 rfl λh0 G0 O0=>?_
  repeat'(first|apply Sp.h|refine Lk.r rfl ?_|refine Rf.mk rfl ?_|refine xA ?_|refine yu.r rfl ?_|refine xT ?_|refine xV ?_|refine xN ?_|refine xD ?_|(apply Cl.p (hw);focus repeat' constructor))
  exact⟨_,_,.one (.same (.z)),rfl,rfl⟩
 ·rw [show lv w.places e=w.places from if_neg h]
  refine zy.of pg M7 Tryz.func98 rfl Tryz.ntmps98 Tryz.results98 rfl λh0 G0 O0=>?_
  repeat'(first|apply Sp.h|refine Lk.r rfl ?_|refine Rf.mk rfl ?_|refine xB ?_|refine xT ?_|refine xN ?_|(apply Cl.p (hw);(focus repeat'(first|fail))))
  exact⟨_,_,.one (.same (.z)),rfl,rfl⟩
theorem UO(s:Nat)(m:y8)(b:yt)(v:Value)(w:yt)(e:yo) :
  zy Tryz.prog 90 [pm s,uL e] [vw s m b v w] λr own=>r=bl (decide (rE m (w.clock.length:Nat) e))/\own= [vw s m b v w]:=by
 have hv:=cf m (w.clock.length:Nat) e
 refine zy.of pg Ew Tryz.func90 rfl Tryz.ntmps90 Tryz.results90 rfl λh0 G0 O0=>?_
 repeat'(first|apply Sp.h|refine Lk.r rfl ?_|refine Rf.mk rfl ?_|refine yu.r rfl ?_|refine Im.mk λ_=>?_|refine yc.mk λ_=>?_|refine xT ?_|refine Ch.l ⟨rfl,rfl⟩ ?_|refine Ch.r ?_|refine xN ?_|refine xD ?_|(apply Cl.p (hv);focus repeat' constructor))
 exact⟨_,_,.one (.same (.z)),rfl,rfl⟩
end Go.Proofs.YtmjllbjfkafhdaaGreatDoor
namespace Go.CF
open Go
def AV.fb(f:FuncId)(bs:List AV):AV:=⟨λh G u=>∃vs,u= .func (.func f) vs.toArray #[]/\xb h G vs bs,by rintro h h' G v x ⟨vs,e,r⟩;exact⟨vs,e,r.wm x⟩,by rintro h G G' v x ⟨vs,e,r⟩;exact⟨vs,e,r.mono x⟩⟩
section
variable {Γ:Cx} {k:List KI} {e:EA} {o:List yh} {N:NA} {c:xa} {d:Tmp} {ty:TypeId} {x y:Operand}
instance {f:FuncId} {bs:List AV}:qt (.fb f bs):=⟨by rintro h G u ⟨vs,rfl,_⟩;rfl⟩
instance {f:FuncId}:Sp (SA Γ c (some d) (.makeFunc (.func f) #[x] #[]) ty e o N) (Lk (fj e [x]) λcs=>N ((d,.fb f cs) :: e) o):=⟨λ⟨cs,rY,hn⟩=>⟨λenv hp G Os c=>by
 obtain⟨vs,h1,h2⟩:=c.Xg rY
 exact St.makeFunc (l2:= []) h1 rfl (CN.mk (c.put d (a:= .fb f cs) ⟨vs,rfl,h2⟩) hn)⟩⟩
instance {f:FuncId} {cs yM:List AV} {args:Array Operand} {sg:Array TypeId}:Sp (BQ Γ c d x args sg ty e o N (.fb f cs) yM) (Rf (Γ.fp.n=none) (Rf (Γ.en f=true) (Cl Γ c f (cs ++ yM) o λr o'=>N ((d,r) :: e) o'))):=⟨λ⟨bH,he,h⟩=>⟨λha hb hc=>⟨λenv hh G Os cn=>by
 obtain⟨v,g1,ws,rfl,g2⟩:=cn.get ha
 obtain⟨vs,g3,g4⟩:=cn.Xg hb
 exact St.Mt (cap:= []) Γ.ok g1 g3 he hc (by rw [List.append_nil];exact(VR (dst:=some d) cn (g2.app g4) bH h).mono λv h' hk=>hk.2)⟩⟩⟩
end
end Go.CF
namespace Go.Proofs.YtmjllbjfkafhdaaGreatDoor
open Go Go.CF
structure iS (m:y8) (w:yt):Prop where
 Vc:vY w.clock
 st:w.state.length=xk m
 WZ:oT w.places
 SS:w.places.length<=100000
theorem PC(a b:List Int):w9 [a,b]↔vY a/\vY b/\a.length=b.length:=oa a b
noncomputable def lD(m:y8)(vm:List yo)(w:yt)(e:yo):List yo:=if(yA m vm w e).1=0 then vm ++ [e] else vm
noncomputable def wI(m:y8)(w:yt)(e:yo):Nat->yt
 | 0=>w
 | 1=>{ w with clock:=oS w.clock e }
 | 2=>{ w with clock:=oS w.clock e,time:=max w.time e.time }
 | 3=>{ w with clock:=oS w.clock e,time:=max w.time e.time,state:=xY m w.state e }
 | 4=>{ w with clock:=oS w.clock e,time:=max w.time e.time,state:=xY m w.state e,merged:=(yq m w.merged e).2 }
 | _=>⟨oS w.clock e,max w.time e.time,xY m w.state e,(yq m w.merged e).2,lv w.places e⟩
def HD(x:Nat):List (List AV):= [[AV.fb 94 [pm x]],[AV.fb 95 [pm x]],[AV.fb 96 [pm x]],[AV.fb 97 [pm x]],[AV.fb 98 [pm x]]]
theorem nq{e:yo}(h:we e)(hk:e.kind=0):0<=e.action:=by
 have:=(VI hk).1 h.2.2.2.2.2
 unfold kO pV at this
 omega
theorem _root_.Go.CF.zw {p:Prop}(h:p:=by exact zB rfl):p:=h
theorem mI(s:Nat)(m:y8)(b:yt)(v:Value)(evl:List yo)(w:yt)(e:yo)(hm:nR m)(hw:iS m w)(hl:evl.length<=100000) :
  zy Tryz.prog 37 [pm s,uL e] [vw s m b v w,yb v 66 13 evl uf] λr own=>r=it (yA m evl w e).1/\∃v',own= [vw s m b v' (yA m evl w e).2,yb v' 66 13 (lD m evl w e) uf]:=by
 have qx:=UO s m b v w e
 by_cases h1:rE m (w.clock.length:Nat) e
 rotate_left
 ·have hF:yA m evl w e=(1,w):=by rw [yA,if_pos h1]
  rw [zF h1] at qx
  rw [lD,hF]
  refine zy.of pg ZI Tryz.func37 rfl Tryz.ntmps37 Tryz.results37 rfl λh0 G0 O0=>?_
  repeat'(first|apply Sp.h|refine Lk.r rfl ?_|refine Rf.mk rfl ?_|apply yc.mk|refine xT ?_|refine Ch.l ⟨rfl,rfl⟩ ?_|intro _)
  refine xW (qx) ?_
  rintro _ _ ⟨rfl,rfl⟩
  repeat'(first|apply Sp.h|refine Lk.r rfl ?_|refine Rf.mk rfl ?_|refine xB ?_|refine xN ?_|fail)
  exact⟨_,_,.one (.same (.z)),rfl,v,rfl⟩
 rw [zT h1] at qx
 have hn:=jd e
 have hh:=kZ w.clock e.rep e.num
 by_cases h2:x9 w.clock e.rep e.num
 ·have hF:yA m evl w e=(6,w):=by rw [yA,if_neg (λh=>h h1),if_pos h2]
  rw [zT h2] at hh
  rw [lD,hF]
  refine zy.of pg ZI Tryz.func37 rfl Tryz.ntmps37 Tryz.results37 rfl λh0 G0 O0=>?_
  repeat'(first|apply Sp.h|refine Lk.r rfl ?_|refine Rf.mk rfl ?_|apply yc.mk|refine xT ?_|refine Ch.l ⟨rfl,rfl⟩ ?_|intro _)
  refine xW (qx) ?_
  rintro _ _ ⟨rfl,rfl⟩
  repeat'(first|apply Sp.h|refine Lk.r rfl ?_|refine Rf.mk rfl ?_|refine xA ?_|refine yu.r rfl ?_|refine xT ?_|refine Ch.l ⟨rfl,rfl⟩ ?_|refine xN ?_|refine xD ?_|(apply Cl.p (hn);focus(repeat' constructor);done)|(apply Cl.p (hh);focus(repeat' constructor);done))
  exact⟨_,_,.one (.same (.z)),rfl,v,rfl⟩
 rw [zF h2] at hh
 have Hp:=ph w.clock e.yj
 have rZ:w9 [w.clock,e.yj]:=(oa _ _).2 ⟨hw.Vc,h1.1.1,by have:=h1.2.1;omega⟩
 by_cases h3:Ins e.yj w.clock
 rotate_left
 ·have hF:yA m evl w e=(9,w):=by rw [yA,if_neg (λh=>h h1),if_neg h2,if_pos h3]
  rw [lD,hF]
  refine zy.of pg ZI Tryz.func37 rfl Tryz.ntmps37 Tryz.results37 rfl λh0 G0 O0=>?_
  repeat'(first|apply Sp.h|refine Lk.r rfl ?_|refine Rf.mk rfl ?_|apply yc.mk|refine xT ?_|refine Ch.l ⟨rfl,rfl⟩ ?_|intro _)
  refine xW (qx) ?_
  rintro _ _ ⟨rfl,rfl⟩
  repeat'(first|apply Sp.h|refine Lk.r rfl ?_|refine Rf.mk rfl ?_|refine xA ?_|refine yu.r rfl ?_|refine xT ?_|refine Ch.l ⟨rfl,rfl⟩ ?_|refine xD ?_|(apply Cl.p (hn);focus(repeat' constructor);done)|(apply Cl.p (hh);focus(repeat' constructor);done))
  refine xW (Hp) ?_
  rintro _ _ ⟨u,l,rfl,rfl,WT,ku⟩
  have eg:0 < l.length:=List.length_pos_iff.2 λh=>h3 (WT.1 h rZ)
  repeat'(first|apply Sp.h|refine Lk.r rfl ?_|refine Rf.mk rfl ?_|refine xA ?_|refine yu.r rfl ?_|refine xU ?_|refine xN ?_|fail)
  exact⟨_,_,.one (.same (.z)),rfl,v,rfl⟩
 have Rq:0<=e.rep/\e.rep.toNat < w.clock.length:=by
  obtain⟨_,f2,⟨x,f3,_⟩,_⟩:=h1.1
  have:=(zS.1 f3).1
  exact⟨f2,by have:=h1.2.1;omega⟩
 have ue:=hw.Vc.2.2
 have hc4:∀k,(wI m w e k).places=w.places∨5<=k:=λk=>by
  match k with
  | 0=>exact .inl rfl
  | 1=>exact .inl rfl
  | 2=>exact .inl rfl
  | 3=>exact .inl rfl
  | 4=>exact .inl rfl
  | k+5=>exact .inr z6
 refine zy.of pg ZI Tryz.func37 rfl Tryz.ntmps37 Tryz.results37 rfl λh0 G0 O0=>?_
 repeat'(first|apply Sp.h|refine Lk.r rfl ?_|refine Rf.mk rfl ?_|apply yc.mk|refine xT ?_|refine Ch.l ⟨rfl,rfl⟩ ?_|intro _)
 rename_i b3
 refine xW (qx) ?_
 rintro _ _ ⟨rfl,rfl⟩
 repeat'(first|apply Sp.h|refine Lk.r rfl ?_|refine Rf.mk rfl ?_|refine xA ?_|refine yu.r rfl ?_|refine xT ?_|refine Ch.l ⟨rfl,rfl⟩ ?_|refine xD ?_|(apply Cl.p (hn);focus(repeat' constructor);done)|(apply Cl.p (hh);focus(repeat' constructor);done))
 refine xW (Hp) ?_
 rintro _ _ ⟨u,l,rfl,rfl,WT,ku⟩
 have eg:l.length=0:=by rw [WT.2 λ_=>h3];rfl
 repeat'(first|apply Sp.h|refine Lk.r rfl ?_|refine Rf.mk rfl ?_|refine xB ?_|refine yu.r rfl ?_|apply yc.mk|refine xU ?_|refine xT ?_|refine Ch.l ⟨rfl,rfl⟩ ?_|refine Ch.r ?_|(apply Fk.r;focus repeat' first|infer_instance|constructor)|refine Rf.mk ⟨rfl,rfl,rfl⟩ ?_|refine xD ?_|intro _)
 rename_i x q
 refine CA.loop (λi:Nat=>⟨[(0,pm s),(3,pm b3),(5,pm x),(52,.ow q),(53,it 5),(54,it i)],[vw s m b v w,yb v 66 13 evl uf,yr b3 66 (uf e),lA x s e (wI m w e i),yb q 162 1 (HD x) id]⟩)
  (λi=>i<=5/\(2<=i->¬iT evl e)/\(3<=i->¬(e.kind=0/\¬lC (xY m w.state e)))/\(4<=i->(yq m w.merged e).1=0)) (λi=>5 - i) 0 xE ⟨z6,λh=>z6,λh=>z6,λh=>z6⟩ ?_
 rintro i ⟨hi,i2,i3,i4⟩
 match i,hi with
 | 0,_ =>
  have hq:(HD x)[0]?=some [AV.fb 94 [pm x]]:=rfl
  have hc:=Pc x s e w Rq.1 Rq.2 ue
  repeat'(first|apply Sp.h|refine Lk.r rfl ?_|refine Rf.mk rfl ?_|refine xA ?_|refine xU ?_|refine xI ?_|refine xJ ?_|fail)
  refine xW (hc) ?_
  rintro _ _ ⟨rfl,rfl⟩
  repeat'(first|apply Sp.h|refine Lk.r rfl ?_|refine Rf.mk rfl ?_|refine xA ?_|refine xO ?_|fail)
  exact PA.lp 1 xE ⟨⟨z6,λh=>z6,λh=>z6,λh=>z6⟩,z6⟩
 | 1,_ =>
  have hq:(HD x)[1]?=some [AV.fb 95 [pm x]]:=rfl
  have hc:=Qv x s m b v evl w e (wI m w e 1) z6
  repeat'(first|apply Sp.h|refine Lk.r rfl ?_|refine Rf.mk rfl ?_|refine xA ?_|refine xU ?_|refine xI ?_|refine xJ ?_|fail)
  refine xW (hc) ?_
  rintro _ _ (⟨hL,rfl,rfl⟩|⟨hL,rfl,rfl⟩)
  ·have hF:yA m evl w e=(2,w):=by rw [yA,if_neg (λh=>h h1),if_neg h2,if_neg (λh=>h h3),if_pos hL]
   rw [lD,hF]
   repeat'(first|apply Sp.h|refine Lk.r rfl ?_|refine Rf.mk rfl ?_|refine xB ?_|refine xN ?_|fail)
   exact⟨_,_,.one (.same (.z)),rfl,v,rfl⟩
  ·repeat'(first|apply Sp.h|refine Lk.r rfl ?_|refine Rf.mk rfl ?_|refine xA ?_|refine xO ?_|fail)
   exact PA.lp 2 xE ⟨⟨z6,λ_=>hL,λh=>z6,λh=>z6⟩,z6⟩
 | 2,_ =>
  have hq:(HD x)[2]?=some [AV.fb 96 [pm x]]:=rfl
  have hL:=i2 z6
  have hc:=Jg x s m b v w e (wI m w e 2) hm hw.st (λhk=>⟨nq h1.1 hk,h1.2.2 hk⟩)
  repeat'(first|apply Sp.h|refine Lk.r rfl ?_|refine Rf.mk rfl ?_|refine xA ?_|refine xU ?_|refine xI ?_|refine xJ ?_|fail)
  refine xW (hc) ?_
  rintro _ _ (⟨hk,iJ,rfl,rfl⟩|⟨iJ,rfl,rfl⟩)
  ·have hF:yA m evl w e=(2,w):=by rw [yA,if_neg (λh=>h h1),if_neg h2,if_neg (λh=>h h3),if_neg hL,if_pos ⟨hk,iJ⟩]
   rw [lD,hF]
   repeat'(first|apply Sp.h|refine Lk.r rfl ?_|refine Rf.mk rfl ?_|refine xB ?_|refine xN ?_|fail)
   exact⟨_,_,.one (.same (.z)),rfl,v,rfl⟩
  ·repeat'(first|apply Sp.h|refine Lk.r rfl ?_|refine Rf.mk rfl ?_|refine xA ?_|refine xO ?_|fail)
   exact PA.lp 3 xE ⟨⟨z6,λ_=>hL,λ_=>iJ,λh=>z6⟩,z6⟩
 | 3,_ =>
  have hq:(HD x)[3]?=some [AV.fb 97 [pm x]]:=rfl
  have hL:=i2 z6
  have iJ:=i3 z6
  have hc:=UG x s m b v w e (wI m w e 3) hm
  by_cases hA:(yq m w.merged e).1=0
  ·repeat'(first|apply Sp.h|refine Lk.r rfl ?_|refine Rf.mk rfl ?_|refine xA ?_|refine xU ?_|refine xI ?_|refine xJ ?_|fail)
   refine xW (hc) ?_
   rintro _ _ ⟨rfl,rfl⟩
   simp only [wI]
   repeat'(first|apply Sp.h|refine Lk.r rfl ?_|refine Rf.mk rfl ?_|refine xA ?_|refine xO ?_|fail)
   exact PA.lp 4 xE ⟨⟨z6,λ_=>hL,λ_=>iJ,λ_=>hA⟩,z6⟩
  ·have hF:yA m evl w e=((yq m w.merged e).1,w):=by rw [yA,if_neg (λh=>h h1),if_neg h2,if_neg (λh=>h h3),if_neg hL,if_neg iJ,if_pos hA]
   rw [lD,hF]
   repeat'(first|apply Sp.h|refine Lk.r rfl ?_|refine Rf.mk rfl ?_|refine xA ?_|refine xU ?_|refine xI ?_|refine xJ ?_|fail)
   refine xW (hc) ?_
   rintro _ _ ⟨rfl,rfl⟩
   simp only [wI]
   rw [if_neg hA]
   repeat'(first|apply Sp.h|refine Lk.r rfl ?_|refine Rf.mk rfl ?_|refine xB ?_|refine xN ?_|fail)
   exact⟨_,_,.one (.same (.z)),rfl,v,rfl⟩
 | 4,_ =>
  have hq:(HD x)[4]?=some [AV.fb 98 [pm x]]:=rfl
  have hc:=Qt x s e (wI m w e 4) hw.WZ hw.SS
  repeat'(first|apply Sp.h|refine Lk.r rfl ?_|refine Rf.mk rfl ?_|refine xA ?_|refine xU ?_|refine xI ?_|refine xJ ?_|fail)
  refine xW (hc) ?_
  rintro _ _ ⟨rfl,rfl⟩
  repeat'(first|apply Sp.h|refine Lk.r rfl ?_|refine Rf.mk rfl ?_|refine xA ?_|refine xO ?_|fail)
  exact PA.lp 5 xE ⟨⟨z6,λ_=>i2 z6,λ_=>i3 z6,λ_=>i4 z6⟩,z6⟩
 | 5,_ =>
  have hL:=i2 z6
  have iJ:=i3 z6
  have hA:=i4 z6
  have hF:yA m evl w e=(0,wI m w e 5):=by rw [yA,if_neg (λh=>h h1),if_neg h2,if_neg (λh=>h h3),if_neg hL,if_neg iJ,if_neg (λh=>h hA)];rfl
  have kq:=h1.1.1.2.2
  have jW:=Ws [e] zd (λd hd=>by rw [zH.1 hd];omega)
  rw [lD,hF,if_pos rfl]
  repeat'(first|apply Sp.h|refine Lk.r rfl ?_|refine Rf.mk rfl ?_|refine xB ?_|refine yu.r rfl ?_|apply yc.mk|refine xT ?_|refine Ch.l ⟨rfl,rfl⟩ ?_|refine Ch.r ?_|(apply y4.r;focus repeat' constructor)|(apply Fk.r;focus repeat' first|infer_instance|constructor)|refine Rf.mk ⟨rfl,rfl,rfl⟩ ?_|refine xD ?_|intro _)
  apply Cl.fx [vm [e]]
  focus(apply FX.sl;{exact z1};{exact zw};{exact FX.le (wV.refl _) FX.nil};{exact FX.nil})
  repeat'(first|apply Sp.h|refine Lk.r rfl ?_|refine Rf.mk rfl ?_|refine yu.r rfl ?_|refine xP ?_|refine yc.mk λ_=>?_|refine xU ?_|refine xT ?_|refine Ce.r ?_|refine xV ?_|refine xN ?_|refine Rf.mk ⟨rfl,rfl⟩ ?_|refine Mp.same ?_|(apply Cl.p (jW);focus repeat' constructor))
  exact⟨_,_,.one (.same (.z)),rfl,_,rfl⟩
end Go.Proofs.YtmjllbjfkafhdaaGreatDoor
namespace Go.CF
open Go
section
variable {Γ:Cx} {k:List KI} {e:EA} {o:List yh} {N:NA} {c:xa} {d:Tmp} {ty:TypeId} {x y z:Operand} {t u:TypeId} {kk:IntKind} {i:Int}
instance {v:Value} {s j m:Nat}:Sp (lO Γ c d (.call { callee:= .builtin .len,args:=#[x],argTypes:=#[t] }) ty e o N x (.os v s j m)) (Lk (nN Γ.tt t) λ_=>N ((d,.val (.int .i64 (m:Int))) :: e) o):=⟨λ⟨p,hp,hn⟩=>⟨λha=>⟨λenv hh G Os cn=>by
 obtain⟨w,h1,q,len,cap,rfl,hle,rfl⟩:=cn.get ha
 obtain⟨ti,t1,t2,t3⟩:=xg hp
 exact St.len Γ.ok t1 t2 h1 (CN.mk (cn.put d (a:= .val _) rfl) hn)⟩⟩⟩
instance {v:Value} {s j m:Nat}:Sp (tZ Γ c d (.indexAddr t x y) ty e o N x (.os v s j m) y (.val (.int kk i))) (Lk (nN Γ.tt t) λp=>gU o v λ_ sz _ _ _=>Rf (p.2.size=sz/\s=sz) (Sx i m λq=>N ((d,.oe v sz (j+q) 0) :: e) o)):=⟨λ⟨p,hp,α,T,sz,l,f,rest,tk,hz,q,hi,hq,hn⟩=>⟨λha hb=>⟨λenv hh G Os cn=>by
 obtain⟨hz,rfl⟩:=hz
 obtain⟨w,h1,q',len,cap,rfl,hle,rfl⟩:=cn.get ha
 obtain⟨w',Zz,eA⟩:=cn.get hb
 have hw:w'= .int kk i:=eA
 subst hw
 obtain⟨O,yz,yT⟩:=cn.take tk
 obtain⟨⟨_,rows,hw,_⟩,_⟩:=yT.hp.own
 obtain⟨ti,t1,t2,t3⟩:=xg hp
 rcases hw.ok with⟨he,h0⟩|⟨b,of,wR,L,he,_,_,oP,_⟩
 ·cases he;omega
 ·cases he
  have hs:vd (some ⟨b,of,none⟩) s j cap=some ⟨b,of+j * s,none⟩:=by
   unfold vd
   rw [if_neg z6]
   simp [yZ]
  rw [hs] at h1
  exact St.indexAddr Γ.ok t1 t2 t3 h1 Zz hi hq (CN.mk (cn.put d (a:= .oe _ s (j+q) 0) ⟨b,of,_,cap,rfl,by rw [hz,Nat.add_zero,Nat.add_mul,Nat.add_assoc]⟩) hn)⟩⟩⟩
theorem wV.yE{l m:List AV}(r:bA l m):wV (.yE l) (.yE m):=⟨λ⟨vs,h1,h2⟩=>⟨vs,h1,r.rep h2⟩⟩
theorem wV.agg{l m:List AV}(r:bA l m):wV (.agg l) (.agg m):=⟨λ⟨vs,h1,h2⟩=>⟨vs,h1,⟨r.rep h2.t,h2.one⟩⟩⟩
end

/-! ### The HM y9 -/
section
open Go.Sort
theorem iE{α:Type}[Inhabited α](enc:α->Value)(o:Nat)(d:List α)(c:List Value)(hd:o+d.length<=c.length) :
  putCells enc o d.toArray c.toArray=(c.take o ++ d.map enc ++ c.drop (o+d.length)).toArray:=by
 apply Array.ext'
 simp only [putCells]
 refine List.ext_getElem? λq=>?_
 simp only [Array.toList_mapIdx,List.getElem?_mapIdx,List.size_toArray]
 by_cases g1:q < o
 ·have h2:q < c.length:=z6
  rw [List.append_assoc,zI zk,List.getElem?_take,if_pos g1,zE h2,Option.map_some,if_neg z6]
 ·by_cases g2:q < o+d.length
  ·have h2:q < c.length:=z6
   have h3:q - o < d.length:=z6
   rw [zI zk,zJ zk,zE h2,Option.map_some,if_pos z6,zN,Nat.min_eq_left z6,zG,zE h3]
   simp [getElem!_pos,h3]
  ·rw [zJ zk,List.getElem?_drop]
   simp only [zP,zN,List.length_map,Nat.min_eq_left (show o<=c.length by omega)]
   rw [show o+d.length+(q - (o+d.length))=q by omega]
   cases hq:c[q]? with
   | none=>rfl
   | some x=>rw [Option.map_some,if_neg z6]
theorem jf{α β:Type}(g:α->β) :∀l:List α,(l.map λx=> [g x]).flatten=l.map g
 | []=>rfl
 | a :: l=>by simp [jf g l]
theorem Qp{α:Type}[Inhabited α]{enc:α->Value}{w w':World}{b of n cap len T sz:Nat}{L:List Value}{ds:List α}{os:Array Obj}(hb:lN w.heap b T L)(ho:of+cap * sz<=L.length)(hlen:len<=cap)(hd:ds.length=len * sz)
  (gN:w'=Sort.grow (putRow enc (Sort.ahead w n) b of ds.toArray) os) :
  yW w w'/\uo (λx=>¬x=b) w.heap w'.heap/\Own w'.heap (.slice (some ⟨b,of,none⟩) len cap) T sz len (ds.map enc):=by
 have hm:len * sz<=cap * sz:=zU _ hlen
 have hg:=hb.get
 have xC:=(zA.1 hg).1
 have hh:w'.heap=w.heap.modify b (onCells (putCells enc of ds.toArray)) ++ os:=by rw [gN];rfl
 refine⟨⟨by subst gN;rfl,by subst gN;rfl,by subst gN;rfl,by subst gN;exact Nat.le_add_right _ _,by rw [hh];simp,λk o hk ho=>?_⟩,⟨?_,λq hq hl=>?_⟩,by simp [hd],.inr ⟨b,of,cap,L.take of ++ ds.map enc ++ L.drop (of+ds.length),rfl,⟨?_⟩, ?_,hlen, ?_⟩⟩
 ·have MO:=(zA.1 hk).1
  rw [hh,Array.getElem?_append_left (by simpa using MO),Array.getElem?_modify]
  by_cases hkb:b=k
  ·subst hkb;rw [hg] at hk;cases hk;cases ho
  ·rw [if_neg hkb];exact hk
 ·rw [hh];simp
 ·rw [hh,Array.getElem?_append_left (by simpa using hl),Array.getElem?_modify,if_neg (λe=>hq e.symm)]
 ·rw [hh,Array.getElem?_append_left (by simpa using xC),Array.getElem?_modify,if_pos rfl,hg,Option.map_some]
  simp only [onCells]
  rw [iE enc of ds L z6]
 ·simp only [zP,zN,List.length_map,List.length_drop]
  omega
 ·rw [List.append_assoc,List.drop_append_of_le_length zk,List.drop_eq_nil_of_le zk,List.nil_append,List.take_append_of_le_length zk,List.take_of_length_le zk]
theorem Wj{w:World}{b of T:Nat}{L:List Value}(hb:lN w.heap b T L){α:Type}[Inhabited α](enc:α->Value)(ds:List α)(hd:(L.drop of).take ds.length=ds.map enc):Holds enc w b of ds.toArray:=by
 intro j hj
 have hj:j < ds.length:=by simpa using hj
 have h1:((L.drop of).take ds.length)[j]?=some (enc ds[j]):=by rw [hd];simp [hj]
 rw [List.getElem?_take,if_pos hj,List.getElem?_drop] at h1
 have hg:=hb.get
 constructor
 ·simp only [World.cell?,hg]
  simp [h1,hj]
 ·simp [World.frozen?,hg]
open Go.Proofs in
theorem Q6{P:Program}{ρ:Shelf.Ren}(L:Lays.n189 P ρ)(v:Value)(T:TypeId)(l:List Int)(hl:l.length<=1000000) :
  zy P (ρ.f 189) [.ow v] [yb v T 1 l λx=> [.val (.int .i64 x)]] λr own=>r= .yE []/\own= [yb v T 1 (l.mergeSort λx y=>decide (x<=y)) λx=> [.val (.int .i64 x)]]:=by
 refine⟨λh G Os vs hr hp=>?_⟩
 match vs,hr with
 | [w0],⟨⟨h1,p,len,cap,h2⟩,_⟩ =>
  subst h1
  match Os,hp with
  | [O],hp =>
   obtain⟨⟨hO,rows,oO,pJ⟩,_⟩:=hp.own
   have Mn:rows.flatten=l.map (Value.int .i64):=by
    have h3:rows=l.map λx=> [Value.int .i64 x]:=by
     refine List.ext_getElem? λq=>?_
     rw [zG]
     cases hq:l[q]? with
     | none =>
      have:=List.getElem?_eq_none_iff.1 hq
      have:=pJ.len
      rw [zX z6];rfl
     | some x =>
      obtain⟨row,g1,g2,_⟩:=pJ.at hq
      rw [g1]
      have:row= [Value.int .i64 x]:=nA (r:= [.int .i64 x]) g2.t
      rw [this];rfl
    rw [h3,jf]
   have fin:∀rows',rows'=(l.mergeSort λx y=>decide (x<=y)).map (λx=> [Value.int .i64 x])->∀h' G',Rows h' G' 1 rows' (l.mergeSort λx y=>decide (x<=y)) λx=> [AV.val (.int .i64 x)]:=by
    rintro _ rfl h' G'
    refine⟨by simp,λq r x g1 g2=>?_,λr hr=>?_⟩
    ·rw [zG,g2] at g1
     cases g1
     exact⟨⟨rfl,trivial⟩,by simp [Value.oneCell']⟩
    ·obtain⟨x,_,rfl⟩:=List.mem_map.1 hr;rfl
   have SG:∀s:List Int,(s.map λx=> [Value.int .i64 x]).flatten=s.map (Value.int .i64):=λs=>jf _ s
   rw [Mn] at oO
   refine⟨λw hw=>?_⟩
   subst hw
   rcases oO.ok with⟨he,h0⟩|⟨b,of,wR,L',he,hb,h3,h4,h5⟩
   ·have eg:l= []:=zQ h0
    subst eg
    subst he
    refine(Any.slices_Sort_int_none L none 0 w).mono ?_
    rintro e w' ⟨rfl,rfl⟩
    exact⟨_,rfl,yW.refl _,.yE [],_,G,[O],⟨rfl,rfl⟩,⟨[],rfl,trivial⟩,⟨⟨⟨hO,rows,by rw [Mn];simpa using oO,by simpa using pJ⟩,trivial⟩,hp.g,hp.g0,hp.o,hp.d,hp.fp⟩⟩
   ·subst he
    rw [Nat.mul_one] at h3 h5
    have hH:=Wj hb (Value.int .i64) l (by simpa using h5)
    refine(calls_of_every_depth λD=>AnyS.slices_Sort_int_in L.lead D b of wR l w hH hb.lt z6).mono ?_
    rintro e w' ⟨rfl,n,os,gN⟩
    obtain⟨k1,k2,k3⟩:=Qp (ds:=l.mergeSort λx y=>decide (x<=y)) (sz:=1) (len:=l.length) (cap:=wR) hb z6 h4 zd gN
    have hOb:∀x,O x↔x=b:=λx=>by rw [hO];simp [xz]
    have k2':uo (λx=>¬O x) w.heap w'.heap:=k2.mono λx hx e=>hx ((hOb x).2 e)
    obtain⟨k4,_⟩:=hp.jT (R':=yb (.slice (some ⟨b,of,none⟩) l.length wR) T 1 (l.mergeSort λx y=>decide (x<=y)) λx=> [.val (.int .i64 x)]) (O':=O) k2'
     (λx hx=>⟨Nat.lt_of_lt_of_le (hp.o O zd x hx).1 k2.size,.inl hx⟩)
     ⟨hO,_,by rw [SG];simpa using k3,fin _ rfl _ _⟩
    exact⟨_,rfl,k1,.yE [],_,G,[O],⟨rfl,rfl⟩,⟨[],rfl,trivial⟩,k4⟩
end
end Go.CF
namespace Go.Proofs.YtmjllbjfkafhdaaGreatDoor
open Go Go.CF
structure eC (b:yt):Prop where
 c:b.clock.length<=100000
 s:b.state.length<=100000
 m:b.merged.length<=100000
 k:∀g∈b.merged,g.marks.length<=1000000
 p:b.places.length<=100000
theorem ll(b:yt)(r s:AV)(h:eC b) :
  zy Tryz.prog 104 [.agg [ints b.clock,it b.time,ints b.state,uH b.merged,r,s,ints b.places]] [] λq own=>∃v1 v2 v3 L v4,q= .agg [.ow v1,it b.time,.ow v2,.ow v3,tz,tz,.ow v4]/\L.map uM.g=b.merged/\
   own= [yb v4 3 1 b.places xL,yb v3 231 3 L vD,u9 (L.map tj),yb v2 3 1 b.state xL,yb v1 3 1 b.clock xL]:=by
 have h1:=ud b.clock (by have:=h.c;omega)
 have h2:=ud b.state (by have:=h.s;omega)
 have h3:=cr b.merged (by have:=h.m;omega) h.k
 have h4:=ud b.places (by have:=h.p;omega)
 refine zy.of pg I9 Tryz.func104 rfl Tryz.ntmps104 Tryz.results104 rfl λh0 G0 O0=>?_
 repeat'(first|apply Sp.h|refine Lk.r rfl ?_|refine Rf.mk rfl ?_|refine yu.r rfl ?_|apply yc.mk|refine xT ?_|refine xN ?_|refine xD ?_|intro _)
 (refine Cl.use (h1) (by repeat'(first|exact y3.nil|apply y3.yB|fail)) .nil rfl ?_;rintro _ _ ⟨_,rfl,rfl⟩)
 repeat'(first|apply Sp.h|refine Lk.r rfl ?_|refine Rf.mk rfl ?_|refine yu.r rfl ?_|fail)
 (refine Cl.use (h2) (by repeat'(first|exact y3.nil|apply y3.yB|fail)) .nil rfl ?_;rintro _ _ ⟨_,rfl,rfl⟩)
 repeat'(first|apply Sp.h|refine Lk.r rfl ?_|refine Rf.mk rfl ?_|refine yu.r rfl ?_|fail)
 refine xW (h3) ?_
 rintro _ _ ⟨v3,L,rfl,hL,rfl⟩
 repeat'(first|apply Sp.h|refine Lk.r rfl ?_|refine Rf.mk rfl ?_|refine yu.r rfl ?_|fail)
 (refine Cl.use (h4) (by repeat'(first|exact y3.nil|apply y3.yB|fail)) .nil rfl ?_;rintro _ _ ⟨_,rfl,rfl⟩)
 repeat'(first|apply Sp.h|refine Lk.r rfl ?_|refine Rf.mk rfl ?_|refine yu.r rfl ?_|refine xT ?_|(apply y4.r;focus repeat' constructor)|(apply Fk.r;focus repeat' first|infer_instance|constructor)|refine xN ?_|fail)
 exact⟨_,_,.one (.same (.z)),_,_,_,L,_,rfl,hL,rfl⟩
theorem qT(b:yt)(r s:AV)(h:eC b):y6 Tryz.prog 104 [.agg [ints b.clock,it b.time,ints b.state,uH b.merged,r,s,ints b.places]] (RF b):=by
 refine zy.fx (ll b r s h) ?_
 rintro q o ⟨v1,v2,v3,L,v4,rfl,hL,rfl⟩
 have:=h.c;have:=h.s;have:=h.m;have:=h.p
 have hk:∀x∈L,x.marks.length<=1000000:=λx hx=>h.k x.g (by rw [<-hL];exact List.mem_map_of_mem hx)
 have SL:L.length<=1000000:=by have:=congrArg List.length hL;simp at this;omega
 rw [show RF b= .agg [ints b.clock,it b.time,ints b.state,uH (L.map uM.g),tz,tz,ints b.places] by rw [hL]]
 refine .agg ?_ .nil
 refine FX.s1 (T:=3) z1 z6 (FX.k (FX.s1 (T:=3) z1 z6 ?_))
 refine Yb z1 z1 SL hk (FX.k (FX.k (FX.s1 (T:=3) z1 z6 .nil)))
theorem _root_.Go.CF.ze {p:Prop}(h:p:=by ((repeat'(first|exact y3.nil|apply y3.yB|apply y3.agg|fail)));first|done|fail):p:=h
theorem Ib(m:y8)(b:yt)(r s:AV)(h:eC b) :
  zy Tryz.prog 87 [wH m,.agg [ints b.clock,it b.time,ints b.state,uH b.merged,r,s,ints b.places]] [] λq own=>∃p v,q=pm p/\own= [vw p m b v b,yb v 66 13 ([]:List yo) uf]:=by
 have h1:=qT b r s h
 have h2:=qT b tz tz h
 refine zy.own (K:=λq own=>∃p,q=pm p/\own= [yr p 133 [ints m.y9,xG m.tables,.sl 1 m.xm ur,.sl 6 m.cons lE,.sl 3 m.ops PM,.sl 5 m.yP iq,.sl 3 m.yp tL,ints b.clock,it b.time,ints b.state,uH b.merged,tz,tz,ints b.places,tz,ints b.clock,it b.time,ints b.state,uH b.merged,ints b.places]]) ?_ ?_
 ·refine zy.of pg ye Tryz.func87 rfl Tryz.ntmps87 Tryz.results87 rfl λh0 G0 O0=>?_
  repeat'(first|apply Sp.h|refine Lk.r rfl ?_|refine Rf.mk rfl ?_|refine yc.mk λ_=>?_|refine xT ?_|refine Ch.l ⟨rfl,rfl⟩ ?_|(apply y4.r;focus repeat' constructor)|(apply Fk.r;focus repeat' first|infer_instance|constructor)|refine xN ?_|(apply Cl.p (h1);{exact ze})|(apply Cl.p (h2);{exact ze}))
  exact⟨_,_,.one (.same (.z)),_,rfl,rfl⟩
 ·rintro _ _ ⟨p,rfl,rfl⟩
  refine⟨[vw p m b (.slice none 0 0) b,yb (.slice none 0 0) 66 13 ([]:List yo) uf], ?_,p,_,rfl,rfl⟩
  refine(OX.nil _ 66 13 uf).trans (OX.Jj (.there .here) _ ?_)
  (repeat'(first|exact bA.nil|(apply bA.cons;(focus first|exact wV.refl _|exact wV.Mc|exact wV.nil))))
theorem Yh(m:y8)(n:Nat)(ld:List Int)(hm:nR m)(hn:1<=n/\n<=5)(hl:ld.length=xk m)(hs:lC ld) :
  zy Tryz.prog 35 [wH m,it n,ints ld] [] λq own=>∃p v,q= .yE [pm p,it 0]/\own= [vw p m ⟨List.replicate n 0,0,ld,List.replicate (yw m).length nS,[]⟩ v ⟨List.replicate n 0,0,ld,List.replicate (yw m).length nS,[]⟩,yb v 66 13 ([]:List yo) uf]:=by
 have h1:=gG m hm.lay
 have h2:=ou ld
 rw [zT hs] at h2
 have h3:y6 Tryz.prog 88 [it n] (ints (List.replicate n 0)):=zy.fz (T:=3) zk (by have:=RR (n:Int) z6;rwa [Int.toNat_natCast] at this)
 have h4:=EY m hm.lay
 have:=hm.str;have:=hm.Sq
 have h5:=Ib m ⟨List.replicate n 0,0,ld,List.replicate (yw m).length nS,[]⟩ tz tz ⟨by simp;omega,by simp only;omega,by simp;omega,λg hg=>by rw [(List.mem_replicate.1 hg).2];simp [nS],by simp⟩
 have h6:zy Tryz.prog 87 [wH m,.agg [ints (List.replicate n 0),it 0,ints ld,uH (List.replicate (yw m).length nS),tz,tz,tz]] [] λq own=>∃p v,q=pm p/\own= [vw p m ⟨List.replicate n 0,0,ld,List.replicate (yw m).length nS,[]⟩ v ⟨List.replicate n 0,0,ld,List.replicate (yw m).length nS,[]⟩,yb v 66 13 ([]:List yo) uf]:=by
  refine zy.args (bA.cons (wV.refl _) (bA.cons (wV.agg ?_) .nil)) h5
  (repeat'(first|exact bA.nil|(apply bA.cons;(focus first|exact wV.refl _|exact wV.Mc|exact wV.nil))))
 refine zy.of pg VG Tryz.func35 rfl Tryz.ntmps35 Tryz.results35 rfl λh0 G0 O0=>?_
 repeat'(first|apply Sp.h|refine Lk.r rfl ?_|refine Rf.mk rfl ?_|refine xA ?_|refine xB ?_|refine yu.r rfl ?_|refine Im.mk λ_=>?_|refine yc.mk λ_=>?_|refine xT ?_|refine Ch.l ⟨rfl,rfl⟩ ?_|(apply Fk.r;focus repeat' first|infer_instance|constructor)|refine xD ?_|(apply Cl.p (h1);focus(repeat' constructor);done)|(apply Cl.p (h2);focus(repeat' constructor);done)|(apply Cl.p (h3);focus(repeat' constructor);done)|(apply Cl.p (h4);focus(repeat' constructor);done))
 refine xW (h6) ?_
 rintro _ _ ⟨p,v,rfl,rfl⟩
 repeat'(first|apply Sp.h|refine Lk.r rfl ?_|refine yu.r rfl ?_|refine xN ?_|fail)
 exact⟨_,_,.yE (.same (.same (.z))),p,v,rfl,rfl⟩
def tO(a b:List Int):Prop:=w9 [a,b]/\Ins b a
noncomputable instance (a b:List Int):Decidable (tO a b):=zC _
theorem jl(a b:List Int):tO a b↔(vY a/\vY b/\a.length=b.length)/\Ins b a:=by
 unfold tO
 rw [PC]
theorem sJ(a b:List Int):y6 Tryz.prog 62 [ints a,ints b] (bl (decide (tO a b))):=by
 have h:=Wp a b
 by_cases rZ:w9 [a,b]
 ·rw [if_pos rZ] at h
  refine zy.of pg ye Tryz.func62 rfl Tryz.ntmps62 Tryz.results62 rfl λh0 G0 O0=>?_
  by_cases kz:Ins b a
  ·rw [zT (show tO a b from⟨rZ,kz⟩)]
   by_cases pz:Ins a b
   ·rw [if_pos ⟨pz,kz⟩] at h
    repeat'(first|apply Sp.h|refine Lk.r rfl ?_|refine Rf.mk rfl ?_|refine xA ?_|refine xN ?_|(apply Cl.p (h);focus repeat' constructor))
    all_goals exact Fin.p rfl (vb zd)
   ·rw [if_neg (λh=>pz h.1),if_neg pz,if_pos kz] at h
    repeat'(first|apply Sp.h|refine Lk.r rfl ?_|refine Rf.mk rfl ?_|refine xA ?_|refine xB ?_|refine xN ?_|(apply Cl.p (h);focus repeat' constructor))
    all_goals exact Fin.p rfl (vb zd)
  ·rw [zF (λh:tO a b=>kz h.2)]
   by_cases pz:Ins a b
   ·rw [if_neg (λh=>kz h.2),if_pos pz] at h
    repeat'(first|apply Sp.h|refine Lk.r rfl ?_|refine Rf.mk rfl ?_|refine xA ?_|refine xB ?_|refine xN ?_|(apply Cl.p (h);focus repeat' constructor))
    all_goals exact Fin.p rfl (vb zd)
   ·rw [if_neg (λh=>kz h.2),if_neg pz,if_neg kz] at h
    repeat'(first|apply Sp.h|refine Lk.r rfl ?_|refine Rf.mk rfl ?_|refine xA ?_|refine xB ?_|refine xN ?_|(apply Cl.p (h);focus repeat' constructor))
    all_goals exact Fin.p rfl (vb zd)
 ·rw [if_neg rZ] at h
  rw [zF (λh:tO a b=>rZ h.1)]
  refine zy.of pg ye Tryz.func62 rfl Tryz.ntmps62 Tryz.results62 rfl λh0 G0 O0=>?_
  repeat'(first|apply Sp.h|refine Lk.r rfl ?_|refine Rf.mk rfl ?_|refine xB ?_|refine xN ?_|(apply Cl.p (h);focus repeat' constructor))
  all_goals exact Fin.p rfl (vb zd)
theorem hZ(c:List Int)(e:yo):y6 Tryz.prog 65 [ints c,uL e] (bl (decide (x9 c e.rep e.num))):=by
 have h:=kZ c e.rep e.num
 refine zy.of pg ye Tryz.func65 rfl Tryz.ntmps65 Tryz.results65 rfl λh0 G0 O0=>?_
 repeat'(first|apply Sp.h|refine Lk.r rfl ?_|refine Rf.mk rfl ?_|refine yc.mk λ_=>?_|refine xT ?_|(apply Fk.r;focus repeat' first|infer_instance|constructor)|refine xN ?_|(apply Cl.p (h);focus repeat' constructor))
 exact Fin.p rfl rfl
theorem rW(a b:List Int):y6 Tryz.prog 27 [ints a,ints b] (bl (decide (tO a b))):=by
 have h1:=uB a
 have h2:=uB b
 by_cases hv:vY a/\vY b/\a.length=b.length
 ·obtain⟨v1,v2,v3⟩:=hv
  rw [zT v1] at h1
  rw [zT v2] at h2
  refine zy.of pg Ma Tryz.func27 rfl Tryz.ntmps27 Tryz.results27 rfl λh0 G0 O0=>?_
  repeat'(first|apply Sp.h|refine Lk.r rfl ?_|refine Rf.mk rfl ?_|refine xA ?_|refine Im.mk λ_=>?_|(apply Cl.p (h1);focus(repeat' constructor);done)|(apply Cl.p (h2);focus(repeat' constructor);done))
  all_goals try exact(by omega:False).elim
  refine CA.loop (λi:Nat=>⟨[(0,ints a),(1,ints b),(5,it i)],[]⟩) (λi=>i<=a.length/\∀j x,j < i->b[j]?=some x->∀y,a[j]?=some y->x<=y) (λi=>a.length - i) 0 xE ⟨zZ _,λj x h=>z6⟩ ?_
  rintro i ⟨hi,hle⟩
  by_cases yd:i < a.length
  ·obtain⟨x,hx⟩:=zz yd
   obtain⟨y,hy⟩:=zz (l:=b) (i:=i) z6
   by_cases pS:x < y
   ·rw [zF (λh:tO a b=>by have:=h.2 i y x hy hx;omega)]
    repeat'(first|apply Sp.h|refine Lk.r rfl ?_|refine Rf.mk rfl ?_|refine xA ?_|refine yu.r rfl ?_|apply Im.mk|refine xI ?_|refine xN ?_|refine xD ?_|intro _)
    all_goals first
     | exact Fin.p rfl rfl
     | exact(by omega:False).elim
   ·repeat'(first|apply Sp.h|refine Lk.r rfl ?_|refine Rf.mk rfl ?_|refine xA ?_|refine xB ?_|refine yu.r rfl ?_|apply Im.mk|refine xI ?_|refine xD ?_|refine xO ?_|intro _)
    all_goals first
     | exact PA.lp (i+1) xE ⟨⟨yd,yg hy hle λz hz=>by rw [hx] at hz;cases hz;omega⟩,z6⟩
     | exact(by omega:False).elim
  ·rw [zT ((jl a b).2 ⟨⟨v1,v2,v3⟩,λj x y hx hy=>hle j x (by have:=(zS.1 hy).1;omega) hx y hy⟩)]
   repeat'(first|apply Sp.h|refine Lk.r rfl ?_|refine Rf.mk rfl ?_|refine xB ?_|apply Im.mk|refine xN ?_|intro _)
   exact Fin.p rfl rfl
 ·rw [zF (λh:tO a b=>hv ((jl a b).1 h).1)]
  refine zy.of pg Ma Tryz.func27 rfl Tryz.ntmps27 Tryz.results27 rfl λh0 G0 O0=>?_
  repeat'(first|apply Sp.h|refine Lk.r rfl ?_|refine Rf.mk rfl ?_|refine xA ?_|refine xB ?_|(refine Bd.mk ?_ ?_ <;> intro _)|refine Im.mk λ_=>?_|refine xN ?_|(apply Cl.p (h1);focus(repeat' constructor);done)|(apply Cl.p (h2);focus(repeat' constructor);done))
  all_goals first
   | exact Fin.p rfl rfl
   | exact(hv ⟨by assumption,by assumption,z6⟩).elim
def fX:Go.Shelf.Ren:=⟨λ| 189=>232 | 125=>264 | 257=>263 | 128=>298 | 129=>299 | 294=>290 | 295=>291 | 296=>292 | 297=>293 | 298=>294 | 299=>295 | 216=>212 | 300=>296 | 301=>297 | 328=>306 | 329=>307 | 330=>308 | 331=>309 | 332=>310 | 215=>253 | 343=>316|n=>n,λ| 28=>22 | 3=>3 | 46=>266 | 0=>0 | 51=>310 | 53=>313 | 4=>4 | 183=>331 | 182=>330 | 131=>237 | 5=>5 | 9=>9 | 218=>341 | 222=>248 | 228=>350 | 229=>305|n=>n,fun|n=>n⟩
theorem Tg:Go.Proofs.Lays.n189 Tryz.prog fX:={
 mixed:=by kernel_rfl,
 f125:=Tryz.func264.trans (congrArg some z7),
 f128:=Tryz.func298.trans (congrArg some z7),
 f129:=Tryz.func299.trans (congrArg some z7),
 f189:=Tryz.func232.trans (congrArg some z7),
 f215:=Tryz.func253.trans (congrArg some z7),
 f216:=Tryz.func212.trans (congrArg some z7),
 f257:=Tryz.func263.trans (congrArg some z7),
 f294:=Tryz.func290.trans (congrArg some z7),
 f295:=Tryz.func291.trans (congrArg some z7),
 f296:=Tryz.func292.trans (congrArg some z7),
 f297:=Tryz.func293.trans (congrArg some z7),
 f298:=Tryz.func294.trans (congrArg some z7),
 f299:=Tryz.func295.trans (congrArg some z7),
 f300:=Tryz.func296.trans (congrArg some z7),
 f301:=Tryz.func297.trans (congrArg some z7),
 f328:=Tryz.func306.trans (congrArg some z7),
 f329:=Tryz.func307.trans (congrArg some z7),
 f330:=Tryz.func308.trans (congrArg some z7),
 f331:=Tryz.func309.trans (congrArg some z7),
 f332:=Tryz.func310.trans (congrArg some z7),
 f343:=Tryz.func316.trans (congrArg some z7),
 t0:=Tryz.underlying0,
 a0:=Tryz.isAgg0,
 z0:=Tryz.sizeOf0,
 v0:=Tryz.zeroValue0,
 t3:=Tryz.underlying3,
 a3:=Tryz.isAgg3,
 z3:=Tryz.sizeOf3,
 v3:=Tryz.zeroValue3,
 t4:=Tryz.underlying4,
 a4:=Tryz.isAgg4,
 z4:=Tryz.sizeOf4,
 v4:=Tryz.zeroValue4,
 t5:=Tryz.underlying5,
 a5:=Tryz.isAgg5,
 z5:=Tryz.sizeOf5,
 v5:=Tryz.zeroValue5,
 t9:=Tryz.underlying9,
 a9:=Tryz.isAgg9,
 z9:=Tryz.sizeOf9,
 v9:=Tryz.zeroValue9,
 t28:=Tryz.underlying22,
 a28:=Tryz.isAgg22,
 z28:=Tryz.sizeOf22,
 v28:=Tryz.zeroValue22,
 t46:=Tryz.underlying266,
 a46:=Tryz.isAgg266,
 z46:=Tryz.sizeOf266,
 v46:=Tryz.zeroValue266,
 t51:=Tryz.underlying310,
 a51:=Tryz.isAgg310,
 z51:=Tryz.sizeOf310,
 v51:=Tryz.zeroValue310,
 t53:=Tryz.underlying313,
 a53:=Tryz.isAgg313,
 z53:=Tryz.sizeOf313,
 v53:=Tryz.zeroValue313,
 t131:=Tryz.underlying237,
 a131:=Tryz.isAgg237,
 z131:=Tryz.sizeOf237,
 v131:=Tryz.zeroValue237,
 t182:=Tryz.underlying330,
 a182:=Tryz.isAgg330,
 z182:=Tryz.sizeOf330,
 v182:=Tryz.zeroValue330,
 t183:=Tryz.underlying331,
 a183:=Tryz.isAgg331,
 z183:=Tryz.sizeOf331,
 v183:=Tryz.zeroValue331,
 t218:=Tryz.underlying341,
 a218:=Tryz.isAgg341,
 z218:=Tryz.sizeOf341,
 v218:=Tryz.zeroValue341,
 t222:=Tryz.underlying248,
 a222:=Tryz.isAgg248,
 z222:=Tryz.sizeOf248,
 v222:=Tryz.zeroValue248,
 t228:=Tryz.underlying350,
 a228:=Tryz.isAgg350,
 z228:=Tryz.sizeOf350,
 v228:=Tryz.zeroValue350,
 t229:=Tryz.underlying305,
 a229:=Tryz.isAgg305,
 z229:=Tryz.sizeOf305,
 v229:=Tryz.zeroValue305 }
abbrev i1:Int->List AV:=λx=> [.val (.int .i64 x)]
def sq(l:List Int):List Int:=l.mergeSort λx y=>decide (x<=y)
theorem XI(v:Value)(T:TypeId)(l:List Int)(hl:l.length<=1000000):zy Tryz.prog 232 [.ow v] [yb v T 1 l i1] λr own=>r= .yE []/\own= [yb v T 1 (sq l) i1] :=
 Q6 Tg v T l hl
noncomputable def bw{α:Type}(l:List α):Nat->List α
 | 0=> []
 | i+1=>@ite _ (0 < i/\l[i]?=l[i - 1]?) (zC _) (bw l i) (bw l i ++ l[i]?.toList)
noncomputable def dd{α:Type}(l:List α):List α:=bw l l.length
theorem ar{α:Type}{l:List α}{i:Nat}(h0:0 < i)(h:l[i]?=l[i - 1]?):bw l (i+1)=bw l i:=by
 rw [bw];exact @if_pos _ (zC _) ⟨h0,h⟩ _ _ _
theorem aq{α:Type}{l:List α}{i:Nat}{x:α}(hx:l[i]?=some x)(h:0 < i->l[i]?≠l[i - 1]?):bw l (i+1)=bw l i ++ [x]:=by
 rw [bw,hx]
 exact @if_neg _ (zC _) (λe=>h e.1 (by rw [hx];exact e.2)) _ _ _
theorem Yt{α:Type}{l:List α} :∀i,(bw l i).length<=i
 | 0=>Nat.le_refl _
 | i+1=>by
  have:=Yt (l:=l) i
  rw [bw]
  cases l[i]? <;> (split <;> simp <;> omega)
theorem jj{α:Type}{l:List α}{i:Nat}(hi:i<=l.length)(h:∀j,0 < j->j < i->l[j]?≠l[j - 1]?):bw l i=l.take i:=by
 induction i with
 | zero=>rfl
 | succ i ih =>
  have hx:=zE (show i < l.length by omega)
  rw [aq hx (λh0=>h i h0 z6),ih z6 (λj h1 h2=>h j h1 z6),zK,hx];rfl
abbrev vI (x:Int):List Value:= [.int .i64 x]
theorem V_(l:List Int):(l.map vI).map wP=l.map i1:=by rw [List.map_map];rfl
theorem Z9(w:Value)(l:List Int)(hl:l.length<=1000000):zy Tryz.prog 233 [.ow w] [yb w 3 1 l i1] λq own=>∃w',q= .ow w'/\own= [yb w' 3 1 (dd l) i1]:=by
 refine zy.of pg JH Tryz.func233 rfl Tryz.ntmps233 Tryz.results233 rfl λh0 G0 O0=>?_
 by_cases h2:l.length < 2
 ·have he:dd l=l:=by
   rw [dd,jj (Nat.le_refl _) (λj h1 h3=>z6),zL]
  rw [he]
  repeat'(first|apply Sp.h|refine Lk.r rfl ?_|refine Rf.mk rfl ?_|refine xA ?_|refine xU ?_|refine xN ?_|fail)
  exact⟨_,_,.one (.same (.z)),_,rfl,rfl⟩
 repeat'(first|apply Sp.h|refine Lk.r rfl ?_|refine Rf.mk rfl ?_|refine xB ?_|refine xU ?_|fail)
 refine CA.loop (λk:Nat=>⟨[(0,.ow w),(3,it k)],[yb w 3 1 l i1]⟩) (λk=>1<=k/\k<=l.length/\∀j,0 < j->j < k->l[j]?≠l[j - 1]?) (λk=>l.length - k) 1 xE ⟨Nat.le_refl _,z6,λj h1 h3=>z6⟩ ?_
 rintro k ⟨h1,h3,h4⟩
 by_cases hk:k < l.length
 rotate_left
 ·have mO:k=l.length:=z6
  have he:dd l=l:=by rw [dd,<-mO,jj h3 h4,mO,zL]
  rw [he]
  repeat'(first|apply Sp.h|refine Lk.r rfl ?_|refine Rf.mk rfl ?_|refine xB ?_|refine xU ?_|refine xN ?_|fail)
  exact⟨_,_,.one (.same (.z)),_,rfl,rfl⟩
 obtain⟨x,hx⟩:=zz hk
 obtain⟨y,hy⟩:=zz (l:=l) (i:=k - 1) z6
 by_cases pS:x=y
 rotate_left
 ·repeat'(first|apply Sp.h|refine Lk.r rfl ?_|refine Rf.mk rfl ?_|refine xA ?_|refine xB ?_|refine yu.r rfl ?_|refine xU ?_|refine xI ?_|(apply Ix.r;{exact z8};{exact z6})|refine xJ ?_|refine xD ?_|refine xO ?_|fail)
  refine PA.lp (k+1) xE ⟨⟨z6,hk,λj g1 g2=>?_⟩,z6⟩
  by_cases hj:j=k
  ·subst hj;rw [hx,hy];exact λe=>pS (by cases e;rfl)
  ·exact h4 j g1 z6
 repeat'(first|apply Sp.h|refine Lk.r rfl ?_|refine Rf.mk rfl ?_|refine xA ?_|refine yu.r rfl ?_|refine xU ?_|refine xI ?_|(apply Ix.r;{exact z8};{exact z6})|refine xJ ?_|(apply Jx.r;{exact zj};{exact zb})|refine xD ?_|refine xO ?_|fail)
 refine CA.loop (λq:Nat×Nat×List Int=>⟨[(0,.ow w),(3,it q.1),(4,.os w 1 k (l.length - k)),(5,it q.2.1)],[yb w 3 1 q.2.2 i1]⟩)
  (λq=>1<=q.2.1/\q.1 < k+q.2.1/\k+q.2.1<=l.length/\q.2.2.length=l.length/\q.2.2.take q.1=bw l (k+q.2.1)/\q.2.2.drop (k+q.2.1 - 1)=l.drop (k+q.2.1 - 1)) (λq=>l.length - q.2.1) (k,1,l) xE
  ⟨Nat.le_refl _,by simp only;omega,by simp only;omega,rfl,by simp only;rw [ar z6 (by rw [hx,hy,pS]),jj h3 h4],rfl⟩ ?_
 rintro⟨i,m,cur⟩ ⟨g1,g2,g3,g4,g5,g6⟩
 simp only at g1 g2 g3 g4 g5 g6
 simp only
 by_cases hm:k+m < l.length
 ·obtain⟨a,ha⟩:=zz hm
  obtain⟨b,hb⟩:=zz (l:=l) (i:=k+m - 1) z6
  have SK:cur[k+m]?=some a:=by
   have:=congrArg (λz=>z[1]?) g6
   simp only [List.getElem?_drop] at this
   rw [show k+m - 1+1=k+m by omega] at this
   rw [this,ha]
  have hcb:cur[k+(m - 1)]?=some b:=by
   have:=congrArg (λz=>z[0]?) g6
   simp only [List.getElem?_drop,Nat.add_zero] at this
   rw [show k+(m - 1)=k+m - 1 by omega,this,hb]
  have h7:cur.drop (k+m)=l.drop (k+m):=by
   have:=congrArg (List.drop 1) g6
   rw [List.drop_drop,List.drop_drop] at this
   rwa [show k+m - 1+1=k+m by omega] at this
  obtain⟨z,hz⟩:=zz (l:=cur) (i:=i) z6
  have Hq:((m:Int) - 1)=((m - 1:Nat):Int):=z6
  by_cases pz:a=b
  ·repeat'(first|apply Sp.h|refine Lk.r rfl ?_|refine Rf.mk rfl ?_|refine xA ?_|refine yu.r rfl ?_|refine xU ?_|refine xJ ?_|refine Rf.mk ⟨rfl,rfl⟩ ?_|refine xD ?_|(apply Sx.r;{exact zj};{exact zc})|refine xO ?_|(apply Sx.r;{exact z8};{exact zc})|fail)
   exact PA.lp (i,m+1,cur) xE ⟨⟨by simp only;omega,by simp only;omega,by simp only;omega,g4,by simp only;rw [<-Nat.add_assoc,ar z6 (by rw [ha,hb,pz])];exact g5,by simp only;rw [show k+(m+1) - 1=k+m by omega];exact h7⟩,by simp only;omega⟩
  ·repeat'(first|apply Sp.h|refine Lk.r rfl ?_|refine Rf.mk rfl ?_|refine xA ?_|refine xB ?_|refine yu.r rfl ?_|refine xU ?_|refine xI ?_|refine xJ ?_|refine xV ?_|refine Rf.mk ⟨rfl,rfl⟩ ?_|refine Up.r rfl ?_|refine xD ?_|(apply Sx.r;{exact zj};{exact zc})|refine xO ?_|(apply Sx.r;{exact z8};{exact zc})|fail)
   have h8:(cur.set i a).take (i+1)=cur.take i ++ [a]:=by
    rw [zK,List.getElem?_set,if_pos rfl,if_pos z6,List.take_set_of_le (Nat.le_refl _)];rfl
   refine PA.lp (i+1,m+1,cur.set i a) xE ⟨⟨by simp only;omega,by simp only;omega,by simp only;omega,by simp only;rw [zY];exact g4, ?_, ?_⟩,by simp only;omega⟩
   ·simp only
    rw [h8,g5,<-Nat.add_assoc,aq ha (λ_=>by rw [ha,hb];exact λe=>pz (by cases e;rfl))]
   ·simp only
    rw [show k+(m+1) - 1=k+m by omega,List.drop_set_of_lt z6];exact h7
 ·have P_:k+m=l.length:=z6
  rw [P_] at g5
  (repeat'(first|(show CA _ _ (Code.region 14 _ _) _ _;apply z_.out)|apply Sp.h|refine Lk.r rfl ?_|refine Rf.mk rfl ?_|refine xB ?_|fail));any_goals apply z_.mk
  apply CA.yR (m:=cur.map vI) (g:=wP)
  focus(repeat constructor)
  focus exact V_ cur
  apply CA.DN 0
  focus rfl
  focus(repeat constructor)
  intro oP
  rw [List.length_map] at oP
  (repeat'(first|(show CA _ _ Code.ret _ _;apply z_.out)|apply Sp.h|refine Lk.r rfl ?_|refine Rf.mk rfl ?_|refine xP ?_|refine Rf.mk ⟨rfl,rfl⟩ ?_|refine Rf.mk ⟨rfl,rfl,rfl⟩ ?_|(apply Jx.r;{exact zj};{exact zb})|(apply ep.r;{exact z1})|(apply kB.short;{exact zu};{exact zg};{exact zg})|fail));any_goals apply z_.mk
  apply CA.yR (m:=dd l) (g:=i1)
  focus(repeat constructor)
  focus(rw [dd,<-g5,<-V_,List.map_take];simp [List.take_take])
  repeat'(first|apply Sp.h|refine Lk.r rfl ?_|refine xN ?_|fail)
  exact⟨_,_,.one (.same (.z)),_,rfl,rfl⟩
end Go.Proofs.YtmjllbjfkafhdaaGreatDoor
