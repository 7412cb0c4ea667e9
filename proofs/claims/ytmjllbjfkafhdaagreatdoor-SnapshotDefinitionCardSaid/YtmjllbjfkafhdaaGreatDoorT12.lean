/- Part 12 of the ground of this proof: what its texts say of the model, the program and the plain data; conditions: those that are named. -/
import Derived.Test.YtmjllbjfkafhdaaGreatDoorT11
namespace Go.Proofs.YtmjllbjfkafhdaaGreatDoor
open Go Go.CF
theorem XF{sizes:List Int}{s:Bool}{l:List ym}(i:Nat):xZ sizes s (l.take i)<=xZ sizes s (l.take (i+1)):=by
 by_cases h:i < l.length
 ·obtain⟨t,ht⟩:=zz h
  rw [vO ht]
  have:=rN sizes t.ya
  split <;> omega
 ·rw [List.take_of_length_le z6,List.take_of_length_le z6];omega
theorem iZ{sizes:List Int}{s:Bool}{l:List ym}{i j:Nat}(h:i<=j):xZ sizes s (l.take i)<=xZ sizes s (l.take j):=by
 obtain⟨d,rfl⟩:=Nat.exists_eq_add_of_le h
 induction d with
 | zero=>exact Int.le_refl _
 | succ d ih=>exact Int.le_trans (ih z6) (XF (i+d))
theorem aV{sizes:List Int}{l:List ym}(hl:vh sizes l){i j:Nat}{t u:ym}(u5:j < i)(hu:l[j]?=some u)(ht:l[i]?=some t)(hk:decide (yi u.kind)=decide (yi t.kind)):u.first+wF sizes u.ya<=t.first:=by
 rw [(hl.t i t ht).fs,(hl.t j u hu).fs,hk]
 have h1:=vO (sizes:=sizes) (s:=decide (yi t.kind)) hu
 rw [if_pos hk] at h1
 have h2:=iZ (sizes:=sizes) (s:=decide (yi t.kind)) (l:=l) (show j+1<=i by omega)
 omega
theorem lP{sizes:List Int}{l:List ym}{s:Bool}(hl:vh sizes l){i:Nat}{t:ym}(ht:l[i]?=some t)(hs:decide (yi t.kind)=s){k:Int}(hk:0<=k/\k < wF sizes t.ya):uS sizes l s (t.first+k)=some (i,(wM sizes t.ya k).1):=by
 have hf:=hl.first ht
 rw [fJ hl z6 ht ⟨hs,z6,z6⟩ λj y hj hy hc=>?_]
 ·rw [show t.first+k - t.first=k by omega]
 ·have:=aV hl hj hy ht (by rw [hc.1,hs])
  have:=hc.2.2
  omega
theorem QB{sizes:List Int}{x y:Int}(hc:uO sizes [x])(hy:sizes[x.toNat]?=some y):wF sizes [x]=y:=by
 rw [wF,if_pos hc,wD,List.foldl_cons,List.foldl_nil,hy]
 simp
theorem QC{sizes:List Int}{x y k:Int}(hy:sizes[x.toNat]?=some y)(hk:0<=k/\k < y):(wM sizes [x] k).1= [k]:=by
 simp only [wM,hy,Option.getD_some]
 rw [Int.emod_eq_of_lt hk.1 hk.2]
theorem Yf{sizes:List Int}(hs:Sound sizes){k:Int}(hk:0<=k) :∀(ya:List Int) (j:Nat) (x y:Int),ya[j]?=some x->(wM sizes ya k).1[j]?=some y->0<=y/\∀z,sizes[x.toNat]?=some z->y < z
 | [],j,x,y,h,_=>by simp at h
 | c :: cs,0,x,y,h1,h2=>by
  simp only [List.getElem?_cons_zero,Option.some.injEq] at h1
  subst h1
  simp only [wM,List.getElem?_cons_zero,Option.some.injEq] at h2
  cases hz:sizes[c.toNat]? with
  | none =>
   rw [hz,Option.getD_none] at h2
   exact⟨by rw [<-h2];exact Int.emod_nonneg _ z6,λz h=>by cases h⟩
  | some w =>
   have hw:=hs w (zM hz)
   rw [hz,Option.getD_some] at h2
   refine⟨by rw [<-h2];exact Int.emod_nonneg _ z6,λz h=>?_⟩
   cases h
   rw [<-h2];exact Int.emod_lt_of_pos _ z6
 | c :: cs,j+1,x,y,h1,h2=>by
  simp only [wM,List.getElem?_cons_succ] at h1 h2
  exact Yf hs hk cs j x y h1 h2
theorem U1{sizes:List Int}{l:List ym}{s:Bool}(hl:vh sizes l){c:Int}(hc:0<=c)(tE:c < xZ sizes s l) :∃(i:Nat) (t:ym),l[i]?=some t/\decide (yi t.kind)=s/\0<=c - t.first/\c - t.first < wF sizes t.ya/\uS sizes l s c=some (i,(wM sizes t.ya (c - t.first)).1):=by
 have key:∀n,c < xZ sizes s (l.take n)->∃i,xZ sizes s (l.take i)<=c/\c < xZ sizes s (l.take (i+1)):=by
  intro n
  induction n with
  | zero=>intro h;simp [xZ] at h;omega
  | succ n ih =>
   intro h
   by_cases h1:c < xZ sizes s (l.take n)
   ·exact ih h1
   ·exact⟨n,z6,h⟩
 obtain⟨i,h1,h2⟩:=key l.length (by rw [zL];exact tE)
 have hi:i < l.length:=by
  refine Nat.lt_of_not_le λh=>?_
  rw [List.take_of_length_le h] at h1
  rw [List.take_of_length_le z6] at h2
  omega
 obtain⟨t,ht⟩:=zz hi
 rw [vO ht] at h2
 have hs:decide (yi t.kind)=s:=by
  by_cases h:decide (yi t.kind)=s
  ·exact h
  ·rw [if_neg h] at h2;omega
 rw [if_pos hs] at h2
 have hf:=(hl.t i t ht).fs
 rw [hs] at hf
 have:=lP hl ht hs (k:=c - t.first) z6
 rw [show t.first+(c - t.first)=c by omega] at this
 exact⟨i,t,ht,hs,z6,z6,this⟩
theorem nw{m:y8}(hm:xS m.y9 m.tables):(xk m:Int)=xZ m.y9 true m.tables:=by
 have key:∀l:List ym,(∀t∈l,t∈m.tables)->(sN m l:Int)=xZ m.y9 true l:=by
  intro l
  induction l with
  | nil=>intro _;rfl
  | cons t l ih =>
   intro h
   have ih:=ih λt ht=>h t (by simp [ht])
   have hc:=(hm.2.2.2 t (h t zd)).1
   have h1:=(sX hc).1
   unfold sN xZ at ih ⊢
   simp only [List.map_cons,List.sum_cons]
   rw [<-ih]
   by_cases hs:yi t.kind
   ·rw [if_pos hs,if_pos (zT hs),wF,if_pos hc];omega
   ·rw [if_neg hs,if_neg (by simp [hs])];omega
 exact key m.tables λ_ h=>h
theorem qK{m:y8}(hl:vh m.y9 m.tables):(wA m).length=xk m:=by
 have h1:=nw hl.ok
 have h2:=qM m.y9 true m.tables
 have h3:wA m=pX m.y9 true m.tables:=by
  show sr m.y9 true m.tables=_
  rw [sr,if_pos hl]
 rw [h3];omega
def yS(m:y8)(q:List Int)(h:Int×Int×Int):Int:=((m.tables[h.2.2.toNat]?.map ym.first).getD 0)+(q[h.2.1.toNat]?.getD 0)
noncomputable def eE(m:y8)(st:List Int):Nat->Int->Bool
 | 0,_=>false
 | n+1,c=>decide (1<=st[c.toNat]?.getD 0) && match uS m.y9 m.tables true c with
  | some (i,q)=>m.yp.all λh=> !(decide (h.1=i)) || eE m st n (yS m q h)
  | none=>true
def Ot(hs:List (Int×Int×Int)):Nat->Int->Prop
 | 0,_=>True
 | n+1,a=>∃h∈hs,h.1=a/\Ot hs n h.2.2
theorem ah{m:y8}(hx:pH m)(a:Int) :¬Ot m.yp (m.tables.length+1) a:=by
 intro hw
 -- the z0z nodes
 have key:∀(n:Nat) (a:Int),Ot m.yp n a->∃f:Nat->Int,f 0=a/\∀i,i < n->∃h∈m.yp,h.1=f i/\h.2.2=f (i+1):=by
  intro n
  induction n with
  | zero=>exact λa _=>⟨λ_=>a,rfl,λi h=>z6⟩
  | succ n ih =>
   rintro a ⟨h,h1,h2,h3⟩
   obtain⟨f,f1,f2⟩:=ih _ h3
   refine⟨λi=>match i with | 0=>a|i+1=>f i,rfl,λi hi=>?_⟩
   match i with
   | 0=>exact⟨h,h1,h2,f1.symm⟩
   | i+1=>exact f2 i z6
 obtain⟨f,_,hf⟩:=key _ a hw
 have yd:∀i,i < m.tables.length+1->0<=f i/\f i < m.tables.length:=λi hi=>by
  obtain⟨h,h1,h2,_⟩:=hf i hi
  obtain⟨j,hj⟩:=zO h1
  obtain⟨j1,j2,j3,t,u,x,e1,e2,_⟩:=hx.i j h hj
  have:=(zS.1 e2).1
  omega
 have Lm:∃i j,i < j/\j < m.tables.length+1/\f i=f j:=by
  refine Classical.byContradiction λyD=>?_
  have Zp:((List.range (m.tables.length+1)).map f).Nodup:=by
   refine List.pairwise_iff_getElem.2 λi j hi hj u5 he=>?_
   simp only [List.length_map,List.length_range] at hi hj
   simp only [List.getElem_map,List.getElem_range] at he
   exact yD ⟨i,j,u5,z6,he⟩
  have:=List.Nodup.length_le_of_subset Zp (l₂:=(List.range m.tables.length).map Int.ofNat) λq hq=>by
   obtain⟨i,hi,rfl⟩:=List.mem_map.1 hq
   have:=yd i (List.mem_range.1 hi)
   exact List.mem_map.2 ⟨(f i).toNat,List.mem_range.2 z6,Int.toNat_of_nonneg z6⟩
  simp only [List.length_map,List.length_range] at this
  omega
 obtain⟨i,j,u5,hj,he⟩:=Lm
 have VM:∀d i,i+d < m.tables.length+1->vG m.yp d (f i) (f (i+d)):=by
  intro d
  induction d with
  | zero=>intro i _;rfl
  | succ d ih =>
   intro i hi
   obtain⟨h,h1,h2,h3⟩:=hf i z6
   obtain⟨q,hq⟩:=zO h1
   refine .inr ⟨q,h,hq,h2, ?_⟩
   rw [h3,show i+(d+1)=i+1+d by omega]
   exact ih (i+1) z6
 obtain⟨h,h1,h2,h3⟩:=hf i z6
 obtain⟨q,hq⟩:=zO h1
 refine hx.a q h hq ?_
 rw [h2,h3,he]
 have:=VM (j - (i+1)) (i+1) z6
 rw [show i+1+(j - (i+1))=j by omega] at this
 exact dS z6 this
theorem nC{m:y8}(hl:vh m.y9 m.tables)(hx:pH m){c:Int}{i:Nat}{t:ym}(ht:m.tables[i]?=some t)(hk:0<=c - t.first){h:Int×Int×Int}(hm:h∈m.yp)(hi:h.1=i) :
  ∃(j2 j3:Nat) (u:ym) (x y:Int),h.2.2=j2/\m.tables[j2]?=some u/\yi u.kind/\u.ya= [x]/\h.2.1=j3/\t.ya[j3]?=some x/\(wM m.y9 t.ya (c - t.first)).1[j3]?=some y/\0<=y/\y < wF m.y9 u.ya/\yS m (wM m.y9 t.ya (c - t.first)).1 h=u.first+y/\uS m.y9 m.tables true (u.first+y)=some (j2,[y])/\(∃z,m.y9[x.toNat]?=some z/\y < z)/\uO m.y9 [x]:=by
 obtain⟨p,hp⟩:=zO hm
 obtain⟨j1,j2,j3,t',u,x,e1,e2,e3,e4,e5,e6,e7,e8,e9,mP⟩:=hx.i p h hp
 obtain rfl:j1=i:=z6
 rw [ht] at e2;cases e2
 have hu:=(hl.t j2 u e4).ok.1
 rw [mP] at hu
 have CM:=hu.2.2 x zd
 obtain⟨z,hz⟩:=zz (l:=m.y9) (i:=x.toNat) z6
 obtain⟨y,hy⟩:=zz (l:=(wM m.y9 t.ya (c - t.first)).1) (i:=j3) (by rw [qN];exact(zS.1 e9).1)
 obtain⟨y1,y2⟩:=Yf hl.so hk t.ya j3 x y e9 hy
 have y2:=y2 z hz
 have eJ:yi u.kind:= .inl e7
 have hn:=QB hu hz
 have Zm:=lP hl e4 (s:=true) (zT eJ) (k:=y) ⟨y1,by rw [mP,hn];exact y2⟩
 rw [mP,QC hz ⟨y1,y2⟩] at Zm
 refine⟨j2,j3,u,x,y,e3,e4,eJ,mP,e8,e9,hy,y1,by rw [mP,hn];exact y2, ?_,Zm,⟨z,hz,y2⟩,hu⟩
 rw [yS,e3,e8,Int.toNat_natCast,Int.toNat_natCast,e4,hy];rfl
theorem YD{m:y8}(hl:vh m.y9 m.tables){i:Nat}{u:ym}(hu:m.tables[i]?=some u)(hs:yi u.kind){y:Int}(hy:y < wF m.y9 u.ya):u.first+y < (xk m:Nat):=by
 rw [nw hl.ok,(hl.t i u hu).fs,zT hs]
 have h1:=vO (sizes:=m.y9) (s:=true) hu
 rw [if_pos (zT hs)] at h1
 have h2:=iZ (sizes:=m.y9) (s:=true) (l:=m.tables) (show i+1<=m.tables.length from(zS.1 hu).1)
 rw [zL] at h2
 omega
theorem js{α:Type}{l:List α}{f g:α->Bool}(h:∀x∈l,f x=g x):l.all f=l.all g:=by
 induction l with
 | nil=>rfl
 | cons a l ih=>rw [List.all_cons,List.all_cons,h a zd,ih λx hx=>h x (by simp [hx])]
theorem UC{m:y8}(hl:vh m.y9 m.tables)(hx:pH m)(st:List Int) :∀(n:Nat) (c:Int) (i:Nat) (q:List Int),uS m.y9 m.tables true c=some (i,q)->¬Ot m.yp (n+1) i->∀k,n+1<=k->eE m st k c=eE m st (n+1) c:=by
 intro n
 induction n with
 | zero =>
  intro c i q hq hw k hk
  obtain⟨k,rfl⟩:=Nat.exists_eq_add_of_le hk
  rw [show 0+1+k=k+1 by omega]
  simp only [eE,hq]
  congr 1
  refine js λh hm=>?_
  have:¬h.1=i:=λe=>hw ⟨h,hm,e,trivial⟩
  simp [this]
 | succ n ih =>
  intro c i q hq hw k hk
  obtain⟨k,rfl⟩:=Nat.exists_eq_add_of_le hk
  rw [show n+1+1+k=n+1+k+1 by omega]
  rw [eE,eE]
  simp only [hq]
  congr 1
  refine js λh hm=>?_
  by_cases he:h.1=i
  ·obtain⟨i',t,ht,hc⟩:∃i' t,m.tables[i']?=some t/\i'=i/\0<=c - t.first/\q=(wM m.y9 t.ya (c - t.first)).1:=by
    unfold uS at hq
    split at hq
    ·rename_i h0
     obtain⟨j,hj,Ht⟩:=Option.bind_eq_some_iff.1 hq
     obtain⟨t,ht,ht2⟩:=Option.map_eq_some_iff.1 Ht
     simp only [Prod.mk.injEq] at ht2
     obtain⟨rfl,rfl⟩:=ht2
     unfold Vf at hj
     obtain⟨w,Sv,_⟩:=List.findIdx?_eq_some_iff_getElem.1 hj
     rw [zE w] at ht
     rw [Option.some.inj ht] at Sv
     exact⟨j,t,by rw [zE w];exact ht,rfl,(of_decide_eq_true Sv).2.1,rfl⟩
    ·cases hq
   obtain⟨rfl,h0,rfl⟩:=hc
   obtain⟨j2,j3,u,x,y,e1,e2,e3,e4,e5,e6,e7,e8,e9,mP,GA,_⟩:=nC hl hx ht h0 hm he
   have Sv:¬Ot m.yp (n+1) (j2:Int):=λh9=>hw ⟨h,hm,he,by rw [e1];exact h9⟩
   rw [mP,ih (u.first+y) j2 [y] GA Sv (n+1+k) z6]
  ·simp [he]
end Go.Proofs.YtmjllbjfkafhdaaGreatDoor
set_option maxRecDepth 100000
set_option maxHeartbeats 80000000
namespace Go.Proofs.YtmjllbjfkafhdaaGreatDoor
open Go Go.CF
theorem S6(sizes:List Int)(l:List ym)(s:Bool):yV Tryz.prog 234 [ints sizes,xG l,.val (.bool s)] (it ((sr sizes s l).length:Nat)):=by
 have h:=mJ sizes l s
 refine yJ.of pg ye Tryz.func234 rfl Tryz.ntmps234 Tryz.results234 rfl λh0 G0 O0 ga=>?_
 repeat'(first|apply Sp.h|refine Lk.r rfl ?_|refine Rf.mk rfl ?_|refine Im.mk λ_=>?_|refine xN ?_|(apply Cl.pG (h);{exact ga};focus(repeat' constructor);done))
 exact Fin.p rfl rfl
def RO(m:y8)(st:List Int):Prop:=xR m/\st.length=xk m
noncomputable instance (m:y8) (st:List Int):Decidable (RO m st):=zC _
theorem Qd(m:y8)(st:List Int)(wU:m.ops.length<=1000000000)(vL:xl m):yV Tryz.prog 194 [wH m,ints st] (.val (.bool (decide (RO m st)))):=by
 have hv:=nB m wU vL
 have hc:=S6 m.y9 m.tables true
 refine yJ.of pg ye Tryz.func194 rfl Tryz.ntmps194 Tryz.results194 rfl λh0 G0 O0 ga=>?_
 by_cases hx:xR m
 ·have hl:(sr m.y9 true m.tables).length=xk m:=qK hx.lay
  rw [zT hx] at hv
  rw [hl] at hc
  repeat'(first|apply Sp.h|refine Lk.r rfl ?_|refine Rf.mk rfl ?_|refine Im.mk λ_=>?_|refine yc.mk λ_=>?_|refine xT ?_|refine Ch.l ⟨rfl,rfl⟩ ?_|refine xN ?_|(apply Cl.pG (hv);{exact ga};focus(repeat' constructor);done)|(apply Cl.pG (hc);{exact ga};focus(repeat' constructor);done))
  all_goals exact Fin.p rfl (vb (by first|exact(zD.2 ⟨λh=>⟨hx,z6⟩,λh=>by have:=h.2;omega⟩).symm|exact zD.2 ⟨λh=>⟨hx,z6⟩,λh=>by have:=h.2;omega⟩))
 ·rw [zF hx] at hv
  rw [zF λh:RO m st=>hx h.1]
  repeat'(first|apply Sp.h|refine Lk.r rfl ?_|refine Rf.mk rfl ?_|refine yc.mk λ_=>?_|refine xT ?_|refine Ch.l ⟨rfl,rfl⟩ ?_|refine xN ?_|(apply Cl.pG (hv);{exact ga};focus(repeat' constructor);done)|(apply Cl.pG (hc);{exact ga};focus(repeat' constructor);done))
  exact Fin.p rfl rfl
theorem Pp(sizes:List Int)(l:List ym)(j:Nat)(u:ym)(x z y:Int)(hl:vh sizes l)(hu:l[j]?=some u)(hc:u.ya= [x])(hz:sizes[x.toNat]?=some z)(hx:0<=x)(hy:0<=y)(hyz:y < z):yV Tryz.prog 197 [ints sizes,xG l,it j,ints [y]] (.yE [it (u.first+y),it 0]):=by
 have hv:=nD sizes l
 rw [zT hl] at hv
 have hf:=hl.first hu
 have hs:=hl.so z (zM hz)
 have lL:=(zS.1 hu).1
 have ue:u.ya.length=1:=by rw [hc];rfl
 have bJ:u.ya[0]?=some x:=by rw [hc];rfl
 obtain⟨xn,rfl⟩:=Int.eq_ofNat_of_zero_le hx
 rw [Int.toNat_natCast] at hz
 have Hj:([y]:List Int).length=1:=rfl
 have G9:([y]:List Int)[0]?=some y:=rfl
 generalize ([y]:List Int)=q at Hj G9 ⊢
 refine yJ.of pg ye Tryz.func197 rfl Tryz.ntmps197 Tryz.results197 rfl λh0 G0 O0 ga=>?_
 repeat'(first|apply Sp.h|refine Lk.r rfl ?_|refine Rf.mk rfl ?_|refine xA ?_|refine xB ?_|refine Im.mk λ_=>?_|refine yc.mk λ_=>?_|refine xT ?_|refine xI ?_|refine Ch.l ⟨rfl,rfl⟩ ?_|(apply y4.r;focus repeat' constructor)|refine xN ?_|(apply Cl.pG (hv);{exact ga};focus(repeat' constructor);done))
 all_goals try exact(by omega:False).elim
 rename_i X0 _ _ _
 refine CA.loop (λi:Nat=>⟨[(0,ints sizes),(1,xG l),(3,ints q),(10,pm X0),(11,it (if i=0 then 0 else y)),(36,ints q),(37,it (q.length:Nat)),(38,it i)],[yr X0 150 (v8 u)]⟩) (λi=>i<=1) (λi=>1 - i) 0 xE (zZ _) ?_
 intro i hi
 match i,hi with
 | 0,_ =>
  simp only [if_true]
  repeat'(first|apply Sp.h|refine Lk.r rfl ?_|refine Rf.mk rfl ?_|refine xA ?_|refine xB ?_|refine xP ?_|refine xT ?_|refine xI ?_|refine xO ?_|fail)
  all_goals try exact(by omega:False).elim
  refine PA.lp 1 ?_ ⟨Nat.le_refl _,z6⟩
  rw [show(0:Int) * z+y=y by omega]
  exact xE
 | 1,_ =>
  simp only [Nat.one_ne_zero,if_false]
  repeat'(first|apply Sp.h|refine Lk.r rfl ?_|refine Rf.mk rfl ?_|refine xB ?_|refine xT ?_|refine xN ?_|refine xO ?_|fail)
  all_goals try exact(by omega:False).elim
  exact⟨_,_,.yE (.same (.same (.z))),rfl,rfl⟩
instance {a b:Value}:Flat (.yE [.val a,.val b]):=⟨λh h' G G' v hr=>by
 obtain⟨vs,e,r⟩:=hr
 match vs,r with
 | [x,y],⟨r1,r2,_⟩=>exact⟨[x,y],e,r1,r2,trivial⟩⟩
noncomputable def uQ(m:y8)(st:List Int)(c:Int):Bool:=eE m st (m.tables.length+1) c
theorem dy{m:y8}(hl:vh m.y9 m.tables)(hx:pH m)(st:List Int){c:Int}{i:Nat}{t:ym}(ht:m.tables[i]?=some t)(h0:0<=c - t.first)(hq:uS m.y9 m.tables true c=some (i,(wM m.y9 t.ya (c - t.first)).1)) :
  uQ m st c=(decide (1<=st[c.toNat]?.getD 0) && m.yp.all λh=> !(decide (h.1=i)) || uQ m st (yS m (wM m.y9 t.ya (c - t.first)).1 h)):=by
 unfold uQ
 rw [eE,hq]
 simp only
 congr 1
 refine js λh hm=>?_
 by_cases he:h.1=i
 ·obtain⟨j2,j3,u,x,y,e1,e2,e3,e4,e5,e6,e7,e8,e9,mP,GA,_⟩:=nC hl hx ht h0 hm he
  have hw:¬Ot m.yp m.tables.length (j2:Int):=λh9=>ah hx i ⟨h,hm,he,by rw [e1];exact h9⟩
  have hp:0 < m.tables.length:=by have:=(zS.1 ht).1;omega
  obtain⟨n,hn⟩:∃n,m.tables.length=n+1:=⟨m.tables.length - 1,z6⟩
  have hs:=UC hl hx st n (u.first+y) j2 [y] GA (by rw [<-hn];exact hw) (n+1+1) z6
  rw [mP,hn,hs]
 ·simp [he]
abbrev bF:Bool->AV:=λb=>bl b
def Ct(m:y8)(st:List Int)(kvs:List (List Int×Bool)):Prop:=∀c v,yG kvs [c]=some v->v=uQ m st c
abbrev BT (m:y8) (st:List Int) (b5 b6:Nat):AV:= .fn 195 [pm b5,.ad (s_ m) 0,.ad [ints st] 0,pm b6]
abbrev Ri (m:y8) (st:List Int) (b5 b6 M:Nat) (kvs:List (List Int×Bool)):List yh:= [yr b5 254 [.val (.map (some M))],vg Tryz.prog M 3 kvs bF,yr b6 184 [BT m st b5 b6]]
theorem aC(m:y8)(st:List Int)(hx:xR m)(yL:st.length=xk m)(b5 b6 M:Nat) :∀(n:Nat) (c:Int) (i:Nat) (t:ym),m.tables[i]?=some t->0<=c - t.first->0<=c->c < (xk m:Nat)->uS m.y9 m.tables true c=some (i,(wM m.y9 t.ya (c - t.first)).1)->¬Ot m.yp n i->∀kvs,Ct m st kvs->
  yJ Tryz.prog 195 [it c,pm b5,.ad (s_ m) 0,.ad [ints st] 0,pm b6] (Ri m st b5 b6 M kvs) λr o=>r=bl (uQ m st c)/\∃nY,Ct m st nY/\o=Ri m st b5 b6 M nY:=by
 intro n
 induction n with
 | zero=>exact λc i t _ _ _ _ _ hw=>absurd trivial hw
 | succ n ih =>
  intro c i t ht h0 hc rY hq hw kvs Hs
  have uN:=dy hx.lay hx.V9 st ht h0 hq
  have fe:=cj m.y9 m.tables true c (by have:=tu (sizes:=m.y9) (l:=m.tables) (s:=true);have:(wA m).length=xk m:=qK hx.lay;change (sr m.y9 true m.tables).length=_ at this;omega)
  rw [hq] at fe
  change yV _ _ _ (.yE [it i,ints (wM m.y9 t.ya (c - t.first)).1,bl true]) at fe
  obtain⟨cn,rfl⟩:=Int.eq_ofNat_of_zero_le hc
  obtain⟨x,V2⟩:=zz (l:=st) (i:=cn) z6
  rw [Int.toNat_natCast,V2,Option.getD_some] at uN
  cases ez:yG kvs [(cn:Int)] with
  | some v =>
   have hv:=Hs _ v ez
   refine yJ.of pg Ua Tryz.func195 rfl Tryz.ntmps195 Tryz.results195 rfl λh0 G0 O0 ga=>?_
   repeat'(first|apply Sp.h|refine Lk.r rfl ?_|refine Rf.mk rfl ?_|refine xT ?_|refine xN ?_|(apply Kf.mk;{exact z7})|refine xM ?_|(apply sf.s;{exact zi})|fail)
   exact⟨_,_,.one (.same (.z)),by rw [hv],kvs,Hs,rfl⟩
  | none =>
   have Oa:=fun(h:Int×Int×Int) (hm:h∈m.yp) (he:h.1=i)=>nC hx.lay hx.V9 ht h0 hm he
   generalize (wM m.y9 t.ya ((cn:Int) - t.first)).1=q at hq fe uN Oa
   refine yJ.of pg Ua Tryz.func195 rfl Tryz.ntmps195 Tryz.results195 rfl λh0 G0 O0 ga=>?_
   repeat'(first|apply Sp.h|refine Lk.r rfl ?_|refine Rf.mk rfl ?_|refine Im.mk λ_=>?_|refine xT ?_|refine xI ?_|(apply Kf.mk;{exact z7})|refine xM ?_|(apply Zx.b;{exact zu})|(apply sf.n;{exact zi})|(apply Cl.pG (fe);{exact ga};focus(repeat' constructor);done))
   refine CA.loop (λz:Nat×List (List Int×Bool)×Bool=>⟨[(0,it cn),(1,pm b5),(2,.ad (s_ m) 0),(3,.ad [ints st] 0),(4,pm b6),(9,it i),(10,ints q),(12,bl z.2.2),(41,qI m.yp),(42,it (m.yp.length:Nat)),(43,it z.1)],Ri m st b5 b6 M z.2.1⟩)
    (λz=>z.1<=m.yp.length/\Ct m st z.2.1/\z.2.2=(decide (1<=x) && (m.yp.take z.1).all λh=> !decide (h.1=i) || uQ m st (yS m q h))) (λz=>m.yp.length - z.1) (0,kvs,decide (1<=x)) xE ⟨zZ _,Hs,by simp⟩ ?_
   rintro⟨k,Ro,v⟩ ⟨hk,Xe,hv⟩
   simp only at hk Xe hv
   simp only
   by_cases rz:k < m.yp.length
   ·obtain⟨⟨g1,g2,g3⟩,hg⟩:=zz rz
    have ZL:∀v',v'=(v && (!decide (g1=(i:Int)) || uQ m st (yS m q (g1,g2,g3))))->v'=(decide (1<=x) && (m.yp.take (k+1)).all λh=> !decide (h.1=i) || uQ m st (yS m q h)):=λv' e=>by
     rw [e,hv,zK,hg,List.all_append]
     simp [Bool.and_assoc]
    by_cases kT:v=true/\g1=i
    ·obtain⟨rfl,rfl⟩:=kT
     obtain⟨j2,j3,u,xx,y,e1,e2,e3,e4,e5,e6,e7,e8,e9,mP,GA,⟨z,BG,BF⟩,BE⟩:=Oa _ (zM hg) rfl
     simp only at e1 e5
     subst e1;subst e5
     have Lg:=(BE.2.2 xx zd).1
     have hf:=hx.lay.first e2
     have jW:=Pp m.y9 m.tables j2 u xx z y hx.lay e2 e4 BG Lg e8 BF
     have CS:=lP hx.lay e2 (s:=true) (zT e3) (k:=y) ⟨e8,e9⟩
     have O9:=ih (u.first+y) j2 u e2 z6 z6 (YD hx.lay e2 e3 e9) (by rw [show u.first+y - u.first=y by omega];exact CS) (λh9=>hw ⟨_,zM hg,rfl,h9⟩) Ro Xe
     rw [mP] at ZL
     simp only [decide_true,Bool.not_true,Bool.false_or,Bool.true_and] at ZL
     repeat'(first|apply Sp.h|refine Lk.r rfl ?_|refine Rf.mk rfl ?_|refine xA ?_|refine yu.r rfl ?_|apply yc.mk|refine xT ?_|refine xI ?_|refine Ch.l ⟨rfl,rfl⟩ ?_|(apply y4.r;focus repeat' constructor)|(apply Fk.r;focus repeat' first|infer_instance|constructor)|refine xN ?_|refine Rf.mk ⟨rfl,rfl,rfl⟩ ?_|refine xD ?_|intro _)
     all_goals try exact(by omega:False).elim
     (apply Cl.dh (jW);{exact ga};(focus repeat'(first|exact y3.nil|apply y3.yB|(apply y3.yX;{exact z1};{exact zu};{exact za})|fail)))
     repeat'(first|apply Sp.h|refine Lk.r rfl ?_|refine Rf.mk rfl ?_|refine yu.r rfl ?_|refine xT ?_|fail)
     (apply Cl.Ve (O9);{exact ga};{exact zo};{exact zo};focus rfl)
     rintro _ _ ⟨rfl,Ai,AK,rfl⟩
     repeat'(first|apply Sp.h|refine Lk.r rfl ?_|refine Rf.mk rfl ?_|refine xO ?_|fail)
     exact PA.lp (k+1,Ai,uQ m st (u.first+y)) xE ⟨⟨rz,AK,ZL _ rfl⟩,by simp only;omega⟩
    ·have vu:=ZL v (by
      cases v
      ·rfl
      ·have:¬g1=i:=λe=>kT ⟨rfl,e⟩
       simp [this])
     repeat'(first|apply Sp.h|refine Lk.r rfl ?_|refine Rf.mk rfl ?_|refine xA ?_|refine xB ?_|apply Bd.mk|refine yu.r rfl ?_|apply yc.mk|refine xT ?_|refine xI ?_|refine Ch.l ⟨rfl,rfl⟩ ?_|(apply y4.r;focus repeat' constructor)|refine xN ?_|refine xD ?_|refine xO ?_|intro _)
     all_goals first
      | exact(kT ⟨by assumption,z6⟩).elim
      | exact PA.lp (k+1,Ro,v) xE ⟨⟨rz,Xe,vu⟩,by simp only;omega⟩
   ·have mO:k=m.yp.length:=z6
    subst mO
    rw [zL,<-uN] at hv
    subst hv
    repeat'(first|apply Sp.h|refine Lk.r rfl ?_|refine Rf.mk rfl ?_|refine xB ?_|refine xT ?_|refine xN ?_|(apply Kf.mk;{exact z7})|refine xM ?_|refine eo.r rfl ?_|fail)
    refine⟨_,_,.one (.same (.z)),rfl,_,λc v Gp=>?_,rfl⟩
    rw [tX] at Gp
    by_cases Cg:([c]:List Int)= [(cn:Int)]
    ·rw [if_pos Cg] at Gp
     cases Gp
     simp only [List.cons.injEq,and_true] at Cg
     rw [Cg]
    ·rw [if_neg Cg] at Gp
     exact Xe c v Gp
noncomputable def w_(m:y8)(st:List Int):List Bool:=(List.range st.length).map λc=>uQ m st (c:Nat)
theorem aG(m:y8)(st:List Int)(hx:xR m)(yL:st.length=xk m)(wU:m.ops.length<=1000000000)(vL:xl m):yV Tryz.prog 137 [wH m,ints st] (q8 (w_ m st)):=by
 have hft:=Qd m st wU vL
 rw [zT (show RO m st from⟨hx,yL⟩)] at hft
 have z2i:st.length<=128:=by
  have h1:(wA m).length=xk m:=qK hx.lay
  have h2:=tu (sizes:=m.y9) (l:=m.tables) (s:=true)
  change (wA m).length<=128 at h2
  omega
 refine yJ.of pg ye Tryz.func137 rfl Tryz.ntmps137 Tryz.results137 rfl λh0 G0 O0 ga=>?_
 (repeat'(first|(show CA _ _ (Code.region 1 _ _) _ _;apply z_.out)|apply Sp.h|refine Lk.r rfl ?_|refine Rf.mk rfl ?_|apply yc.mk|intro _));any_goals apply z_.mk
 refine CA.xt 2 rfl z1 ?_
 refine CA.xt 3 rfl z1 ?_
 repeat'(first|apply Sp.h|refine Lk.r rfl ?_|refine Rf.mk rfl ?_|refine xA ?_|refine Ch.l ⟨rfl,rfl⟩ ?_|(apply Cl.pG (hft);{exact ga};focus(repeat' constructor);done))
 refine X2.r bF ?_
 repeat'(first|apply Sp.h|refine Lk.r rfl ?_|refine Rf.mk rfl ?_|apply Im.mk|apply yc.mk|refine xT ?_|refine xV ?_|refine xN ?_|intro _)
 rename_i M b5 b6 _
 refine CA.uV 7 4 1 dp rfl λv=>?_
 refine CA.loop (λz:Nat×List (List Int×Bool)×Value=>⟨[(3,.ad [ints st] 0),(6,pm b6),(7,.ow z.2.2),(15,ints st),(16,it (st.length:Nat)),(17,it z.1)],yb z.2.2 4 1 ((List.range z.1).map λc=>uQ m st (c:Nat)) dp :: Ri m st b5 b6 M z.2.1⟩)
  (λz=>z.1<=st.length/\Ct m st z.2.1) (λz=>st.length - z.1) (0,[],v) xE ⟨zZ _,λc v h=>by simp [yG] at h⟩ ?_
 rintro⟨i,kvs,v⟩ ⟨hi,Hs⟩
 simp only at hi Hs
 simp only
 by_cases yd:i < st.length
 ·obtain⟨x,V2⟩:=zz yd
  obtain⟨j,t,ht,hs,h0,h1,hq⟩:=U1 (s:=true) hx.lay (c:=(i:Int)) z6 (by rw [<-nw hx.lay.ok];omega)
  have O9:=aC m st hx yL b5 b6 M (m.tables.length+1) i j t ht h0 z6 z6 hq (ah hx.V9 j) kvs Hs
  have xe:(List.range (i+1)).map (λc=>uQ m st (c:Nat))=(List.range i).map (λc=>uQ m st (c:Nat)) ++ [uQ m st (i:Nat)]:=by rw [List.range_succ,List.map_append];rfl
  repeat'(first|apply Sp.h|refine Lk.r rfl ?_|refine Rf.mk rfl ?_|refine xA ?_|refine xT ?_|fail)
  (apply Cl.Ve (O9);{exact ga};{exact zo};{exact zo};focus rfl)
  rintro _ _ ⟨rfl,Ro,Xe,rfl⟩
  repeat'(first|apply Sp.h|refine Lk.r rfl ?_|refine Rf.mk rfl ?_|refine xP ?_|apply yc.mk|refine xU ?_|refine Ce.r ?_|(apply Fk.r;focus repeat' first|infer_instance|constructor)|refine Rf.mk ⟨rfl,rfl⟩ ?_|refine Rf.mk ⟨rfl,rfl,rfl⟩ ?_|(apply Mp.lit;(focus repeat(first|exact yK.nil|(apply yK.cons;{exact zu})|(apply yK.inv;{exact z1};{exact zh}))))|refine xO ?_|intro _)
  rw [<-xe]
  exact PA.lp (i+1,Ro,_) xE ⟨⟨yd,Xe⟩,by simp only;omega⟩
 ·have:i=st.length:=z6
  subst this
  repeat'(first|apply Sp.h|refine Lk.r rfl ?_|refine Rf.mk rfl ?_|refine xB ?_|refine xN ?_|fail)
  exact⟨_,_,.one (.fz z1 (by have PS:(w_ m st).length=st.length:=(by simp [w_]);omega) (.z)),rfl,rfl⟩
abbrev vA:=Int×Int
def qk(q:vA):List AV:= [it q.1,it q.2]
abbrev uI (l:List vA):AV:= .sl 2 l qk
theorem Tm{g:FuncId}{caps:List AV}{p:vA->Bool}(hg:∀e,y6 Tryz.prog g (.agg (qk e) :: caps) (.val (.bool (p e))))(he:en g=true)(l:List vA) :
  y6 Tryz.prog 133 [uI l,.fn g caps] (it (wW p l)):=by
 refine zy.of pg ye Tryz.func133 rfl Tryz.ntmps133 Tryz.results133 rfl λh0 G0 O0=>?_
 repeat'(first|apply Sp.h|refine Lk.r rfl ?_|refine Rf.mk rfl ?_|apply Im.mk|intro _)
 refine CA.loop (λi:Nat=>⟨[(0,uI l),(1,.fn g caps),(7,it (l.length:Nat)),(8,it i)],[]⟩)
  (λi=>i<=l.length/\∀j y,j < i->l[j]?=some y->p y=false) (λi=>l.length - i) 0 xE ⟨zZ _,λj y h=>z6⟩ ?_
 rintro i ⟨hi,hj⟩
 by_cases yd:i < l.length
 ·obtain⟨⟨u0,u1⟩,hx⟩:=zz yd
  have WV:=hg (u0,u1)
  repeat'(first|apply Sp.h|refine Lk.r rfl ?_|refine Rf.mk rfl ?_|refine xA ?_|(refine Bd.mk ?_ ?_ <;> intro _)|refine xI ?_|refine Ch.l ⟨rfl,rfl⟩ ?_|refine xN ?_|(apply Rf.mk;{exact z8})|refine xO ?_|(apply Cl.p (WV);(focus repeat'(first|apply y3.yB|fail))))
  ·exact pa _
  ·rename_i hp
   exact Fin.p rfl (by rw [wW,uA hx hp hj,if_pos yd])
  ·rename_i hp
   exact PA.lp (i+1) xE ⟨⟨yd,yg hx hj (by simpa using hp)⟩,z6⟩
 ·repeat'(first|apply Sp.h|refine Lk.r rfl ?_|refine Rf.mk rfl ?_|refine xB ?_|refine xN ?_|fail)
  exact Fin.p rfl (by rw [wW,wL (λx hx=>by obtain⟨j,hx⟩:=zO hx;exact hj j x (by have:=(zS.1 hx).1;omega) hx),if_neg z6])
theorem cO{g:FuncId}{caps:List AV}{p:vA->Bool}(hg:∀e,y6 Tryz.prog g (.agg (qk e) :: caps) (.val (.bool (p e))))(he:en g=true)(l:List vA) :
  y6 Tryz.prog 59 [uI l,.fn g caps] (.val (.bool (decide (∃e∈l,p e=true)))):=by
 have hi:=Tm hg he l
 refine zy.of pg ye Tryz.func59 rfl Tryz.ntmps59 Tryz.results59 rfl λh0 G0 O0=>?_
 repeat'(first|apply Sp.h|refine Lk.r rfl ?_|refine Rf.mk rfl ?_|refine xN ?_|(apply Cl.p (hi);focus repeat' constructor))
 refine Fin.p rfl (vb (zD.2 ?_))
 rw [<-tT]
 unfold wW
 split <;> omega
abbrev RE:Int->AV:=λx=>it x
def qE(s g:Nat)(k:Int):Int:=if k=0∨k=1 then s else if k=2 then g else 0
def Vs(s g:Nat)(k:Int):Option Int:=if k=0∨k=1 then some (s:Int) else if k=2 then some (g:Int) else none
def CntK(kvs:List (List Int×Int))(s g:Nat):Prop:=∀x,yG kvs [x]=Vs s g x
def t_(s g:Nat)(q:vA):Prop:=0<=q.2/\q.2 < qE s g q.1
instance (s g:Nat) (q:vA):Decidable (t_ s g q):=by unfold t_;infer_instance
theorem Jp{kvs:List (List Int×Int)}{s g:Nat}(hk:CntK kvs s g)(q:vA):y6 Tryz.prog 60 [.agg (qk q),.ad [.rm Tryz.prog 3 kvs RE] 0] (.val (.bool (decide (¬t_ s g q)))):=by
 obtain⟨q1,q2⟩:=q
 have hk:=hk q1
 refine zy.of pg ye Tryz.func60 rfl Tryz.ntmps60 Tryz.results60 rfl λh0 G0 O0=>?_
 by_cases h1:q1=0∨q1=1
 ·rw [Vs,if_pos h1] at hk
  have hc:qE s g q1=s:=by rw [qE,if_pos h1]
  repeat'(first|apply Sp.h|refine Lk.r rfl ?_|refine Rf.mk rfl ?_|refine xA ?_|refine xB ?_|apply Bd.mk|apply yc.mk|refine xT ?_|refine xN ?_|(apply Kf.mk;{exact z7})|(apply sf.s;{exact zi})|intro _)
  all_goals exact Fin.p rfl (vb (by unfold t_;simp only [hc];first|exact(zT z6).symm|exact(zF z6).symm|exact zD.2 z6))
 ·by_cases h2:q1=2
  ·rw [Vs,if_neg h1,if_pos h2] at hk
   have hc:qE s g q1=g:=by rw [qE,if_neg h1,if_pos h2]
   repeat'(first|apply Sp.h|refine Lk.r rfl ?_|refine Rf.mk rfl ?_|refine xA ?_|refine xB ?_|apply Bd.mk|apply yc.mk|refine xT ?_|refine xN ?_|(apply Kf.mk;{exact z7})|(apply sf.s;{exact zi})|intro _)
   all_goals exact Fin.p rfl (vb (by unfold t_;simp only [hc];first|exact(zT z6).symm|exact(zF z6).symm|exact zD.2 z6))
  ·rw [Vs,if_neg h1,if_neg h2] at hk
   have hc:qE s g q1=0:=by rw [qE,if_neg h1,if_neg h2]
   repeat'(first|apply Sp.h|refine Lk.r rfl ?_|refine Rf.mk rfl ?_|refine xA ?_|refine xB ?_|apply Bd.mk|apply yc.mk|refine xT ?_|refine xN ?_|(apply Kf.mk;{exact z7})|(apply Zx.i;{exact zu})|(apply sf.n;{exact zi})|intro _)
   all_goals exact Fin.p rfl (vb (by unfold t_;simp only [hc];first|exact(zT z6).symm|exact(zF z6).symm|exact zD.2 z6))
theorem W7{o r2 r3:List yh}{P:Program}{b7 M:Nat}{T2 kt:TypeId}{β:Type}{kvs:List (List Int×β)}{f:β->AV}{a:AV}{g:FuncId}
  (t2:Take o (yr b7 T2 [.val (.map (some M))]) r2) (t3:Take o (vg P M kt kvs f) r3) :
  VW o [a,.fn g [pm b7]] [a,.fn g [.ad [.rm P kt kvs f] 0]]:=⟨λ{h G Os vs} ho hr=>by
 match vs,hr with
 | [v1,v2],⟨h1,⟨us,h2,h3⟩,_⟩ =>
  match us,h3 with
  | [u2],⟨g2,_⟩ =>
   have g2:u2=_:=g2
   subst g2
   refine⟨AV.mono _ (λ_=> .inl) h1,⟨_,h2, ?_,trivial⟩,trivial⟩
   obtain⟨O,nO,⟨g0,ws,gb,gr⟩,_,g3⟩:=t2.own ho
   obtain⟨O3,os3,⟨q0,es,cl,q1,q2,q3,_⟩,_,q4⟩:=t3.own ho
   refine⟨b7,0,ws,rfl,.inr ⟨O,g3.mem_iff.2 zd,(g0 _).2 rfl⟩,gb.lt,gb.z1r, ?_,gr.one⟩
   match ws,gr.t with
   | [w],⟨e1,_⟩ =>
    exact⟨⟨M,es,cl,e1,.inr ⟨O3,q4.mem_iff.2 zd,(q0 _).2 rfl⟩,(zA.1 q1).1,q1,q2,λi e p k1 k2=>AV.mono _ (λ_=> .inl) (q3 i e p k1 k2)⟩,trivial⟩⟩
def sE(m:y8)(l:List vA):Prop:=xR m/\∀q∈l,t_ (wB m true).length (wB m false).length q
noncomputable instance (m:y8) (l:List vA):Decidable (sE m l):=zC _
theorem p9(m:y8)(s:Bool):(wB m s).length<=128:=by
 unfold wB
 split
 ·exact tu
 ·exact zZ _
end Go.Proofs.YtmjllbjfkafhdaaGreatDoor
namespace Go.CF
open Go
structure kC (S:Type) where
 WM:S->Array Bool
 rk:S->Nat
 pu:S->Option Nat
 rd:S->List Nat
 to:S->Nat->S
def kC.tree{S:Type}(D:kC S):Nat->S->Ord
 | 0,_=> .done
 | n+1,s=>match D.pu s with
  | some i=> .one i (D.tree n (D.to s i))
  | none=>match D.rd s with
   | []=> .done
   | i :: l=> .alt i (D.tree n (D.to s i)) (sD (λi=>D.tree n (D.to s i)) l)
def kC.iN{S:Type}(D:kC S)(s:S):List Nat:=match D.pu s with
 | some i=> [i]
 | none=>D.rd s
def Ym:xa->Bool | .pure=>true|_=>false
def kC.Hc{S:Type}[BEq S](D:kC S)(ops:Array Oper)(cl:Nat->xa)(all:List S)(s:S):Bool :=
 (match D.pu s with
 | some i=>Ym (cl i) && (Region.ready .any ops (D.WM s)).contains i && Region.free .any ops (D.WM s) i && ((D.WM s).setIfInBounds i true == D.WM (D.to s i)) && all.contains (D.to s i) && Nat.beq (D.rk (D.to s i)+1) (D.rk s)
 | none=>Region.ready .any ops (D.WM s) == D.rd s && (D.rd s).all λi=>yP (cl i) && ((D.WM s).setIfInBounds i true == D.WM (D.to s i)) && all.contains (D.to s i) && Nat.beq (D.rk (D.to s i)+1) (D.rk s)) &&
 (Nat.blt 0 (D.rk s) || ((D.pu s).isNone && (D.rd s).isEmpty))
section
variable {S:Type} [BEq S] [LawfulBEq S] {D:kC S} {ops:Array Oper} {cl:Nat->xa} {all:List S}
theorem kC.Oo(h:all.all (D.Hc ops cl all)=true) :∀(n:Nat) (s:S),s∈all->D.rk s=n->wX ops cl (D.tree n s) n true (D.WM s)=true:=by
 intro n
 induction n with
 | zero =>
  intro s hs hn
  have h1:=List.all_eq_true.1 h s hs
  unfold kC.Hc at h1
  rw [hn] at h1
  simp only [Bool.and_eq_true,Bool.or_eq_true] at h1
  obtain⟨h1,h2⟩:=h1
  rcases h2 with h2|⟨h2,h3⟩
  ·exact absurd h2 zf
  ·rw [Option.isNone_iff_eq_none] at h2
   rw [List.isEmpty_iff] at h3
   rw [h2] at h1
   simp only [Bool.and_eq_true,h3] at h1
   have h4:Region.ready .any ops (D.WM s)= []:=eq_of_beq h1.1
   simp [kC.tree,wX,h4]
 | succ n ih =>
  intro s hs hn
  have h1:=List.all_eq_true.1 h s hs
  unfold kC.Hc at h1
  simp only [Bool.and_eq_true] at h1
  obtain⟨h1,-⟩:=h1
  cases hp:D.pu s with
  | some i =>
   rw [hp] at h1
   simp only [Bool.and_eq_true] at h1
   obtain⟨⟨⟨⟨⟨a1,a2⟩,a3⟩,a4⟩,a5⟩,a6⟩:=h1
   have a4:=eq_of_beq a4
   have a5:D.to s i∈all:=by simpa using a5
   have a6:=Nat.eq_of_beq_eq_true a6
   have ue:cl i= .pure:=by
    revert a1
    cases cl i <;> simp [Ym]
   simp only [kC.tree,hp]
   rw [oz,iM,ue]
   simp only [a2,a3,Bool.and_self,Bool.true_and]
   rw [a4]
   exact ih _ a5 z6
  | none =>
   rw [hp] at h1
   simp only [Bool.and_eq_true,List.all_eq_true] at h1
   obtain⟨b1,b2⟩:=h1
   have b1:Region.ready .any ops (D.WM s)=D.rd s:=eq_of_beq b1
   simp only [kC.tree,hp]
   have sub:∀i∈D.rd s,yP (cl i)=true/\wX ops cl (D.tree n (D.to s i)) n true ((D.WM s).setIfInBounds i true)=true:=λi hi=>by
    obtain⟨⟨⟨c1,c2⟩,c3⟩,c4⟩:=b2 i hi
    have c2:=eq_of_beq c2
    have c3:D.to s i∈all:=by simpa using c3
    have c4:=Nat.eq_of_beq_eq_true c4
    refine⟨c1, ?_⟩
    rw [c2]
    exact ih _ c3 z6
   cases hr:D.rd s with
   | nil =>
    rw [hr] at b1
    simp [wX,b1]
   | cons i l =>
    rw [hr] at b1 sub
    simp only [wX,qU,b1,beq_self_eq_true,Bool.or_true,Bool.true_and,Bool.and_eq_true]
    exact⟨sub i zd,jo λj hj=>sub j (by simp [hj])⟩
variable {Γ:Cx} {k:List KI} {e:EA} {o:List yh}
omit [BEq S] [LawfulBEq S] in
theorem vn.sub{t:Ord}(σ:AS)(hs:Sub e o σ)(h:vn Γ k ops cl t σ.env σ.own):vn Γ k ops cl t e o :=
 ⟨λhd env hh G _ cn=>let ⟨yz,c⟩:=cn.sub hs;h.h hd env hh G yz c⟩
theorem vn.dag{α:Type}(σ:S->α->AS)(I:S->α->Prop)(h:all.all (D.Hc ops cl all)=true)
  (hs:∀s∈all,∀x,I s x->(∀i∈D.iN s,∀r,(∀x',I (D.to s i) x'->vn Γ k ops cl r (σ (D.to s i) x').env (σ (D.to s i) x').own)->vn Γ k ops cl (.one i r) (σ s x).env (σ s x).own)/\
   (D.iN s= []->PA Γ k .normal (σ s x).env (σ s x).own)) :
  ∀(n:Nat) (s:S),s∈all->D.rk s=n->∀x,I s x->vn Γ k ops cl (D.tree n s) (σ s x).env (σ s x).own:=by
 intro n
 induction n with
 | zero =>
  intro s hm hn x hx
  have h1:=List.all_eq_true.1 h s hm
  unfold kC.Hc at h1
  rw [hn] at h1
  simp only [Bool.and_eq_true,Bool.or_eq_true] at h1
  obtain⟨h1,h2⟩:=h1
  rcases h2 with h2|⟨h2,h3⟩
  ·exact absurd h2 zf
  ·rw [Option.isNone_iff_eq_none] at h2
   rw [List.isEmpty_iff] at h3
   exact(show vn Γ k ops cl .done (σ s x).env (σ s x).own from Sp.h (s:=PA Γ k .normal (σ s x).env (σ s x).own) ((hs s hm x hx).2 (by rw [kC.iN,h2];exact h3)))
 | succ n ih =>
  intro s hm hn x hx
  have h1:=List.all_eq_true.1 h s hm
  unfold kC.Hc at h1
  simp only [Bool.and_eq_true] at h1
  obtain⟨h1,-⟩:=h1
  obtain⟨nP,bf⟩:=hs s hm x hx
  cases hp:D.pu s with
  | some i =>
   rw [hp] at h1
   simp only [Bool.and_eq_true] at h1
   obtain⟨⟨-,a5⟩,a6⟩:=h1
   have a5:D.to s i∈all:=by simpa using a5
   have a6:=Nat.eq_of_beq_eq_true a6
   simp only [kC.tree,hp]
   exact nP i (by rw [kC.iN,hp];exact zH.2 rfl) _ λx' c_=>ih _ a5 z6 x' c_
  | none =>
   rw [hp] at h1
   simp only [Bool.and_eq_true,List.all_eq_true] at h1
   obtain⟨-,b2⟩:=h1
   simp only [kC.tree,hp]
   have sub:∀i∈D.rd s,vn Γ k ops cl (.one i (D.tree n (D.to s i))) (σ s x).env (σ s x).own:=λi hi=>by
    obtain⟨⟨-,c3⟩,c4⟩:=b2 i hi
    have c3:D.to s i∈all:=by simpa using c3
    have c4:=Nat.eq_of_beq_eq_true c4
    exact nP i (by rw [kC.iN,hp];exact hi) _ λx' c_=>ih _ c3 z6 x' c_
   cases hr:D.rd s with
   | nil=>exact Sp.h (s:=PA Γ k .normal (σ s x).env (σ s x).own) (bf (by rw [kC.iN,hp];exact hr))
   | cons i l =>
    rw [hr] at sub
    exact vn.alts (f:=λi=>D.tree n (D.to s i)) (ps:=i :: l) λj hj=>sub j hj
end
end Go.CF
namespace Go.Proofs.YtmjllbjfkafhdaaGreatDoor
open Go Go.CF
abbrev RL:=Bool×Bool×Nat×Nat×Nat×Nat
def d12:kC RL where
 WM:=fun(m,v,a,b,c,f)=>#[m,Nat.ble 1 a,Nat.ble 2 a,Nat.ble 3 a,Nat.ble 4 a,Nat.ble 1 b,Nat.ble 2 b,Nat.ble 3 b,Nat.ble 4 b,Nat.ble 1 c,Nat.ble 2 c,Nat.ble 3 c,Nat.ble 4 c,Nat.ble 1 f,v,Nat.ble 2 f]
 rk:=fun(m,v,a,b,c,f)=>16 - (m.toNat+v.toNat+a+b+c+f)
 pu:=fun(m,_,a,b,c,f)=>bif Nat.beq a 2 then some 3 else bif Nat.beq b 2 then some 7 else bif Nat.beq c 2 then some 11 else bif m && Nat.beq a 4 && Nat.beq b 4 && Nat.beq c 4 && Nat.beq f 0 then some 13 else none
 rd:=fun(m,v,a,b,c,f)=>(bif m then [] else [0]) ++ (bif Nat.beq a 0 then [1] else bif Nat.beq a 1 then [2] else bif Nat.beq a 3 && m then [4] else []) ++ (bif Nat.beq b 0 then [5] else bif Nat.beq b 1 && Nat.ble 2 a then [6] else bif Nat.beq b 3 && m then [8] else []) ++ (bif Nat.beq c 0 then [9] else bif Nat.beq c 1 && Nat.ble 2 b then [10] else bif Nat.beq c 3 && m then [12] else []) ++ (bif v then [] else [14]) ++ (bif Nat.beq f 1 && v then [15] else [])
 to:=fun(m,v,a,b,c,f) i=>(m || Nat.beq i 0,v || Nat.beq i 14,bif Nat.ble 1 i && Nat.ble i 4 then i else a,bif Nat.ble 5 i && Nat.ble i 8 then i - 4 else b,bif Nat.ble 9 i && Nat.ble i 12 then i - 8 else c,bif Nat.beq i 13 then 1 else bif Nat.beq i 15 then 2 else f)
def dr:List RL:= [(false,false,0,0,0,0),(false,false,0,0,1,0),(false,false,0,1,0,0),(false,false,0,1,1,0),(false,false,1,0,0,0),(false,false,1,0,1,0),(false,false,1,1,0,0),(false,false,1,1,1,0),(false,false,2,0,0,0),(false,false,2,0,1,0),(false,false,2,1,0,0),(false,false,2,1,1,0),(false,false,3,0,0,0),(false,false,3,0,1,0),(false,false,3,1,0,0),(false,false,3,1,1,0),(false,false,3,2,0,0),(false,false,3,2,1,0),(false,false,3,3,0,0),(false,false,3,3,1,0),(false,false,3,3,2,0),(false,false,3,3,3,0),(false,true,0,0,0,0),(false,true,0,0,1,0),(false,true,0,1,0,0),(false,true,0,1,1,0),(false,true,1,0,0,0),(false,true,1,0,1,0),(false,true,1,1,0,0),(false,true,1,1,1,0),(false,true,2,0,0,0),(false,true,2,0,1,0),(false,true,2,1,0,0),(false,true,2,1,1,0),(false,true,3,0,0,0),(false,true,3,0,1,0),(false,true,3,1,0,0),(false,true,3,1,1,0),(false,true,3,2,0,0),(false,true,3,2,1,0),(false,true,3,3,0,0),(false,true,3,3,1,0),(false,true,3,3,2,0),(false,true,3,3,3,0),(true,false,0,0,0,0),(true,false,0,0,1,0),(true,false,0,1,0,0),(true,false,0,1,1,0),(true,false,1,0,0,0),(true,false,1,0,1,0),(true,false,1,1,0,0),(true,false,1,1,1,0),(true,false,2,0,0,0),(true,false,2,0,1,0),(true,false,2,1,0,0),(true,false,2,1,1,0),(true,false,3,0,0,0),(true,false,3,0,1,0),(true,false,3,1,0,0),(true,false,3,1,1,0),(true,false,3,2,0,0),(true,false,3,2,1,0),(true,false,3,3,0,0),(true,false,3,3,1,0),(true,false,3,3,2,0),(true,false,3,3,3,0),(true,false,3,3,4,0),(true,false,3,4,0,0),(true,false,3,4,1,0),(true,false,3,4,2,0),(true,false,3,4,3,0),(true,false,3,4,4,0),(true,false,4,0,0,0),(true,false,4,0,1,0),(true,false,4,1,0,0),(true,false,4,1,1,0),(true,false,4,2,0,0),(true,false,4,2,1,0),(true,false,4,3,0,0),(true,false,4,3,1,0),(true,false,4,3,2,0),(true,false,4,3,3,0),(true,false,4,3,4,0),(true,false,4,4,0,0),(true,false,4,4,1,0),(true,false,4,4,2,0),(true,false,4,4,3,0),(true,false,4,4,4,0),(true,false,4,4,4,1),(true,true,0,0,0,0),(true,true,0,0,1,0),(true,true,0,1,0,0),(true,true,0,1,1,0),(true,true,1,0,0,0),(true,true,1,0,1,0),(true,true,1,1,0,0),(true,true,1,1,1,0),(true,true,2,0,0,0),(true,true,2,0,1,0),(true,true,2,1,0,0),(true,true,2,1,1,0),(true,true,3,0,0,0),(true,true,3,0,1,0),(true,true,3,1,0,0),(true,true,3,1,1,0),(true,true,3,2,0,0),(true,true,3,2,1,0),(true,true,3,3,0,0),(true,true,3,3,1,0),(true,true,3,3,2,0),(true,true,3,3,3,0),(true,true,3,3,4,0),(true,true,3,4,0,0),(true,true,3,4,1,0),(true,true,3,4,2,0),(true,true,3,4,3,0),(true,true,3,4,4,0),(true,true,4,0,0,0),(true,true,4,0,1,0),(true,true,4,1,0,0),(true,true,4,1,1,0),(true,true,4,2,0,0),(true,true,4,2,1,0),(true,true,4,3,0,0),(true,true,4,3,1,0),(true,true,4,3,2,0),(true,true,4,3,3,0),(true,true,4,3,4,0),(true,true,4,4,0,0),(true,true,4,4,1,0),(true,true,4,4,2,0),(true,true,4,4,3,0),(true,true,4,4,4,0),(true,true,4,4,4,1),(true,true,4,4,4,2)]
def t12:Ord:=d12.tree 16 (false,false,0,0,0,0)
def Fc:Nat->Ord×(Nat->xa):=λid=>bif Nat.beq id 3 then(t12,Xj [.ext,.ext,.ext,.pure,.uJ,.ext,.ext,.pure,.uJ,.ext,.ext,.pure,.uJ,.pure,.ext,.uJ]) else(.done,Xj [])
def fy(a b c:Bool)(s g:Nat)(kvs:List (List Int×Int)):Prop:=∀k,yG kvs [k]=if k=0 then(bif a then some (s:Int) else none) else if k=1 then(bif b then some (s:Int) else none) else if k=2 then(bif c then some (g:Int) else none) else none
theorem z0j{b c:Bool}{s g:Nat}{kvs:List (List Int×Int)}(h:fy false b c s g kvs):fy true b c s g (td kvs [0] (s:Nat)):=λk=>by
 rw [tX,h k]
 by_cases h0:k=0 <;> simp [h0]
theorem z0i{a c:Bool}{s g:Nat}{kvs:List (List Int×Int)}(h:fy a false c s g kvs):fy a true c s g (td kvs [1] (s:Nat)):=λk=>by
 rw [tX,h k]
 by_cases h0:k=1 <;> simp [h0]
theorem z0h{a b:Bool}{s g:Nat}{kvs:List (List Int×Int)}(h:fy a b false s g kvs):fy a b true s g (td kvs [2] (g:Nat)):=λk=>by
 rw [tX,h k]
 by_cases h0:k=2 <;> simp [h0]
abbrev sC {α:Type} (c:Bool) (x:α) (r:List α):List α:=bif c then x :: r else r
theorem FB(s g:Nat):fy false false false s g []:=λk=>by simp [yG]
def Fa(m:y8)(l:List vA)(rs rg:List (Int×Int))(b2:Nat):RL->Nat×Nat×List (List Int×Int)->AS
 | (mk,v,a,b,c,f),(M,b5,kvs)=>⟨(1,uI l) :: (2,pm b2) :: sC mk (9,.val (.map (some M))) (sC v (5,pm b5) (sC (Nat.beq a 1) (10,wH m) (sC (Nat.beq a 2) (11,.sl 2 rs vT) (sC (Nat.beq a 3) (12,it (rs.length:Nat)) (sC (Nat.beq b 1) (13,wH m) (sC (Nat.beq b 2) (14,.sl 2 rs vT) (sC (Nat.beq b 3) (15,it (rs.length:Nat)) (sC (Nat.beq c 1) (16,wH m) (sC (Nat.beq c 2) (17,.sl 2 rg vT) (sC (Nat.beq c 3) (18,it (rg.length:Nat)) (sC (Nat.beq f 1) (19,.val (.map (some M))) []))))))))))),
  yr b2 30 (s_ m) :: sC mk (vg Tryz.prog M 3 kvs RE) (sC v (yr b5 112 [bif Nat.beq f 2 then .val (.map (some M)) else .val (.map none)]) [])⟩
def Ak(s g:Nat):RL->Nat×Nat×List (List Int×Int)->Prop
 | (_,_,a,b,c,_),(_,_,kvs)=>fy (Nat.ble 4 a) (Nat.ble 4 b) (Nat.ble 4 c) s g kvs
theorem _root_.Go.CF.zt {p:Prop}(h:p:=by ((repeat first|exact trivial|refine⟨rfl, ?_⟩));first|done|fail):p:=h
theorem XE(m:y8)(l:List vA)(rs rg:List (Int×Int))(hv:yV Tryz.prog 56 [wH m] (.val (.bool true)))(hs:yV Tryz.prog 57 [wH m] (.sl 2 rs vT))(hg:yV Tryz.prog 58 [wH m] (.sl 2 rg vT)) :
  yV Tryz.prog 12 [wH m,uI l] (.val (.bool (l.all λq=>decide (t_ rs.length rg.length q)))):=by
 refine yJ.of pg Fc Tryz.func12 rfl Tryz.ntmps12 Tryz.results12 rfl λh0 G0 O0 ga=>?_
 (repeat'(first|(show CA _ _ (Code.region 3 _ _) _ _;apply z_.out)|apply Sp.h|refine Lk.r rfl ?_|refine Rf.mk rfl ?_|refine xA ?_|refine yc.mk λ_=>?_|refine xT ?_|refine Ch.l ⟨rfl,rfl⟩ ?_|(apply Cl.pG (hv);{exact ga};focus(repeat' constructor);done)));any_goals apply z_.mk
 rename_i b2
 refine CA.cut (λx:Nat×Nat×List (List Int×Int)=>⟨[(1,uI l),(5,pm x.1)],[yr x.1 112 [.val (.map (some x.2.1))],vg Tryz.prog x.2.1 3 x.2.2 RE]⟩) (λx=>fy true true true rs.length rg.length x.2.2) ?_ ?_
 ·apply CA.draw (t:=t12)
  focus rfl
  focus kernel_rfl
  focus
   show(dg _ && wX _ _ t12 16 _ _)=true
   rw [Bool.and_eq_true]
   exact⟨by kernel_rfl,kC.Oo (all:=dr) z7 16 _ (by unfold dr;exact List.mem_cons_self) rfl⟩
  focus exact ON.refl _
  focus rfl
  refine vn.sub (Fa m l rs rg b2 (false,false,0,0,0,0) (0,0,[])) xE ?_
  unfold t12
  refine vn.dag (D:=d12) (all:=dr) (Fa m l rs rg b2) (Ak rs.length rg.length) z7 ?_ 16 _ (by unfold dr;exact List.mem_cons_self) rfl _ (FB _ _)
  unfold dr
  repeat'(first|exact List.forall_mem_nil _|refine List.forall_mem_cons.2 ⟨?_, ?_⟩)
  all_goals
   rintro⟨M,b5,kvs⟩ hI
   refine⟨?_, ?_⟩
   ·repeat'(first|exact List.forall_mem_nil _|refine List.forall_mem_cons.2 ⟨?_, ?_⟩)
    all_goals
     intro r hr
     (repeat'(first|apply Sp.h|refine Lk.r rfl ?_|refine Rf.mk rfl ?_|refine yu.r rfl ?_|refine Im.mk λ_=>?_|refine yc.mk λ_=>?_|refine xT ?_|refine Ch.l ⟨rfl,rfl⟩ ?_|refine xV ?_|refine xN ?_|(apply Kf.mk;{exact z7})|refine xM ?_|refine eo.r rfl ?_|(refine X2.r RE ?_)|(apply Cl.pG (hs);{exact ga};focus(repeat' constructor);done)|(apply Cl.pG (hg);{exact ga};focus(repeat' constructor);done)))
     first
      | (refine vn.sub _ ?_ (hr (M,b5,kvs) hI);refine⟨?_, ?_⟩;{exact zt};(focus(((repeat first|exact .nil|refine .cons z1 ?_));done)))
      | (rename_i q;refine vn.sub _ ?_ (hr (q,b5,[]) (FB _ _));refine⟨?_, ?_⟩;{exact zt};(focus(((repeat first|exact .nil|refine .cons z1 ?_));done)))
      | (rename_i q;refine vn.sub _ ?_ (hr (M,q,kvs) hI);refine⟨?_, ?_⟩;{exact zt};(focus(((repeat first|exact .nil|refine .cons z1 ?_));done)))
      | (refine vn.sub _ ?_ (hr (M,b5,td kvs [0] (rs.length:Nat)) (z0j hI));refine⟨?_, ?_⟩;{exact zt};(focus(((repeat first|exact .nil|refine .cons z1 ?_));done)))
      | (refine vn.sub _ ?_ (hr (M,b5,td kvs [1] (rs.length:Nat)) (z0i hI));refine⟨?_, ?_⟩;{exact zt};(focus(((repeat first|exact .nil|refine .cons z1 ?_));done)))
      | (refine vn.sub _ ?_ (hr (M,b5,td kvs [2] (rg.length:Nat)) (z0h hI));refine⟨?_, ?_⟩;{exact zt};(focus(((repeat first|exact .nil|refine .cons z1 ?_));done)))
   ·intro hmv
    first
     | exact absurd hmv (List.cons_ne_nil _ _)
     | exact PA.lp (b5,M,kvs) xE hI
 ·rintro⟨b5,M,kvs⟩ hk
  simp only at hk
  simp only
  have lK:CntK kvs rs.length rg.length:=λk=>by
   rw [hk k]
   unfold Vs
   by_cases h0:k=0
   ·simp [h0]
   ·by_cases h1:k=1 <;> simp [h0,h1]
  have uK:=cO (g:=60) (p:=λq=>decide (¬t_ rs.length rg.length q)) (λq=>Jp lK q) rfl l
  repeat'(first|apply Sp.h|refine Lk.r rfl ?_|refine Rf.mk rfl ?_|fail)
  refine Cl.VH uK (W7 z1 z1) ?_
  repeat'(first|apply Sp.h|refine Lk.r rfl ?_|refine xN ?_|fail)
  refine Fin.p rfl (vb ?_)
  rw [Bool.eq_iff_iff]
  simp
theorem nv(m:y8)(l:List vA)(wU:m.ops.length<=1000000000)(vL:xl m):yV Tryz.prog 12 [wH m,uI l] (.val (.bool (decide (sE m l)))):=by
 have hv:=nB m wU vL
 by_cases hx:xR m
 ·have h:=XE m l (wB m true) (wB m false) (by rw [zT hx] at hv;exact hv) (X_ m wU vL) (W0 m wU vL)
  have he:(l.all λq=>decide (t_ (wB m true).length (wB m false).length q))=decide (sE m l):=by
   rw [Bool.eq_iff_iff,List.all_eq_true,decide_eq_true_iff]
   exact⟨λh=>⟨hx,λq hq=>of_decide_eq_true (h q hq)⟩,λh q hq=>zT (h.2 q hq)⟩
  rw [he] at h
  exact h
 ·rw [zF hx] at hv
  rw [zF λh:sE m l=>hx h.1]
  refine yJ.of pg Fc Tryz.func12 rfl Tryz.ntmps12 Tryz.results12 rfl λh0 G0 O0 ga=>?_
  repeat'(first|apply Sp.h|refine Lk.r rfl ?_|refine Rf.mk rfl ?_|refine xB ?_|refine yc.mk λ_=>?_|refine xT ?_|refine Ch.l ⟨rfl,rfl⟩ ?_|refine xN ?_|(apply Cl.pG (hv);{exact ga};focus(repeat' constructor);done))
  exact Fin.p rfl rfl
def Nm(x y:yC):Prop:=x.rep=y.rep/\x.num=y.num
def mX(t:ym)(l:List yC)(n:Nat):Prop:=∀i x,i < n->l[i]?=some x->wy t x/\(∀j y,j < i->l[j]?=some y->¬Nm y x)/\(∀y,0 < i->l[i - 1]?=some y->¬wC x y)
def Xn(t:ym)(g:xp):Prop:=(g.drop=true->t.kind=3)/\¬(g.put=true/\x8 t.kind)/\¬(t.kind=4/\1 < g.marks.length)/\g.marks.length<=1024
def sx(t:ym)(g:xp):Prop:=Xn t g/\mX t g.marks g.marks.length
noncomputable instance (t:ym) (g:xp):Decidable (sx t g):=zC _
def qH(l:List yC):List (List Int×Bool):=l.map λx=>([x.rep,x.num],true)
def wj(l:List yC)(x:yC):Prop:=∃y∈l,Nm y x
noncomputable instance (l:List yC) (x:yC):Decidable (wj l x):=zC _
theorem aO(l:List yC)(x:yC):yG (qH l) [x.rep,x.num]=if wj l x then some true else none:=by
 induction l with
 | nil=>simp [qH,yG,wj]
 | cons a l ih =>
  simp only [qH,yG,List.map_cons,List.find?_cons] at ih ⊢
  by_cases h:Nm a x
  ·rw [if_pos ⟨a,by simp,h⟩]
   simp [h.1,h.2]
  ·have h2:decide ([a.rep,a.num]= [x.rep,x.num])=false:=by simpa [Nm] using h
   rw [h2]
   rw [ih]
   have e:wj l x↔wj (a :: l) x:=by simp [wj,h]
   by_cases hh:wj l x
   ·rw [if_pos hh,if_pos (e.1 hh)]
   ·rw [if_neg hh,if_neg (λh9=>hh (e.2 h9))]
theorem XX{l:List yC}{i:Nat}{x:yC}(hx:l[i]?=some x)(hn:yG (qH (l.take i)) [x.rep,x.num]=none):td (qH (l.take i)) [x.rep,x.num] true=qH (l.take (i+1)):=by
 rw [mq _ _ _ hn,zK,hx];simp [qH]
theorem jy(t:ym)(l:List yC):mX t l 0:=λi x h=>z6
theorem om{t:ym}{l:List yC}{i:Nat}{x:yC}(hx:l[i]?=some x)(h:mX t l i)(h1:wy t x)(h2:∀j y,j < i->l[j]?=some y->¬Nm y x)(h3:∀y,0 < i->l[i - 1]?=some y->¬wC x y):mX t l (i+1):=by
 intro k y hk hy
 by_cases O6:k=i
 ·subst O6;rw [hx] at hy;cases hy;exact⟨h1,h2,h3⟩
 ·exact h k y z6 hy
theorem Xu(t:ym)(g:xp):y6 Tryz.prog 206 [.agg (v8 t),.agg (jN g)] (bl (decide (sx t g))):=by
  obtain⟨put,drop,l⟩:=g
  have no:∀{p:Prop},(p->False)->¬p:=λh=>h
  refine zy.of pg JM Tryz.func206 rfl Tryz.ntmps206 Tryz.results206 rfl λh0 G0 O0=>?_
  by_cases hg:Xn t ⟨put,drop,l⟩
  · have g1:drop=true->t.kind=3:=hg.1
    have g2:put=true->¬x8 t.kind:=λh h'=>hg.2.1 ⟨h,h'⟩
    have g3:¬(t.kind=4/\1 < l.length):=hg.2.2.1
    have g4:l.length<=1024:=hg.2.2.2
    repeat'(first|apply Sp.h|refine Lk.r rfl ?_|refine Rf.mk rfl ?_|refine xA ?_|refine xB ?_|(refine Bd.mk ?_ ?_ <;> intro _)|refine Im.mk λ_=>?_|refine yc.mk λ_=>?_|refine xT ?_|refine Ch.l ⟨rfl,rfl⟩ ?_|refine xN ?_|(apply Cl.p (sc _);focus repeat' constructor))
    all_goals try exact absurd z8 (g2 z8)
    all_goals try exact absurd (g1 z8) z8
    all_goals try exact(g3 ⟨z6,z6⟩).elim
    all_goals try(simp only at *;omega)
    all_goals refine X2.r bl ?_
    all_goals repeat'(first|apply Sp.h|refine Lk.r rfl ?_|refine Rf.mk rfl ?_|apply Im.mk|apply yc.mk|refine xT ?_|intro _)
    all_goals refine CA.loop (λi:Nat=>⟨[(2,pm _),(3,pm _),(5,.val (.map (some _))),(42,oK l),(43,it (l.length:Nat)),(44,it i)],[yr _ 150 (v8 t),yr _ 231 (jN ⟨put,drop,l⟩),vg Tryz.prog _ 70 (qH (l.take i)) bl]⟩) (λi=>i<=l.length/\mX t l i) (λi=>l.length - i) 0 xE ⟨zZ _,jy t l⟩ ?_
    all_goals
      rintro i ⟨hi,hm⟩
      by_cases yd:i < l.length
      · obtain⟨x,hx⟩:=zz yd
        have ez:=aO (l.take i) x
        by_cases Rx:wj (l.take i) x
        · rw [if_pos Rx] at ez
          repeat'(first|apply Sp.h|refine Lk.r rfl ?_|refine Rf.mk rfl ?_|refine xA ?_|refine xB ?_|(refine Bd.mk ?_ ?_ <;> intro _)|refine yu.r rfl ?_|refine yc.mk λ_=>?_|refine xT ?_|refine xI ?_|refine Ch.l ⟨rfl,rfl⟩ ?_|(apply y4.r;focus repeat' constructor)|refine xN ?_|refine xK ?_|(apply Kf.mk;{exact z7})|refine xM ?_|(apply sf.s;{exact zi})|refine xD ?_|(apply Cl.p (fN _ _);focus repeat' constructor)|(apply Cl.p (iR _);focus repeat' constructor))
          all_goals refine Fin.p rfl (vb (zF (λh=>?_)).symm)
          all_goals
            obtain⟨h1,h2,-⟩:=h.2 i x yd hx
            first
              | exact absurd h1 z8
              | (obtain⟨y,hy,hn⟩:=Rx
                 obtain⟨j,hj⟩:=zO hy
                 have py:j < i:=by have:=(zS.1 hj).1;rw [zN] at this;omega
                 rw [List.getElem?_take,if_pos py] at hj
                 exact h2 j y py hj hn)
        · rw [if_neg Rx] at ez
          have jS:=XX hx ez
          have hd:∀j y,j < i->l[j]?=some y->¬Nm y x:=λj y hj hy hn=>Rx ⟨y,zM (i:=j) (by rw [List.getElem?_take,if_pos hj];exact hy),hn⟩
          rcases Nat.eq_zero_or_pos i with h0|h0
          · subst h0
            repeat'(first|apply Sp.h|refine Lk.r rfl ?_|refine Rf.mk rfl ?_|refine xA ?_|refine xB ?_|(refine Bd.mk ?_ ?_ <;> intro _)|refine yu.r rfl ?_|refine yc.mk λ_=>?_|refine xT ?_|refine xI ?_|refine Ch.l ⟨rfl,rfl⟩ ?_|(apply y4.r;focus repeat' constructor)|refine xN ?_|refine xK ?_|(apply Kf.mk;{exact z7})|refine xM ?_|refine eo.r rfl ?_|(apply Zx.b;{exact zu})|(apply sf.n;{exact zi})|refine xD ?_|refine xO ?_|(apply Cl.p (fN _ _);focus repeat' constructor)|(apply Cl.p (iR _);focus repeat' constructor))
            all_goals first
              | (refine Fin.p rfl (vb (zF (λh=>?_)).symm)
                 exact absurd (h.2 0 x yd hx).1 z8)
              | (rw [jS]
                 exact PA.lp 1 xE ⟨⟨yd,om hx hm z8 hd (λy h _=>absurd h (Nat.lt_irrefl 0))⟩,z6⟩)
          · obtain⟨k,rfl⟩:∃k,i=k+1:=⟨i - 1,z6⟩
            obtain⟨y,hy⟩:=zz (l:=l) (i:=k) z6
            have hk4:¬t.kind=4:=λh=>g3 ⟨h,z6⟩
            have R8:=TU (a:=y) (b:=x)
            first
              | exact absurd z8 hk4
              | skip
            all_goals repeat'(first|apply Sp.h|refine Lk.r rfl ?_|refine Rf.mk rfl ?_|refine xA ?_|refine xB ?_|(refine Bd.mk ?_ ?_ <;> intro _)|refine yu.r rfl ?_|refine yc.mk λ_=>?_|refine xT ?_|refine xI ?_|(apply Ix.r;{exact z8};{exact z6})|refine Ch.l ⟨rfl,rfl⟩ ?_|(apply y4.r;focus repeat' constructor)|refine xN ?_|refine xK ?_|(apply Kf.mk;{exact z7})|refine xM ?_|(apply Zx.b;{exact zu})|(apply sf.n;{exact zi})|refine xD ?_|refine xO ?_|(apply Cl.p (fN _ _);focus repeat' constructor)|(apply Cl.p (iR _);focus repeat' constructor))
            all_goals try(refine Fin.p rfl (vb (zF (λh=>?_)).symm);exact absurd (h.2 (k+1) x yd hx).1 z8)
            all_goals repeat'(first|apply Sp.h|refine Lk.r rfl ?_|refine Rf.mk rfl ?_|refine xA ?_|(refine Bd.mk ?_ ?_ <;> intro _)|refine yu.r rfl ?_|refine xT ?_|refine Ch.l ⟨rfl,rfl⟩ ?_|refine xN ?_|refine xK ?_|(apply Kf.mk;{exact z7})|refine xM ?_|refine eo.r rfl ?_|refine xO ?_|(apply Cl.p (rU _ _);focus repeat' constructor)|(apply Cl.p (iR _);focus repeat' constructor))
            all_goals first
              | (refine Fin.p rfl (vb (zF (λh=>?_)).symm)
                 exact(h.2 (k+1) x yd hx).2.2 y h0 hy (R8.1 z8))
              | (rw [jS]
                 exact PA.lp (k+1+1) xE ⟨⟨yd,om hx hm z8 hd (λz _ hz=>by rw [show k+1 - 1=k from rfl,hy] at hz;cases hz;exact λh=>absurd (R8.2 h) z8)⟩,z6⟩)
      · have vk:i=l.length:=z6
        subst vk
        repeat'(first|apply Sp.h|refine Lk.r rfl ?_|refine Rf.mk rfl ?_|refine xB ?_|refine xN ?_|fail)
        exact Fin.p rfl (vb (zT (show sx t ⟨put,drop,l⟩ from⟨hg,hm⟩)).symm)
  · have Hn:¬sx t ⟨put,drop,l⟩:=λh=>hg h.1
    unfold Xn at hg
    repeat'(first|apply Sp.h|refine Lk.r rfl ?_|refine Rf.mk rfl ?_|refine xA ?_|refine xB ?_|(refine Bd.mk ?_ ?_ <;> intro _)|refine Im.mk λ_=>?_|refine yc.mk λ_=>?_|refine xT ?_|refine Ch.l ⟨rfl,rfl⟩ ?_|refine xN ?_|(apply Cl.p (sc _);focus repeat' constructor))
    all_goals first
      | exact Fin.p rfl (vb (zF Hn).symm)
      | (refine(hg ⟨λh=>?_,λh=>?_,λh=>?_, ?_⟩).elim
         all_goals(simp only at *;first|assumption|omega|simp_all))
def vX(ts:List ym)(l:List xp):Prop:=ts.length=l.length/\∀(i:Nat) (t:ym) (g:xp),ts[i]?=some t->l[i]?=some g->sx t g
noncomputable instance (ts:List ym) (l:List xp):Decidable (vX ts l):=zC _
abbrev z0w:FuncId:=205
theorem Wm(ts:List ym)(l:List xp):y6 Tryz.prog z0w [xG ts,uH l,.fn 206 []] (bl (decide (vX ts l))):=by
 refine zy.of pg ye Tryz.func205 rfl Tryz.ntmps205 Tryz.results205 rfl λh0 G0 O0=>?_
 repeat'(first|apply Sp.h|refine Lk.r rfl ?_|refine Rf.mk rfl ?_|apply Bd.mk|apply Im.mk|refine xN ?_|intro _)
 rotate_left
 ·rename_i hlen
  exact Fin.p rfl (vb (zF (λh=>by have:=h.1;omega)).symm)
 refine CA.loop (λi:Nat=>⟨[(1,uH l),(2,.fn 206 []),(15,xG ts),(16,it (ts.length:Nat)),(17,it i)],[]⟩) (λi=>i<=ts.length/\∀j t g,j < i->ts[j]?=some t->l[j]?=some g->sx t g) (λi=>ts.length - i) 0 xE ⟨zZ _,λj t g h=>z6⟩ ?_
 rintro i ⟨hi,ha⟩
 by_cases yd:i < ts.length
 ·obtain⟨t,ht⟩:=zz yd
  obtain⟨g,hg⟩:=zz (l:=l) (i:=i) z6
  repeat'(first|apply Sp.h|refine Lk.r rfl ?_|refine Rf.mk rfl ?_|refine xA ?_|(refine Bd.mk ?_ ?_ <;> intro _)|refine yc.mk λ_=>?_|refine xT ?_|refine xI ?_|refine Ch.l ⟨rfl,rfl⟩ ?_|(apply y4.r;focus repeat' constructor)|refine xN ?_|refine xO ?_|(apply Cl.p (Xu _ _);focus repeat' constructor))
  ·refine PA.lp (i+1) xE ⟨⟨yd,λj t' g' hj h1 h2=>?_⟩,z6⟩
   by_cases py:j=i
   ·subst py;rw [ht] at h1;rw [hg] at h2;cases h1;cases h2;assumption
   ·exact ha j t' g' z6 h1 h2
  ·exact Fin.p rfl (vb (zF (λh=>by have:=h.2 i t g ht hg;contradiction)).symm)
 have vk:i=ts.length:=z6
 subst vk
 repeat'(first|apply Sp.h|refine Lk.r rfl ?_|refine Rf.mk rfl ?_|refine xB ?_|refine xN ?_|fail)
 exact Fin.p rfl (vb (zT (show vX ts l from⟨z6,λj t g h1 h2=>ha j t g (zS.1 h1).1 h1 h2⟩)).symm)
theorem j4(m:y8)(l:List xp)(hm:xS m.y9 m.tables):y6 Tryz.prog 160 [wH m,uH l] (bl (decide (vX (yw m) l))):=by
 have hc:=kj m hm
 have he:=Wm (yw m) l
 refine zy.of pg ye Tryz.func160 rfl Tryz.ntmps160 Tryz.results160 rfl λh0 G0 O0=>?_
 repeat'(first|apply Sp.h|refine Lk.r rfl ?_|refine Rf.mk rfl ?_|refine yc.mk λ_=>?_|refine xT ?_|refine Ch.l ⟨rfl,rfl⟩ ?_|(apply Cl.p (hc);focus repeat' constructor))
 refine xQ (he) ?_
 repeat'(first|apply Sp.h|refine Lk.r rfl ?_|refine xN ?_|fail)
 exact Fin.p rfl rfl
def DD(ts:List ym):Prop:=∀t∈ts,2<=t.kind/\t.kind<=5
theorem T6{m:y8}{l:List ym}{t:ym}(h:t∈tM m l):t∈l/\¬yi t.kind:=by
 unfold tM at h
 obtain⟨u,hu,ht⟩:=List.mem_flatMap.1 h
 split at ht
 ·cases ht
 ·rename_i hs
  have:=List.eq_of_mem_replicate ht
  subst this
  exact⟨hu,hs⟩
theorem Mh{m:y8}(hm:xS m.y9 m.tables):DD (yw m):=by
 intro t ht
 obtain⟨h1,h2⟩:=T6 ht
 have:=(hm.2.2.2 t h1).2
 unfold yi at h2
 omega
theorem T4:BM Tryz.prog 270 229 :=
 ⟨_,4,Tryz.func270,by kernel_rfl,by kernel_rfl,by kernel_rfl,by kernel_rfl⟩
instance (priority:=2000) {T:Nat->Ord×(Nat->xa)} {n:Nat} {rs:Array ResultVar} {K:AV->List yh->Prop} {h0:y7} {G0 O0:Nat->Prop} {d:Tmp} {x y:Operand} {sg:Array TypeId} {ty:TypeId} {e:EA} {o:List yh} {N:NA} :
  Sp (SA ⟨Tryz.prog,tt,en,pg,T,n,rs,K,h0,G0,O0,⟨none⟩⟩ .uJ (some d) (.call { callee:= .value (.func 270),args:=#[x,y],argTypes:=sg }) ty e o N)
   (Lk (xr e x) λa=>Lk (xr e y) λb=>ZA o a b (N ((d,.val (.bool false)) :: e) o)):=⟨λh=>SA.ovl T4 (tS:=229) rfl rfl h⟩
theorem Uk{α:Type}{L:List α}{r:α}{i:Nat}(hi:i < L.length)(a b c:Nat)(ha:a=L.length - i)(hb:b=1)(hc:c=1) :
  (L.take (i+c) ++ (L.drop i).take a).take i ++ [r].take b ++ (L.take (i+c) ++ (L.drop i).take a).drop (i+b)=L.take i ++ r :: L.drop i:=by
 subst ha;subst hb;subst hc
 have h1:(L.drop i).take (L.length - i)=L.drop i:=List.take_of_length_le zd
 have h2:(L.take (i+1)).length=i+1:=by simp;omega
 rw [h1,List.take_append_of_le_length z6,List.take_take,Nat.min_eq_left z6,List.drop_append_of_le_length z6,List.drop_of_length_le z6]
 simp
theorem Yo{α:Type}{L:List α}{r:α}{i:Nat}(hi:i < L.length)(a b c d e g:Nat)(hg:g=i)(he:e=1)(hd:d=L.length - i)(hb:b=L.length - i)(ha:a=i)(hc:c=1) :
  (((L.take g).take a ++ [r].take e).take (i+c) ++ ((L.drop i).take d).take b)=L.take i ++ r :: L.drop i:=by
 subst ha;subst hb;subst hc;subst hd;subst he;subst hg
 have h1:(L.drop g).take (L.length - g)=L.drop g:=List.take_of_length_le zd
 rw [h1,h1,List.take_take,Nat.min_self,List.take_of_length_le (l:=List.take g L ++ List.take 1 [r]) zk]
 simp
theorem Wd(w u:Value)(L:List (List Value))(r:List Value)(i:Nat)(hi:i<=L.length)(hl:L.length<=1000000) :
  zy Tryz.prog 250 [.ow w,it i,.ow u] [yb w 233 4 L wP,yb u 233 4 [r] wP] λq own=>∃w',q= .ow w'/\own= [yb w' 233 4 (L.take i ++ r :: L.drop i) wP]:=by
 refine zy.of pg JB Tryz.func250 rfl Tryz.ntmps250 Tryz.results250 rfl λh0 G0 O0=>?_
 have Gx:([r]:List (List Value)).length=1:=rfl
 by_cases yd:i=L.length
 ·subst yd
  rw [zL,List.drop_length]
  repeat'(first|apply Sp.h|refine Lk.r rfl ?_|refine Rf.mk rfl ?_|refine xA ?_|refine xB ?_|refine xP ?_|apply yc.mk|refine xU ?_|refine Ce.r ?_|refine xN ?_|refine Rf.mk ⟨rfl,rfl⟩ ?_|(apply Jx.r;{exact zj};{exact zb})|refine Mp.same ?_|intro _)
  exact⟨_,_,.one (.same (.z)),_,rfl,rfl⟩
 have yd:i < L.length:=z6
 by_cases hc:eR w < L.length+1
 ·repeat'(first|apply Sp.h|refine Lk.r rfl ?_|refine Rf.mk rfl ?_|refine xA ?_|refine xB ?_|apply Im.mk|refine xU ?_|refine Rf.mk ⟨rfl,rfl⟩ ?_|refine Rf.mk ⟨rfl,rfl,rfl⟩ ?_|(apply Jx.r;{exact zj};{exact zb})|refine Mp.same ?_|refine xO ?_|intro _)
  refine Jx.r (j:=L.length+ [r].length - i) z6 z6 ?_
  (repeat'(first|(show CA _ _ (Code.region 12 _ _) _ _;apply z_.out)|apply Sp.h|refine Lk.r rfl ?_|refine Rf.mk rfl ?_|refine yu.r rfl ?_|refine xP ?_|apply yc.mk|refine xU ?_|refine Rf.mk ⟨rfl,rfl⟩ ?_|refine Rf.mk ⟨rfl,rfl,rfl⟩ ?_|(apply Jx.r;{exact zj};{exact zb})|refine Mp.same ?_|refine xD ?_|refine xO ?_|(apply nX.part;{exact zm})|(apply ep.r;{exact z1})|intro _));any_goals apply z_.mk
  apply CA.ofX 9
  focus rfl
  focus(repeat constructor)
  focus(simp;omega)
  repeat'(first|apply Sp.h|refine Lk.r rfl ?_|refine Rf.mk rfl ?_|refine xN ?_|fail)
  rw [Yo yd _ _ _ _ _ _ z6 z6 z6 zk z6 Gx]
  exact⟨_,_,.one (.same (.z)),_,rfl,rfl⟩
 ·(repeat'(first|(show CA _ _ (Code.region 13 _ _) _ _;apply z_.out)|apply Sp.h|refine Lk.r rfl ?_|refine Rf.mk rfl ?_|refine xB ?_|apply Im.mk|refine xU ?_|(apply Jx.r;{exact zj};{exact zb})|refine xO ?_|intro _));any_goals apply z_.mk
  apply CA.DN 0
  focus rfl
  focus(repeat constructor)
  intro _
  (repeat'(first|(show CA _ _ (Code.region 16 _ _) _ _;apply z_.out)|apply Sp.h|refine Lk.r rfl ?_|refine Rf.mk rfl ?_|refine xB ?_|refine yu.r rfl ?_|refine xP ?_|refine Rf.mk ⟨rfl,rfl,rfl⟩ ?_|(apply Jx.r;{exact zj};{exact zb})|refine xD ?_|refine xO ?_|(apply nX.part;{exact zm})|(apply ep.r;{exact z1})|(apply kB.g_;{exact zu};{exact zg};{exact zg})|(apply ZA.mk';{exact z1};{exact z1};{exact zf})|fail));any_goals apply z_.mk
  refine CA.sub ⟨[(0,.ow _),(1,it i),(2,.ow u)],[yb _ 233 4 _ wP,yb u 233 4 [r] wP]⟩ xE ?_
  repeat'(first|apply Sp.h|refine Lk.r rfl ?_|refine Rf.mk rfl ?_|refine xU ?_|refine xN ?_|refine Rf.mk ⟨rfl,rfl,rfl⟩ ?_|(apply Jx.r;{exact zj};{exact zb})|refine Mp.same ?_|(apply nX.all;{exact zm})|fail)
  rw [Uk yd _ _ _ z6 zk Gx]
  exact⟨_,_,.one (.same (.z)),_,rfl,rfl⟩
abbrev mA (x:yC):AV:= .agg (qX x)
theorem dY{g:FuncId}{cap:AV}{p:yC->Bool}(hg:∀x,y6 Tryz.prog g [mA x,cap] (bl (p x)))(he:en g=true)(l:List yC) :
  y6 Tryz.prog 269 [oK l,.fn g [cap]] (it (wW p l)):=by
 refine zy.of pg ye Tryz.func269 rfl Tryz.ntmps269 Tryz.results269 rfl λh0 G0 O0=>?_
 repeat'(first|apply Sp.h|refine Lk.r rfl ?_|refine Rf.mk rfl ?_|apply Im.mk|intro _)
 refine CA.loop (λi:Nat=>⟨[(0,oK l),(1,.fn g [cap]),(7,it (l.length:Nat)),(8,it i)],[]⟩)
  (λi=>i<=l.length/\∀j y,j < i->l[j]?=some y->p y=false) (λi=>l.length - i) 0 xE ⟨zZ _,λj y h=>z6⟩ ?_
 rintro i ⟨hi,hj⟩
 by_cases yd:i < l.length
 ·obtain⟨e,hx⟩:=zz yd
  repeat'(first|apply Sp.h|refine Lk.r rfl ?_|refine Rf.mk rfl ?_|refine xA ?_|(refine Bd.mk ?_ ?_ <;> intro _)|refine xI ?_|refine Ch.l ⟨rfl,rfl⟩ ?_|refine xN ?_|(apply Rf.mk;{exact z8})|refine xO ?_|(apply Cl.p (hg e);focus repeat' constructor))
  ·rename_i hp
   exact Fin.p rfl (by rw [wW,uA hx hp hj,if_pos yd])
  ·rename_i hp
   refine PA.lp (i+1) xE ⟨⟨yd,λj y h1 h2=>?_⟩,z6⟩
   by_cases u5:j=i
   ·subst u5;rw [hx] at h2;cases h2;simpa using hp
   ·exact hj j y z6 h2
 ·repeat'(first|apply Sp.h|refine Lk.r rfl ?_|refine Rf.mk rfl ?_|refine xB ?_|refine xN ?_|fail)
  exact Fin.p rfl (by rw [wW,wL (λx hx=>by obtain⟨j,hx⟩:=zO hx;exact hj j x (by have:=(zS.1 hx).1;omega) hx),if_neg z6])
theorem cP{g:FuncId}{cap:AV}{p:yC->Bool}(hg:∀x,y6 Tryz.prog g [mA x,cap] (bl (p x)))(he:en g=true)(l:List yC) :
  y6 Tryz.prog 247 [oK l,.fn g [cap]] (bl (decide (xw p l < l.length))):=by
 refine zy.of pg ye Tryz.func247 rfl Tryz.ntmps247 Tryz.results247 rfl λh0 G0 O0=>?_
 repeat'(first|apply Sp.h|refine Lk.r rfl ?_|refine Rf.mk rfl ?_|refine xN ?_|(apply Cl.p (dY hg he l);focus repeat' constructor))
 refine Fin.p rfl (vb (zD.2 ?_))
 unfold wW
 split <;> omega
theorem kd{α:Type}{p:α->Bool}{l:List α}:xw p l < l.length↔∃x∈l,p x=true:=by
 constructor
 ·intro h
  obtain⟨x,h1,h2,_⟩:=ke h
  exact⟨x,zM h1,h2⟩
 ·rintro⟨x,hx,hp⟩
  refine Classical.byContradiction λh=>?_
  have hle:=n9 p l
  have he:xw p l=l.length:=z6
  have key:∀l:List α,xw p l=l.length->∀x∈l,p x=false:=by
   intro l
   induction l with
   | nil=>intro _ x h;cases h
   | cons a l ih =>
    intro h x hx
    by_cases ha:p a=true
    ·simp [xw,ha] at h
    ·have ha':p a=false:=by simpa using ha
     simp [xw,ha'] at h
     rcases List.mem_cons.1 hx with rfl|hx
     ·exact ha'
     ·exact ih h x hx
  rw [key l he x hx] at hp
  cases hp
def SV(x:yC):List Value:= [.int .i64 x.rep,.int .i64 x.num,.int .i64 x.time,.int .i64 x.val]
theorem lZ(l:List yC):(l.map SV).map wP=l.map qX:=by rw [List.map_map];rfl
theorem TJ{α:Type}{p:α->Bool} :∀{l:List α},xw p l < l.length->(l.take (xw p l+1)).filter (λx=> !p x)=l.take (xw p l):=by
 intro l
 induction l with
 | nil=>intro h;simp at h
 | cons a l ih =>
  intro h
  by_cases ha:p a=true
  ·simp [xw,ha]
  ·have ha':p a=false:=by simpa using ha
   have he:xw p (a :: l)=xw p l+1:=by simp [xw,ha']
   rw [he] at h ⊢
   have:=ih (by simpa using h)
   rw [List.take_succ_cons,List.filter_cons,List.take_succ_cons,this]
   simp [ha']
theorem Wo{g:FuncId}{cap:AV}{p:yC->Bool}(hg:∀x,y6 Tryz.prog g [mA x,cap] (bl (p x)))(he:en g=true)(w:Value)(l:List yC)(hl:l.length<=1000000) :
  zy Tryz.prog 272 [.ow w,.fn g [cap]] [yb w 233 4 l qX] λq own=>∃w',q= .ow w'/\own= [yb w' 233 4 (l.filter λx=> !p x) qX]:=by
 have bo:=dY hg he l
 refine zy.of pg ye Tryz.func272 rfl Tryz.ntmps272 Tryz.results272 rfl λh0 G0 O0=>?_
 repeat'(first|apply Sp.h|refine Lk.r rfl ?_|refine Rf.mk rfl ?_|fail)
 (apply Cl.yY (bo);(focus repeat'(first|exact y3.nil|apply y3.yB|(apply y3.yY;{exact z1};{exact zc})|fail)))
 by_cases hn:xw p l < l.length
 ·have hI:wW p l=(xw p l:Nat):=if_pos hn
  rw [hI]
  repeat'(first|apply Sp.h|refine Lk.r rfl ?_|refine Rf.mk rfl ?_|refine xB ?_|refine xO ?_|fail)
  refine CA.loop (λx:Nat×Nat×List yC=>⟨[(0,.ow w),(1,.fn g [cap]),(5,it x.1),(6,it x.2.1)],[yb w 233 4 x.2.2 qX]⟩)
   (λx=>x.1 < x.2.1/\x.2.1<=l.length/\x.2.2.length=l.length/\x.2.2.take x.1=(l.take x.2.1).filter (λx=> !p x)/\x.2.2.drop x.2.1=l.drop x.2.1) (λx=>l.length - x.2.1) (xw p l,xw p l+1,l) xE ⟨Nat.lt_succ_self _,hn,rfl,(TJ hn).symm,rfl⟩ ?_
  rintro⟨i,j,cur⟩ ⟨h1,h2,h3,h4,h5⟩
  simp only at h1 h2 h3 h4 h5
  simp only
  by_cases hj:j < l.length
  ·obtain⟨x,hx⟩:=zz hj
   have hcx:cur[j]?=some x:=by
    have:=congrArg (λz=>z[0]?) h5
    simpa [List.getElem?_drop,hx] using this
   obtain⟨y,hy⟩:=zz (l:=cur) (i:=i) z6
   have h6:cur.drop (j+1)=l.drop (j+1):=by rw [<-List.drop_drop,h5,List.drop_drop]
   have h7:l.take (j+1)=l.take j ++ [x]:=by rw [zK,hx];rfl
   repeat'(first|apply Sp.h|refine Lk.r rfl ?_|refine Rf.mk rfl ?_|refine xA ?_|(refine Bd.mk ?_ ?_ <;> intro _)|refine yc.mk λ_=>?_|refine xU ?_|refine xT ?_|refine xI ?_|refine xJ ?_|refine Ch.l ⟨rfl,rfl⟩ ?_|(apply y4.r;focus repeat' constructor)|refine xN ?_|refine Up.r rfl ?_|(apply Rf.mk;{exact z8})|refine xO ?_|(apply Cl.p (hg x);focus repeat' constructor))
   ·rename_i hp
    exact PA.lp (i,j+1,cur) xE ⟨⟨by simp only;omega,hj,h3,by simp only;rw [h7,List.filter_append,h4];simp [hp],h6⟩,by simp only;omega⟩
   ·rename_i hp
    have hp:p x=false:=by simpa using hp
    have h8:(cur.set i x).take (i+1)=cur.take i ++ [x]:=by
     rw [zK,List.getElem?_set,if_pos rfl,if_pos z6,List.take_set_of_le (Nat.le_refl _)];rfl
    exact PA.lp (i+1,j+1,cur.set i x) xE ⟨⟨by simp only;omega,hj,by simp only;rw [zY];exact h3,by simp only;rw [h7,List.filter_append,h8,h4];simp [hp],by simp only;rw [List.drop_set_of_lt z6];exact h6⟩,by simp only;omega⟩
  ·have R6:j=l.length:=z6
   subst R6
   rw [zL] at h4
   (repeat'(first|(show CA _ _ (Code.region 11 _ _) _ _;apply z_.out)|apply Sp.h|refine Lk.r rfl ?_|refine Rf.mk rfl ?_|refine xB ?_|refine xU ?_|fail));any_goals apply z_.mk
   apply CA.yR (m:=cur.map SV) (g:=wP)
   focus(repeat constructor)
   focus exact lZ cur
   apply CA.DN 0
   focus rfl
   focus(repeat constructor)
   intro oP
   rw [List.length_map] at oP
   (repeat'(first|(show CA _ _ Code.ret _ _;apply z_.out)|apply Sp.h|refine Lk.r rfl ?_|refine Rf.mk rfl ?_|refine xP ?_|refine Rf.mk ⟨rfl,rfl⟩ ?_|refine Rf.mk ⟨rfl,rfl,rfl⟩ ?_|(apply Jx.r;{exact zj};{exact zb})|(apply ep.r;{exact z1})|(apply kB.short;{exact zu};{exact zg};{exact zg})|fail));any_goals apply z_.mk
   apply CA.yR (m:=l.filter λx=> !p x) (g:=qX)
   focus(repeat constructor)
   focus(rw [<-h4,<-lZ,List.map_take];simp [List.take_take])
   repeat'(first|apply Sp.h|refine Lk.r rfl ?_|refine xN ?_|fail)
   exact⟨_,_,.one (.same (.z)),_,rfl,rfl⟩
 ·have hI:wW p l= -1:=if_neg hn
  have ug:l.filter (λx=> !p x)=l:=List.filter_eq_self.2 λx hx=>by
   have h9:¬∃x∈l,p x=true:=λh=>hn (kd.2 h)
   cases hpx:p x
   ·rfl
   ·exact absurd ⟨x,hx,hpx⟩ h9
  rw [hI,ug]
  repeat'(first|apply Sp.h|refine Lk.r rfl ?_|refine Rf.mk rfl ?_|refine xA ?_|refine xN ?_|fail)
  exact⟨_,_,.one (.same (.z)),_,rfl,rfl⟩
theorem ct(l:List yC)(hl:l.length<=1000000000):tJ Tryz.prog 167 [oK l] 233 4 l qX:=by
 refine zy.of pg ye Tryz.func167 rfl Tryz.ntmps167 Tryz.results167 rfl λh0 G0 O0=>?_
 repeat'(first|apply Sp.h|refine Lk.r rfl ?_|refine Rf.mk rfl ?_|apply Bd.mk|refine xP ?_|apply Im.mk|apply yc.mk|refine xU ?_|refine Ce.l rfl ?_|(apply Fk.r;focus repeat' first|infer_instance|constructor)|refine xN ?_|refine Rf.mk ⟨rfl,rfl⟩ ?_|refine Rf.mk ⟨rfl,rfl,rfl⟩ ?_|refine Mp.same ?_|intro _)
 ·rename_i b hb YX
  have eg:l= []:=Decidable.byContradiction λh=>by rw [hb h] at YX;cases YX
  subst eg
  exact⟨_,_,.one (.vC (.z)),_,rfl,rfl⟩
 ·repeat'(first|fail)
  exact⟨_,_,.one (.same (.z)),_,rfl,rfl⟩
theorem cu(l:List xp)(hl:l.length<=1000000000):tJ Tryz.prog 166 [uH l] 231 3 l jN:=by
 refine zy.of pg ye Tryz.func166 rfl Tryz.ntmps166 Tryz.results166 rfl λh0 G0 O0=>?_
 repeat'(first|apply Sp.h|refine Lk.r rfl ?_|refine Rf.mk rfl ?_|apply Bd.mk|refine xP ?_|apply Im.mk|apply yc.mk|refine xU ?_|refine Ce.l rfl ?_|(apply Fk.r;focus repeat' first|infer_instance|constructor)|refine xN ?_|refine Rf.mk ⟨rfl,rfl⟩ ?_|refine Rf.mk ⟨rfl,rfl,rfl⟩ ?_|refine Mp.same ?_|intro _)
 ·rename_i b hb YX
  have eg:l= []:=Decidable.byContradiction λh=>by rw [hb h] at YX;cases YX
  subst eg
  exact⟨_,_,.one (.vC (.z)),_,rfl,rfl⟩
 ·repeat'(first|fail)
  exact⟨_,_,.one (.same (.z)),_,rfl,rfl⟩
structure uM where
 put:Bool
 drop:Bool
 w:Value
 marks:List yC
def uM.g(e:uM):xp:=⟨e.put,e.drop,e.marks⟩
def vD(e:uM):List AV:= [bl e.put,bl e.drop,.ow e.w]
abbrev tj (e:uM):yh:=yb e.w 233 4 e.marks qX
def ME(x:Bool×Bool×AV):List AV:= [bl x.1,bl x.2.1,x.2.2]
instance {a b:Bool} {c:AV}:Inv ME [bl a,bl b,c] (a,b,c):=⟨rfl⟩
def V0(e:uM):Bool×Bool×AV:=(e.put,e.drop,.ow e.w)
def gM(g:xp):Bool×Bool×AV:=(g.put,g.drop,oK g.marks)
theorem Ye(l:List uM):l.map vD=(l.map V0).map ME:=by rw [List.map_map];rfl
theorem Yd(l:List xp):(l.map gM).map ME=l.map jN:=by rw [List.map_map];rfl
abbrev Rk (v:Value) (L:List uM):List yh:= [yb v 231 3 L vD,u9 (L.map tj)]
theorem Wt(l:List xp)(hl:l.length<=1000000)(hm:∀g∈l,g.marks.length<=1000000) :
  zy Tryz.prog 161 [uH l] [] λr own=>∃v L,r= .ow v/\L.map uM.g=l/\own=Rk v L:=by
 have hc:=cu l z6
 refine zy.of pg ye Tryz.func161 rfl Tryz.ntmps161 Tryz.results161 rfl λh0 G0 O0=>?_
 repeat'(first|apply Sp.h|refine Lk.r rfl ?_|refine Rf.mk rfl ?_|fail)
 (refine Cl.use (hc) (by repeat'(first|exact y3.nil|apply y3.yB|fail)) .nil rfl ?_;rintro _ _ ⟨_,rfl,rfl⟩)
 repeat'(first|apply Sp.h|refine Lk.r rfl ?_|refine Rf.mk rfl ?_|refine xU ?_|fail)
 rename_i v
 apply CA.yR (m:=l.map gM) (g:=ME)
 focus(repeat constructor)
 focus exact Yd l
 refine CA.o9 tj ?_
 refine CA.loop (λx:Nat×List uM=>⟨[(3,.ow v),(8,it (l.length:Nat)),(9,it x.1)],[yb v 231 3 (x.2.map V0 ++ (l.drop x.1).map gM) ME,u9 (x.2.map tj)]⟩)
  (λx=>x.1<=l.length/\x.2.map uM.g=l.take x.1) (λx=>l.length - x.1) (0,[]) xE ⟨zZ _,by simp⟩ ?_
 rintro⟨i,D⟩ ⟨hi,hD⟩
 simp only at hi hD
 simp only
 by_cases yd:i < l.length
 ·obtain⟨g,hg⟩:=zz yd
  have Ob:=hm g (zM hg)
  have Zy:D.length=i:=by have:=congrArg List.length hD;simp at this;omega
  have SH:(l.drop i).map gM=gM g :: (l.drop (i+1)).map gM:=by
   have h9:=List.drop_eq_getElem_cons yd
   rw [(zS.1 hg).2] at h9
   rw [h9,List.map_cons]
  have tN:(D.map V0 ++ (l.drop i).map gM)[i]?=some (g.put,g.drop,oK g.marks):=by
   rw [SH,zJ zk];simp [Zy,gM]
  have ue:=ct g.marks z6
  repeat'(first|apply Sp.h|refine Lk.r rfl ?_|refine Rf.mk rfl ?_|refine xA ?_|refine xU ?_|refine xI ?_|refine xJ ?_|fail)
  (refine Cl.use (ue) (by repeat'(first|exact y3.nil|apply y3.yB|fail)) .nil rfl ?_;rintro _ _ ⟨_,rfl,rfl⟩)
  (repeat'(first|(show CA _ _ (Code.region 6 _ _) _ _;apply z_.out)|apply Sp.h|refine Lk.r rfl ?_|refine Rf.mk rfl ?_|refine xU ?_|refine xI ?_|refine xJ ?_|refine xV ?_|(apply Up.inv;{exact z1};{exact zh})|fail));any_goals apply z_.mk
  rename_i w2
  have pC:(D.map V0 ++ (l.drop i).map gM).set i (g.put,g.drop,.ow w2)=(D ++ [(uM.mk g.put g.drop w2 g.marks)]).map V0 ++ (l.drop (i+1)).map gM:=by
   rw [SH,List.set_append,if_neg zk]
   simp [Zy,V0]
  rw [pC]
  apply CA.tU (g:=tj) (x:=(uM.mk g.put g.drop w2 g.marks))
  focus(repeat constructor)
  focus(repeat constructor)
  repeat'(first|apply Sp.h|refine Lk.r rfl ?_|refine Rf.mk rfl ?_|refine xO ?_|fail)
  exact PA.lp (i+1,D ++ [(uM.mk g.put g.drop w2 g.marks)]) xE ⟨⟨yd,by simp only;rw [List.map_append,hD,zK,hg];rfl⟩,by simp only;omega⟩
 ·have vk:i=l.length:=z6
  subst vk
  rw [zL] at hD
  rw [List.drop_length,List.map_nil,List.append_nil]
  (repeat'(first|(show CA _ _ (Code.region 7 _ _) _ _;apply z_.out)|apply Sp.h|refine Lk.r rfl ?_|refine Rf.mk rfl ?_|refine xB ?_|fail));any_goals apply z_.mk
  apply CA.yR (m:=D) (g:=vD)
  focus(repeat constructor)
  focus exact Ye D
  repeat'(first|apply Sp.h|refine Lk.r rfl ?_|refine Rf.mk rfl ?_|refine xN ?_|fail)
  exact⟨_,_,.one (.same (.z)),_,D,rfl,hD,rfl⟩
instance {a b:AV} [ha:Flat a] [hb:Flat b]:Flat (.yE [a,b]):=⟨by
 rintro h h' G G' v ⟨vs,rfl,hr⟩
 match vs,hr with
 | [x,y],⟨h1,h2,_⟩=>exact⟨[x,y],rfl,ha.h _ _ _ _ _ h1,hb.h _ _ _ _ _ h2,trivial⟩⟩
noncomputable def ql(l:List yC)(x:yC):Nat:=xw (λy=>decide (¬wC y x)) l
def ZR(l:List yC)(x:yC):Prop:=∀(i j:Nat) (a b:yC),i<=j->l[i]?=some a->l[j]?=some b->wC b x->wC a x
theorem Qq{l:List yC}{x:yC}{n:Nat}(hn:n<=l.length)(h1:∀(q:Nat) y,q < n->l[q]?=some y->wC y x)(h2:∀(q:Nat) y,n<=q->l[q]?=some y->¬wC y x):ql l x=n:=by
 by_cases Zo:n < l.length
 ·obtain⟨y,hy⟩:=zz Zo
  exact uA hy (zT (h2 n y (Nat.le_refl _) hy)) λj z hj hz=>zF (λh=>h (h1 j z hj hz))
 ·have vB:n=l.length:=z6
  rw [vB]
  exact wL λy hy=>by
   obtain⟨j,hj⟩:=zO hy
   exact zF (λh=>h (h1 j y (by have:=(zS.1 hj).1;omega) hj))
noncomputable def Lu(l:List yC)(x:yC):Bool:=decide (∃y,l[ql l x]?=some y/\bW y x=0)
theorem IZ(l:List yC)(x:yC)(hm:ZR l x)(hl:l.length<=1000000) :
  y6 Tryz.prog 249 [oK l,mA x,.fn 246 []] (.yE [it (ql l x:Nat),bl (Lu l x)]):=by
 refine zy.of pg JC Tryz.func249 rfl Tryz.ntmps249 Tryz.results249 rfl λh0 G0 O0=>?_
 repeat'(first|apply Sp.h|refine Lk.r rfl ?_|refine Rf.mk rfl ?_|apply Im.mk|apply yc.mk|intro _)
 refine CA.loop (λp:Nat×Nat=>⟨[(0,oK l),(2,.fn 246 []),(4,pm _),(8,it (l.length:Nat)),(9,it p.1),(10,it p.2)],[yr _ 233 (qX x)]⟩)
  (λp=>p.1<=p.2/\p.2<=l.length/\(∀(q:Nat) y,q < p.1->l[q]?=some y->wC y x)/\∀(q:Nat) y,p.2<=q->l[q]?=some y->¬wC y x) (λp=>p.2 - p.1) (0,l.length) xE
  ⟨zZ _,Nat.le_refl _,λq y h=>absurd h (Nat.not_lt_zero q),λq y h h'=>by have:=(zS.1 h').1;simp only at h;omega⟩ ?_
 rintro⟨i,j⟩ ⟨h1,h2,h3,h4⟩
 simp only at h1 h2 h3 h4
 simp only
 by_cases u5:i < j
 ·obtain⟨y,hy⟩:=zz (l:=l) (i:=(i+j) / 2) z6
  have R8:=TV (a:=y) (b:=x)
  have e1:((i:Int)+(j:Int)) / 2=(((i+j) / 2:Nat):Int):=z6
  repeat'(first|apply Sp.h|refine Lk.r rfl ?_|refine Rf.mk rfl ?_|refine xA ?_|(refine Bd.mk ?_ ?_ <;> intro _)|refine yu.r rfl ?_|refine xT ?_|refine xI ?_|refine Ch.l ⟨rfl,rfl⟩ ?_|refine xD ?_|refine xO ?_|(apply r_.i64;{exact zu};{exact z6})|(apply r_.u64;{exact zu};{exact z6})|(apply Cl.p (rU _ _);focus repeat' constructor))
  ·rename_i xC
   have Ss:=R8.1 xC
   exact PA.lp ((i+j) / 2+1,j) xE ⟨⟨by simp only;omega,h2,λq z hq hz=>hm q ((i+j) / 2) z y (by simp only at hq;omega) hz hy Ss,h4⟩,by simp only;omega⟩
  ·rename_i xC
   have Ss:¬wC y x:=λh=>xC (R8.2 h)
   exact PA.lp (i,(i+j) / 2) xE ⟨⟨by simp only;omega,by simp only;omega,h3,λq z hq hz h=>Ss (hm ((i+j) / 2) q y z (by simp only at hq;omega) hy hz h)⟩,by simp only;omega⟩
 ·have Lo:i=j:=z6
  subst Lo
  have sR:=Qq h2 h3 h4
  by_cases yd:i < l.length
  ·obtain⟨y,hy⟩:=zz yd
   repeat'(first|apply Sp.h|refine Lk.r rfl ?_|refine Rf.mk rfl ?_|refine xA ?_|refine xB ?_|refine yu.r rfl ?_|refine xT ?_|refine xI ?_|refine Ch.l ⟨rfl,rfl⟩ ?_|refine xN ?_|refine xD ?_|(apply Cl.p (rU _ _);focus repeat' constructor))
   refine Fin.p rfl ?_
   rw [sR]
   have:Lu l x=decide (bW y x=0):=zD.2 (by rw [sR,hy];simp)
   rw [this]
  ·repeat'(first|apply Sp.h|refine Lk.r rfl ?_|refine Rf.mk rfl ?_|refine xB ?_|refine yu.r rfl ?_|refine xN ?_|refine xD ?_|(apply Cl.p (rU _ _);(focus repeat'(first|fail))))
   refine Fin.p rfl ?_
   rw [sR]
   have:Lu l x=false:=zF (by rw [sR];rintro⟨y,hy,_⟩;have:=(zS.1 hy).1;omega)
   rw [this]
theorem Wc{β:Type}(w u:Value)(L:List (List Value))(r:List Value)(r':β)(g:β->List AV)(hr:g r'=wP r)(i:Nat)(hi:i<=L.length)(hl:L.length<=1000000) :
  zy Tryz.prog 250 [.ow w,it i,.ow u] [yb w 233 4 L wP,yb u 233 4 [r'] g] λq own=>∃w',q= .ow w'/\own= [yb w' 233 4 (L.take i ++ r :: L.drop i) wP]:=by
 refine⟨λh G Os vs h1 h2=>?_⟩
 match Os,h2.own with
 | [O1,O2],⟨k1,⟨ho,rows,hw,qy⟩,_⟩ =>
  exact(Wd w u L r i hi hl).run h G [O1,O2] vs h1 ⟨⟨k1,⟨ho,rows,hw,qy.map (by simp [hr])⟩,trivial⟩,h2.g,h2.g0,h2.o,h2.d,h2.fp⟩
def Oq(kp:AV)(e:yo)(m:yC):List AV:= [kp,iv e.rep,iv e.num,iv e.time,ints e.yj,iv e.kind,iv e.action,iv e.gk,iv e.gi,iv e.ge,iv e.ga,iv e.to,iv e.place,iv e.wx,it m.rep,it m.num,it m.time,it m.val]
noncomputable instance (x y:yC):Decidable (Nm x y):=zC _
theorem H6(kp:AV)(e:yo)(m x:yC):y6 Tryz.prog 248 [mA x,.ad (Oq kp e m) 0] (bl (decide (Nm x m))):=by
 refine zy.of pg JD Tryz.func248 rfl Tryz.ntmps248 Tryz.results248 rfl λh0 G0 O0=>?_
 repeat'(first|apply Sp.h|refine Lk.r rfl ?_|refine Rf.mk rfl ?_|refine yu.r rfl ?_|refine yc.mk λ_=>?_|refine xT ?_|refine Ch.l ⟨rfl,rfl⟩ ?_|refine Ch.r ?_|refine xN ?_|refine xK ?_|(apply Kf.mk;{exact z7})|refine xD ?_|(apply Cl.p (iR _);focus repeat' constructor))
 refine Fin.p rfl (vb (zD.2 ?_))
 unfold Nm
 simp
noncomputable def vU(l:List yC)(x:yC):List yC:=l.take (ql l x) ++ x :: l.drop (ql l x)
noncomputable def xo(l:List yC)(x:yC):Int×List yC:=if wj l x then(6,l) else if 1024<=l.length then(8,l) else(0,vU l x)
theorem fO(l:List yC)(x:yC):ql l x<=l.length:=n9 _ l
theorem Tj(l:List yC)(x:yC):(vU l x).map SV=(l.map SV).take (ql l x) ++ SV x :: (l.map SV).drop (ql l x):=by
 simp [vU,List.map_take,List.map_drop]
theorem QZ(l:List yC)(m:yC):xw (λx=>decide (Nm x m)) l < l.length↔wj l m:=kd.trans (by simp [wj])
theorem ZP(v:Value)(i:Nat)(e:yo)(m:yC)(L:List uM)(x:uM)(hx:L[i]?=some x)(hm:ZR x.marks m)(hl:x.marks.length<=1024) :
  zy Tryz.prog 207 [.agg (Oq (.oe v 3 i 0) e m)] [yb v 231 3 L vD,tj x] λr own=>∃w',r=it (xo x.marks m).1/\own= [yb v 231 3 (L.set i ⟨x.put,x.drop,w',(xo x.marks m).2⟩) vD,yb w' 233 4 (xo x.marks m).2 qX]:=by
 have uK:=cP (H6 (.oe v 3 i 0) e m) rfl x.marks
 have z03:=IZ x.marks m hm z6
 have wO:L.set i ⟨x.put,x.drop,x.w,x.marks⟩=L:=by
  have:=(zS.1 hx)
  apply List.ext_getElem?
  intro j
  rw [List.getElem?_set]
  split
  ·rename_i hj;subst hj;rw [if_pos this.1,hx]
  ·rfl
 refine zy.of pg JL Tryz.func207 rfl Tryz.ntmps207 Tryz.results207 rfl λh0 G0 O0=>?_
 repeat'(first|apply Sp.h|refine Lk.r rfl ?_|refine Rf.mk rfl ?_|apply yc.mk|refine xU ?_|refine xT ?_|refine xJ ?_|intro _)
 (apply Cl.yY (uK);(focus repeat'(first|exact y3.nil|apply y3.yB|(apply y3.yY;{exact z1};{exact zc})|(apply y3.cell;{exact z1})|refine y3.fn ?_ ?_|fail)))
 have V9:=QZ x.marks m
 by_cases Vn:wj x.marks m
 ·have h6:xo x.marks m=(6,x.marks):=if_pos Vn
  have xC:=V9.2 Vn
  rw [h6]
  repeat'(first|apply Sp.h|refine Lk.r rfl ?_|refine Rf.mk rfl ?_|refine xA ?_|refine xN ?_|fail)
  exact⟨_,_,.one (.same (.z)),x.w,rfl,congrArg (λz=> [yb v 231 3 z vD,tj x]) wO.symm⟩
 ·have xC:¬xw (λx=>decide (Nm x m)) x.marks < x.marks.length:=λh=>Vn (V9.1 h)
  by_cases Lq:1024<=x.marks.length
  ·have h8:xo x.marks m=(8,x.marks):=by rw [xo,if_neg Vn,if_pos Lq]
   rw [h8]
   repeat'(first|apply Sp.h|refine Lk.r rfl ?_|refine Rf.mk rfl ?_|refine xA ?_|refine xB ?_|refine xU ?_|refine xT ?_|refine xJ ?_|refine xN ?_|fail)
   exact⟨_,_,.one (.same (.z)),x.w,rfl,congrArg (λz=> [yb v 231 3 z vD,tj x]) wO.symm⟩
  ·have h0:xo x.marks m=(0,vU x.marks m):=by rw [xo,if_neg Vn,if_neg Lq]
   rw [h0]
   repeat'(first|apply Sp.h|refine Lk.r rfl ?_|refine Rf.mk rfl ?_|refine xB ?_|refine yu.r rfl ?_|refine xU ?_|refine xT ?_|refine xJ ?_|refine Ch.r ?_|refine xD ?_|fail)
   (apply Cl.yY (z03);(focus repeat'(first|exact y3.nil|apply y3.yB|(apply y3.yY;{exact z1};{exact zc})|fail)))
   (repeat'(first|(show CA _ _ (Code.region 6 _ _) _ _;apply z_.out)|apply Sp.h|refine Lk.r rfl ?_|refine yu.r rfl ?_|fail));any_goals apply z_.mk
   apply CA.yR (v:=x.w) (m:=x.marks.map SV) (g:=wP)
   focus(repeat constructor)
   focus exact lZ x.marks
   repeat'(first|apply Sp.h|refine Lk.r rfl ?_|refine Rf.mk rfl ?_|refine yu.r rfl ?_|apply yc.mk|refine xU ?_|refine xT ?_|refine xJ ?_|refine Ch.r ?_|(apply Fk.r;focus repeat' first|infer_instance|constructor)|refine Rf.mk ⟨rfl,rfl,rfl⟩ ?_|refine xD ?_|exact trivial|apply vn.both|intro _)
   all_goals
    rename_i u
    have Fo:=Wc x.w u (x.marks.map SV) (SV m) (qX m) id rfl (ql x.marks m) (by rw [List.length_map];exact fO _ _) (by rw [List.length_map];omega)
    rw [<-Tj] at Fo
    refine xW (Fo) ?_
    rintro _ _ ⟨w',rfl,rfl⟩
    have inv:Inv vD [bl x.put,bl x.drop,.ow w'] ⟨x.put,x.drop,w',vU x.marks m⟩:=⟨rfl⟩
    (repeat'(first|(show CA _ _ (Code.region 7 _ _) _ _;apply z_.out)|apply Sp.h|refine Lk.r rfl ?_|refine Rf.mk rfl ?_|refine yu.r rfl ?_|refine xU ?_|refine xT ?_|refine xJ ?_|refine xV ?_|(apply Up.inv;{exact z1};{exact zh})|fail));any_goals apply z_.mk
    apply CA.yR (v:=w') (m:=vU x.marks m) (g:=qX)
    focus(repeat constructor)
    focus exact(lZ _).symm
    repeat'(first|apply Sp.h|refine Lk.r rfl ?_|refine Rf.mk rfl ?_|refine xN ?_|fail)
    exact⟨_,_,.one (.same (.z)),w',rfl,rfl⟩
abbrev GH (v:Value) (i:Nat) (L:List uM) (p d:Bool) (l:List yC) (own:List yh):Prop:=∃w',own= [yb v 231 3 (L.set i ⟨p,d,w',l⟩) vD,yb w' 233 4 l qX]
noncomputable def vl(yj:List Int)(l:List yC):List yC:=l.filter λx=> !decide (x9 yj x.rep x.num)
theorem Wk(kp:AV)(e:yo)(m x:yC):y6 Tryz.prog 273 [mA x,.ad (Oq kp e m) 0] (bl (decide (x9 e.yj x.rep x.num))):=by
 refine zy.of pg Jw Tryz.func273 rfl Tryz.ntmps273 Tryz.results273 rfl λh0 G0 O0=>?_
 repeat'(first|apply Sp.h|refine Lk.r rfl ?_|refine Rf.mk rfl ?_|refine yu.r rfl ?_|refine yc.mk λ_=>?_|refine xT ?_|refine Ch.l ⟨rfl,rfl⟩ ?_|refine xN ?_|refine xD ?_|(apply Cl.p (iR _);focus repeat' constructor)|(apply Cl.p (kZ _ _ _);focus repeat' constructor))
 exact Fin.p rfl rfl
theorem je(v:Value)(i:Nat)(e:yo)(m:yC)(L:List uM)(x:uM)(hx:L[i]?=some x)(hl:x.marks.length<=1024) :
  zy Tryz.prog 251 [.agg (Oq (.oe v 3 i 0) e m)] [yb v 231 3 L vD,tj x] λ_ own=>GH v i L x.put x.drop (vl e.yj x.marks) own:=by
 have AY:=Wo (Wk (.oe v 3 i 0) e m) rfl x.w x.marks z6
 refine zy.of pg JA Tryz.func251 rfl Tryz.ntmps251 Tryz.results251 rfl λh0 G0 O0=>?_
 (repeat'(first|(show CA _ _ (Code.region 1 _ _) _ _;apply z_.out)|apply Sp.h|refine Lk.r rfl ?_|refine Rf.mk rfl ?_|apply yc.mk|intro _));any_goals apply z_.mk
 apply CA.xt 1
 focus rfl
 focus(repeat constructor)
 repeat'(first|apply Sp.h|refine Lk.r rfl ?_|refine Rf.mk rfl ?_|refine yu.r rfl ?_|refine xU ?_|refine xJ ?_|refine xD ?_|exact trivial|apply vn.both|fail)
 all_goals
  refine xW (AY) ?_
  rintro _ _ ⟨w',rfl,rfl⟩
  have inv:Inv vD [bl x.put,bl x.drop,.ow w'] ⟨x.put,x.drop,w',vl e.yj x.marks⟩:=⟨rfl⟩
  repeat'(first|apply Sp.h|refine Lk.r rfl ?_|refine Rf.mk rfl ?_|refine yu.r rfl ?_|refine xU ?_|refine xJ ?_|refine xV ?_|refine xN ?_|(apply Up.inv;{exact z1};{exact zh})|fail)
  exact⟨_,_,.yE (.z),w',rfl⟩
theorem IF(v:Value)(i:Nat)(e:yo)(m:yC)(L:List uM)(x:uM)(hx:L[i]?=some x)(hl:x.marks.length<=1024) :
  zy Tryz.prog 208 [.agg (Oq (.oe v 3 i 0) e m)] [yb v 231 3 L vD,tj x] λq own=>q=it 0/\GH v i L false x.drop (vl e.yj x.marks) own:=by
 have hi:=(zS.1 hx).1
 have inv:Inv vD [bl false,bl x.drop,.ow x.w] ⟨false,x.drop,x.w,x.marks⟩:=⟨rfl⟩
 have hf:=je v i e m (L.set i ⟨false,x.drop,x.w,x.marks⟩) ⟨false,x.drop,x.w,x.marks⟩ (by rw [List.getElem?_set,if_pos rfl,if_pos hi]) hl
 refine zy.of pg ye Tryz.func208 rfl Tryz.ntmps208 Tryz.results208 rfl λh0 G0 O0=>?_
 repeat'(first|apply Sp.h|refine Lk.r rfl ?_|refine Rf.mk rfl ?_|apply yc.mk|refine xU ?_|refine xT ?_|refine xJ ?_|refine Ch.l ⟨rfl,rfl⟩ ?_|refine xV ?_|(apply Up.inv;{exact z1};{exact zh})|intro _)
 refine xW (hf) ?_
 rintro _ _ ⟨w',rfl⟩
 rw [List.set_set]
 repeat'(first|apply Sp.h|refine Lk.r rfl ?_|refine Rf.mk rfl ?_|refine xN ?_|fail)
 exact⟨_,_,.one (.same (.z)),rfl,w',rfl⟩
theorem En(v:Value)(i:Nat)(e:yo)(m:yC)(L:List uM)(x:uM)(hx:L[i]?=some x)(hl:x.marks.length<=1024) :
  zy Tryz.prog 209 [.agg (Oq (.oe v 3 i 0) e m)] [yb v 231 3 L vD,tj x] λq own=>q=it 0/\GH v i L true false (vl e.yj x.marks) own:=by
 have hi:=(zS.1 hx).1
 have inv:Inv vD [bl true,bl x.drop,.ow x.w] ⟨true,x.drop,x.w,x.marks⟩:=⟨rfl⟩
 have inv2:Inv vD [bl true,bl false,.ow x.w] ⟨true,false,x.w,x.marks⟩:=⟨rfl⟩
 have z4g:Inv vD [bl x.put,bl false,.ow x.w] ⟨x.put,false,x.w,x.marks⟩:=⟨rfl⟩
 have hf:=je v i e m (L.set i ⟨true,false,x.w,x.marks⟩) ⟨true,false,x.w,x.marks⟩ (by rw [List.getElem?_set,if_pos rfl,if_pos hi]) hl
 have lx:∀y:uM,(L.set i y)[i]?=some y:=λy=>by rw [List.getElem?_set,if_pos rfl,if_pos hi]
 have h1:=lx ⟨true,x.drop,x.w,x.marks⟩
 have h3:=lx ⟨x.put,false,x.w,x.marks⟩
 refine zy.of pg JK Tryz.func209 rfl Tryz.ntmps209 Tryz.results209 rfl λh0 G0 O0=>?_
 repeat'(first|apply Sp.h|refine Lk.r rfl ?_|refine Rf.mk rfl ?_|refine yu.r rfl ?_|apply yc.mk|refine xU ?_|refine xT ?_|refine xJ ?_|refine Ch.l ⟨rfl,rfl⟩ ?_|refine xV ?_|(apply Up.inv;{exact z1};{exact zh})|refine xD ?_|exact trivial|apply vn.both|intro _)
 all_goals rw [List.set_set]
 all_goals
  refine xW (hf) ?_
  rintro _ _ ⟨w',rfl⟩
  rw [List.set_set]
  repeat'(first|apply Sp.h|refine Lk.r rfl ?_|refine Rf.mk rfl ?_|refine xN ?_|fail)
  exact⟨_,_,.one (.same (.z)),rfl,w',rfl⟩
theorem QJ(v:Value)(i:Nat)(e:yo)(m:yC)(L:List uM)(x:uM)(hx:L[i]?=some x)(hl:x.marks.length<=1024)(hm:ZR (vl e.yj x.marks) m) :
  zy Tryz.prog 211 [.agg (Oq (.oe v 3 i 0) e m)] [yb v 231 3 L vD,tj x] λq own=>q=it (xo (vl e.yj x.marks) m).1/\GH v i L x.put x.drop (xo (vl e.yj x.marks) m).2 own:=by
 have hi:=(zS.1 hx).1
 have hf:=je v i e m L x hx hl
 have hle:(vl e.yj x.marks).length<=1024:=Nat.le_trans (List.length_filter_le _ _) hl
 refine zy.of pg ye Tryz.func211 rfl Tryz.ntmps211 Tryz.results211 rfl λh0 G0 O0=>?_
 repeat'(first|apply Sp.h|refine Lk.r rfl ?_|refine Rf.mk rfl ?_|apply yc.mk|refine xT ?_|refine Ch.l ⟨rfl,rfl⟩ ?_|intro _)
 refine xW (hf) ?_
 rintro _ _ ⟨w',rfl⟩
 have ha:=ZP v i e m (L.set i ⟨x.put,x.drop,w',vl e.yj x.marks⟩) ⟨x.put,x.drop,w',vl e.yj x.marks⟩ (by rw [List.getElem?_set,if_pos rfl,if_pos hi]) hm hle
 repeat'(first|apply Sp.h|refine Lk.r rfl ?_|refine Rf.mk rfl ?_|refine xT ?_|refine Ch.l ⟨rfl,rfl⟩ ?_|fail)
 refine xW (ha) ?_
 rintro _ _ ⟨w2,rfl,rfl⟩
 rw [List.set_set]
 repeat'(first|apply Sp.h|refine Lk.r rfl ?_|refine xN ?_|fail)
 exact⟨_,_,.one (.same (.z)),rfl,w2,rfl⟩
abbrev HC (g:FuncId):AV:= .fn g []
def vH:List (List Int×FuncId):= [([2,0],207),([2,1],208),([3,0],209),([3,1],207),([4,2],210),([5,2],211)]
def Ji(i:Nat):List Int×FuncId:=(vH[i / 2 - 1]?).getD ([],0)
def fD:Ord:= .one 1 (.one 3 (.one 5 (.one 7 (.one 9 (.one 11 (.one 0 (qD (.one 13 (.one 14 .done)) 6 [2,4,6,8,10,12])))))))
def Jh:Nat->Ord×(Nat->xa):=λid=>bif Nat.beq id 1 then(fD,Xj [.ext,.pure,.uJ,.pure,.uJ,.pure,.uJ,.pure,.uJ,.pure,.uJ,.pure,.uJ,.pure,.pure]) else(.done,Xj [])
theorem Qf:zy Tryz.prog 162 [] [] λr own=>∃b kvs,r= .val (.map (some b))/\own= [vg Tryz.prog b 227 kvs HC]/\∀key,yG kvs key=yG vH key:=by
 refine zy.of pg Jh Tryz.func162 rfl Tryz.ntmps162 Tryz.results162 rfl λh0 G0 O0=>?_
 (repeat'(first|(show CA _ _ (Code.region 1 _ _) _ _;apply z_.out)|apply Sp.h|refine Lk.r rfl ?_|refine Rf.mk rfl ?_|fail));any_goals apply z_.mk
 apply CA.draw (t:=fD)
 focus rfl
 focus kernel_rfl
 focus
  show(dg _ && wX _ _ fD 15 _ _)=true
  rw [Bool.and_eq_true]
  refine⟨by kernel_rfl, ?_⟩
  refine rR (fuel:=14) z7 (rR (fuel:=13) z7 (rR (fuel:=12) z7 (rR (fuel:=11) z7 (rR (fuel:=10) z7 (rR (fuel:=9) z7 (rR (fuel:=8) z7 ?_))))))
  exact T_ (fuel:=2) (ps0:= [2,4,6,8,10,12]) zf z7
 focus exact ON.refl _
 focus rfl
 unfold fD
 repeat'(first|apply Sp.h|refine Lk.r rfl ?_|refine Rf.mk rfl ?_|refine yu.r rfl ?_|(apply Fk.r;focus repeat' first|infer_instance|constructor)|fail)
 refine X2.r HC ?_
 repeat'(first|apply yc.mk|intro _)
 apply vn.fill Ji [2,4,6,8,10,12]
 ·decide
 ·intro i hi kvs r h
  simp only [List.mem_cons,List.not_mem_nil,or_false] at hi
  rcases hi with rfl|rfl|rfl|rfl|rfl|rfl
  all_goals repeat'(first|apply Sp.h|refine Lk.r rfl ?_|refine Rf.mk rfl ?_|refine yu.r rfl ?_|refine xK ?_|(apply Kf.mk;{exact z7})|refine xM ?_|refine eo.r rfl ?_|fail)
  all_goals exact h
 ·intro kvs hp
  have ez:∀key,yG kvs key=yG vH key:=λkey=>aT hp zf key
  repeat'(first|apply Sp.h|refine Lk.r rfl ?_|refine yu.r rfl ?_|refine xN ?_|fail)
  exact⟨_,_,.one (.same (.z)),_,kvs,rfl,rfl,ez⟩
def eP(a b:yC):Int:=W_ [r4 a.time b.time,r4 a.rep b.rep]
noncomputable def wN(l:List yC)(m:yC):Int×List yC:=match l with
 | []=>xo [] m
 | x :: r=>(0,if eP x m < 0 then m :: r else x :: r)
theorem Io(v:Value)(i:Nat)(e:yo)(m:yC)(L:List uM)(x:uM)(hx:L[i]?=some x)(hl:x.marks.length<=1024) :
  zy Tryz.prog 210 [.agg (Oq (.oe v 3 i 0) e m)] [yb v 231 3 L vD,tj x] λq own=>q=it (wN x.marks m).1/\GH v i L x.put x.drop (wN x.marks m).2 own:=by
 have hi:=(zS.1 hx).1
 have wO:L.set i ⟨x.put,x.drop,x.w,x.marks⟩=L:=by
  apply List.ext_getElem?
  intro j
  rw [List.getElem?_set]
  split
  ·rename_i hj;subst hj;first|rw [if_pos hi,hx] | rw [hx]
  ·rfl
 obtain⟨p,d,w,l⟩:=x
 simp only at hl wO
 match l,hl,hx,wO with
 | [],hl,hx,wO =>
  have ha:=ZP v i e m L ⟨p,d,w,[]⟩ hx (λi j a b _ h=>by simp at h) hl
  refine zy.of pg ak Tryz.func210 rfl Tryz.ntmps210 Tryz.results210 rfl λh0 G0 O0=>?_
  repeat'(first|apply Sp.h|refine Lk.r rfl ?_|refine Rf.mk rfl ?_|refine xA ?_|apply yc.mk|refine xU ?_|refine xT ?_|refine xJ ?_|refine Ch.l ⟨rfl,rfl⟩ ?_|intro _)
  refine xW (ha) ?_
  rintro _ _ ⟨w2,rfl,rfl⟩
  repeat'(first|apply Sp.h|refine Lk.r rfl ?_|refine xN ?_|fail)
  exact⟨_,_,.one (.same (.z)),rfl,w2,rfl⟩
 | y :: r,hl,hx,wO =>
  have h0:(y :: r)[0]?=some y:=rfl
  have vB:¬((({ put:=p,drop:=d,w:=w,marks:=y :: r }:uM).marks.length:Int)=0):=by simp only [List.length_cons];omega
  have ho:=Mb [r4 y.time m.time,r4 y.rep m.rep]
  by_cases hc:eP y m < 0
  ·have hF:wN (y :: r) m=(0,m :: r):=by simp [wN,hc]
   have tE:W_ [r4 y.time m.time,r4 y.rep m.rep] < 0:=hc
   rw [hF]
   refine zy.of pg ak Tryz.func210 rfl Tryz.ntmps210 Tryz.results210 rfl λh0 G0 O0=>?_
   repeat'(first|apply Sp.h|refine Lk.r rfl ?_|refine Rf.mk rfl ?_|refine xB ?_|refine yu.r rfl ?_|refine yc.mk λ_=>?_|refine xU ?_|refine xT ?_|refine xI ?_|refine xJ ?_|refine Ch.l ⟨rfl,rfl⟩ ?_|(apply y4.r;focus repeat' constructor)|(apply Fk.r;focus repeat' first|infer_instance|constructor)|refine xN ?_|refine Rf.mk ⟨rfl,rfl,rfl⟩ ?_|refine xD ?_|(apply Cl.p (oy _ _);focus repeat' constructor))
   (apply Cl.yY (ho);(focus repeat'(first|exact y3.nil|(apply y3.yX;{exact z1};{exact zu};{exact za})|fail)))
   (repeat'(first|(show CA _ _ (Code.region 6 _ _) _ _;apply z_.out)|apply Sp.h|refine Lk.r rfl ?_|refine Rf.mk rfl ?_|refine xA ?_|refine yu.r rfl ?_|refine xU ?_|refine xT ?_|refine xI ?_|refine xJ ?_|refine Ch.r ?_|(apply y4.r;focus repeat' constructor)|refine Up.r rfl ?_|refine xD ?_|fail));any_goals apply z_.mk
   have AF:(L.set i ⟨p,d,w,m :: r⟩).map vD=L.map vD:=by
    rw [List.map_set]
    show(L.map vD).set i (vD ⟨p,d,w,y :: r⟩)=L.map vD
    rw [<-List.map_set,wO]
   apply CA.yR (v:=v) (m:=L.set i ⟨p,d,w,m :: r⟩) (g:=vD)
   focus(repeat constructor)
   focus exact AF
   repeat'(first|apply Sp.h|refine Lk.r rfl ?_|refine Rf.mk rfl ?_|refine xN ?_|fail)
   exact⟨_,_,.one (.same (.z)),rfl,w,rfl⟩
  ·have hF:wN (y :: r) m=(0,y :: r):=by simp [wN,hc]
   have tE:¬W_ [r4 y.time m.time,r4 y.rep m.rep] < 0:=hc
   rw [hF]
   refine zy.of pg ak Tryz.func210 rfl Tryz.ntmps210 Tryz.results210 rfl λh0 G0 O0=>?_
   repeat'(first|apply Sp.h|refine Lk.r rfl ?_|refine Rf.mk rfl ?_|refine xB ?_|refine yu.r rfl ?_|refine yc.mk λ_=>?_|refine xU ?_|refine xT ?_|refine xI ?_|refine xJ ?_|refine Ch.l ⟨rfl,rfl⟩ ?_|(apply y4.r;focus repeat' constructor)|(apply Fk.r;focus repeat' first|infer_instance|constructor)|refine xN ?_|refine Rf.mk ⟨rfl,rfl,rfl⟩ ?_|refine xD ?_|(apply Cl.p (oy _ _);focus repeat' constructor))
   (apply Cl.yY (ho);(focus repeat'(first|exact y3.nil|(apply y3.yX;{exact z1};{exact zu};{exact za})|fail)))
   repeat'(first|apply Sp.h|refine Lk.r rfl ?_|refine Rf.mk rfl ?_|refine xB ?_|refine yu.r rfl ?_|refine xN ?_|fail)
   all_goals exact⟨_,_,.one (.same (.z)),rfl,w,congrArg (λz=> [yb v 231 3 z vD,yb w 233 4 (y :: r) qX]) (wO).symm⟩
def rE(m:y8)(n:Int)(e:yo):Prop:=we e/\(e.yj.length:Int)=n/\(e.kind=0->e.action < (m.yP.length:Nat))
noncomputable instance (m:y8) (n:Int) (e:yo):Decidable (rE m n e):=zC _
theorem cf(m:y8)(n:Int)(e:yo):y6 Tryz.prog 155 [wH m,it n,uL e] (bl (decide (rE m n e))):=by
 have hf:=TB e
 refine zy.of pg ye Tryz.func155 rfl Tryz.ntmps155 Tryz.results155 rfl λh0 G0 O0=>?_
 repeat'(first|apply Sp.h|refine Lk.r rfl ?_|refine Rf.mk rfl ?_|refine xA ?_|refine xB ?_|(refine Bd.mk ?_ ?_ <;> intro _)|refine Im.mk λ_=>?_|refine yc.mk λ_=>?_|refine xT ?_|refine Ch.l ⟨rfl,rfl⟩ ?_|refine xN ?_|(apply Cl.p (hf);focus repeat' constructor))
 all_goals refine Fin.p rfl (vb ?_)
 all_goals first
  | exact(zF (λh=>by
    obtain⟨h1,h2,h3⟩:=h
    first
     | exact absurd h1 z8
     | omega)).symm
  | exact(zT ⟨by assumption,z6,z6⟩).symm
  | exact zD.2 ⟨λh=>⟨by assumption,z6,z6⟩,λh=>by
    obtain⟨h1,h2,h3⟩:=h
    omega⟩
  | skip
abbrev qh:=Int×Int×Int
def uR(us:List qh)(c:Int):Option qh:=us.reverse.find? λu=>decide (u.2.1=c)
def j_(us:List qh):List (List Int×qh):=us.foldl (λkvs u=>td kvs [u.2.1] u) []
theorem Xx(us:List qh)(c:Int):yG (j_ us) [c]=uR us c:=by
 have key:∀us:List qh,yG (j_ us.reverse) [c]=uR us.reverse c:=by
  intro us
  induction us with
  | nil=>rfl
  | cons u us ih =>
   rw [List.reverse_cons,j_,List.foldl_append,uR,List.reverse_append]
   simp only [List.foldl_cons,List.foldl_nil,List.reverse_cons,List.reverse_nil,List.nil_append,List.cons_append,List.find?_cons]
   rw [tX]
   by_cases h:u.2.1=c
   ·simp [h]
   ·have h2:¬ [c]= [u.2.1]:=by simpa using λh9:c=u.2.1=>h h9.symm
    rw [if_neg h2]
    simp only [h,decide_false]
    exact ih
 have:=key us.reverse
 rwa [List.reverse_reverse] at this
theorem cG(a b:Int):yG vH [a,b]=none∨(a=2/\b=0/\yG vH [a,b]=some 207)∨(a=2/\b=1/\yG vH [a,b]=some 208)∨(a=3/\b=0/\yG vH [a,b]=some 209)
  ∨(a=3/\b=1/\yG vH [a,b]=some 207)∨(a=4/\b=2/\yG vH [a,b]=some 210)∨(a=5/\b=2/\yG vH [a,b]=some 211):=by
 cases h:yG vH [a,b] with
 | none=>exact .inl rfl
 | some g =>
  refine .inr ?_
  have hm:=List.mem_of_find?_eq_some (p:=λp:List Int×FuncId=>decide (p.1= [a,b])) (l:=vH) (a:=([a,b],g)) (by
   unfold yG at h
   cases h9:vH.find? (λp=>decide (p.1= [a,b])) with
   | none=>rw [h9] at h;cases h
   | some q =>
    rw [h9] at h
    have h1:q.1= [a,b]:=by simpa using List.find?_some h9
    have h2:q.2=g:=by simpa using h
    rw [<-h1,<-h2])
  simp only [vH,List.mem_cons,Prod.mk.injEq,List.cons.injEq,List.not_mem_nil,or_false,and_true] at hm
  rcases hm with⟨⟨h1,h2⟩,h3⟩|⟨⟨h1,h2⟩,h3⟩|⟨⟨h1,h2⟩,h3⟩|⟨⟨h1,h2⟩,h3⟩|⟨⟨h1,h2⟩,h3⟩|⟨⟨h1,h2⟩,h3⟩ <;> subst h1 <;> subst h2 <;> subst h3 <;> simp
theorem wC.trans{a b c:yC}(h1:wC a b)(h2:wC b c):wC a c:=by unfold wC at *;omega
theorem wC.Yu{a b:yC}(c:yC)(h:wC a b):wC a c∨wC c b:=by unfold wC at *;omega
def kP(l:List yC):Prop:=l.Pairwise λa b=>¬wC b a
theorem kP.mono{l:List yC}(h:kP l)(m:yC):ZR l m:=by
 intro i j a b u5 ha hb xC
 rcases Nat.lt_or_ge i j with h1|h1
 ·have hi:=(zS.1 ha)
  have hj:=(zS.1 hb)
  have:=List.pairwise_iff_getElem.1 h i j hi.1 hj.1 h1
  rw [hi.2,hj.2] at this
  rcases xC.Yu a with h2|h2
  ·exact absurd h2 this
  ·exact h2
 ·have:i=j:=z6
  subst this
  rw [ha] at hb;cases hb;exact xC
theorem J8{l:List yC}(h:∀(i:Nat) (x y:yC),l[i]?=some x->l[i+1]?=some y->¬wC y x):kP l:=by
 induction l with
 | nil=>exact List.Pairwise.nil
 | cons a l ih =>
  have hl:kP l:=ih λi x y hx hy=>h (i+1) x y hx hy
  refine List.pairwise_cons.2 ⟨λb hb=>?_,hl⟩
  match l,hl,h with
  | [],_,_=>cases hb
  | c :: l,hl,h =>
   have h0:=h 0 a c rfl rfl
   rcases List.mem_cons.1 hb with rfl|hb
   ·exact h0
   ·have h1:=(List.pairwise_cons.1 hl).1 b hb
    intro h2
    rcases h2.Yu c with h3|h3
    ·exact h1 h3
    ·exact h0 h3
theorem sx.WY{t:ym}{g:xp}(h:sx t g):kP g.marks:=by
 refine J8 λi x y hx hy=>?_
 have hi:=(zS.1 hy).1
 exact(h.2 (i+1) y hi hy).2.2 x z6 (by simpa using hx)
theorem kP.filter{l:List yC}(h:kP l)(p:yC->Bool):kP (l.filter p):=List.Pairwise.filter p h
noncomputable def yQ(e:yo)(t:ym)(u:Option qh)(g:xp):Int×xp:=match u with
 | none=>(0,g)
 | some u =>
  let m:yC:=⟨e.rep,e.num,e.time,if x8 t.kind then u.2.2 else 0⟩
  if t.kind=2/\u.1=0∨t.kind=3/\u.1=1 then((xo g.marks m).1,⟨g.put,g.drop,(xo g.marks m).2⟩)
  else if t.kind=2/\u.1=1 then(0,⟨false,g.drop,vl e.yj g.marks⟩)
  else if t.kind=3/\u.1=0 then(0,⟨true,false,vl e.yj g.marks⟩)
  else if t.kind=4/\u.1=2 then((wN g.marks m).1,⟨g.put,g.drop,(wN g.marks m).2⟩)
  else if t.kind=5/\u.1=2 then((xo (vl e.yj g.marks) m).1,⟨g.put,g.drop,(xo (vl e.yj g.marks) m).2⟩)
  else(0,g)
end Go.Proofs.YtmjllbjfkafhdaaGreatDoor
