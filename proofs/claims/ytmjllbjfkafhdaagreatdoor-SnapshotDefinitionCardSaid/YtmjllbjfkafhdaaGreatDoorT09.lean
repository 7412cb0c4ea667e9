/- Part 9 of the ground of this proof: what its texts say of the model, the program and the plain data; conditions: those that are named. -/
import Derived.Lib.AppendZeros
import Derived.Laws.Externs
import Derived.Maps.RangeRun
import Derived.MapKept
import Derived.Lib.Bytealg
import Derived.Test.YtmjllbjfkafhdaaGreatDoorT08
namespace Go.CF
open Go
section
variable {Γ:Cx} {k:List KI} {e:EA} {o:List yh} {N:NA} {c:xa} {d:Tmp} {ty:TypeId} {x y z:Operand} {t u:TypeId} {kk:IntKind} {i:Int}
structure nX (o:List yh) (v:Value) (A:Prop) (X:TypeId->Nat->List (List Value)->Nat->List yh->Prop):Prop where
 ok:A∨∃T sz L m rest,Take o (sS v T sz L m) rest/\X T sz L m rest
theorem nX.all{α:Type}{o rest:List yh}{v:Value}{A:Prop}{X:TypeId->Nat->List (List Value)->Nat->List yh->Prop}{T:TypeId}{sz:Nat}{l:List α}{f:α->List AV}(_:Take o (yb v T sz l f) rest)(h:A):nX o v A X:=⟨.inl h⟩
theorem nX.part{o rest:List yh}{v:Value}{A:Prop}{X:TypeId->Nat->List (List Value)->Nat->List yh->Prop}{T:TypeId}{sz m:Nat}{L:List (List Value)}(tk:Take o (sS v T sz L m) rest)(h:X T sz L m rest):nX o v A X:=⟨.inr ⟨T,sz,L,m,rest,tk,h⟩⟩
structure BP (Γ:Cx) (c:xa) (d:Tmp) (t u:TypeId) (x y:Operand) (ty:TypeId) (e:EA) (o:List yh) (N:NA) (v:Value) (s j m:Nat) (b:AV):Prop where
 h:Lk (nN Γ.tt t) λp=>Src o b p.2.size λq g=>gU o v λT sz l f rest=>Rf (T=p.1/\sz=p.2.size/\s=sz) (Mp q g f λq' =>
  N ((d,.val (.int .i64 (min q'.length m:Nat))) :: e) (yb v T sz (l.take j ++ q'.take (min q'.length m) ++ l.drop (j+min q'.length m)) f :: rest))
instance {v:Value} {s j m:Nat} {b:AV}:Sp (BP Γ c d t u x y ty e o N v s j m b) (Lk (nN Γ.tt t) λp=>Src o b p.2.size λq g=>gU o v λT sz l f rest=>Rf (T=p.1/\sz=p.2.size/\s=sz) (Mp q g f λq' =>
  N ((d,.val (.int .i64 (min q'.length m:Nat))) :: e) (yb v T sz (l.take j ++ q'.take (min q'.length m) ++ l.drop (j+min q'.length m)) f :: rest))):=⟨λh=>⟨h⟩⟩
instance (priority:=1100) {v:Value} {s j m s' j' m':Nat}:Sp (GG Γ c d t u x y ty e o N (.os v s j m) (.os v s' j' m')) (nX o v (BP Γ c d t u x y ty e o N v s j m (.os v s' j' m')) λT sz L M rest=>Lk (nN Γ.tt t) λp=>Rf (T=p.1/\sz=p.2.size/\s=sz) (Rf (s'=sz)
  (Om (j'+min m' m<=L.length/\j<=L.length/\j+min m' m=M) (N ((d,.val (.int .i64 (min m' m:Nat))) :: e) (yb v T sz (L.take j ++ (L.drop j').take (min m' m)) wP :: rest))))):=⟨λ⟨Ga⟩=>by
 rcases Ga with hA|⟨T,sz,L,M,rest,tk,p,hp,⟨hT,hz,hs⟩,px,⟨nQ,tE,bI⟩,hn⟩
 ·exact Sp.h hA.h
 ·subst hs;subst hT;subst hz;subst px
  refine⟨λha hb hc=>⟨λenv hh G Os cn=>?_⟩⟩
  obtain⟨w,g1,p0,len,cap,rfl,SF,rfl⟩:=cn.get ha
  obtain⟨w2,g2,p1,z4f,z0l,e2,z4n,rfl⟩:=cn.get hb
  cases e2
  obtain⟨ti,t1,t2,t3⟩:=xg hp
  obtain⟨O,yz,yT⟩:=cn.take tk
  obtain⟨⟨ho,hv,Cj,ss,hw⟩,xq⟩:=yT.hp.own
  rcases hw.ok with⟨e1,e2⟩|⟨b,of,wR,l,e1,oN,h1,h2,h3⟩
  ·cases e1
   have hL0:L.length=0:=z6
   have V7:min m' m=0:=z6
   refine .th hc (rp Γ.ok t1 t2 t3 g1 g2 (m:=m') (news:= []) ⟨.inl ⟨_,_,by rw [show m'=0 by omega],z6,rfl⟩⟩ V7 ?_)
   have hLn:L= []:=zQ hL0
   subst hLn
   rw [V7,List.take_nil,List.drop_nil,List.take_nil,List.append_nil] at hn
   have hM:M=0:=z6
   subst hM
   have c3:vM Γ ⟨e,yb (.slice none 0 0) p.1 p.2.size [] wP :: rest⟩ env hh G (O :: yz):=⟨yT.hp.perm ⟨⟨ho,[],by simpa using(Own.nil:Own hh _ p.1 p.2.size 0 []),Rows.nil⟩,xq⟩ (List.Perm.refl _),yT.env,yT.nf⟩
   exact CN.mk (c3.put d (a:= .val (.int .i64 (0:Nat))) rfl) hn
  ·cases e1
   have qz:=hv.pE
   have hlen:=hw.v_
   have hMs:L.length * p.2.size<=M * p.2.size:=zU _ Cj
   have hMc:M * p.2.size<=cap * p.2.size:=zU _ h2
   by_cases h0:min m' m=0
   ·have hjM:j=M:=z6
    have hLe:L.length=M:=z6
    have WO:∃news,Sl hh (.slice (vd (some ⟨b,of,none⟩) p.2.size j' cap) m' (cap - j')) m' news:=by
     rcases Nat.eq_zero_or_pos m' with hz|hz
     ·exact⟨[],⟨.inl ⟨_,_,by rw [hz],hz,rfl⟩⟩⟩
     ·refine⟨(l.drop (of+j' * p.2.size)).take (m' * p.2.size),⟨.inr ⟨b,of+j' * p.2.size,cap - j', ?_,hz,z6,oN.lt,oN.Vu _ _⟩⟩⟩
      unfold vd;rw [if_neg z6];simp [yZ]
    obtain⟨news,qZ⟩:=WO
    refine .th hc (rp Γ.ok t1 t2 t3 g1 g2 qZ h0 ?_)
    rw [h0,List.take_zero,List.append_nil,List.take_of_length_le z6] at hn
    have MP:ss= []:=zQ (by rw [zP] at hlen;rw [hLe] at qz;omega)
    subst MP
    have c3:vM Γ ⟨e,yb (.slice (some ⟨b,of,none⟩) M cap) p.1 p.2.size L wP :: rest⟩ env hh G (O :: yz):=⟨yT.hp.perm ⟨⟨ho,L,by rw [hLe];simpa using hw,hv.rows hh G⟩,xq⟩ (List.Perm.refl _),yT.env,yT.nf⟩
    exact CN.mk (c3.put d (a:= .val (.int .i64 (0:Nat))) rfl) hn
   ·have qm:∀q,q < cap->vd (some ⟨b,of,none⟩) p.2.size q cap=some ⟨b,of+q * p.2.size,none⟩:=λq hq=>by
     unfold vd;rw [if_neg z6];simp [yZ]
    rw [qm j z6] at g1
    rw [qm j' z6] at g2
    have O7:j' * p.2.size+min m' m * p.2.size<=L.length * p.2.size:=by rw [<-Nat.add_mul];exact zU _ nQ
    have Ba:j * p.2.size+min m' m * p.2.size=M * p.2.size:=by rw [<-Nat.add_mul,bI]
    have z4l:min m' m * p.2.size<=m' * p.2.size:=zU _ z6
    -- what is read
    have Fi:((l.drop (of+j' * p.2.size)).take (m' * p.2.size)).take (min m' m * p.2.size)=(L.flatten.drop (j' * p.2.size)).take (min m' m * p.2.size):=by
     have e9:L.flatten=((l.drop of).take (M * p.2.size)).take (L.length * p.2.size):=by rw [h3,<-qz,List.take_left]
     rw [e9]
     simp only [List.take_take,List.drop_take,List.drop_drop]
     congr 1
     omega
    have z4m:of+j' * p.2.size+m' * p.2.size<=l.length:=by
     have:j' * p.2.size+m' * p.2.size<=M * p.2.size:=by rw [<-Nat.add_mul];exact zU _ z6
     omega
    have kG:Sl hh (.slice (some ⟨b,of+j' * p.2.size,none⟩) m' (cap - j')) m' ((l.drop (of+j' * p.2.size)).take (m' * p.2.size)):=⟨.inr ⟨b,of+j' * p.2.size,cap - j',rfl,z6,z6,oN.lt,oN.Vu _ _⟩⟩
    have hX1:((L.flatten.drop (j' * p.2.size)).take (min m' m * p.2.size)).length=min m' m * p.2.size:=by rw [zN,List.length_drop];omega
    have Vl:∀w∈L.flatten,w.oneCell'=true:=λw hw=>by
     obtain⟨r,hr,hw⟩:=List.mem_flatten.1 hw
     exact hv.one r hr w hw
    refine .th hc (k9 Γ.ok t1 t2 t3 g1 g2 oN kG (by rw [zN,List.length_drop];omega) (λw hw=>by rw [Fi] at hw;exact Vl w (List.mem_of_mem_drop (zW hw))) z6 λh' u4 hu=>?_)
    rw [Fi] at hu
    have WR:O b:=(ho b).2 (by simp [xz])
    have oO:=lW (j:=j) hw hX1 z6 hu h1 h2 h3
    have hLj:j * p.2.size<=L.length * p.2.size:=zU _ tE
    rw [List.take_append_of_le_length z6,List.drop_of_length_le (l:=L.flatten ++ ss) (by rw [hlen];omega),List.append_nil] at oO
    have hvn:s6 p.2.size (L.take j ++ (L.drop j').take (min m' m)):=⟨λr hr=>by
      rcases zV.1 hr with h|h
      ·exact hv.sz r (zW h)
      ·exact hv.sz r (List.mem_of_mem_drop (zW h)),λr hr=>by
      rcases zV.1 hr with h|h
      ·exact hv.one r (zW h)
      ·exact hv.one r (List.mem_of_mem_drop (zW h))⟩
    have Rw:(L.take j ++ (L.drop j').take (min m' m)).flatten=L.flatten.take (j * p.2.size) ++ (L.flatten.drop (j' * p.2.size)).take (min m' m * p.2.size):=by
     rw [List.flatten_append,xX L j hv.sz,xX _ _ (λr hr=>hv.sz r (List.mem_of_mem_drop hr)),pq L _ hv.sz]
    have gR:(L.take j ++ (L.drop j').take (min m' m)).length=M:=by simp;omega
    have c3:=nh (R':=yb (.slice (some ⟨b,of,none⟩) M cap) p.1 p.2.size (L.take j ++ (L.drop j').take (min m' m)) wP) yT hu WR (λ_=>⟨ho,_,by rw [gR,Rw];exact oO,hvn.rows h' G⟩)
    exact CN.mk (c3.put d (a:= .val _) rfl) hn⟩
end
end Go.CF
set_option maxRecDepth 100000
set_option maxHeartbeats 80000000
namespace Go.CF
open Go
section
variable {Γ:Cx} {k:List KI} {e:EA} {o:List yh} {N:NA} {c:xa} {d:Tmp} {ty:TypeId} {x y z:Operand} {t u:TypeId} {kk:IntKind} {i:Int}
structure Clr (Γ:Cx) (c:xa) (t:TypeId) (x:Operand) (ty:TypeId) (e:EA) (o:List yh) (N:NA) (a:AV):Prop where
 h:xr e x=some a->yN c=true->SA Γ c none (.call { callee:= .builtin .clear,args:=#[x],argTypes:=#[t] }) ty e o N
instance:Sp (SA Γ c none (.call { callee:= .builtin .clear,args:=#[x],argTypes:=#[t] }) ty e o N) (Rf (yN c=true) (Lk (xr e x) λa=>Clr Γ c t x ty e o N a)):=⟨λ⟨hc,_,ha,h⟩=>h.h ha hc⟩
instance {v:Value} {s j m:Nat}:Sp (Clr Γ c t x ty e o N (.os v s j m)) (Lk (nN Γ.tt t) λp=>ep o v λT sz L M rest=>Rf (T=p.1/\sz=p.2.size/\s=sz) (Rf (p.2.zero.cells.toList.all Value.oneCell'=true/\p.2.zero.cells.size=p.2.size) (Om (0 < m/\j<=L.length) (N e (sS v T sz (L.take j) M :: rest))))):=⟨λ⟨p,hp,T,sz,L,M,rest,tk,⟨hT,hz,hs⟩,⟨SX,V1⟩,⟨hm,O8⟩,hn⟩=>⟨λha hc=>⟨λenv hh G Os cn=>by
 subst hs;subst hT;subst hz
 obtain⟨w,g1,p0,len,cap,rfl,SF,rfl⟩:=cn.get ha
 obtain⟨ti,t1,t2,t3⟩:=xg hp
 obtain⟨O,yz,yT⟩:=cn.take tk
 obtain⟨⟨ho,hv,Cj,ss,hw⟩,xq⟩:=yT.hp.own
 rcases hw.ok with⟨e1,e2⟩|⟨b,of,wR,l,e1,oN,h1,h2,h3⟩
 ·cases e1;omega
 ·cases e1
  obtain⟨q,rfl⟩:∃q,m=q+1:=⟨m - 1,z6⟩
  have hMc:M * p.2.size<=cap * p.2.size:=zU _ h2
  have O7:j * p.2.size+(q+1) * p.2.size<=M * p.2.size:=by rw [<-Nat.add_mul];exact zU _ SF
  have qm:vd (some ⟨b,of,none⟩) p.2.size j cap=some ⟨b,of+j * p.2.size,none⟩:=by unfold vd;rw [if_neg z6];simp [yZ]
  rw [qm] at g1
  refine St.IL Γ.ok t1 t2 t3 (λu hu=>List.all_eq_true.1 SX u hu) V1 g1 oN z6 hc λh' l' hu u4 Gh wO=>?_
  have WR:O b:=(ho b).2 (by simp [xz])
  have qz:=hv.pE
  have z4t:j * p.2.size<=L.length * p.2.size:=zU _ O8
  have V5:s6 p.2.size (L.take j):=⟨λr hr=>hv.sz r (zW hr),λr hr=>hv.one r (zW hr)⟩
  have Fj:(l'.drop of).take (j * p.2.size)=(L.take j).flatten:=by
   rw [xX L j hv.sz]
   have e9:L.flatten.take (j * p.2.size)=(l.drop of).take (j * p.2.size):=by
    have e8:((l.drop of).take (M * p.2.size)).take (j * p.2.size)=(L.flatten ++ ss).take (j * p.2.size):=by rw [h3]
    rw [List.take_append_of_le_length z6,List.take_take,Nat.min_eq_left z6] at e8
    exact e8.symm
   rw [e9]
   apply List.ext_getElem?
   intro r
   simp only [List.getElem?_take,List.getElem?_drop]
   split
   ·exact wO _ z6
   ·rfl
  have c3:=nh (R':=sS (.slice (some ⟨b,of,none⟩) M cap) p.1 p.2.size (L.take j) M) yT hu WR (λ_=>⟨ho,V5,by rw [zN];omega,((l'.drop of).take (M * p.2.size)).drop (j * p.2.size),by rw [zP,<-Fj];simp only [zN,List.length_drop,Gh];omega,.inr ⟨b,of,cap,l',rfl,hu.rD,z6,h2,by
   rw [<-Fj]
   conv=>lhs;rw [<-List.take_append_drop (j * p.2.size) ((l'.drop of).take (M * p.2.size)),List.take_take,Nat.min_eq_left z6]⟩⟩)
  exact CN.mk c3 hn⟩⟩⟩
instance (priority:=1050) {v:Value} {s j m:Nat} {b:AV}:Sp (GG Γ c d t u x y ty e o N (.os v s j m) b) (nX o v (BP Γ c d t u x y ty e o N v s j m b) λT sz L M rest=>Lk (nN Γ.tt t) λp=>Rf (T=p.1/\sz=p.2.size/\s=sz) (Src o b p.2.size λq g=>Mp q g wP λq' =>
  Om (j<=L.length) (N ((d,.val (.int .i64 (min q'.length m:Nat))) :: e) (sS v T sz (L.take j ++ q'.take (min q'.length m)) M :: rest)))):=⟨λ⟨Ga⟩=>by
 rcases Ga with hA|⟨T,sz,L,M,rest,tk,p,hp,⟨hT,hz,hs⟩,β,q,g,⟨q',PX,tE,hn⟩,kG⟩
 ·exact Sp.h hA.h
 ·subst hs;subst hT;subst hz
  refine⟨λha hb hc=>⟨λenv hh G Os cn=>?_⟩⟩
  obtain⟨w,g1,p0,len,cap,rfl,SF,rfl⟩:=cn.get ha
  obtain⟨w2,g2,r2⟩:=cn.get hb
  obtain⟨wg,qZ,YK⟩:=kG cn.hp r2
  have gP:q'.length=q.length:=by have:=congrArg List.length PX;simpa using this
  have Xc:=YK.map PX
  have ee:=s6.of Xc
  have e9:=nz Xc
  subst e9
  obtain⟨ti,t1,t2,t3⟩:=xg hp
  obtain⟨O,yz,yT⟩:=cn.take tk
  obtain⟨⟨ho,hv,Cj,ss,hw⟩,xq⟩:=yT.hp.own
  have V5:s6 p.2.size (L.take j ++ wg.take (min wg.length m)):=⟨λr hr=>by
    rcases zV.1 hr with h|h
    ·exact hv.sz r (zW h)
    ·exact ee.sz r (zW h),λr hr=>by
    rcases zV.1 hr with h|h
    ·exact hv.one r (zW h)
    ·exact ee.one r (zW h)⟩
  have qz:=hv.pE
  have Vi:=ee.pE
  have hlen:=hw.v_
  have Rw:(L.take j ++ wg.take (min wg.length m)).flatten=L.flatten.take (j * p.2.size) ++ wg.flatten.take (min wg.length m * p.2.size):=by
   rw [List.flatten_append,xX L j hv.sz,xX _ _ ee.sz]
  have hLj:j * p.2.size<=L.length * p.2.size:=zU _ tE
  rcases hw.ok with⟨e1,e2⟩|⟨b,of,wR,l,e1,oN,h1,h2,h3⟩
  ·cases e1
   have h0:min wg.length m=0:=z6
   refine .th hc (rp Γ.ok t1 t2 t3 g1 g2 qZ (by rw [<-gP];exact h0) ?_)
   rw [h0,List.take_zero,List.append_nil] at hn
   rw [h0,List.take_zero,List.append_nil] at V5
   have c3:vM Γ ⟨e,sS (.slice none 0 0) p.1 p.2.size (L.take j) M :: rest⟩ env hh G (O :: yz):=⟨yT.hp.perm ⟨⟨ho,V5,by rw [zN];omega,L.flatten.drop (j * p.2.size) ++ ss,by rw [<-List.append_assoc,xX L j hv.sz,List.take_append_drop];exact hw⟩,xq⟩ (List.Perm.refl _),yT.env,yT.nf⟩
   exact CN.mk (c3.put d (a:= .val (.int .i64 (0:Nat))) rfl) hn
  ·cases e1
   by_cases h0:min wg.length m=0
   ·refine .th hc (rp Γ.ok t1 t2 t3 g1 g2 qZ (by rw [<-gP];exact h0) ?_)
    rw [h0,List.take_zero,List.append_nil] at hn
    rw [h0,List.take_zero,List.append_nil] at V5
    have c3:vM Γ ⟨e,sS (.slice (some ⟨b,of,none⟩) M cap) p.1 p.2.size (L.take j) M :: rest⟩ env hh G (O :: yz):=⟨yT.hp.perm ⟨⟨ho,V5,by rw [zN];omega,L.flatten.drop (j * p.2.size) ++ ss,by rw [<-List.append_assoc,xX L j hv.sz,List.take_append_drop];exact hw⟩,xq⟩ (List.Perm.refl _),yT.env,yT.nf⟩
    exact CN.mk (c3.put d (a:= .val (.int .i64 (0:Nat))) rfl) hn
   ·have qm:vd (some ⟨b,of,none⟩) p.2.size j cap=some ⟨b,of+j * p.2.size,none⟩:=by unfold vd;rw [if_neg z6];simp [yZ]
    rw [qm] at g1
    have hMc:M * p.2.size<=cap * p.2.size:=zU _ h2
    have O7:j * p.2.size+min wg.length m * p.2.size<=M * p.2.size:=by rw [<-Nat.add_mul];exact zU _ z6
    have Ln:min wg.length m * p.2.size<=wg.length * p.2.size:=zU _ z6
    have Vl:∀w∈wg.flatten,w.oneCell'=true:=λw hw=>by
     obtain⟨r,hr,hw⟩:=List.mem_flatten.1 hw
     exact ee.one r hr w hw
    refine .th hc (k9 Γ.ok t1 t2 t3 g1 g2 oN qZ (by rw [Vi,gP]) (λw hw=>Vl w (zW hw)) (by rw [<-gP];omega) λh' u4 hu=>?_)
    rw [<-gP] at hu ⊢
    have WR:O b:=(ho b).2 (by simp [xz])
    have hX:(wg.flatten.take (min wg.length m * p.2.size)).length=min wg.length m * p.2.size:=by rw [zN];omega
    have oO:=lW (j:=j) hw hX z6 hu h1 h2 h3
    rw [List.take_append_of_le_length z6,<-Rw] at oO
    have c3:=nh (R':=sS (.slice (some ⟨b,of,none⟩) M cap) p.1 p.2.size (L.take j ++ wg.take (min wg.length m)) M) yT hu WR (λ_=>⟨ho,V5,by rw [zP,zN,zN];omega,_,oO⟩)
    exact CN.mk (c3.put d (a:= .val _) rfl) hn⟩
theorem CA.ofX{y:Code}(q:Tmp){v:Value}{T sz m:Nat}{L:List (List Value)}{rest:List yh}(ht:xd e q=some (.ox v))(tk:Take o (sS v T sz L m) rest)(hl:L.length=m)(h:CA Γ k y ((q,.ow v) :: e) (yb v T sz L wP :: rest)):CA Γ k y e o:=by
 refine⟨λenv hh G Os cn=>?_⟩
 obtain⟨O,yz,yT⟩:=cn.take tk
 obtain⟨⟨ho,hv,Cj,ss,hw⟩,xq⟩:=yT.hp.own
 subst hl
 have hlen:=hw.v_
 have qz:=hv.pE
 have hj:ss= []:=zQ (by rw [zP] at hlen;omega)
 subst hj
 rw [List.append_nil] at hw
 have c3:vM Γ ⟨e,yb v T sz L wP :: rest⟩ env hh G (O :: yz):=⟨yT.hp.perm ⟨⟨ho,L,hw,hv.rows hh G⟩,xq⟩ (List.Perm.refl _),yT.env,yT.nf⟩
 exact h.h env hh G (O :: yz) (o7 (σ:=⟨e,yb v T sz L wP :: rest⟩) c3 q (λw gN=>by
  obtain⟨w',g1,g2⟩:=cn.env q _ ht
  rw [gN] at g1;cases g1;exact g2) ht)
/-! ### append of z2d, where a new row is z0A -/
theorem qw{P:Program}{w:World}(t tn ty e:TypeId)(i:TypeInfo)(z:Value)(k kn:IntKind)(ht:P.underlying t=some (.slice e))(htn:P.underlying tn=some (.int kn))(hi:P.info? e=some i)(hz:i.zero=some z)
  (b:Addr) (tA pW:Nat) (Rl:List Value) (YS:Rl.length=tA * i.size) (holds:∀j v,Rl[j]?=some v->w.cell? (b.add j)=some v) (n:Nat) (h0:0 < n) (hs:0 < i.size)
  (hg:pW < tA+n) (h63:((tA+n:Nat):Int)<=9223372036854775807) (h48:n * i.bytes<=281474976710656) (kH:Builtin.nextslicecap (tA+n) pW * i.bytes<=281474976710656) :
  (Builtin.append_ #[t,tn] ty #[.slice (some b) tA pW,.int k n]).run P w =
   .ok (.slice (some ⟨w.heap.size,0,none⟩) (tA+n) (grownCap w (tA+n) pW e))
    (w.drew.alloc (.cells (Rl.toArray ++ Builtin.zeroCells z.cells n ++ Builtin.zeroCells z.cells (grownCap w (tA+n) pW e - (tA+n))) e)):=by
 have hn:¬(tA+n<=pW):=z6
 have hw:IntKind.i64.wrap (n:Int)=n:=by rw [IntKind.wrap_i64];omega
 have z0a:¬(9223372036854775807 < ((tA:Int)+(n:Int))):=z6
 have z0c:¬(281474976710656 < Builtin.nextslicecap (tA+n) pW * i.bytes):=z6
 have z0b:¬(281474976710656 < (n:Int) * (i.bytes:Int)):=by
  rw [<-Int.natCast_mul];omega
 have AE:¬((n:Int) < 0):=z6
 have bE:¬(n * i.size=0):=Nat.mul_ne_zero z6 z6
 have hfo:=run_firstCells_some (P:=P) w.drew i.size tA b tA pW Rl YS (by simpa using holds)
 simp [Builtin.append_,run_underlying ht,run_underlying htn,sizeOf,typeInfo,zeroValue,hi,hz,asInt,asIntOf,hw,hn,AE,bE,z0a,z0c,z0b,Question.forced,hfo,newRow,grownCap]
end
section
variable {Γ:Cx} {k:List KI} {e:EA} {o:List yh} {N:NA} {c:xa} {d:Tmp} {ty:TypeId} {x y z:Operand} {t u:TypeId} {kk:IntKind} {i:Int}
structure Apz (Γ:Cx) (c:xa) (d:Tmp) (t u:TypeId) (x y:Operand) (ty:TypeId) (e:EA) (o:List yh) (N:NA) (a b:AV):Prop where
 h:xr e x=some a->xr e y=some b->yN c=true->SA Γ c (some d) (.call { callee:= .builtin .append,args:=#[x,y],argTypes:=#[t,u] }) ty e o N
instance (priority:=900):Sp (SA Γ c (some d) (.call { callee:= .builtin .append,args:=#[x,y],argTypes:=#[t,u] }) ty e o N) (Rf (yN c=true) (Lk (xr e x) λa=>Lk (xr e y) λb=>Apz Γ c d t u x y ty e o N a b)):=⟨λ⟨hc,_,ha,_,hb,h⟩=>h.h ha hb hc⟩
instance {v:Value} {s m:Nat}:Sp (Apz Γ c d t u x y ty e o N (.os v s 0 m) (.val (.int .i64 i))) (Lk (nN Γ.tt t) λp=>Lk (Γ.tt u) λui=>Rf (ui.kind= .int .i64) (Rf ((Nat.blt 0 p.2.size && Nat.ble p.2.bytes 1000)=true/\p.2.zero.cells.size=p.2.size) (gU o v λT sz l f _=>Rf (T=p.1/\sz=p.2.size/\s=sz) (Mp l f wP λL =>
  Jx i 100000000000 λn=>Om (0 < n/\eR v < m+n/\m<=l.length/\0 < l.length/\m+n<=100000000000) (yc λw:Value=>N ((d,.ox w) :: e) (sS w p.1 p.2.size (L.take m) (m+n) :: o)))))):=⟨λ⟨p,hp,ui,Sy,huk,⟨nP,bf⟩,α,T,sz,l,f,rest,tk,⟨hT,hz,hs⟩,L,hL,n,hi,_,⟨C5,oP,ly,eg,hmn⟩,hn⟩=>⟨λha hb hc=>⟨λenv hh G Os cn=>by
 subst hs;subst hT;subst hz;subst hi
 obtain⟨w,g1,p0,len,cap,rfl,SF,rfl⟩:=cn.get ha
 obtain⟨w2,g2,rfl⟩:=cn.get hb
 obtain⟨ti,t1,t2,t3⟩:=xg hp
 obtain⟨O,yz,yT⟩:=cn.take tk
 obtain⟨⟨ho,rows,hw,hr⟩,xq⟩:=yT.hp.own
 have bj:Rows hh G p.2.size rows L wP:=hr.map hL
 have hv:=s6.of bj
 have e9:=nz bj
 subst e9
 have SL:rows.length=l.length:=hr.len
 simp only [Bool.and_eq_true,Nat.blt_eq] at nP
 have Um:=zB nP.2
 have hlen:=hw.v_
 have qz:=hv.pE
 rcases hw.ok with⟨e1,e2⟩|⟨b,of,wR,l',e1,oN,h1,h2,h3⟩
 ·omega
 ·cases e1
  have qm:vd (some ⟨b,of,none⟩) p.2.size 0 cap=some ⟨b,of,none⟩:=mu (λa h=>by cases h;rfl)
  rw [qm] at g1
  have oP:cap < m+n:=oP
  refine .th hc λa w oo next Q ha' gN nU pv jP=>?_
  obtain⟨ie,dd,vk,hd,nV,pU,Hv,_⟩:=(Γ.ok.ok _ _ t3).ok
  have hu:=(Γ.ok.ok _ _ t1).slice t2
  have mN:=(Γ.ok.ok _ _ Sy).int huk
  have C6:m * p.2.size<=l.length * p.2.size:=zU _ ly
  have gS:l.length * p.2.size<=cap * p.2.size:=zU _ h2
  have holds:∀j v,(rows.take m).flatten[j]?=some v->w.cell? ((⟨b,of,none⟩:Addr).add j)=some v:=λj v Hg=>by
   rw [xX rows m hv.sz,<-h3,List.take_take,Nat.min_eq_left C6] at Hg
   exact((oN.Vu of (m * p.2.size)).get j v Hg).get w gN
  have Gb:(rows.take m).flatten.length=m * ie.size:=by rw [xX rows m hv.sz,zN,qz,nV,SL];omega
  have IB:n * ie.bytes<=281474976710656:=by
   rw [pU]
   have:n * p.2.bytes<=100000000000 * 1000:=Nat.mul_le_mul z6 Um
   omega
  have kH:Builtin.nextslicecap (m+n) cap * ie.bytes<=281474976710656:=growslice_fits z6 (by
   rw [pU]
   have:(m+n) * p.2.bytes<=100000000000 * 1000:=Nat.mul_le_mul z6 Um
   omega)
  have hrz:=qw (P:=Γ.P) (w:=w) t u ty p.1 ie p.2.zero .i64 .i64 hu mN vk Hv ⟨b,of,none⟩ m cap (rows.take m).flatten Gb holds n C5 (by rw [nV];exact nP.1) oP z6 IB kH
  have WV:=grownCap_ge w (m+n) cap p.1
  generalize grownCap w (m+n) cap p.1=mb at hrz WV
  have wq:(execOp a.eval (yI (.call { callee:= .builtin .append,args:=#[x,y],argTypes:=#[t,u] }) ty)).run Γ.P w= .ok (.value (.slice (some ⟨w.heap.size,0,none⟩) (m+n) mb)) (w.drew.alloc (.cells ((rows.take m).flatten.toArray ++ Builtin.zeroCells p.2.zero.cells n ++ Builtin.zeroCells p.2.zero.cells (mb - (m+n))) p.1)):=by
   simp [yI,execOp,resolve,invoke,builtin,ha'.ev g1,ha'.ev g2,hrz]
  unfold Oper.wp
  rw [xj,nU,pv,wq]
  have VO:(w.drew.alloc (.cells ((rows.take m).flatten.toArray ++ Builtin.zeroCells p.2.zero.cells n ++ Builtin.zeroCells p.2.zero.cells (mb - (m+n))) p.1)).heap=hh.push (.cells ((rows.take m).flatten ++ (Builtin.zeroCells p.2.zero.cells n).toList ++ (Builtin.zeroCells p.2.zero.cells (mb - (m+n))).toList).toArray p.1 (0,0)):=by
   simp only [World.alloc,World.drew,gN]
   congr 2
   apply Array.ext'
   simp
  have vV:et hh hh.size p.1 ((rows.take m).flatten ++ (Builtin.zeroCells p.2.zero.cells n).toList ++ (Builtin.zeroCells p.2.zero.cells (mb - (m+n))).toList) (w.drew.alloc (.cells ((rows.take m).flatten.toArray ++ Builtin.zeroCells p.2.zero.cells n ++ Builtin.zeroCells p.2.zero.cells (mb - (m+n))) p.1)).heap:=⟨rfl,VO⟩
  have V5:s6 p.2.size (rows.take m):=⟨λr hr=>hv.sz r (zW hr),λr hr=>hv.one r (zW hr)⟩
  refine jP _ _ (yW.sH rfl) ?_
  have bC:(Builtin.zeroCells p.2.zero.cells n).toList.length=n * p.2.size:=by simp [size_zeroCells,bf]
  have Ao:(Builtin.zeroCells p.2.zero.cells (mb - (m+n))).toList.length=(mb - (m+n)) * p.2.size:=by simp [size_zeroCells,bf]
  rw [nV] at Gb
  have rY:(m+n) * p.2.size+(mb - (m+n)) * p.2.size=mb * p.2.size:=by rw [<-Nat.add_mul];congr 1;omega
  have Fm:(m+n) * p.2.size=m * p.2.size+n * p.2.size:=Nat.add_mul _ _ _
  have c3:=cn.new (R:=sS (.slice (some ⟨hh.size,0,none⟩) (m+n) mb) p.1 p.2.size (rows.take m) (m+n)) (O:=λy=>y=hh.size) vV (λy h=>h)
   ⟨λy=>by simp [xz],V5,by rw [zN];omega,(Builtin.zeroCells p.2.zero.cells n).toList,by rw [zP,Gb,bC,Fm],.inr ⟨hh.size,0,mb,_,rfl,vV.rD,by simp only [zP,Gb,bC,Ao];omega,z6,by rw [List.drop_zero,List.take_left' (by rw [zP,Gb,bC,Fm])]⟩⟩
  rw [gN]
  exact CN.mk (c3.put d (a:= .ox _) ⟨rfl,_,_,_,rfl⟩) (hn.ok _)⟩⟩⟩
end
theorem uG{P:Program}(w:World)(tS tR e:TypeId)(ht:P.underlying tS=some (.slice e))(size:Nat)(hz:∀w,(Go.sizeOf e).run P w= .ok size w)(p q:Option Addr)(la ca lb cb:Nat)(h:p=none∨q=none∨la=0∨lb=0) :
  (Extern.SlicesOverlaps.overlaps #[tS,tS] #[tR] #[.slice p la ca,.slice q lb cb]).run P w= .ok (.bool false) w:=by
 change Sem.run P (α:=Value) (do
  let some t:=(#[tS,tS]:Array TypeId)[0]?|stuck "slices.overlaps: no parameter types"
  let .slice elem<-underlying t|stuck "slices.overlaps: slice type expected"
  let size<-sizeOf elem
  match p,q with
  | some a,some b =>
   if la=0∨lb=0∨size=0 then pure (Value.bool false)
   else if a.block !=b.block && (<-frozen a) && (<-frozen b) then unsupported .addressObserved
   else do
    if a.block !=b.block then do
     noView a;noView b
     if<-mayBeOne a b then return Value.bool ((<-choose (.extern "sameAddr.stringBytes" 2)) == 1)
    pure (Value.bool (a.block == b.block && a.off < b.off+lb * size && b.off < a.off+la * size))
  | _,_=>pure (Value.bool false)) w=_
 cases p with
 | none=>simp [run_underlying ht,hz]
 | some a =>
  cases q with
  | none=>simp [run_underlying ht,hz]
  | some b =>
   have h0:la=0∨lb=0∨size=0:=by rcases h with h|h|h|h <;> simp_all
   simp [run_underlying ht,hz,h0]
structure BM (P:Program) (f:FuncId) (tS:TypeId):Prop where
 ok:∃fn tR,P.funcs[f]?=some fn/\(fn.name == "runtime.NumGoroutine")=false/\fn.body.isNone=true/\Extern.findNext fn=none/\Extern.find fn=some (Extern.SlicesOverlaps.overlaps #[tS,tS] #[tR])
section
variable {Γ:Cx} {k:List KI} {e:EA} {o:List yh} {N:NA} {c:xa} {d:Tmp} {ty:TypeId} {x y z:Operand} {t u:TypeId} {kk:IntKind} {i:Int}
structure ZA (o:List yh) (a b:AV) (k:Prop):Prop where
 ok:∃(u v:Value) (s j m:Nat) (α:Type) (T sz:Nat) (l:List α) (f:α->List AV) (rest:List yh) (T' WK:Nat) (L:List (List Value)) (m':Nat) (de:List yh),a= .ow u/\b= .os v s j m/\Take o (yb u T sz l f) rest/\Take rest (sS v T' WK L m') de/\0 < WK/\k
theorem ZA.mk'{u v:Value}{s j m:Nat}{α:Type}{T sz:Nat}{l:List α}{f:α->List AV}{rest:List yh}{T' WK:Nat}{L:List (List Value)}{m':Nat}{de:List yh}{k:Prop}(h1:Take o (yb u T sz l f) rest)(h2:Take rest (sS v T' WK L m') de)(h3:0 < WK)(hk:k):ZA o (.ow u) (.os v s j m) k :=
 ⟨u,v,s,j,m,α,T,sz,l,f,rest,T',WK,L,m',de,rfl,rfl,h1,h2,h3,hk⟩
theorem SA.ovl{f:FuncId}{tS:TypeId}(hf:BM Γ.P f tS){p:Nat×TI}(hp:nN Γ.tt tS=some p){sg:Array TypeId}(hc:yN c=true)(h:Lk (xr e x) λa=>Lk (xr e y) λb=>ZA o a b (N ((d,.val (.bool false)) :: e) o)) :
  SA Γ c (some d) (.call { callee:= .value (.func f),args:=#[x,y],argTypes:=sg }) ty e o N:=by
 obtain⟨a,ha,b,hb,u,v,s,j,m,α,T,sz,l,g,rest,T',WK,L,m',de,rfl,rfl,MD,Sj,pI,hn⟩:=h
 refine⟨λenv hh G Os cn=>?_⟩
 obtain⟨w1,g1,Sw,q1,l1,c1,Hj⟩:=cn.get ha
 obtain⟨w2,g2,q2,l2,c2,rfl,SF,rfl⟩:=cn.get hb
 subst Sw
 subst Hj
 obtain⟨ti,t1,t2,t3⟩:=xg hp
 obtain⟨O,yz,yT⟩:=cn.take MD
 obtain⟨⟨ho,rows,hw,hr⟩,xq⟩:=yT.hp.own
 obtain⟨O',qi,On⟩:=(show vM Γ ⟨e,rest⟩ env hh G yz from⟨yT.hp.drop,yT.env,yT.nf⟩).take Sj
 obtain⟨⟨C3,Hg,hL',ss,gN⟩,_⟩:=On.hp.own
 obtain⟨fn,tR,lM,Zv,MQ,Bj,Bi⟩:=hf.ok
 have hu:=(Γ.ok.ok _ _ t1).slice t2
 have DW:=(Γ.ok.ok _ _ t3).ua
 have key:∀w:World,w.heap=hh->(Extern.SlicesOverlaps.overlaps #[tS,tS] #[tR] #[.slice q1 l1 c1,.slice (vd q2 s j c2) m (c2 - j)]).run Γ.P w= .ok (.bool false) w:=by
  intro w MG
  rcases hw.ok with⟨e1,e2⟩|⟨b1,of1,z0l,L1,e1,q_,_,_,_⟩
  ·cases e1
   exact uG w tS tR p.1 hu p.2.size DW _ _ _ _ _ _ (.inl rfl)
  ·cases e1
   rcases gN.ok with⟨e1,e2⟩|⟨b2,of2,mb,L2,e1,rC,k1,k2,_⟩
   ·cases e1
    refine uG w tS tR p.1 hu p.2.size DW _ _ _ _ _ _ (.inr (.inl ?_))
    unfold vd;split <;> rfl
   ·cases e1
    by_cases h0:l.length=0∨m=0
    ·exact uG w tS tR p.1 hu p.2.size DW _ _ _ _ _ _ (.inr (.inr h0))
    ·have Bb:j < m':=z6
     have qm:∃a,vd (some ⟨b2,of2,none⟩) s j c2=some a/\a.block=b2:=by
      unfold vd
      split
      ·exact⟨_,rfl,rfl⟩
      ·exact⟨_,rfl,by simp [yZ]⟩
     obtain⟨a2,Vb,pz⟩:=qm
     rw [Vb]
     have BB:w.heap[b1]?=some (.cells L1.toArray T (0,0)):=q_.heap MG
     have BA:w.heap[b2]?=some (.cells L2.toArray T' (0,0)):=rC.heap MG
     have vB:b1≠b2:=λh=>by
      have h1:O b1:=(ho b1).2 (by simp [xz])
      have h2:O' b2:=(C3 b2).2 (by simp [xz])
      have hd:=List.pairwise_cons.1 yT.hp.d
      obtain⟨O2,os2,r1,r2,r3⟩:=Sj.own yT.hp.drop.own
      have h3:O2 b2:=(r1.1 b2).2 (by simp [xz])
      exact hd.1 O2 (r3.mem_iff.2 zd) b1 h1 (h▸h3)
     by_cases kx:L2.length=0
     ·have h5:=zU WK k2
      have h6:0 < m' * WK:=Nat.mul_pos z6 pI
      omega
     ·exact Go.Lib.run_overlaps_apart w tS tR p.1 hu p.2.size DW ⟨b1,of1,none⟩ a2 l.length c1 m (c2 - j) (by rw [pz];exact vB) T T' L1.length L2.length (by simp [World.shape?,BB]) (by rw [pz];simp [World.shape?,BA]) kx (by simp [World.frozen?,BB]) (by simp [World.frozen?,BB])
 refine St.th hc λa w oo next Q ha' MG nU pv jP=>?_
 have wq:(execOp a.eval (yI (.call { callee:= .value (.func f),args:=#[x,y],argTypes:=sg }) ty)).run Γ.P w= .ok (.value (.bool false)) w:=by
  have h1:=run_callFunc_extern lM Zv MQ Bj Bi #[.slice q1 l1 c1,.slice (vd q2 s j c2) m (c2 - j)] w
  rw [key w MG] at h1
  simp [yI,execOp,resolve,invoke,Deferred.ofValue,ha'.ev g1,ha'.ev g2,ha'.ev (x:= .func f) (v:= .func (.func f) #[] #[]) rfl,h1]
 unfold Oper.wp
 rw [xj,nU,pv,wq]
 exact jP _ w (yW.refl w) (MG▸CN.mk (cn.put d (a:= .val _) rfl) hn)
structure r_ (q:TK) (i:Int) (M:IntKind->Int->Prop):Prop where
 ok:∃k' r,q= .int k'/\k'.wrap i=r/\M k' r
theorem r_.i64{q:TK}{i:Int}{M:IntKind->Int->Prop}(hq:q= .int .i64)(h: -9223372036854775808<=i/\i<=9223372036854775807)(hm:M .i64 i):r_ q i M:=⟨.i64,i,hq,wrap_i64 h,hm⟩
theorem r_.u8{q:TK}{i:Int}{M:IntKind->Int->Prop}(hq:q= .int .u8)(h:0<=i/\i<=255)(hm:M .u8 i):r_ q i M:=⟨.u8,i,hq,wrap_u8 h,hm⟩
theorem r_.u64{q:TK}{i:Int}{M:IntKind->Int->Prop}(hq:q= .int .u64)(h:0<=i/\i<=18446744073709551615)(hm:M .u64 i):r_ q i M:=⟨.u64,i,hq,by
 simp [IntKind.wrap,IntKind.signed,IntKind.bits];omega,hm⟩
instance (priority:=1100) {w:TypeId}:Sp (lO Γ c d (.convert t w x) ty e o N x (.val (.int kk i))) (Lk (Γ.tt t) λ_=>Lk (Γ.tt w) λti=>r_ ti.kind i λk' r=>N ((d,.val (.int k' r)) :: e) o):=⟨λ⟨_,h1,_,h2,_,_,hq,hr,hn⟩=>eH (λ_ _=>rfl) hn λ_ _ _ h k=>St.convert Γ.ok h1 h2 hq h hr k⟩
instance {k2:IntKind}:Sp (tZ Γ c d (.binOp .shr t x y u) ty e o N x (.val (.int .u64 i)) y (.val (.int k2 1))) (N ((d,.val (.int .u64 (i / 2))) :: e) o):=⟨λhn=>uT hn λ_ _ _ h h' k=>St.F9 h h' (m:=1) rfl zf (by rw [show(2:Int) ^ 1=2 from rfl];exact k)⟩
end
def u9(rs:List yh):yh :=
  ⟨λh O G=>∃Os,xy h G rs Os/\MB Os/\∀b,O b↔U Os b,
   λ{_ _ _ _} x ⟨Os,h1,h2,h3⟩=>⟨Os,xy.wm (λO' hO'=>x.mono λb hb=>hb.imp (λh=>(h3 b).2 ⟨O',hO',h⟩) id) h1,h2,h3⟩,
   λx ⟨Os,h1,h2,h3⟩=>⟨Os,h1.mono x,h2,h3⟩,
   λ⟨_Os,h1,_,h3⟩ b hb=>let ⟨O,hO,h4⟩:=(h3 b).1 hb;h1.nc O hO b h4⟩
section
variable {h0:y7} {G0 O0:Nat->Prop} {h:y7} {G:Nat->Prop} {Os:List (Nat->Prop)} {rs rest:List yh} {O:Nat->Prop}
theorem yF.ZC(c:yF h0 G0 O0 (u9 rs :: rest) h G (O :: Os)) :∃yz,xy h G rs yz/\yF h0 G0 O0 (rs ++ rest) h G (yz ++ Os):=by
 obtain⟨⟨yz,h1,h2,h3⟩,xq⟩:=c.own
 have hd:=List.pairwise_cons.1 c.d
 refine⟨yz,h1,h1.app xq,c.g,c.g0,λX hX b hb=>?_,List.pairwise_append.2 ⟨h2,hd.2,λA hA B hB b ha hb=>hd.1 B hB b ((h3 b).2 ⟨A,hA,ha⟩) hb⟩,c.fp⟩
 rcases zV.1 hX with hX|hX
 ·exact c.o O zd b ((h3 b).2 ⟨X,hX,hb⟩)
 ·exact c.o X (by simp [hX]) b hb
theorem yF.HH{Os1 qi:List (Nat->Prop)}(c:yF h0 G0 O0 (rs ++ rest) h G (Os1 ++ qi))(h1:xy h G rs Os1)(h2:xy h G rest qi):yF h0 G0 O0 (u9 rs :: rest) h G (U Os1 :: qi):=by
 obtain⟨d1,d2,d3⟩:=List.pairwise_append.1 c.d
 refine⟨⟨⟨Os1,h1,d1,λb=>Iff.rfl⟩,h2⟩,c.g,c.g0,λX hX b hb=>?_,List.pairwise_cons.2 ⟨λB hB b ⟨A,hA,ha⟩ hb=>d3 A hA B hB b ha hb,d2⟩,c.fp⟩
 rcases List.mem_cons.1 hX with rfl|hX
 ·obtain⟨A,hA,ha⟩:=hb
  exact c.o A (by simp [hA]) b ha
 ·exact c.o X (by simp [hX]) b hb
end
section
variable {Γ:Cx} {k:List KI} {e:EA} {o:List yh} {α:Type} {l:List α} {g:α->yh}
theorem CA.Pr{y:Code}{i:Nat}{x:α}{rest:List yh}(tk:Take o (u9 (l.map g)) rest)(hx:l[i]?=some x)(h:CA Γ k y e (g x :: u9 ((l.eraseIdx i).map g) :: rest)):CA Γ k y e o:=by
 refine⟨λenv hh G Os cn=>?_⟩
 obtain⟨O,yz,yT⟩:=cn.take tk
 obtain⟨Os1,g1,g2⟩:=yT.hp.ZC
 have qf:=(zS.1 hx).1
 have pI:l=l.take i ++ x :: l.drop (i+1):=by
  have h9:=List.drop_eq_getElem_cons qf
  rw [(zS.1 hx).2] at h9
  rw [<-h9,List.take_append_drop]
 have xq:=yT.hp.own.2
 rw [pI,List.map_append,List.map_cons] at g1
 obtain⟨A,B,rfl,a1,a2⟩:=xy.split g1
 match B,a2 with
 | X :: B,⟨b1,b2⟩ =>
  have hp:(A ++ X :: B ++ yz).Perm (X :: ((A ++ B) ++ yz)):=by
   rw [List.append_assoc,List.cons_append]
   exact List.perm_middle.trans (by rw [List.append_assoc])
  have kY:(l.eraseIdx i).map g=(l.take i).map g ++ (l.drop (i+1)).map g:=by rw [List.eraseIdx_eq_take_drop_succ,List.map_append]
  have c3:yF Γ.h0 Γ.G0 Γ.O0 (g x :: ((l.eraseIdx i).map g ++ rest)) hh G (X :: ((A ++ B) ++ yz)) :=
   g2.perm ⟨b1,by rw [kY];exact(a1.app b2).app xq⟩ hp
  have c4:yF Γ.h0 Γ.G0 Γ.O0 (((l.eraseIdx i).map g) ++ (g x :: rest)) hh G ((A ++ B) ++ (X :: yz)) :=
   c3.perm (by rw [kY];exact(a1.app b2).app ⟨b1,xq⟩) List.perm_middle.symm
  have c5:=c4.HH (by rw [kY];exact a1.app b2) ⟨b1,xq⟩
  have c6:yF Γ.h0 Γ.G0 Γ.O0 (g x :: u9 ((l.eraseIdx i).map g) :: rest) hh G (X :: U (A ++ B) :: yz) :=
   c5.perm ⟨b1,c5.own.1,xq⟩ (List.Perm.swap _ _ _)
  exact h.h env hh G _ ⟨c6,cn.env,cn.nf⟩
theorem CA.tU{y:Code}{x:α}{db r7:List yh}(MD:Take o (u9 (l.map g)) db)(Sj:Take db (g x) r7)(h:CA Γ k y e (u9 ((l ++ [x]).map g) :: r7)):CA Γ k y e o:=by
 refine⟨λenv hh G Os cn=>?_⟩
 obtain⟨O,yz,yT⟩:=cn.take MD
 obtain⟨X,qi,r1,r2,r3⟩:=Sj.own yT.hp.own.2
 have c2:yF Γ.h0 Γ.G0 Γ.O0 (u9 (l.map g) :: g x :: r7) hh G (O :: X :: qi):=yT.hp.perm ⟨yT.hp.own.1,r1,r2⟩ (List.Perm.cons O r3)
 obtain⟨A,g1,g2⟩:=c2.ZC
 have c3:yF Γ.h0 Γ.G0 Γ.O0 ((l.map g ++ [g x]) ++ r7) hh G ((A ++ [X]) ++ qi):=by
  rw [List.append_assoc,List.append_assoc];exact g2
 have c4:=c3.HH (g1.app (r1:=l.map g) (r2:= [g x]) ⟨r1,trivial⟩) r2
 rw [show l.map g ++ [g x]=(l ++ [x]).map g by simp] at c4
 exact h.h env hh G _ ⟨c4,cn.env,cn.nf⟩
theorem CA.IX{y:Code}{i:Nat}{x:α}{db r7:List yh}(MD:Take o (u9 ((l.eraseIdx i).map g)) db)(Sj:Take db (g x) r7)(hi:i < l.length)(h:CA Γ k y e (u9 ((l.set i x).map g) :: r7)):CA Γ k y e o:=by
 refine⟨λenv hh G Os cn=>?_⟩
 obtain⟨O,yz,yT⟩:=cn.take MD
 obtain⟨X,qi,r1,r2,r3⟩:=Sj.own yT.hp.own.2
 have c2:yF Γ.h0 Γ.G0 Γ.O0 (u9 ((l.eraseIdx i).map g) :: g x :: r7) hh G (O :: X :: qi):=yT.hp.perm ⟨yT.hp.own.1,r1,r2⟩ (List.Perm.cons O r3)
 obtain⟨A,g1,g2⟩:=c2.ZC
 have kY:(l.eraseIdx i).map g=(l.take i).map g ++ (l.drop (i+1)).map g:=by rw [List.eraseIdx_eq_take_drop_succ,List.map_append]
 have pC:(l.set i x).map g=(l.take i).map g ++ g x :: (l.drop (i+1)).map g:=by
  rw [List.set_eq_take_append_cons_drop,if_pos hi,List.map_append,List.map_cons]
 rw [kY] at g1 g2
 obtain⟨B,C,rfl,b1,b2⟩:=xy.split g1
 have hp:(B ++ C ++ X :: qi).Perm ((B ++ X :: C) ++ qi):=by
  rw [List.append_assoc,List.append_assoc,List.cons_append]
  exact List.Perm.append_left B List.perm_middle
 have c3:yF Γ.h0 Γ.G0 Γ.O0 ((l.set i x).map g ++ r7) hh G ((B ++ X :: C) ++ qi):=g2.perm (by rw [pC];exact xy.app (xy.app b1 (show xy hh G (g x :: (l.drop (i+1)).map g) (X :: C) from⟨r1,b2⟩)) r2) hp
 have c4:=c3.HH (by rw [pC];exact xy.app b1 (show xy hh G (g x :: (l.drop (i+1)).map g) (X :: C) from⟨r1,b2⟩)) r2
 exact h.h env hh G _ ⟨c4,cn.env,cn.nf⟩
theorem CA.o9{y:Code}(g:α->yh)(h:CA Γ k y e (u9 (([]:List α).map g) :: o)):CA Γ k y e o:=by
 refine⟨λenv hh G Os cn=>?_⟩
 have c4:yF Γ.h0 Γ.G0 Γ.O0 (u9 (([]:List α).map g) :: o) hh G (U [] :: Os):=yF.HH (rs:= []) (Os1:= []) cn.hp trivial cn.hp.own
 exact h.h env hh G _ ⟨c4,cn.env,cn.nf⟩
end
theorem ON.refl :∀a:Ord,ON a a
 | .done=> .done
 | .none=> .none
 | .one _ r=> .one (ON.refl r)
 | .alt _ r m=> .alt (ON.refl r) (ON.refl m)
def sD(f:Nat->Ord):List Nat->Ord
 | []=> .none
 | i :: l=> .alt i (f i) (sD f l)
def qD(rest:Ord):Nat->List Nat->Ord
 | 0,_=>rest
 | 1,[i]=> .one i rest
 | n+1,ps=>sD (λi=>qD rest n (ps.erase i)) ps
section
variable {ops:Array Oper} {cl:Nat->xa}
def me(l0:Array Bool)(ps0 ps:List Nat):Array Bool:=((List.range l0.size).map λj=>l0.getD j false || (ps0.contains j && !ps.contains j)).toArray
def kS:List Nat->List (List Nat)
 | []=> [[]]
 | a :: l=>(kS l).map (a :: ·) ++ kS l
theorem XG{ps ps0:List Nat}(h:List.Sublist ps ps0):ps∈kS ps0:=by
 induction h with
 | slnil=>simp [kS]
 | cons a _ ih=>simp [kS,ih]
 | cons_cons a _ ih=>simp [kS,ih]
def FC(ops:Array Oper)(cl:Nat->xa)(rest:Ord)(fuel:Nat)(l0:Array Bool)(ps0:List Nat):Bool :=
 ((kS ps0).all λps=>ps.isEmpty || Region.ready .any ops (me l0 ps0 ps) == ps) && ps0.all (λi=>yP (cl i) && !l0.getD i true) && wX ops cl rest fuel true (me l0 ps0 [])
theorem Sa{l0:Array Bool}{ps0:List Nat}:me l0 ps0 ps0=l0:=by
 apply Array.ext_getElem?
 intro j
 simp only [me,List.getElem?_toArray,zG,Bool.and_not_self,Bool.or_false]
 by_cases hj:j < l0.size
 ·simp [Array.getD,hj]
 ·simp [hj]
theorem S9{l0:Array Bool}{ps0 ps:List Nat}{i:Nat}(hn:ps.Nodup)(h0:i∈ps0)(_hi:i∈ps):(me l0 ps0 ps).setIfInBounds i true=me l0 ps0 (ps.erase i):=by
 apply Array.ext_getElem?
 intro j
 rw [Array.getElem?_setIfInBounds]
 simp only [me,List.getElem?_toArray,zG,List.size_toArray,List.length_map,List.length_range]
 by_cases u5:i=j
 ·subst u5
  by_cases hj:i < l0.size
  ·have:(ps.erase i).contains i=false:=by simpa using hn.not_mem_erase
   simp [hj,h0,hn.not_mem_erase]
  ·simp [hj]
 ·rw [if_neg u5]
  have hc:(ps.erase i).contains j=ps.contains j:=by
   simp only [List.contains_eq_mem,List.mem_erase_of_ne (Ne.symm u5)]
  by_cases hj:j < l0.size
  ·simp only [List.getElem?_range hj,Option.map_some,hc]
  ·simp [hj]
def iM(ops:Array Oper)(cl:Nat->xa)(i:Nat)(listed:Array Bool):Bool:=match cl i with
 | .pure=>(Region.ready .any ops listed).contains i && Region.free .any ops listed i
 | .read=>(Region.ready .any ops listed).contains i && Region.free .any ops listed i && (List.range ops.size).all λj=>listed.getD j true || !yN (cl j) || rK ops i ops.size j
 | _=>Region.ready .any ops listed == [i]
theorem oz{i:Nat}{r:Ord}{fuel:Nat}{listed:Array Bool}:wX ops cl (.one i r) (fuel+1) true listed=(iM ops cl i listed && wX ops cl r fuel true (listed.setIfInBounds i true)):=by
 simp only [wX,iM]
 cases cl i <;> simp
theorem qU{f:Nat->Ord} :∀l,(sD f l).mV=l
 | []=>rfl
 | i :: l=>by simp [sD,Ord.mV,qU l]
theorem jo{f:Nat->Ord}{fuel:Nat}{listed:Array Bool} :∀{l:List Nat},(∀i∈l,yP (cl i)=true/\wX ops cl (f i) fuel true (listed.setIfInBounds i true)=true)->wX ops cl (sD f l) (fuel+1) false listed=true
 | [],_=>by simp [sD,wX]
 | i :: l,h=>by
  simp only [sD,wX,Bool.not_false,Bool.true_or,Bool.true_and,Bool.and_eq_true]
  exact⟨h i zd,jo λj hj=>h j (by simp [hj])⟩
theorem T_{rest:Ord}{fuel:Nat}{l0:Array Bool}{ps0:List Nat}(hn:ps0.Nodup)(h:FC ops cl rest fuel l0 ps0=true):wX ops cl (qD rest ps0.length ps0) (fuel+ps0.length) true l0=true:=by
 simp only [FC,Bool.and_eq_true,List.all_eq_true,Bool.or_eq_true] at h
 obtain⟨⟨h1,h2⟩,h3⟩:=h
 have key:∀(n:Nat) (ps:List Nat),ps.length=n->List.Sublist ps ps0->wX ops cl (qD rest n ps) (fuel+n) true (me l0 ps0 ps)=true:=by
  intro n
  induction n with
  | zero =>
   intro ps hl _
   have:ps= []:=List.length_eq_zero_iff.1 hl
   subst this
   exact h3
  | succ n ih =>
   intro ps hl hs
   have B2:ps.Nodup:=List.Sublist.nodup hs hn
   have mn:Region.ready .any ops (me l0 ps0 ps)=ps:=by
    rcases h1 ps (XG hs) with h9|h9
    ·rw [List.isEmpty_iff] at h9;subst h9;simp at hl
    ·exact eq_of_beq h9
   have sub:∀i∈ps,yP (cl i)=true/\wX ops cl (qD rest n (ps.erase i)) (fuel+n) true ((me l0 ps0 ps).setIfInBounds i true)=true:=by
    intro i hi
    refine⟨(h2 i (hs.mem hi)).1, ?_⟩
    rw [S9 B2 (hs.mem hi) hi]
    exact ih _ (by rw [List.length_erase_of_mem hi];omega) ((List.erase_sublist).trans hs)
   have gen:2<=ps.length->wX ops cl (sD (λi=>qD rest n (ps.erase i)) ps) (fuel+n+1) true (me l0 ps0 ps)=true:=by
    intro h2l
    match ps,mn,sub with
    | i :: l,mn,sub =>
     simp only [sD,wX,qU,mn,beq_self_eq_true,Bool.or_true,Bool.true_and,Bool.and_eq_true]
     exact⟨sub i zd,jo λj hj=>sub j (by simp [hj])⟩
   match n,ps,hl,gen,sub,mn with
   | 0,[i],_,_,sub,mn =>
    obtain⟨g1,g2⟩:=sub i zd
    have g3:iM ops cl i (me l0 ps0 [i])=true:=by
     revert g1
     unfold iM
     cases cl i <;> simp [yP,mn]
    show wX ops cl (.one i rest) (fuel+1) true (me l0 ps0 [i])=true
    rw [oz,g3]
    simpa [qD] using g2
   | n+1,ps,hl,gen,_,_=>exact gen z6
 have:=key _ ps0 rfl (List.Sublist.refl _)
 rwa [Sa] at this
theorem rR{i:Nat}{r:Ord}{fuel:Nat}{listed:Array Bool}(h1:iM ops cl i listed=true)(h2:wX ops cl r fuel true (listed.setIfInBounds i true)=true):wX ops cl (.one i r) (fuel+1) true listed=true:=by
 rw [oz,h1,h2];rfl
end
section
variable {Γ:Cx} {k:List KI} {e:EA} {o:List yh} {ops:Array Oper} {cl:Nat->xa}
theorem vn.alts{f:Nat->Ord} :∀{ps:List Nat},(∀i∈ps,vn Γ k ops cl (.one i (f i)) e o)->vn Γ k ops cl (sD f ps) e o
 | [],_=>show vn Γ k ops cl .none e o from Sp.h (s:=True) trivial
 | i :: l,h=>show vn Γ k ops cl (.alt i (f i) (sD f l)) e o from Sp.h (s:=vn Γ k ops cl (.one i (f i)) e o/\vn Γ k ops cl (sD f l) e o) ⟨h i zd,vn.alts λj hj=>h j (by simp [hj])⟩
theorem gx{β:Type}{kvs:List (List Int×β)}(hn:kvs.Pairwise λa b=>a.1≠b.1){key:List Int}{v:β}(h:(key,v)∈kvs):yG kvs key=some v:=by
 induction kvs with
 | nil=>cases h
 | cons a l ih =>
  obtain⟨h1,h2⟩:=List.pairwise_cons.1 hn
  simp only [yG,List.find?_cons] at ih ⊢
  rcases List.mem_cons.1 h with rfl|h
  ·simp
  ·have h3:=h1 _ h
   have h4:decide (a.1=key)=false:=by simpa using h3
   rw [h4]
   exact ih h2 h
theorem mB{β:Type}{kvs:List (List Int×β)}{key:List Int}(h:∀p∈kvs,p.1≠key):yG kvs key=none:=by
 unfold yG
 rw [List.find?_eq_none.2 λp hp=>by simpa using h p hp]
 rfl
theorem aT{β:Type}{a b:List (List Int×β)}(hp:a.Perm b)(hn:b.Pairwise λx y=>x.1≠y.1)(key:List Int):yG a key=yG b key:=by
 have Ge:a.Pairwise λx y=>x.1≠y.1:=hp.symm.pairwise hn λh=>λh'=>h h'.symm
 by_cases h:∃v,(key,v)∈b
 ·obtain⟨v,hv⟩:=h
  rw [gx hn hv,gx Ge (hp.mem_iff.2 hv)]
 ·rw [mB (kvs:=b) (key:=key) λp Hk hk=>h ⟨p.2,by subst hk;exact Hk⟩,mB (kvs:=a) (key:=key) λp Hk hk=>h ⟨p.2,by subst hk;exact hp.mem_iff.1 Hk⟩]
theorem vn.fill{β:Type}{b:Nat}{kt:TypeId}{f:β->AV}{rest:Ord}(items:Nat->List Int×β)(ps0:List Nat)(Zp:(ps0.map items).Pairwise λx y=>x.1≠y.1)
  (hs:∀i∈ps0,∀kvs r,vn Γ k ops cl r e (vg Γ.P b kt (td kvs (items i).1 (items i).2) f :: o)->vn Γ k ops cl (.one i r) e (vg Γ.P b kt kvs f :: o))
  (h:∀kvs,kvs.Perm (ps0.map items)->vn Γ k ops cl rest e (vg Γ.P b kt kvs f :: o)) :
  vn Γ k ops cl (qD rest ps0.length ps0) e (vg Γ.P b kt [] f :: o):=by
 have key:∀(n:Nat) (ps:List Nat) (kvs:List (List Int×β)),ps.length=n->(kvs ++ ps.map items).Perm (ps0.map items)->(∀i∈ps,i∈ps0)->vn Γ k ops cl (qD rest n ps) e (vg Γ.P b kt kvs f :: o):=by
  intro n
  induction n with
  | zero =>
   intro ps kvs hl hp _
   have:ps= []:=List.length_eq_zero_iff.1 hl
   subst this
   exact h kvs (by simpa using hp)
  | succ n ih =>
   intro ps kvs hl hp hm
   have step:∀i∈ps,∀r,vn Γ k ops cl r e (vg Γ.P b kt (kvs ++ [items i]) f :: o)->vn Γ k ops cl (.one i r) e (vg Γ.P b kt kvs f :: o):=by
    intro i hi r hr
    refine hs i (hm i hi) kvs r ?_
    have hnk:yG kvs (items i).1=none:=by
     refine mB λp WQ hk=>?_
     have Ge:(kvs ++ ps.map items).Pairwise λx y=>x.1≠y.1:=hp.symm.pairwise Zp λh=>λh'=>h h'.symm
     exact(List.pairwise_append.1 Ge).2.2 p WQ (items i) (List.mem_map_of_mem hi) hk
    rw [mq _ _ _ hnk]
    exact hr
   have sub:∀i∈ps,vn Γ k ops cl (qD rest n (ps.erase i)) e (vg Γ.P b kt (kvs ++ [items i]) f :: o):=by
    intro i hi
    refine ih _ _ (by rw [List.length_erase_of_mem hi];omega) ?_ λj hj=>hm j (List.mem_of_mem_erase hj)
    refine List.Perm.trans ?_ hp
    rw [List.append_assoc]
    refine List.Perm.append_left kvs ?_
    have:=(List.perm_cons_erase hi).map items
    exact this.symm
   have gen:vn Γ k ops cl (sD (λi=>qD rest n (ps.erase i)) ps) e (vg Γ.P b kt kvs f :: o):=vn.alts λi hi=>step i hi _ (sub i hi)
   match n,ps,hl,gen,sub,step with
   | 0,[i],_,_,sub,step=>exact step i zd _ (sub i zd)
   | n+1,ps,_,gen,_,_=>exact gen
 exact key _ ps0 [] rfl zd λ_ h=>h
end
structure wV (a b:AV):Prop where
 le:∀{h:y7} {G:Nat->Prop} {v:Value},a.R h G v->b.R h G v
theorem wV.refl(a:AV):wV a a:=⟨λh=>h⟩
theorem wV.nil{α:Type}{sz:Nat}{f:α->List AV}:wV (.val (.slice none 0 0)) (.sl sz [] f):=⟨λh=>by
 have h:_=_:=h
 subst h
 exact⟨by simp,.inl ⟨rfl,none,0,rfl⟩⟩⟩
inductive bA:List AV->List AV->Prop where
 | nil:bA [] []
 | cons {a b:AV} {l m:List AV}:wV a b->bA l m->bA (a :: l) (b :: m)
theorem bA.rep{h:y7}{G:Nat->Prop}{l m:List AV}(x:bA l m) :∀{vs:List Value},xb h G vs l->xb h G vs m:=by
 induction x with
 | nil=>exact λhr=>hr
 | cons ha _ ih =>
  intro vs hr
  match vs,hr with
  | v :: vs,⟨h1,h2⟩=>exact⟨ha.le h1,ih h2⟩
theorem wV.sl{α β:Type}{sz:Nat}{l:List α}{f:α->List AV}{ys:List β}{g:β->List AV}(hl:l.length=ys.length)(hr:∀(i:Nat) x y,l[i]?=some x->ys[i]?=some y->bA (f x) (g y)):wV (.sl sz l f) (.sl sz ys g):=⟨λ{h G v} hv=>by
 obtain⟨h1,⟨h2,p,cap,h3⟩|⟨b,o,cap,rows,h2,h3,h4,h5,h6,h7,h8⟩⟩:=hv
 ·subst h2
  exact⟨by rw [<-hl];exact h1,.inl ⟨zQ (by rw [<-hl];rfl),p,cap,h3⟩⟩
 ·refine⟨by rw [<-hl];exact h1,.inr ⟨b,o,cap,rows,by rw [<-hl];exact h2,by rw [<-hl];exact h3,by rw [<-hl];exact h4,h5,h6,h7,⟨by rw [h8.len,hl],λi r y g1 g2=>?_,h8.sz⟩⟩⟩
  have hi:=(zS.1 g2).1
  have hx:l[i]?=some (l[i]' z6):=zE _
  have g3:=h8.row i r _ g1 hx
  exact⟨(hr i _ y hx g2).rep g3.t,g3.one⟩⟩
theorem zy.conv{P:Program}{f:FuncId}{yM:List AV}{own:List yh}{a b:AV}(pz:wV a b)(h:zy P f yM own λq o=>q=a/\o= []):zy P f yM own λq o=>q=b/\o= [] :=
 ⟨λhh G Os vs h1 h2=>(h.run hh G Os vs h1 h2).mono λv' h' ⟨r,o,G',yz,⟨e1,e2⟩,g1,g2⟩=>by
  subst e1;subst e2
  exact⟨_,_,_,_,⟨rfl,rfl⟩,pz.le g1,g2⟩⟩
section
variable {k:List KI} {e:EA} {o:List yh}
end
inductive FX:List yh->List AV->List AV->List yh->Prop where
 | nil {o:List yh}:FX o [] [] o
 | le {o own:List yh} {a b:AV} {l l':List AV}:wV a b->FX o l l' own->FX o (a :: l) (b :: l') own
 | agg {o o1 own:List yh} {cs uq l l':List AV}:FX o cs uq o1->FX o1 l l' own->FX o (.agg cs :: l) (.agg uq :: l') own
 | yE {o o1 own:List yh} {cs uq l l':List AV}:FX o cs uq o1->FX o1 l l' own->FX o (.yE cs :: l) (.yE uq :: l') own
 | PJ {o rest own rs:List yh} {l l':List AV}:Take o (u9 rs) rest->FX (rs ++ rest) l l' own->FX o l l' own
 | sl {o rest o1 own:List yh} {l l':List AV} {α β:Type} {v:Value} {T sz:Nat} {xs:List α} {f:α->List AV} {ys:List β} {g:β->List AV} :
   Take o (yb v T sz xs f) rest->xs.length<=9223372036854775807->FX rest (xs.map λx=> .agg (f x)) (ys.map λy=> .agg (g y)) o1->FX o1 l l' own->FX o (.ow v :: l) (.sl sz ys g :: l') own
theorem FX.len{o own:List yh}{l l':List AV}(x:FX o l l' own):l.length=l'.length:=by
 induction x with
 | nil=>rfl
 | le _ _ ih=>simp [ih]
 | agg _ _ _ ih=>simp [ih]
 | yE _ _ _ ih=>simp [ih]
 | PJ _ _ ih=>exact ih
 | sl _ _ _ _ _ ih=>simp [ih]
theorem tI.FF{h:y7}{G:Nat->Prop}{α:Type}{f:α->List AV} :∀{rows:List (List Value)} {l:List α},tI h G rows (l.map f)->xb h G (rows.map λr=> .agg r.toArray) (l.map λx=> .agg (f x))
 | [],[],_=>trivial
 | _ :: _,_ :: _,⟨h1,h2⟩=>⟨⟨_,rfl,h1⟩,tI.FF h2⟩
 | [],_ :: _,h=>h.elim
 | _ :: _,[],h=>h.elim
theorem tI.U0{h:y7}{G:Nat->Prop}{α:Type}{f:α->List AV} :∀{rows:List (List Value)} {l:List α},xb h G (rows.map λr=> .agg r.toArray) (l.map λx=> .agg (f x))->tI h G rows (l.map f)
 | [],[],_=>trivial
 | v :: vs,x :: l,⟨⟨ws,e,h1⟩,h2⟩=>by
  have e':v=ws:=by
   have:=congrArg (λu=>match u with|Value.agg a=>a.toList|_=> []) e
   simpa using this
  subst e'
  exact⟨h1,tI.U0 h2⟩
 | [],_ :: _,h=>h.elim
 | _ :: _,[],h=>h.elim
theorem FX.rep{h0:y7}{G0 O0:Nat->Prop}{h:y7}{o own:List yh}{l l':List AV}(x:FX o l l' own) :∀{G:Nat->Prop} {Os:List (Nat->Prop)} {vs:List Value},yF h0 G0 O0 o h G Os->xb h G vs l->∃G' yz,yF h0 G0 O0 own h G' yz/\xb h G' vs l'/\∀b,G b->G' b:=by
 induction x with
 | nil=>exact λ{G Os vs} c hr=>⟨G,Os,c,hr,λ_ h=>h⟩
 | le ha _ ih =>
  intro G Os vs c hr
  match vs,hr with
  | v :: vs,⟨r1,r2⟩ =>
   obtain⟨G',yz,h1,h2,h3⟩:=ih c r2
   exact⟨G',yz,h1,⟨AV.mono _ h3 (ha.le r1),h2⟩,h3⟩
 | agg _ _ Zk ih =>
  intro G Os vs c hr
  match vs,hr with
  | v :: vs,⟨⟨ws,r1,r3⟩,r2⟩ =>
   obtain⟨G1,Os1,h1,h2,h3⟩:=Zk c r3.t
   obtain⟨G2,qi,h4,h5,h6⟩:=ih h1 (r2.mono h3)
   exact⟨G2,qi,h4,⟨⟨ws,r1,h2.mono h6,r3.one⟩,h5⟩,λb hb=>h6 b (h3 b hb)⟩
 | yE _ _ Zk ih =>
  intro G Os vs c hr
  match vs,hr with
  | v :: vs,⟨⟨ws,r1,r3⟩,r2⟩ =>
   obtain⟨G1,Os1,h1,h2,h3⟩:=Zk c r3
   obtain⟨G2,qi,h4,h5,h6⟩:=ih h1 (r2.mono h3)
   exact⟨G2,qi,h4,⟨⟨ws,r1,h2.mono h6⟩,h5⟩,λb hb=>h6 b (h3 b hb)⟩
 | PJ tk _ ih =>
  intro G Os vs c hr
  obtain⟨O,nO,c2⟩:=c.take tk
  obtain⟨A,_,g2⟩:=c2.ZC
  exact ih g2 hr
 | sl tk hl hf _ Zk ih =>
  intro G Os vs c hr
  match vs,hr with
  | v :: vs,⟨⟨r1,_⟩,r2⟩ =>
   subst r1
   obtain⟨O,nO,c2⟩:=c.take tk
   have qy:=c2.own.1
   have hlen:_=_:=hf.len
   simp only [List.length_map] at hlen
   obtain⟨g1,⟨g2,p,cap,g3⟩|⟨b,of,cap,rows,g2,g3,g4,g5,g6,g7,g8⟩⟩:=wZ qy hl
   ·obtain⟨G1,Os1,h1,_,h3⟩:=Zk (vs:= []) c2.freeze (by rw [g2];trivial)
    obtain⟨G2,qi,h4,h5,h6⟩:=ih h1 (r2.mono λb hb=>h3 b (.inl hb))
    refine⟨G2,qi,h4,⟨⟨z6,.inl ⟨zQ (by rw [<-hlen,g2];rfl),p,cap,g3⟩⟩,h5⟩,λb hb=>h6 b (h3 b (.inl hb))⟩
   ·obtain⟨G1,Os1,h1,h2,h3⟩:=Zk c2.freeze (tI.of g8).FF
    obtain⟨G2,qi,h4,h5,h6⟩:=ih h1 (r2.mono λb hb=>h3 b (.inl hb))
    refine⟨G2,qi,h4,⟨⟨z6,.inr ⟨b,of,cap,rows,by rw [<-hlen];exact g2,z6,z6,h6 _ (h3 _ g5),g6,g7,(tI.to (tI.U0 h2) g8.sz).mono h6⟩⟩,h5⟩,λb hb=>h6 b (h3 b (.inl hb))⟩
theorem zy.fx{P:Program}{f:FuncId}{yM:List AV}{own:List yh}{K:AV->List yh->Prop}{a:AV}(h:zy P f yM own K)(hK:∀r o,K r o->FX o [r] [a] []):zy P f yM own λq o=>q=a/\o= [] :=
 ⟨λhh G Os vs h1 h2=>(h.run hh G Os vs h1 h2).mono λv' h' ⟨r,o,G',yz,hk,g1,g2⟩=>by
  obtain⟨G2,qi,k1,k2,k3⟩:=(hK r o hk).rep g2 (vs:= [v']) ⟨g1,trivial⟩
  exact⟨a,[],G2,qi,⟨rfl,rfl⟩,k2.1,k1⟩⟩
theorem FX.refl{o:List yh} :∀l:List AV,FX o l l o
 | []=> .nil
 | a :: l=> .le (wV.refl a) (FX.refl l)
theorem FX.rows{α β:Type}{r:α->yh}{f:α->List AV}{g:β->List AV}{φ:α->β}{o:List yh} :∀L:List α,(∀x∈L,∀o',FX (r x :: o') (f x) (g (φ x)) o')->FX (L.map r ++ o) (L.map λx=> .agg (f x)) ((L.map φ).map λy=> .agg (g y)) o
 | [],_=> .nil
 | x :: L,hf=> .agg (hf x zd _) (FX.rows L λy hy=>hf y (by simp [hy]))
theorem CA.Yp{P:Program}{tt:Nat->Option TI}{en:Nat->Bool}{ok:xh P tt en}{T0:Nat->Ord×(Nat->xa)}{m0:Nat}{rs:Array ResultVar}{K:AV->List yh->Prop}{h0:y7}{G0 O0:Nat->Prop}{k:List KI}{e:EA}{o:List yh}{y:Code}(t:Tmp){a b:AV}{rest:List yh}(ht:xd e t=some a)(x:FX o [a] [b] rest)
  (h:CA ⟨P,tt,en,ok,T0,m0,rs,K,h0,G0,O0,⟨none⟩⟩ k y ((t,b) :: e) rest):CA ⟨P,tt,en,ok,T0,m0,rs,K,h0,G0,O0,⟨none⟩⟩ k y e o:=by
 refine⟨λenv hh G Os cn=>?_⟩
 obtain⟨w',e1,e2⟩:=cn.env t _ ht
 obtain⟨G',L6,k1,k2,k3⟩:=x.rep cn.hp (vs:= [w']) ⟨e2,trivial⟩
 have c4:vM ⟨P,tt,en,ok,T0,m0,rs,K,h0,G0,O0,⟨none⟩⟩ ⟨e,rest⟩ env hh G' L6:=⟨k1,λq c hq=>by
  obtain⟨u,q1,q2⟩:=cn.env q c hq
  exact⟨u,q1,AV.mono _ k3 q2⟩,l7.none rfl⟩
 exact h.h env hh G' L6 (o7 c4 t (λw hw=>by rw [hw] at e1;cases e1;exact k2.1) ht)
theorem Cl.fx{Γ:Cx}{c:xa}{f:FuncId}{yM:List AV}(tK:List AV){o own:List yh}{M:AV->List yh->Prop}(x:FX o yM tK own)(hc:Cl Γ c f tK own M):Cl Γ c f yM o M:=by
 refine⟨λ{h G Os vs} hp hr=>?_⟩
 obtain⟨G1,Os1,k1,k2,k3⟩:=x.rep hp hr
 refine(hc.ok k1 k2).mono λv h' ⟨g1,r,o',G',yz,g2,g3,g4,g5,g6⟩=>?_
 exact⟨g1,r,o',G',yz,g2,g3,g4,g5.mono k3,λb hb=>g6 b (k3 b hb)⟩
structure OX (o o':List yh):Prop where
 x:∀{h0:y7} {G0 O0:Nat->Prop} {h:y7} {G:Nat->Prop} {Os:List (Nat->Prop)},yF h0 G0 O0 o h G Os->∃G' yz,yF h0 G0 O0 o' h G' yz/\∀b,G b->G' b
theorem OX.trans{o o1 o2:List yh}(a:OX o o1)(b:OX o1 o2):OX o o2:=⟨λc=>by
 obtain⟨G1,Os1,c1,g1⟩:=a.x c
 obtain⟨G2,qi,c2,g2⟩:=b.x c1
 exact⟨G2,qi,c2,λb hb=>g2 b (g1 b hb)⟩⟩
theorem OX.rD{o r1 r2 r3:List yh}{b:Nat}{T:TypeId}{cs uq:List AV}(tk:Take o (yr b T cs) r1)(x:FX o cs uq r2)(Sj:Take r2 (yr b T cs) r3):OX o (yr b T uq :: r3):=⟨λ{h0 G0 O0 h G Os} c=>by
 obtain⟨O,nO,c2⟩:=c.take tk
 obtain⟨ho,vs,hb,hr⟩:=c2.own.1
 obtain⟨G',yz,k1,k2,k3⟩:=x.rep c hr.t
 obtain⟨O2,os2,c3⟩:=k1.take Sj
 obtain⟨ho2,SQ,rC,bj⟩:=c3.own.1
 have hv:SQ=vs:=by
  have:=rC.get.symm.trans hb.get
  simpa using this
 subst hv
 exact⟨G',O2 :: os2,c3.perm ⟨⟨ho2,SQ,rC,⟨k2,hr.one⟩⟩,c3.own.2⟩ (List.Perm.refl _),k3⟩⟩
theorem zy.own{P:Program}{f:FuncId}{yM:List AV}{own:List yh}{K K':AV->List yh->Prop}(h:zy P f yM own K)(hK:∀r o,K r o->∃o',OX o o'/\K' r o'):zy P f yM own K' :=
 ⟨λhh G Os vs h1 h2=>(h.run hh G Os vs h1 h2).mono λv' h' ⟨r,o,G',yz,hk,g1,g2⟩=>by
  obtain⟨o',⟨x⟩,qe⟩:=hK r o hk
  obtain⟨G2,qi,k1,k2⟩:=x g2
  exact⟨r,o',G2,qi,qe,AV.mono _ k2 g1,k1⟩⟩
theorem zy.args{P:Program}{f:FuncId}{yM tK:List AV}{own:List yh}{K:AV->List yh->Prop}(w:bA yM tK)(h:zy P f tK own K):zy P f yM own K :=
 ⟨λhh G Os vs h1 h2=>h.run hh G Os vs (w.rep h1) h2⟩
theorem CA.own{P:Program}{tt:Nat->Option TI}{en:Nat->Bool}{ok:xh P tt en}{T0:Nat->Ord×(Nat->xa)}{m0:Nat}{rs:Array ResultVar}{K:AV->List yh->Prop}{h0:y7}{G0 O0:Nat->Prop}{k:List KI}{e:EA}{o o':List yh}{y:Code}(x:OX o o')
  (h:CA ⟨P,tt,en,ok,T0,m0,rs,K,h0,G0,O0,⟨none⟩⟩ k y e o'):CA ⟨P,tt,en,ok,T0,m0,rs,K,h0,G0,O0,⟨none⟩⟩ k y e o:=by
 refine⟨λenv hh G Os cn=>?_⟩
 obtain⟨G',L6,k1,k3⟩:=x.x cn.hp
 exact h.h env hh G' L6 ⟨k1,λq c hq=>by
  obtain⟨u,q1,q2⟩:=cn.env q c hq
  exact⟨u,q1,AV.mono _ k3 q2⟩,l7.none rfl⟩
theorem PA.own{P:Program}{tt:Nat->Option TI}{en:Nat->Bool}{ok:xh P tt en}{T0:Nat->Ord×(Nat->xa)}{m0:Nat}{rs:Array ResultVar}{K:AV->List yh->Prop}{h0:y7}{G0 O0:Nat->Prop}{k:List KI}{e:EA}{o o':List yh}{z:Exit}(x:OX o o')
  (h:PA ⟨P,tt,en,ok,T0,m0,rs,K,h0,G0,O0,⟨none⟩⟩ k z e o'):PA ⟨P,tt,en,ok,T0,m0,rs,K,h0,G0,O0,⟨none⟩⟩ k z e o:=by
 refine⟨λenv hh G Os cn=>?_⟩
 obtain⟨G',L6,k1,k3⟩:=x.x cn.hp
 exact h.h env hh G' L6 ⟨k1,λq c hq=>by
  obtain⟨u,q1,q2⟩:=cn.env q c hq
  exact⟨u,q1,AV.mono _ k3 q2⟩,l7.none rfl⟩
theorem FX.s1{α:Type}{o rest own:List yh}{l l':List AV}{v:Value}{T sz:Nat}{xs:List α}{f:α->List AV}(tk:Take o (yb v T sz xs f) rest)(hl:xs.length<=9223372036854775807)(h:FX rest l l' own):FX o (.ow v :: l) (.sl sz xs f :: l') own:= .sl tk hl (FX.refl _) h
theorem FX.k{o own:List yh}{a:AV}{l l':List AV}(h:FX o l l' own):FX o (a :: l) (a :: l') own:= .le (wV.refl a) h
theorem FX.kn{α:Type}{o own:List yh}{sz:Nat}{f:α->List AV}{l l':List AV}(h:FX o l l' own):FX o (.val (.slice none 0 0) :: l) (.sl sz [] f :: l') own:= .le wV.nil h
theorem yh.eq{a b:yh}(h:a.R=b.R):a=b:=by
 cases a;cases b;cases h;rfl
theorem pc{α β:Type}{v:Value}{T sz:Nat}{l:List α}{f:α->List AV}{m:List β}{g:β->List AV}(he:l.map f=m.map g):yb v T sz l f=yb v T sz m g:=yh.eq (by
 have hl:l.length=m.length:=by have:=congrArg List.length he;simpa using this
 funext h O G
 refine propext ⟨λ⟨ho,rows,h1,h2⟩=>⟨ho,rows,by rw [<-hl];exact h1,h2.map he.symm⟩,λ⟨ho,rows,h1,h2⟩=>⟨ho,rows,by rw [hl];exact h1,h2.map he⟩⟩)
theorem wV.Mc:wV (.val (.slice none 0 0)) (.ow (.slice none 0 0)):=⟨λh=>⟨h,none,0,0,rfl⟩⟩
theorem OX.Jj{o rest:List yh}{b:Nat}{T:TypeId}{cs:List AV}(tk:Take o (yr b T cs) rest)(uq:List AV)(w:bA cs uq):OX o (yr b T uq :: rest):=⟨λ{h0 G0 O0 h G Os} c=>by
 obtain⟨O,nO,c2⟩:=c.take tk
 obtain⟨ho,vs,hb,hr⟩:=c2.own.1
 exact⟨G,O :: nO,c2.perm ⟨⟨ho,vs,hb,⟨w.rep hr.t,hr.one⟩⟩,c2.own.2⟩ (List.Perm.refl _),λ_ h=>h⟩⟩
theorem OX.nil{α:Type}(o:List yh)(T sz:Nat)(f:α->List AV):OX o (yb (.slice none 0 0) T sz ([]:List α) f :: o):=⟨λ{_h0 _G0 _O0 _h G _Os} c=>⟨G,_,yF.Rn (o:=o) c T sz f,λ_ h=>h⟩⟩
structure s7 (a:AV):Prop where
 h:∀{h:y7} {G G':Nat->Prop} {v:Value},a.R h G v->a.R h G' v
structure vS (R:yh):Prop where
 h:∀{h:y7} {O G G':Nat->Prop},R.R h O G->R.R h O G'
theorem s7.val(v:Value):s7 (.val v):=⟨λh=>h⟩
theorem s7.ow(v:Value):s7 (.ow v):=⟨λh=>h⟩
inductive kW:List AV->Prop where
 | nil:kW []
 | cons {a:AV} {l:List AV}:s7 a->kW l->kW (a :: l)
theorem kW.rep{h:y7}{G G':Nat->Prop}{l:List AV}(f:kW l) :∀{vs:List Value},xb h G vs l->xb h G' vs l:=by
 induction f with
 | nil=>intro vs hr;match vs,hr with | [],_=>trivial
 | cons ha _ ih =>
  intro vs hr
  match vs,hr with
  | v :: vs,⟨r1,r2⟩=>exact⟨ha.h r1,ih r2⟩
theorem s7.yE{l:List AV}(f:kW l):s7 (.yE l):=⟨λ⟨vs,h1,h2⟩=>⟨vs,h1,f.rep h2⟩⟩
theorem vS.arr{α:Type}{v:Value}{T sz:Nat}{l:List α}{f:α->List AV}(hf:∀x∈l,kW (f x)):vS (yb v T sz l f):=⟨λ⟨ho,rows,h1,h2⟩=>⟨ho,rows,h1,⟨h2.len,λi r x g1 g2=>⟨(hf x (zM g2)).rep (h2.row i r x g1 g2).t,(h2.row i r x g1 g2).one⟩,h2.sz⟩⟩⟩
theorem vS.own{h:y7}{G G':Nat->Prop} :∀{rs:List yh} {os:List (Nat->Prop)},(∀R∈rs,vS R)->xy h G rs os->xy h G' rs os
 | [],[],_,_=>trivial
 | R :: rs,O :: os,hf,⟨h1,h2⟩=>⟨(hf R zd).h h1,vS.own (λR hR=>hf R (by simp [hR])) h2⟩
 | [],_ :: _,_,h=>h.elim
 | _ :: _,[],_,h=>h.elim
theorem vS.HH{rs:List yh}(hf:∀R∈rs,vS R):vS (u9 rs):=⟨λ⟨Os,h1,h2,h3⟩=>⟨Os,vS.own hf h1,h2,h3⟩⟩
theorem Cl.Mg{Γ:Cx}{c:xa}{o:List yh}{f:FuncId}{yM tK:List AV}{K:AV->List yh->Prop}{M:AV->List yh->Prop}(hc:zy Γ.P f tK [] K)(hl:y3 o yM tK)(hK:∀r own,K r own->s7 r/\∀R∈own,vS R)(hm:∀r own,K r own->M r (own ++ o)):Cl Γ c f yM o M:=by
 refine⟨λ{h G Os vs} hp hr=>?_⟩
 have yd:yF h (λb=>G b∨U Os b) (U []) [] h (λb=>G b∨U Os b) [] :=
  ⟨trivial,λb hb=>⟨hb.elim (λh9=>(hp.g b h9).1) (λ⟨O,hO,h9⟩=>(hp.o O hO b h9).1),.inl hb⟩,λ_ h=>h,λO hO=>(by cases hO),List.Pairwise.nil,uo.refl h⟩
 refine(hc.run h _ [] vs (hl.rep hp.own hr) yd).mono λv h' ⟨r',wE,G',yz,hk,g3,g4⟩=>?_
 obtain⟨f1,f2⟩:=hK _ _ hk
 have yL:tc ([]:List Nat) h h':=⟨g4.fp.size,λb hb _=>g4.fp.same b (λ⟨O,hO,_⟩=>by cases hO) hb⟩
 have hx:∀S,uo S h h':=λS=>⟨yL.size,λb _ hb=>yL.same b hb zd⟩
 have hs:=hp.fp.size
 have px:=yL.size
 have vV:∀O∈yz,∀b,O b->h.size<=b:=λO hO b hb=>by
  rcases(g4.o O hO b hb).2.1 with⟨O2,Bs,_⟩|h9
  ·cases Bs
  ·exact h9
 refine⟨.inr yL,r',wE ++ o,G,yz ++ Os,hm _ _ hk,f1.h g3,⟨(vS.own f2 g4.own).app (xy.wm (λO _=>hx _) hp.own),λb hb=>⟨by have:=(hp.g b hb).1;omega,(hp.g b hb).2.imp id λq=>⟨q.1,q.2.eq (yL.same b (hp.g b hb).1 zd)⟩⟩,hp.g0,λO hO b hb=>?_,List.pairwise_append.2 ⟨g4.d,hp.d,λA hA B hB b ha hb=>?_⟩,⟨z6,λb hb hl=>?_⟩⟩,hx G,λ_ h=>h⟩
 ·rcases zV.1 hO with hO|hO
  ·have:=vV O hO b hb
   exact⟨(g4.o O hO b hb).1,.inr z6,λhg=>by have:=(hp.g b hg).1;omega⟩
  ·exact⟨by have:=(hp.o O hO b hb).1;omega,(hp.o O hO b hb).2⟩
 ·have:=vV A hA b ha
  have:=(hp.o B hB b hb).1
  omega
 ·rw [yL.same b z6 zd]
  exact hp.fp.same b hb hl
def ma{β:Type}:List (List Int×β)->List Int->List (List Int×β)
 | [],_=> []
 | (k,u) :: r,xs=>if k=xs then r else(k,u) :: ma r xs
theorem ji{β:Type} :∀(es:List MapEntry) (kvs:List (List Int×β)) (xs:List Int) (i:Nat),es.length=kvs.length->
  (fE es (kvs.map (·.1)) xs i=none/\ma kvs xs=kvs)∨∃j e,fE es (kvs.map (·.1)) xs i=some (i+j,e)/\j < es.length/\ma kvs xs=kvs.eraseIdx j
 | [],[],xs,i,_=> .inl ⟨rfl,rfl⟩
 | [],_ :: _,_,_,h=>by simp at h
 | _ :: _,[],_,_,h=>by simp at h
 | e :: es,(k,v) :: kvs,xs,i,h=>by
  by_cases hx:xs=k
  ·subst hx
   exact .inr ⟨0,e.val,by simp [fE],by simp,by simp [ma]⟩
  ·have c_:¬k=xs:=λe=>hx e.symm
   rcases ji es kvs xs (i+1) (by simpa using h) with⟨h1,h2⟩|⟨j,e',h1,h2,h3⟩
   ·refine .inl ⟨?_, ?_⟩
    ·simp only [List.map_cons,fE,hx,if_false];exact h1
    ·simp only [ma,c_,if_false,h2]
   ·refine .inr ⟨j+1,e', ?_,by simp;omega, ?_⟩
    ·simp only [List.map_cons,fE,hx,if_false,h1];congr 2;omega
    ·simp only [ma,c_,if_false,h3,List.eraseIdx_cons_succ]
section
variable {Γ:Cx} {k:List KI} {e:EA} {o:List yh} {N:NA} {c:xa} {d:Tmp} {ty:TypeId} {x y z:Operand} {t u:TypeId}
/-! ### delete -/
structure BN (Γ:Cx) (c:xa) (t:TypeId) (x y:Operand) (sg:Array TypeId) (ty:TypeId) (e:EA) (o:List yh) (N:NA) (m key:AV):Prop where
 h:sg[0]?=some t->xr e x=some m->xr e y=some key->yN c=true->SA Γ c none (.call { callee:= .builtin .delete,args:=#[x,y],argTypes:=sg }) ty e o N
instance {sg:Array TypeId}:Sp (SA Γ c none (.call { callee:= .builtin .delete,args:=#[x,y],argTypes:=sg }) ty e o N) (Rf (yN c=true) (Lk sg[0]? λt=>Lk (xr e x) λm=>Lk (xr e y) λkey=>BN Γ c t x y sg ty e o N m key)):=⟨λ⟨hc,_,h0,_,h1,_,h2,h⟩=>h.h h0 h1 h2 hc⟩
theorem Ik{P:Program}{tt:Nat->Option TI}{en:Nat->Bool}(ok:xh P tt en){n:Nat}{env:Env}{h:y7}{K:Value->y7->Prop}{p:Nat×Nat×TI}{b:Nat}{xs:List Int}{kv:Value}{es:Array MapEntry}{cl:Nat}{ks:List (List Int)}{sg:Array TypeId}(h0:sg[0]?=some t)(hp:jU tt t=some p)(hf:vR P 4 p.1=true)(hl:xs.length=P.cellsOf p.1)(jR:FV P p.1 xs kv)
  (hx:ev env x=some (.map (some b))) (hy:ev env y=some kv) (hb:h[b]?=some (.map es cl)) (ho:uy P p.1 es.toList ks)
  (kn:fE es.toList ks xs 0=none->K (.tuple #[]) (h.setIfInBounds b (.map es cl)))
  (CI:∀j u,fE es.toList ks xs 0=some (j,u)->K (.tuple #[]) (h.setIfInBounds b (.map (es.eraseIdxIfInBounds j) cl))):Ld P n (.call { callee:= .builtin .delete,args:=#[x,y],argTypes:=sg }) ty env h K:=by
 intro a w oo next Q ha hw YP pv hn
 obtain⟨ti,t1,t2,t3⟩:=sa hp
 have ef:=(ok.ok _ _ t1).map t2
 have sA:w.heap[b]?=some (.map es cl):=hw▸hb
 have ky:=mF hf jR hl es.toList ks ho w
 have lz:∀bb,(Instr.checkKey bb 10000 p.1 kv).run P w= .ok () w:=λbb=>rV bb 4 p.1 hf 10000 zf xs kv hl jR w
 have fin:∀rA,(Builtin.delete_ sg ty #[.map (some b),kv]).run P w= .ok (.tuple #[]) { w with heap:=w.heap.setIfInBounds b (.map rA cl) }->K (.tuple #[]) (h.setIfInBounds b (.map rA cl))->oo.upon P a next Q ((execOp a.eval oo).run P w):=by
  intro rA hr hk
  have wq:(execOp a.eval (yI (.call { callee:= .builtin .delete,args:=#[x,y],argTypes:=sg }) ty)).run P w= .ok (.value (.tuple #[])) { w with heap:=w.heap.setIfInBounds b (.map rA cl) }:=by
   simp [yI,execOp,resolve,invoke,builtin,ha.ev hx,ha.ev hy,hr]
  rw [xj,YP,pv,wq]
  exact hn _ _ (yW.rM sA rfl rfl) (by simp only [hw];exact hk)
 unfold Oper.wp
 cases jV:fE es.toList ks xs 0 with
 | none =>
  rw [jV] at ky
  refine fin es ?_ (kn jV)
  simp [Builtin.delete_,h0,run_underlying ef,MapKept.run_getObj_map sA,lz,ky,MapKept.run_setObj_map _ sA,Result.andThen]
 | some q =>
  obtain⟨j,u⟩:=q
  rw [jV] at ky
  refine fin _ ?_ (CI j u jV)
  simp [Builtin.delete_,h0,run_underlying ef,MapKept.run_getObj_map sA,lz,ky,MapKept.run_setObj_map _ sA,Result.andThen]
theorem mG{α γ:Type}(f:α->γ) :∀(l:List α) (j:Nat),(l.eraseIdx j).map f=(l.map f).eraseIdx j
 | [],_=>by simp
 | _ :: _,0=>by simp
 | a :: l,j+1=>by simp [mG f l j]
theorem cH{l:List Nat}(h:l.Nodup)(j:Nat):(l.eraseIdx j).Nodup:=(List.eraseIdx_sublist l j).nodup h
/-! ### z0G -/
def AV.top:AV:=⟨λ_ _ _=>True,λ_ h=>h,λ_ h=>h⟩
structure Rng (Γ:Cx) (c:xa) (d:Tmp) (t:TypeId) (x:Operand) (ty:TypeId) (e:EA) (o:List yh) (N:NA) (m:AV):Prop where
 h:xr e x=some m->yN c=true->SA Γ c (some d) (.range t x) ty e o N
instance:Sp (SA Γ c (some d) (.range t x) ty e o N) (Rf (yN c=true) (Lk (xr e x) λm=>Rng Γ c d t x ty e o N m)):=⟨λ⟨hc,_,h1,h⟩=>h.h h1 hc⟩
theorem W8{β:Type}{es:List MapEntry}{kvs:List (List Int×β)}(hn:(es.map (·.born)).Nodup)(hl:es.length=kvs.length)(seen:Array Nat){i:Nat}{e:MapEntry}{p:List Int×β}(he:es[i]?=some e)(hp:kvs[i]?=some p)(hs:seen.contains e.born=false) :
  (p :: ((es.zip kvs).filter λq=> !(seen.push e.born).contains q.1.born).map (·.2)).Perm (((es.zip kvs).filter λq=> !seen.contains q.1.born).map (·.2)):=by
 induction es generalizing kvs i with
 | nil=>simp at he
 | cons a es ih =>
  match kvs,hl with
  | q :: kvs,hl =>
   obtain⟨h1,h2⟩:=List.nodup_cons.1 hn
   rw [List.zip_cons_cons]
   cases i with
   | zero =>
    simp only [List.getElem?_cons_zero,Option.some.injEq] at he hp
    subst he;subst hp
    have xq:(es.zip kvs).filter (λq=> !(seen.push a.born).contains q.1.born)=(es.zip kvs).filter λq=> !seen.contains q.1.born:=by
     refine List.filter_congr λq hq=>?_
     have vB:q.1.born≠a.born:=λh=>h1 (List.mem_map.2 ⟨q.1,(List.of_mem_zip hq).1,h⟩)
     have:(seen.push a.born).contains q.1.born=seen.contains q.1.born:=by
      rw [Bool.eq_iff_iff];simp [vB]
     rw [this]
    rw [List.filter_cons_of_neg zd,List.filter_cons_of_pos (by simp only [hs,Bool.not_false]),xq,List.map_cons]
   | succ i =>
    simp only [List.getElem?_cons_succ] at he hp
    have PO:=ih h2 (by simpa using hl) he hp
    have vB:a.born≠e.born:=λh=>h1 (List.mem_map.2 ⟨e,zM he,h.symm⟩)
    have hc:(seen.push e.born).contains a.born=seen.contains a.born:=by
     rw [Bool.eq_iff_iff];simp [vB]
    by_cases jO:seen.contains a.born=true
    ·rw [List.filter_cons_of_neg (by simp only [hc,jO];simp),List.filter_cons_of_neg (by simp only [jO];simp)]
     exact PO
    ·have jO:seen.contains a.born=false:=by simpa using jO
     rw [List.filter_cons_of_pos (by simp only [hc,jO];simp),List.filter_cons_of_pos (by simp only [jO];simp),List.map_cons,List.map_cons]
     exact(List.Perm.swap _ _ _).trans (PO.cons q)
structure Nxi (Γ:Cx) (c:xa) (d:Tmp) (x:Operand) (ty:TypeId) (e:EA) (o:List yh) (N:NA) (m:AV):Prop where
 h:xr e x=some m->yN c=true->SA Γ c (some d) (.next x false) ty e o N
instance:Sp (SA Γ c (some d) (.next x false) ty e o N) (Rf (yN c=true) (Lk (xr e x) λm=>Nxi Γ c d x ty e o N m)):=⟨λ⟨hc,_,h1,h⟩=>h.h h1 hc⟩
structure Rg {β:Type} (rem:List (List Int×β)) (X:List Int×β->List (List Int×β)->Prop) (Y:Prop):Prop where
 x:∀p pB,(p :: pB).Perm rem->X p pB
 y:rem= []->Y
end
def eU(l:List ByteArray)(es:List MapEntry):Prop:=(∀e∈es,∃s∈l,e.key= .string s/\e.val= .bool true)/\∀s∈l,∃e∈es,e.key= .string s
theorem eU.key{l:List ByteArray}{es:List MapEntry}(h:eU l es) :∀e∈es,MapKept.IsKey .string e.key:=λe he=>by
 obtain⟨s,_,h1,_⟩:=h.1 e he
 rw [h1];trivial
def ib(b:Nat)(l:List ByteArray):yh :=
  ⟨λh O _=>(∀x,O x↔x=b)/\∃es cl,h[b]?=some (.map es cl)/\eU l es.toList,
   by rintro h h' O G x ⟨ho,es,cl,h1,h2⟩;exact⟨ho,es,cl,(x.same b (.inl ((ho b).2 rfl)) (zA.1 h1).1).trans h1,h2⟩,
   by rintro h O G G' _ h2;exact h2,
   by rintro h O G ⟨ho,es,cl,h1,_⟩ y hy;rw [(ho y).1 hy];exact NC.of h1 rfl⟩
def AV.rs(l:List ByteArray):AV :=
  ⟨λh G v=>∃b es cl,v= .map (some b)/\G b/\b < h.size/\h[b]?=some (.map es cl)/\eU l es.toList,
   by rintro h h' G v x ⟨b,es,cl,h1,h2,h3,h4,h5⟩;exact⟨b,es,cl,h1,h2,Nat.lt_of_lt_of_le h3 x.size,(x.same b h2 h3).trans h4,h5⟩,
   by rintro h G G' v x ⟨b,es,cl,h1,h2,h3⟩;exact⟨b,es,cl,h1,x b h2,h3⟩⟩
instance {l:List ByteArray}:qt (AV.rs l):=⟨by rintro h G v ⟨b,_,_,rfl,_⟩;rfl⟩
theorem OX.set{P:Program}{β:Type}{o rest:List yh}{b:Nat}{kt:TypeId}{f:β->AV}(tk:Take o (vg P b kt ([]:List (List Int×β)) f) rest):OX o (ib b [] :: rest):=⟨λ{h0 G0 O0 h G Os} c=>by
 obtain⟨O,nO,c2⟩:=c.take tk
 obtain⟨ho,es,cl,h1,h2,_⟩:=c2.own.1
 have he:es.toList= []:=by simpa using h2.len
 exact⟨G,O :: nO,c2.perm ⟨⟨ho,es,cl,h1,by rw [he];exact⟨λe h=>(by cases h),λs h=>(by cases h)⟩⟩,c2.own.2⟩ (List.Perm.refl _),λ_ h=>h⟩⟩
noncomputable instance (s:ByteArray) (l:List ByteArray):Decidable (s∈l):=zC _
structure bz (o:List yh) (b:Nat) (k:List ByteArray->List yh->Prop):Prop where
 ok:∃l rest,Take o (ib b l) rest/\k l rest
theorem bz.r{o rest:List yh}{b:Nat}{k:List ByteArray->List yh->Prop}{l:List ByteArray}(h:Take o (ib b l) rest)(hk:k l rest):bz o b k:=⟨l,rest,h,hk⟩
section
variable {Γ:Cx} {k:List KI} {e:EA} {o:List yh} {N:NA} {c:xa} {d:Tmp} {ty:TypeId} {x y z:Operand} {t u:TypeId}
theorem QS{P:Program}{tt:Nat->Option TI}{en:Nat->Bool}(ok:xh P tt en){n:Nat}{env:Env}{h:y7}{op:Op}{K:Value->y7->Prop}{p:Nat×Nat×TI}{tk:TI}{b:Nat}{s:ByteArray}{es:Array MapEntry}{cl:Nat}{l:List ByteArray}(nU:op= .insert t x y z∨op= .mapUpdate t x y z)(hp:jU tt t=some p)(hk:tt p.1=some tk)(hs:tk.kind= .str)
  (hx:ev env x=some (.map (some b))) (hy:ev env y=some (.string s)) (hz:ev env z=some (.bool true)) (hb:h[b]?=some (.map es cl)) (ho:eU l es.toList)
  (kn:∀rA jX h',h'=h.setIfInBounds b (.map rA jX)->eU (l ++ [s]) rA.toList->K undef h'):Ld P n op ty env h K:=by
 intro a w oo next Q ha hw YP pv hn
 obtain⟨ti,t1,t2,t3⟩:=sa hp
 have ef:=(ok.ok _ _ t1).map t2
 have R4:=(ok.ok _ _ hk).str hs
 have sA:w.heap[b]?=some (.map es cl):=hw▸hb
 have lz:∀bb,(Instr.checkKey bb 10000 p.1 (.string s)).run P w= .ok () w:=λbb=>MapKept.run_checkKey R4 (d:= .string) (k:= .string s) trivial bb 9999
 have fin:∀rA jX,(Instr.mapUpdate t (.map (some b)) (.string s) (.bool true)).run P w= .ok () { w with heap:=w.heap.setIfInBounds b (.map rA jX) }->eU (l ++ [s]) rA.toList->oo.upon P a next Q ((execOp a.eval oo).run P w):=by
  intro rA jX hr pC
  have wq:(execOp a.eval (yI op ty)).run P w= .ok .skip { w with heap:=w.heap.setIfInBounds b (.map rA jX) }:=by
   rcases nU with rfl|rfl <;> simp [yI,execOp,ha.ev hx,ha.ev hy,ha.ev hz,hr]
  rw [xj,YP,pv,wq]
  exact hn _ _ (yW.rM sA rfl rfl) (kn rA jX _ (by simp only [hw]) pC)
 unfold Oper.wp
 rcases MapKept.findNow_spec (d:= .string) (k:= .string s) trivial es.toList 0 ho.key with⟨h1,h2⟩|⟨j,e0,h1,h2,h3⟩
 ·have ky:=MapKept.run_findKey (w:=w) R4 h1
  refine fin (es.push { key:= .string s,val:= .bool true,born:=cl }) (cl+1) ?_ ⟨λe he=>?_,λq hq=>?_⟩
  ·simp only [Instr.mapUpdate,Sem.run_bind,run_underlying ef,Result.andThen_ok,MapKept.run_getObj_map sA,lz,ky,MapKept.run_setObj_map _ sA]
  ·rw [Array.toList_push,zV,zH] at he
   rcases he with he|rfl
   ·obtain⟨q,hq,h9⟩:=ho.1 e he
    exact⟨q,List.mem_append_left _ hq,h9⟩
   ·exact⟨s,by simp,rfl,rfl⟩
  ·rw [Array.toList_push]
   rcases zV.1 hq with hq|hq
   ·obtain⟨e,he,h9⟩:=ho.2 q hq
    exact⟨e,List.mem_append_left _ he,h9⟩
   ·rw [zH.1 hq]
    exact⟨_,List.mem_append_right _ (zH.2 rfl),rfl⟩
 ·have ky:=MapKept.run_findKey (w:=w) R4 h1
  rw [Nat.zero_add] at ky
  have Bl:es[j]?=some e0:=by simpa using h2
  have VN:(Instr.keyThatStays (.string s) (.string s)).run P w= .ok (.string s) w:=MapKept.run_keyThatStays (d:= .string) (k:= .string s) trivial
  refine fin (es.modify j λe=>{ e with key:= .string s,val:= .bool true }) cl ?_ ⟨λe he=>?_,λq hq=>?_⟩
  ·simp only [Instr.mapUpdate,Sem.run_bind,run_underlying ef,Result.andThen_ok,MapKept.run_getObj_map sA,lz,ky,Bl,Option.map_some,Option.getD_some,h3,VN,MapKept.run_setObj_map _ sA]
  ·obtain⟨i,hi⟩:=zO he
   rw [Array.toList_modify,List.getElem?_modify] at hi
   obtain⟨e1,he1,rfl⟩:=Option.map_eq_some_iff.1 hi
   split
   ·exact⟨s,by simp,rfl,rfl⟩
   ·obtain⟨q,hq,h9⟩:=ho.1 e1 (zM he1)
    exact⟨q,List.mem_append_left _ hq,h9⟩
  ·have ik:∀(i:Nat) (e1:MapEntry),es.toList[i]?=some e1->∃e∈(es.modify j λe=>{ e with key:= .string s,val:= .bool true }).toList,e=if j=i then { e1 with key:= .string s,val:= .bool true } else e1:=λi e1 hi=>by
    refine⟨_,zM (i:=i) ?_,rfl⟩
    rw [Array.toList_modify,List.getElem?_modify,hi]
    by_cases py:j=i <;> simp [py]
   rcases zV.1 hq with hq|hq
   ·obtain⟨e,he,h9⟩:=ho.2 q hq
    obtain⟨i,hi⟩:=zO he
    obtain⟨e',Gn,Y_⟩:=ik i e hi
    refine⟨e',Gn, ?_⟩
    rw [Y_]
    by_cases py:j=i
    ·rw [if_pos py]
     subst py
     rw [h2] at hi;cases hi
     rw [<-h9,h3]
    ·rw [if_neg py];exact h9
   ·rw [zH.1 hq]
    obtain⟨e',Gn,Y_⟩:=ik j e0 h2
    exact⟨e',Gn,by rw [Y_,if_pos rfl]⟩
instance (priority:=1100) {op:Op} {b:Nat} {s:ByteArray}:Sp (Cs Γ c op t x y z ty e o N (.val (.map (some b))) (.val (.string s)) (.val (.bool true))) (Lk (jU Γ.tt t) λp=>Lk (Γ.tt p.1) λtk=>Rf (tk.kind= .str) (bz o b λl rest=>N e (ib b (l ++ [s]) :: rest))):=⟨λ⟨p,hp,tk,hk,hs,l,rest,CD,hn⟩=>⟨λnU ha hb hv hc=>⟨λenv hh G Os cn=>by
 obtain⟨m,g1,rfl⟩:=cn.get ha
 obtain⟨kv,g2,rfl⟩:=cn.get hb
 obtain⟨vv,g3,rfl⟩:=cn.get hv
 obtain⟨O,yz,yT⟩:=cn.take CD
 obtain⟨⟨ho,es,cl,qg,pC⟩,_⟩:=yT.hp.own
 have xC:=(zA.1 qg).1
 refine .th hc (QS Γ.ok nU hp hk hs g1 g2 g3 qg pC λrA jX h' he D7=>?_)
 subst he
 have hx:uo (λy=>¬O y) hh (hh.setIfInBounds b (.map rA jX)):=⟨by simp,λy hy hl=>by rw [Array.getElem?_setIfInBounds,if_neg (λe9=>hy ((ho y).2 e9.symm))]⟩
 exact CN.mk (yT.jT (R':=ib b (l ++ [s])) (O':=O) hx (λy hy=>⟨by have:=(yT.hp.o O zd y hy).1;simpa using this,.inl hy⟩) ⟨ho,rA,jX,by simp [xC],D7⟩) hn⟩⟩⟩
theorem St.Yk{γ:Type}[Membership Nat γ]{fp:γ}{P:Program}{tt:Nat->Option TI}{en:Nat->Bool}(Hb:xh P tt en){n:Nat}{env:Env}{h:y7}{N':Env->y7->Prop}{p:Nat×Nat×TI}{tk:TI}{b:Nat}{s:ByteArray}{es:Array MapEntry}{cl:Nat}{l:List ByteArray}(hc:wT c=true)(hp:jU tt t=some p)(hk:tt p.1=some tk)(hs:tk.kind= .str)(hz:p.2.2.zero= .bool false)
  (hx:ev env x=some (.map (some b))) (hy:ev env y=some (.string s)) (hb:h[b]?=some (.map es cl)) (ho:eU l es.toList) (gQ:b ∉ fp) (k:N' ((d,.bool (decide (s∈l))) :: env) h):St P n fp c (some d) (.lookup t x y false) ty env h N':=by
 refine .Rm hc (v:= .bool (decide (s∈l))) (λa w ha hw=>?_) k
 obtain⟨ti,t1,t2,t3⟩:=sa hp
 have ef:=(Hb.ok _ _ t1).map t2
 have R4:=(Hb.ok _ _ hk).str hs
 have xC:=(zA.1 hb).1
 have sA:w.heap[b]?=some (.map es cl):=(hw.same b xC gQ).trans hb
 have lz:∀bb,(Instr.checkKey bb 10000 p.1 (.string s)).run P w= .ok () w:=λbb=>MapKept.run_checkKey R4 (d:= .string) (k:= .string s) trivial bb 9999
 have CK:=(Hb.ok _ _ t3).rj w
 rcases MapKept.findNow_spec (d:= .string) (k:= .string s) trivial es.toList 0 ho.key with⟨h1,h2⟩|⟨j,e0,h1,h2,h3⟩
 ·have ky:=MapKept.run_findKey (w:=w) R4 h1
  have hn:s ∉ l:=λhm=>by
   obtain⟨e,he,h9⟩:=ho.2 s hm
   exact h2 e he h9
  rw [zF hn]
  simp only [yI,execOp,ha.ev hx,ha.ev hy,Instr.lookup,Sem.run_bind,run_underlying ef,Result.andThen_ok,MapKept.run_getObj_map sA,Sem.run_pure,lz,ky,CK,hz]
  rfl
 ·have ky:=MapKept.run_findKey (w:=w) R4 h1
  obtain⟨q,hq,h5,h6⟩:=ho.1 e0 (zM h2)
  have hm:s∈l:=by
   rw [h3] at h5
   injection h5 with h5
   rw [h5];exact hq
  rw [zT hm]
  simp only [yI,execOp,ha.ev hx,ha.ev hy,Instr.lookup,Sem.run_bind,run_underlying ef,Result.andThen_ok,MapKept.run_getObj_map sA,Sem.run_pure,lz,ky,h6]
  rfl
instance (priority:=1100) {b:Nat} {s:ByteArray}:Sp (HL Γ c d t x y false ty e o N (.val (.map (some b))) (.val (.string s))) (ZB Γ.fp c (Lk (jU Γ.tt t) λp=>Lk (Γ.tt p.1) λtk=>Rf (tk.kind= .str) (Rf (p.2.2.zero= .bool false) (bz o b λl _=>N ((d,.val (.bool (decide (s∈l)))) :: e) o)))):=⟨λ⟨gQ,p,hp,tk,hk,hs,hz,l,rest,CD,hn⟩=>⟨λha hb hc=>⟨λenv hh G Os cn=>by
 obtain⟨m,g1,rfl⟩:=cn.get ha
 obtain⟨kv,g2,rfl⟩:=cn.get hb
 obtain⟨O,yz,yT⟩:=cn.take CD
 obtain⟨⟨ho,es,cl,qg,pC⟩,_⟩:=yT.hp.own
 exact St.qG hc (λhc Zq=>St.Yk Γ.ok hc hp hk hs hz g1 g2 qg pC Zq (CN.mk (cn.put d (a:= .val (.bool _)) rfl) hn)) (λh=>gQ h _)⟩⟩⟩
instance {l:List ByteArray} {s:ByteArray}:Sp (HL Γ c d t x y false ty e o N (.rs l) (.val (.string s))) (Lk (jU Γ.tt t) λp=>Lk (Γ.tt p.1) λtk=>Rf (tk.kind= .str) (Rf (p.2.2.zero= .bool false) (N ((d,.val (.bool (decide (s∈l)))) :: e) o))):=⟨λ⟨p,hp,tk,hk,hs,hz,hn⟩=>⟨λha hb hc=>⟨λenv hh G Os cn=>by
 obtain⟨m,g1,b,es,cl,rfl,q1,q2,q3,q4⟩:=cn.get ha
 obtain⟨kv,g2,rfl⟩:=cn.get hb
 exact St.qG hc (λhc Zq=>St.Yk Γ.ok hc hp hk hs hz g1 g2 q3 q4 Zq (CN.mk (cn.put d (a:= .val (.bool _)) rfl) hn)) (λ_=>cn.nf.o_ q1)⟩⟩⟩
end
theorem yJ.fzS{P:Program}{f:FuncId}{yM:List AV}{own:List yh}{l:List ByteArray}(h:yJ P f yM own λr o=>∃b,r= .val (.map (some b))/\o= [ib b l]):yJ P f yM own λq o=>q= .rs l/\o= [] :=
 ⟨λhh G Os vs h1 h2 ha=>(h.run hh G Os vs h1 h2 ha).mono λv' h' ⟨r,o,G',yz,⟨b,e1,e2⟩,g1,g2⟩=>by
  subst e1;subst e2
  have g1:v'=_:=g1
  subst g1
  match yz,g2.own with
  | O :: [],ho =>
   have c3:=g2.freeze
   obtain⟨⟨h3,es,cl,h4,h5⟩,_⟩:=ho
   exact⟨_,_,_,_,⟨rfl,rfl⟩,⟨b,es,cl,rfl,.inr ((h3 b).2 rfl),(zA.1 h4).1,h4,h5⟩,c3⟩⟩
end Go.CF
namespace Go.Proofs.YtmjllbjfkafhdaaGreatDoor
open Go Go.CF
theorem gI(s:ByteArray)(j:Nat):yf s j=((s.data[j]?.map λb=>(b.toNat:Int)).getD 0):=by
 unfold yf
 by_cases h:j < s.size
 ·rw [getElem?_pos s j h,getElem?_pos s.data j h];rfl
 ·rw [getElem?_neg s j h,getElem?_neg s.data j h]
theorem se(s:ByteArray)(a b i:Nat)(hb:b<=s.size)(h:a+i < b):yf (s.extract a b) i=yf s (a+i):=by
 rw [gI,gI,ByteArray.data_extract,Array.getElem?_extract,if_pos (by have:s.data.size=s.size:=rfl;omega)]
theorem ub(s:ByteArray)(a:Nat):(s.extract a s.size).size=s.size - a:=by simp
theorem P8(s:ByteArray)(a b c d:Nat)(h2:a+d<=b):(s.extract a b).extract c d=s.extract (a+c) (a+d):=by
 apply ByteArray.ext
 simp only [ByteArray.data_extract,Array.extract_extract]
 congr 1
 omega
theorem aw{a b:ByteArray}(h:a.toList=b.toList):a=b:=by
 rw [ByteArray.toList_eq,ByteArray.toList_eq] at h
 exact ByteArray.ext (Array.ext' h)
theorem Tt{l:List ByteArray}{s:ByteArray}:kR l s↔s∈l:=⟨λ⟨q,hq,he⟩=>by rw [<-aw he];exact hq,λh=>⟨s,h,rfl⟩⟩
noncomputable instance (x:Int):Decidable (isWord x):=zC _
theorem vQ(x:Int):y6 Tryz.prog 283 [.val (.int .u8 x)] (.val (.bool (decide (yH x)))):=by
 refine zy.of pg ye Tryz.func283 rfl Tryz.ntmps283 Tryz.results283 rfl λh0 G0 O0=>?_
 repeat'(first|apply Sp.h|refine Lk.r rfl ?_|refine Rf.mk rfl ?_|refine xA ?_|refine xB ?_|apply Bd.mk|refine xN ?_|intro _)
 all_goals refine Fin.p rfl (vb ?_)
 all_goals first
  | exact zD.2 (by unfold yH;omega)
  | exact(zF (by unfold yH;omega)).symm
theorem uD(x:Int):y6 Tryz.prog 286 [.val (.int .u8 x)] (.val (.bool (decide (isDigit x)))):=by
 refine zy.of pg ye Tryz.func286 rfl Tryz.ntmps286 Tryz.results286 rfl λh0 G0 O0=>?_
 repeat'(first|apply Sp.h|refine Lk.r rfl ?_|refine Rf.mk rfl ?_|refine xA ?_|refine xB ?_|apply Bd.mk|refine xN ?_|intro _)
 all_goals refine Fin.p rfl (vb ?_)
 all_goals first
  | exact zD.2 (by unfold isDigit;omega)
  | exact(zF (by unfold isDigit;omega)).symm
theorem re(x:Int):y6 Tryz.prog 288 [.val (.int .u8 x)] (.val (.bool (decide (wb x)))):=by
 refine zy.of pg ye Tryz.func288 rfl Tryz.ntmps288 Tryz.results288 rfl λh0 G0 O0=>?_
 repeat'(first|apply Sp.h|refine Lk.r rfl ?_|refine Rf.mk rfl ?_|refine xA ?_|refine xB ?_|apply Bd.mk|refine xN ?_|intro _)
 all_goals refine Fin.p rfl (vb ?_)
 all_goals first
  | exact zD.2 (by unfold wb;omega)
  | exact(zT (by unfold wb;omega)).symm
theorem Ju(x:Int):y6 Tryz.prog 285 [.val (.int .u8 x)] (.val (.bool (decide (isWord x)))):=by
 refine zy.of pg ye Tryz.func285 rfl Tryz.ntmps285 Tryz.results285 rfl λh0 G0 O0=>?_
 by_cases hl:yH x
 ·repeat'(first|apply Sp.h|refine Lk.r rfl ?_|refine Rf.mk rfl ?_|refine xA ?_|refine xN ?_|(apply Cl.p (vQ _);focus repeat' constructor)|(apply Cl.p (uD _);focus repeat' constructor))
  all_goals exact Fin.p rfl (vb (zT (show isWord x from .inl hl)).symm)
 ·by_cases hd:isDigit x
  ·repeat'(first|apply Sp.h|refine Lk.r rfl ?_|refine Rf.mk rfl ?_|refine xA ?_|refine xB ?_|refine xN ?_|(apply Cl.p (vQ _);focus repeat' constructor)|(apply Cl.p (uD _);focus repeat' constructor))
   all_goals exact Fin.p rfl (vb (zT (show isWord x from .inr (.inl hd))).symm)
  ·repeat'(first|apply Sp.h|refine Lk.r rfl ?_|refine Rf.mk rfl ?_|refine xB ?_|refine xN ?_|(apply Cl.p (vQ _);focus repeat' constructor)|(apply Cl.p (uD _);focus repeat' constructor))
   refine Fin.p rfl (vb (zD.2 ?_))
   exact⟨λh=> .inr (.inr h),λh=>(h.resolve_left hl).resolve_left hd⟩
theorem QD(x:Int):y6 Tryz.prog 303 [.val (.int .u8 x)] (.val (.bool (decide (x≠10)))):=by
 refine zy.of pg ye Tryz.func303 rfl Tryz.ntmps303 Tryz.results303 rfl λh0 G0 O0=>?_
 repeat'(first|apply Sp.h|refine Lk.r rfl ?_|refine Rf.mk rfl ?_|refine xN ?_|fail)
 all_goals refine Fin.p rfl (vb ?_)
 all_goals exact zD.2 Iff.rfl
structure ab (p:Int->Prop) (s:ByteArray) (n:Nat):Prop where
 le:n<=s.size
 a:∀i,i < n->p (yf s i)
 b:n < s.size->¬p (yf s n)
theorem ab.ex(p:Int->Prop)(s:ByteArray) :∃n,ab p s n:=by
 have key:∀m n:Nat,s.size - n=m->n<=s.size->(∀i,i < n->p (yf s i))->∃n,ab p s n:=by
  intro m
  induction m with
  | zero=>exact λn h1 h2 h3=>⟨n,h2,h3,λh=>z6⟩
  | succ m ih =>
   intro n h1 h2 h3
   by_cases hp:p (yf s n)
   ·refine ih (n+1) z6 z6 λi hi=>?_
    by_cases he:i=n
    ·subst he;exact hp
    ·exact h3 i z6
   ·exact⟨n,h2,h3,λ_=>hp⟩
 exact key _ 0 rfl (zZ _) λi h=>z6
theorem VB{f:FuncId}{p:Int->Prop}[DecidablePred p](WW:en f=true)(hf:∀x,y6 Tryz.prog f [.val (.int .u8 x)] (.val (.bool (decide (p x))))){s:ByteArray}{n:Nat}(hs:s.size<=1000000000)(h:ab p s n):y6 Tryz.prog 284 [sv s,.fn f []] (it n):=by
 refine zy.of pg ye Tryz.func284 rfl Tryz.ntmps284 Tryz.results284 rfl λh0 G0 O0=>?_
 repeat'(first|apply Sp.h|refine Lk.r rfl ?_|refine Rf.mk rfl ?_|fail)
 refine CA.loop (λi:Nat=>⟨[(0,sv s),(1,.fn f []),(5,it i)],[]⟩) (λi=>i<=n) (λi=>n - i) 0 xE (zZ _) ?_
 intro i hi
 have hle:=h.le
 by_cases yd:i < n
 ·have hp:=h.a i yd
  repeat'(first|apply Sp.h|refine Lk.r rfl ?_|refine Rf.mk rfl ?_|refine xA ?_|(apply Rf.mk;{exact z8})|(apply Sx.r;{exact zj};{exact zc})|refine xO ?_|(apply Cl.p (hf _);focus repeat' constructor))
  all_goals first
   | exact PA.lp (i+1) xE ⟨yd,z6⟩
   | exact absurd hp z8
 ·have:i=n:=z6
  subst this
  by_cases u4:i < s.size
  ·have hp:=h.b u4
   repeat'(first|apply Sp.h|refine Lk.r rfl ?_|refine Rf.mk rfl ?_|refine xA ?_|refine xB ?_|refine xN ?_|(apply Rf.mk;{exact z8})|(apply Sx.r;{exact zj};{exact zc})|(apply Cl.p (hf _);focus repeat' constructor))
   all_goals first
    | exact Fin.p rfl rfl
    | exact absurd z8 hp
  ·repeat'(first|apply Sp.h|refine Lk.r rfl ?_|refine Rf.mk rfl ?_|refine xB ?_|refine xN ?_|(apply Cl.p (hf _);(focus repeat'(first|fail))))
   exact Fin.p rfl rfl
theorem TR{s:ByteArray}{a b:Nat}(h:Comm s a b):a<=s.size->ab (λx=>x≠10) (s.extract a s.size) (b - a):=by
 induction h with
 | @stop a h =>
  intro ha
  rw [Nat.sub_self]
  refine⟨zZ _,λi hi=>z6,λh1 h2=>h ⟨?_, ?_⟩⟩
  ·rw [ub] at h1;omega
  ·rw [ub] at h1
   rwa [se s a s.size 0 (Nat.le_refl _) z6] at h2
 | @step a b h1 h2 h3 ih =>
  intro ha
  have ih:=ih h1
  have hle:=h3.le h1
  have hl:=ih.le
  rw [ub] at hl
  have gO:∀i,a+1+i < s.size->yf (s.extract (a+1) s.size) i=yf (s.extract a s.size) (i+1):=λi hi=>by
   rw [se s (a+1) s.size i (Nat.le_refl _) hi,se s a s.size (i+1) (Nat.le_refl _) z6]
   congr 1;omega
  refine⟨by rw [ub];omega,λi hi=>?_,λhb=>?_⟩
  ·cases i with
   | zero=>rw [se s a s.size 0 (Nat.le_refl _) z6];exact h2
   | succ i=>rw [<-gO i z6];exact ih.a i z6
  ·rw [ub] at hb
   have h9:=ih.b (by rw [ub];omega)
   rw [gO _ z6] at h9
   rwa [show b - a=b - (a+1)+1 by omega]
theorem Qa{s:ByteArray}{j:Nat}(hs:s.size<=1000000000)(h:sy s 0 j):y6 Tryz.prog 282 [sv s] (it j):=by
 have Zo:en 303=true:=rfl
 refine zy.of pg ye Tryz.func282 rfl Tryz.ntmps282 Tryz.results282 rfl λh0 G0 O0=>?_
 repeat'(first|apply Sp.h|refine Lk.r rfl ?_|refine Rf.mk rfl ?_|fail)
 refine CA.loop (λa:Nat=>⟨[(0,sv s),(3,it a)],[]⟩) (λa=>a<=s.size/\sy s a j) (λa=>s.size - a) 0 xE ⟨zZ _,h⟩ ?_
 rintro a ⟨ha,h⟩
 cases h with
 | stop hn =>
  by_cases hl:j < s.size
  ·have hw:¬wb (yf s j):=λh9=>hn ⟨hl,.inl h9⟩
   have h35:yf s j≠35:=λh9=>hn ⟨hl,.inr h9⟩
   repeat'(first|apply Sp.h|refine Lk.r rfl ?_|refine Rf.mk rfl ?_|refine xA ?_|refine xB ?_|refine xN ?_|(apply Sx.r;{exact zj};{exact zc})|(apply Cl.p (re _);focus repeat' constructor))
   exact Fin.p rfl rfl
  ·have:j=s.size:=z6
   repeat'(first|apply Sp.h|refine Lk.r rfl ?_|refine Rf.mk rfl ?_|refine xB ?_|refine xN ?_|(apply Cl.p (re _);(focus repeat'(first|fail))))
   exact Fin.p rfl rfl
 | da h1 h2 h3 h4 =>
  repeat'(first|apply Sp.h|refine Lk.r rfl ?_|refine Rf.mk rfl ?_|refine xA ?_|(apply Sx.r;{exact zj};{exact zc})|refine xO ?_|(apply Cl.p (re _);focus repeat' constructor))
  exact PA.lp (a+1) xE ⟨⟨h1,h4⟩,z6⟩
 | GB h1 h2 h3 h4 =>
  rename_i b
  have hw:¬wb (yf s a):=by unfold wb;omega
  have hb:=h3.lt h1 h2
  have CX:=VB Zo QD (s:=s.extract a s.size) (by rw [ub];omega) (TR h3 ha)
  repeat'(first|apply Sp.h|refine Lk.r rfl ?_|refine Rf.mk rfl ?_|refine xA ?_|refine xB ?_|(apply Jx.r;{exact zj};{exact zb})|(apply Sx.r;{exact zj};{exact zc})|refine xO ?_|(apply Cl.p (re _);focus repeat' constructor)|(apply Cl.p (CX);focus repeat' constructor))
  rw [show(a:Int)+((b - a:Nat):Int)=(b:Nat) by omega]
  exact PA.lp b xE ⟨⟨hb.2,h4⟩,z6⟩
end Go.Proofs.YtmjllbjfkafhdaaGreatDoor
namespace Go.CF
open Go
section
variable {Γ:Cx} {k:List KI} {e:EA} {o:List yh} {N:NA} {c:xa} {d:Tmp} {ty:TypeId} {x y z:Operand} {t u:TypeId} {kk:IntKind} {i j:Int}
instance:Sp (tZ Γ c d (.binOp .and t x y u) ty e o N x (.val (.int kk i)) y (.val (.int kk j))) (N ((d,.val (.int kk (bits .and kk i j))) :: e) o):=⟨λhn=>uT hn λ_ _ _ h h' k=> .xH (vZ h h' λw=>by rw [binOp_and];rfl) k⟩
instance:Sp (tZ Γ c d (.binOp .or t x y u) ty e o N x (.val (.int kk i)) y (.val (.int kk j))) (N ((d,.val (.int kk (bits .or kk i j))) :: e) o):=⟨λhn=>uT hn λ_ _ _ h h' k=> .xH (vZ h h' λw=>by rw [binOp_or];rfl) k⟩
instance:Sp (lO Γ c d (.unOp .xor t x) ty e o N x (.val (.int .i64 i))) (N ((d,.val (.int .i64 (bits .xor .i64 (-1) i))) :: e) o):=⟨λhn=>eH (λ_ _=>rfl) hn λ_ _ _ h k=> .xH (λa w ha=>by simp only [yI,execOp,ha.ev h];rfl) k⟩
structure FI (P:Program) (f:FuncId) (g:Array Value->Sem Value):Prop where
 ok:∃fn,P.funcs[f]?=some fn/\(fn.name == "runtime.NumGoroutine")=false/\fn.body.isNone=true/\Extern.findNext fn=none/\Extern.find fn=some g
structure BO (a b:AV) (M:Int->Prop):Prop where
 ok:∃s q,a= .val (.string s)/\b= .val (.int .u8 q)/\M (Go.Lib.indexByte s.data.toList q.toNat.toUInt8)
instance {s:ByteArray} {q:Int} {M:Int->Prop}:Sp (BO (.val (.string s)) (.val (.int .u8 q)) M) (M (Go.Lib.indexByte s.data.toList q.toNat.toUInt8)):=⟨λh=>⟨s,q,rfl,rfl,h⟩⟩
theorem SA.Am{f:FuncId}(hf:FI Γ.P f Extern.BytealgIndexByte.indexByte){sg:Array TypeId}(hc:yN c=true)(h:Lk (xr e x) λa=>Lk (xr e y) λb=>BO a b λr=>N ((d,.val (.int .i64 r)) :: e) o) :
  SA Γ c (some d) (.call { callee:= .value (.func f),args:=#[x,y],argTypes:=sg }) ty e o N:=by
 obtain⟨a,ha,b,hb,s,q,rfl,rfl,hn⟩:=h
 refine⟨λenv hh G Os cn=>?_⟩
 obtain⟨w1,g1,Sw⟩:=cn.get ha
 have Sw:w1=_:=Sw
 subst Sw
 obtain⟨w2,g2,Sv⟩:=cn.get hb
 have Sv:w2=_:=Sv
 subst Sv
 obtain⟨fn,lM,Zv,MQ,Bj,Bi⟩:=hf.ok
 refine St.th hc λa w oo next Q ha' MG nU pv jP=>?_
 have wq:(execOp a.eval (yI (.call { callee:= .value (.func f),args:=#[x,y],argTypes:=sg }) ty)).run Γ.P w= .ok (.value (.int .i64 (Go.Lib.indexByte s.data.toList q.toNat.toUInt8))) w:=by
  have h1:=run_callFunc_extern lM Zv MQ Bj Bi #[.string s,.int .u8 q] w
  rw [Go.Lib.run_indexByteString] at h1
  simp [yI,execOp,resolve,invoke,Deferred.ofValue,ha'.ev g1,ha'.ev g2,ha'.ev (x:= .func f) (v:= .func (.func f) #[] #[]) rfl,h1]
 unfold Oper.wp
 rw [xj,nU,pv,wq]
 exact jP _ w (yW.refl w) (MG▸CN.mk (cn.put d (a:= .val _) rfl) hn)
end
end Go.CF
namespace Go.Proofs.YtmjllbjfkafhdaaGreatDoor
open Go Go.CF
def lu(s:ByteArray)(i:Nat):Bool:=dk (yf s i).toNat
theorem gH(s:ByteArray)(i:Nat):0<=yf s i/\yf s i<=255:=by
 unfold yf
 cases s[i]? with
 | none=>simp
 | some b=>simp;have:=b.toNat_lt;omega
theorem ES{x y:Int}(hx:0<=x/\x < 128)(hy:0<=y/\y < 128):0<=bits .or .u8 x y/\bits .or .u8 x y < 128:=by
 obtain⟨a,rfl⟩:=Int.eq_ofNat_of_zero_le hx.1
 obtain⟨b,rfl⟩:=Int.eq_ofNat_of_zero_le hy.1
 have h1:(BitVec.ofInt 8 (a:Int) ||| BitVec.ofInt 8 (b:Int)).toNat=a ||| b:=by
  rw [BitVec.ofInt_natCast,BitVec.ofInt_natCast,BitVec.toNat_or,BitVec.toNat_ofNat,BitVec.toNat_ofNat,Nat.mod_eq_of_lt z6,Nat.mod_eq_of_lt z6]
 have h2:a ||| b < 128:=Nat.or_lt_two_pow (n:=7) z6 z6
 have h3:bits .or .u8 (a:Int) (b:Int)=((a ||| b:Nat):Int):=by
  show IntKind.wrap .u8 ((BitVec.ofInt 8 (a:Int) ||| BitVec.ofInt 8 (b:Int)).toNat:Int)=_
  rw [h1]
  exact wrap_u8 z6
 rw [h3]
 omega
def im(s:ByteArray):Nat->Nat
 | 0=>0
 | i+1=>im s i+(bif lu s i then 0 else match i with | 0=>1|j+1=>bif lu s j then 1 else 0)
def eD(s:ByteArray):Nat->Int
 | 0=>1
 | i+1=>bif lu s i then 1 else 0
theorem aB(s:ByteArray)(i:Nat):eD s i=0∨eD s i=1:=by
 cases i with
 | zero=>exact .inr rfl
 | succ i=>simp only [eD];cases lu s i <;> simp
theorem IY{w sp:Int}(hw:w=0∨w=1)(hs:sp=0∨sp=1):bits .and .i64 w (bits .xor .i64 (-1) sp)=if w=1/\sp=0 then 1 else 0:=by
 rcases hw with rfl|rfl <;> rcases hs with rfl|rfl <;> decide
theorem Wr(s:ByteArray)(i:Nat):(im s (i+1):Int)=im s i+bits .and .i64 (eD s i) (bits .xor .i64 (-1) (bif lu s i then 1 else 0)):=by
 rw [IY (aB s i) (by cases lu s i <;> simp)]
 simp only [im]
 cases hs:lu s i
 ·simp only [cond_false,and_true]
  cases i with
  | zero=>simp [eD]
  | succ j=>simp only [eD];rcases Bool.eq_false_or_eq_true (lu s j) with h|h <;> simp [h]
 ·simp
theorem fV(s:ByteArray) :∀i,im s i<=i:=by
 intro i
 induction i with
 | zero=>exact Nat.le_refl _
 | succ i ih =>
  simp only [im]
  have:(bif lu s i then 0 else match i with | 0=>1|j+1=>bif lu s j then 1 else 0)<=1:=by
   cases lu s i
   ·simp only [cond_false]
    split
    ·exact Nat.le_refl _
    ·rename_i j;cases lu s j <;> simp
   ·simp
  omega
structure HJ (s:ByteArray) (a j:Nat):Prop where
 le:a<=j/\j<=s.size
 a:∀i,a<=i->i < j->lu s i=true
 b:j < s.size->lu s j=false
inductive X5 (s:ByteArray):Nat->Nat->List (Nat×Nat)->Prop where
 | done {start:Nat} :¬start < s.size->X5 s s.size start []
 | last {start:Nat}:start < s.size->X5 s s.size start [(start,s.size)]
 | word {i start:Nat} {out:List (Nat×Nat)}:i < s.size->lu s i=false->X5 s (i+1) start out->X5 s i start out
 | cut {i start j:Nat} {out:List (Nat×Nat)}:i < s.size->lu s i=true->HJ s (i+1) j->X5 s j j out->X5 s i start ((start,i) :: out)
def PL(s:ByteArray):Nat->Nat->Nat
 | 0,a=>a
 | f+1,a=>bif Nat.blt a s.size && lu s a then PL s f (a+1) else a
theorem Uu{a b:Nat}(h:¬a < b):Nat.blt a b=false:=by
 rw [Bool.eq_false_iff]
 intro h2
 rw [Nat.blt_eq] at h2
 exact h h2
theorem Jd{s:ByteArray} :∀(f a:Nat),s.size - a<=f->a<=s.size->HJ s a (PL s f a):=by
 intro f
 induction f with
 | zero=>exact λa h1 h2=>⟨⟨Nat.le_refl _,h2⟩,λi h3 h4=>by simp only [PL] at h4;omega,λh=>by simp only [PL] at h;omega⟩
 | succ f ih =>
  intro a h1 h2
  simp only [PL]
  by_cases hc:(Nat.blt a s.size && lu s a)=true
  ·rw [hc]
   show HJ s a (PL s f (a+1))
   simp only [Bool.and_eq_true,Nat.blt_eq] at hc
   have:=ih (a+1) z6 z6
   refine⟨⟨by have:=this.le.1;omega,this.le.2⟩,λi h3 h4=>?_,this.b⟩
   by_cases hi:i=a
   ·subst hi;exact hc.2
   ·exact this.a i z6 h4
  ·have tE:(Nat.blt a s.size && lu s a)=false:=by rw [Bool.eq_false_iff];exact hc
   rw [tE]
   show HJ s a a
   refine⟨⟨Nat.le_refl _,h2⟩,λi h3 h4=>z6,λh=>?_⟩
   cases hs:lu s a
   ·rfl
   ·exact absurd (by simp [hs,h]) hc
def Vp(s:ByteArray):Nat->Nat->Nat->List (Nat×Nat)
 | 0,_,_=> []
 | f+1,i,start=>bif Nat.blt i s.size then(bif lu s i then(start,i) :: Vp s f (PL s s.size (i+1)) (PL s s.size (i+1)) else Vp s f (i+1) start) else bif Nat.blt start s.size then [(start,s.size)] else []
theorem P3{s:ByteArray} :∀(f i start:Nat),s.size - i < f->i<=s.size->X5 s i start (Vp s f i start):=by
 intro f
 induction f with
 | zero=>intro i start h;omega
 | succ f ih =>
  intro i start h1 h2
  simp only [Vp]
  by_cases hi:i < s.size
  ·rw [show Nat.blt i s.size=true by simpa using hi,cond_true]
   cases hs:lu s i
   ·exact .word hi hs (ih _ _ z6 z6)
   ·have hk:=Jd (s:=s) s.size (i+1) z6 z6
    have h3:=hk.le
    exact .cut hi hs hk (ih _ _ z6 h3.2)
  ·have:i=s.size:=z6
   subst this
   rw [Uu z6,cond_false]
   by_cases yL:start < s.size
   ·rw [show Nat.blt start s.size=true by simpa using yL];exact .last yL
   ·rw [Uu yL];exact .done yL
theorem X5.le{s:ByteArray}{i start:Nat}{out:List (Nat×Nat)}(h:X5 s i start out):i<=s.size:=by
 cases h with
 | done=>exact Nat.le_refl _
 | last=>exact Nat.le_refl _
 | word h=>omega
 | cut h=>omega
def gV(s:ByteArray)(out:List (Nat×Nat)):List ByteArray:=out.map λp=>s.extract p.1 p.2
theorem dK{α:Type}(acc:List α)(m:Nat)(z y:α):(acc ++ List.replicate (m+1) z).set acc.length y=(acc ++ [y]) ++ List.replicate m z:=by
 rw [List.set_append_right _ _ (Nat.le_refl _),Nat.sub_self,List.replicate_succ,List.set_cons_zero,List.append_assoc]
 rfl
theorem dL{α:Type}(acc:List α)(m:Nat)(z:α):(acc ++ List.replicate (m+1) z)[acc.length]?=some z:=by
 rw [zJ (Nat.le_refl _),Nat.sub_self,List.replicate_succ]
 rfl
theorem z0r:0∈Vv Tryz.prog:=by
 have h:Vv Tryz.prog= [0]:=by kernel_rfl
 rw [h];simp
theorem TL(s:ByteArray)(i0:Nat)(out:List (Nat×Nat))(h7:∀i,i < s.size->yf s i < 128)(hs:s.size<=1000)(kx:HJ s 0 i0)(Gm:X5 s i0 i0 out)(hn:im s s.size=out.length) :
  yJ Tryz.prog 302 [sv s] [] λr own=>∃v,r= .ow v/\own= [yb v 9 1 (gV s out) ur]:=by
 have Va:=z0r
 have Hi:∀k,k < 256->(q9.map AV.val)[k]?=some (.val (.int .u8 (bif dk k then 1 else 0))):=λk hk=>S8 hk
 obtain⟨M_,eM⟩:∃M_,M_=q9.map AV.val:=⟨_,rfl⟩
 rw [<-eM] at Hi
 refine yJ.of pg ye Tryz.func302 rfl Tryz.ntmps302 Tryz.results302 rfl λh0 G0 O0 ga=>?_
 repeat'(first|apply Sp.h|refine Lk.r rfl ?_|refine Rf.mk rfl ?_|fail)
 refine CA.loop (λx:Nat×Int=>⟨[(0,sv s),(3,it (im s x.1:Nat)),(4,it (eD s x.1)),(5,.val (.int .u8 x.2)),(6,it x.1)],[]⟩) (λx=>x.1<=s.size/\0<=x.2/\x.2 < 128) (λx=>s.size - x.1) (0,0) xE ⟨zZ _,by simp,by simp⟩ ?_
 rintro⟨i,b⟩ ⟨hi,q_,rC⟩
 simp only at hi q_ rC
 simp only
 by_cases yd:i < s.size
 ·have hr:=gH s i
  have h9:=h7 i yd
  have hbq:yf s i=(((yf s i).toNat:Nat):Int):=z6
  have rY:=Wr s i
  have ue:=fV s i
  have z4r:=fV s (i+1)
  have WR:=ES ⟨q_,rC⟩ ⟨hr.1,h9⟩
  have ht:=Hi (0+(yf s i).toNat) z6
  rw [Nat.zero_add] at ht
  have Su:eD s (i+1)=bif lu s i then 1 else 0:=rfl
  cases pI:lu s i
  all_goals
   have Av:dk (yf s i).toNat=_:=pI
   rw [pI] at rY Su
   rw [Av] at ht
   simp only [cond_true,cond_false] at ht rY Su
   have ht':=ht
   rw [<-Nat.zero_add (yf s i).toNat] at ht'
   repeat'(first|(apply Lk.r;(focus with_reducible exact ht'))|(apply Jx.r;(focus with_reducible exact hbq);{exact z6})|(apply X4.bT;{exact ga};{exact Va};{exact eM})|apply Sp.h|refine Lk.r rfl ?_|refine Rf.mk rfl ?_|refine xA ?_|(apply Sx.r;{exact zj};{exact zc})|refine xO ?_|(apply r_.i64;{exact zu};{exact z6})|fail)
   rw [<-rY]
   refine PA.lp (i+1,_) ?_ ⟨⟨yd,WR.1,WR.2⟩,by simp only;omega⟩
   simp only [Su]
   exact xE
 have vk:i=s.size:=z6
 subst vk
 have ue:=fV s s.size
 -- what the table says of a byte
 have Xb:∀q,q < s.size->yf s q=(((yf s q).toNat:Nat):Int)/\yf s q < 128/\M_[0+(yf s q).toNat]?=some (.val (.int .u8 (bif lu s q then 1 else 0))):=λq hq=>by
  have hr:=gH s q
  have h9:=h7 q hq
  refine⟨z6,h9, ?_⟩
  rw [Nat.zero_add,Hi _ z6]
  rfl
 repeat'(first|apply Sp.h|refine Lk.r rfl ?_|refine Rf.mk rfl ?_|refine xB ?_|refine xN ?_|refine Rf.mk ⟨rfl,rfl,rfl⟩ ?_|(apply Jx.r;{exact zj};{exact zb})|fail)
 refine yC.r ur ⟨#[]⟩ rfl ?_
 refine⟨λv=>?_⟩
 repeat'(first|apply Sp.h|refine Lk.r rfl ?_|refine Rf.mk rfl ?_|fail)
 refine CA.loop (λi:Nat=>⟨[(0,sv s),(9,.ow v),(10,it (0:Nat)),(12,it i)],[yb v 9 1 (List.replicate (im s s.size) ⟨#[]⟩) ur]⟩) (λi=>i<=i0) (λi=>i0 - i) 0 xE (zZ _) ?_
 intro i nV
 have hi0:=kx.le.2
 by_cases yd:i < i0
 ·obtain⟨g1,g2,g3⟩:=Xb i z6
  rw [kx.a i (zZ _) yd,cond_true] at g3
  repeat'(first|(apply Lk.r;(focus with_reducible exact g3))|(apply Jx.r;(focus with_reducible exact g1);{exact z6})|(apply X4.bT;{exact ga};{exact Va};{exact eM})|apply Sp.h|refine Lk.r rfl ?_|refine Rf.mk rfl ?_|refine xA ?_|refine xB ?_|(apply Sx.r;{exact zj};{exact zc})|refine xO ?_|fail)
  exact PA.lp (i+1) xE ⟨yd,z6⟩
 have vk:i=i0:=z6
 subst vk
 have kT:(i < s.size/\yf s i=(((yf s i).toNat:Nat):Int)/\yf s i < 128/\M_[0+(yf s i).toNat]?=some (.val (.int .u8 0)))∨¬i < s.size:=by
  by_cases u4:i < s.size
  ·obtain⟨g1,g2,g3⟩:=Xb i u4
   rw [kx.b u4,cond_false] at g3
   exact .inl ⟨u4,g1,g2,g3⟩
  ·exact .inr u4
 have g1:yf s i=yf s i:=rfl
 have g3:M_[0]?=M_[0]?:=rfl
 rcases kT with⟨u4,g1,g2,g3⟩|u4
 all_goals
  repeat'(first|(apply Lk.r;(focus with_reducible exact g3))|(apply Jx.r;(focus with_reducible exact g1);{exact z6})|(apply X4.bT;{exact ga};{exact Va};{exact eM})|apply Sp.h|refine Lk.r rfl ?_|refine Rf.mk rfl ?_|refine xA ?_|refine xB ?_|(apply Sx.r;{exact zj};{exact zc})|fail)
  refine CA.loop (λx:Nat×Nat×List ByteArray×List (Nat×Nat)=>⟨[(0,sv s),(9,.ow v),(10,it (x.2.2.1.length:Nat)),(11,it x.2.1),(12,it x.1)],[yb v 9 1 (x.2.2.1 ++ List.replicate x.2.2.2.length ⟨#[]⟩) ur]⟩) (λx=>X5 s x.1 x.2.1 x.2.2.2/\x.2.1<=x.1/\x.2.2.1 ++ gV s x.2.2.2=gV s out/\x.2.2.1.length<=x.1) (λx=>s.size - x.1) (i,i,[],out) ?_ ⟨Gm,Nat.le_refl _,rfl,zZ _⟩ ?_
  ·simp only [List.nil_append,<-hn,List.length_nil]
   exact xE
  rintro⟨i,start,acc,Ac⟩ ⟨hF,yL,bS,rZ⟩
  simp only at hF yL bS rZ
  simp only
  have z4o:=hF.le
  cases hF with
  | done bE =>
   repeat'(first|apply Sp.h|refine Lk.r rfl ?_|refine Rf.mk rfl ?_|refine xB ?_|refine xN ?_|fail)
   simp only [List.length_nil,List.replicate_zero,List.append_nil]
   simp only [gV,List.map_nil,List.append_nil] at bS
   rw [bS]
   exact⟨_,_,.one (.same (.z)),_,rfl,rfl⟩
  | last bf =>
   rw [show [(start,s.size)].length=0+1 from rfl]
   have bo:=dL acc 0 (⟨#[]⟩:ByteArray)
   repeat'(first|apply Sp.h|refine Lk.r rfl ?_|refine Rf.mk rfl ?_|refine xA ?_|refine xB ?_|refine xU ?_|refine xI ?_|refine xJ ?_|refine xV ?_|refine xN ?_|(apply Jx.r;{exact zj};{exact zb})|refine Up.r rfl ?_|fail)
   rw [dK]
   simp only [List.replicate_zero,List.append_nil]
   simp only [gV,List.map_cons,List.map_nil] at bS
   rw [bS]
   exact⟨_,_,.one (.same (.z)),_,rfl,rfl⟩
  | word pU pI Bz =>
   obtain⟨g1,g2,g3⟩:=Xb i pU
   rw [pI,cond_false] at g3
   repeat'(first|(apply Lk.r;(focus with_reducible exact g3))|(apply Jx.r;(focus with_reducible exact g1);{exact z6})|(apply X4.bT;{exact ga};{exact Va};{exact eM})|apply Sp.h|refine Lk.r rfl ?_|refine Rf.mk rfl ?_|refine xA ?_|(apply Sx.r;{exact zj};{exact zc})|refine xO ?_|fail)
   exact PA.lp (i+1,start,acc,Ac) xE ⟨⟨Bz,by simp only;omega,bS,by simp only;omega⟩,by simp only;omega⟩
  | @cut _ _ j bO pU pI SC Bz =>
   obtain⟨g1,g2,g3⟩:=Xb i pU
   rw [pI,cond_true] at g3
   rw [show((start,i) :: bO).length=bO.length+1 from rfl]
   have bo:=dL acc bO.length (⟨#[]⟩:ByteArray)
   repeat'(first|(apply Lk.r;(focus with_reducible exact g3))|(apply Jx.r;(focus with_reducible exact g1);{exact z6})|(apply X4.bT;{exact ga};{exact Va};{exact eM})|apply Sp.h|refine Lk.r rfl ?_|refine Rf.mk rfl ?_|refine xA ?_|refine xB ?_|refine xU ?_|refine xI ?_|refine xJ ?_|refine xV ?_|(apply Jx.r;{exact zj};{exact zb})|refine Up.r rfl ?_|(apply Sx.r;{exact zj};{exact zc})|refine xO ?_|fail)
   rw [dK]
   refine CA.loop (λk:Nat=>⟨[(0,sv s),(9,.ow v),(10,it ((acc.length:Nat)+1)),(12,it k)],[yb v 9 1 (acc ++ [s.extract start i] ++ List.replicate bO.length ⟨#[]⟩) ur]⟩) (λk=>i+1<=k/\k<=j) (λk=>j - k) (i+1) xE ⟨Nat.le_refl _,SC.le.1⟩ ?_
   rintro k ⟨WU,lK⟩
   have Ht:=SC.le.2
   by_cases Cb:k < j
   ·obtain⟨g1,g2,g3⟩:=Xb k z6
    rw [SC.a k WU Cb,cond_true] at g3
    repeat'(first|(apply Lk.r;(focus with_reducible exact g3))|(apply Jx.r;(focus with_reducible exact g1);{exact z6})|(apply X4.bT;{exact ga};{exact Va};{exact eM})|apply Sp.h|refine Lk.r rfl ?_|refine Rf.mk rfl ?_|refine xA ?_|refine xB ?_|(apply Sx.r;{exact zj};{exact zc})|refine xO ?_|fail)
    exact PA.lp (k+1) xE ⟨⟨z6,Cb⟩,z6⟩
   ·have:k=j:=z6
    subst this
    have vu:X5 s k k bO/\k<=k/\(acc ++ [s.extract start i]) ++ gV s bO=gV s out/\(acc ++ [s.extract start i]).length<=k:=by
     refine⟨Bz,Nat.le_refl _, ?_,by simp;omega⟩
     rw [<-bS]
     simp [gV]
    have kT:(k < s.size/\yf s k=(((yf s k).toNat:Nat):Int)/\yf s k < 128/\M_[0+(yf s k).toNat]?=some (.val (.int .u8 0)))∨¬k < s.size:=by
     by_cases u4:k < s.size
     ·obtain⟨g1,g2,g3⟩:=Xb k u4
      rw [SC.b u4,cond_false] at g3
      exact .inl ⟨u4,g1,g2,g3⟩
     ·exact .inr u4
    rcases kT with⟨u4,g1,g2,g3⟩|u4
    all_goals
     repeat'(first|(apply Lk.r;(focus with_reducible exact g3))|(apply Jx.r;(focus with_reducible exact g1);{exact z6})|(apply X4.bT;{exact ga};{exact Va};{exact eM})|apply Sp.h|refine Lk.r rfl ?_|refine Rf.mk rfl ?_|refine xA ?_|refine xB ?_|(apply Sx.r;{exact zj};{exact zc})|fail)
     refine PA.lp (k,k,acc ++ [s.extract start i],bO) ?_ ⟨vu,by simp only;omega⟩
     simp only [zP,List.length_singleton]
     exact xE
def WN:ByteArray:=⟨#[115,111,114,116,32,114,101,108,97,116,105,111,110,32,99,111,117,110,116,101,114,32,115,101,116,32,114,101,103,105,115,116,101,114,32,105,110,118,97,114,105,97,110,116,32,111,112,101,114,97,116,105,111,110,32,107,101,121,32,114,101,102,101,114,101,110,99,101,32,116,111,32,99,111,117,110,116,32,97,99,121,99,108,105,99,32,97,108,108,32,115,117,109,32,105,110,32,97,100,100,119,105,110,115,32,114,101,109,111,118,101,119,105,110,115,32,108,97,115,116,32,109,117,108,116,105,32,104,105,100,101,32,111,114,100,101,114,101,100,32,114,101,113,117,105,114,101,32,104,111,108,100,32,105,110,115,101,114,116,32,100,101,108,101,116,101,32,97,100,100,32,102,114,111,109,32,112,117,116,32,100,114,111,112,32,97,115,115,105,103,110,32,102,111,114,32,119,104,101,114,101,32,97,110,100,32,111,114,32,110,111,116]⟩
def DU:List (Nat×Nat):=Vp WN 300 0 0
theorem Yl:WN.size=212:=by kernel_rfl
theorem D1 :∀i,i < WN.size->yf WN i < 128:=λi hi=>by
 have h:(List.range WN.size).all (λi=>decide (yf WN i < 128))=true:=by kernel_rfl
 exact of_decide_eq_true (List.all_eq_true.1 h i (List.mem_range.2 hi))
theorem z3e:HJ WN 0 0:=⟨⟨Nat.le_refl _,zZ _⟩,λi h1 h2=>z6,λ_=>by kernel_rfl⟩
theorem Ir:X5 WN 0 0 DU:=P3 300 0 0 (by rw [Yl];omega) (zZ _)
theorem It:im WN WN.size=DU.length:=by kernel_rfl
theorem Ip:gV WN DU=cZ:=by kernel_rfl
theorem Iq:cZ.length=35:=rfl
theorem _root_.Go.CF.zo {p:Prop}(h:p:=by (repeat' constructor);first|done|fail):p:=h
theorem aX:yJ Tryz.prog 280 [] [] λr own=>∃b,r= .val (.map (some b))/\own= [ib b cZ]:=by
 have hf:=TL WN 0 DU D1 (by rw [Yl];omega) z3e Ir It
 rw [Ip] at hf
 have hlen:=Iq
 generalize cZ=L at hf hlen ⊢
 refine yJ.of pg ye Tryz.func280 rfl Tryz.ntmps280 Tryz.results280 rfl λh0 G0 O0 ga=>?_
 repeat'(first|apply Sp.h|refine Lk.r rfl ?_|refine Rf.mk rfl ?_|fail)
 refine X2.r (λx:AV=>x) ?_
 refine⟨λb=>?_⟩
 (repeat'(first|(show CA _ _ (Code.region 2 _ _) _ _;apply z_.out)|apply Sp.h|refine Lk.r rfl ?_|fail));any_goals apply z_.mk
 refine CA.own (OX.set z1) ?_
 repeat'(first|apply Sp.h|refine Lk.r rfl ?_|refine Rf.mk rfl ?_|fail)
 (apply Cl.Ve (hf);{exact ga};{exact zo};{exact zo};focus rfl)
 rintro _ _ ⟨v,rfl,rfl⟩
 repeat'(first|apply Sp.h|refine Lk.r rfl ?_|refine xU ?_|fail)
 refine CA.loop (λi:Nat=>⟨[(1,.val (.map (some b))),(5,.ow v),(6,it (L.length:Nat)),(7,it i)],[ib b (L.take i),yb v 9 1 L ur]⟩) (λi=>i<=L.length) (λi=>L.length - i) 0 xE (zZ _) ?_
 intro i hi
 by_cases yd:i < L.length
 ·obtain⟨q,hq⟩:=zz yd
  have hs:L.take (i+1)=L.take i ++ [q]:=by rw [zK,hq];rfl
  repeat'(first|apply Sp.h|refine Lk.r rfl ?_|refine Rf.mk rfl ?_|refine xA ?_|refine xU ?_|refine xI ?_|refine xJ ?_|refine xO ?_|(apply bz.r;{exact z1})|fail)
  rw [<-hs]
  exact PA.lp (i+1) xE ⟨yd,z6⟩
 ·have:i=L.length:=z6
  subst this
  rw [zL]
  repeat'(first|apply Sp.h|refine Lk.r rfl ?_|refine Rf.mk rfl ?_|refine xB ?_|refine xN ?_|fail)
  exact⟨_,_,.one (.same (.z)),_,rfl,rfl⟩
theorem aZ:yV Tryz.prog 280 [] (.rs cZ):=yJ.fzS aX
theorem UL(s:ByteArray):yV Tryz.prog 258 [sv s] (.fn 281 [.ad [sv s] 0,.ad [.rs cZ] 0]):=by
 have hk:=aZ
 generalize cZ=L at hk ⊢
 refine yJ.of pg ye Tryz.func258 rfl Tryz.ntmps258 Tryz.results258 rfl λh0 G0 O0 ga=>?_
 (repeat'(first|(show CA _ _ (Code.region 2 _ _) _ _;apply z_.out)|apply Sp.h|refine Lk.r rfl ?_|refine Rf.mk rfl ?_|refine yc.mk λ_=>?_|refine xT ?_|refine xV ?_|refine xN ?_|(apply Cl.pG (hk);{exact ga};(focus((repeat'(first|exact y3.nil|fail));done)))));any_goals apply z_.mk
 refine CA.xt 1 rfl z1 ?_
 refine CA.xt 3 rfl z1 ?_
 repeat'(first|apply Sp.h|refine Lk.r rfl ?_|refine Rf.mk rfl ?_|refine xN ?_|fail)
 exact Fin.p rfl rfl
/-! ### PE -/
theorem An:FI Tryz.prog 318 Extern.BytealgIndexByte.indexByte :=
 ⟨_,Tryz.func318,by kernel_rfl,by kernel_rfl,by kernel_rfl,by kernel_rfl⟩
instance (priority:=2000) {T:Nat->Ord×(Nat->xa)} {n:Nat} {rs:Array ResultVar} {K:AV->List yh->Prop} {h0:y7} {G0 O0:Nat->Prop} {d:Tmp} {x y:Operand} {sg:Array TypeId} {ty:TypeId} {e:EA} {o:List yh} {N:NA} :
  Sp (SA ⟨Tryz.prog,tt,en,pg,T,n,rs,K,h0,G0,O0,⟨none⟩⟩ .uJ (some d) (.call { callee:= .value (.func 318),args:=#[x,y],argTypes:=sg }) ty e o N)
   (Lk (xr e x) λa=>Lk (xr e y) λb=>BO a b λr=>N ((d,.val (.int .i64 r)) :: e) o):=⟨λh=>SA.Am An rfl h⟩
theorem Iw(s:ByteArray)(x:Int):zy Tryz.prog 315 [sv s,.val (.int .u8 x)] [] λr own=>∃i:Int,r=it i/\own= []:=by
 refine zy.of pg ye Tryz.func315 rfl Tryz.ntmps315 Tryz.results315 rfl λh0 G0 O0=>?_
 repeat'(first|apply Sp.h|refine Lk.r rfl ?_|refine Rf.mk rfl ?_|refine xN ?_|fail)
 exact⟨_,_,.one (.same (.z)),_,rfl,rfl⟩
theorem D3(s:ByteArray)(x:Int):zy Tryz.prog 305 [sv s,.val (.int .u8 x)] [] λr own=>∃i:Int,r=it i/\own= []:=by
 refine zy.of pg ye Tryz.func305 rfl Tryz.ntmps305 Tryz.results305 rfl λh0 G0 O0=>?_
 repeat'(first|apply Sp.h|refine Lk.r rfl ?_|refine Rf.mk rfl ?_|fail)
 refine xW (Iw s x) ?_
 rintro _ _ ⟨i,rfl,rfl⟩
 repeat'(first|apply Sp.h|refine Lk.r rfl ?_|refine xN ?_|fail)
 exact⟨_,_,.one (.same (.z)),_,rfl,rfl⟩
theorem Jr(s q:ByteArray):VY Tryz.prog 314 [sv s,sv q]:=by
 refine zy.of pg ye Tryz.func314 rfl Tryz.ntmps314 Tryz.results314 rfl λh0 G0 O0=>?_
 by_cases h:q.size<=s.size
 ·repeat'(first|apply Sp.h|refine Lk.r rfl ?_|refine Rf.mk rfl ?_|refine xA ?_|refine xN ?_|(apply Jx.r;{exact zj};{exact zb})|fail)
  all_goals exact⟨_,_,.one (.same (.z)),_,rfl,rfl⟩
 ·repeat'(first|apply Sp.h|refine Lk.r rfl ?_|refine Rf.mk rfl ?_|refine xB ?_|refine xN ?_|fail)
  all_goals exact⟨_,_,.one (.same (.z)),_,rfl,rfl⟩
theorem Eo(s q:ByteArray):VY Tryz.prog 304 [sv s,sv q]:=by
 refine zy.of pg ye Tryz.func304 rfl Tryz.ntmps304 Tryz.results304 rfl λh0 G0 O0=>?_
 repeat'(first|apply Sp.h|refine Lk.r rfl ?_|refine Rf.mk rfl ?_|fail)
 refine xW (Jr s q) ?_
 rintro _ _ ⟨b,rfl,rfl⟩
 repeat'(first|apply Sp.h|refine Lk.r rfl ?_|refine xN ?_|fail)
 exact⟨_,_,.one (.same (.z)),_,rfl,rfl⟩
def sy2:List ByteArray:= [⟨#[61,61]⟩,⟨#[33,61]⟩,⟨#[60,61]⟩,⟨#[62,61]⟩,⟨#[46,46]⟩]
theorem mH(s:ByteArray):s.toList=(⟨#[]⟩:ByteArray).toList↔s.size=0:=by
 rw [ByteArray.toList_eq,ByteArray.toList_eq]
 show s.data.toList= []↔s.data.size=0
 rw [<-Array.length_toList,List.length_eq_zero_iff]
theorem mr(s:ByteArray)(hs:s.size<=1000000000):zy Tryz.prog 287 [sv s] [] λr own=>∃n:Nat,r=it n/\own= []/\n<=2:=by
 obtain⟨L,hL⟩:∃L,L=sy2:=⟨_,rfl⟩
 have vB:=mH s
 refine zy.of pg ye Tryz.func287 rfl Tryz.ntmps287 Tryz.results287 rfl λh0 G0 O0=>?_
 (repeat'(first|(show CA _ _ (Code.region 1 _ _) _ _;apply z_.out)|apply Sp.h|refine Lk.r rfl ?_|refine Rf.mk rfl ?_|fail));any_goals apply z_.mk
 (repeat'(first|(show CA _ _ (Code.block 0 _) _ _;apply z_.out)|apply Sp.h|refine Lk.r rfl ?_|refine Rf.mk rfl ?_|apply yc.mk|refine xU ?_|(apply Fk.r;focus repeat' first|infer_instance|constructor)|refine Rf.mk ⟨rfl,rfl,rfl⟩ ?_|intro _));any_goals apply z_.mk
 rename_i v
 apply CA.yR (m:=sy2) (g:=ur)
 focus(repeat constructor)
 focus rfl
 rw [<-hL]
 have hlen:L.length=5:=by rw [hL];rfl
 apply Sp.h
 refine CA.loop (λi:Nat=>⟨[(0,sv s),(5,.ow v),(6,it (5:Int)),(7,it i)],[yb v 9 1 L ur]⟩) (λi=>i<=L.length) (λi=>L.length - i) 0 xE (zZ _) ?_
 intro i hi
 by_cases yd:i < L.length
 ·obtain⟨q,hq⟩:=zz yd
  repeat'(first|apply Sp.h|refine Lk.r rfl ?_|refine Rf.mk rfl ?_|refine xA ?_|refine xU ?_|refine xI ?_|refine xJ ?_|fail)
  refine xW (Eo s q) ?_
  rintro _ _ ⟨b,rfl,rfl⟩
  cases b
  ·repeat'(first|apply Sp.h|refine Lk.r rfl ?_|refine Rf.mk rfl ?_|refine xO ?_|fail)
   exact PA.lp (i+1) xE ⟨yd,z6⟩
  ·repeat'(first|apply Sp.h|refine Lk.r rfl ?_|refine Rf.mk rfl ?_|refine xN ?_|fail)
   exact⟨_,_,.one (.same (.z)),2,rfl,rfl,z6⟩
 ·by_cases hz:s.size=0
  ·have HW:=vB.2 hz
   repeat'(first|apply Sp.h|refine Lk.r rfl ?_|refine Rf.mk rfl ?_|refine xA ?_|refine xB ?_|refine xN ?_|fail)
   exact⟨_,_,.one (.same (.z)),0,rfl,rfl,z6⟩
  ·have HW:¬s.toList=(⟨#[]⟩:ByteArray).toList:=λh=>hz (vB.1 h)
   repeat'(first|apply Sp.h|refine Lk.r rfl ?_|refine Rf.mk rfl ?_|refine xB ?_|(apply Sx.r;{exact zj};{exact zc})|fail)
   refine xW (D3 _ _) ?_
   rintro _ _ ⟨j,rfl,rfl⟩
   repeat'(first|apply Sp.h|refine Lk.r rfl ?_|refine Rf.mk rfl ?_|refine xB ?_|apply Bd.mk|refine xN ?_|intro _)
   ·exact⟨_,_,.one (.same (.z)),1,rfl,rfl,z6⟩
   ·exact⟨_,_,.one (.same (.z)),0,rfl,rfl,z6⟩
theorem WA(s:ByteArray)(h0:0 < s.size)(hs:s.size<=1000000000):VY Tryz.prog 289 [sv s]:=by
 have CT:=mr s hs
 refine zy.of pg ye Tryz.func289 rfl Tryz.ntmps289 Tryz.results289 rfl λh0 G0 O0=>?_
 by_cases hl:yH (yf s 0)
 ·repeat'(first|apply Sp.h|refine Lk.r rfl ?_|refine Rf.mk rfl ?_|refine xA ?_|refine xN ?_|(apply Sx.r;{exact zj};{exact zc})|(apply Cl.p (vQ _);focus repeat' constructor)|(apply Cl.p (uD _);focus repeat' constructor))
  exact⟨_,_,.one (.same (.z)),_,rfl,rfl⟩
 ·by_cases hd:isDigit (yf s 0)
  ·repeat'(first|apply Sp.h|refine Lk.r rfl ?_|refine Rf.mk rfl ?_|refine xA ?_|refine xB ?_|refine xN ?_|(apply Sx.r;{exact zj};{exact zc})|(apply Cl.p (vQ _);focus repeat' constructor)|(apply Cl.p (uD _);focus repeat' constructor))
   exact⟨_,_,.one (.same (.z)),_,rfl,rfl⟩
  ·repeat'(first|apply Sp.h|refine Lk.r rfl ?_|refine Rf.mk rfl ?_|refine xB ?_|(apply Sx.r;{exact zj};{exact zc})|(apply Cl.p (vQ _);focus repeat' constructor)|(apply Cl.p (uD _);focus repeat' constructor))
   refine xW (CT) ?_
   rintro _ _ ⟨n,rfl,rfl,hn⟩
   repeat'(first|apply Sp.h|refine Lk.r rfl ?_|refine xB ?_|refine xN ?_|fail)
   exact⟨_,_,.one (.same (.z)),_,rfl,rfl⟩
end Go.Proofs.YtmjllbjfkafhdaaGreatDoor
