/- Part 4 of the ground of this proof: what its texts say of the model, the program and the plain data; conditions: those that are named. -/
import Derived.Test.YtmjllbjfkafhdaaGreatDoorProg
import Derived.KernelRfl
import Derived.Test.YtmjllbjfkafhdaaGreatDoorRows
import Derived.LaidMore
import Derived.OpenShut
import Derived.MakeChecks
import Derived.Handed
import Derived.Test.YtmjllbjfkafhdaaGreatDoorTie
import Derived.Test.YtmjllbjfkafhdaaGreatDoorCards
import Derived.Test.YtmjllbjfkafhdaaGreatDoorT03
namespace Go.CF
open Go
section
variable {Γ:Cx} {k:List KI} {e:EA} {o:List yh} {N:NA} {c:xa} {d:Tmp} {ty:TypeId} {x y z:Operand} {t u:TypeId} {kk:IntKind} {i:Int}
/-! ### DK -/
def eR:Value->Nat
 | .slice _ _ c=>c
 | _=>0
structure Cpv (Γ:Cx) (c:xa) (d:Tmp) (t:TypeId) (x:Operand) (ty:TypeId) (e:EA) (o:List yh) (N:NA) (a:AV):Prop where
 h:xr e x=some a->SA Γ c (some d) (.call { callee:= .builtin .cap,args:=#[x],argTypes:=#[t] }) ty e o N
instance:Sp (SA Γ c (some d) (.call { callee:= .builtin .cap,args:=#[x],argTypes:=#[t] }) ty e o N) (Lk (xr e x) λa=>Cpv Γ c d t x ty e o N a):=⟨λ⟨_,ha,h⟩=>h.h ha⟩
instance {v:Value}:Sp (Cpv Γ c d t x ty e o N (.ow v)) (Lk (nN Γ.tt t) λ_=>gU o v λ_ _ l _ _=>Im (l.length<=eR v) (N ((d,.val (.int .i64 (eR v:Nat))) :: e) o)):=⟨λ⟨p,hp,α,T,sz,l,f,rest,tk,hn⟩=>⟨λha=>⟨λenv hh G Os cn=>by
 obtain⟨w,g1,rfl,q,len,cap,rfl⟩:=cn.get ha
 obtain⟨O,yz,yT⟩:=cn.take tk
 obtain⟨⟨_,rows,hw,_⟩,_⟩:=yT.hp.own
 obtain⟨ti,t1,t2,_⟩:=xg hp
 have gS:l.length<=cap:=by
  rcases hw.ok with⟨e1,e2⟩|⟨b',of,wR,L,e1,_,_,e2,_⟩
  ·cases e1;omega
  ·cases e1;exact e2
 exact St.cap Γ.ok t1 t2 g1 (CN.mk (cn.put d (a:= .val _) rfl) (hn.k gS))⟩⟩⟩

/-! ### Rows of plain values -/
def wP(r:List Value):List AV:=r.map AV.val
theorem nA{h:y7}{G:Nat->Prop} :∀{vs r:List Value},xb h G vs (wP r)->vs=r
 | [],[],_=>rfl
 | _ :: _,_ :: _,⟨h1,h2⟩=>by
  have h1:_=_:=h1
  rw [h1,nA h2]
 | [],_ :: _,h=>h.elim
 | _ :: _,[],h=>h.elim
theorem pd{h:y7}{G:Nat->Prop} :∀r:List Value,xb h G r (wP r)
 | []=>trivial
 | _ :: r=>⟨rfl,pd r⟩
theorem nz{h:y7}{G:Nat->Prop}{sz:Nat}{rows L:List (List Value)}(hr:Rows h G sz rows L wP):rows=L:=by
 apply List.ext_getElem?
 intro j
 by_cases hj:j < L.length
 ·obtain⟨r,h1⟩:=zS.2 ⟨by rw [hr.len];exact hj,rfl⟩ |> λh=>(⟨_,h⟩:∃r,rows[j]?=some r)
  obtain⟨s,h2⟩:∃s,L[j]?=some s:=⟨_,zE hj⟩
  rw [h1,h2,nA (hr.row j r s h1 h2).t]
 ·rw [zX (by rw [hr.len];omega),zX z6]
structure s6 (sz:Nat) (L:List (List Value)):Prop where
 sz:∀r∈L,r.length=sz
 one:∀r∈L,∀u∈r,u.oneCell'=true
theorem s6.of{h:y7}{G:Nat->Prop}{sz:Nat}{rows L:List (List Value)}(hr:Rows h G sz rows L wP):s6 sz L:=by
 have e:=nz hr
 subst e
 refine⟨hr.sz,λr hm u hu=>?_⟩
 obtain⟨j,hj⟩:=zO hm
 exact(hr.row j r r hj hj).one u hu
theorem s6.rows{sz:Nat}{L:List (List Value)}(hv:s6 sz L)(h:y7)(G:Nat->Prop):Rows h G sz L L wP :=
 ⟨rfl,λj r s h1 h2=>by rw [h1] at h2;cases h2;exact⟨pd r,λu hu=>hv.one r (zM h1) u hu⟩,hv.sz⟩
theorem s6.pE{sz:Nat}{L:List (List Value)}(hv:s6 sz L):L.flatten.length=L.length * sz:=tw L hv.sz
def sS(v:Value)(T:TypeId)(sz:Nat)(L:List (List Value))(m:Nat):yh :=
  ⟨λh O _=>(∀x,O x↔x∈xz v)/\s6 sz L/\L.length<=m/\∃ss,Own h v T sz m (L.flatten ++ ss),
   λx ⟨ho,hv,hl,ss,hb⟩=>⟨ho,hv,hl,ss,by
      rcases hb.ok with h1|⟨b,of,cap,L',e,Oh,h1,h2,h3⟩
      · exact⟨hb.v_,.inl h1⟩
      · exact⟨hb.v_,.inr ⟨b,of,cap,L',e,⟨(x.same b (.inl ((ho b).2 (by simp [e,xz]))) Oh.lt).trans Oh.get⟩,h1,h2,h3⟩⟩⟩,
   λ_ ⟨ho,hv,hl,ss,hb⟩=>⟨ho,hv,hl,ss,hb⟩,
   λ⟨ho,_,_,_,hb⟩ y hy=>hb.nc ((ho y).1 hy)⟩
def AV.ox(v:Value):AV:=⟨λ_ _ u=>u=v/\∃p len cap,v= .slice p len cap,λ_ h=>h,λ_ h=>h⟩
theorem CA.DN{y:Code}(q:Tmp){v:Value}{T sz:Nat}{L:List (List Value)}{rest:List yh}(ht:xd e q=some (.ow v))(tk:Take o (yb v T sz L wP) rest)(h:L.length<=eR v->CA Γ k y ((q,.ox v) :: e) (sS v T sz L L.length :: rest)):CA Γ k y e o:=by
 refine⟨λenv hh G Os cn=>?_⟩
 obtain⟨O,yz,yT⟩:=cn.take tk
 obtain⟨⟨ho,rows,hw,hr⟩,xq⟩:=yT.hp.own
 have hv:=s6.of hr
 have e1:=nz hr
 subst e1
 have c3:vM Γ ⟨e,sS v T sz rows rows.length :: rest⟩ env hh G (O :: yz):=⟨yT.hp.perm ⟨⟨ho,hv,Nat.le_refl _,[],by rw [List.append_nil];exact hw⟩,xq⟩ (List.Perm.refl _),yT.env,yT.nf⟩
 have oP:rows.length<=eR v:=by
  rcases hw.ok with⟨e1,e2⟩|⟨b',of,wR,L,e1,_,_,e2,_⟩
  ·rw [e2];exact zZ _
  ·rw [e1];exact e2
 exact(h oP).h env hh G (O :: yz) (o7 (σ:=⟨e,sS v T sz rows rows.length :: rest⟩) c3 q (λw gN=>by
  obtain⟨w',g1,g2⟩:=cn.env q _ ht
  rw [gN] at g1;cases g1;exact g2) ht)
structure ep (o:List yh) (v:Value) (k:TypeId->Nat->List (List Value)->Nat->List yh->Prop):Prop where
 ok:∃T sz L m rest,Take o (sS v T sz L m) rest/\k T sz L m rest
theorem ep.r{o rest:List yh}{v:Value}{k:TypeId->Nat->List (List Value)->Nat->List yh->Prop}{T:TypeId}{sz m:Nat}{L:List (List Value)}(h:Take o (sS v T sz L m) rest)(hk:k T sz L m rest):ep o v k:=⟨T,sz,L,m,rest,h,hk⟩
instance {q:Operand} {v:Value}:Sp (Ow Γ c d t x (some q) none ty e o N (.ox v)) (Lk (nN Γ.tt t) λp=>ep o v λ_ sz _ m _=>Rf (p.2.size=sz) (Lk (xr e q) λa=>Nb a λi=>Jx i m λj=>N ((d,.os v sz j (m - j)) :: e) o)):=⟨λ⟨p,hp,T,sz,L,m,rest,tk,hz,a,Vb,kk,i,hk,j,u5,SF,hn⟩=>⟨λha=>⟨λenv hh G Os cn=>by
 obtain⟨w,g1,rfl,q',len,cap,rfl⟩:=cn.get ha
 obtain⟨O,yz,yT⟩:=cn.take tk
 obtain⟨⟨_,_,_,ss,hw⟩,_⟩:=yT.hp.own
 have gS:len=m/\m<=cap:=by
  rcases hw.ok with⟨e1,e2⟩|⟨b',of,wR,L',e1,_,_,e2,_⟩
  ·cases e1;omega
  ·cases e1;exact⟨rfl,e2⟩
 obtain⟨rfl,gS⟩:=gS
 exact ny (lo:=some q) (hi:=none) cn hp g1 SF (Nat.le_refl _) gS ⟨kk,i,hk▸Vb,u5⟩ rfl (CN.mk (cn.put d (a:= .os _ sz j (len - j)) ⟨q',_,cap,rfl,z6,by rw [hz]⟩) hn) (.inl zd)⟩⟩⟩
def Ha:Value->Nat->Value
 | .slice p _ c,m=> .slice (vd p 0 0 c) m c
 | v,_=>v
structure kB (i:Int) (L m:Nat) (cp:Nat) (A X:Nat->Prop):Prop where
 ok:∃j:Nat,i=(j:Int)/\j<=cp/\((j<=L/\A j)∨(L<=j/\X j))
theorem kB.short{i:Int}{L m cp:Nat}{A X:Nat->Prop}{j:Nat}(h:i=(j:Int))(h1:j<=cp)(h2:j<=L)(hk:A j):kB i L m cp A X:=⟨j,h,h1,.inl ⟨h2,hk⟩⟩
theorem kB.g_{i:Int}{L m cp:Nat}{A X:Nat->Prop}{j:Nat}(h:i=(j:Int))(h1:j<=cp)(h2:L<=j)(hk:X j):kB i L m cp A X:=⟨j,h,h1,.inr ⟨h2,hk⟩⟩
theorem mu{p:Option Addr}{sz cap:Nat}(hp:∀a,p=some a->a.spot=none):vd p sz 0 cap=p:=by
 unfold vd
 split
 ·rfl
 ·cases p with
  | none=>rfl
  | some a =>
   have:=hp a rfl
   obtain⟨b,of,sp⟩:=a
   simp only at this
   subst this
   simp [yZ]
theorem gn{h:y7}{p:Option Addr}{len cap T sz m:Nat}{R:List Value}(hw:Own h (.slice p len cap) T sz len R)(hm:m<=len):Own h (.slice p m cap) T sz m (R.take (m * sz)):=by
 have hl:=hw.v_
 have C6:m * sz<=len * sz:=zU _ hm
 refine⟨by rw [zN];omega, ?_⟩
 rcases hw.ok with⟨e1,e2⟩|⟨b,of,wR,l,e1,hb,h1,h2,h3⟩
 ·cases e1
  exact .inl ⟨by rw [show m=0 by omega],z6⟩
 ·cases e1
  exact .inr ⟨b,of,cap,l,rfl,hb,h1,z6,by rw [<-h3,List.take_take,Nat.min_eq_left C6]⟩
theorem T3{h:y7}{p:Option Addr}{len cap T sz m:Nat}{R:List Value}(hw:Own h (.slice p len cap) T sz len R)(hm:len<=m)(hc:m<=cap) :∃ss,Own h (.slice p m cap) T sz m (R ++ ss):=by
 have hl:=hw.v_
 have C6:len * sz<=m * sz:=zU _ hm
 rcases hw.ok with⟨e1,e2⟩|⟨b,of,wR,l,e1,hb,h1,h2,h3⟩
 ·cases e1
  obtain rfl:m=0:=z6
  exact⟨[],by simpa using hw⟩
 ·cases e1
  have B5:m * sz<=cap * sz:=zU _ hc
  refine⟨(l.drop (of+len * sz)).take (m * sz - len * sz), ?_,.inr ⟨b,of,cap,l,rfl,hb,h1,hc, ?_⟩⟩
  ·rw [zP,hl,zN,List.length_drop];omega
  ·rw [<-h3,<-List.drop_drop,show m * sz=len * sz+(m * sz - len * sz) by omega,List.take_add]
   simp
theorem U_{h:y7}{p:Option Addr}{len cap T sz m:Nat}{R:List Value}(hw:Own h (.slice p len cap) T sz m R) :∀a,p=some a->a.spot=none:=by
 intro a ha
 rcases hw.ok with⟨e1,e2⟩|⟨b,of,wR,l,e1,_⟩
 ·cases e1;cases ha
 ·cases e1;cases ha;rfl
instance {q:Operand} {v:Value}:Sp (Ow Γ c d t x none (some q) ty e o N (.ox v)) (Lk (nN Γ.tt t) λp=>ep o v λT sz L m rest=>Rf (p.2.size=sz) (Lk (xr e q) λa=>Nb a λi =>
  kB i L.length m (eR v) (λj=>N ((d,.ow (Ha v j)) :: e) (yb (Ha v j) T sz (L.take j) wP :: rest)) (λj=>N ((d,.ox (Ha v j)) :: e) (sS (Ha v j) T sz L j :: rest)))):=⟨λ⟨p,hp,T,sz,L,m,rest,tk,hz,a,Vb,kk,i,hk,j,u5,Bb,hn⟩=>⟨λha=>⟨λenv hh G Os cn=>by
 obtain⟨w,g1,rfl,q',len,cap,rfl⟩:=cn.get ha
 obtain⟨O,yz,yT⟩:=cn.take tk
 obtain⟨⟨ho,hv,Ci,ss,hw⟩,xq⟩:=yT.hp.own
 obtain⟨ti,t1,t2,t3⟩:=xg hp
 have gS:len=m:=by
  rcases hw.ok with⟨e1,e2⟩|⟨b',of,wR,L',e1,_,_,e2,_⟩
  ·cases e1;omega
  ·cases e1;rfl
 subst gS
 have pI:=U_ hw
 have hre:vd q' 0 0 cap=q':=mu pI
 have Az:vd q' p.2.size 0 cap=q':=mu pI
 have hq:xr e q=some (.val (.int kk i)):=hk▸Vb
 obtain⟨vq,Hj,lJ⟩:=cn.get hq
 have lJ:vq=_:=lJ
 subst lJ
 have hblk:∀b,b∈xz (Value.slice q' j cap)↔b∈xz (Value.slice q' len cap):=by intro b;cases q' <;> simp [xz]
 have rB:Ha (.slice q' len cap) j= .slice q' j cap:=by simp only [Ha,hre]
 rw [rB] at hn
 refine St.U3 Γ.ok t1 t2 t3 g1 Hj u5 Bb ?_
 rw [Az]
 rcases hn with⟨O8,hn⟩|⟨O8,hn⟩
 ·have gO:=gn hw (show j<=len by omega)
  have qz:=hv.pE
  have O7:j * sz<=L.length * sz:=zU _ O8
  have he:(L.flatten ++ ss).take (j * sz)=(L.take j).flatten:=by
   rw [xX L j hv.sz,List.take_append_of_le_length z6]
  rw [he] at gO
  have V5:s6 sz (L.take j):=⟨λr hr=>hv.sz r (zW hr),λr hr=>hv.one r (zW hr)⟩
  have c3:vM Γ ⟨e,yb (.slice q' j cap) T sz (L.take j) wP :: rest⟩ env hh G (O :: yz):=⟨yT.hp.perm ⟨⟨λb=>(ho b).trans (hblk b).symm,L.take j,by rw [zN,Nat.min_eq_left O8];exact gO,V5.rows hh G⟩,xq⟩ (List.Perm.refl _),yT.env,yT.nf⟩
  exact CN.mk (c3.put d (a:= .ow _) ⟨rfl,_,_,_,rfl⟩) hn
 ·by_cases lL:j<=len
  ·have gO:=gn hw lL
   have qz:=hv.pE
   have O7:L.length * sz<=j * sz:=zU _ O8
   rw [List.take_append,List.take_of_length_le z6] at gO
   have c3:vM Γ ⟨e,sS (.slice q' j cap) T sz L j :: rest⟩ env hh G (O :: yz):=⟨yT.hp.perm ⟨⟨λb=>(ho b).trans (hblk b).symm,hv,O8,_,gO⟩,xq⟩ (List.Perm.refl _),yT.env,yT.nf⟩
   exact CN.mk (c3.put d (a:= .ox _) ⟨rfl,_,_,_,rfl⟩) hn
  ·obtain⟨jk,hlg⟩:=T3 hw (show len<=j by omega) Bb
   have c3:vM Γ ⟨e,sS (.slice q' j cap) T sz L j :: rest⟩ env hh G (O :: yz):=⟨yT.hp.perm ⟨⟨λb=>(ho b).trans (hblk b).symm,hv,O8,ss ++ jk,by rw [<-List.append_assoc];exact hlg⟩,xq⟩ (List.Perm.refl _),yT.env,yT.nf⟩
   exact CN.mk (c3.put d (a:= .ox _) ⟨rfl,_,_,_,rfl⟩) hn⟩⟩⟩
end
end Go.CF
set_option maxRecDepth 100000
set_option maxHeartbeats 80000000
namespace Go.CF
open Go
def dk(k:Nat):Bool:=Nat.beq k 9 || Nat.beq k 10 || Nat.beq k 11 || Nat.beq k 12 || Nat.beq k 13 || Nat.beq k 32
def q9:List Value:=(List.range 256).map λk=> .int .u8 (bif dk k then 1 else 0)
theorem S8{k:Nat}(h:k < 256):(q9.map AV.val)[k]?=some (.val (.int .u8 (bif dk k then 1 else 0))):=by
 unfold q9
 rw [zG,zG,List.getElem?_range h]
 rfl
def Vv(P:Program):List Nat:=(List.range P.globals.size).filter λg=>(P.globals[g]?).any (·.name == "strings.asciiSpace")
def oY(P:Program)(h:y7)(G:Nat->Prop):Prop:=∀g∈Vv P,G g/\g < h.size/\tP h ⟨g,0,none⟩ q9
theorem oY.mono{P:Program}{h h':y7}{G G':Nat->Prop}(a:oY P h G)(hf:uo G h h')(hg:∀b,G b->G' b):oY P h' G':=λg hm =>
 ⟨hg g (a g hm).1,Nat.lt_of_lt_of_le (a g hm).2.1 hf.size,⟨λj v hv=>jZ.s9 (hf.same _ (by rw [yZ];exact(a g hm).1) (by rw [yZ];exact(a g hm).2.1)) ((a g hm).2.2.get j v hv)⟩⟩
def eZ(P:Program)(h0:y7)(G0 O0:Nat->Prop):Prop:=∀own h G Os,yF h0 G0 O0 own h G Os->oY P h G
structure yJ (P:Program) (f:FuncId) (yM:List AV) (own:List yh) (K:AV->List yh->Prop):Prop where
 run:∀h G Os vs,xb h G vs yM->yF h G (U Os) own h G Os->oY P h G->wS P f vs.toArray h λv h'=>∃r wE G' yz,K r wE/\r.R h' G' v/\yF h G (U Os) wE h' G' yz
def yV(P:Program)(f:FuncId)(yM:List AV)(r:AV):Prop:=yJ P f yM [] λq own=>q=r/\own= []
theorem yJ.of{P:Program}{tt:Nat->Option TI}{en:Nat->Bool}(ok:xh P tt en)(T:Nat->Ord×(Nat->xa)){f:FuncId}{fn:Func}{y:Code}{n:Nat}{rs:Array ResultVar}{yM:List AV}{own:List yh}{K:AV->List yh->Prop}(hf:P.funcs[f]?=some fn)(hb:fn.body=some y)(hn:fn.ntmps=n)(hr:fn.results=rs)(hl:Nat.ble yM.length n=true)
  (hc:∀h0 G0 O0,eZ P h0 G0 O0->CA ⟨P,tt,en,ok,T,n,rs,K,h0,G0,O0,⟨none⟩⟩ [] y (bZ 0 yM) own):yJ P f yM own K:=by
 refine⟨λh G Os vs h1 h2 ha=>?_⟩
 have hx:eZ P h G (U Os):=λown h' G' yz c=>ha.mono (c.fp.mono λb hb ⟨O,hO,ho⟩=>(h2.o O hO b ho).2.2 hb) c.g0
 refine wS.of hf hb hn hr (by rw [h1.len];exact hl) (λv ha hb hs ⟨r,wE,G',yz,g2,g3,g4⟩=>⟨r,wE,G',yz,g2,AV.wm _ (g4.ZF (λb hb=>(h2.g b hb).1) hs) g3,g4.shut (λb hb=>(h2.g b hb).1) hs⟩) (CW.mono (λx e h' hq=>?_) ((hc h G (U Os) hx).h (kL 0 vs) h G Os ⟨h2,pj yM vs 0 h1,l7.none rfl⟩))
 have key:∀(R1 R2:Env->y7->Prop),(∀e h,R1 e h->R2 e h)->∀x e h,PK P n R1 [] x e h->PK P n R2 [] x e h:=by
  intro R1 R2 iK x e h hp
  unfold PK at hp ⊢
  cases x <;> first|exact iK _ _ hp|exact hp
 exact key _ _ (λe h' ⟨v,r,wE,G',yz,g1,g2,g3,g4⟩=>⟨v,g1,r,wE,G',yz,g2,g3,g4⟩) x e h' hq
section
variable {Γ:Cx} {k:List KI} {e:EA} {o:List yh} {N:NA} {c:xa} {d:Tmp} {ty:TypeId} {x y z:Operand} {t u:TypeId}
theorem Cl.Ve{f:FuncId}{yM tK:List AV}{own rest:List yh}{K:AV->List yh->Prop}{M:AV->List yh->Prop}(hc:yJ Γ.P f tK own K)(ga:eZ Γ.P Γ.h0 Γ.G0 Γ.O0)(hv:y3 [] yM tK)(ht:qa o own rest)(hl:(yN c || own.isEmpty)=true)(hm:∀r wE,K r wE->M r (wE ++ rest)):Cl Γ c f yM o M:=by
 refine⟨λ{h G Os vs} hp hr=>?_⟩
 obtain⟨o1,o2,h1,h2,h3⟩:=ht.own hp.own
 have kr:=hp.perm (h1.app h2) h3
 refine(hc.run h G o1 vs (hv.Lb hr) (kr.inner h1) (ga _ _ _ _ hp)).mono λv h' ⟨r,wE,G',yz,g1,g2,g3⟩=>?_
 obtain⟨k1,k2,k3⟩:=kr.call h2 g3
 refine⟨?_,r,_,G',_,hm r wE g1,g2,k1,k2,k3⟩
 simp only [Bool.or_eq_true] at hl
 rcases hl with hl|hl
 ·exact .inl hl
 ·right
  have he:own= []:=by simpa using hl
  subst he
  match o1,h1 with
  | [],_=>exact⟨g3.fp.size,λb hb _=>g3.fp.same b (λ⟨O,hO,_⟩=>by cases hO) hb⟩
theorem Cl.pG{f:FuncId}{yM tK:List AV}{r:AV}{M:AV->List yh->Prop}(hc:yV Γ.P f tK r)(ga:eZ Γ.P Γ.h0 Γ.G0 Γ.O0)(hv:y3 [] yM tK)(hm:M r o):Cl Γ c f yM o M :=
 Cl.Ve hc ga hv .nil (by cases yN c <;> rfl) λr' wE ⟨h1,h2⟩=>by subst h1;subst h2;exact hm
theorem Cl.dh{f:FuncId}{yM tK:List AV}{r:AV}{M:AV->List yh->Prop}[hf:Flat r](hc:yV Γ.P f tK r)(ga:eZ Γ.P Γ.h0 Γ.G0 Γ.O0)(hl:y3 o yM tK)(hm:M r o):Cl Γ c f yM o M:=by
 refine⟨λ{h G Os vs} hp hr=>?_⟩
 have yd:yF h (λb=>G b∨U Os b) (U []) [] h (λb=>G b∨U Os b) [] :=
  ⟨trivial,λb hb=>⟨hb.elim (λh9=>(hp.g b h9).1) (λ⟨O,hO,h9⟩=>(hp.o O hO b h9).1),.inl hb⟩,λ_ h=>h,λO hO=>(by cases hO),List.Pairwise.nil,uo.refl h⟩
 refine(yJ.run hc h _ [] vs (hl.rep hp.own hr) yd ((ga _ _ _ _ hp).mono (uo.refl h) λ_=> .inl)).mono λv h' ⟨r',wE,G',yz,⟨g1,g2⟩,g3,g4⟩=>?_
 subst g1;subst g2
 have yL:tc ([]:List Nat) h h':=⟨g4.fp.size,λb hb _=>g4.fp.same b (λ⟨O,hO,_⟩=>by cases hO) hb⟩
 have hx:∀S,uo S h h':=λS=>⟨yL.size,λb _ hb=>yL.same b hb zd⟩
 have hs:=hp.fp.size
 have px:=yL.size
 refine⟨.inr yL,r',o,G,Os,hm,hf.h _ _ _ _ _ g3,⟨xy.wm (λO _=>hx _) hp.own,λb hb=>⟨by have:=(hp.g b hb).1;omega,(hp.g b hb).2.imp id λq=>⟨q.1,q.2.eq (yL.same b (hp.g b hb).1 zd)⟩⟩,hp.g0,λO hO b hb=>⟨by have:=(hp.o O hO b hb).1;omega,(hp.o O hO b hb).2⟩,hp.d,⟨z6,λb hb hl=>?_⟩⟩,hx G,λ_ h=>h⟩
 rw [yL.same b z6 zd]
 exact hp.fp.same b hb hl
theorem X4.bT(ga:eZ Γ.P Γ.h0 Γ.G0 Γ.O0){g j:Nat}{m:Option Nat}(hg:g∈Vv Γ.P){cs:List AV}(rY:cs=q9.map AV.val)(hn:L8 m cs j λr=>N ((d,r) :: e) o):X4 Γ c d t x ty e o N (.val (.pointer (some ⟨g,j,none⟩))) m :=
 ⟨λha hm hc=>⟨λenv hh G Os cn=>by
  subst rY
  obtain⟨v,h1,rfl⟩:=cn.get ha
  obtain⟨a1,a2,a3⟩:=ga _ hh G Os cn.hp g hg
  refine k8 (of:=0) (vs:=q9) hm hc (by rw [Nat.zero_add];exact h1) a3 ⟨pd q9,λu hu=>?_⟩ hn cn λ_=>cn.nf.o_ a1
  obtain⟨k,-,rfl⟩:=List.mem_map.1 hu
  rfl⟩⟩
theorem yV.calls{P:Program}{f:FuncId}{yM:List AV}{v:Value}{h:y7}{vs:List Value}(hc:yV P f yM (.val v))(hr:xb h (Old h) vs yM)(ha:oY P h (Old h)):wS P f vs.toArray h λx h'=>x=v/\tc ([]:List Nat) h h':=by
 have yd:yF h (Old h) (U []) [] h (Old h) [] :=
  ⟨trivial,λb hb=>⟨hb,.inl hb⟩,λ_ h=>h,λO hO=>(by cases hO),List.Pairwise.nil,uo.refl h⟩
 refine(yJ.run hc h (Old h) [] vs hr yd ha).mono λx h' ⟨r,own,G',yz,⟨g1,g2⟩,g3,g4⟩=>?_
 subst g1;subst g2
 exact⟨g3,g4.fp.size,λb hb _=>g4.fp.same b (λ⟨O,hO,_⟩=>by cases hO) hb⟩
end
section
variable {P:Program} {tt:Nat->Option TI} {en:Nat->Bool} {n:Nat} {env:Env} {h:y7} {N:Env->y7->Prop} {γ:Type} [Membership Nat γ] {fp:γ} {c:xa} {d:Tmp} {ty t u:TypeId} {x y z:Operand} {k1:IntKind}
theorem St.Q8(G:xh P tt en){ti:TI}{s:ByteArray}{i:Int}{j:Nat}(ht:tt t=some ti)(hk:ti.kind= .str)(hx:ev env x=some (.string s))(hy:ev env y=some (.int k1 i))(hi:i=(j:Int))(hj:j<=s.size)(k:N ((d,.string (s.extract j s.size)) :: env) h) :
  St P n fp c (some d) (.slice t x (some y) none none) ty env h N :=
 .xH (v:= .string (s.extract j s.size)) (λa w ha=>by
  subst hi
  have h1:=run_slice_string_from_if w t s k1 (j:Int) ((G.ok _ _ ht).str hk)
  rw [if_pos ⟨z6,z6⟩] at h1
  simp [yI,execOp,ha.ev hx,ha.ev hy,run_sliceAt_string _ _ _ _ _ _ ((G.ok _ _ ht).str hk),h1]) k
theorem St.Q7(G:xh P tt en){ti:TI}{s:ByteArray}{i:Int}{j:Nat}(ht:tt t=some ti)(hk:ti.kind= .str)(hx:ev env x=some (.string s))(hy:ev env y=some (.int k1 i))(hi:i=(j:Int))(hj:j<=s.size)(k:N ((d,.string (s.extract 0 j)) :: env) h) :
  St P n fp c (some d) (.slice t x none (some y) none) ty env h N :=
 .xH (v:= .string (s.extract 0 j)) (λa w ha=>by
  subst hi
  have h1:=run_slice_string_to_if w t s k1 (j:Int) ((G.ok _ _ ht).str hk)
  rw [if_pos ⟨z6,z6⟩] at h1
  simp [yI,execOp,ha.ev hx,ha.ev hy,run_sliceAt_string _ _ _ _ _ _ ((G.ok _ _ ht).str hk),h1]) k
theorem St.Ag{s q:ByteArray}(hx:ev env x=some (.string s))(hy:ev env y=some (.string q))(k:N ((d,.bool (decide (¬s.toList=q.toList))) :: env) h):St P n fp c (some d) (.binOp .neq t x y u) ty env h N :=
 .xH (v:= .bool (decide (¬s.toList=q.toList))) (λa w ha=>by
  have hb:(!(s.toList == q.toList))=decide (¬s.toList=q.toList):=by rw [Bool.eq_iff_iff];simp
  simp [yI,execOp,ha.ev hx,ha.ev hy,binOp_string_neq,eqGuard,hb]) k
end
section
variable {Γ:Cx} {k:List KI} {e:EA} {o:List yh} {N:NA} {c:xa} {d:Tmp} {ty:TypeId} {x y z:Operand} {t u:TypeId} {kk HU:IntKind} {i i':Int}
instance {s q:ByteArray}:Sp (tZ Γ c d (.binOp .neq t x y u) ty e o N x (.val (.string s)) y (.val (.string q))) (N ((d,.val (.bool (decide (¬s.toList=q.toList)))) :: e) o):=⟨λhn=>uT hn λ_ _ _ h h' k=>St.Ag h h' k⟩
instance {s:ByteArray} {lo:Operand}:Sp (Ow Γ c d t x (some lo) none ty e o N (.val (.string s))) (Lk (Γ.tt t) λti=>Rf (ti.kind= .str) (Oy e (some lo) none s.size λa _=>N ((d,.val (.string (s.extract a s.size))) :: e) o)) :=
 ⟨λ⟨_,h1,h2,a,b,h3,h4,hn,⟨_,_,g1,g2⟩,g3⟩=>⟨λha=>⟨λenv hh G Os cn=>by
  obtain⟨v,k1,k2⟩:=cn.get ha
  have k2:v=_:=k2
  subst k2
  obtain⟨v,k3,k4⟩:=cn.get g1
  have k4:v=_:=k4
  subst k4
  exact St.Q8 Γ.ok h1 h2 k1 k3 g2 (Nat.le_trans h3 h4) (CN.mk (cn.put d (a:= .val (.string (s.extract a s.size))) rfl) hn)⟩⟩⟩
instance {s:ByteArray} {hi:Operand}:Sp (Ow Γ c d t x none (some hi) ty e o N (.val (.string s))) (Lk (Γ.tt t) λti=>Rf (ti.kind= .str) (Oy e none (some hi) s.size λ_ b=>N ((d,.val (.string (s.extract 0 b))) :: e) o)) :=
 ⟨λ⟨_,h1,h2,a,b,h3,h4,hn,g3,⟨_,_,g1,g2⟩⟩=>⟨λha=>⟨λenv hh G Os cn=>by
  obtain⟨v,k1,k2⟩:=cn.get ha
  have k2:v=_:=k2
  subst k2
  obtain⟨v,k3,k4⟩:=cn.get g1
  have k4:v=_:=k4
  subst k4
  exact St.Q7 Γ.ok h1 h2 k1 k3 g2 h4 (CN.mk (cn.put d (a:= .val (.string (s.extract 0 b))) rfl) hn)⟩⟩⟩
end
theorem sV.ZO{Γ:Cx}{e:EA}{o:List yh}{a:Tmp}{ty:TypeId}{k:AV->Prop}{b:Nat}{T:TypeId}{x:AV}{rest:List yh}{ti:TI}(ha:xd e a=some (.val (.pointer (some ⟨b,0,none⟩))))(tk:Take o (yr b T [x]) rest)(ht:Γ.tt ty=some ti)(Ge:ti.kind.agg=false)(hk:k x):sV Γ e o [.cell a ty] k:=⟨⟨x,hk,λhr env h G Os cn=>by
 obtain⟨v,g1,g2⟩:=cn.env a _ ha
 have g2:v=_:=g2
 subst g2
 obtain⟨O,yz,yT⟩:=cn.take tk
 obtain⟨⟨_,vs,hb,bg⟩,_⟩:=yT.hp.own
 match vs,bg.t with
 | [v0],⟨hv,_⟩ =>
  have YM:Γ.rs=#[.cell a ty]:=Array.ext' hr
  refine⟨v0, ?_,hv⟩
  rw [YM]
  intro ac w fn ha' hw YT
  rw [z1s YT]
  have k1:=(Γ.ok.ok _ _ ht).fM (w:=w) Ge
  have k3:w.cell? ⟨b,0,none⟩=some v0:=((hb.z1r.cell (j:=0) rfl).shut hw).get w rfl
  simp [ha'.val _ _ g1,asAddr,loadVar,k1,k3]⟩⟩
structure z_ (p:Prop):Prop where
 h:p
theorem z_.out{p:Prop}(h:z_ p):p:=h.h
end Go.CF
namespace Go.Proofs.YtmjllbjfkafhdaaGreatDoor
open Go Go.CF
def ti3:TI := ⟨.int .i64, 1, 8,.int .i64 0⟩ -- int
theorem _root_.Go.CF.z7 {p:Prop}(h:p:=by kernel_rfl):p:=h
theorem B_:yy Tryz.prog 3 ti3:=yy.mk' z7 z7
def ti4:TI := ⟨.bool, 1, 1,.bool false⟩ -- bool
theorem BZ:yy Tryz.prog 4 ti4:=yy.mk' z7 z7
def ti5:TI := ⟨.int .u8, 1, 1,.int .u8 0⟩ -- uint8
theorem BX:yy Tryz.prog 5 ti5:=yy.mk' z7 z7
def ti9:TI := ⟨.str, 1, 16,.string ⟨#[]⟩⟩ -- string
theorem BW:yy Tryz.prog 9 ti9:=yy.mk' z7 z7
def F8:TI := ⟨.int .i32, 1, 4,.int .i32 0⟩ -- int32
theorem Ee:yy Tryz.prog 21 F8:=yy.mk' z7 z7
def F7:TI := ⟨.slice 3, 1, 24,.slice none 0 0⟩ -- []int
theorem Ed:yy Tryz.prog 22 F7:=yy.mk' z7 z7
def F6:TI := ⟨.slice 150, 1, 24,.slice none 0 0⟩ -- []api.Table
theorem Ec:yy Tryz.prog 23 F6:=yy.mk' z7 z7
def F5:TI := ⟨.slice 9, 1, 24,.slice none 0 0⟩ -- []string
theorem Eb:yy Tryz.prog 24 F5:=yy.mk' z7 z7
def F4:TI := ⟨.slice 172, 1, 24,.slice none 0 0⟩ -- []api.Constraint
theorem Ea:yy Tryz.prog 25 F4:=yy.mk' z7 z7
def F3:TI := ⟨.slice 174, 1, 24,.slice none 0 0⟩ -- []api.WI
theorem E9:yy Tryz.prog 26 F3:=yy.mk' z7 z7
def F2:TI := ⟨.slice 142, 1, 24,.slice none 0 0⟩ -- []api.Action
theorem E8:yy Tryz.prog 27 F2:=yy.mk' z7 z7
def F1:TI := ⟨.slice 192, 1, 24,.slice none 0 0⟩ -- []api.FG
theorem E7:yy Tryz.prog 28 F1:=yy.mk' z7 z7
def F0:TI := ⟨.struct [(0, 22, 1), (1, 23, 1), (2, 24, 1), (3, 25, 1), (4, 26, 1), (5, 27, 1), (6, 28, 1)], 7, 168,.agg #[.slice none 0 0,.slice none 0 0,.slice none 0 0,.slice none 0 0,.slice none 0 0,.slice none 0 0,.slice none 0 0]⟩ -- api.Model
theorem E6:yy Tryz.prog 30 F0:=yy.mk' z7 z7
def G_:TI := ⟨.slice 66, 1, 24,.slice none 0 0⟩ -- []api.Event
theorem E5:yy Tryz.prog 31 G_:=yy.mk' z7 z7
def GZ:TI := ⟨.slice 5, 1, 24,.slice none 0 0⟩ -- []uint8
theorem E4:yy Tryz.prog 32 GZ:=yy.mk' z7 z7
def GY:TI := ⟨.slice 102, 1, 24,.slice none 0 0⟩ -- []api.Query
theorem E3:yy Tryz.prog 33 GY:=yy.mk' z7 z7
def GX:TI := ⟨.ptr 133, 1, 8,.pointer none⟩ -- *store.VU
theorem E2:yy Tryz.prog 38 GX:=yy.mk' z7 z7
def GW:TI := ⟨.int .i64, 1, 8,.int .i64 0⟩ -- api.Errno
theorem E1:yy Tryz.prog 40 GW:=yy.mk' z7 z7
def GV:TI := ⟨.slice 231, 1, 24,.slice none 0 0⟩ -- []api.ay
theorem E0:yy Tryz.prog 42 GV:=yy.mk' z7 z7
def GU:TI := ⟨.slice 22, 1, 24,.slice none 0 0⟩ -- [][]int
theorem F_:yy Tryz.prog 43 GU:=yy.mk' z7 z7
def GS:TI := ⟨.slice 43, 1, 24,.slice none 0 0⟩ -- [][][]int
theorem FY:yy Tryz.prog 44 GS:=yy.mk' z7 z7
def GR:TI := ⟨.struct [(0, 22, 1), (1, 3, 1), (2, 22, 1), (3, 42, 1), (4, 43, 1), (5, 44, 1), (6, 22, 1)], 7, 152,.agg #[.slice none 0 0,.int .i64 0,.slice none 0 0,.slice none 0 0,.slice none 0 0,.slice none 0 0,.slice none 0 0]⟩ -- api.z4B
theorem FW:yy Tryz.prog 46 GR:=yy.mk' z7 z7
def GQ:TI := ⟨.struct [(0, 46, 7), (7, 31, 1), (8, 22, 1)], 9, 200,.agg #[.slice none 0 0,.int .i64 0,.slice none 0 0,.slice none 0 0,.slice none 0 0,.slice none 0 0,.slice none 0 0,.slice none 0 0,.slice none 0 0]⟩ -- Si.View
theorem FU:yy Tryz.prog 48 GQ:=yy.mk' z7 z7
def GP:TI := ⟨.func, 1, 8,.nilFunc⟩ -- func([]int, []int) bool
theorem FT:yy Tryz.prog 55 GP:=yy.mk' z7 z7
def GO:TI := ⟨.struct [(0, 3, 1), (1, 3, 1), (2, 3, 1)], 3, 24,.agg #[.int .i64 0,.int .i64 0,.int .i64 0]⟩ -- api.z2j
theorem FR:yy Tryz.prog 62 GO:=yy.mk' z7 z7
def GN:TI := ⟨.struct [(0, 62, 3), (3, 3, 1)], 4, 32,.agg #[.int .i64 0,.int .i64 0,.int .i64 0,.int .i64 0]⟩ -- api.z4A
theorem FQ:yy Tryz.prog 64 GN:=yy.mk' z7 z7
def GM:TI := ⟨.struct [(0, 3, 1), (1, 3, 1), (2, 3, 1), (3, 22, 1), (4, 3, 1), (5, 3, 1), (6, 64, 4), (10, 3, 1), (11, 3, 1), (12, 3, 1)], 13, 120,.agg #[.int .i64 0,.int .i64 0,.int .i64 0,.slice none 0 0,.int .i64 0,.int .i64 0,.int .i64 0,.int .i64 0,.int .i64 0,.int .i64 0,.int .i64 0,.int .i64 0,.int .i64 0]⟩ -- api.Event
theorem FP:yy Tryz.prog 66 GM:=yy.mk' z7 z7
def GL:TI := ⟨.struct [(0, 3, 1), (1, 3, 1)], 2, 16,.agg #[.int .i64 0,.int .i64 0]⟩ -- api.Dot
theorem FO:yy Tryz.prog 70 GL:=yy.mk' z7 z7
def GK:TI := ⟨.slice 38, 1, 24,.slice none 0 0⟩ -- []*store.VU
theorem FN:yy Tryz.prog 86 GK:=yy.mk' z7 z7
def GJ:TI := ⟨.func, 1, 8,.nilFunc⟩ -- func(*store.VU) bool
theorem FM:yy Tryz.prog 91 GJ:=yy.mk' z7 z7
def M0:TI := ⟨.struct [(0, 3, 1), (1, 3, 1)], 2, 16,.agg #[.int .i64 0,.int .i64 0]⟩ -- api.Query
theorem J5:yy Tryz.prog 102 M0:=yy.mk' z7 z7
def N_:TI := ⟨.struct [(0, 22, 1), (1, 3, 1)], 2, 32,.agg #[.slice none 0 0,.int .i64 0]⟩ -- struct { at []int;want int }
theorem J4:yy Tryz.prog 104 N_:=yy.mk' z7 z7
def NZ:TI := ⟨.slice 104, 1, 24,.slice none 0 0⟩ -- []struct { at []int;want int }
theorem J3:yy Tryz.prog 105 NZ:=yy.mk' z7 z7
def NY:TI := ⟨.func, 1, 8,.nilFunc⟩ -- func(api.Event) bool
theorem J2:yy Tryz.prog 107 NY:=yy.mk' z7 z7
def NX:TI := ⟨.slice 148, 1, 24,.slice none 0 0⟩ -- []api.Range
theorem J1:yy Tryz.prog 110 NX:=yy.mk' z7 z7
def NW:TI := ⟨.map 3 3, 1, 8,.map none⟩ -- map[int]int
theorem J0:yy Tryz.prog 112 NW:=yy.mk' z7 z7
def NV:TI := ⟨.func, 1, 8,.nilFunc⟩ -- func(api.Query) bool
theorem K_:yy Tryz.prog 114 NV:=yy.mk' z7 z7
def NU:TI := ⟨.slice 4, 1, 24,.slice none 0 0⟩ -- []bool
theorem KZ:yy Tryz.prog 119 NU:=yy.mk' z7 z7
def NT:TI := ⟨.struct [(0, 22, 1), (1, 119, 1), (2, 43, 1)], 3, 72,.agg #[.slice none 0 0,.slice none 0 0,.slice none 0 0]⟩ -- UQ.UQ
theorem KY:yy Tryz.prog 121 NT:=yy.mk' z7 z7
def NS:TI := ⟨.struct [(0, 22, 1), (1, 3, 1), (2, 22, 1), (3, 42, 1), (4, 22, 1)], 5, 104,.agg #[.slice none 0 0,.int .i64 0,.slice none 0 0,.slice none 0 0,.slice none 0 0]⟩ -- store.now
theorem KX:yy Tryz.prog 131 NS:=yy.mk' z7 z7
def NR:TI := ⟨.struct [(0, 30, 7), (7, 46, 7), (14, 31, 1), (15, 131, 5)], 20, 448,.agg #[.slice none 0 0,.slice none 0 0,.slice none 0 0,.slice none 0 0,.slice none 0 0,.slice none 0 0,.slice none 0 0,.slice none 0 0,.int .i64 0,.slice none 0 0,.slice none 0 0,.slice none 0 0,.slice none 0 0,.slice none 0 0,.slice none 0 0,.slice none 0 0,.int .i64 0,.slice none 0 0,.slice none 0 0,.slice none 0 0]⟩ -- store.VU
theorem KW:yy Tryz.prog 133 NR:=yy.mk' z7 z7
def NQ:TI := ⟨.slice 144, 1, 24,.slice none 0 0⟩ -- []api.Change
theorem KV:yy Tryz.prog 136 NQ:=yy.mk' z7 z7
def NP:TI := ⟨.slice 170, 1, 24,.slice none 0 0⟩ -- []api.Row
theorem KU:yy Tryz.prog 137 NP:=yy.mk' z7 z7
def NO:TI := ⟨.slice 206, 1, 24,.slice none 0 0⟩ -- []api.Uw
theorem KT:yy Tryz.prog 138 NO:=yy.mk' z7 z7
def NN:TI := ⟨.struct [(0, 136, 1), (1, 137, 1), (2, 138, 1)], 3, 72,.agg #[.slice none 0 0,.slice none 0 0,.slice none 0 0]⟩ -- api.z0J
theorem KS:yy Tryz.prog 140 NN:=yy.mk' z7 z7
def NM:TI := ⟨.struct [(0, 3, 1), (1, 22, 1), (2, 140, 3)], 5, 104,.agg #[.int .i64 0,.slice none 0 0,.slice none 0 0,.slice none 0 0,.slice none 0 0]⟩ -- api.Action
theorem KR:yy Tryz.prog 142 NM:=yy.mk' z7 z7
def NL:TI := ⟨.struct [(0, 3, 1), (1, 3, 1)], 2, 16,.agg #[.int .i64 0,.int .i64 0]⟩ -- api.Change
theorem KQ:yy Tryz.prog 144 NL:=yy.mk' z7 z7
def NK:TI := ⟨.struct [(0, 3, 1), (1, 3, 1)], 2, 16,.agg #[.int .i64 0,.int .i64 0]⟩ -- api.Range
theorem KP:yy Tryz.prog 148 NK:=yy.mk' z7 z7
def NJ:TI := ⟨.struct [(0, 9, 1), (1, 3, 1), (2, 22, 1), (3, 148, 2), (5, 3, 1)], 6, 72,.agg #[.string ⟨#[]⟩,.int .i64 0,.slice none 0 0,.int .i64 0,.int .i64 0,.int .i64 0]⟩ -- api.Table
theorem KO:yy Tryz.prog 150 NJ:=yy.mk' z7 z7
def NI:TI := ⟨.slice 208, 1, 24,.slice none 0 0⟩ -- []jL.RX
theorem KN:yy Tryz.prog 151 NI:=yy.mk' z7 z7
def NH:TI := ⟨.func, 1, 8,.nilFunc⟩ -- func(int) []int
theorem KM:yy Tryz.prog 155 NH:=yy.mk' z7 z7
def NG:TI := ⟨.slice 216, 1, 24,.slice none 0 0⟩ -- []api.Span
theorem KL:yy Tryz.prog 157 NG:=yy.mk' z7 z7
def NF:TI := ⟨.struct [(0, 38, 1), (1, 66, 13), (14, 131, 5)], 19, 232,.agg #[.pointer none,.int .i64 0,.int .i64 0,.int .i64 0,.slice none 0 0,.int .i64 0,.int .i64 0,.int .i64 0,.int .i64 0,.int .i64 0,.int .i64 0,.int .i64 0,.int .i64 0,.int .i64 0,.slice none 0 0,.int .i64 0,.slice none 0 0,.slice none 0 0,.slice none 0 0]⟩ -- store.step
theorem KK:yy Tryz.prog 161 NF:=yy.mk' z7 z7
def ND:TI := ⟨.func, 1, 8,.nilFunc⟩ -- func() api.Errno
theorem KJ:yy Tryz.prog 162 ND:=yy.mk' z7 z7
def NB:TI := ⟨.slice 162, 1, 24,.slice none 0 0⟩ -- []func() api.Errno
theorem KH:yy Tryz.prog 163 NB:=yy.mk' z7 z7
def Nz:TI := ⟨.struct [(0, 3, 1), (1, 3, 1)], 2, 16,.agg #[.int .i64 0,.int .i64 0]⟩ -- api.Term
theorem KG:yy Tryz.prog 167 Nz:=yy.mk' z7 z7
def Ny:TI := ⟨.slice 167, 1, 24,.slice none 0 0⟩ -- []api.Term
theorem KF:yy Tryz.prog 168 Ny:=yy.mk' z7 z7
def Nx:TI := ⟨.struct [(0, 168, 1), (1, 3, 1)], 2, 32,.agg #[.slice none 0 0,.int .i64 0]⟩ -- api.Row
theorem KE:yy Tryz.prog 170 Nx:=yy.mk' z7 z7
def Nw:TI := ⟨.struct [(0, 3, 1), (1, 3, 1), (2, 170, 2), (4, 3, 1), (5, 3, 1)], 6, 64,.agg #[.int .i64 0,.int .i64 0,.slice none 0 0,.int .i64 0,.int .i64 0,.int .i64 0]⟩ -- api.Constraint
theorem KD:yy Tryz.prog 172 Nw:=yy.mk' z7 z7
def Nv:TI := ⟨.struct [(0, 9, 1), (1, 4, 1), (2, 22, 1)], 3, 48,.agg #[.string ⟨#[]⟩,.bool false,.slice none 0 0]⟩ -- api.WI
theorem KC:yy Tryz.prog 174 Nv:=yy.mk' z7 z7
def Nu:TI := ⟨.func, 1, 8,.nilFunc⟩ -- func(int) bool
theorem KB:yy Tryz.prog 184 Nu:=yy.mk' z7 z7
def Nt:TI := ⟨.struct [(0, 3, 1), (1, 3, 1), (2, 3, 1)], 3, 24,.agg #[.int .i64 0,.int .i64 0,.int .i64 0]⟩ -- api.FG
theorem KA:yy Tryz.prog 192 Nt:=yy.mk' z7 z7
def Ns:TI := ⟨.struct [(0, 30, 7), (7, 110, 1)], 8, 192,.agg #[.slice none 0 0,.slice none 0 0,.slice none 0 0,.slice none 0 0,.slice none 0 0,.slice none 0 0,.slice none 0 0,.slice none 0 0]⟩ -- model.z2h
theorem Kz:yy Tryz.prog 196 Ns:=yy.mk' z7 z7
def Nr:TI := ⟨.slice 155, 1, 24,.slice none 0 0⟩ -- []func(int) []int
theorem Kx:yy Tryz.prog 203 Nr:=yy.mk' z7 z7
def Nq:TI := ⟨.struct [(0, 3, 1), (1, 3, 1), (2, 3, 1)], 3, 24,.agg #[.int .i64 0,.int .i64 0,.int .i64 0]⟩ -- api.Uw
theorem Kw:yy Tryz.prog 206 Nq:=yy.mk' z7 z7
def Np:TI := ⟨.struct [(0, 66, 13), (13, 206, 3)], 16, 144,.agg #[.int .i64 0,.int .i64 0,.int .i64 0,.slice none 0 0,.int .i64 0,.int .i64 0,.int .i64 0,.int .i64 0,.int .i64 0,.int .i64 0,.int .i64 0,.int .i64 0,.int .i64 0,.int .i64 0,.int .i64 0,.int .i64 0]⟩ -- jL.RX
theorem Kv:yy Tryz.prog 208 Np:=yy.mk' z7 z7
def Nn:TI := ⟨.struct [(0, 3, 1), (1, 3, 1), (2, 3, 1)], 3, 24,.agg #[.int .i64 0,.int .i64 0,.int .i64 0]⟩ -- api.Span
theorem Ku:yy Tryz.prog 216 Nn:=yy.mk' z7 z7
def Nl:TI := ⟨.func, 1, 8,.nilFunc⟩ -- func(int, int) int
theorem Kt:yy Tryz.prog 218 Nl:=yy.mk' z7 z7
def Nk:TI := ⟨.map 227 224, 1, 8,.map none⟩ -- map[merge.A5]func(merge.change) api.Errno
theorem Ks:yy Tryz.prog 220 Nk:=yy.mk' z7 z7
def Nj:TI := ⟨.map 3 206, 1, 8,.map none⟩ -- map[int]api.Uw
theorem Kr:yy Tryz.prog 222 Nj:=yy.mk' z7 z7
def Ni:TI := ⟨.func, 1, 8,.nilFunc⟩ -- func(merge.change) api.Errno
theorem Kq:yy Tryz.prog 224 Ni:=yy.mk' z7 z7
def Nh:TI := ⟨.struct [(0, 3, 1), (1, 3, 1)], 2, 16,.agg #[.int .i64 0,.int .i64 0]⟩ -- merge.A5
theorem Ko:yy Tryz.prog 227 Nh:=yy.mk' z7 z7
def Ng:TI := ⟨.ptr 231, 1, 8,.pointer none⟩ -- *api.ay
theorem Km:yy Tryz.prog 228 Ng:=yy.mk' z7 z7
def Nf:TI := ⟨.slice 233, 1, 24,.slice none 0 0⟩ -- []api.Mark
theorem Kl:yy Tryz.prog 229 Nf:=yy.mk' z7 z7
def Nd:TI := ⟨.struct [(0, 4, 1), (1, 4, 1), (2, 229, 1)], 3, 32,.agg #[.bool false,.bool false,.slice none 0 0]⟩ -- api.ay
theorem Kk:yy Tryz.prog 231 Nd:=yy.mk' z7 z7
def Nc:TI := ⟨.struct [(0, 3, 1), (1, 3, 1), (2, 3, 1), (3, 3, 1)], 4, 32,.agg #[.int .i64 0,.int .i64 0,.int .i64 0,.int .i64 0]⟩ -- api.Mark
theorem Kj:yy Tryz.prog 233 Nc:=yy.mk' z7 z7
def Na:TI := ⟨.struct [(0, 228, 1), (1, 66, 13), (14, 233, 4)], 18, 160,.agg #[.pointer none,.int .i64 0,.int .i64 0,.int .i64 0,.slice none 0 0,.int .i64 0,.int .i64 0,.int .i64 0,.int .i64 0,.int .i64 0,.int .i64 0,.int .i64 0,.int .i64 0,.int .i64 0,.int .i64 0,.int .i64 0,.int .i64 0,.int .i64 0]⟩ -- merge.change
theorem Ki:yy Tryz.prog 235 Na:=yy.mk' z7 z7
def N9:TI := ⟨.func, 1, 8,.nilFunc⟩ -- func(api.Table) bool
theorem Kh:yy Tryz.prog 236 N9:=yy.mk' z7 z7
def N8:TI := ⟨.map 9 4, 1, 8,.map none⟩ -- map[string]bool
theorem Kg:yy Tryz.prog 246 N8:=yy.mk' z7 z7
def N7:TI := ⟨.ptr 3, 1, 8,.pointer none⟩ -- *int
theorem Ke:yy Tryz.prog 248 N7:=yy.mk' z7 z7
def N6:TI := ⟨.func, 1, 8,.nilFunc⟩ -- func(api.Row) bool
theorem Kc:yy Tryz.prog 250 N6:=yy.mk' z7 z7
def N5:TI := ⟨.map 3 4, 1, 8,.map none⟩ -- map[int]bool
theorem Kb:yy Tryz.prog 254 N5:=yy.mk' z7 z7
def N4:TI := ⟨.func, 1, 8,.nilFunc⟩ -- func(api.FG) bool
theorem Ka:yy Tryz.prog 256 N4:=yy.mk' z7 z7
def N3:TI := ⟨.func, 1, 8,.nilFunc⟩ -- func(api.Table, api.ay) bool
theorem K9:yy Tryz.prog 265 N3:=yy.mk' z7 z7
def N0:TI := ⟨.int .u64, 1, 8,.int .u64 0⟩ -- uint
theorem K8:yy Tryz.prog 266 N0:=yy.mk' z7 z7
def O_:TI := ⟨.slice 272, 1, 24,.slice none 0 0⟩ -- []api.Token
theorem K7:yy Tryz.prog 268 O_:=yy.mk' z7 z7
def VA:TI := ⟨.struct [(0, 3, 1), (1, 3, 1), (2, 3, 1), (3, 3, 1)], 4, 32,.agg #[.int .i64 0,.int .i64 0,.int .i64 0,.int .i64 0]⟩ -- api.Token
theorem K6:yy Tryz.prog 272 VA:=yy.mk' z7 z7
def OZ:TI := ⟨.func, 1, 8,.nilFunc⟩ -- func(*api.Event) bool
theorem K5:yy Tryz.prog 290 OZ:=yy.mk' z7 z7
def OY:TI := ⟨.map 3 290, 1, 8,.map none⟩ -- map[int]func(*api.Event) bool
theorem K4:yy Tryz.prog 292 OY:=yy.mk' z7 z7
def OV:TI := ⟨.ptr 66, 1, 8,.pointer none⟩ -- *api.Event
theorem K3:yy Tryz.prog 294 OV:=yy.mk' z7 z7
def OU:TI := ⟨.map 70 4, 1, 8,.map none⟩ -- map[api.Dot]bool
theorem K2:yy Tryz.prog 295 OU:=yy.mk' z7 z7
def OT:TI := ⟨.func, 1, 8,.nilFunc⟩ -- func(api.Mark, api.Mark) int
theorem K1:yy Tryz.prog 298 OT:=yy.mk' z7 z7
def OS:TI := ⟨.func, 1, 8,.nilFunc⟩ -- func(api.Mark) bool
theorem K0:yy Tryz.prog 300 OS:=yy.mk' z7 z7
def OR:TI := ⟨.int .u32, 1, 4,.int .u32 0⟩ -- uint32
theorem L_:yy Tryz.prog 310 OR:=yy.mk' z7 z7
def OQ:TI := ⟨.int .u64, 1, 8,.int .u64 0⟩ -- uint64
theorem LZ:yy Tryz.prog 313 OQ:=yy.mk' z7 z7
def OP:TI := ⟨.func, 1, 8,.nilFunc⟩ -- func(uint8) bool
theorem LY:yy Tryz.prog 324 OP:=yy.mk' z7 z7
def OO:TI := ⟨.int .i64, 1, 8,.int .i64 0⟩ -- slices.H7
theorem LX:yy Tryz.prog 330 OO:=yy.mk' z7 z7
def OM:TI := ⟨.int .u64, 1, 8,.int .u64 0⟩ -- slices.DG
theorem LW:yy Tryz.prog 341 OM:=yy.mk' z7 z7
def OL:TI := ⟨.array 256 5, 256, 256,.agg #[.int .u8 0,.int .u8 0,.int .u8 0,.int .u8 0,.int .u8 0,.int .u8 0,.int .u8 0,.int .u8 0,.int .u8 0,.int .u8 0,.int .u8 0,.int .u8 0,.int .u8 0,.int .u8 0,.int .u8 0,.int .u8 0,.int .u8 0,.int .u8 0,.int .u8 0,.int .u8 0,.int .u8 0,.int .u8 0,.int .u8 0,.int .u8 0,.int .u8 0,.int .u8 0,.int .u8 0,.int .u8 0,.int .u8 0,.int .u8 0,.int .u8 0,.int .u8 0,.int .u8 0,.int .u8 0,.int .u8 0,.int .u8 0,.int .u8 0,.int .u8 0,.int .u8 0,.int .u8 0,.int .u8 0,.int .u8 0,.int .u8 0,.int .u8 0,.int .u8 0,.int .u8 0,.int .u8 0,.int .u8 0,.int .u8 0,.int .u8 0,.int .u8 0,.int .u8 0,.int .u8 0,.int .u8 0,.int .u8 0,.int .u8 0,.int .u8 0,.int .u8 0,.int .u8 0,.int .u8 0,.int .u8 0,.int .u8 0,.int .u8 0,.int .u8 0,.int .u8 0,.int .u8 0,.int .u8 0,.int .u8 0,.int .u8 0,.int .u8 0,.int .u8 0,.int .u8 0,.int .u8 0,.int .u8 0,.int .u8 0,.int .u8 0,.int .u8 0,.int .u8 0,.int .u8 0,.int .u8 0,.int .u8 0,.int .u8 0,.int .u8 0,.int .u8 0,.int .u8 0,.int .u8 0,.int .u8 0,.int .u8 0,.int .u8 0,.int .u8 0,.int .u8 0,.int .u8 0,.int .u8 0,.int .u8 0,.int .u8 0,.int .u8 0,.int .u8 0,.int .u8 0,.int .u8 0,.int .u8 0,.int .u8 0,.int .u8 0,.int .u8 0,.int .u8 0,.int .u8 0,.int .u8 0,.int .u8 0,.int .u8 0,.int .u8 0,.int .u8 0,.int .u8 0,.int .u8 0,.int .u8 0,.int .u8 0,.int .u8 0,.int .u8 0,.int .u8 0,.int .u8 0,.int .u8 0,.int .u8 0,.int .u8 0,.int .u8 0,.int .u8 0,.int .u8 0,.int .u8 0,.int .u8 0,.int .u8 0,.int .u8 0,.int .u8 0,.int .u8 0,.int .u8 0,.int .u8 0,.int .u8 0,.int .u8 0,.int .u8 0,.int .u8 0,.int .u8 0,.int .u8 0,.int .u8 0,.int .u8 0,.int .u8 0,.int .u8 0,.int .u8 0,.int .u8 0,.int .u8 0,.int .u8 0,.int .u8 0,.int .u8 0,.int .u8 0,.int .u8 0,.int .u8 0,.int .u8 0,.int .u8 0,.int .u8 0,.int .u8 0,.int .u8 0,.int .u8 0,.int .u8 0,.int .u8 0,.int .u8 0,.int .u8 0,.int .u8 0,.int .u8 0,.int .u8 0,.int .u8 0,.int .u8 0,.int .u8 0,.int .u8 0,.int .u8 0,.int .u8 0,.int .u8 0,.int .u8 0,.int .u8 0,.int .u8 0,.int .u8 0,.int .u8 0,.int .u8 0,.int .u8 0,.int .u8 0,.int .u8 0,.int .u8 0,.int .u8 0,.int .u8 0,.int .u8 0,.int .u8 0,.int .u8 0,.int .u8 0,.int .u8 0,.int .u8 0,.int .u8 0,.int .u8 0,.int .u8 0,.int .u8 0,.int .u8 0,.int .u8 0,.int .u8 0,.int .u8 0,.int .u8 0,.int .u8 0,.int .u8 0,.int .u8 0,.int .u8 0,.int .u8 0,.int .u8 0,.int .u8 0,.int .u8 0,.int .u8 0,.int .u8 0,.int .u8 0,.int .u8 0,.int .u8 0,.int .u8 0,.int .u8 0,.int .u8 0,.int .u8 0,.int .u8 0,.int .u8 0,.int .u8 0,.int .u8 0,.int .u8 0,.int .u8 0,.int .u8 0,.int .u8 0,.int .u8 0,.int .u8 0,.int .u8 0,.int .u8 0,.int .u8 0,.int .u8 0,.int .u8 0,.int .u8 0,.int .u8 0,.int .u8 0,.int .u8 0,.int .u8 0,.int .u8 0,.int .u8 0,.int .u8 0,.int .u8 0,.int .u8 0,.int .u8 0,.int .u8 0,.int .u8 0,.int .u8 0,.int .u8 0,.int .u8 0,.int .u8 0,.int .u8 0,.int .u8 0,.int .u8 0,.int .u8 0,.int .u8 0,.int .u8 0,.int .u8 0,.int .u8 0,.int .u8 0]⟩ -- [256]uint8
theorem LV:yy Tryz.prog 347 OL:=yy.mk' z7 z7
def OK:TI := ⟨.func, 1, 8,.nilFunc⟩ -- func(int32) bool
theorem LU:yy Tryz.prog 349 OK:=yy.mk' z7 z7
def OJ:TI := ⟨.slice 354, 1, 24,.slice none 0 0⟩ -- []strings.span
theorem LS:yy Tryz.prog 352 OJ:=yy.mk' z7 z7
def OI:TI := ⟨.struct [(0, 3, 1), (1, 3, 1)], 2, 16,.agg #[.int .i64 0,.int .i64 0]⟩ -- strings.span
theorem LR:yy Tryz.prog 354 OI:=yy.mk' z7 z7
def OH:TI := ⟨.ptr 360, 1, 8,.pointer none⟩ -- *unicode.Zh
theorem LQ:yy Tryz.prog 356 OH:=yy.mk' z7 z7
def OG:TI := ⟨.slice 363, 1, 24,.slice none 0 0⟩ -- []unicode.PH
theorem LP:yy Tryz.prog 357 OG:=yy.mk' z7 z7
def OE:TI := ⟨.slice 366, 1, 24,.slice none 0 0⟩ -- []unicode.PG
theorem LO:yy Tryz.prog 358 OE:=yy.mk' z7 z7
def OD:TI := ⟨.struct [(0, 357, 1), (1, 358, 1), (2, 3, 1)], 3, 56,.agg #[.slice none 0 0,.slice none 0 0,.int .i64 0]⟩ -- unicode.Zh
theorem LM:yy Tryz.prog 360 OD:=yy.mk' z7 z7
def OC:TI := ⟨.int .u16, 1, 2,.int .u16 0⟩ -- uint16
theorem LL:yy Tryz.prog 361 OC:=yy.mk' z7 z7
def OB:TI := ⟨.struct [(0, 361, 1), (1, 361, 1), (2, 361, 1)], 3, 6,.agg #[.int .u16 0,.int .u16 0,.int .u16 0]⟩ -- unicode.PH
theorem LK:yy Tryz.prog 363 OB:=yy.mk' z7 z7
def Oz:TI := ⟨.struct [(0, 310, 1), (1, 310, 1), (2, 310, 1)], 3, 12,.agg #[.int .u32 0,.int .u32 0,.int .u32 0]⟩ -- unicode.PG
theorem LJ:yy Tryz.prog 366 Oz:=yy.mk' z7 z7
def Vz:List (Nat×TI):= [(3,ti3),(4,ti4),(5,ti5),(9,ti9),(21,F8),(22,F7),(23,F6),(24,F5),(25,F4),(26,F3),(27,F2),(28,F1),(30,F0),(31,G_),(32,GZ),(33,GY),(38,GX),(40,GW),(42,GV),(43,GU),(44,GS),(46,GR),(48,GQ),(55,GP),(62,GO),(64,GN),(66,GM),(70,GL),(86,GK),(91,GJ),(102,M0),(104,N_),(105,NZ),(107,NY),(110,NX),(112,NW),(114,NV),(119,NU),(121,NT),(131,NS),(133,NR),(136,NQ),(137,NP),(138,NO),(140,NN),(142,NM),(144,NL),(148,NK),(150,NJ),(151,NI),(155,NH),(157,NG),(161,NF),(162,ND),(163,NB),(167,Nz),(168,Ny),(170,Nx),(172,Nw),(174,Nv),(184,Nu),(192,Nt),(196,Ns),(203,Nr),(206,Nq),(208,Np),(216,Nn),(218,Nl),(220,Nk),(222,Nj),(224,Ni),(227,Nh),(228,Ng),(229,Nf),(231,Nd),(233,Nc),(235,Na),(236,N9),(246,N8),(248,N7),(250,N6),(254,N5),(256,N4),(265,N3),(266,N0),(268,O_),(272,VA),(290,OZ),(292,OY),(294,OV),(295,OU),(298,OT),(300,OS),(310,OR),(313,OQ),(324,OP),(330,OO),(341,OM),(347,OL),(349,OK),(352,OJ),(354,OI),(356,OH),(357,OG),(358,OE),(360,OD),(361,OC),(363,OB),(366,Oz)]
theorem UK :∀p∈Vz,yy Tryz.prog p.1 p.2:=by
 unfold Vz
 repeat(first|exact List.forall_mem_nil _|refine List.forall_mem_cons.2 ⟨by first|exact B_|exact BZ|exact BX|exact BW|exact Ee|exact Ed|exact Ec|exact Eb|exact Ea|exact E9|exact E8|exact E7|exact E6|exact E5|exact E4|exact E3|exact E2|exact E1|exact E0|exact F_|exact FY|exact FW|exact FU|exact FT|exact FR|exact FQ|exact FP|exact FO|exact FN|exact FM|exact J5|exact J4|exact J3|exact J2|exact J1|exact J0|exact K_|exact KZ|exact KY|exact KX|exact KW|exact KV|exact KU|exact KT|exact KS|exact KR|exact KQ|exact KP|exact KO|exact KN|exact KM|exact KL|exact KK|exact KJ|exact KH|exact KG|exact KF|exact KE|exact KD|exact KC|exact KB|exact KA|exact Kz|exact Kx|exact Kw|exact Kv|exact Ku|exact Kt|exact Ks|exact Kr|exact Kq|exact Ko|exact Km|exact Kl|exact Kk|exact Kj|exact Ki|exact Kh|exact Kg|exact Ke|exact Kc|exact Kb|exact Ka|exact K9|exact K8|exact K7|exact K6|exact K5|exact K4|exact K3|exact K2|exact K1|exact K0|exact L_|exact LZ|exact LY|exact LX|exact LW|exact LV|exact LU|exact LS|exact LR|exact LQ|exact LP|exact LO|exact LM|exact LL|exact LK|exact LJ, ?_⟩)
def tt:Nat->Option TI:=iO Vz
def en:Nat->Bool:=λf=>Nat.ble 3 f && Nat.ble f 320 && !Nat.beq f 214 && !Nat.beq f 270 && !Nat.beq f 318
theorem pg:xh Tryz.prog tt en :=
 ⟨Tb UK,λf h=>P9 (by
  have k:=List.all_eq_true.1 (show(List.range 321).all (λf=> !(Nat.ble 3 f && Nat.ble f 320 && !Nat.beq f 214 && !Nat.beq f 270 && !Nat.beq f 318) || Lw Tryz.prog f)=true by kernel_rfl) f (List.mem_range.2 (by simp [en] at h;omega))
  have h2:(Nat.ble 3 f && Nat.ble f 320 && !Nat.beq f 214 && !Nat.beq f 270 && !Nat.beq f 318)=true:=h
  rw [h2] at k;simpa using k),by kernel_rfl⟩
abbrev ye:Nat->Ord×(Nat->xa):=λ_=>(.done,Xj [])
def oA(l:List Nat)(t:Ord):Ord:=l.foldr .one t
def oR:Nat->Nat->Ord->Ord
  | _,0,t=>t
  | a,n+1,t=> .one a (oR (a+1) n t)
def cD:Nat->xa
  | 0=> .pure
  | 1=> .read
  | 2=> .ext
  | _=> .uJ
def cN(l:List Nat)(i:Nat):xa:=cD (l.getD i 3)
def oM:List (Nat×Ord×List Nat)->Nat->Ord×(Nat->xa)
  | [],_=>(.done,Xj [])
  | (k,o,c) :: r,id=>bif Nat.beq id k then(o,cN c) else oM r id
def z3n:=oM [(8,(oR 0 23 .done),[1,0,0,0,1,0,1,3,0,0,0,1,3,3,0,0,0,1,0,3,0,0,0]),(11,(oR 0 12 .done),[1,0,0,0,1,0,0,0,0,0,3,0])]
def Ad:=oM [(10,(oR 0 17 .done),[0,0,0,0,0,0,0,0,0,0,1,0,1,2,3,0,0])]
def ER:=oM [(6,(oR 0 9 .done),[0,0,0,1,0,0,0,1,0])]
def z3d:=oM [(6,(oR 0 20 .done),[0,0,0,1,3,0,0,0,0,0,0,1,0,0,0,0,1,0,0,0]),(12,(oA [0,1,2,3,4,5,6,7,9,10,11,12,8,13,14,15] .done),[0,0,0,0,0,0,0,1,2,0,0,0,1,3,0,0]),(14,(oR 0 10 .done),[0,0,0,1,0,0,0,1,3,0]),(16,(oR 0 25 .done),[0,0,0,0,1,0,0,0,0,1,3,0,0,0,0,0,0,1,0,0,0,0,1,0,0])]
def EO:=oM [(1,(oR 0 30 .done),[0,3,0,0,1,0,0,0,0,1,0,0,0,0,0,0,1,0,0,0,0,1,0,0,1,0,1,0,0,0])]
def Ma:=oM [(6,(oR 0 9 .done),[0,0,0,1,0,0,0,1,0])]
def EN:=oM [(7,(oR 0 13 .done),[1,0,0,0,0,1,0,0,0,0,1,3,0]),(10,(oR 0 12 .done),[0,1,0,0,0,0,1,0,0,0,1,0]),(14,(oR 0 22 .done),[0,0,0,0,0,1,0,0,0,0,0,1,0,1,0,0,0,0,1,0,0,3])]
def z3c:=oM [(4,(oR 0 13 .done),[1,0,0,0,0,1,0,0,0,0,1,3,0]),(11,(oR 0 13 .done),[0,0,0,0,1,1,0,0,2,3,2,3,0])]
def VG:=oM [(3,(oA [0,1,3,4,2,5,6,7,8,9] .done),[1,0,2,0,1,2,0,3,0,0])]
def EM:=oM [(12,(oR 0 14 .done),[0,0,0,0,0,1,0,0,0,1,3,0,0,0]),(22,(oA [1,2,3,5,6,7,8,0,4,9,10] .done),[2,0,0,0,3,0,0,0,0,3,0])]
def ZI:=oM [(3,(oR 0 9 .done),[0,0,0,0,1,1,2,3,0]),(5,(oR 0 11 .done),[0,0,0,0,1,0,1,3,0,0,0]),(7,(oR 0 9 .done),[0,1,0,0,0,1,0,2,0]),(16,(oR 0 12 .done),[0,0,0,0,1,1,2,2,3,0,0,3])]
def EL:=oM [(6,(oR 0 14 .done),[0,0,0,0,0,0,1,0,0,0,0,1,3,0]),(9,(oA [0,1,2,3,4,5,6,9,7,8,10,11] .done),[0,0,0,0,0,0,1,2,3,0,3,0])]
def ZH:=oM [(16,(oR 0 13 .done),[0,0,0,0,1,0,1,0,0,0,1,0,0]),(19,(oR 0 11 .done),[0,1,0,1,0,1,0,1,0,0,3]),(21,(oR 0 13 .done),[0,0,0,1,0,1,1,3,0,0,0,0,3]),(30,(oR 0 11 .done),[0,0,0,1,0,1,3,0,0,0,0]),(32,(oR 0 17 .done),[0,0,0,1,0,0,2,0,0,3,0,0,3,0,0,0,3])]
def M9:=oM [(10,(oA [0,1,2,4,5,6] (.alt 3 (.alt 7 (.alt 8 (oA [9,10,11] .done) (.alt 9 (oA [8,10,11] .done) .none)) (.alt 8 (.alt 7 (oA [9,10,11] .done) (.alt 9 (oA [7,10,11] .done) .none)) (.alt 9 (.alt 7 (oA [8,10,11] .done) (.alt 8 (oA [7,10,11] .done) .none)) .none))) (.alt 8 (.alt 3 (.alt 7 (oA [9,10,11] .done) (.alt 9 (oA [7,10,11] .done) .none)) (.alt 9 (oA [3,7,10,11] .done) .none)) (.alt 9 (.alt 3 (.alt 7 (oA [8,10,11] .done) (.alt 8 (oA [7,10,11] .done) .none)) (.alt 8 (oA [3,7,10,11] .done) .none)) .none)))),[1,0,0,2,1,0,0,3,2,2,3,3])]
def EK:=oM [(6,(oR 0 9 .done),[0,0,0,1,0,0,0,1,0])]
def EJ:=oM [(11,(oR 0 8 .done),[0,0,0,0,1,0,1,0])]
def EI:=oM [(4,(oR 0 16 .done),[0,0,0,1,3,0,0,0,0,0,0,0,0,1,3,0])]
def EH:=oM [(9,(oR 0 23 .done),[0,1,0,0,0,0,1,1,3,0,0,0,1,0,0,0,0,0,1,1,3,0,0])]
def EG:=oM [(10,(oR 0 17 .done),[0,1,0,0,1,0,0,0,1,0,0,1,0,1,0,0,0]),(20,(oR 0 25 .done),[0,1,0,0,0,1,0,1,0,0,0,0,0,1,0,0,1,0,1,0,0,1,0,0,0]),(26,(oR 0 36 .done),[0,0,0,0,1,0,0,1,3,0,0,0,0,0,0,0,1,0,0,1,0,0,0,1,0,0,1,0,1,0,0,1,0,0,0,0])]
def EF:=oM [(9,(oR 0 12 (.alt 12 (oA [13,14,15] .done) (.alt 13 (oA [12,14,15] .done) .none))),[0,1,0,1,0,1,0,1,0,1,0,1,2,2,2,2,2]),(10,(oR 0 40 .done),[0,1,0,0,0,1,0,0,0,0,1,0,0,0,0,1,0,1,0,0,0,0,0,1,0,0,0,0,0,1,0,1,0,1,0,1,0,1,0,0]),(15,(oR 0 17 .done),[1,0,1,0,0,0,1,0,1,0,0,0,1,0,1,0,3])]
def EE:=oM [(3,(oR 0 5 (.alt 5 (oA [6,7,8] .done) (.alt 7 (oA [5,6,8] .done) .none))),[1,0,1,0,1,2,0,2,3])]
def ED:=oM [(2,(oR 0 6 .done),[0,1,0,1,0,0])]
def VE:=oM [(2,(oR 0 9 .done),[0,0,1,0,1,0,1,3,0])]
def EB:=oM [(1,(oR 0 44 .done),[0,1,3,0,0,0,1,0,0,0,0,1,0,1,0,0,0,0,0,1,0,1,0,1,0,1,0,0,0,0,0,1,0,0,0,0,1,0,0,0,0,1,0,0])]
def VD:=oM [(1,(oR 0 14 .done),[1,3,0,1,3,0,0,0,1,1,2,3,0,0])]
def z3b:=oM [(4,(oR 0 9 .done),[0,0,0,1,0,0,0,1,0])]
def z3a:=oM [(9,(oR 0 22 .done),[0,0,0,0,0,1,0,0,0,0,0,1,0,1,0,0,0,0,1,0,0,3])]
def Ez:=oM [(6,(oR 0 10 .done),[0,1,0,1,0,0,1,3,0,0])]
def Ey:=oM [(6,(oR 0 19 .done),[0,1,0,1,0,0,1,3,0,0,0,1,0,0,0,1,3,0,0])]
def z38:=oM [(18,(oR 0 47 .done),[0,0,0,0,0,0,0,0,1,0,0,0,0,0,1,0,0,0,0,0,0,0,0,1,0,0,0,0,0,1,0,0,0,0,0,0,0,1,0,0,0,0,0,1,0,0,0])]
def z36:=oM [(6,(oR 0 12 .done),[0,1,0,0,0,0,1,0,0,0,1,0]),(14,(oR 0 13 .done),[0,0,0,0,1,0,0,0,1,0,2,3,0])]
def Ew:=oM [(1,(oR 0 13 .done),[0,0,0,1,0,0,0,0,1,0,1,3,0])]
def Ev:=oM [(1,(oR 0 30 .done),[0,3,0,0,1,0,0,0,0,1,0,0,0,0,0,0,1,0,0,0,0,1,0,0,1,0,1,0,0,0])]
def Eu:=oM [(7,(oR 0 9 .done),[0,0,0,1,0,0,0,1,0]),(8,(oR 0 15 .done),[0,0,0,0,0,1,0,0,0,0,1,0,2,3,0])]
def Et:=oM [(2,(oR 0 30 .done),[0,0,0,0,1,0,0,0,0,1,0,0,0,0,1,0,0,0,0,1,0,1,0,0,0,0,1,0,0,3])]
def Es:=oM [(4,(oR 0 18 .done),[0,0,0,0,1,1,2,3,0,0,1,0,0,0,0,1,0,0]),(7,(oR 0 16 .done),[0,0,0,0,0,1,0,0,0,0,1,0,0,0,0,3])]
def M8:=oM [(4,(oR 0 19 .done),[0,0,0,1,0,0,0,1,0,0,0,0,1,0,0,0,1,0,0]),(7,(oR 0 14 .done),[0,0,0,0,1,0,1,0,1,0,1,0,0,3])]
def Er:=oM [(1,(oR 0 22 .done),[0,0,0,1,0,0,1,0,0,0,0,1,0,0,0,1,3,0,0,0,0,0])]
def M7:=oM [(2,(oR 0 16 .done),[0,0,0,0,0,1,0,0,0,0,1,3,0,0,0,3])]
def I9:=oM [(1,(oA [0,1,3,4,5,6,8,9,11,12,2,7,10,13,14,15] .done),[0,1,2,0,1,0,1,2,0,1,2,0,1,2,0,3])]
def an:=oM [(19,(oR 0 14 .done),[0,0,0,1,0,1,0,1,0,1,0,0,2,3])]
def I8:=oM [(4,(oA [0,1,3,4,2,5,6,7] .done),[1,1,2,1,1,3,3,0])]
def I6:=oM [(5,(oR 0 36 .done),[0,1,0,0,0,1,0,0,0,0,0,0,0,0,1,0,0,0,0,1,0,1,0,0,0,0,0,1,0,0,0,0,1,3,0,0])]
def I5:=oM [(7,(oR 0 40 .done),[0,1,0,0,0,1,0,0,0,0,0,1,0,1,0,1,0,1,0,0,0,0,1,0,1,0,0,0,0,1,0,1,0,1,0,1,0,1,0,0])]
def I4:=oM [(4,(oR 0 9 .done),[0,0,0,1,0,0,0,1,0]),(5,(oR 0 10 .done),[0,0,0,1,0,0,0,1,0,0])]
def I3:=oM [(6,(oR 0 36 .done),[0,1,0,0,0,1,0,0,0,0,0,0,0,0,1,0,0,0,0,1,0,1,0,0,0,0,0,1,0,0,0,0,1,3,0,0]),(18,(oR 0 18 .done),[0,0,0,0,0,0,0,1,0,0,0,0,1,0,1,0,0,0])]
def Ud:=oM [(6,(oR 0 21 .done),[0,1,0,0,0,1,0,0,0,1,0,1,0,0,0,1,0,0,0,3,0])]
def I0:=oM [(8,(oA [0,1,3,4,5,6,7,8,9,11,12,13,15,2,10,14,16,17,18,19] .done),[0,1,2,0,0,1,1,0,0,1,2,0,0,1,2,1,2,2,3,0]),(14,(oR 0 6 .done),[0,1,0,0,1,0]),(16,(oR 0 10 .done),[0,0,1,0,0,1,2,0,0,3])]
def J_:=oM [(8,(oA [0,1,2,4,5,6] (.alt 3 (oR 7 4 .done) (.alt 7 (oA [3,8,9,10] .done) .none))),[0,0,1,2,0,0,1,2,3,3,0])]
def JZ:=oM [(17,(oR 0 5 .done),[0,1,0,0,0])]
def JY:=oM [(6,(oR 0 23 .done),[0,1,0,0,1,0,3,0,0,0,1,0,0,0,1,0,1,0,0,1,0,0,0])]
def JX:=oM [(8,(oR 0 14 (.alt 14 (oA [15,16,17] .done) (.alt 15 (oA [14,16,17] .done) .none))),[0,0,1,0,1,0,1,0,0,1,0,1,0,1,2,2,2,2,2]),(9,(oR 0 36 .done),[0,1,0,0,0,1,0,0,0,0,1,0,1,0,3,0,0,0,0,1,0,0,0,0,0,1,0,1,0,1,0,1,0,1,0,0])]
def JW:=oM [(6,(oR 0 10 .done),[0,0,1,0,1,0,1,0,0,3])]
def Uc:=oM [(7,(oR 0 10 .done),[0,1,0,0,0,1,3,2,3,0])]
def JV:=oM [(5,(oR 0 17 .done),[0,1,0,0,1,0,0,0,1,0,0,1,0,1,0,0,0]),(7,(oR 0 12 .done),[0,0,1,0,1,0,0,1,0,1,0,0])]
def z2W:=oM [(4,(oR 0 18 .done),[0,0,0,0,0,1,0,0,0,0,1,0,0,0,0,1,3,0])]
def JU:=oM [(6,(oR 0 15 .done),[0,0,0,0,0,0,0,0,1,0,0,0,1,0,0]),(8,(oR 0 15 .done),[0,0,0,0,0,0,0,0,1,0,0,0,1,0,0]),(10,(oA [0,1,2,3,4,5,6,9,7,8,10,11] .done),[0,0,0,0,0,0,1,2,3,0,3,0])]
def Ub:=oM [(9,(oR 0 18 .done),[0,1,0,1,0,1,0,0,1,0,1,2,3,0,0,0,0,0])]
def JT:=oM [(11,(oR 0 9 .done),[0,0,0,0,0,0,0,0,3]),(15,(oR 0 9 .done),[0,0,0,0,0,0,0,0,3])]
def JS:=oM [(6,(oR 0 9 .done),[0,0,0,1,0,0,0,1,0])]
def JR:=oM [(9,(oR 0 10 .done),[0,0,0,0,0,0,0,3,0,0])]
def JQ:=oM [(4,(oR 0 9 .done),[0,0,0,1,0,0,0,1,0])]
def Ua:=oM [(10,(oR 0 18 .done),[0,1,0,1,0,1,0,0,1,0,1,2,3,0,0,0,0,0])]
def JP:=oM [(13,(oR 0 11 .done),[0,0,0,0,0,0,0,0,0,3,0])]
def JN:=oM [(1,(oR 0 37 .done),[0,1,3,0,0,0,1,0,1,0,0,3,0,0,0,0,1,0,1,0,1,0,1,0,0,0,0,0,1,0,0,0,0,1,3,0,0]),(3,(oA [0,2,3,1,4,5,6,7,8,9] .done),[1,2,0,1,1,0,0,0,0,0])]
def JM:=oM [(7,(oR 0 25 .done),[1,1,3,0,0,0,1,3,1,0,0,0,0,0,0,1,0,0,0,1,1,3,0,0,0])]
def JL:=oM [(5,(oR 0 13 .done),[0,1,0,0,1,0,1,3,0,0,0,0,0]),(6,(oA [0,2,3,4,5,6,7,8,9] (.alt 1 (oR 10 5 .done) (.alt 10 (.alt 1 (oR 11 4 .done) (.alt 11 (oA [1,12,13,14] .done) .none)) .none))),[0,2,0,1,0,0,1,0,0,1,2,3,0,0,3])]
def JK:=oM [(1,(oA [0,2] (.alt 1 (oA [4,5] (.alt 3 (oR 6 4 .done) (.alt 6 (oA [3,7,8,9] .done) .none))) (.alt 3 (oA [1,4,5,6,7,8,9] .done) .none))),[0,3,0,3,0,0,3,0,0,3])]
def ak:=oM [(4,(oA [0,1,2,3,4,6,7,8,9,10,5,11,12,13,14] .done),[0,1,0,0,1,2,0,1,0,0,1,3,2,3,0]),(5,(oR 0 9 .done),[0,1,0,0,1,0,1,0,3])]
def JJ:=oM [(1,(oR 0 42 .done),[0,1,0,0,0,1,0,0,0,0,0,1,0,1,0,1,0,1,0,0,0,0,1,0,1,0,0,0,0,0,1,0,1,0,1,0,1,0,1,0,0,0])]
def JI:=oM [(6,(oR 0 9 .done),[0,0,0,1,0,0,0,1,0])]
def JH:=oM [(6,(oR 0 10 .done),[0,0,0,1,0,0,0,0,1,0]),(11,(oR 0 10 .done),[0,0,0,1,0,0,0,0,1,0])]
def JF:=oM [(3,(oR 0 8 .done),[0,0,1,0,0,1,0,0])]
def JE:=oM [(1,(oA [0,1,2,3,5,6,7,8,10,11,12,13,4,9,14,15,16,17] .done),[0,1,0,1,2,0,1,0,1,2,0,1,0,1,3,2,3,0])]
def JD:=oM [(1,(oA [0,2,3,1,4,5,6] .done),[1,2,0,1,3,0,0])]
def JC:=oM [(5,(oR 0 8 .done),[0,0,0,0,1,1,3,0]),(8,(oR 0 16 .done),[0,0,0,0,0,0,0,0,0,1,1,3,0,0,0,0])]
def JB:=oM [(11,(oR 0 9 .done),[0,0,0,0,0,0,0,0,3]),(15,(oR 0 9 .done),[0,0,0,0,0,0,0,0,3])]
def JA:=oM [(1,(oA [0,2,3,4,5,6,7] (.alt 1 (oR 8 4 .done) (.alt 8 (oA [1,9,10,11] .done) .none))),[0,2,0,1,0,0,1,0,3,0,0,3])]
def Jz:=oM [(5,(oA [1,2,3,4,0,5] .done),[3,0,0,0,0,3])]
def Jy:=oM [(6,(oR 0 9 .done),[0,0,0,1,0,0,0,1,0])]
def Jw:=oM [(1,(oR 0 7 .done),[0,0,1,1,2,3,0])]
def Jv:=oM [(6,(oR 0 19 .done),[0,0,0,0,0,0,0,0,0,0,0,0,0,0,0,0,1,0,0])]
def U8:=oM [(11,(oR 0 5 .done),[1,0,0,0,1])]
end Go.Proofs.YtmjllbjfkafhdaaGreatDoor
namespace Go.CF
open Go
theorem xA{p X Y:Prop}(hx:X)(h:p:=by first|assumption|omega|rfl):Bd p X Y:= .t h hx
theorem xB{p X Y:Prop}(hy:Y)(h:¬p:=by first|assumption|omega|exact Bool.false_ne_true):Bd p X Y:= .f h hy
theorem xN{α:Type}{l l':List α}{k:List α->Prop}(hk:k l')(h:LN l l':=by repeat constructor):Nm l k:= .r h hk
theorem xT{o rest:List yh}{b:Nat}{k:TypeId->List AV->List yh->Prop}{T:TypeId}{cs:List AV}(hk:k T cs rest)(h:Take o (yr b T cs) rest:=by repeat constructor):L3 o b k:= .r h hk
theorem xU{α:Type}{o rest:List yh}{v:Value}{k:∀{α:Type},TypeId->Nat->List α->(α->List AV)->List yh->Prop}{T:TypeId}{sz:Nat}{l:List α}{f:α->List AV}(hk:k T sz l f rest)(h:Take o (yb v T sz l f) rest:=by repeat constructor):gU o v k:= .r h hk
theorem xM{β:Type}{P:Program}{o rest:List yh}{b:Nat}{k:∀{β:Type},TypeId->List (List Int×β)->(β->AV)->List yh->Prop}{kt:TypeId}{kvs:List (List Int×β)}{f:β->AV}(hk:k kt kvs f rest)(h:Take o (vg P b kt kvs f) rest:=by repeat constructor):Ou P o b k:= .r h hk
theorem xV{l:List AV}{k:Nat}{v:AV}{M:List AV->Prop}{l':List AV}(hm:M l')(h:mf l k v l':=by repeat first|assumption|constructor):ZQ l k v M:= .r h hm
theorem xO{i:Int}{M:Int->Prop}(hm:M i)(h: -9223372036854775808<=i/\i<=9223372036854775807:=by first|omega|(simp <;> omega)):Ov i M:= .n h hm
theorem xI{α:Type}{l:List α}{i:Int}{k:Nat->α->Prop}{j:Nat}{x:α}(hk:k j x)(hi:i=(j:Int):=by exact rfl)(h:l[j]?=some x:=by assumption):Ix l i k:= .q hi h hk
theorem xJ{α:Type}{l:List α}{k:α->Prop}{j:Nat}{x:α}(hk:k x)(h:l[j]?=some x:=by assumption):At l j k:= .r h hk
theorem xP{p k:Prop}(hk:k)(h:p:=by first|omega|(simp <;> omega)):Om p k:=⟨h,hk⟩
theorem xK{cs:List AV}{M:List Int->Prop}{xs:List Int}(hm:M xs)(h:z1u cs xs:=by repeat(first|apply z1u.cons|exact z1u.nil)):Il cs M:= .r h hm
section
variable {Γ:Cx} {k:List KI} {e:EA} {o:List yh} {ops:Array Oper} {c:xa}
theorem xD{i:Nat}{t:Ord}(h:vn Γ k ops (Γ.T i).2 t e o)(BK:yN ((Γ.T i).2 ops.size)=true:=by rfl)(hn:Region.noSelect ops=true:=by kernel_rfl)(hc:Oo ops (Γ.T i).2 (Γ.T i).1 ops.size true (Array.replicate ops.size false)=true:=by kernel_rfl)(ho:ON (Γ.T i).1 t:=by repeat' constructor)(hd:(ops.toList.all λop=>eB Γ.n op.dst)=true:=by rfl):CA Γ k (.region i ops true) e o:= .draw BK hn hc ho hd h
theorem xQ{f:FuncId}{tK:List AV}{r:AV}(hc:y6 Γ.P f tK r){xs:List AV}{M:AV->List yh->Prop}(hm:M r o)(hv:y3 [] xs tK:=by repeat'(first|exact y3.nil|apply y3.yB)):Cl Γ c f xs o M:= .p hc hv hm
theorem _root_.Go.CF.z1 {p:Prop}(h:p:=by (repeat constructor);first|done|fail):p:=h
theorem xW{f:FuncId}{xs tK:List AV}{own rest:List yh}{K:AV->List yh->Prop}{M:AV->List yh->Prop}(hc:zy Γ.P f tK own K)(hm:∀r wE,K r wE->M r (wE ++ rest))(hv:y3 [] xs tK:=by repeat'(first|exact y3.nil|apply y3.yB))(ht:qa o own rest:=by repeat(first|exact qa.nil|(apply qa.cons;{exact z1})))(hl:(yN c || own.isEmpty)=true:=by rfl):Cl Γ c f xs o M:= .use hc hv ht hl hm
end
theorem xE{e:EA}{o:List yh}{σ:AS}(h1:ZD e σ.env:=by repeat first|trivial|refine⟨rfl,?_⟩)(h2:lF o σ.own:=by repeat first|exact .nil|refine .cons z1 ?_):Sub e o σ:=⟨h1,h2⟩
theorem FL.z{o own:List yh}(h:lF o own:=by repeat first|exact .nil|refine .cons z1 ?_):FL o [] [] own:= .nil h
end Go.CF
namespace Go.Proofs.YtmjllbjfkafhdaaGreatDoor
open Go Go.CF
def xL(x:Int):List AV:= [.val (.int .i64 x)]
abbrev ints (l:List Int):AV:= .sl 1 l xL
theorem vb{a b:Bool}(h:a=b):AV.val (.bool a)=AV.val (.bool b):=by rw [h]
theorem all_succ{α:Type}{l:List α}{i:Nat}{x:α}{P:α->Prop}(h:l[i]?=some x)(ha:∀y∈l.take i,P y)(hx:P x) :∀y∈l.take (i+1),P y:=λy hy=>by
 rw [zK,h] at hy
 rcases zV.1 hy with h1|h1
 ·exact ha y h1
 ·simp at h1;exact h1▸hx
theorem zz{α:Type}{l:List α}{i:Nat}(h:i < l.length) :∃x,l[i]?=some x:=⟨_,zE h⟩
theorem kg(a b:List Int):y6 Tryz.prog 19 [ints a,ints b] (.val (.bool (decide (a=b)))):=by
 refine zy.of pg ER Tryz.func19 rfl Tryz.ntmps19 Tryz.results19 rfl λh0 G0 O0=>?_
 repeat'(first|apply Sp.h|refine Lk.r rfl ?_|refine Rf.mk rfl ?_|apply Bd.mk|apply Im.mk|refine xN ?_|intro _)
 ·rename_i ha hb pz _
  refine CA.loop (λi:Nat=>⟨[(0,ints a),(1,ints b),(12,.val (.int .i64 a.length)),(13,.val (.int .i64 i))],[]⟩) (λi=>i<=a.length/\a.take i=b.take i) (λi=>a.length - i) 0 xE ⟨zZ _,by simp⟩ ?_
  rintro i ⟨hi,heq⟩
  by_cases yd:i < a.length
  ·obtain⟨x,hx⟩:∃x,a[i]?=some x:=⟨_,zE yd⟩
   obtain⟨y,hy⟩:∃y,b[i]?=some y:=⟨_,zE z6⟩
   repeat'(first|apply Sp.h|refine Lk.r rfl ?_|refine Rf.mk rfl ?_|refine xA ?_|apply Bd.mk|refine yu.r rfl ?_|refine xI ?_|refine xN ?_|refine xD ?_|refine xO ?_|intro _)
   ·rename_i pS
    refine PA.lp (i+1) xE ⟨⟨yd, ?_⟩,z6⟩
    rw [zK,zK,hx,hy,heq,show x=y by omega]
   ·rename_i pS
    refine Fin.p rfl ?_
    rw [zF (λe=>pS ?_)]
    subst e;rw [hx] at hy;cases hy;rfl
  ·have:i=a.length:=z6
   subst this
   repeat'(first|apply Sp.h|refine Lk.r rfl ?_|refine Rf.mk rfl ?_|refine xB ?_|refine xN ?_|fail)
   refine Fin.p rfl ?_
   rw [zL] at heq
   rw [zT (by rw [heq,List.take_of_length_le z6])]
 ·rename_i h
  refine Fin.p rfl ?_
  rw [zF (λe=>h (by rw [e]))]
/-! ### Valid -/
def tg(x:Int):Prop:=0<=x/\x<=1024
def vY(c:List Int):Prop:=(∀x∈c,tg x)/\1<=c.length/\c.length<=5
noncomputable instance (c:List Int):Decidable (vY c):=zC _
theorem uC(c:List Int):y6 Tryz.prog 61 [ints c] (.val (.bool (decide (vY c)))):=by
 refine zy.of pg ye Tryz.func61 rfl Tryz.ntmps61 Tryz.results61 rfl λh0 G0 O0=>?_
 repeat'(first|apply Sp.h|refine Lk.r rfl ?_|refine Rf.mk rfl ?_|apply Im.mk|intro _)
 refine CA.loop (λi:Nat=>⟨[(0,ints c),(5,ints c),(6,.val (.int .i64 c.length)),(7,.val (.int .i64 i))],[]⟩) (λi=>i<=c.length/\∀x∈c.take i,tg x) (λi=>c.length - i) 0 xE ⟨zZ _,by simp⟩ ?_
 rintro i ⟨hi,ha⟩
 by_cases yd:i < c.length
 ·obtain⟨x,hx⟩:=zz yd
  repeat'(first|apply Sp.h|refine Lk.r rfl ?_|refine Rf.mk rfl ?_|refine xA ?_|refine xB ?_|apply Bd.mk|refine xI ?_|refine xN ?_|refine xO ?_|intro _)
  all_goals first
   | exact PA.lp (i+1) xE ⟨⟨yd,all_succ hx ha ⟨z6,z6⟩⟩,z6⟩
   | exact Fin.p rfl (vb (zF (λh=>by have h1:=h.1 x (zM hx);unfold tg at h1;omega)).symm)
 ·have:i=c.length:=z6
  subst this
  rw [zL] at ha
  repeat'(first|apply Sp.h|refine Lk.r rfl ?_|refine Rf.mk rfl ?_|refine xA ?_|refine xB ?_|apply Bd.mk|apply Im.mk|refine xN ?_|intro _)
  all_goals exact Fin.p rfl (vb (by first|exact(zF (λh=>by have:=h.2;omega)).symm|exact zD.2 ⟨λh=>⟨ha,z6,z6⟩,λh=>by have:=h.2;omega⟩))
def x9(c:List Int)(r n:Int):Prop:=vY c/\0<=r/\1<=n/\∃x,c[r.toNat]?=some x/\n<=x
noncomputable instance (c:List Int) (r n:Int):Decidable (x9 c r n):=zC _
abbrev Vr (r n:Int):AV:= .agg [.val (.int .i64 r),.val (.int .i64 n)]
theorem _root_.Go.CF.z8 {p:Prop}(h:p:=by assumption):p:=h
theorem kZ(c:List Int)(r n:Int):y6 Tryz.prog 91 [ints c,Vr r n] (.val (.bool (decide (x9 c r n)))):=by
 refine zy.of pg Ev Tryz.func91 rfl Tryz.ntmps91 Tryz.results91 rfl λh0 G0 O0=>?_
 by_cases hr:0<=r/\r < c.length
 ·obtain⟨x,hx⟩:=zz (l:=c) (i:=r.toNat) z6
  repeat'(first|apply Sp.h|refine Lk.r rfl ?_|refine Rf.mk rfl ?_|refine yu.r rfl ?_|apply yc.mk|refine xD ?_|intro _)
  refine xQ (uC _) ?_
  repeat'(first|apply Sp.h|refine Lk.r rfl ?_|refine Rf.mk rfl ?_|refine xA ?_|refine xB ?_|apply Bd.mk|refine yu.r rfl ?_|apply Im.mk|refine xT ?_|(apply Ix.r;{exact z8};{exact z6})|refine xN ?_|intro _)
  all_goals refine Fin.p rfl (vb ?_)
  all_goals first
   | exact zD.2 ⟨λh=>⟨by assumption,hr.1,by assumption,x,hx,h⟩,λ⟨_,_,_,y,hy,h⟩=>by rw [hx] at hy;cases hy;exact h⟩
   | exact(zF (λ⟨_,_,_,y,hy,_⟩=>by have:=(zS.1 hy).1;first|contradiction|omega)).symm
 ·repeat'(first|apply Sp.h|refine Lk.r rfl ?_|refine Rf.mk rfl ?_|refine yu.r rfl ?_|apply yc.mk|refine xD ?_|intro _)
  refine xQ (uC _) ?_
  repeat'(first|apply Sp.h|refine Lk.r rfl ?_|refine Rf.mk rfl ?_|refine xA ?_|refine xB ?_|apply Bd.mk|refine yu.r rfl ?_|apply Im.mk|refine xT ?_|refine xN ?_|intro _)
  all_goals refine Fin.p rfl (vb ?_)
  all_goals exact(zF (λ⟨_,_,_,y,hy,_⟩=>by have:=(zS.1 hy).1;first|contradiction|omega)).symm
/-! ### alike, inside -/
def kI(c:List Int):List AV:= [ints c]
abbrev vW (l:List (List Int)):AV:= .sl 1 l kI
def w9(l:List (List Int)):Prop:=0 < l.length/\∀c∈l,vY c/\c.length=(l[0]?.getD []).length
noncomputable instance (l:List (List Int)):Decidable (w9 l):=zC _
theorem kl(l:List (List Int)):y6 Tryz.prog 156 [vW l] (.val (.bool (decide (w9 l)))):=by
 refine zy.of pg ye Tryz.func156 rfl Tryz.ntmps156 Tryz.results156 rfl λh0 G0 O0=>?_
 repeat'(first|apply Sp.h|refine Lk.r rfl ?_|refine Rf.mk rfl ?_|apply Im.mk|intro _)
 refine CA.loop (λi:Nat=>⟨[(0,vW l),(5,vW l),(6,.val (.int .i64 l.length)),(7,.val (.int .i64 i))],[]⟩) (λi=>i<=l.length/\∀c∈l.take i,vY c/\c.length=(l[0]?.getD []).length) (λi=>l.length - i) 0 xE ⟨zZ _,by simp⟩ ?_
 rintro i ⟨hi,ha⟩
 by_cases yd:i < l.length
 ·obtain⟨c,hc⟩:=zz yd
  obtain⟨b,hb⟩:=zz (l:=l) (i:=0) z6
  have Hz:(l[0]?.getD []).length=b.length:=by rw [hb];rfl
  repeat'(first|apply Sp.h|refine Lk.r rfl ?_|refine Rf.mk rfl ?_|refine xA ?_|refine xI ?_|fail)
  refine xQ (uC _) ?_
  repeat'(first|apply Sp.h|refine Lk.r rfl ?_|refine Rf.mk rfl ?_|refine xA ?_|refine xB ?_|apply Bd.mk|apply Im.mk|refine xI ?_|refine xN ?_|refine xO ?_|intro _)
  all_goals first
   | exact Fin.p rfl (vb (zF (λh=>by have h1:=h.2 c (zM hc);first|exact absurd h1.1 z8|omega)).symm)
   | exact PA.lp (i+1) xE ⟨⟨yd,all_succ hc ha ⟨by assumption,z6⟩⟩,z6⟩
 ·have:i=l.length:=z6
  subst this
  rw [zL] at ha
  repeat'(first|apply Sp.h|refine Lk.r rfl ?_|refine Rf.mk rfl ?_|refine xB ?_|apply Im.mk|refine xN ?_|intro _)
  exact Fin.p rfl (vb (zD.2 ⟨λh=>⟨z6,ha⟩,λh=>by have:=h.1;omega⟩))
abbrev tJ (P:Program) (f:FuncId) (args:List AV) {α:Type} (T:TypeId) (sz:Nat) (l:List α) (g:α->List AV):Prop:=zy P f args [] λr own=>∃v,r= .ow v/\own= [yb v T sz l g]
theorem ud(l:List Int)(hl:l.length<=1000000000):tJ Tryz.prog 40 [ints l] 3 1 l xL:=by
 refine zy.of pg ye Tryz.func40 rfl Tryz.ntmps40 Tryz.results40 rfl λh0 G0 O0=>?_
 repeat'(first|apply Sp.h|refine Lk.r rfl ?_|refine Rf.mk rfl ?_|apply Bd.mk|refine xP ?_|apply Im.mk|apply yc.mk|refine xU ?_|refine Ce.l rfl ?_|(apply Fk.r;focus repeat' first|infer_instance|constructor)|refine xN ?_|refine Rf.mk ⟨rfl,rfl⟩ ?_|refine Rf.mk ⟨rfl,rfl,rfl⟩ ?_|refine Mp.same ?_|intro _)
 ·rename_i b hb YX
  have eg:l= []:=Decidable.byContradiction λh=>by rw [hb h] at YX;cases YX
  subst eg
  exact⟨_,_,.one (.vC (.z)),_,rfl,rfl⟩
 ·repeat'(first|fail)
  exact⟨_,_,.one (.same (.z)),_,rfl,rfl⟩
def Ins(a b:List Int):Prop:=∀(i:Nat) (x y:Int),a[i]?=some x->b[i]?=some y->x<=y
noncomputable instance (a b:List Int):Decidable (Ins a b):=zC _
theorem dX(a b:List Int)(pz:a.length<=b.length):y6 Tryz.prog 192 [ints a,ints b] (.val (.bool (decide (Ins a b)))):=by
 refine zy.of pg JQ Tryz.func192 rfl Tryz.ntmps192 Tryz.results192 rfl λh0 G0 O0=>?_
 repeat'(first|apply Sp.h|refine Lk.r rfl ?_|refine Rf.mk rfl ?_|apply Im.mk|intro _)
 refine CA.loop (λi:Nat=>⟨[(0,ints a),(1,ints b),(7,.val (.int .i64 a.length)),(8,.val (.int .i64 i))],[]⟩) (λi=>i<=a.length/\∀j x y,j < i->a[j]?=some x->b[j]?=some y->x<=y) (λi=>a.length - i) 0 xE ⟨zZ _,λj x y h=>z6⟩ ?_
 rintro i ⟨hi,ha⟩
 by_cases yd:i < a.length
 ·obtain⟨x,hx⟩:=zz yd
  obtain⟨y,hy⟩:=zz (l:=b) (i:=i) z6
  repeat'(first|apply Sp.h|refine Lk.r rfl ?_|refine Rf.mk rfl ?_|refine xA ?_|apply Bd.mk|refine yu.r rfl ?_|refine xI ?_|refine xN ?_|refine xD ?_|refine xO ?_|intro _)
  ·rename_i pS
   exact Fin.p rfl (vb (zF (λh=>by have:=h i x y hx hy;omega)).symm)
  ·rename_i pS
   refine PA.lp (i+1) xE ⟨⟨yd,λj x' y' hj h1 h2=>?_⟩,z6⟩
   by_cases e:j=i
   ·subst e;rw [hx] at h1;rw [hy] at h2;cases h1;cases h2;omega
   ·exact ha j x' y' z6 h1 h2
 ·have:i=a.length:=z6
  subst this
  repeat'(first|apply Sp.h|refine Lk.r rfl ?_|refine Rf.mk rfl ?_|refine xB ?_|refine xN ?_|fail)
  exact Fin.p rfl (vb (zT (p:=Ins a b) (λj x y h1 h2=>ha j x y (zS.1 h1).1 h1 h2)).symm)
theorem oa(a b:List Int):w9 [a,b]↔vY a/\vY b/\a.length=b.length:=by
 unfold w9
 simp
 intro _ _
 exact eq_comm
/-! ### Cy -/
def ZE(s:Int×Int×Int):List AV:= [.val (.int .i64 s.1),.val (.int .i64 s.2.1),.val (.int .i64 s.2.2)]
instance {p q r:Int}:Inv ZE [.val (.int .i64 p),.val (.int .i64 q),.val (.int .i64 r)] (p,q,r):=⟨rfl⟩
theorem _root_.Go.CF.za {p:Prop}(h:p:=by first|omega|decide|(simp;omega)|exact zB rfl):p:=h
theorem _root_.Go.CF.zh {p:Prop}(h:p:=by infer_instance):p:=h
theorem _root_.Go.CF.zu {p:Prop}(h:p:=by rfl):p:=h
theorem ph(a b:List Int):zy Tryz.prog 93 [ints a,ints b] [] λr own=>∃v l,r= .ow v/\own= [yb v 216 3 l ZE]/\(l= []↔(w9 [a,b]->Ins b a))/\l.length<=5:=by
 refine zy.of pg Eu Tryz.func93 rfl Tryz.ntmps93 Tryz.results93 rfl λh0 G0 O0=>?_
 repeat'(first|apply Sp.h|refine Lk.r rfl ?_|refine Rf.mk rfl ?_|apply yc.mk|(apply Fk.r;focus repeat' first|infer_instance|constructor)|refine Rf.mk ⟨rfl,rfl,rfl⟩ ?_|intro _)
 rename_i w
 (apply Cl.yY (kl [a,b]);(focus repeat'(first|exact y3.nil|(apply y3.yX;{exact z1};{exact zu};{exact za})|fail)))
 repeat'(first|apply Sp.h|refine Lk.r rfl ?_|refine Rf.mk rfl ?_|apply Bd.mk|apply Im.mk|refine xN ?_|intro _)
 ·rename_i rZ WS
  obtain⟨qx,hvb,AH⟩:=(oa a b).1 rZ
  refine CA.uV 5 216 3 ZE rfl λw2=>?_
  refine CA.loop (λx:Nat×Value×List (Int×Int×Int)=>⟨[(0,ints a),(1,ints b),(13,.val (.int .i64 a.length)),(14,.val (.int .i64 x.1)),(5,.ow x.2.1)],[yb x.2.1 216 3 x.2.2 ZE]⟩)
   (λx=>x.1<=a.length/\x.2.2.length<=x.1/\(x.2.2= []↔∀j p q,j < x.1->a[j]?=some p->b[j]?=some q->q<=p)) (λx=>a.length - x.1) (0,w2,[]) xE ⟨zZ _,Nat.le_refl _,⟨λ_ j p q h=>absurd h z6,λ_=>rfl⟩⟩ ?_
  rintro⟨i,v,l⟩ ⟨hi,hl,hq⟩
  simp only at hi hl hq
  by_cases yd:i < a.length
  ·obtain⟨x,hx⟩:=zz yd
   obtain⟨y,hy⟩:=zz (l:=b) (i:=i) z6
   have hrx:=qx.1 x (zM hx)
   unfold tg at hrx
   have z4h:=qx.2
   repeat'(first|apply Sp.h|refine Lk.r rfl ?_|refine Rf.mk rfl ?_|refine xA ?_|apply Bd.mk|refine yu.r rfl ?_|refine xP ?_|apply yc.mk|refine xU ?_|refine xI ?_|refine Ce.r ?_|(apply Fk.r;focus repeat' first|infer_instance|constructor)|refine Rf.mk ⟨rfl,rfl⟩ ?_|refine Rf.mk ⟨rfl,rfl,rfl⟩ ?_|(apply Mp.lit;(focus repeat(first|exact yK.nil|(apply yK.cons;{exact zu})|(apply yK.inv;{exact z1};{exact zh}))))|refine xD ?_|refine xO ?_|intro _)
   ·rename_i pS _ v2
    refine PA.lp (i+1,v2,l ++ [((i:Int),x+1,y)]) xE ⟨⟨yd,by simp;omega, ?_⟩,by simp only;omega⟩
    constructor
    ·intro h;simp at h
    ·intro h;have:=h i x y zd hx hy;omega
   ·rename_i pS
    refine PA.lp (i+1,v,l) xE ⟨⟨yd,by simp only;omega,hq.trans ⟨λh j p q hj h1 h2=>?_,λh j p q hj h1 h2=>h j p q (by simp only;omega) h1 h2⟩⟩,by simp only;omega⟩
    by_cases e:j=i
    ·subst e;rw [hx] at h1;rw [hy] at h2;cases h1;cases h2;omega
    ·exact h j p q (by simp only at hj;omega) h1 h2
  ·have:i=a.length:=z6
   subst this
   repeat'(first|apply Sp.h|refine Lk.r rfl ?_|refine Rf.mk rfl ?_|refine xB ?_|refine xN ?_|fail)
   exact⟨_,_,.one (.same (.z)),v,l,rfl,rfl,⟨λh _ j p q h1 h2=>hq.1 h j q p (zS.1 h2).1 h2 h1,λh=>hq.2 λj p q _ h1 h2=>h rZ j q p h2 h1⟩,by have:=qx.2;omega⟩
 ·exact⟨_,_,.one (.vC (.z)),_,[],rfl,rfl,⟨λ_ h=>absurd h z8,λ_=>rfl⟩,by simp⟩
/-! ### Zero -/
theorem _root_.Go.CF.zb {p:Prop}(h:p:=by first|omega|(simp;done)|(simp;omega)):p:=h
theorem _root_.Go.CF.zj {p:Prop}(h:p:=by exact rfl):p:=h
theorem RR(n:Int)(hn:1<=n/\n<=5):tJ Tryz.prog 88 [.val (.int .i64 n)] 3 1 (List.replicate n.toNat 0) xL:=by
 obtain⟨m,rfl⟩:∃m:Nat,n=m:=⟨n.toNat,z6⟩
 refine zy.of pg ye Tryz.func88 rfl Tryz.ntmps88 Tryz.results88 rfl λh0 G0 O0=>?_
 repeat'(first|apply Sp.h|refine Lk.r rfl ?_|refine Rf.mk rfl ?_|refine xB ?_|apply yc.mk|refine xN ?_|refine Rf.mk ⟨rfl,rfl,rfl⟩ ?_|(apply Jx.r;{exact zj};{exact zb})|refine yC.r xL 0 rfl ?_|intro _)
 exact⟨_,_,.one (.same (.z)),_,rfl,rfl⟩
/-! ### Compare -/
theorem Wp(a b:List Int):y6 Tryz.prog 134 [ints a,ints b] (if w9 [a,b] then .yE [.val (.int .i64 (if Ins a b/\Ins b a then 0 else if Ins a b then 1 else if Ins b a then 2 else 3)),.val (.int .i64 0)] else .yE [.val (.int .i64 0),.val (.int .i64 1)]):=by
 refine zy.of pg ye Tryz.func134 rfl Tryz.ntmps134 Tryz.results134 rfl λh0 G0 O0=>?_
 repeat'(first|apply Sp.h|refine Lk.r rfl ?_|refine Rf.mk rfl ?_|apply yc.mk|(apply Fk.r;focus repeat' first|infer_instance|constructor)|refine Rf.mk ⟨rfl,rfl,rfl⟩ ?_|intro _)
 (apply Cl.yY (kl [a,b]);(focus repeat'(first|exact y3.nil|(apply y3.yX;{exact z1};{exact zu};{exact za})|fail)))
 by_cases rZ:w9 [a,b]
 ·obtain⟨_,_,AH⟩:=(oa a b).1 rZ
  have l1:a.length<=b.length:=z6
  have l2:b.length<=a.length:=z6
  repeat'(first|apply Sp.h|refine Lk.r rfl ?_|refine Rf.mk rfl ?_|refine xA ?_|fail)
  refine xQ (dX a b l1) ?_
  repeat'(first|apply Sp.h|refine Lk.r rfl ?_|refine Rf.mk rfl ?_|fail)
  refine xQ (dX b a l2) ?_
  repeat'(first|apply Sp.h|refine Lk.r rfl ?_|refine Rf.mk rfl ?_|refine xA ?_|refine xB ?_|apply Bd.mk|refine xN ?_|intro _)
  all_goals refine Fin.p rfl ?_
  all_goals rw [if_pos rZ]
  all_goals simp only [*,and_self,and_true,if_true,if_false,and_false]
 ·repeat'(first|apply Sp.h|refine Lk.r rfl ?_|refine Rf.mk rfl ?_|refine xB ?_|refine xN ?_|fail)
  exact Fin.p rfl (by rw [if_neg rZ])
def sj(op:Int->Int->Int)(a b:List Int):List Int:=List.zipWith op a b
def z1q(op:Int->Int->Int)(l:List (List Int)):List Int:=l.tail.foldl (sj op) (l.headD [])
theorem Uz{op:Int->Int->Int}{a c:List Int}{i:Nat}{x y:Int}(ha:a[i]?=some x)(hc:c[i]?=some y)(hl:a.length=c.length) :
  ((sj op a c).take i ++ a.drop i).set i (op x y)=(sj op a c).take (i+1) ++ a.drop (i+1):=by
 have hz:(sj op a c)[i]?=some (op x y):=by simp [sj,List.getElem?_zipWith,ha,hc]
 have hi:=(zS.1 ha).1
 have bC:(sj op a c).length=a.length:=by simp [sj];omega
 apply List.ext_getElem?
 intro j
 rw [List.getElem?_set]
 have SY:((sj op a c).take i).length=i:=by simp;omega
 have Ar:((sj op a c).take (i+1)).length=i+1:=by simp;omega
 by_cases u5:i=j
 ·subst u5
  rw [if_pos rfl,if_pos zk,zI z6,List.getElem?_take,if_pos z6,hz]
 ·rw [if_neg u5]
  by_cases hj:j < i
  ·rw [zI z6,zI z6,List.getElem?_take,List.getElem?_take,if_pos hj,if_pos z6]
  ·rw [zJ z6,zJ z6,SY,Ar,List.getElem?_drop,List.getElem?_drop]
   congr 1;omega
theorem LH{op:Int->Int->Int}{a c:List Int}{i:Nat}{x:Int}(ha:a[i]?=some x)(hl:a.length=c.length):((sj op a c).take i ++ a.drop i)[i]?=some x:=by
 have hi:=(zS.1 ha).1
 have bC:(sj op a c).length=a.length:=by simp [sj];omega
 have SY:((sj op a c).take i).length=i:=by simp;omega
 rw [zJ z6,SY,Nat.sub_self,List.getElem?_drop]
 simpa using ha


theorem du{op:Int->Int->Int}{a c:List Int}(h:a.length=c.length):(sj op a c).length=a.length:=by simp [sj];omega
def pK(op:Int->Int->Int)(d:List Int)(r:List (List Int))(i:Nat):List Int:=(r.take i).foldl (sj op) d
theorem jB{op:Int->Int->Int}{d:List Int}{r:List (List Int)}{i:Nat}{c:List Int}(h:r[i]?=some c):pK op d r (i+1)=sj op (pK op d r i) c:=by
 unfold pK
 rw [zK,h]
 simp
theorem pn{op:Int->Int->Int}{d:List Int}{r:List (List Int)}(h:∀c∈r,c.length=d.length) :∀i,(pK op d r i).length=d.length
 | 0=>rfl
 | i+1=>by
  cases hr:r[i]? with
  | none =>
   have:=pn h (op:=op) i
   unfold pK at this ⊢
   rw [zK,hr]
   simpa using this
  | some c =>
   have ih:=pn h (op:=op) i
   rw [jB hr,du (by rw [ih,h c (zM hr)]),ih]
theorem ID{g:FuncId}{op:Int->Int->Int}(hg:∀x y,y6 Tryz.prog g [.val (.int .i64 x),.val (.int .i64 y)] (.val (.int .i64 (op x y))))(he:en g=true)(d:List Int)(r:List (List Int))(rZ:w9 (d :: r)) :
  tJ Tryz.prog 158 [.fn g [],vW (d :: r)] 3 1 ((d :: r).tail.foldl (sj op) d) xL:=by
 have hd:=rZ.2 d zd
 have hd2:=hd.1.2
 have hr:∀c∈r,c.length=d.length:=λc hc=>(rZ.2 c (by simp [hc])).2
 have Bm:(d :: r)[0]?=some d:=rfl
 refine zy.of pg ye Tryz.func158 rfl Tryz.ntmps158 Tryz.results158 rfl λh0 G0 O0=>?_
 repeat'(first|apply Sp.h|refine Lk.r rfl ?_|refine Rf.mk rfl ?_|fail)
 refine xQ (kl _) ?_
 repeat'(first|apply Sp.h|refine Lk.r rfl ?_|refine Rf.mk rfl ?_|refine xA ?_|refine xI ?_|fail)
 have hl:d.length<=1000000000:=z6
 (refine Cl.use (ud d hl) (by repeat'(first|exact y3.nil|apply y3.yB|fail)) .nil rfl ?_;rintro _ _ ⟨_,rfl,rfl⟩)
 repeat'(first|apply Sp.h|refine Lk.r rfl ?_|refine Rf.mk rfl ?_|apply Im.mk|(apply Jx.r;{exact zj};{exact zb})|intro _)
 rw [show List.take ((d :: r).length - 1) (List.drop 1 (d :: r))=r by simp]
 repeat'(first|fail)
 rename_i w bg
 have bg:r.length<=9223372036854775807:=by simpa using bg
 refine CA.loop (λx:Nat×Value=>⟨[(0,.fn g []),(18,vW r),(19,.val (.int .i64 r.length)),(20,.val (.int .i64 x.1)),(5,.ow x.2)],[yb x.2 3 1 (pK op d r x.1) xL]⟩)
  (λx=>x.1<=r.length) (λx=>r.length - x.1) (0,w) xE (zZ _) ?_
 rintro⟨k,v⟩ hk
 simp only at hk
 by_cases yd:k < r.length
 ·obtain⟨c,hc⟩:=zz yd
  have ue:=hr c (zM hc)
  have qz:=pn (op:=op) hr k
  repeat'(first|apply Sp.h|refine Lk.r rfl ?_|refine Rf.mk rfl ?_|refine xA ?_|apply Im.mk|refine xI ?_|intro _)
  obtain⟨A,hA⟩:∃A,A=pK op d r k:=⟨_,rfl⟩
  rw [<-hA] at qz
  refine CA.loop (λx:Nat×Value=>⟨[(0,.fn g []),(18,vW r),(19,.val (.int .i64 r.length)),(20,.val (.int .i64 k)),(24,ints c),(25,.val (.int .i64 c.length)),(26,.val (.int .i64 x.1)),(5,.ow x.2)],[yb x.2 3 1 ((sj op A c).take x.1 ++ A.drop x.1) xL]⟩)
   (λx=>x.1<=c.length) (λx=>c.length - x.1) (0,v) (by subst hA;exact xE) (zZ _) ?_
  rintro⟨i,v⟩ hi
  simp only at hi
  by_cases hic:i < c.length
  ·obtain⟨y,hy⟩:=zz hic
   obtain⟨x,hx⟩:=zz (l:=A) (i:=i) z6
   have YZ:=LH (op:=op) (c:=c) hx z6
   have yL:=Uz (op:=op) hx hy z6
   repeat'(first|apply Sp.h|refine Lk.r rfl ?_|refine Rf.mk rfl ?_|refine xA ?_|refine xU ?_|refine xI ?_|refine xJ ?_|(apply Rf.mk;{exact z8})|fail)
   refine xQ (hg x y) ?_
   repeat'(first|apply Sp.h|refine Lk.r rfl ?_|refine Rf.mk rfl ?_|refine xU ?_|refine xI ?_|refine xJ ?_|refine xV ?_|refine Up.r rfl ?_|refine xO ?_|fail)
   rw [yL]
   exact PA.lp (i+1,v) xE ⟨hic,by simp only;omega⟩
  ·have:i=c.length:=z6
   subst this
   have e1:(sj op A c).take c.length ++ A.drop c.length=sj op A c:=by
    rw [List.drop_of_length_le z6,List.append_nil,List.take_of_length_le (by rw [du z6];omega)]
   simp only [e1]
   repeat'(first|apply Sp.h|refine Lk.r rfl ?_|refine Rf.mk rfl ?_|refine xB ?_|refine xO ?_|fail)
   refine PA.lp (k+1,v) (by rw [jB hc,<-hA];exact xE) ⟨yd,by simp only;omega⟩
 ·have:k=r.length:=z6
  subst this
  repeat'(first|apply Sp.h|refine Lk.r rfl ?_|refine Rf.mk rfl ?_|refine xB ?_|refine xN ?_|fail)
  have e1:pK op d r r.length=(d :: r).tail.foldl (sj op) d:=by simp [pK]
  simp only [e1]
  exact⟨_,_,.one (.same (.z)),_,rfl,rfl⟩
theorem TC{g:FuncId}(l:List (List Int))(rZ:¬w9 l):y6 Tryz.prog 158 [.fn g [],vW l] (.val (.slice none 0 0)):=by
 refine zy.of pg ye Tryz.func158 rfl Tryz.ntmps158 Tryz.results158 rfl λh0 G0 O0=>?_
 repeat'(first|apply Sp.h|refine Lk.r rfl ?_|refine Rf.mk rfl ?_|fail)
 refine xQ (kl _) ?_
 repeat'(first|apply Sp.h|refine Lk.r rfl ?_|refine Rf.mk rfl ?_|refine xB ?_|refine xN ?_|fail)
 exact Fin.p rfl rfl
theorem QL(x y:Int):y6 Tryz.prog 159 [.val (.int .i64 x),.val (.int .i64 y)] (.val (.int .i64 (min x y))):=by
 refine zy.of pg ye Tryz.func159 rfl Tryz.ntmps159 Tryz.results159 rfl λh0 G0 O0=>?_
 repeat'(first|apply Sp.h|refine Lk.r rfl ?_|refine Rf.mk rfl ?_|refine xN ?_|fail)
 exact Fin.p rfl rfl
theorem jI{l:List (List Int)}(h:w9 l) :∃d r,l=d :: r:=by
 cases l with
 | nil=>exact absurd h.1 zd
 | cons d r=>exact⟨d,r,rfl⟩
theorem Ie(l:List (List Int))(rZ:w9 l):tJ Tryz.prog 101 [vW l] 3 1 (z1q min l) xL:=by
 obtain⟨d,r,rfl⟩:=jI rZ
 refine zy.of pg ye Tryz.func101 rfl Tryz.ntmps101 Tryz.results101 rfl λh0 G0 O0=>?_
 repeat'(first|apply Sp.h|refine Lk.r rfl ?_|refine Rf.mk rfl ?_|fail)
 have he:en 159=true:=rfl
 (refine Cl.use (ID QL he d r rZ) (by repeat'(first|exact y3.nil|apply y3.yB|fail)) .nil rfl ?_;rintro _ _ ⟨_,rfl,rfl⟩)
 repeat'(first|apply Sp.h|refine Lk.r rfl ?_|refine xN ?_|fail)
 exact⟨_,_,.one (.same (.z)),_,rfl,rfl⟩
theorem T9(l:List (List Int))(rZ:¬w9 l):y6 Tryz.prog 101 [vW l] (.val (.slice none 0 0)):=by
 refine zy.of pg ye Tryz.func101 rfl Tryz.ntmps101 Tryz.results101 rfl λh0 G0 O0=>?_
 repeat'(first|apply Sp.h|refine Lk.r rfl ?_|refine Rf.mk rfl ?_|fail)
 refine xQ (TC l rZ) ?_
 repeat'(first|apply Sp.h|refine Lk.r rfl ?_|refine xN ?_|fail)
 exact Fin.p rfl rfl
theorem uB(c:List Int):y6 Tryz.prog 70 [ints c] (.val (.bool (decide (vY c)))):=by
 refine zy.of pg ye Tryz.func70 rfl Tryz.ntmps70 Tryz.results70 rfl λh0 G0 O0=>?_
 repeat'(first|apply Sp.h|refine Lk.r rfl ?_|refine Rf.mk rfl ?_|fail)
 refine CA.loop (λi:Nat=>⟨[(0,ints c),(3,.val (.int .i64 i))],[]⟩) (λi=>i<=c.length/\∀x∈c.take i,tg x) (λi=>c.length - i) 0 xE ⟨zZ _,by simp⟩ ?_
 rintro i ⟨hi,ha⟩
 by_cases yd:i < c.length
 ·obtain⟨x,hx⟩:=zz yd
  repeat'(first|apply Sp.h|refine Lk.r rfl ?_|refine Rf.mk rfl ?_|refine xA ?_|refine xB ?_|apply Bd.mk|apply Im.mk|refine xI ?_|refine xN ?_|refine xO ?_|intro _)
  all_goals first
   | exact PA.lp (i+1) xE ⟨⟨yd,all_succ hx ha ⟨z6,z6⟩⟩,z6⟩
   | exact Fin.p rfl (vb (zF (λh=>by have h1:=h.1 x (zM hx);unfold tg at h1;omega)).symm)
 ·have:i=c.length:=z6
  subst this
  rw [zL] at ha
  repeat'(first|apply Sp.h|refine Lk.r rfl ?_|refine Rf.mk rfl ?_|refine xA ?_|refine xB ?_|apply Bd.mk|apply Im.mk|refine xN ?_|intro _)
  all_goals exact Fin.p rfl (vb (by first|exact(zF (λh=>by have:=h.2;omega)).symm|exact zD.2 ⟨λh=>⟨ha,z6,z6⟩,λh=>by have:=h.2;omega⟩))
theorem fH(c:List Int)(r n:Int):y6 Tryz.prog 25 [ints c,Vr r n] (.val (.bool (decide (x9 c r n)))):=by
 refine zy.of pg EO Tryz.func25 rfl Tryz.ntmps25 Tryz.results25 rfl λh0 G0 O0=>?_
 by_cases hr:0<=r/\r < c.length
 ·obtain⟨x,hx⟩:=zz (l:=c) (i:=r.toNat) z6
  repeat'(first|apply Sp.h|refine Lk.r rfl ?_|refine Rf.mk rfl ?_|refine yu.r rfl ?_|apply yc.mk|refine xD ?_|intro _)
  refine xQ (uB _) ?_
  repeat'(first|apply Sp.h|refine Lk.r rfl ?_|refine Rf.mk rfl ?_|refine xA ?_|refine xB ?_|apply Bd.mk|refine yu.r rfl ?_|apply Im.mk|refine xT ?_|(apply Ix.r;{exact z8};{exact z6})|refine xN ?_|intro _)
  all_goals refine Fin.p rfl (vb ?_)
  all_goals first
   | exact zD.2 ⟨λh=>⟨by assumption,hr.1,by assumption,x,hx,h⟩,λ⟨_,_,_,y,hy,h⟩=>by rw [hx] at hy;cases hy;exact h⟩
   | exact(zF (λ⟨_,_,_,y,hy,_⟩=>by have:=(zS.1 hy).1;first|contradiction|omega)).symm
 ·repeat'(first|apply Sp.h|refine Lk.r rfl ?_|refine Rf.mk rfl ?_|refine yu.r rfl ?_|apply yc.mk|refine xD ?_|intro _)
  refine xQ (uB _) ?_
  repeat'(first|apply Sp.h|refine Lk.r rfl ?_|refine Rf.mk rfl ?_|refine xA ?_|refine xB ?_|apply Bd.mk|refine yu.r rfl ?_|apply Im.mk|refine xT ?_|refine xN ?_|intro _)
  all_goals refine Fin.p rfl (vb ?_)
  all_goals exact(zF (λ⟨_,_,_,y,hy,_⟩=>by have:=(zS.1 hy).1;first|contradiction|omega)).symm
theorem z27(a b:List Int):y6 Tryz.prog 75 [ints a,ints b] (.val (.bool (decide (Ins a b)))):=by
 refine zy.of pg z3b Tryz.func75 rfl Tryz.ntmps75 Tryz.results75 rfl λh0 G0 O0=>?_
 repeat'(first|apply Sp.h|refine Lk.r rfl ?_|refine Rf.mk rfl ?_|fail)
 refine CA.loop (λi:Nat=>⟨[(0,ints a),(1,ints b),(5,.val (.int .i64 i))],[]⟩) (λi=>i<=a.length/\∀j x y,j < i->a[j]?=some x->b[j]?=some y->x<=y) (λi=>a.length - i) 0 xE ⟨zZ _,λj x y h=>z6⟩ ?_
 rintro i ⟨hi,ha⟩
 by_cases yd:i < a.length/\i < b.length
 ·obtain⟨x,hx⟩:=zz yd.1
  obtain⟨y,hy⟩:=zz yd.2
  repeat'(first|apply Sp.h|refine Lk.r rfl ?_|refine Rf.mk rfl ?_|refine xA ?_|apply Bd.mk|refine yu.r rfl ?_|apply Im.mk|refine xI ?_|refine xN ?_|refine xD ?_|refine xO ?_|intro _)
  ·rename_i pS
   exact Fin.p rfl (vb (zF (λh=>by have:=h i x y hx hy;omega)).symm)
  ·rename_i pS
   refine PA.lp (i+1) xE ⟨⟨yd.1,λj x' y' hj h1 h2=>?_⟩,z6⟩
   by_cases e:j=i
   ·subst e;rw [hx] at h1;rw [hy] at h2;cases h1;cases h2;omega
   ·exact ha j x' y' z6 h1 h2
 ·repeat'(first|apply Sp.h|refine Lk.r rfl ?_|refine Rf.mk rfl ?_|refine xA ?_|refine xB ?_|apply Bd.mk|apply Im.mk|refine xN ?_|intro _)
  all_goals exact Fin.p rfl (vb (zT (p:=Ins a b) (λj x y h1 h2=>ha j x y (by have:=(zS.1 h1).1;have:=(zS.1 h2).1;omega) h1 h2)).symm)
/-! ### z0I -/
structure yo where
 rep:Int
 num:Int
 time:Int
 yj:List Int
 kind:Int
 action:Int
 gk:Int
 gi:Int
 ge:Int
 ga:Int
 to:Int
 place:Int
 wx:Int
abbrev iv (x:Int):AV:= .val (.int .i64 x)
def uf(e:yo):List AV:= [iv e.rep,iv e.num,iv e.time,ints e.yj,iv e.kind,iv e.action,iv e.gk,iv e.gi,iv e.ge,iv e.ga,iv e.to,iv e.place,iv e.wx]
abbrev uL (e:yo):AV:= .agg (uf e)
abbrev vm (l:List yo):AV:= .sl 13 l uf
theorem Yi(e:yo):y6 Tryz.prog 26 [uL e] (Vr e.rep e.num):=by
 refine zy.of pg ye Tryz.func26 rfl Tryz.ntmps26 Tryz.results26 rfl λh0 G0 O0=>?_
 repeat'(first|apply Sp.h|refine Lk.r rfl ?_|refine Rf.mk rfl ?_|apply yc.mk|refine xT ?_|(apply y4.r;focus repeat' constructor)|(apply Fk.r;focus repeat' first|infer_instance|constructor)|refine xN ?_|intro _)
 exact Fin.p rfl rfl
def pV(n lo hi:Int):Prop:=lo<=n/\n<=hi
instance (n lo hi:Int):Decidable (pV n lo hi):=inferInstanceAs (Decidable (_/\_))
theorem ry(n lo hi:Int):y6 Tryz.prog 241 [iv n,iv lo,iv hi] (.val (.bool (decide (pV n lo hi)))):=by
 refine zy.of pg ye Tryz.func241 rfl Tryz.ntmps241 Tryz.results241 rfl λh0 G0 O0=>?_
 repeat'(first|apply Sp.h|refine Lk.r rfl ?_|refine Rf.mk rfl ?_|refine xA ?_|refine xB ?_|apply Bd.mk|refine xN ?_|intro _)
 all_goals refine Fin.p rfl (vb ?_)
 ·exact zD.2 (by unfold pV;omega)
 ·exact(zF (by unfold pV;omega)).symm
theorem x_:wJ Tryz.prog 3 (Rp.int .i64):=wJ.int Tryz.underlying3 z7
theorem rL:wJ Tryz.prog 22 (Rp.int .i64).slice:=wJ.slice Tryz.underlying22 z7 x_ zf
abbrev Ux:=Int×Int×Int×Unit
def Rp.U5:Rp Ux:=(Rp.int .i64).pair ((Rp.int .i64).pair ((Rp.int .i64).pair Rp.unit))
theorem Qk:wJ Tryz.prog 62 Rp.U5:=wJ.struct Tryz.underlying62 rfl z7 (wY.cons rfl x_ rfl (wY.cons rfl x_ rfl (wY.cons rfl x_ rfl wY.nil)))
abbrev Mz:=Ux×Int×Unit
def Rp.Md:Rp Mz:=Rp.U5.pair ((Rp.int .i64).pair Rp.unit)
theorem Jm:wJ Tryz.prog 64 Rp.Md:=wJ.struct Tryz.underlying64 rfl z7 (wY.cons rfl Qk rfl (wY.cons rfl x_ rfl wY.nil))
abbrev az:=Int×Int×Int×List Int×Int×Int×Mz×Int×Int×Int×Unit
def Rp.Uq:Rp az:=(Rp.int .i64).pair ((Rp.int .i64).pair ((Rp.int .i64).pair ((Rp.int .i64).slice.pair ((Rp.int .i64).pair ((Rp.int .i64).pair (Rp.Md.pair ((Rp.int .i64).pair ((Rp.int .i64).pair ((Rp.int .i64).pair Rp.unit)))))))))
theorem Qm:wJ Tryz.prog 66 Rp.Uq:=wJ.struct Tryz.underlying66 rfl z7
 (wY.cons rfl x_ rfl (wY.cons rfl x_ rfl (wY.cons rfl x_ rfl (wY.cons rfl rL rfl (wY.cons rfl x_ rfl (wY.cons rfl x_ rfl (wY.cons rfl Jm rfl (wY.cons rfl x_ rfl (wY.cons rfl x_ rfl (wY.cons rfl x_ rfl wY.nil))))))))))
def z0e:az->yo
 | (rep,num,time,yj,kind,action,((gk,gi,ge,()),ga,()),to,place,wx,()) =>
  { rep:=rep,num:=num,time:=time,yj:=yj,kind:=kind,action:=action,gk:=gk,gi:=gi,ge:=ge,ga:=ga,to:=to,place:=place,wx:=wx }
def Lv(e:yo):az:=(e.rep,e.num,e.time,e.yj,e.kind,e.action,((e.gk,e.gi,e.ge,()),e.ga,()),e.to,e.place,e.wx,())
def Rp.event:Rp yo:=Rp.Uq.qd Lv
theorem Aa:wJ Tryz.prog 66 Rp.event:=wJ.qd Qm Lv z0e (λ_=>rfl)
theorem Ej:wJ Tryz.prog 31 Rp.event.slice:=wJ.slice Tryz.underlying31 z7 Aa zf
theorem rO:wK (Rp.int .i64).slice λl=> [ints l]:=wK.int.slice
theorem Pw:wK Rp.event uf :=
 ((wK.int.pair (wK.int.pair (wK.int.pair (rO.pair (wK.int.pair (wK.int.pair (((wK.int.pair (wK.int.pair (wK.int.pair wK.unit))).pair (wK.int.pair wK.unit)).pair (wK.int.pair (wK.int.pair (wK.int.pair wK.unit)))))))))).qd Lv).cast λ_=>rfl
theorem Dw:wK Rp.event.slice λl=> [vm l]:=Pw.slice
end Go.Proofs.YtmjllbjfkafhdaaGreatDoor
namespace Go.Proofs.YtmjllbjfkafhdaaGreatDoor
open Go Go.CF Go.ChangeShapes Go.WideShapes Go.ChangeAt Go.RowKit

theorem Aj:ownKnob Tryz.prog.godebug=none:=by kernel_rfl
theorem laid:laidOutB Tryz.prog=true:=by kernel_rfl
theorem rf{W:World}{r:Reach}{b:Nat}{t e:TypeId}{v:Value}{α:Type}{R:Rp α}{l:List α}(ht:Tryz.prog.underlying t=some (.slice e))(hv:Value.okWide Tryz.prog W r b t v)(h:R.slice.R W.heap (Old W.heap) v.cells.toList l):R.slice.R W.heap (Old W.heap) [v] l:=by
 rw [CF.okWide_slice ht hv] at h;exact h
abbrev dj:List (String×DataW Unit):= [("unicode.White_Space",Rows.laid_unicode_White_Space),("strings.asciiSpace",Rows.laid_strings_asciiSpace)]
theorem z0d:Tryz.prog.globalNamed "strings.asciiSpace" = some 0:=by kernel_rfl
theorem A0:(Tryz.prog.globals[0]?).map (·.type)=some 347:=by kernel_rfl
theorem PB:Vv Tryz.prog= [0]:=by kernel_rfl
theorem c8:Tryz.prog.cellsOf 5=1:=by kernel_rfl
theorem DA:(Rows.laid_strings_asciiSpace:DataW Unit)= .agg (q9.map λv=>match v with | .int k n=> .lit (.int k n)|_=> .nil):=by kernel_rfl
theorem WC:q9.length=256:=by kernel_rfl
theorem H2{W:World}(h:laidMetH Tryz.prog dj W):oY Tryz.prog W.heap (Old W.heap):=by
 rw [MakeChecks.laidMetH_plain _ _ _ z7] at h
 obtain⟨ps,⟨g0,t0,cs0,f0,p0,q0,Va,ht0,hv0,Bm,⟨g1,t1,cs1,f1,p1,q1,hg1,ht1,Hf,Og,_,_⟩,_⟩,_,_⟩:=h
 obtain rfl:=Option.some.inj (z0d.symm.trans hg1)
 obtain rfl:=Option.some.inj (A0.symm.trans ht1)
 obtain⟨xs,m1,rfl,lx,hlen,hn,gT⟩:=DataW.trod_array Tryz.underlying347 Og
 rw [DA] at lx
 simp only [Prod.mk.injEq,DataW.agg.injEq] at lx
 have yS:=λi=>World.var?_cell hg1 Hf i
 have YZ:∀j v,q9[j]?=some v->W.cell? ⟨0,j,none⟩=some v:=by
  intro j v hj
  have Mm:j < 256:=by rw [<-WC];exact(zS.1 hj).1
  have h1:=gT j Mm
  rw [c8,Nat.mul_one] at h1
  have hxj:xs[j]?=some (xs[j]' z6):=zE z6
  rw [hxj] at h1
  obtain⟨k,e1,e2,_⟩:=DataW.trod_int Tryz.underlying5 h1
  have h2:=congrArg (λl=>l[j]?) lx.1
  simp only [zG,hj,hxj,Option.map_some,Option.some.injEq] at h2
  rw [e2] at h2
  have hk:v= .int .u8 k:=by
   unfold q9 at hj
   rw [zG,List.getElem?_range Mm] at hj
   simp only [Option.map_some,Option.some.injEq] at hj
   subst hj
   simp only [DataW.lit.injEq,Lit.int.injEq,true_and] at h2
   rw [h2]
  rw [yS j,<-Array.getElem?_toList,hk]
  have h3:=congrArg (λl=>l[0]?) e1
  simp only [List.getElem?_take,List.getElem?_drop,List.getElem?_cons_zero] at h3
  simpa using h3
 intro g hg
 rw [PB] at hg
 obtain rfl:=zH.1 hg
 have h0:W.cell? ⟨0,0,none⟩=some (.int .u8 0):=YZ 0 _ rfl
 have xC:0 < W.heap.size:=by
  unfold World.cell? at h0
  split at h0
  ·rename_i e
   exact(zA.1 e).1
  ·cases h0
 refine⟨xC,xC,⟨λj v hj=>⟨λw hw=>?_⟩⟩⟩
 rw [yZ,Nat.zero_add]
 have:=YZ j v hj
 unfold World.cell? at this ⊢
 rw [hw]
 exact this
theorem TQ(os:Os)(args:Array Value):laidMetH Tryz.prog dj ((World.doorLaid Tryz.prog 33 os).forCall (λ_ _=>0) ⟨#[],args,[]⟩).memory :=
 laidMetH_of_parts3 (fuel:=8) (laidMet_of_run' 8 z7 z7) z7 z7
end Go.Proofs.YtmjllbjfkafhdaaGreatDoor
