/- Part 3 of the ground of this proof: what its texts say of the model, the program and the plain data; conditions: those that are named. -/
import Derived.Laws.ResultCell
import Derived.Laws.StructEq
import Derived.Laws.Strings
import Derived.Laws.DeepStrings4
import Derived.Laws.CopyRow
import Derived.Lib.Overlaps
import Derived.Test.YtmjllbjfkafhdaaGreatDoorT02
namespace Go.CF
open Go
section
variable {Γ:Cx} {k:List KI} {e:EA} {o:List yh} {N:NA} {c:xa} {d:Tmp} {ty:TypeId} {x y z:Operand} {t u:TypeId} {kk:IntKind} {i:Int}

/-! ### z2k of slices -/
structure Oy (e:EA) (lo hi:Option Operand) (n:Nat) (M:Nat->Nat->Prop):Prop where
 ok:∃l m,l<=m/\m<=n/\M l m/\(match lo with|none=>l=0|some q=>∃kk i,xr e q=some (.val (.int kk i))/\i=(l:Int))/\(match hi with|none=>m=n|some q=>∃kk i,xr e q=some (.val (.int kk i))/\i=(m:Int))
structure Nb (a:AV) (M:Int->Prop):Prop where
 ok:∃kk i,a= .val (.int kk i)/\M i
instance {kk:IntKind} {i:Int} {M:Int->Prop}:Sp (Nb (.val (.int kk i)) M) (M i):=⟨λh=>⟨kk,i,rfl,h⟩⟩
instance {n:Nat} {M:Nat->Nat->Prop} {q:Operand}:Sp (Oy e (some q) none n M) (Lk (xr e q) λa=>Nb a λi=>Jx i n λj=>M j n):=⟨λ⟨_,ha,kk,i,hk,j,h1,h2,h3⟩=>⟨j,n,h2,Nat.le_refl _,h3,⟨kk,i,hk▸ha,h1⟩,rfl⟩⟩
instance {n:Nat} {M:Nat->Nat->Prop} {q:Operand}:Sp (Oy e none (some q) n M) (Lk (xr e q) λa=>Nb a λi=>Jx i n λj=>M 0 j):=⟨λ⟨_,ha,kk,i,hk,j,h1,h2,h3⟩=>⟨0,j,zZ _,h2,h3,rfl,⟨kk,i,hk▸ha,h1⟩⟩⟩
instance {n:Nat} {M:Nat->Nat->Prop} {q r:Operand}:Sp (Oy e (some q) (some r) n M) (Lk (xr e q) λa=>Nb a λi=>Lk (xr e r) λb=>Nb b λi'=>Jx i' n λm=>Jx i m λj=>M j m):=⟨λ⟨_,ha,kk,i,hk,_,hb,HU,i',qe,m,h1,h2,j,h3,h4,h5⟩=>⟨j,m,h4,h2,h5,⟨kk,i,hk▸ha,h3⟩,⟨HU,i',qe▸hb,h1⟩⟩⟩
structure Ow (Γ:Cx) (c:xa) (d:Tmp) (t:TypeId) (x:Operand) (lo hi:Option Operand) (ty:TypeId) (e:EA) (o:List yh) (N:NA) (a:AV):Prop where
 h:xr e x=some a->SA Γ c (some d) (.slice t x lo hi none) ty e o N
instance {lo hi:Option Operand}:Sp (SA Γ c (some d) (.slice t x lo hi none) ty e o N) (Lk (xr e x) λa=>Ow Γ c d t x lo hi ty e o N a):=⟨λ⟨_,ha,h⟩=>h.h ha⟩
theorem ny{lo hi:Option Operand}{env:Env}{h:y7}{G:Nat->Prop}{Os:List (Nat->Prop)}(cn:vM Γ ⟨e,o⟩ env h G Os){p:Nat×TI}(hp:nN Γ.tt t=some p){q:Option Addr}{len cap l m:Nat}(h1:ev env x=some (.slice q len cap))(O4:l<=m)(hmn:m<=len)(oP:len<=cap)
  (YS:match lo with|none=>l=0|some q=>∃kk i,xr e q=some (.val (.int kk i))/\i=(l:Int)) (Zs:match hi with|none=>m=len|some q=>∃kk i,xr e q=some (.val (.int kk i))/\i=(m:Int)) {N':Env->y7->Prop} (hn:N' ((d,.slice (vd q p.2.size l cap) (m - l) (cap - l)) :: env) h) :
  lo≠none∨hi≠none->St Γ.P Γ.n Γ.fp c (some d) (.slice t x lo hi none) ty env h N':=by
 intro vB
 obtain⟨ti,t1,t2,t3⟩:=xg hp
 match lo,hi with
 | none,none=>simp at vB
 | some a,none =>
  obtain⟨kk,i,g1,g2⟩:=YS
  obtain⟨v,g3,g4⟩:=cn.get g1
  have g4:v= .int kk i:=g4
  subst g4
  simp only at Zs
  subst Zs
  exact St.Jb Γ.ok t1 t2 t3 h1 g3 g2 O4 hn
 | none,some b =>
  obtain⟨kk,i,g1,g2⟩:=Zs
  obtain⟨v,g3,g4⟩:=cn.get g1
  have g4:v= .int kk i:=g4
  subst g4
  simp only at YS
  subst YS
  exact St.U3 Γ.ok t1 t2 t3 h1 g3 g2 z6 hn
 | some a,some b =>
  obtain⟨kk,i,g1,g2⟩:=YS
  obtain⟨v,g3,g4⟩:=cn.get g1
  have g4:v= .int kk i:=g4
  subst g4
  obtain⟨HU,i',g5,g6⟩:=Zs
  obtain⟨v,g7,g8⟩:=cn.get g5
  have g8:v= .int HU i':=g8
  subst g8
  exact St.Q9 Γ.ok t1 t2 t3 h1 g3 g7 g2 g6 O4 z6 hn
instance {lo hi:Option Operand} {α:Type} {sz:Nat} {l:List α} {f:α->List AV}:Sp (Ow Γ c d t x lo hi ty e o N (.sl sz l f)) (Rf ((lo.isSome || hi.isSome)=true) (Lk (nN Γ.tt t) λp=>Rf (p.2.size=sz) (Oy e lo hi l.length λa b=>N ((d,.sl sz ((l.drop a).take (b - a)) f) :: e) o))):=⟨λ⟨vB,p,hp,hz,a,b,h1,h2,hn,h3,h4⟩=>⟨λha=>⟨λenv hh G Os cn=>by
 obtain⟨v,g1,g2⟩:=cn.get ha
 have hlen:((l.drop a).take (b - a)).length=b - a:=by simp;omega
 have jP:lo≠none∨hi≠none:=by cases lo <;> cases hi <;> simp at vB ⊢
 obtain⟨hm,⟨rfl,q,cap,rfl⟩|⟨bk,of,cap,rows,rfl,k1,k2,k3,k4,k5,k6⟩⟩:=g2
 ·have qg:b=0:=by simpa using h2
  have Gs:a=0:=z6
  subst qg;subst Gs
  exact ny cn hp g1 (l:=0) (m:=0) (Nat.le_refl _) (Nat.le_refl _) (zZ _) h3 h4 (CN.mk (cn.put d (a:= .sl sz (([]:List α).drop 0 |>.take (0 - 0)) f) ⟨by simp,.inl ⟨by simp,_,_,rfl⟩⟩) hn) jP
 ·refine ny cn hp g1 h1 h2 k2 h3 h4 (CN.mk (cn.put d (a:= .sl sz ((l.drop a).take (b - a)) f) ⟨z6, ?_⟩) hn) jP
  rcases Nat.eq_or_lt_of_le h1 with h9|h9
  ·refine .inl ⟨zQ z6, ?_⟩
   subst h9
   exact⟨_,_,by rw [Nat.sub_self]⟩
  ·refine .inr ⟨bk,of+a * sz,cap - a,(rows.drop a).take (b - a), ?_,z6,z6,k3,k4, ?_,(k6.drop a).take (b - a)⟩
   ·rw [hlen]
    unfold vd
    rw [if_neg z6,hz]
    simp [Addr.add]
   ·have u4:=k6.sz
    have e1:(rows.drop a).flatten=rows.flatten.drop (a * sz):=by
     have e2:rows.flatten=(rows.take a).flatten ++ (rows.drop a).flatten:=by rw [<-List.flatten_append,List.take_append_drop]
     have e3:(rows.take a).flatten.length=a * sz:=by rw [tw _ (λr hr=>u4 r (zW hr)),zN,k6.len];congr 1 <;> omega
     rw [e2,<-e3,List.drop_left]
    have e4:((rows.drop a).take (b - a)).flatten=(rows.flatten.drop (a * sz)).take ((b - a) * sz):=by
     have e2:(rows.drop a).flatten=((rows.drop a).take (b - a)).flatten ++ ((rows.drop a).drop (b - a)).flatten:=by rw [<-List.flatten_append,List.take_append_drop]
     have e3:((rows.drop a).take (b - a)).flatten.length=(b - a) * sz:=by rw [tw _ (λr hr=>u4 r (List.mem_of_mem_drop (zW hr))),zN,List.length_drop,k6.len];congr 1 <;> omega
     rw [<-e1,e2,<-e3,List.take_left]
    rw [e4]
    refine⟨λj v hv=>?_⟩
    rw [List.getElem?_take] at hv
    split at hv
    ·rw [List.getElem?_drop] at hv
     have:=k5.cell hv
     rw [yZ,show of+a * sz+j=of+(a * sz+j) by omega]
     exact this
    ·cases hv⟩⟩⟩
instance {lo hi:Option Operand} {v:Value}:Sp (Ow Γ c d t x lo hi ty e o N (.ow v)) (Rf ((lo.isSome || hi.isSome)=true) (Lk (nN Γ.tt t) λp=>gU o v λ_ sz l _ _=>Rf (p.2.size=sz) (Oy e lo hi l.length λa b=>N ((d,.os v sz a (b - a)) :: e) o))):=⟨λ⟨vB,p,hp,α,T,sz,l,f,rest,tk,hz,a,b,h1,h2,hn,h3,h4⟩=>⟨λha=>⟨λenv hh G Os cn=>by
 obtain⟨w,g1,rfl,q,len,cap,rfl⟩:=cn.get ha
 obtain⟨O,yz,yT⟩:=cn.take tk
 obtain⟨⟨_,rows,hw,_⟩,_⟩:=yT.hp.own
 have jP:lo≠none∨hi≠none:=by cases lo <;> cases hi <;> simp at vB ⊢
 have gS:len=l.length/\l.length<=cap:=by
  rcases hw.ok with⟨e1,e2⟩|⟨b',of,wR,L,e1,_,_,e2,_⟩
  ·cases e1;omega
  ·cases e1;exact⟨rfl,e2⟩
 obtain⟨rfl,gS⟩:=gS
 exact ny cn hp g1 h1 h2 gS h3 h4 (CN.mk (cn.put d (a:= .os _ sz a (b - a)) ⟨q,_,cap,rfl,z6,by rw [hz]⟩) hn) jP⟩⟩⟩

/-! ### append -/
structure Mp {α β:Type} (m:List β) (g:β->List AV) (f:α->List AV) (M:List α->Prop):Prop where
 ok:∃l,l.map f=m.map g/\M l
theorem Mp.same{α:Type}{m:List α}{f:α->List AV}{M:List α->Prop}(h:M m):Mp m f f M:=⟨m,rfl,h⟩
inductive yK {α β:Type} (g:β->List AV) (f:α->List AV):List β->List α->Prop where
 | nil:yK g f [] []
 | cons {b:β} {a:α} {m:List β} {l:List α}:f a=g b->yK g f m l->yK g f (b :: m) (a :: l)
theorem yK.inv{α β:Type}{g:β->List AV}{f:α->List AV}{b:β}{cs:List AV}{a:α}{m:List β}{l:List α}(hl:LN (g b) cs)(hi:Inv f cs a)(h:yK g f m l):yK g f (b :: m) (a :: l):= .cons (hi.eq.trans hl.eq.symm) h
theorem yK.eq{α β:Type}{g:β->List AV}{f:α->List AV} :∀{m:List β} {l:List α},yK g f m l->l.map f=m.map g
 | _,_,.nil=>rfl
 | _,_,.cons h1 h2=>by rw [List.map_cons,List.map_cons,h1,h2.eq]
theorem Mp.lit{α β:Type}{m:List β}{g:β->List AV}{f:α->List AV}{M:List α->Prop}{l:List α}(h:yK g f m l)(hk:M l):Mp m g f M:=⟨l,h.eq,hk⟩
theorem Rows.map{α β:Type}{h:y7}{G:Nat->Prop}{sz:Nat}{rows:List (List Value)}{m:List β}{g:β->List AV}{l:List α}{f:α->List AV}(r:Rows h G sz rows m g)(he:l.map f=m.map g):Rows h G sz rows l f:=by
 have hl:l.length=m.length:=by have:=congrArg List.length he;simpa using this
 refine⟨by rw [r.len,hl],λi row a h1 h2=>?_,r.sz⟩
 have xC:=(zS.1 h2).1
 obtain⟨b,hb⟩:∃b,m[i]?=some b:=⟨_,zE z6⟩
 have h3:=congrArg (λq=>q[i]?) he
 simp only [zG,h2,hb,Option.map_some,Option.some.injEq] at h3
 rw [h3]
 exact r.row i row b h1 hb
structure Src (o:List yh) (a:AV) (sz:Nat) (M:∀{β:Type},List β->(β->List AV)->Prop):Prop where
 ok:∃(β:Type) (m:List β) (g:β->List AV),M m g/\∀{h0:y7} {G0 O0:Nat->Prop} {h:y7} {G:Nat->Prop} {Os:List (Nat->Prop)} {v:Value},yF h0 G0 O0 o h G Os->a.R h G v->∃rows,Sl h v m.length rows.flatten/\Rows h G sz rows m g
instance {α:Type} {sz WK:Nat} {l:List α} {f:α->List AV} {M:∀{β:Type},List β->(β->List AV)->Prop}:Sp (Src o (.sl sz l f) WK M) (Rf (sz=WK) (M l f)):=⟨λ⟨hz,h⟩=>⟨α,l,f,h,λ_ hr=>by
 subst hz
 obtain⟨rows,h1,h2,_⟩:=AV.ai hr
 exact⟨rows,h1,h2⟩⟩⟩
instance {v:Value} {sz:Nat} {M:∀{β:Type},List β->(β->List AV)->Prop}:Sp (Src o (.ow v) sz M) (gU o v λ_ s l f _=>Rf (s=sz) (M l f)):=⟨λ⟨α,T,s,l,f,rest,tk,hs,hn⟩=>⟨α,l,f,hn,by
 subst hs
 rintro h0 G0 O0 h G Os u c ⟨rfl,_⟩
 obtain⟨O,yz,c2⟩:=c.take tk
 obtain⟨⟨_,rows,hw,qy⟩,_⟩:=c2.own
 exact⟨rows,hw.sl,qy⟩⟩⟩
instance {v:Value} {s j m sz:Nat} {M:∀{β:Type},List β->(β->List AV)->Prop}:Sp (Src o (.os v s j m) sz M) (gU o v λ_ s' l f _=>Rf (s=sz/\s'=sz) (M ((l.drop j).take m) f)):=⟨λ⟨α,T,s',l,f,rest,tk,⟨hs,px⟩,hn⟩=>⟨α,_,f,hn,by
 subst hs;subst px
 rintro h0 G0 O0 h G Os u c ⟨p,len,cap,rfl,SF,rfl⟩
 obtain⟨O,yz,c2⟩:=c.take tk
 obtain⟨⟨_,rows,hw,qy⟩,_⟩:=c2.own
 have u4:=qy.sz
 have hlen:len=l.length:=by
  rcases hw.ok with⟨e1,e2⟩|⟨b',of,wR,L,e1,_,_,_,_⟩
  ·cases e1;omega
  ·cases e1;rfl
 subst hlen
 have ly:((l.drop j).take m).length=m:=by simp;omega
 refine⟨(rows.drop j).take m, ?_,(qy.drop j).take m⟩
 rw [ly]
 rcases Nat.eq_zero_or_pos m with rfl|hm
 ·exact⟨.inl ⟨_,_,rfl,rfl,by simp⟩⟩
 ·rcases hw.sl.ok with⟨p',wR,e1,e2,_⟩|⟨b,of,wR,e1,_,e2,e3,hc⟩
  ·omega
  ·cases e1
   refine⟨.inr ⟨b,of+j * s',cap - j, ?_,hm,z6,e3, ?_⟩⟩
   ·unfold vd
    rw [if_neg z6]
    simp [Addr.add]
   ·have e1:(rows.drop j).flatten=rows.flatten.drop (j * s'):=by
     have e2:rows.flatten=(rows.take j).flatten ++ (rows.drop j).flatten:=by rw [<-List.flatten_append,List.take_append_drop]
     have e3:(rows.take j).flatten.length=j * s':=by rw [tw _ (λr hr=>u4 r (zW hr)),zN,qy.len];congr 1 <;> omega
     rw [e2,<-e3,List.drop_left]
    have e4:((rows.drop j).take m).flatten=(rows.flatten.drop (j * s')).take (m * s'):=by
     have e2:(rows.drop j).flatten=((rows.drop j).take m).flatten ++ ((rows.drop j).drop m).flatten:=by rw [<-List.flatten_append,List.take_append_drop]
     have e3:((rows.drop j).take m).flatten.length=m * s':=by rw [tw _ (λr hr=>u4 r (List.mem_of_mem_drop (zW hr))),zN,List.length_drop,qy.len];congr 1 <;> omega
     rw [<-e1,e2,<-e3,List.take_left]
    rw [e4]
    refine⟨λq v hv=>?_⟩
    rw [List.getElem?_take] at hv
    split at hv
    ·rw [List.getElem?_drop] at hv
     have:=hc.cell hv
     rw [yZ,show of+j * s'+q=of+(j * s'+q) by omega]
     exact this
    ·cases hv⟩⟩
structure BL {β:Type} (o:List yh) (a:AV) (p:Nat×TI) (g:β->List AV) (M:∀{α:Type},List α->(α->List AV)->List yh->Prop):Prop where
 ok:∃(α:Type) (l:List α) (f:α->List AV) (rest:List yh),M l f rest/\∀{h0:y7} {G0 O0:Nat->Prop} {h:y7} {G:Nat->Prop} {Os:List (Nat->Prop)} {w:Value},yF h0 G0 O0 o h G Os->a.R h G w->∃O yz,yF h0 G0 O0 (yb w p.1 p.2.size l f :: rest) h G (O :: yz)
theorem yF.Rn{h0:y7}{G0 O0:Nat->Prop}{h:y7}{G:Nat->Prop}{Os:List (Nat->Prop)}(c:yF h0 G0 O0 o h G Os){α:Type}(T sz:Nat)(f:α->List AV):yF h0 G0 O0 (yb (.slice none 0 0) T sz [] f :: o) h G ((λ_=>False) :: Os) :=
 ⟨⟨⟨λx=>by simp [xz],[],Own.nil,Rows.nil⟩,c.own⟩,c.g,c.g0,λO hO b hb=>by
   rcases List.mem_cons.1 hO with rfl|hO
   ·exact hb.elim
   ·exact c.o O hO b hb,List.pairwise_cons.2 ⟨λ_ _ _ h=>h.elim,c.d⟩,c.fp⟩
structure Ce (p X Y:Prop):Prop where
 ok:(p/\X)∨Y
theorem Ce.l{p X Y:Prop}(h:p)(x:X):Ce p X Y:=⟨.inl ⟨h,x⟩⟩
theorem Ce.r{p X Y:Prop}(y:Y):Ce p X Y:=⟨.inr y⟩
instance {β:Type} {v:Value} {p:Nat×TI} {g:β->List AV} {M:∀{α:Type},List α->(α->List AV)->List yh->Prop}:Sp (BL o (.ow v) p g M) (gU o v λT s l f rest=>Rf (T=p.1/\s=p.2.size) (Ce (l= []) (M ([]:List β) g rest) (M l f rest))):=⟨λ⟨α,T,s,l,f,rest,tk,⟨h1,h2⟩,h⟩=>by
 subst h1;subst h2
 rcases h.ok with⟨h0,hm⟩|hm
 ·subst h0
  refine⟨β,[],g,rest,hm, ?_⟩
  rintro h0 G0 O0 h G Os w c ⟨rfl,_⟩
  obtain⟨O,yz,c2⟩:=c.take tk
  obtain⟨⟨ho,rows,hw,qy⟩,xq⟩:=c2.own
  have pJ:rows= []:=zQ qy.len
  subst pJ
  exact⟨O,yz,⟨⟨⟨ho,[],hw,Rows.nil⟩,xq⟩,c2.g,c2.g0,c2.o,c2.d,c2.fp⟩⟩
 ·refine⟨α,l,f,rest,hm, ?_⟩
  rintro h0 G0 O0 h G Os w c ⟨rfl,_⟩
  exact c.take tk⟩
instance {β:Type} {v:Value} {m s:Nat} {p:Nat×TI} {g:β->List AV} {M:∀{α:Type},List α->(α->List AV)->List yh->Prop}:Sp (BL o (.os v s 0 m) p g M) (gU o v λT s' l f rest=>Rf (T=p.1/\s'=p.2.size) (M (l.take m) f rest)):=⟨λ⟨α,T,s',l,f,rest,tk,⟨h1,h2⟩,h⟩=>⟨α,l.take m,f,rest,h,by
 subst h1;subst h2
 rintro h0 G0 O0 h G Os w c ⟨q,len,cap,rfl,hm,rfl⟩
 obtain⟨O,yz,c2⟩:=c.take tk
 obtain⟨⟨ho,rows,hw,qy⟩,xq⟩:=c2.own
 have eq:vd q s 0 cap=q:=by
  unfold vd
  split
  ·rfl
  ·cases q with
   | none=>rfl
   | some a=>simp [Addr.add]
 rw [eq,Nat.sub_zero]
 rcases hw.ok with⟨e1,e2⟩|⟨b,of,wR,L,e1,oN,g1,g2,g3⟩
 ·cases e1
  have V7:m=0:=z6
  subst V7
  refine⟨O,yz,⟨⟨⟨λx=>(ho x).trans (by simp [xz]),[],Own.nil,Rows.nil⟩,xq⟩,c2.g,c2.g0,c2.o,c2.d,c2.fp⟩⟩
 ·cases e1
  have ly:(l.take m).length=m:=by rw [zN];omega
  have u4:=qy.sz
  have e3:(rows.take m).flatten.length=m * p.2.size:=by rw [tw _ (λr hr=>u4 r (zW hr)),zN,qy.len];congr 1 <;> omega
  refine⟨O,yz,⟨⟨⟨λx=>(ho x).trans (by simp [xz]),rows.take m,⟨by rw [ly];exact e3,.inr ⟨b,of,cap,L,by rw [ly],oN,g1,by rw [ly];omega, ?_⟩⟩,qy.take m⟩,xq⟩,c2.g,c2.g0,c2.o,c2.d,c2.fp⟩⟩
  have e2:rows.flatten=(rows.take m).flatten ++ (rows.drop m).flatten:=by rw [<-List.flatten_append,List.take_append_drop]
  have hmul:m * p.2.size<=l.length * p.2.size:=zU _ z6
  rw [ly,<-Nat.min_eq_left hmul,<-List.take_take,g3,e2,<-e3,List.take_left]⟩⟩
instance:Sp (SA Γ c (some d) (.call { callee:= .builtin .append,args:=#[x,y],argTypes:=#[t,t] }) ty e o N)
  (Rf (yN c=true) (Lk (xr e x) λa=>Lk (xr e y) λb=>Lk (nN Γ.tt t) λp=>Rf (p.2.zero.cells.size=p.2.size/\Nat.ble p.2.bytes 1000=true) (Src o b p.2.size λm g=>BL o a p g λl f rest=>Mp m g f λm'=>Om (l.length+m'.length<=100000000000) (yc λv:Value=>N ((d,.ow v) :: e) (yb v p.1 p.2.size (l ++ m') f :: rest))))):=⟨λ⟨hc,a,ha,b,hb,p,hp,⟨hz,hB⟩,β,m,g,⟨α,l,f,rest,⟨m',he,hl,hn⟩,htg⟩,kG⟩=>⟨λenv hh G Os cn=>by
 obtain⟨v,g1,g2⟩:=cn.get ha
 obtain⟨w,g3,g4⟩:=cn.get hb
 obtain⟨ti,t1,t2,t3⟩:=xg hp
 obtain⟨iL,k1,k2⟩:=kG cn.hp g4
 obtain⟨O,yz,c2⟩:=htg cn.hp g2
 have yT:vM Γ ⟨e,yb v p.1 p.2.size l f :: rest⟩ env hh G (O :: yz):=⟨c2,cn.env,cn.nf⟩
 obtain⟨⟨ho,rows,hw,qy⟩,_⟩:=yT.hp.own
 have k3:=k2.map he
 have hmm:m'.length=m.length:=by rw [<-k3.len,k2.len]
 have BA:=zB hB
 refine St.append Γ.ok t1 t2 t3 hz g1 g3 hw (m:=m.length) (news:=iL.flatten) k1 (by rw [k2.pE]) k2.one (Nat.le_trans (Nat.mul_le_mul (by omega:l.length+m.length<=100000000000) BA) zf) z6 hc λv' h' bR=>?_
 have yL:=bR.wm
 have hx:uo (λy=>¬O y) hh h':=⟨yL.size,λy hy hl=>yL.same y hl (λhm=>hy ((ho y).2 hm))⟩
 have hg:uo G hh h':=hx.mono λy hy bD=>(yT.hp.o O zd y bD).2.2 hy
 have hO:∀b,b∈xz v'->b < h'.size/\(O b∨hh.size<=b):=λb hb=>⟨bR.own.lt b hb,by
  rcases bR.rD with h9|h9
  ·rw [h9] at hb;exact .inl ((ho b).2 hb)
  ·exact .inr (h9 b hb)⟩
 have pJ:Rows h' G p.2.size (rows ++ iL) (l ++ m') f:=(qy.app k3).wm hg
 obtain⟨q,cap,gO⟩:=bR.own.sl.shape
 refine CN.mk ((yT.jT (R':=yb v' p.1 p.2.size (l ++ m') f) (O':=λb=>b∈xz v') hx hO ⟨λ_=>Iff.rfl,rows ++ iL, ?_,pJ⟩).put d (a:= .ow v') ⟨rfl,q,_,cap,gO⟩) (hn.ok v')
 rw [zP,hmm,List.flatten_append]
 exact bR.own⟩⟩
end
end Go.CF
set_option maxRecDepth 100000
set_option maxHeartbeats 80000000
namespace Go.CF
open Go
section
variable {P:Program} {tt:Nat->Option TI} {en:Nat->Bool} {n:Nat} {env:Env} {h:y7}
theorem uj.Dq(G:xh P tt en){a t:Nat}{ti:TI}{fs:List (Nat×Nat×Nat)}{p:Addr}{l:List Value}{t2:Tmp}{v2:Value}(ht:tt t=some ti)(hk:ti.kind= .struct fs)(h1:look env a=some (.pointer (some p)))(hl:tP h p l)(hz:ti.size=l.length)(h2:look env t2=some v2) :
  uj P n #[.cell a t,.tmp t2] env h (.tuple #[.agg l.toArray,v2]):=λac w fn ha hw hr=>by
 rw [results_cell_tmp hr]
 have g1:=(G.ok _ _ ht).ja w hk
 have g2:=(G.ok _ _ ht).ua w
 have g3:=j9 (P:=P) (w:=w) (a:=p) (l:=l) (hl.shut hw)
 simp [ha.val _ _ h1,ha.val _ _ h2,asAddr,loadVar,g1,g2,hz,g3]
end

def U(Os:List (Nat->Prop))(b:Nat):Prop:=∃O∈Os,O b
structure zy (P:Program) (f:FuncId) (yM:List AV) (own:List yh) (K:AV->List yh->Prop):Prop where
 run:∀h G Os vs,xb h G vs yM->yF h G (U Os) own h G Os->wS P f vs.toArray h λv h'=>∃r wE G' yz,K r wE/\r.R h' G' v/\yF h G (U Os) wE h' G' yz
def y6(P:Program)(f:FuncId)(yM:List AV)(r:AV):Prop:=zy P f yM [] λq own=>q=r/\own= []
theorem zy.mono{P:Program}{f:FuncId}{yM:List AV}{own:List yh}{K K':AV->List yh->Prop}(h:zy P f yM own K)(hk:∀r o,K r o->K' r o):zy P f yM own K' :=
 ⟨λhh G Os vs h1 h2=>(h.run hh G Os vs h1 h2).mono λ_ _ ⟨r,o,G',yz,g1,g2⟩=>⟨r,o,G',yz,hk _ _ g1,g2⟩⟩

inductive qa:List yh->List yh->List yh->Prop where
 | nil {l:List yh}:qa l [] l
 | cons {l l1 rest own:List yh} {R:yh}:Take l R l1->qa l1 own rest->qa l (R :: own) rest
theorem qa.own{h:y7}{G:Nat->Prop}{rs own rest:List yh}(t:qa rs own rest) :∀{os:List (Nat->Prop)},xy h G rs os->∃o1 o2,xy h G own o1/\xy h G rest o2/\os.Perm (o1 ++ o2):=by
 induction t with
 | nil=>exact λho=>⟨[],_,trivial,ho,List.Perm.refl _⟩
 | cons h1 _ ih =>
  intro os ho
  obtain⟨O,nO,g1,g2,g3⟩:=h1.own ho
  obtain⟨o1,o2,k1,k2,k3⟩:=ih g2
  exact⟨O :: o1,o2,⟨g1,k1⟩,k2,g3.trans (List.Perm.cons O k3)⟩

section
variable {Γ:Cx} {k:List KI} {e:EA} {o:List yh} {N:NA} {c:xa} {d:Tmp} {ty:TypeId} {x y z:Operand} {t u:TypeId} {kk:IntKind} {i:Int}

theorem yF.inner{h0:y7}{G0 O0:Nat->Prop}{r1 r2:List yh}{h:y7}{G:Nat->Prop}{o1 o2:List (Nat->Prop)}(c:yF h0 G0 O0 (r1 ++ r2) h G (o1 ++ o2))(h1:xy h G r1 o1):yF h G (U o1) r1 h G o1 :=
 ⟨h1,λb hb=>⟨(c.g b hb).1,.inl hb⟩,λ_ hb=>hb,λO hO b hb=>by
  have:=c.o O (by simp [hO]) b hb
  exact⟨this.1,.inl ⟨O,hO,hb⟩,this.2.2⟩,(List.pairwise_append.1 c.d).1,uo.refl h⟩
theorem yF.call{h0:y7}{G0 O0:Nat->Prop}{r1 r2 r1':List yh}{h h':y7}{G G':Nat->Prop}{o1 o2 o1':List (Nat->Prop)}(c:yF h0 G0 O0 (r1 ++ r2) h G (o1 ++ o2))(h2:xy h G r2 o2)(c':yF h G (U o1) r1' h' G' o1') :
  yF h0 G0 O0 (r1' ++ r2) h' G' (o1' ++ o2)/\uo G h h'/\∀b,G b->G' b:=by
 obtain⟨d1,d2,d3⟩:=List.pairwise_append.1 c.d
 have Gc:∀X∈o2,∀b,X b->¬U o1 b:=λX hX b hb ⟨O,hO,ho⟩=>d3 O hO X hX b ho hb
 have Hn:∀b,G b->¬U o1 b:=λb hb ⟨O,hO,ho⟩=>(c.o O (by simp [hO]) b ho).2.2 hb
 have hg:uo G h h':=c'.fp.mono Hn
 have hs:=c.fp.size
 have px:=c'.fp.size
 have hold:∀O∈o1 ++ o2,∀b,O b->b < h.size/\(O0 b∨h0.size<=b)/\¬G b:=c.o
 have hu:∀b,U o1 b->b < h.size/\(O0 b∨h0.size<=b):=λb ⟨O,hO,ho⟩=>by have:=hold O (by simp [hO]) b ho;exact⟨this.1,this.2.1⟩
 have hg2:∀b,G' b->b < h'.size/\(G0 b∨((O0 b∨h0.size<=b)/\NC h' b)):=λb hb=>by
  have:=c'.g b hb
  refine⟨this.1, ?_⟩
  rcases this.2 with h9|⟨h9|h9,Y_⟩
  ·exact(c.g b h9).2.imp id λq=>⟨q.1,q.2.eq (hg.same b h9 (c.g b h9).1)⟩
  ·exact .inr ⟨(hu b h9).2,Y_⟩
  ·exact .inr ⟨.inr z6,Y_⟩
 have Zl:∀X∈o2,∀b,X b->¬G' b:=λX hX b hb Be=>by
  have h8:=hold X (by simp [hX]) b hb
  rcases(c'.g b Be).2 with h9|⟨h9|h9,_⟩
  ·exact h8.2.2 h9
  ·exact Gc X hX b hb h9
  ·omega
 refine⟨⟨c'.own.app (xy.mono c'.g0 (xy.wm (λX hX=>c'.fp.mono λb hb=>?_) h2)),hg2,λb hb=>c'.g0 b (c.g0 b hb),λO hO b hb=>?_,List.pairwise_append.2 ⟨c'.d,d2,λA hA B hB b ha hb=>?_⟩,⟨Nat.le_trans hs px,λb hb hl=>?_⟩⟩,hg,c'.g0⟩
 ·rcases hb with hb|hb
  ·exact Gc X hX b hb
  ·exact Hn b hb
 ·rcases zV.1 hO with hO|hO
  ·have h8:=c'.o O hO b hb
   refine⟨h8.1, ?_,h8.2.2⟩
   rcases h8.2.1 with h9|h9
   ·exact(hu b h9).2
   ·exact .inr z6
  ·have h8:=hold O (by simp [hO]) b hb
   exact⟨z6,h8.2.1,Zl O hO b hb⟩
 ·have h8:=c'.o A hA b ha
  rcases h8.2.1 with h9|h9
  ·exact Gc B hB b hb h9
  ·have:=(hold B (by simp [hB]) b hb).1;omega
 ·rw [c'.fp.same b (λHh=>?_) (Nat.lt_of_lt_of_le hl hs)]
  ·exact c.fp.same b hb hl
  ·rcases(hu b Hh).2 with h9|h9
   ·exact hb h9
   ·omega
structure Cl (Γ:Cx) (c:xa) (f:FuncId) (yM:List AV) (o:List yh) (M:AV->List yh->Prop):Prop where
 ok:∀{h:y7} {G:Nat->Prop} {Os:List (Nat->Prop)} {vs:List Value},yF Γ.h0 Γ.G0 Γ.O0 o h G Os->xb h G vs yM->
  wS Γ.P f vs.toArray h λv h'=>(yN c=true∨tc ([]:List Nat) h h')/\∃r o' G' yz,M r o'/\r.R h' G' v/\yF Γ.h0 Γ.G0 Γ.O0 o' h' G' yz/\uo G h h'/\∀b,G b->G' b
inductive y3 (o:List yh):List AV->List AV->Prop where
 | nil:y3 o [] []
 | yB {a:AV} {l l':List AV}:y3 o l l'->y3 o (a :: l) (a :: l')
 | vC {α:Type} {p:Option Addr} {c sz:Nat} {f:α->List AV} {l l':List AV}:y3 o l l'->y3 o (.val (.slice p 0 c) :: l) (.sl sz [] f :: l')
 | mp {α β:Type} {sz:Nat} {xs:List α} {f:α->List AV} {ys:List β} {g:β->List AV} {l l':List AV}:ys.map g=xs.map f->y3 o l l'->y3 o (.sl sz xs f :: l) (.sl sz ys g :: l')
 | yY {α:Type} {v:Value} {T sz:Nat} {xs:List α} {f:α->List AV} {rest:List yh} {l l':List AV}:Take o (yb v T sz xs f) rest->xs.length<=9223372036854775807->y3 o l l'->y3 o (.ow v :: l) (.sl sz xs f :: l')
 | yX {α β:Type} {v:Value} {T sz:Nat} {xs:List α} {f:α->List AV} {ys:List β} {g:β->List AV} {rest:List yh} {l l':List AV}:Take o (yb v T sz xs f) rest->ys.map g=xs.map f->xs.length<=9223372036854775807->y3 o l l'->y3 o (.ow v :: l) (.sl sz ys g :: l')
 | cell {b:Nat} {k:Nat} {T:TypeId} {cs uq:List AV} {rest:List yh} {l l':List AV}:Take o (yr b T cs) rest->y3 o cs uq->y3 o l l'->y3 o (.val (.pointer (some ⟨b,k,none⟩)) :: l) (.ad uq k :: l')
 | agg {cs uq l l':List AV}:y3 o cs uq->y3 o l l'->y3 o (.agg cs :: l) (.agg uq :: l')
 | fn {f:FuncId} {cs uq l l':List AV}:y3 o cs uq->y3 o l l'->y3 o (.fn f cs :: l) (.fn f uq :: l')
theorem wZ{h:y7}{G:Nat->Prop}{O:Nat->Prop}{α:Type}{v:Value}{T sz:Nat}{xs:List α}{f:α->List AV}(hr:(yb v T sz xs f).R h O G)(hl:xs.length<=9223372036854775807):(AV.sl sz xs f).R h (λb=>G b∨O b) v:=by
 obtain⟨ho,rows,hw,qy⟩:=hr
 refine⟨hl, ?_⟩
 rcases hw.sl.ok with⟨p,cap,e1,e2,_⟩|⟨b,of,cap,e1,e2,e3,e4,e5⟩
 ·exact .inl ⟨zQ e2,p,cap,e1⟩
 ·exact .inr ⟨b,of,cap,rows,e1,e2,e3,.inr ((ho b).2 (by simp [e1,xz])),e4,e5,qy.mono λ_=> .inl⟩
theorem AV.fC{h:y7}{G:Nat->Prop}{α β:Type}{v:Value}{sz:Nat}{xs:List α}{f:α->List AV}{ys:List β}{g:β->List AV}(he:ys.map g=xs.map f)(hr:(AV.sl sz xs f).R h G v):(AV.sl sz ys g).R h G v:=by
 have hl:ys.length=xs.length:=by have:=congrArg List.length he;simpa using this
 obtain⟨hm,⟨rfl,p,c,e⟩|⟨b,of,cap,rows,e,h1,h2,h3,h4,h5,h6⟩⟩:=hr
 ·exact⟨by rw [hl];exact hm,.inl ⟨by simpa using hl,p,c,e⟩⟩
 ·exact⟨by rw [hl];exact hm,.inr ⟨b,of,cap,rows,by rw [hl];exact e,z6,z6,h3,h4,h5,h6.map he⟩⟩
theorem y3.rep{h:y7}{G:Nat->Prop}{Os:List (Nat->Prop)}(ho:xy h G o Os){yM tK:List AV}(l:y3 o yM tK) :∀{vs:List Value},xb h G vs yM->xb h (λb=>G b∨U Os b) vs tK:=by
 induction l with
 | nil=>intro vs hr;match vs,hr with | [],_=>trivial
 | yB _ ih =>
  intro vs hr
  match vs,hr with
  | v :: vs,⟨h1,h2⟩=>exact⟨AV.mono _ (λ_=> .inl) h1,ih h2⟩
 | vC _ ih =>
  intro vs hr
  match vs,hr with
  | v :: vs,⟨h1,h2⟩=>exact⟨⟨by simp,.inl ⟨rfl,_,_,h1⟩⟩,ih h2⟩
 | mp he _ ih =>
  intro vs hr
  match vs,hr with
  | v :: vs,⟨h1,h2⟩=>exact⟨AV.mono _ (λ_=> .inl) (AV.fC he h1),ih h2⟩
 | yY tk hl _ ih =>
  intro vs hr
  match vs,hr with
  | v :: vs,⟨⟨h1,_⟩,h2⟩ =>
   subst h1
   obtain⟨O,nO,g1,g2,g3⟩:=tk.own ho
   exact⟨AV.mono _ (λb hb=>hb.imp id λhb=>⟨O,g3.mem_iff.2 zd,hb⟩) (wZ g1 hl),ih h2⟩
 | yX tk he hl _ ih =>
  intro vs hr
  match vs,hr with
  | v :: vs,⟨⟨h1,_⟩,h2⟩ =>
   subst h1
   obtain⟨O,nO,g1,g2,g3⟩:=tk.own ho
   exact⟨AV.mono _ (λb hb=>hb.imp id λhb=>⟨O,g3.mem_iff.2 zd,hb⟩) (AV.fC he (wZ g1 hl)),ih h2⟩
 | cell tk _ _ Zk ih =>
  intro vs hr
  match vs,hr with
  | v :: vs,⟨h1,h2⟩ =>
   obtain⟨O,nO,⟨g0,ws,gb,gr⟩,g2,g3⟩:=tk.own ho
   have h1:v=_:=h1
   subst h1
   exact⟨⟨_,0,ws,by rw [Nat.zero_add],.inr ⟨O,g3.mem_iff.2 zd,(g0 _).2 rfl⟩,gb.lt,gb.z1r,Zk gr.t,gr.one⟩,ih h2⟩
 | agg _ _ Zk ih =>
  intro vs hr
  match vs,hr with
  | v :: vs,⟨⟨ws,h1,h3⟩,h2⟩=>exact⟨⟨ws,h1,Zk h3.t,h3.one⟩,ih h2⟩
 | fn _ _ Zk ih =>
  intro vs hr
  match vs,hr with
  | v :: vs,⟨⟨ws,h1,h3⟩,h2⟩=>exact⟨⟨ws,h1,Zk h3⟩,ih h2⟩
theorem y3.Lb{h:y7}{G:Nat->Prop}{yM tK:List AV}(l:y3 [] yM tK){vs:List Value}(hr:xb h G vs yM):xb h G vs tK :=
 (y3.rep (o:= []) (Os:= []) (G:=G) trivial l hr).mono λb hb=>hb.elim id λ⟨O,hO,_⟩=>by cases hO
theorem Cl.use{f:FuncId}{yM tK:List AV}{own rest:List yh}{K:AV->List yh->Prop}{M:AV->List yh->Prop}(hc:zy Γ.P f tK own K)(hv:y3 [] yM tK)(ht:qa o own rest)(hl:(yN c || own.isEmpty)=true)(hm:∀r wE,K r wE->M r (wE ++ rest)):Cl Γ c f yM o M:=by
 refine⟨λ{h G Os vs} hp hr=>?_⟩
 obtain⟨o1,o2,h1,h2,h3⟩:=ht.own hp.own
 have kr:=hp.perm (h1.app h2) h3
 refine(hc.run h G o1 vs (hv.Lb hr) (kr.inner h1)).mono λv h' ⟨r,wE,G',yz,g1,g2,g3⟩=>?_
 obtain⟨k1,k2,k3⟩:=kr.call h2 g3
 refine⟨?_,r,_,G',_,hm r wE g1,g2,k1,k2,k3⟩
 simp only [Bool.or_eq_true] at hl
 rcases hl with hl|hl
 ·exact .inl hl
 ·right
  have he:own= []:=by simpa using hl
  subst he
  match o1,h1 with
  | [],_=>exact⟨g3.fp.size,λb hb _=>g3.fp.same b (λ⟨O,hO,_⟩=>by cases hO) hb⟩
theorem Cl.p{f:FuncId}{yM tK:List AV}{r:AV}{M:AV->List yh->Prop}(hc:y6 Γ.P f tK r)(hv:y3 [] yM tK)(hm:M r o):Cl Γ c f yM o M:=by
 refine⟨λ{h G Os vs} hp hr=>?_⟩
 have kr:yF Γ.h0 Γ.G0 Γ.O0 ([] ++ o) h G ([] ++ Os):=hp
 refine(zy.run hc h G [] vs (hv.Lb hr) (kr.inner trivial)).mono λv h' ⟨r,wE,G',yz,⟨g1,g2⟩,g3,g4⟩=>?_
 subst g1;subst g2
 have yL:tc ([]:List Nat) h h':=⟨g4.fp.size,λb hb _=>g4.fp.same b (λ⟨O,hO,_⟩=>by cases hO) hb⟩
 match yz,g4.own with
 | [],_ =>
  obtain⟨k1,k2,k3⟩:=kr.call hp.own g4
  exact⟨.inr yL,r,_,G',_,hm,g3,k1,k2,k3⟩
class Flat (a:AV):Prop where
 h:∀h h' G G' v,a.R h G v->a.R h' G' v
instance {v:Value}:Flat (.val v):=⟨λ_ _ _ _ _ h=>h⟩
theorem Cl.yY{f:FuncId}{yM tK:List AV}{r:AV}{M:AV->List yh->Prop}[hf:Flat r](hc:y6 Γ.P f tK r)(hl:y3 o yM tK)(hm:M r o):Cl Γ c f yM o M:=by
 refine⟨λ{h G Os vs} hp hr=>?_⟩
 have yd:yF h (λb=>G b∨U Os b) (U []) [] h (λb=>G b∨U Os b) [] :=
  ⟨trivial,λb hb=>⟨hb.elim (λh9=>(hp.g b h9).1) (λ⟨O,hO,h9⟩=>(hp.o O hO b h9).1),.inl hb⟩,λ_ h=>h,λO hO=>(by cases hO),List.Pairwise.nil,uo.refl h⟩
 refine(zy.run hc h _ [] vs (hl.rep hp.own hr) yd).mono λv h' ⟨r',wE,G',yz,⟨g1,g2⟩,g3,g4⟩=>?_
 subst g1;subst g2
 have yL:tc ([]:List Nat) h h':=⟨g4.fp.size,λb hb _=>g4.fp.same b (λ⟨O,hO,_⟩=>by cases hO) hb⟩
 have hx:∀S,uo S h h':=λS=>⟨yL.size,λb _ hb=>yL.same b hb zd⟩
 have hs:=hp.fp.size
 have px:=yL.size
 refine⟨.inr yL,r',o,G,Os,hm,hf.h _ _ _ _ _ g3,⟨xy.wm (λO _=>hx _) hp.own,λb hb=>⟨by have:=(hp.g b hb).1;omega,(hp.g b hb).2.imp id λq=>⟨q.1,q.2.eq (yL.same b (hp.g b hb).1 zd)⟩⟩,hp.g0,λO hO b hb=>⟨by have:=(hp.o O hO b hb).1;omega,(hp.o O hO b hb).2⟩,hp.d,⟨z6,λb hb hl=>?_⟩⟩,hx G,λ_ h=>h⟩
 rw [yL.same b z6 zd]
 exact hp.fp.same b hb hl
theorem VR{env:Env}{h:y7}{G:Nat->Prop}{Os:List (Nat->Prop)}{f:FuncId}{yM:List AV}{vs:List Value}(cn:vM Γ ⟨e,o⟩ env h G Os)(hr:xb h G vs yM){dst:Option Tmp}(bH:Γ.fp.n=none)(hc:Cl Γ c f yM o λr o'=>N (match dst with|some d=>(d,r) :: e|none=>e) o'):wS Γ.P f vs.toArray h λv h'=>(yN c=true∨tc ([]:List Nat) h h')/\CN Γ N (rG env dst v) h':=by
 refine(hc.ok cn.hp hr).mono λv h' ⟨h1,r,o',G',yz,g1,g2,g3,g4,g5⟩=>⟨h1, ?_⟩
 have c2:vM Γ ⟨e,o'⟩ env h' G' yz:=⟨g3,λt a ha=>let ⟨w,k1,k2⟩:=cn.env t a ha;⟨w,k1,a.mono g5 (a.wm g4 k2)⟩,l7.none bH⟩
 cases dst with
 | none=>exact CN.mk c2 g1
 | some d=>exact CN.mk (c2.put d g2) g1
theorem Zg{c:xa}(h:yP c=true):c= .uJ∨c= .ext:=by cases c <;> simp [yP] at h ⊢
instance {f:FuncId} {args:Array Operand} {sg:Array TypeId}:Sp (SA Γ c (some d) (.call { callee:= .value (.func f),args:=args,argTypes:=sg }) ty e o N) (Rf (Γ.fp.n=none) (Rf (yP c=true) (Lk (fj e args.toList) λyM=>Rf (Γ.en f=true) (Cl Γ c f yM o λr o'=>N ((d,r) :: e) o')))):=⟨λ⟨bH,hc,yM,ha,he,h⟩=>⟨λenv hh G Os cn=>by
 obtain⟨vs,g1,g2⟩:=cn.Xg ha
 have ue:=VR (dst:=some d) cn g2 bH h
 rcases Zg hc with rfl|rfl
 ·exact St.call Γ.ok g1 he rfl (ue.mono λv h' hk=>hk.2)
 ·exact St.Dr Γ.ok g1 he rfl (ue.mono λv h' hk=>⟨(hk.1.resolve_left (by simp [yN])).nil,hk.2⟩)⟩⟩
structure BQ (Γ:Cx) (c:xa) (d:Tmp) (x:Operand) (args:Array Operand) (sg:Array TypeId) (ty:TypeId) (e:EA) (o:List yh) (N:NA) (a:AV) (yM:List AV):Prop where
 h:xr e x=some a->fj e args.toList=some yM->yN c=true->SA Γ c (some d) (.call { callee:= .value x,args:=args,argTypes:=sg }) ty e o N
instance {r:Tmp} {args:Array Operand} {sg:Array TypeId}:Sp (SA Γ c (some d) (.call { callee:= .value (.tmp r),args:=args,argTypes:=sg }) ty e o N) (Rf (yN c=true) (Lk (xr e (.tmp r)) λa=>Lk (fj e args.toList) λyM=>BQ Γ c d (.tmp r) args sg ty e o N a yM)):=⟨λ⟨h1,_,ha,_,hb,h⟩=>h.h ha hb h1⟩
instance {f:FuncId} {cs yM:List AV} {args:Array Operand} {sg:Array TypeId}:Sp (BQ Γ c d x args sg ty e o N (.fn f cs) yM) (Rf (Γ.fp.n=none) (Rf (Γ.en f=true) (Cl Γ c f (yM ++ cs) o λr o'=>N ((d,r) :: e) o'))):=⟨λ⟨bH,he,h⟩=>⟨λha hb hc=>⟨λenv hh G Os cn=>by
 obtain⟨v,g1,ws,rfl,g2⟩:=cn.get ha
 obtain⟨vs,g3,g4⟩:=cn.Xg hb
 exact St.Mt (first:= []) Γ.ok g1 g3 he hc ((VR (dst:=some d) cn (g4.app g2) bH h).mono λv h' hk=>hk.2)⟩⟩⟩

/-! ### z2l, and paths that join -/
def ZD(e:EA):EA->Prop
 | []=>True
 | (t,a) :: r=>xd e t=some a/\ZD e r
theorem gy :∀{e1 e2:EA},ZD e2 e1->∀t v,xd e1 t=some v->xd e2 t=some v
 | [],_,_,_,_,h=>by simp [xd] at h
 | (k,u) :: r,e2,hs,t,v,h=>by
  rw [vJ] at h
  by_cases hk:k=t
  ·subst hk;simp at h;subst h;exact hs.1
  ·simp only [hk,if_false] at h;exact gy hs.2 t v h
structure Sub (e:EA) (o:List yh) (σ:AS):Prop where
 e:ZD e σ.env
 o:lF o σ.own
theorem vM.sub{σ:AS}{env:Env}{h:y7}{G:Nat->Prop}{Os:List (Nat->Prop)}(s:Sub e o σ)(cn:vM Γ ⟨e,o⟩ env h G Os) :∃yz,vM Γ σ env h G yz:=by
 obtain⟨yz,h1,_⟩:=yF.sub s.o cn.hp
 exact⟨yz,h1,λt a ha=>cn.env t a (gy s.e t a ha),cn.nf⟩
theorem vM.canon{σ:AS}{env:Env}{h:y7}{G:Nat->Prop}{Os:List (Nat->Prop)}(cn:vM Γ σ env h G Os) :∃rH,eF rH env/\vM Γ σ rH h G Os:=by
 have key:∀l:EA,(∀t a,(t,a)∈l->∃v,look env t=some v)->∃rH,eF rH env/\∀t a,xd l t=some a->∃v,look rH t=some v/\look env t=some v:=by
  intro l
  induction l with
  | nil=>exact λ_=>⟨[],trivial,λt a h=>by simp [xd] at h⟩
  | cons p r ih =>
   intro hl
   obtain⟨t,a⟩:=p
   obtain⟨rH,h1,h2⟩:=ih (λt a hm=>hl t a (by simp [hm]))
   obtain⟨v,hv⟩:=hl t a zd
   refine⟨(t,v) :: rH,⟨hv,h1⟩,λq b hq=>?_⟩
   rw [vJ] at hq
   rw [uW]
   by_cases hk:t=q
   ·subst hk;rw [if_pos rfl];exact⟨v,rfl,hv⟩
   ·rw [if_neg hk] at hq ⊢;exact h2 q b hq
 have ik:∀(l:EA) t a,(t,a)∈l->∃b,xd l t=some b:=by
  intro l
  induction l with
  | nil=>intro t a h;cases h
  | cons p r ih =>
   intro t a hm
   obtain⟨q,b⟩:=p
   rw [vJ]
   by_cases hk:q=t
   ·rw [if_pos hk];exact⟨b,rfl⟩
   ·rw [if_neg hk]
    rcases List.mem_cons.1 hm with h9|h9
    ·simp only [Prod.mk.injEq] at h9;exact absurd h9.1.symm hk
    ·exact ih t a h9
 obtain⟨rH,h1,h2⟩:=key σ.env λt a hm=>by
  obtain⟨b,hb⟩:=ik _ t a hm
  obtain⟨v,hv,_⟩:=cn.env t b hb
  exact⟨v,hv⟩
 refine⟨rH,h1,cn.hp,λt a ha=>?_,cn.nf⟩
 obtain⟨v,g1,g2⟩:=h2 t a ha
 obtain⟨w,g3,g4⟩:=cn.env t a ha
 rw [g2] at g3;cases g3
 exact⟨v,g1,g4⟩
def HS{α:Type}(Γ:Cx)(st:α->AS)(J:α->Prop):Env->y7->Prop:=λenv h=>∃p:α×Env,eF p.2 env/\(∃G Os,vM Γ (st p.1) p.2 h G Os)/\J p.1
theorem PA.lp{α:Type}{st:α->AS}{J:α->Prop}(x:α)(hs:Sub e o (st x))(hj:J x):PA Γ (.lp (HS Γ st J) :: k) .normal e o :=
 ⟨λenv h G Os cn=>PK.W6 (by
  obtain⟨yz,c⟩:=cn.sub hs
  obtain⟨rH,h1,h2⟩:=c.canon
  exact⟨(x,rH),h1,⟨G,yz,h2⟩,hj⟩)⟩
theorem CA.loop{α:Type}{y:Code}(st:α->AS)(I:α->Prop)(μ:α->Nat)(x0:α)(hs:Sub e o (st x0))(hi:I x0)
  (round:∀x,I x->CA Γ (.lp (HS Γ st λx'=>I x'/\μ x' < μ x) :: k) y (st x).env (st x).own):CA Γ k (.loop y) e o:=by
 refine⟨λenv h G Os cn=>?_⟩
 obtain⟨yz,c⟩:=cn.sub hs
 obtain⟨rH,h1,h2⟩:=c.canon
 refine CW.loop (λp:α×Env=>p.2) (λp h=>(∃G Os,vM Γ (st p.1) p.2 h G Os)/\I p.1) (λp=>μ p.1) (x0,rH) h1 ⟨⟨G,yz,h2⟩,hi⟩ ?_
 rintro⟨x,fk⟩ h' ⟨⟨G1,Os1,c1⟩,hx⟩
 refine CW.mono (λx e h hq=>?_) ((round x hx).h fk h' G1 Os1 c1)
 have key:∀(I1 I2:Env->y7->Prop),(∀e h,I1 e h->I2 e h)->∀x e h,PK Γ.P Γ.n (fm Γ) (.lp I1 :: k) x e h->PK Γ.P Γ.n (fm Γ) (.lp I2 :: k) x e h:=by
  intro I1 I2 iK x e h hp
  unfold PK at hp ⊢
  cases x <;> first|exact iK _ _ hp|exact hp
 exact key _ _ (λe h ⟨p,g1,g2,g3,g4⟩=>⟨p,g1,⟨g2,g3⟩,g4⟩) x e h hq
theorem CA.cut{α:Type}{y:Code}(st:α->AS)(I:α->Prop)(h1:CA Γ (.lp (HS Γ st I) :: k) y e o)(h2:∀x,I x->PA Γ k .normal (st x).env (st x).own):CA Γ k y e o:=by
 refine⟨λenv h G Os cn=>⟨λrd m B a w ha hf hr hw hB=>wpIn_mono ((h1.h env h G Os cn).run rd m B a w ha hf hr hw hB) λx a' w' hl=>?_⟩⟩
 cases x <;> simp only [lift,PK] at hl ⊢
 case normal =>
  obtain⟨hs,lM,e1,ei,⟨x,rH⟩,qm,⟨G',yz,c⟩,hx⟩:=hl
  exact⟨hs,lM,rH,ei.sub qm,(h2 x hx).h rH _ G' yz c⟩
 all_goals exact hl
theorem CA.sub{y:Code}(σ:AS)(hs:Sub e o σ)(h:CA Γ k y σ.env σ.own):CA Γ k y e o :=
 ⟨λenv hh G _ cn=>let ⟨yz,c⟩:=cn.sub hs;h.h env hh G yz c⟩
theorem CA.uV{α:Type}{y:Code}(t:Tmp)(T sz:Nat)(f:α->List AV)(ht:xd e t=some (.val (.slice none 0 0)))(h:∀v,CA Γ k y ((t,.ow v) :: e) (yb v T sz [] f :: o)):CA Γ k y e o:=by
 refine⟨λenv hh G Os cn=>?_⟩
 have hp:yF Γ.h0 Γ.G0 Γ.O0 (yb (.slice none 0 0) T sz [] f :: o) hh G ((λ_=>False) :: Os):=yF.Rn (o:=o) cn.hp T sz f
 refine(h (.slice none 0 0)).h env hh G _ ⟨hp,λq a hq=>?_,cn.nf⟩
 rw [vJ] at hq
 by_cases hk:t=q
 ·subst hk
  rw [if_pos rfl] at hq;cases hq
  obtain⟨v,g1,g2⟩:=cn.env t _ ht
  exact⟨v,g1,g2,none,0,0,rfl⟩
 ·rw [if_neg hk] at hq;exact cn.env q a hq
theorem o7{σ:AS}{env:Env}{h:y7}{G:Nat->Prop}{Os:List (Nat->Prop)}(cn:vM Γ σ env h G Os)(t:Tmp){a:AV}(ha:∀v,look env t=some v->a.R h G v){b:AV}(hb:xd σ.env t=some b):vM Γ ⟨(t,a) :: σ.env,σ.own⟩ env h G Os:=by
 refine⟨cn.hp,λq c hq=>?_,cn.nf⟩
 rw [vJ] at hq
 by_cases hk:t=q
 ·subst hk
  rw [if_pos rfl] at hq;cases hq
  obtain⟨v,g1,_⟩:=cn.env t _ hb
  exact⟨v,g1,ha v g1⟩
 ·rw [if_neg hk] at hq;exact cn.env q c hq
theorem CA.freeze{P:Program}{tt:Nat->Option TI}{en:Nat->Bool}{ok:xh P tt en}{T0:Nat->Ord×(Nat->xa)}{m0:Nat}{rs:Array ResultVar}{K:AV->List yh->Prop}{h0:y7}{G0 O0:Nat->Prop}{α:Type}{y:Code}(t:Tmp){v:Value}{T sz:Nat}{l:List α}{f:α->List AV}{rest:List yh}(ht:xd e t=some (.ow v))(tk:Take o (yb v T sz l f) rest)(hl:l.length<=9223372036854775807)(h:CA ⟨P,tt,en,ok,T0,m0,rs,K,h0,G0,O0,⟨none⟩⟩ k y ((t,.sl sz l f) :: e) rest):CA ⟨P,tt,en,ok,T0,m0,rs,K,h0,G0,O0,⟨none⟩⟩ k y e o:=by
 refine⟨λenv hh G Os cn=>?_⟩
 obtain⟨O,yz,yT⟩:=cn.take tk
 have hr:=yT.hp.own.1
 have c3:=yT.freeze
 refine h.h env hh _ yz (o7 (σ:=⟨e,rest⟩) c3 t (λw hw=>?_) ht)
 obtain⟨w',g1,g2,_⟩:=cn.env t _ ht
 rw [hw] at g1;cases g1;subst g2
 exact wZ hr hl
theorem CA.yR{α β:Type}{y:Code}{v:Value}{T sz:Nat}{l:List α}{f:α->List AV}{rest:List yh}(tk:Take o (yb v T sz l f) rest)(m:List β)(g:β->List AV)(he:m.map g=l.map f)(h:CA Γ k y e (yb v T sz m g :: rest)):CA Γ k y e o:=by
 refine⟨λenv hh G Os cn=>?_⟩
 obtain⟨O,yz,yT⟩:=cn.take tk
 obtain⟨⟨ho,rows,hw,hr⟩,xq⟩:=yT.hp.own
 have hlen:m.length=l.length:=by have:=congrArg List.length he;simpa using this
 exact h.h env hh G (O :: yz) ⟨yT.hp.perm ⟨⟨ho,rows,by rw [hlen];exact hw,hr.map he⟩,xq⟩ (List.Perm.refl _),cn.env,cn.nf⟩

/-! ### Entry and end -/
def Vh(e:EA):List ResultVar->Option AV
 | []=>some (.yE [])
 | [.tmp a]=>xd e a
 | [.tmp a,.tmp b]=>match xd e a,xd e b with
  | some x,some y=>some (.yE [x,y])
  | _,_=>none
 | [.tmp a,.tmp b,.tmp c]=>match xd e a,xd e b,xd e c with
  | some x,some y,some z=>some (.yE [x,y,z])
  | _,_,_=>none
 | _=>none
theorem yF.freeze{h0:y7}{G0 O0:Nat->Prop}{R:yh}{rest:List yh}{h:y7}{G O:Nat->Prop}{Os:List (Nat->Prop)}(c:yF h0 G0 O0 (R :: rest) h G (O :: Os)):yF h0 G0 O0 rest h (λb=>G b∨O b) Os:=by
 have hd:=List.pairwise_cons.1 c.d
 refine⟨c.own.2.mono λ_=> .inl,λb hb=>?_,λb hb=> .inl (c.g0 b hb),λX hX b hb=>?_,hd.2,c.fp⟩
 ·rcases hb with hb|hb
  ·exact c.g b hb
  ·have:=c.o O zd b hb;exact⟨this.1,.inr ⟨this.2.1,R.nc c.own.1 b hb⟩⟩
 ·have:=c.o X (by simp [hX]) b hb
  exact⟨this.1,this.2.1,λhg=>hg.elim this.2.2 (λho=>hd.1 X hX b ho hb)⟩
inductive FL:List yh->List AV->List AV->List yh->Prop where
 | nil {o own:List yh}:lF o own->FL o [] [] own
 | same {o own:List yh} {a:AV} {l l':List AV}:FL o l l' own->FL o (a :: l) (a :: l') own
 | vC {o own:List yh} {l l':List AV} {α:Type} {T sz:Nat} {f:α->List AV}:FL (yb (.slice none 0 0) T sz [] f :: o) l l' own->FL o (.val (.slice none 0 0) :: l) (.ow (.slice none 0 0) :: l') own
 | ic {o own:List yh} {l l':List AV} {α:Type} {sz:Nat} {f:α->List AV}:FL o l l' own->FL o (.val (.slice none 0 0) :: l) (.sl sz [] f :: l') own
 | fz {o rest own:List yh} {l l':List AV} {α:Type} {v:Value} {T sz:Nat} {xs:List α} {f:α->List AV}:Take o (yb v T sz xs f) rest->xs.length<=9223372036854775807->FL rest l l' own->FL o (.ow v :: l) (.sl sz xs f :: l') own
theorem FL.rep{h0:y7}{G0 O0:Nat->Prop}{h:y7}{o own:List yh}{l l':List AV}(x:FL o l l' own) :∀{G:Nat->Prop} {Os:List (Nat->Prop)} {vs:List Value},yF h0 G0 O0 o h G Os->xb h G vs l->∃G' yz,yF h0 G0 O0 own h G' yz/\xb h G' vs l'/\∀b,G b->G' b:=by
 induction x with
 | nil s =>
  intro G Os vs c hr
  obtain⟨yz,h1,_⟩:=yF.sub s c
  exact⟨G,yz,h1,hr,λ_ h=>h⟩
 | same _ ih =>
  intro G Os vs c hr
  match vs,hr with
  | v :: vs,⟨r1,r2⟩ =>
   obtain⟨G',yz,h1,h2,h3⟩:=ih c r2
   exact⟨G',yz,h1,⟨AV.mono _ h3 r1,h2⟩,h3⟩
 | @vC o own l l' α T sz f _ ih =>
  intro G Os vs c hr
  match vs,hr with
  | v :: vs,⟨r1,r2⟩ =>
   obtain⟨G',yz,h1,h2,h3⟩:=ih (yF.Rn (o:=o) c T sz f) r2
   exact⟨G',yz,h1,⟨⟨r1,none,0,0,rfl⟩,h2⟩,h3⟩
 | ic _ ih =>
  intro G Os vs c hr
  match vs,hr with
  | v :: vs,⟨r1,r2⟩ =>
   obtain⟨G',yz,h1,h2,h3⟩:=ih c r2
   exact⟨G',yz,h1,⟨⟨by simp,.inl ⟨rfl,_,_,r1⟩⟩,h2⟩,h3⟩
 | fz tk hl _ ih =>
  intro G Os vs c hr
  match vs,hr with
  | v :: vs,⟨⟨r1,_⟩,r2⟩ =>
   subst r1
   obtain⟨O,nO,c2⟩:=c.take tk
   have qy:=c2.own.1
   obtain⟨G',yz,h1,h2,h3⟩:=ih c2.freeze (r2.mono λ_=> .inl)
   exact⟨G',yz,h1,⟨AV.mono _ h3 (wZ qy hl),h2⟩,λb hb=>h3 b (.inl hb)⟩
inductive FA (o:List yh):AV->AV->List yh->Prop where
 | one {a a':AV} {own:List yh}:FL o [a] [a'] own->FA o a a' own
 | yE {l l':List AV} {own:List yh}:FL o l l' own->FA o (.yE l) (.yE l') own
structure Fin (Γ:Cx) (o:List yh) (a:AV):Prop where
 ok:∃a' own,FA o a a' own/\Γ.K a' own
theorem Qi{P:Program}{n:Nat}{rs:Array ResultVar}{env:Env}{h:y7}{G:Nat->Prop}(he:∀t a,xd e t=some a->∃v,look env t=some v/\a.R h G v){a:AV}(hr:Vh e rs.toList=some a) :∃v,uj P n rs env h v/\a.R h G v:=by
 obtain⟨l⟩:=rs
 unfold Vh at hr
 split at hr
 ·rename_i h1
  cases hr
  have h1:l= []:=h1
  subst h1
  exact⟨_,uj.zero,[],rfl,trivial⟩
 ·rename_i t1 h1
  have h1:l=_:=h1
  subst h1
  obtain⟨v,g1,g2⟩:=he _ _ hr
  exact⟨v,uj.one g1,g2⟩
 ·rename_i t1 t2 h1
  have h1:l=_:=h1
  subst h1
  split at hr
  ·rename_i x y e1 e2
   cases hr
   obtain⟨v,g1,g2⟩:=he _ _ e1
   obtain⟨w,g3,g4⟩:=he _ _ e2
   exact⟨_,uj.two g1 g3,[v,w],rfl,g2,g4,trivial⟩
  ·cases hr
 ·rename_i t1 t2 t3 h1
  have h1:l=_:=h1
  subst h1
  split at hr
  ·rename_i x y z e1 e2 e3
   cases hr
   obtain⟨v,g1,g2⟩:=he _ _ e1
   obtain⟨w,g3,g4⟩:=he _ _ e2
   obtain⟨u,g5,g6⟩:=he _ _ e3
   exact⟨_,uj.three g1 g3 g5,[v,w,u],rfl,g2,g4,g6,trivial⟩
  ·cases hr
 ·cases hr
structure sV (Γ:Cx) (e:EA) (o:List yh) (rs:List ResultVar) (k:AV->Prop):Prop where
 ok:∃a,k a/\(Γ.rs.toList=rs->∀env h G Os,vM Γ ⟨e,o⟩ env h G Os->∃v,uj Γ.P Γ.n Γ.rs env h v/\a.R h G v)
theorem sV.tmps{rs:List ResultVar}{k:AV->Prop}(h:Lk (Vh e rs) k):sV Γ e o rs k:=by
 obtain⟨a,ha,hk⟩:=h
 exact⟨a,hk,λhr env h G Os cn=>Qi cn.env (by rw [hr];exact ha)⟩
instance {k:AV->Prop}:Sp (sV Γ e o [] k) (k (.yE [])):=⟨λh=>sV.tmps ⟨_,rfl,h⟩⟩
instance {a:Tmp} {k:AV->Prop}:Sp (sV Γ e o [.tmp a] k) (Lk (xd e a) k):=⟨λ⟨x,h1,h2⟩=>sV.tmps ⟨x,h1,h2⟩⟩
instance {a b:Tmp} {k:AV->Prop}:Sp (sV Γ e o [.tmp a,.tmp b] k) (Lk (xd e a) λx=>Lk (xd e b) λy=>k (.yE [x,y])):=⟨λ⟨x,h1,y,h2,h3⟩=>sV.tmps ⟨.yE [x,y],by simp [Vh,h1,h2],h3⟩⟩
instance {a b d:Tmp} {k:AV->Prop}:Sp (sV Γ e o [.tmp a,.tmp b,.tmp d] k) (Lk (xd e a) λx=>Lk (xd e b) λy=>Lk (xd e d) λz=>k (.yE [x,y,z])):=⟨λ⟨x,h1,y,h2,z,h3,h4⟩=>sV.tmps ⟨.yE [x,y,z],by simp [Vh,h1,h2,h3],h4⟩⟩
structure LG (Γ:Cx) (e:EA) (o:List yh) (a:AV) (ty:TypeId) (k:AV->Prop):Prop where
 ok:∃cs,k (.agg cs)/\∀env h G Os v,vM Γ ⟨e,o⟩ env h G Os->a.R h G v->∃p vs ti fs,v= .pointer (some p)/\Γ.tt ty=some ti/\ti.kind= .struct fs/\ti.size=vs.length/\tP h p vs/\uw h G vs cs
instance {b:Nat} {ty:TypeId} {k:AV->Prop}:Sp (LG Γ e o (.val (.pointer (some ⟨b,0,none⟩))) ty k) (L3 o b λ_ cs _=>Lk (DQ Γ.tt ty) λ_=>Rf ((Γ.tt ty).map (λti=>ti.size)=some cs.length) (k (.agg cs))):=⟨λ⟨T,cs,rest,tk,q,hq,hz,hk⟩=>⟨cs,hk,λenv h G Os v cn hv=>by
 have hv:v=_:=hv
 subst hv
 obtain⟨O,yz,yT⟩:=cn.take tk
 obtain⟨⟨_,vs,hb,hr⟩,_⟩:=yT.hp.own
 obtain⟨ti,t1,t2,_,_⟩:=dC hq
 refine⟨⟨b,0,none⟩,vs,ti,_,rfl,t1,t2, ?_,hb.z1r,hr⟩
 rw [t1] at hz
 simp only [Option.map_some,Option.some.injEq] at hz
 rw [hz,hr.t.len]⟩⟩
theorem z1s{fn:Func}{p:Tmp}{ty:TypeId}(h:fn.results=#[.cell p ty])(tmps:Array Value)(P:Program)(w:World) :
  (results fn tmps).run P w=((asAddr (tmps.getD p undef)).run P w).andThen λa w₁=>(loadVar ty a).run P w₁:=by
 simp only [results,h]
 simp [Sem.run_bind,Result.andThen]
instance {a:Tmp} {ty:TypeId} {k:AV->Prop}:Sp (sV Γ e o [.cell a ty] k) (Lk (xd e a) λx=>LG Γ e o x ty k):=⟨λ⟨x,h1,cs,h2,h3⟩=>⟨.agg cs,h2,λhr env h G Os cn=>by
 obtain⟨v,g1,g2⟩:=cn.env a x h1
 obtain⟨p,vs,ti,fs,rfl,t1,t2,t3,g3,g4⟩:=h3 env h G Os v cn g2
 have YM:Γ.rs=#[.cell a ty]:=Array.ext' hr
 refine⟨.agg vs.toArray, ?_,vs,rfl,g4⟩
 rw [YM]
 intro ac w fn ha hw YT
 rw [z1s YT]
 have k1:=(Γ.ok.ok _ _ t1).ja w t2
 have k2:=(Γ.ok.ok _ _ t1).ua w
 have k3:=j9 (P:=Γ.P) (w:=w) (a:=p) (l:=vs) (g3.shut hw)
 simp [ha.val _ _ g1,asAddr,loadVar,k1,k2,t3,k3]⟩⟩
instance {a b:Tmp} {ty:TypeId} {k:AV->Prop}:Sp (sV Γ e o [.cell a ty,.tmp b] k) (Lk (xd e a) λx=>Lk (xd e b) λy=>LG Γ e o x ty λq=>k (.yE [q,y])):=⟨λ⟨x,h1,y,hy,cs,h2,h3⟩=>⟨.yE [.agg cs,y],h2,λhr env h G Os cn=>by
 obtain⟨v,g1,g2⟩:=cn.env a x h1
 obtain⟨v2,g5,g6⟩:=cn.env b y hy
 obtain⟨p,vs,ti,fs,rfl,t1,t2,t3,g3,g4⟩:=h3 env h G Os v cn g2
 have YM:Γ.rs=#[.cell a ty,.tmp b]:=Array.ext' hr
 refine⟨.tuple #[.agg vs.toArray,v2], ?_,[_,_],rfl,⟨vs,rfl,g4⟩,g6,trivial⟩
 rw [YM]
 exact uj.Dq Γ.ok t1 t2 g1 g3 t3 g5⟩⟩
theorem PA.fin(h:sV Γ e o Γ.rs.toList λa=>Fin Γ o a) :∀env hh G Os,vM Γ ⟨e,o⟩ env hh G Os->fm Γ env hh:=by
 obtain⟨a,⟨a',own,hs,hk⟩,hx⟩:=h
 intro env hh G Os cn
 obtain⟨v,g1,g2⟩:=hx rfl env hh G Os cn
 cases hs with
 | one hs =>
  obtain⟨G',yz,h1,h2,_⟩:=hs.rep (vs:= [v]) cn.hp ⟨g2,trivial⟩
  exact⟨v,a',own,G',yz,g1,hk,h2.1,h1⟩
 | yE hs =>
  obtain⟨vs,rfl,g3⟩:=g2
  obtain⟨G',yz,h1,h2,_⟩:=hs.rep cn.hp g3
  exact⟨_,_,own,G',yz,g1,hk,⟨vs,rfl,h2⟩,h1⟩
instance:Sp (PA Γ [] .ret e o) (Nm Γ.rs.toList λrs=>sV Γ e o rs λa=>Fin Γ o a):=⟨λh=>⟨λenv hh G Os cn=>PK.QG (PA.fin h.ok env hh G Os cn)⟩⟩
instance:Sp (PA Γ [] .normal e o) (Nm Γ.rs.toList λrs=>sV Γ e o rs λa=>Fin Γ o a):=⟨λh=>⟨λenv hh G Os cn=>PK.aN (PA.fin h.ok env hh G Os cn)⟩⟩
theorem OA.xt{P:Program}{tt:Nat->Option TI}{en:Nat->Bool}{ok:xh P tt en}{T0:Nat->Ord×(Nat->xa)}{m0:Nat}{rs:Array ResultVar}{K:AV->List yh->Prop}{h0:y7}{G0 O0:Nat->Prop}{k:List KI}{ops:Array Oper}{l:List Oper}(t:Tmp){b m:Nat}{T:TypeId}{cs:List AV}{rest:List yh}(ht:xd e t=some (.val (.pointer (some ⟨b,m,none⟩))))(tk:Take o (yr b T cs) rest)(h:OA ⟨P,tt,en,ok,T0,m0,rs,K,h0,G0,O0,⟨none⟩⟩ k ops l ((t,.ad cs m) :: e) rest):OA ⟨P,tt,en,ok,T0,m0,rs,K,h0,G0,O0,⟨none⟩⟩ k ops l e o:=by
 refine⟨λhd env hh G Os cn=>?_⟩
 obtain⟨O,yz,yT⟩:=cn.take tk
 obtain⟨ho,vs,hb,hr⟩:=yT.hp.own.1
 have c3:=yT.freeze
 refine h.h hd env hh _ yz (o7 (σ:=⟨e,rest⟩) c3 t (λw hw=>?_) ht)
 obtain⟨w',g1,g2⟩:=cn.env t _ ht
 have g2:w'=_:=g2
 rw [hw] at g1;cases g1;subst g2
 exact⟨b,0,vs,by rw [Nat.zero_add],.inr ((ho b).2 rfl),hb.lt,hb.z1r,hr.mono λ_=> .inl⟩
theorem Fin.p{a r:AV}(hk:Γ.K=λq own=>q=r/\own= [])(h:a=r):Fin Γ o a:=⟨a,[],.one (.same (.nil .nil)),by rw [hk];exact⟨h,rfl⟩⟩
def bZ:Nat->List AV->EA
 | _,[]=> []
 | i,a :: r=>(i,a) :: bZ (i+1) r
theorem pj{h:y7}{G:Nat->Prop} :∀(yM:List AV) (vs:List Value) (i:Nat),xb h G vs yM->∀t a,xd (bZ i yM) t=some a->∃v,look (kL i vs) t=some v/\a.R h G v
 | [],[],_,_,t,a,hl=>by simp [bZ,xd] at hl
 | b :: yM,v :: vs,i,⟨h1,h2⟩,t,a,hl=>by
  simp only [bZ,kL,vJ,uW] at hl ⊢
  by_cases hk:i=t
  ·rw [if_pos hk] at hl ⊢;cases hl;exact⟨v,rfl,h1⟩
  ·rw [if_neg hk] at hl ⊢;exact pj yM vs (i+1) h2 t a hl
theorem zy.of{P:Program}{tt:Nat->Option TI}{en:Nat->Bool}(ok:xh P tt en)(T:Nat->Ord×(Nat->xa)){f:FuncId}{fn:Func}{y:Code}{n:Nat}{rs:Array ResultVar}{yM:List AV}{own:List yh}{K:AV->List yh->Prop}(hf:P.funcs[f]?=some fn)(hb:fn.body=some y)(hn:fn.ntmps=n)(hr:fn.results=rs)(hl:Nat.ble yM.length n=true)
  (hc:∀h0 G0 O0,CA ⟨P,tt,en,ok,T,n,rs,K,h0,G0,O0,⟨none⟩⟩ [] y (bZ 0 yM) own):zy P f yM own K:=by
 refine⟨λh G Os vs h1 h2=>?_⟩
 refine wS.of hf hb hn hr (by rw [h1.len];exact hl) (λv ha hb hs ⟨r,wE,G',yz,g2,g3,g4⟩=>⟨r,wE,G',yz,g2,AV.wm _ (g4.ZF (λb hb=>(h2.g b hb).1) hs) g3,g4.shut (λb hb=>(h2.g b hb).1) hs⟩) (CW.mono (λx e h' hq=>?_) ((hc h G (U Os)).h (kL 0 vs) h G Os ⟨h2,pj yM vs 0 h1,l7.none rfl⟩))
 have key:∀(R1 R2:Env->y7->Prop),(∀e h,R1 e h->R2 e h)->∀x e h,PK P n R1 [] x e h->PK P n R2 [] x e h:=by
  intro R1 R2 iK x e h hp
  unfold PK at hp ⊢
  cases x <;> first|exact iK _ _ hp|exact hp
 exact key _ _ (λe h' ⟨v,r,wE,G',yz,g1,g2,g3,g4⟩=>⟨v,g1,r,wE,G',yz,g2,g3,g4⟩) x e h' hq
end

/-! ### Flat structs of integers -/
inductive FV (P:Program) (t:TypeId):List Int->Value->Prop where
 | int {x:Int}:P.underlying t=some (.int .i64)->FV P t [x] (.int .i64 x)
 | st {fs:Array Field} {xs:List Int}:P.underlying t=some (.struct fs)->FV P t xs (.agg (xs.map (Value.int .i64)).toArray)
def sZ(P:Program):List Field->Nat->Nat->Bool
 | [],o,n=>Nat.beq o n
 | f :: fs,o,n=>Nat.beq f.offset o && f.name != "_" && sZ P fs (o+P.cellsOf f.type) n
def vR(P:Program):Nat->TypeId->Bool
 | 0,_=>false
 | d+1,t=>match P.info? t with
  | none=>false
  | some i=>match P.underlying t with
   | some (.int .i64)=>Nat.beq i.size 1
   | some (.struct fs)=> !P.stoodInHeld t && sZ P fs.toList 0 i.size && fs.toList.all λf=>vR P d f.type
   | _=>false
section
variable {P:Program}
theorem my :∀{fs:List Field} {o n:Nat},sZ P fs o n=true->o<=n
 | [],o,n,h=>by simp [sZ] at h;omega
 | f :: fs,o,n,h=>by
  simp only [sZ,Bool.and_eq_true] at h
  have:=my h.2
  omega
theorem jH{t:TypeId}{i:TypeInfo}(h:P.info? t=some i):P.cellsOf t=i.size:=by simp [Program.cellsOf,h]
theorem tx{d:Nat}{t:TypeId}(h:vR P (d+1) t=true):(P.underlying t=some (.int .i64)/\P.cellsOf t=1)∨∃fs i,P.info? t=some i/\P.underlying t=some (.struct fs)/\P.stoodInHeld t=false/\sZ P fs.toList 0 (P.cellsOf t)=true/\∀f∈fs.toList,vR P d f.type=true:=by
 unfold vR at h
 split at h
 ·cases h
 ·rename_i i hi
  split at h
  ·rename_i hu
   exact .inl ⟨hu,by rw [jH hi];simpa using h⟩
  ·rename_i fs hu
   simp only [Bool.and_eq_true,Bool.not_eq_true',List.all_eq_true] at h
   exact .inr ⟨fs,i,hi,hu,h.1.1,by rw [jH hi];exact h.1.2,h.2⟩
  ·cases h
theorem FV.part{d:Nat}{t:TypeId}(h:vR P (d+1) t=true){xs:List Int}{off:Nat}(hl:off+P.cellsOf t<=xs.length)(w:World) :
  ∃v,(part t (xs.map (Value.int .i64)).toArray off).run P w= .ok v w/\FV P t ((xs.drop off).take (P.cellsOf t)) v:=by
 rcases tx h with⟨hu,hc⟩|⟨fs,i,hi,hu,_,_,_⟩
 ·rw [hc] at hl ⊢
  obtain⟨x,hx⟩:∃x,xs[off]?=some x:=⟨_,zE z6⟩
  have e1:(xs.drop off).take 1= [x]:=by
   have:xs.drop off=x :: xs.drop (off+1):=by rw [List.drop_eq_getElem_cons z6];congr 1;rw [zE z6] at hx;simpa using hx
   rw [this];rfl
  have ei:(isAgg t).run P w= .ok false w:=by simp [isAgg,run_underlying hu]
  refine⟨.int .i64 x, ?_,by rw [e1];exact .int hu⟩
  simp [Go.part,ei,hx]
 ·have ei:(isAgg t).run P w= .ok true w:=by simp [isAgg,run_underlying hu]
  have u4:(sizeOf t).run P w= .ok (P.cellsOf t) w:=by simp [sizeOf,typeInfo,hi,Program.cellsOf]
  refine⟨.agg (((xs.drop off).take (P.cellsOf t)).map (Value.int .i64)).toArray, ?_,.st hu⟩
  simp [Go.part,ei,u4,List.map_take,List.map_drop]
theorem fS :∀(d:Nat) (t:TypeId),vR P d t=true->∀(D:Nat),d<=D->∀(xs ys:List Int) (vx vy:Value),xs.length=P.cellsOf t->ys.length=P.cellsOf t->FV P t xs vx->FV P t ys vy->∀w,(Op.equalIn D t vx vy).run P w= .ok (decide (xs=ys)) w
 | 0,t,h=>by simp [vR] at h
 | d+1,t,h=>by
  intro D hD xs ys vx vy bm hly hx hy w
  obtain⟨D,rfl⟩:∃D',D=D'+1:=⟨D - 1,z6⟩
  rcases tx h with⟨hu,hc⟩|⟨fs,i,hi,hu,hs,ho,ha⟩
  ·cases hx with
   | st h'=>rw [hu] at h';cases h'
   | int _ =>
    cases hy with
    | st h'=>rw [hu] at h';cases h'
    | int _ =>
     rw [run_equalIn_int w D t .i64 .i64 _ _ hu]
     congr 1
     rw [Bool.eq_iff_iff]
     simp
  ·cases hx with
   | int h'=>rw [hu] at h';cases h'
   | st _ =>
    cases hy with
    | int h'=>rw [hu] at h';cases h'
    | st _ =>
     have hf:P.fieldsOf t=fs:=by simp [Program.fieldsOf,hu]
     rw [run_equalIn_agg w D t _ _ (by rw [hf];exact hu) hs,hf]
     have key:∀(l:List Field) (off:Nat),(∀f∈l,vR P d f.type=true)->sZ P l off (P.cellsOf t)=true->
       (Op.eqFields D (xs.map (Value.int .i64)).toArray (ys.map (Value.int .i64)).toArray l).run P w= .ok (decide (xs.drop off=ys.drop off)) w:=by
      intro l
      induction l with
      | nil =>
       intro off _ ho
       have:off=P.cellsOf t:=by simpa [sZ] using ho
       subst this
       rw [List.drop_of_length_le z6,List.drop_of_length_le z6]
       simp [Op.eqFields]
      | cons f l ih =>
       intro off qz ho
       simp only [sZ,Bool.and_eq_true] at ho
       obtain⟨⟨h1,h2⟩,h3⟩:=ho
       have h1:f.offset=off:=by simpa using h1
       have hle:=my h3
       have SG:=qz f zd
       obtain⟨d',rfl⟩:∃d',d=d'+1:=by cases d with
        | zero=>simp [vR] at SG
        | succ d'=>exact⟨d',rfl⟩
       obtain⟨va,ra,fa⟩:=FV.part SG (xs:=xs) (off:=off) z6 w
       obtain⟨vb,rb,fb⟩:=FV.part SG (xs:=ys) (off:=off) z6 w
       have hr:=fS (d'+1) f.type SG D z6 _ _ va vb (by rw [zN,List.length_drop];omega) (by rw [zN,List.length_drop];omega) fa fb w
       have hn:f.name≠"_":=by simpa using h2
       have e1:∀zs:List Int,zs.drop off=(zs.drop off).take (P.cellsOf f.type) ++ zs.drop (off+P.cellsOf f.type):=λzs=>by
        rw [<-List.drop_drop,List.take_append_drop]
       simp only [Op.eqFields,h1,Sem.run_ite,if_pos hn,Sem.run_bind,ra,rb,hr,Result.andThen_ok]
       by_cases he:(xs.drop off).take (P.cellsOf f.type)=(ys.drop off).take (P.cellsOf f.type)
       ·rw [zT he]
        simp only [Bool.not_true,Bool.false_eq_true,if_false]
        rw [ih (off+P.cellsOf f.type) (λg hg=>qz g (by simp [hg])) h3]
        congr 1
        refine zD.2 ⟨λh9=>by rw [e1 xs,e1 ys,he,h9],λh9=>?_⟩
        rw [<-List.drop_drop,<-List.drop_drop,h9]
       ·rw [zF he]
        simp only [Bool.not_false,if_true,Sem.run_pure]
        congr 1
        exact(zF (λh9=>he (by rw [h9]))).symm
     have:=key fs.toList 0 ha ho
     simpa using this
theorem rV(e:Bool) :∀(d:Nat) (t:TypeId),vR P d t=true->∀(D:Nat),d<=D->∀(xs:List Int) (v:Value),xs.length=P.cellsOf t->FV P t xs v->∀w,(Instr.checkKey e D t v).run P w= .ok () w
 | 0,t,h=>by simp [vR] at h
 | d+1,t,h=>by
  intro D hD xs v hl hv w
  obtain⟨D,rfl⟩:∃D',D=D'+1:=⟨D - 1,z6⟩
  rcases tx h with⟨hu,hc⟩|⟨fs,i,hi,hu,hs,ho,ha⟩
  ·cases hv with
   | st h'=>rw [hu] at h';cases h'
   | int _=>simp [Instr.checkKey,run_underlying hu]
  ·cases hv with
   | int h'=>rw [hu] at h';cases h'
   | st _ =>
    simp only [Instr.checkKey,Sem.run_bind,run_underlying hu,Result.andThen_ok]
    rw [<-Array.forIn_toList]
    clear hu hi hs
    generalize fs.toList=l at ho ha ⊢
    generalize (0:Nat)=off at ho
    induction l generalizing off with
    | nil=>simp
    | cons f l ih =>
     simp only [sZ,Bool.and_eq_true] at ho
     obtain⟨⟨h1,h2⟩,h3⟩:=ho
     have h1:f.offset=off:=by simpa using h1
     have hle:=my h3
     have SG:=ha f zd
     obtain⟨d',rfl⟩:∃d',d=d'+1:=by cases d with
      | zero=>simp [vR] at SG
      | succ d'=>exact⟨d',rfl⟩
     obtain⟨va,ra,fa⟩:=FV.part SG (xs:=xs) (off:=off) z6 w
     have hr:=rV e (d'+1) f.type SG D z6 _ va (by rw [zN,List.length_drop];omega) fa w
     have hn:f.name≠"_":=by simpa using h2
     have PO:=ih (λg hg=>ha g (by simp [hg])) (off+P.cellsOf f.type) h3
     simp only [List.forIn_cons,h1,if_pos hn,Sem.run_bind,ra,hr,Result.andThen_ok,Sem.run_pure]
     exact PO
end
/-! ### DJ of structs -/
structure Kf (p k:Prop):Prop where
 p:p
 k:k
inductive z1u:List AV->List Int->Prop where
 | nil:z1u [] []
 | cons {x:Int} {l:List AV} {xs:List Int}:z1u l xs->z1u (.val (.int .i64 x) :: l) (x :: xs)
theorem z1u.rep{h:y7}{G:Nat->Prop} :∀{cs:List AV} {xs:List Int} {vs:List Value},z1u cs xs->xb h G vs cs->vs=xs.map (Value.int .i64)
 | _,_,vs,.nil,hr=>by match vs,hr with | [],_=>rfl
 | _,_,vs,.cons h1,hr=>by
  match vs,hr with
  | v :: vs,⟨g1,g2⟩=>rw [h1.rep g2,show v=_ from g1];rfl
structure Il (cs:List AV) (M:List Int->Prop):Prop where
 ok:∃xs,z1u cs xs/\M xs
theorem Il.r{cs:List AV}{M:List Int->Prop}{xs:List Int}(h:z1u cs xs)(hm:M xs):Il cs M:=⟨xs,h,hm⟩
section
variable {Γ:Cx} {k:List KI} {e:EA} {o:List yh} {N:NA} {c:xa} {d:Tmp} {ty:TypeId} {x y z:Operand} {t u:TypeId} {kk:IntKind} {i:Int}
theorem Yq{P:Program}{t:TypeId}(hf:vR P 4 t=true)(h2:2<=P.cellsOf t) :∃fs,P.underlying t=some (.struct fs):=by
 rcases tx hf with⟨_,h⟩|⟨fs,_,_,h,_⟩
 ·omega
 ·exact⟨fs,h⟩
theorem St.eqS{P:Program}{n:Nat}{γ:Type}[Membership Nat γ]{fp:γ}{env:Env}{h:y7}{N:Env->y7->Prop}{xs ys:List Int}(hk:(vR P 4 t && !P.eqGuardType P.depth t && Nat.ble 2 (P.cellsOf t) && Nat.beq (P.cellsOf t) xs.length && Nat.beq (P.cellsOf t) ys.length)=true)
  (hx:ev env x=some (.agg (xs.map (Value.int .i64)).toArray)) (hy:ev env y=some (.agg (ys.map (Value.int .i64)).toArray)) (b:Bool) (k:N ((d,.bool (if b then decide (xs=ys) else !decide (xs=ys))) :: env) h) :
  St P n fp c (some d) (.binOp (if b then .eql else .neq) t x y u) ty env h N :=
 .xH (v:= .bool (if b then decide (xs=ys) else !decide (xs=ys))) (λac w ha=>by
  simp only [Bool.and_eq_true,Bool.not_eq_true',Nat.ble_eq] at hk
  obtain⟨⟨⟨⟨h1,h2⟩,h3⟩,h4⟩,h5⟩:=hk
  obtain⟨fs,hu⟩:=Yq h1 h3
  have hr:=fS 4 t h1 10000 zf xs ys _ _ (Nat.eq_of_beq_eq_true h4).symm (Nat.eq_of_beq_eq_true h5).symm (.st hu) (.st hu) w
  have hg:=λop=>run_eqGuard_agg (P:=P) w op t x y (xs.map (Value.int .i64)).toArray (ys.map (Value.int .i64)).toArray h2
  cases b with
  | true=>simp [yI,execOp,ha.ev hx,ha.ev hy,hg,run_eql_struct,hr]
  | false=>simp [yI,execOp,ha.ev hx,ha.ev hy,hg,run_neq_struct,hr]) k
instance {cs ds:List AV}:Sp (tZ Γ c d (.binOp .eql t x y u) ty e o N x (.agg cs) y (.agg ds)) (Il cs λxs=>Il ds λys=>Kf ((vR Γ.P 4 t && !Γ.P.eqGuardType Γ.P.depth t && Nat.ble 2 (Γ.P.cellsOf t) && Nat.beq (Γ.P.cellsOf t) xs.length && Nat.beq (Γ.P.cellsOf t) ys.length)=true) (N ((d,.val (.bool (decide (xs=ys)))) :: e) o)):=⟨λ⟨xs,h1,ys,h2,hn⟩=>SR λenv h G v w g1 g2 r1 r2=>by
 obtain⟨vs,rfl,q1⟩:=r1
 obtain⟨ws,rfl,q2⟩:=r2
 rw [h1.rep q1.t] at g1
 rw [h2.rep q2.t] at g2
 exact⟨.val (.bool (decide (xs=ys))),_,rfl,hn.k,λ_ hk=>St.eqS hn.p g1 g2 true hk⟩⟩
instance {cs ds:List AV}:Sp (tZ Γ c d (.binOp .neq t x y u) ty e o N x (.agg cs) y (.agg ds)) (Il cs λxs=>Il ds λys=>Kf ((vR Γ.P 4 t && !Γ.P.eqGuardType Γ.P.depth t && Nat.ble 2 (Γ.P.cellsOf t) && Nat.beq (Γ.P.cellsOf t) xs.length && Nat.beq (Γ.P.cellsOf t) ys.length)=true) (N ((d,.val (.bool (decide (¬xs=ys)))) :: e) o)):=⟨λ⟨xs,h1,ys,h2,hn⟩=>SR λenv h G v w g1 g2 r1 r2=>by
 obtain⟨vs,rfl,q1⟩:=r1
 obtain⟨ws,rfl,q2⟩:=r2
 rw [h1.rep q1.t] at g1
 rw [h2.rep q2.t] at g2
 exact⟨.val (.bool (decide (¬xs=ys))),.bool (!decide (xs=ys)),(by simp [AV.val]),hn.k,λ_ hk=>St.eqS hn.p g1 g2 false hk⟩⟩
/-! ### Is a slice z4e -/
instance {α:Type} {sz:Nat} {l:List α} {f:α->List AV} {m cp:Nat}:Sp (tZ Γ c d (.binOp .eql t x y u) ty e o N x (.sl sz l f) y (.val (.slice none m cp))) (Lk (nN Γ.tt t) λ_=>yc λb:Bool=>Im (l≠ []->b=false) (N ((d,.val (.bool b)) :: e) o)):=⟨λ⟨p,hp,hn⟩=>SR λenv h G v w g1 g2 r1 r2=>by
 obtain⟨rows,hs,_,_⟩:=AV.ai r1
 obtain⟨q,cap,rfl⟩:=hs.shape
 have r2:w=_:=r2
 subst r2
 obtain⟨ti,t1,t2,t3⟩:=xg hp
 refine⟨.val (.bool q.isNone),_,rfl,(hn.ok q.isNone).k λvB=>?_,λ_ hk=>St.TO Γ.ok t1 t2 g1 g2 hk⟩
 obtain⟨_,⟨h0,_⟩|⟨b,of,cp,rs,e1,_⟩⟩:=r1
 ·exact absurd h0 vB
 ·cases e1;rfl⟩
end

def fE:List MapEntry->List (List Int)->List Int->Nat->Option (Nat×Value)
 | e :: es,k :: ks,xs,i=>if xs=k then some (i,e.val) else fE es ks xs (i+1)
 | _,_,_,_=>none
def yG{β:Type}(kvs:List (List Int×β))(xs:List Int):Option β:=(kvs.find? λp=>decide (p.1=xs)).map (·.2)
def td{β:Type}:List (List Int×β)->List Int->β->List (List Int×β)
 | [],xs,v=> [(xs,v)]
 | (k,u) :: r,xs,v=>if k=xs then(k,v) :: r else(k,u) :: td r xs v
theorem tX{β:Type} :∀(kvs:List (List Int×β)) (xs ys:List Int) (v:β),yG (td kvs xs v) ys=if ys=xs then some v else yG kvs ys
 | [],xs,ys,v=>by
  simp only [td,yG,List.find?_cons,List.find?_nil]
  by_cases h:xs=ys
  ·subst h;simp
  ·have h':¬ys=xs:=λe=>h e.symm
   simp [h,h']
 | (k,u) :: r,xs,ys,v=>by
  have ih:=tX r xs ys v
  simp only [td]
  by_cases hk:k=xs
  ·subst hk
   simp only [if_true,yG,List.find?_cons]
   by_cases h:k=ys
   ·subst h;simp
   ·have h':¬ys=k:=λe=>h e.symm
    simp [h,h']
  ·simp only [hk,if_false,yG,List.find?_cons] at ih ⊢
   by_cases h:k=ys
   ·subst h;simp [hk]
   ·simp only [h,decide_false];exact ih
structure uy (P:Program) (kt:TypeId) (es:List MapEntry) (ks:List (List Int)):Prop where
 len:es.length=ks.length
 key:∀(i:Nat) (e:MapEntry) (k:List Int),es[i]?=some e->ks[i]?=some k->FV P kt k e.key/\k.length=P.cellsOf kt
theorem uy.tail{P:Program}{kt:TypeId}{e:MapEntry}{es:List MapEntry}{k:List Int}{ks:List (List Int)}(h:uy P kt (e :: es) (k :: ks)):uy P kt es ks :=
 ⟨by simpa using h.len,λi a b h1 h2=>h.key (i+1) a b (by simpa using h1) (by simpa using h2)⟩
theorem mF{P:Program}{kt:TypeId}(hf:vR P 4 kt=true){xs:List Int}{kv:Value}(hk:FV P kt xs kv)(hl:xs.length=P.cellsOf kt)(es:List MapEntry)(ks:List (List Int))(ho:uy P kt es ks)(w:World) :
  (Instr.findKey kt kv es).run P w= .ok (fE es ks xs 0) w:=by
 have z04:∀(es:List MapEntry) (ks:List (List Int)) (i:Nat),uy P kt es ks->(Instr.findAsking kt kv es i).run P w= .ok (fE es ks xs i) w:=by
  intro es
  induction es with
  | nil=>intro ks i _;simp [Instr.findAsking,fE]
  | cons e es ih =>
   intro ks i ho
   match ks,ho with
   | [],ho=>have:=ho.len;simp at this
   | k :: ks,ho =>
    obtain⟨h1,h2⟩:=ho.key 0 e k rfl rfl
    have he:=fS 4 kt hf 10000 zf xs k kv e.key hl h2 hk h1 w
    have PO:=ih ks (i+1) ho.tail
    simp only [Instr.findAsking,Op.equal,Op.maxDepth,Sem.run_bind,he,Result.andThen_ok,fE]
    by_cases hx:xs=k
    ·subst hx;simp
    ·simp only [hx,decide_false,Bool.false_eq_true,if_false];exact PO
 rcases tx hf with⟨hu,hc⟩|⟨fs,_,_,hu,_⟩
 ·have Rt:∀(es:List MapEntry) (ks:List (List Int)) (i:Nat),uy P kt es ks->Instr.findNow (.int .i64) kv es i=some (fE es ks xs i):=by
   intro es
   induction es with
   | nil=>intro ks i _;simp [Instr.findNow,fE]
   | cons e es ih =>
    intro ks i ho
    match ks,ho with
    | [],ho=>have:=ho.len;simp at this
    | k :: ks,ho =>
     obtain⟨h1,h2⟩:=ho.key 0 e k rfl rfl
     have PO:=ih ks (i+1) ho.tail
     cases hk with
     | st h'=>rw [hu] at h';cases h'
     | @int x _ =>
      generalize hek:e.key=ek at h1
      cases h1 with
      | st h'=>rw [hu] at h';cases h'
      | @int y _ =>
       simp only [Instr.findNow,hek,Instr.sameNow,if_true,fE]
       by_cases hx:x=y
       ·subst hx;simp
       ·have h3:(x == y)=false:=by simpa using hx
        have h4:¬ [x]= [y]:=by simpa using hx
        simp only [h3,h4,if_false];exact PO
  simp only [Instr.findKey,Sem.run_bind,run_underlying hu,Result.andThen_ok,Rt es ks 0 ho,Sem.run_pure]
 ·cases es with
  | nil =>
   simp only [Instr.findKey,Sem.run_bind,run_underlying hu,Result.andThen_ok,Instr.findNow,Sem.run_pure,fE]
  | cons e es =>
   have hn:Instr.findNow (.struct fs) kv (e :: es) 0=none:=by
    simp [Instr.findNow,Instr.sameNow]
   simp only [Instr.findKey,Sem.run_bind,run_underlying hu,Result.andThen_ok,hn]
   exact z04 (e :: es) ks 0 ho
def Vw(es:List MapEntry)(cl:Nat):Prop:=(∀e∈es,e.born < cl)/\(es.map (·.born)).Nodup
def vg(P:Program){β:Type}(b:Nat)(kt:TypeId)(kvs:List (List Int×β))(f:β->AV):yh :=
  ⟨λh O G=>(∀x,O x↔x=b)/\∃es clock,h[b]?=some (.map es clock)/\uy P kt es.toList (kvs.map (·.1))/\(∀(i:Nat) (e:MapEntry) (p:List Int×β),es.toList[i]?=some e->kvs[i]?=some p->(f p.2).R h G e.val)/\Vw es.toList clock,
   by rintro h h' O G x ⟨ho,es,cl,h1,h2,h3,h4⟩;exact⟨ho,es,cl,(x.same b (.inl ((ho b).2 rfl)) (zA.1 h1).1).trans h1,h2,λi e p g1 g2=>(f p.2).wm (x.mono λ_=> .inr) (h3 i e p g1 g2),h4⟩,
   by rintro h O G G' x ⟨ho,es,cl,h1,h2,h3,h4⟩;exact⟨ho,es,cl,h1,h2,λi e p g1 g2=>(f p.2).mono x (h3 i e p g1 g2),h4⟩,
   by rintro h O G ⟨ho,es,cl,h1,_⟩ y hy;rw [(ho y).1 hy];exact NC.of h1 rfl⟩
structure Ou (P:Program) (o:List yh) (b:Nat) (k:∀{β:Type},TypeId->List (List Int×β)->(β->AV)->List yh->Prop):Prop where
 ok:∃(β:Type) (kt:TypeId) (kvs:List (List Int×β)) (f:β->AV) (rest:List yh),Take o (vg P b kt kvs f) rest/\k kt kvs f rest
theorem Ou.r{β:Type}{P:Program}{o rest:List yh}{b:Nat}{k:∀{β:Type},TypeId->List (List Int×β)->(β->AV)->List yh->Prop}{kt:TypeId}{kvs:List (List Int×β)}{f:β->AV}(h:Take o (vg P b kt kvs f) rest)(hk:k kt kvs f rest):Ou P o b k:=⟨β,kt,kvs,f,rest,h,hk⟩
structure X2 (k:∀{β:Type},(β->AV)->Prop):Prop where
 ok:∃(β:Type) (f:β->AV),k f
theorem X2.r{β:Type}{k:∀{β:Type},(β->AV)->Prop}(f:β->AV)(h:k f):X2 k:=⟨β,f,h⟩
structure Ky (a:AV) (M:List Int->Prop):Prop where
 ok:∃xs,M xs/\((∃x,xs= [x]/\a= .val (.int .i64 x))∨∃cs,a= .agg cs/\z1u cs xs/\2<=xs.length)
instance {x:Int} {M:List Int->Prop}:Sp (Ky (.val (.int .i64 x)) M) (M [x]):=⟨λh=>⟨[x],h,.inl ⟨x,rfl,rfl⟩⟩⟩
instance {cs:List AV} {M:List Int->Prop}:Sp (Ky (.agg cs) M) (Il cs λxs=>Rf (Nat.ble 2 xs.length=true) (M xs)):=⟨λ⟨xs,h1,h0,h2⟩=>⟨xs,h2,.inr ⟨cs,rfl,h1,zB h0⟩⟩⟩
structure eo {β:Type} (f:β->AV) (a:AV) (k:β->Prop):Prop where
 ok:∃v,f v=a/\k v
theorem eo.r{β:Type}{f:β->AV}{a:AV}{k:β->Prop}{v:β}(h:f v=a)(hk:k v):eo f a k:=⟨v,h,hk⟩
structure sf {β:Type} (q:Option β) (X:β->Prop) (Y:Prop):Prop where
 x:∀v,q=some v->X v
 y:q=none->Y
theorem sf.s{β:Type}{q:Option β}{X:β->Prop}{Y:Prop}{v:β}(h:q=some v)(hx:X v):sf q X Y:=⟨λw hw=>(by rw [h] at hw;cases hw;exact hx),λhn=>(by rw [h] at hn;cases hn)⟩
theorem sf.n{β:Type}{q:Option β}{X:β->Prop}{Y:Prop}(h:q=none)(hy:Y):sf q X Y:=⟨λw hw=>(by rw [h] at hw;cases hw),λ_=>hy⟩
def jU(tt:Nat->Option TI)(t:Nat):Option (Nat×Nat×TI):=match tt t with
 | some ti=>match ti.kind with
  | .map k e=>match tt e with
   | some te=>some (k,e,te)
   | none=>none
  | _=>none
 | none=>none
theorem sa{tt:Nat->Option TI}{t:Nat}{p:Nat×Nat×TI}(h:jU tt t=some p) :∃ti,tt t=some ti/\ti.kind= .map p.1 p.2.1/\tt p.2.1=some p.2.2:=by
 unfold jU at h
 split at h
 ·rename_i ti h1
  split at h
  ·rename_i k e h2
   split at h
   ·rename_i te h3
    cases h
    exact⟨ti,h1,h2,h3⟩
   ·cases h
  ·cases h
 ·cases h
theorem ng{β:Type} :∀(es:List MapEntry) (kvs:List (List Int×β)) (xs:List Int) (i:Nat),es.length=kvs.length->
  (fE es (kvs.map (·.1)) xs i=none/\yG kvs xs=none/\(∀v,td kvs xs v=kvs ++ [(xs,v)]))∨∃j e v,fE es (kvs.map (·.1)) xs i=some (i+j,e.val)/\es[j]?=some e/\kvs[j]?=some (xs,v)/\yG kvs xs=some v/\∀u,td kvs xs u=kvs.set j (xs,u)
 | [],[],xs,i,_=> .inl ⟨rfl,rfl,λ_=>rfl⟩
 | [],_ :: _,_,_,h=>by simp at h
 | _ :: _,[],_,_,h=>by simp at h
 | e :: es,(k,v) :: kvs,xs,i,h=>by
  by_cases hx:xs=k
  ·subst hx
   refine .inr ⟨0,e,v, ?_,rfl,rfl, ?_,λu=>?_⟩
   ·simp [fE]
   ·simp [yG]
   ·simp [td]
  ·have c_:¬k=xs:=λe=>hx e.symm
   rcases ng es kvs xs (i+1) (by simpa using h) with⟨h1,h2,h3⟩|⟨j,e',v',h1,h2,h3,h4,h5⟩
   ·refine .inl ⟨?_, ?_,λu=>?_⟩
    ·simp only [List.map_cons,fE,hx,if_false];exact h1
    ·simp only [yG,List.find?_cons,c_,decide_false] at h2 ⊢;exact h2
    ·simp only [td,c_,if_false,h3 u,List.cons_append]
   ·refine .inr ⟨j+1,e',v', ?_,by simpa using h2,by simpa using h3, ?_,λu=>?_⟩
    ·simp only [List.map_cons,fE,hx,if_false,h1];congr 2;omega
    ·simp only [yG,List.find?_cons,c_,decide_false] at h4 ⊢;exact h4
    ·simp only [td,c_,if_false,h5 u,List.set_cons_succ]
theorem mq{β:Type} :∀(kvs:List (List Int×β)) (xs:List Int) (v:β),yG kvs xs=none->td kvs xs v=kvs ++ [(xs,v)]
 | [],_,_,_=>rfl
 | (k,u) :: r,xs,v,h=>by
  have hk:¬k=xs:=λe=>by subst e;simp [yG] at h
  have h':yG r xs=none:=by simp only [yG,List.find?_cons,hk,decide_false] at h ⊢;exact h
  simp only [td,hk,if_false,mq r xs v h',List.cons_append]
theorem P1{P:Program}{kt:TypeId}{xs:List Int}{v w:Value}(h1:FV P kt xs v)(h2:FV P kt xs w):v=w:=by
 cases h1 with
 | int hu=>cases h2 with
  | int _=>rfl
  | st h'=>rw [hu] at h';cases h'
 | st hu=>cases h2 with
  | int h'=>rw [hu] at h';cases h'
  | st _=>rfl
theorem XL{P:Program}{kt:TypeId}{xs:List Int}{v:Value}(h:FV P kt xs v):Instr.sameBits 10000 v v=true:=by
 cases h with
 | int _=>simp [Instr.sameBits]
 | st _ =>
  simp only [Instr.sameBits,beq_self_eq_true,Bool.true_and,List.all_eq_true]
  intro p hp
  obtain⟨a,b⟩:=p
  have pz:a=b/\a∈xs.map (Value.int .i64):=by
   generalize (xs.map (Value.int .i64))=l at hp
   induction l with
   | nil=>simp at hp
   | cons q l ih =>
    simp only [List.zip_cons_cons,List.mem_cons,Prod.mk.injEq] at hp
    rcases hp with⟨rfl,rfl⟩|hp
    ·exact⟨rfl,by simp⟩
    ·obtain⟨h1,h2⟩:=ih hp;exact⟨h1,by simp [h2]⟩
  obtain⟨rfl,hm⟩:=pz
  obtain⟨x,_,rfl⟩:=List.mem_map.1 hm
  simp [Instr.sameBits]

section
variable {Γ:Cx} {k:List KI} {e:EA} {o:List yh} {N:NA} {c:xa} {d:Tmp} {ty:TypeId} {x y z:Operand} {t u:TypeId}
instance:Sp (SA Γ c (some d) (.makeMap t none) ty e o N) (Rf (yP c=true) (Lk (jU Γ.tt t) λp=>X2 λ{_} f=>yc λb:Nat=>N ((d,.val (.map (some b))) :: e) (vg Γ.P b p.1 [] f :: o))):=⟨λ⟨hc,p,hp,β,f,hn⟩=>⟨λenv hh G Os cn=>by
 refine St.makeMap hc .i64 λb h' hm yL hb u4=>?_
 obtain⟨es,cl,h1,h2⟩:=hm.ok
 have he:es=#[]:=by
  have:es.toList= []:=by simpa using h2
  exact Array.ext' this
 subst he
 have yT:=cn.emp.jT (h':=h') (R':=vg Γ.P b p.1 ([]:List (List Int×β)) f) (O':=λy=>y=b) ⟨yL.size,λy _ hl=>yL.same y hl zd⟩ (λy hy=>by subst hy;omega) ⟨λy=>Iff.rfl,#[],cl,h1,⟨rfl,λi e k h=>by simp at h⟩,λi e p h=>by simp at h,by simp [Vw]⟩
 exact CN.mk (yT.put d (a:= .val _) rfl) (hn.ok b)⟩⟩
structure Cs (Γ:Cx) (c:xa) (op:Op) (t:TypeId) (x y z:Operand) (ty:TypeId) (e:EA) (o:List yh) (N:NA) (m key v:AV):Prop where
 h:(op= .insert t x y z∨op= .mapUpdate t x y z)->xr e x=some m->xr e y=some key->xr e z=some v->yN c=true->SA Γ c none op ty e o N
instance:Sp (SA Γ c none (.mapUpdate t x y z) ty e o N) (Rf (yN c=true) (Lk (xr e x) λm=>Lk (xr e y) λkey=>Lk (xr e z) λv=>Cs Γ c (.mapUpdate t x y z) t x y z ty e o N m key v)):=⟨λ⟨hc,_,h1,_,h2,_,h3,h⟩=>h.h (.inr rfl) h1 h2 h3 hc⟩
instance:Sp (SA Γ c none (.insert t x y z) ty e o N) (Rf (yN c=true) (Lk (xr e x) λm=>Lk (xr e y) λkey=>Lk (xr e z) λv=>Cs Γ c (.insert t x y z) t x y z ty e o N m key v)):=⟨λ⟨hc,_,h1,_,h2,_,h3,h⟩=>h.h (.inl rfl) h1 h2 h3 hc⟩
def DV(P:Program)(t:TypeId):Bool:=match P.underlying t with
 | some (.int .i64)=>true
 | _=>false
theorem dW{P:Program}{t:TypeId}(h:DV P t=true):P.underlying t=some (.int .i64):=by
 unfold DV at h
 split at h
 ·assumption
 ·cases h
def ig(P:Program)(kt:TypeId)(n:Nat):Bool:=vR P 4 kt && Nat.beq n (P.cellsOf kt) && (Nat.ble 2 n || DV P kt)
theorem kb{P:Program}{kt:TypeId}{a:AV}{xs:List Int}{h:y7}{G:Nat->Prop}{v:Value}(hk:ig P kt xs.length=true)(h2:(∃x,xs= [x]/\a= .val (.int .i64 x))∨∃cs,a= .agg cs/\z1u cs xs/\2<=xs.length)(hr:a.R h G v):vR P 4 kt=true/\xs.length=P.cellsOf kt/\FV P kt xs v:=by
 simp only [ig,Bool.and_eq_true,Bool.or_eq_true] at hk
 obtain⟨⟨h3,h4⟩,h5⟩:=hk
 have h4:=Nat.eq_of_beq_eq_true h4
 refine⟨h3,h4, ?_⟩
 rcases h2 with⟨x,rfl,rfl⟩|⟨cs,rfl,hi,h6⟩
 ·have hr:v=_:=hr
  subst hr
  rcases h5 with h5|h5
  ·simp at h5
  ·exact .int (dW h5)
 ·obtain⟨vs,rfl,hv⟩:=hr
  obtain⟨fs,hu⟩:=Yq h3 z6
  rw [hi.rep hv.t]
  exact .st hu
theorem QR{P:Program}{tt:Nat->Option TI}{en:Nat->Bool}(ok:xh P tt en){n:Nat}{env:Env}{h:y7}{op:Op}{K:Value->y7->Prop}{p:Nat×Nat×TI}{b:Nat}{xs:List Int}{kv vv:Value}{es:Array MapEntry}{cl:Nat}{ks:List (List Int)}(nU:op= .insert t x y z∨op= .mapUpdate t x y z)(hp:jU tt t=some p)(hf:vR P 4 p.1=true)(hl:xs.length=P.cellsOf p.1)(jR:FV P p.1 xs kv)
  (hx:ev env x=some (.map (some b))) (hy:ev env y=some kv) (hz:ev env z=some vv) (hb:h[b]?=some (.map es cl)) (ho:uy P p.1 es.toList ks)
  (kn:fE es.toList ks xs 0=none->∀h',h'=h.setIfInBounds b (.map (es.push { key:=kv,val:=vv,born:=cl }) (cl+1))->K undef h')
  (CI:∀j u,fE es.toList ks xs 0=some (j,u)->(∃e,es[j]?=some e/\e.key=kv)/\∀h',h'=h.setIfInBounds b (.map (es.modify j λe=>{ e with key:=kv,val:=vv }) cl)->K undef h'):Ld P n op ty env h K:=by
 intro a w oo next Q ha hw YP pv hn
 obtain⟨ti,t1,t2,t3⟩:=sa hp
 have ef:=(ok.ok _ _ t1).map t2
 have sA:w.heap[b]?=some (.map es cl):=hw▸hb
 have ky:=mF hf jR hl es.toList ks ho w
 have lz:∀bb,(Instr.checkKey bb 10000 p.1 kv).run P w= .ok () w:=λbb=>rV bb 4 p.1 hf 10000 zf xs kv hl jR w
 have fin:∀rA jX,(Instr.mapUpdate t (.map (some b)) kv vv).run P w= .ok () { w with heap:=w.heap.setIfInBounds b (.map rA jX) }->K undef (h.setIfInBounds b (.map rA jX))->oo.upon P a next Q ((execOp a.eval oo).run P w):=by
  intro rA jX hr hk
  have wq:(execOp a.eval (yI op ty)).run P w= .ok .skip { w with heap:=w.heap.setIfInBounds b (.map rA jX) }:=by
   rcases nU with rfl|rfl <;> simp [yI,execOp,ha.ev hx,ha.ev hy,ha.ev hz,hr]
  rw [xj,YP,pv,wq]
  exact hn _ _ (yW.rM sA rfl rfl) (by simp only [hw];exact hk)
 unfold Oper.wp
 cases jV:fE es.toList ks xs 0 with
 | none =>
  rw [jV] at ky
  refine fin _ _ ?_ (kn jV _ rfl)
  simp only [Instr.mapUpdate,Sem.run_bind,run_underlying ef,Result.andThen_ok,MapKept.run_getObj_map sA,lz,ky,MapKept.run_setObj_map _ sA]
 | some q =>
  obtain⟨j,u⟩:=q
  rw [jV] at ky
  obtain⟨⟨e0,Bl,AW⟩,hk⟩:=CI j u jV
  refine fin _ _ ?_ (hk _ rfl)
  have VN:(Instr.keyThatStays kv kv).run P w= .ok kv w:=by
   unfold Instr.keyThatStays
   rw [XL jR];simp
  simp only [Instr.mapUpdate,Sem.run_bind,run_underlying ef,Result.andThen_ok,MapKept.run_getObj_map sA,lz,ky,Bl,Option.map_some,Option.getD_some,AW,VN,MapKept.run_setObj_map _ sA]
instance {op:Op} {b:Nat} {key v:AV}:Sp (Cs Γ c op t x y z ty e o N (.val (.map (some b))) key v) (Lk (jU Γ.tt t) λp=>Ou Γ.P o b λkt kvs f rest=>Ky key λxs=>Rf (kt=p.1) (Kf (ig Γ.P kt xs.length=true) (eo f v λw=>N e (vg Γ.P b kt (td kvs xs w) f :: rest)))):=⟨λ⟨p,hp,β,kt,kvs,f,rest,tk,xs,⟨R5,bG,v',Hg,hn⟩,h2⟩=>⟨λnU ha hb hv hc=>⟨λenv hh G Os cn=>by
 subst R5
 obtain⟨m,g1,rfl⟩:=cn.get ha
 obtain⟨kv,g2,r2⟩:=cn.get hb
 obtain⟨vv,g3,r3⟩:=cn.get hv
 obtain⟨hf,hl,jR⟩:=kb bG h2 r2
 obtain⟨O,yz,yT⟩:=cn.take tk
 obtain⟨⟨ho,es,cl,qg,pT,ko,tV⟩,_⟩:=yT.hp.own
 have xC:=(zA.1 qg).1
 have hlen:es.toList.length=kvs.length:=by have:=pT.len;simpa using this
 have fin:∀rA jX nY h',h'=hh.setIfInBounds b (.map rA jX)->uy Γ.P p.1 rA.toList (nY.map (·.1))->(∀(i:Nat) (en:MapEntry) (q:List Int×β),rA.toList[i]?=some en->nY[i]?=some q->(f q.2).R hh G en.val)->nY=td kvs xs v'->Vw rA.toList jX->CN Γ N env h':=by
  intro rA jX nY h' e1 qe YJ e2 Lj
  subst e1;subst e2
  have hx:uo (λy=>¬O y) hh (hh.setIfInBounds b (.map rA jX)):=⟨by simp,λy hy hl=>by rw [Array.getElem?_setIfInBounds,if_neg (λe9=>hy ((ho y).2 e9.symm))]⟩
  have hg:uo G hh (hh.setIfInBounds b (.map rA jX)):=hx.mono λy hy bD=>(yT.hp.o O zd y bD).2.2 hy
  exact CN.mk (yT.jT (R':=vg Γ.P b p.1 (td kvs xs v') f) (O':=O) hx (λy hy=>⟨by have:=(yT.hp.o O zd y hy).1;simpa using this,.inl hy⟩) ⟨ho,rA,jX,by simp [xC],qe,λi en q h7 h8=>AV.wm _ hg (YJ i en q h7 h8),Lj⟩) hn
 refine .th hc (QR Γ.ok nU hp hf hl jR g1 g2 g3 qg pT (λjV h' he=>?_) (λj u jV=>?_))
 ·rcases ng es.toList kvs xs 0 hlen with⟨_,_,q3⟩|⟨j,en,v,q1,_⟩
  ·refine fin _ _ (kvs ++ [(xs,v')]) h' he ⟨by simp;simpa using hlen,λi en k h7 h8=>?_⟩ (λi en q h7 h8=>?_) (q3 v').symm ⟨λen WW=>?_, ?_⟩
   ·rw [Array.toList_push] at h7
    rw [List.map_append] at h8
    by_cases hi:i < es.toList.length
    ·rw [zI hi] at h7
     rw [zI (by rw [List.length_map,<-hlen];exact hi)] at h8
     exact pT.key i en k h7 h8
    ·rw [zJ z6] at h7
     rw [zJ (by rw [List.length_map];omega),List.length_map,<-hlen] at h8
     obtain⟨m,hm⟩:∃m,i - es.toList.length=m:=⟨_,rfl⟩
     rw [hm] at h7 h8
     cases m with
     | zero=>simp at h7 h8;subst h7;subst h8;exact⟨jR,hl⟩
     | succ m=>simp at h7
   ·rw [Array.toList_push] at h7
    by_cases hi:i < es.toList.length
    ·rw [zI hi] at h7
     rw [zI z6] at h8
     exact ko i en q h7 h8
    ·rw [zJ z6] at h7
     rw [zJ z6,<-hlen] at h8
     obtain⟨m,hm⟩:∃m,i - es.toList.length=m:=⟨_,rfl⟩
     rw [hm] at h7 h8
     cases m with
     | zero=>simp at h7 h8;subst h7;subst h8;rw [Hg];exact r3
     | succ m=>simp at h7
   ·rw [Array.toList_push,zV,zH] at WW
    rcases WW with WW|rfl
    ·have:=tV.1 en WW;omega
    ·exact Nat.lt_succ_self _
   ·rw [Array.toList_push,List.map_append,List.map_cons,List.map_nil]
    refine List.nodup_append.2 ⟨tV.2,by simp,λa ha b hb=>?_⟩
    obtain⟨en,WW,rfl⟩:=List.mem_map.1 ha
    have:=tV.1 en WW
    rw [zH.1 hb]
    exact Nat.ne_of_lt this
  ·rw [jV] at q1;cases q1
 ·rcases ng es.toList kvs xs 0 hlen with⟨q1,_,_⟩|⟨j',en,v,q1,q2,q3,q4,q5⟩
  ·rw [jV] at q1;cases q1
  ·rw [jV] at q1
   simp only [Nat.zero_add,Option.some.injEq,Prod.mk.injEq] at q1
   obtain⟨rfl,_⟩:=q1
   have lL:=(zS.1 q2).1
   refine⟨⟨en,by simpa using q2,P1 (pT.key j en xs q2 (by simp [q3])).1 jR⟩,λh' he=>fin _ _ (kvs.set j (xs,v')) h' he ⟨by simp;simpa using hlen,λi e1 k h7 h8=>?_⟩ (λi e1 q h7 h8=>?_) (q5 v').symm ⟨λe1 h7=>?_, ?_⟩⟩
   ·rw [Array.toList_modify,List.getElem?_modify] at h7
    rw [List.map_set,List.getElem?_set] at h8
    by_cases u5:j=i
    ·subst u5
     rw [if_pos rfl] at h8
     simp only [if_true,q2,Option.map_eq_map,Option.map_some,Option.some.injEq] at h7
     subst h7
     rw [if_pos (by rw [List.length_map];omega)] at h8
     simp only [Option.some.injEq] at h8
     subst h8
     exact⟨jR,hl⟩
    ·rw [if_neg u5] at h8
     simp only [u5,if_false,Option.map_eq_map,Option.map_id'] at h7
     exact pT.key i e1 k (by simpa using h7) h8
   ·rw [Array.toList_modify,List.getElem?_modify] at h7
    rw [List.getElem?_set] at h8
    by_cases u5:j=i
    ·subst u5
     rw [if_pos rfl] at h8
     simp only [if_true,q2,Option.map_eq_map,Option.map_some,Option.some.injEq] at h7
     subst h7
     rw [if_pos z6] at h8
     simp only [Option.some.injEq] at h8
     subst h8
     rw [Hg];exact r3
    ·rw [if_neg u5] at h8
     simp only [u5,if_false,Option.map_eq_map,Option.map_id'] at h7
     exact ko i e1 q (by simpa using h7) h8
   ·obtain⟨i,hi⟩:=zO h7
    rw [Array.toList_modify,List.getElem?_modify] at hi
    obtain⟨e2,Cd,he3⟩:∃e2,es.toList[i]?=some e2/\e1.born=e2.born:=by
     cases Cd:es.toList[i]? with
     | none=>rw [Cd] at hi;simp at hi
     | some e2 =>
      rw [Cd] at hi
      by_cases u5:j=i
      ·simp [u5] at hi;exact⟨e2,rfl,by rw [<-hi]⟩
      ·simp [u5] at hi;exact⟨e2,rfl,by rw [<-hi]⟩
    rw [he3];exact tV.1 e2 (zM Cd)
   ·rw [show((es.modify j λe=>{ e with key:=kv,val:=vv }).toList.map (·.born))=es.toList.map (·.born) from by
     rw [Array.toList_modify]
     refine List.ext_getElem? λi=>?_
     rw [zG,zG,List.getElem?_modify]
     cases es.toList[i]? with
     | none=>rfl
     | some e2=>by_cases u5:j=i <;> simp [u5]]
    exact tV.2⟩⟩⟩
structure Zx (v:Value) (k:AV->Prop):Prop where
 ok:∃a,k a/\∀h G,a.R h G v
theorem Zx.agg{v:Value}{k:AV->Prop}{cs:List Value}{l:List AV}(h:v= .agg cs.toArray)(h1:cs.all Value.oneCell'=true)(hn:LN (cs.map AV.val) l)(hk:k (.agg l)):Zx v k:=⟨.agg l,hk,λ_ _=>by subst h;rw [<-hn.eq];exact⟨cs,rfl,ru cs h1⟩⟩
theorem Zx.b{v:Value}{k:AV->Prop}(h:v= .bool false)(hk:k (.val (.bool false))):Zx v k:=⟨.val (.bool false),hk,λ_ _=>h⟩
theorem Zx.i{v:Value}{k:AV->Prop}(h:v= .int .i64 0)(hk:k (.val (.int .i64 0))):Zx v k:=⟨.val (.int .i64 0),hk,λ_ _=>h⟩
theorem Zx.one{v:Value}{k:AV->Prop}(hk:k (.val v)):Zx v k:=⟨.val v,hk,λ_ _=>rfl⟩
structure HL (Γ:Cx) (c:xa) (d:Tmp) (t:TypeId) (x y:Operand) (ok:Bool) (ty:TypeId) (e:EA) (o:List yh) (N:NA) (m key:AV):Prop where
 h:xr e x=some m->xr e y=some key->wT c=true->SA Γ c (some d) (.lookup t x y ok) ty e o N
instance {ok:Bool}:Sp (SA Γ c (some d) (.lookup t x y ok) ty e o N) (Rf (wT c=true) (Lk (xr e x) λm=>Lk (xr e y) λkey=>HL Γ c d t x y ok ty e o N m key)):=⟨λ⟨hc,_,h1,_,h2,h⟩=>h.h h1 h2 hc⟩
theorem St.l_{γ:Type}[Membership Nat γ]{fp:γ}{P:Program}{tt:Nat->Option TI}{en:Nat->Bool}(Hb:xh P tt en){n:Nat}{env:Env}{h:y7}{N':Env->y7->Prop}{p:Nat×Nat×TI}{b:Nat}{xs:List Int}{kv:Value}{es:Array MapEntry}{cl:Nat}{ks:List (List Int)}(hc:wT c=true)(hp:jU tt t=some p)(hf:vR P 4 p.1=true)(hl:xs.length=P.cellsOf p.1)(jR:FV P p.1 xs kv)
  (hx:ev env x=some (.map (some b))) (hy:ev env y=some kv) (hb:h[b]?=some (.map es cl)) (ho:uy P p.1 es.toList ks) (ok:Bool) (vv:Value) (bb:Bool) (hv:(fE es.toList ks xs 0=none/\vv=p.2.2.zero/\bb=false)∨∃j,fE es.toList ks xs 0=some (j,vv)/\bb=true)
  (gQ:b ∉ fp) (k:N' ((d,if ok then .tuple #[vv,.bool bb] else vv) :: env) h):St P n fp c (some d) (.lookup t x y ok) ty env h N':=by
 refine .Rm hc (v:=if ok then .tuple #[vv,.bool bb] else vv) (λa w ha hw=>?_) k
 obtain⟨ti,t1,t2,t3⟩:=sa hp
 have ef:=(Hb.ok _ _ t1).map t2
 have xC:=(zA.1 hb).1
 have sA:w.heap[b]?=some (.map es cl):=(hw.same b xC gQ).trans hb
 have ky:=mF hf jR hl es.toList ks ho w
 have lz:∀bb,(Instr.checkKey bb 10000 p.1 kv).run P w= .ok () w:=λbb=>rV bb 4 p.1 hf 10000 zf xs kv hl jR w
 have CK:=(Hb.ok _ _ t3).rj w
 rcases hv with⟨h1,rfl,rfl⟩|⟨j,h1,rfl⟩
 ·rw [h1] at ky
  simp only [yI,execOp,ha.ev hx,ha.ev hy,Instr.lookup,Sem.run_bind,run_underlying ef,Result.andThen_ok,MapKept.run_getObj_map sA,Sem.run_pure,lz,ky,CK]
  try(cases ok <;> rfl)
 ·rw [h1] at ky
  simp only [yI,execOp,ha.ev hx,ha.ev hy,Instr.lookup,Sem.run_bind,run_underlying ef,Result.andThen_ok,MapKept.run_getObj_map sA,Sem.run_pure,lz,ky]
  try(cases ok <;> rfl)
theorem Ug{b:Nat}{key:AV}{ok:Bool}{p:Nat×Nat×TI}(hp:jU Γ.tt t=some p){β:Type}{kvs:List (List Int×β)}{f:β->AV}{rest:List yh}(tk:Take o (vg Γ.P b p.1 kvs f) rest){xs:List Int}(bG:ig Γ.P p.1 xs.length=true)(h2:(∃x,xs= [x]/\key= .val (.int .i64 x))∨∃cs,key= .agg cs/\z1u cs xs/\2<=xs.length)(ha:xr e x=some (.val (.map (some b))))(hb:xr e y=some key)(hc:wT c=true)
  (hx:∀v,yG kvs xs=some v->N ((d,if ok then .yE [f v,.val (.bool true)] else f v) :: e) o) (hy:yG kvs xs=none->Zx p.2.2.zero λz=>N ((d,if ok then .yE [z,.val (.bool false)] else z) :: e) o) (gQ:c= .read->∀b,b ∉ Γ.fp):SA Γ c (some d) (.lookup t x y ok) ty e o N:=⟨λenv hh G Os cn=>by
 obtain⟨m,g1,rfl⟩:=cn.get ha
 obtain⟨kv,g2,r2⟩:=cn.get hb
 obtain⟨hf,hl,jR⟩:=kb bG h2 r2
 obtain⟨O,yz,yT⟩:=cn.take tk
 obtain⟨⟨ho,es,cl,qg,pT,ko,_⟩,_⟩:=yT.hp.own
 have hlen:es.toList.length=kvs.length:=by have:=pT.len;simpa using this
 rcases ng es.toList kvs xs 0 hlen with⟨q1,q2,_⟩|⟨j,en,v,q1,q2,q3,q4,_⟩
 ·refine St.qG hc (λhc Zq=>St.l_ Γ.ok hc hp hf hl jR g1 g2 qg pT ok _ false (.inl ⟨q1,rfl,rfl⟩) Zq ?_) (λh=>gQ h _)
  obtain⟨z,SX,V1⟩:=(hy q2).ok
  cases ok with
  | true=>exact CN.mk (cn.put d (a:= .yE [z,.val (.bool false)]) ⟨[_,_],rfl,V1 _ _,rfl,trivial⟩) SX
  | false=>exact CN.mk (cn.put d (a:=z) (V1 _ _)) SX
 ·have hr:=ko j en _ q2 q3
  refine St.qG hc (λhc Zq=>St.l_ Γ.ok hc hp hf hl jR g1 g2 qg pT ok _ true (.inr ⟨_,q1,rfl⟩) Zq ?_) (λh=>gQ h _)
  cases ok with
  | true=>exact CN.mk (cn.put d (a:= .yE [f v,.val (.bool true)]) ⟨[_,_],rfl,hr,rfl,trivial⟩) (hx v q4)
  | false=>exact CN.mk (cn.put d (a:=f v) hr) (hx v q4)⟩
instance {b:Nat} {key:AV}:Sp (HL Γ c d t x y true ty e o N (.val (.map (some b))) key) (ZB Γ.fp c (Lk (jU Γ.tt t) λp=>Ou Γ.P o b λkt kvs f _=>Ky key λxs=>Rf (kt=p.1) (Kf (ig Γ.P kt xs.length=true) (sf (yG kvs xs) (λv=>N ((d,.yE [f v,.val (.bool true)]) :: e) o) (Zx p.2.2.zero λz=>N ((d,.yE [z,.val (.bool false)]) :: e) o))))):=⟨λ⟨gQ,p,hp,β,kt,kvs,f,rest,tk,xs,⟨R5,bG,hn⟩,h2⟩=>⟨λha hb hc=>by
 subst R5
 exact Ug (ok:=true) hp tk bG h2 ha hb hc hn.x hn.y gQ⟩⟩
instance {b:Nat} {key:AV}:Sp (HL Γ c d t x y false ty e o N (.val (.map (some b))) key) (ZB Γ.fp c (Lk (jU Γ.tt t) λp=>Ou Γ.P o b λkt kvs f _=>Ky key λxs=>Rf (kt=p.1) (Kf (ig Γ.P kt xs.length=true) (sf (yG kvs xs) (λv=>N ((d,f v) :: e) o) (Zx p.2.2.zero λz=>N ((d,z) :: e) o))))):=⟨λ⟨gQ,p,hp,β,kt,kvs,f,rest,tk,xs,⟨R5,bG,hn⟩,h2⟩=>⟨λha hb hc=>by
 subst R5
 exact Ug (ok:=false) hp tk bG h2 ha hb hc hn.x hn.y gQ⟩⟩
end
section
variable {Γ:Cx} {k:List KI} {e:EA} {o:List yh} {N:NA} {c:xa} {d:Tmp} {ty:TypeId} {x y z:Operand} {t u:TypeId} {kk:IntKind} {i:Int}
inductive FZ:List yh->List AV->List AV->List yh->Prop where
 | nil {o:List yh}:FZ o [] [] o
 | same {o own:List yh} {a:AV} {l l':List AV}:FZ o l l' own->FZ o (a :: l) (a :: l') own
 | fz {o rest own:List yh} {l l':List AV} {α:Type} {v:Value} {T sz:Nat} {xs:List α} {f:α->List AV}:Take o (yb v T sz xs f) rest->xs.length<=9223372036854775807->FZ rest l l' own->FZ o (.ow v :: l) (.sl sz xs f :: l') own
 | Cp {o rest own:List yh} {l l':List AV} {α β:Type} {v:Value} {T sz:Nat} {xs:List α} {f:α->List AV} {ys:List β} {g:β->List AV}:Take o (yb v T sz xs f) rest->ys.map g=xs.map f->xs.length<=9223372036854775807->FZ rest l l' own->FZ o (.ow v :: l) (.sl sz ys g :: l') own
 | agg {o o1 own:List yh} {cs uq l l':List AV}:FZ o cs uq o1->FZ o1 l l' own->FZ o (.agg cs :: l) (.agg uq :: l') own
theorem FZ.rep{h0:y7}{G0 O0:Nat->Prop}{h:y7}{o own:List yh}{l l':List AV}(x:FZ o l l' own) :∀{G:Nat->Prop} {Os:List (Nat->Prop)} {vs:List Value},yF h0 G0 O0 o h G Os->xb h G vs l->∃G' yz,yF h0 G0 O0 own h G' yz/\xb h G' vs l'/\∀b,G b->G' b:=by
 induction x with
 | nil=>exact λ{G Os vs} c hr=>⟨G,Os,c,hr,λ_ h=>h⟩
 | same _ ih =>
  intro G Os vs c hr
  match vs,hr with
  | v :: vs,⟨r1,r2⟩ =>
   obtain⟨G',yz,h1,h2,h3⟩:=ih c r2
   exact⟨G',yz,h1,⟨AV.mono _ h3 r1,h2⟩,h3⟩
 | fz tk hl _ ih =>
  intro G Os vs c hr
  match vs,hr with
  | v :: vs,⟨⟨r1,_⟩,r2⟩ =>
   subst r1
   obtain⟨O,nO,c2⟩:=c.take tk
   have qy:=c2.own.1
   obtain⟨G',yz,h1,h2,h3⟩:=ih c2.freeze (r2.mono λ_=> .inl)
   exact⟨G',yz,h1,⟨AV.mono _ h3 (wZ qy hl),h2⟩,λb hb=>h3 b (.inl hb)⟩
 | Cp tk he hl _ ih =>
  intro G Os vs c hr
  match vs,hr with
  | v :: vs,⟨⟨r1,_⟩,r2⟩ =>
   subst r1
   obtain⟨O,nO,c2⟩:=c.take tk
   have qy:=c2.own.1
   obtain⟨G',yz,h1,h2,h3⟩:=ih c2.freeze (r2.mono λ_=> .inl)
   exact⟨G',yz,h1,⟨AV.mono _ h3 (AV.fC he (wZ qy hl)),h2⟩,λb hb=>h3 b (.inl hb)⟩
 | agg _ _ Zk ih =>
  intro G Os vs c hr
  match vs,hr with
  | v :: vs,⟨⟨ws,r1,r3⟩,r2⟩ =>
   obtain⟨G1,Os1,h1,h2,h3⟩:=Zk c r3.t
   obtain⟨G2,qi,h4,h5,h6⟩:=ih h1 (r2.mono h3)
   exact⟨G2,qi,h4,⟨⟨ws,r1,h2.mono h6,r3.one⟩,h5⟩,λb hb=>h6 b (h3 b hb)⟩
theorem Cl.fz{f:FuncId}{yM tK:List AV}{o own:List yh}{M:AV->List yh->Prop}(x:FZ o yM tK own)(hc:Cl Γ c f tK own M):Cl Γ c f yM o M:=by
 refine⟨λ{h G Os vs} hp hr=>?_⟩
 obtain⟨G1,Os1,k1,k2,k3⟩:=x.rep hp hr
 refine(hc.ok k1 k2).mono λv h' ⟨g1,r,o',G',yz,g2,g3,g4,g5,g6⟩=>?_
 exact⟨g1,r,o',G',yz,g2,g3,g4,g5.mono k3,λb hb=>g6 b (k3 b hb)⟩
def tI(h:y7)(G:Nat->Prop):List (List Value)->List (List AV)->Prop
 | [],[]=>True
 | v :: vs,c :: cs=>uw h G v c/\tI h G vs cs
 | _,_=>False
theorem tI.of{h:y7}{G:Nat->Prop}{α:Type}{sz:Nat}{f:α->List AV} :∀{rows:List (List Value)} {l:List α},Rows h G sz rows l f->tI h G rows (l.map f)
 | [],[],_=>trivial
 | [],_ :: _,r=>by have:=r.len;simp at this
 | _ :: _,[],r=>by have:=r.len;simp at this
 | v :: vs,x :: l,r=>⟨r.row 0 v x rfl rfl,tI.of (rows:=vs) (l:=l) ⟨by have:=r.len;simpa using this,λi a b h1 h2=>r.row (i+1) a b h1 h2,λa ha=>r.sz a (by simp [ha])⟩⟩
theorem tI.to{h:y7}{G:Nat->Prop}{α:Type}{sz:Nat}{f:α->List AV} :∀{rows:List (List Value)} {l:List α},tI h G rows (l.map f)->(∀r∈rows,r.length=sz)->Rows h G sz rows l f
 | [],[],_,_=>Rows.nil
 | v :: vs,x :: l,r,hs=>by
  have ih:=tI.to (rows:=vs) (l:=l) r.2 λa ha=>hs a (by simp [ha])
  refine⟨by have:=ih.len;simpa using this,λi a b h1 h2=>?_,hs⟩
  cases i with
  | zero=>cases h1;cases h2;exact r.1
  | succ i=>exact ih.row i a b h1 h2
theorem zy.fz{P:Program}{f:FuncId}{yM:List AV}{own:List yh}{α:Type}{T sz:Nat}{l:List α}{g:α->List AV}(hl:l.length<=9223372036854775807)
  (h:zy P f yM own λr o=>∃v,r= .ow v/\o= [yb v T sz l g]):zy P f yM own λq o=>q= .sl sz l g/\o= [] :=
 ⟨λhh G Os vs h1 h2=>(h.run hh G Os vs h1 h2).mono λv' h' ⟨r,o,G',yz,⟨v,e1,e2⟩,g1,g2⟩=>by
  subst e1;subst e2
  have g1:(AV.ow v).R h' G' v':=g1
  match yz,g2.own with
  | O :: [],ho =>
   have c3:=g2.freeze
   refine⟨_,_,_,_,⟨rfl,rfl⟩, ?_,c3⟩
   obtain⟨rfl,_⟩:=g1
   exact wZ ho.1 hl⟩
theorem zy.Gy{P:Program}{f:FuncId}{yM:List AV}{own:List yh}{α:Type}{T sz:Nat}{l:List α}{g:α->List AV}{a:AV}(hl:l.length<=9223372036854775807)
  (h:zy P f yM own λr o=>∃v,r= .yE [.ow v,a]/\o= [yb v T sz l g]):zy P f yM own λq o=>q= .yE [.sl sz l g,a]/\o= [] :=
 ⟨λhh G Os vs h1 h2=>(h.run hh G Os vs h1 h2).mono λv' h' ⟨r,o,G',yz,⟨v,e1,e2⟩,g1,g2⟩=>by
  subst e1;subst e2
  obtain⟨ws,rfl,hw⟩:=g1
  match yz,g2.own with
  | O :: [],ho =>
   have c3:=g2.freeze
   refine⟨_,_,_,_,⟨rfl,rfl⟩, ?_,c3⟩
   match ws,hw with
   | [w1,w2],⟨⟨k1,_⟩,k2,_⟩ =>
    subst k1
    exact⟨_,rfl,wZ ho.1 hl,AV.mono _ (λ_=> .inl) k2,trivial⟩⟩
/-! ### z0L -/
def BJ(tt:Nat->Option TI)(t:Nat):Option (Nat×TI):=match tt t with
 | some ti=>match ti.kind with
  | .array n e=>match tt e with
   | some te=>some (n,te)
   | none=>none
  | _=>none
 | none=>none
theorem Sb{tt:Nat->Option TI}{t:Nat}{p:Nat×TI}(h:BJ tt t=some p) :∃ti e,tt t=some ti/\ti.kind= .array p.1 e/\tt e=some p.2:=by
 unfold BJ at h
 split at h
 ·rename_i ti h1
  split at h
  ·rename_i n e h2
   split at h
   ·rename_i te h3
    cases h
    exact⟨ti,e,h1,h2,h3⟩
   ·cases h
  ·cases h
 ·cases h
instance {b q:Nat}:Sp (tZ Γ c d (.indexAddr t x y) ty e o N x (.val (.pointer (some ⟨b,q,none⟩))) y (.val (.int kk i))) (Lk (BJ Γ.tt t) λp=>Rf ((Nat.blt 0 p.1 && Nat.beq p.2.size 1)=true) (Jx i (p.1 - 1) λj=>N ((d,.val (.pointer (some ⟨b,q+j,none⟩))) :: e) o)):=⟨λ⟨p,hp,hz,j,hi,hj,hn⟩=>SR λenv h G v w h1 Zz h2 eA=>by
 obtain⟨ti,e,t1,t2,t3⟩:=Sb hp
 have h2:v=_:=h2
 have eA:w=_:=eA
 subst h2;subst eA
 simp at hz
 exact⟨_,_,rfl,hn,λ_ hk=>St.cJ Γ.ok t1 t2 t3 hz.2 h1 Zz hi z6 hk⟩⟩
theorem CA.xt{P:Program}{tt:Nat->Option TI}{en:Nat->Bool}{ok:xh P tt en}{T0:Nat->Ord×(Nat->xa)}{m0:Nat}{rs:Array ResultVar}{K:AV->List yh->Prop}{h0:y7}{G0 O0:Nat->Prop}{y':Code}(q:Tmp){b m:Nat}{T:TypeId}{cs:List AV}{rest:List yh}(ht:xd e q=some (.val (.pointer (some ⟨b,m,none⟩))))(tk:Take o (yr b T cs) rest)(h:CA ⟨P,tt,en,ok,T0,m0,rs,K,h0,G0,O0,⟨none⟩⟩ k y' ((q,.ad cs m) :: e) rest):CA ⟨P,tt,en,ok,T0,m0,rs,K,h0,G0,O0,⟨none⟩⟩ k y' e o:=by
 refine⟨λenv hh G Os cn=>?_⟩
 obtain⟨O,yz,yT⟩:=cn.take tk
 obtain⟨ho,vs,hb,hr⟩:=yT.hp.own.1
 have c3:=yT.freeze
 refine h.h env hh _ yz (o7 (σ:=⟨e,rest⟩) c3 q (λw hw=>?_) ht)
 obtain⟨w',g1,g2⟩:=cn.env q _ ht
 have g2:w'=_:=g2
 rw [hw] at g1;cases g1;subst g2
 exact⟨b,0,vs,by rw [Nat.zero_add],.inr ((ho b).2 rfl),hb.lt,hb.z1r,hr.mono λ_=> .inl⟩
end
structure wK {α:Type} (r:Rp α) (f:α->List AV):Prop where
 rep:∀{h F cs a},r.R h F cs a->uw h F cs (f a)
def iC(x:Int):List AV:= [.val (.int .i64 x)]
theorem wK.int:wK (Rp.int .i64) iC:=⟨by rintro _ _ _ _ ⟨rfl,_⟩;exact⟨⟨rfl,trivial⟩,λu hu=>by rw [zH.1 hu];rfl⟩⟩
theorem wK.unit:wK Rp.unit λ_=> []:=⟨λh=>by have h:_=_:=h;subst h;exact⟨trivial,λu hu=>by cases hu⟩⟩
theorem wK.pair{α β:Type}{r:Rp α}{s:Rp β}{f:α->List AV}{g:β->List AV}(hr:wK r f)(hs:wK s g):wK (r.pair s) λx=>f x.1 ++ g x.2 :=
 ⟨by
  rintro _ _ _ _ ⟨c1,c2,rfl,h1,h2⟩
  exact⟨(hr.rep h1).t.app (hs.rep h2).t,λu hu=>(zV.1 hu).elim ((hr.rep h1).one u) ((hs.rep h2).one u)⟩⟩
theorem wK.qd{α β:Type}{r:Rp α}{f:α->List AV}(hr:wK r f)(k:β->α):wK (r.qd k) λx=>f (k x):=⟨λh=>hr.rep h⟩
theorem wK.cast{α:Type}{r:Rp α}{f g:α->List AV}(hr:wK r f)(h:∀a,f a=g a):wK r g:=⟨λx=>h _▸hr.rep x⟩
theorem wK.slice{α:Type}{r:Rp α}{f:α->List AV}(hr:wK r f):wK r.slice λl=> [.sl r.sz l f] :=
 ⟨by
  intro h F cs l YN
  have h1:=r.slice.one YN
  obtain⟨v,rfl,hb,hl,rows,hs,hlen,tN⟩:=YN
  refine⟨⟨⟨hl, ?_⟩,trivial⟩,h1⟩
  rcases hs.ok with⟨p,cap,e1,e2,_⟩|⟨b,o,cap,e1,e2,e3,e4,e5⟩
  ·exact .inl ⟨zQ e2,p,cap,e1⟩
  ·refine .inr ⟨b,o,cap,rows,e1,e2,e3,hb b ?_,e4,e5,hlen,λi row x h2 h3=>hr.rep (tN i row x h2 h3),λrow hm=>?_⟩
   ·subst e1
    obtain⟨m,hm⟩:∃m,l.length=m+1:=⟨l.length - 1,z6⟩
    rw [hm];exact zH.2 rfl
   ·obtain⟨i,hi⟩:=zO hm
    have qf:=(zS.1 hi).1
    exact r.len (tN i row (l[i]' z6) hi (zE _))⟩
theorem yy.str{P:Program}{T:TypeId}{ti:TI}(ht:yy P T ti)(hk:ti.kind= .str):P.underlying T=some .string:=by
 obtain⟨i,d,hi,hd,_,_,_,qe⟩:=ht.ok
 rw [hk] at qe
 cases d <;> simp [kindOf] at qe
 exact hd
section
variable {P:Program} {tt:Nat->Option TI} {en:Nat->Bool} {n:Nat} {γ:Type} [Membership Nat γ] {fp:γ} {c:xa} {d:Tmp} {ty t u:TypeId} {env:Env} {h:y7} {N:Env->y7->Prop} {x y z:Operand} {k1 k2:IntKind}
def yf(s:ByteArray)(j:Nat):Int:=((s[j]?.map λb=>(b.toNat:Int)).getD 0)
theorem St.Ah(G:xh P tt en){ti:TI}{s:ByteArray}(ht:tt t=some ti)(hk:ti.kind= .str)(hx:ev env x=some (.string s))(k:N ((d,.int .i64 (s.size:Int)) :: env) h) :
  St P n fp c (some d) (.call { callee:= .builtin .len,args:=#[x],argTypes:=#[t] }) ty env h N :=
 .xH (v:= .int .i64 (s.size:Int)) (λa w ha=>by
  simp [yI,execOp,resolve,invoke,builtin,ha.ev hx,run_len_string _ _ _ _ ((G.ok _ _ ht).str hk),goInt]) k
theorem St.Iv(G:xh P tt en){ti:TI}{s:ByteArray}{i:Int}{j:Nat}(ht:tt t=some ti)(hk:ti.kind= .str)(hx:ev env x=some (.string s))(hy:ev env y=some (.int k1 i))(hi:i=(j:Int))(hj:j < s.size)(k:N ((d,.int .u8 (yf s j)) :: env) h) :
  St P n fp c (some d) (.index t x y) ty env h N :=
 .xH (v:= .int .u8 (yf s j)) (λa w ha=>by
  subst hi
  have h1:=run_index_string w t s k1 (j:Int) ((G.ok _ _ ht).str hk)
  rw [dif_pos ⟨z6,z6⟩] at h1
  have h2:yf s j=((s[((j:Int)).toNat]' z6).toNat:Int):=by
   unfold yf;rw [ByteArray.getElem?_lt' s j hj];rfl
  rw [h2]
  simp [yI,execOp,ha.ev hx,ha.ev hy,h1]) k
theorem St.Ja(G:xh P tt en){ti:TI}{s:ByteArray}{i i':Int}{j m:Nat}(ht:tt t=some ti)(hk:ti.kind= .str)(hx:ev env x=some (.string s))(hy:ev env y=some (.int k1 i))(hz:ev env z=some (.int k2 i'))(hi:i=(j:Int))(Gk:i'=(m:Int))(SF:j<=m)(hm:m<=s.size)(k:N ((d,.string (s.extract j m)) :: env) h) :
  St P n fp c (some d) (.slice t x (some y) (some z) none) ty env h N :=
 .xH (v:= .string (s.extract j m)) (λa w ha=>by
  subst hi;subst Gk
  have h1:=run_slice_string_if w t s k1 k2 (j:Int) (m:Int) ((G.ok _ _ ht).str hk)
  rw [if_pos ⟨z6,z6⟩,if_pos ⟨z6,z6⟩] at h1
  simp [yI,execOp,ha.ev hx,ha.ev hy,ha.ev hz,run_sliceAt_string _ _ _ _ _ _ ((G.ok _ _ ht).str hk),h1]) k
theorem St.z0f{s q:ByteArray}(hx:ev env x=some (.string s))(hy:ev env y=some (.string q))(k:N ((d,.bool (decide (s.toList=q.toList))) :: env) h):St P n fp c (some d) (.binOp .eql t x y u) ty env h N :=
 .xH (v:= .bool (decide (s.toList=q.toList))) (λa w ha=>by
  have hb:(s.toList == q.toList)=decide (s.toList=q.toList):=by rw [Bool.eq_iff_iff];simp
  simp [yI,execOp,ha.ev hx,ha.ev hy,binOp_string_eql,eqGuard,hb]) k
end
/-! ### Over abstract values -/
section
variable {Γ:Cx} {k:List KI} {e:EA} {o:List yh} {N:NA} {c:xa} {d:Tmp} {ty:TypeId} {x y z:Operand} {t u:TypeId} {kk HU:IntKind} {i i':Int}
instance {s:ByteArray}:Sp (lO Γ c d (.call { callee:= .builtin .len,args:=#[x],argTypes:=#[t] }) ty e o N x (.val (.string s))) (Lk (Γ.tt t) λti=>Rf (ti.kind= .str) (N ((d,.val (.int .i64 (s.size:Int))) :: e) o)):=⟨λ⟨_,h1,h2,hn⟩=>eH (λ_ _=>rfl) hn λ_ _ _ h k=>St.Ah Γ.ok h1 h2 h k⟩
instance:Sp (SA Γ c (some d) (.index t x y) ty e o N) (Lk (xr e x) λa=>Lk (xr e y) λb=>tZ Γ c d (.index t x y) ty e o N x a y b):=⟨λ⟨_,ha,_,hb,h⟩=>h.h ha hb⟩
instance {s:ByteArray}:qt (.val (.string s)):=⟨by rintro h G v rfl;rfl⟩
theorem zy.Cp{P:Program}{f:FuncId}{yM:List AV}{own:List yh}{α β:Type}{T sz:Nat}{l:List α}{g:α->List AV}{ys:List β}{g':β->List AV}(hl:l.length<=9223372036854775807)(he:ys.map g'=l.map g)
  (h:zy P f yM own λr o=>∃v,r= .ow v/\o= [yb v T sz l g]):zy P f yM own λq o=>q= .sl sz ys g'/\o= [] :=
 ⟨λhh G Os vs h1 h2=>((zy.fz hl h).run hh G Os vs h1 h2).mono λ_ _ ⟨_,o,G',yz,⟨e1,e2⟩,g1,g2⟩=>by
  subst e1
  exact⟨_,o,G',yz,⟨rfl,e2⟩,AV.fC he g1,g2⟩⟩
theorem OA.yR{α β:Type}{ops:Array Oper}{q:List Oper}{v:Value}{T sz:Nat}{l:List α}{f:α->List AV}{rest:List yh}(tk:Take o (yb v T sz l f) rest)(m:List β)(g:β->List AV)(he:m.map g=l.map f)(h:OA Γ k ops q e (yb v T sz m g :: rest)):OA Γ k ops q e o:=by
 refine⟨λhd env hh G Os cn=>?_⟩
 obtain⟨O,yz,yT⟩:=cn.take tk
 obtain⟨⟨ho,rows,hw,hr⟩,xq⟩:=yT.hp.own
 have hlen:m.length=l.length:=by have:=congrArg List.length he;simpa using this
 exact h.h hd env hh G (O :: yz) ⟨yT.hp.perm ⟨⟨ho,rows,by rw [hlen];exact hw,hr.map he⟩,xq⟩ (List.Perm.refl _),cn.env,cn.nf⟩
structure Sx (i:Int) (n:Nat) (M:Nat->Prop):Prop where
 ok:∃j:Nat,i=(j:Int)/\j < n/\M j
theorem Sx.r{i:Int}{n:Nat}{M:Nat->Prop}{j:Nat}(h:i=(j:Int))(hl:j < n)(hm:M j):Sx i n M:=⟨j,h,hl,hm⟩
instance {s:ByteArray}:Sp (tZ Γ c d (.index t x y) ty e o N x (.val (.string s)) y (.val (.int kk i))) (Lk (Γ.tt t) λti=>Rf (ti.kind= .str) (Sx i s.size λj=>N ((d,.val (.int .u8 (yf s j))) :: e) o)) :=
 ⟨λ⟨_,h1,h2,_,hi,hj,hn⟩=>uT hn λ_ _ _ h h' k=>St.Iv Γ.ok h1 h2 h h' hi hj k⟩
instance {s q:ByteArray}:Sp (tZ Γ c d (.binOp .eql t x y u) ty e o N x (.val (.string s)) y (.val (.string q))) (N ((d,.val (.bool (decide (s.toList=q.toList)))) :: e) o):=⟨λhn=>uT hn λ_ _ _ h h' k=>St.z0f h h' k⟩
instance {s:ByteArray} {lo hi:Operand}:Sp (Ow Γ c d t x (some lo) (some hi) ty e o N (.val (.string s))) (Lk (Γ.tt t) λti=>Rf (ti.kind= .str) (Oy e (some lo) (some hi) s.size λa b=>N ((d,.val (.string (s.extract a b))) :: e) o)) :=
 ⟨λ⟨_,h1,h2,a,b,h3,h4,hn,⟨_,_,g1,g2⟩,⟨_,_,g3,g4⟩⟩=>⟨λha=>⟨λenv hh G Os cn=>by
  obtain⟨v,k1,k2⟩:=cn.get ha
  have k2:v=_:=k2
  subst k2
  obtain⟨v,k3,k4⟩:=cn.get g1
  have k4:v=_:=k4
  subst k4
  obtain⟨v,k5,k6⟩:=cn.get g3
  have k6:v=_:=k6
  subst k6
  exact St.Ja Γ.ok h1 h2 k1 k3 k5 g2 g4 h3 h4 (CN.mk (cn.put d (a:= .val (.string (s.extract a b))) rfl) hn)⟩⟩⟩
end
section
variable {P:Program} {tt:Nat->Option TI} {en:Nat->Bool} {n:Nat} {γ:Type} [Membership Nat γ] {fp:γ} {c:xa} {d:Tmp} {ty t u:TypeId} {env:Env} {h:y7} {N:Env->y7->Prop} {x y z:Operand} {k1 k2:IntKind}
theorem XN(w:World)(dT sT ty elem:TypeId){i:TypeInfo}(g o bV Lx:Nat)(a:Addr)(tA pW:Nat)(cur:Array Value)(t:TypeId)(cs:List Value)
  (hu:P.underlying dT=some (.slice elem)) (hi:P.info? elem=some i) (hg:w.heap[g]?=some (.cells cur t (0,0))) (hn:cs.length=Nat.min tA bV * i.size)
  (kG:∀j v,cs[j]?=some v->w.cell? (a.add j)=some v) (kH:o+cs.length<=cur.size) (h1:∀v∈cs,v.oneCell'=true) :
  (Builtin.copy_ #[dT,sT] ty #[.slice (some ⟨g,o,none⟩) bV Lx,.slice (some a) tA pW]).run P w =
   .ok (goInt (Nat.min tA bV:Nat)) (w.setRow g (cur.toList.take o ++ cs ++ cur.toList.drop (o+cs.length)).toArray):=by
 have yL:=run_storeCells_at P g o t cs 0 cur w hg (by simpa using kH) h1
 have hf:=run_firstCells_some (P:=P) w i.size (Nat.min tA bV) a tA pW cs hn kG
 simp only [Nat.add_zero] at yL
 simp [Builtin.copy_,run_underlying hu,Builtin.lenOf,sizeOf,typeInfo,hi,hf,yL]
theorem h_(w:World)(dT sT ty elem:TypeId){i:TypeInfo}(p q:Option Addr)(bV Lx tA pW:Nat)(hu:P.underlying dT=some (.slice elem))(hi:P.info? elem=some i)(hn:Nat.min tA bV=0) :
  (Builtin.copy_ #[dT,sT] ty #[.slice p bV Lx,.slice q tA pW]).run P w= .ok (goInt (0:Nat)) w:=by
 have hl:∀(a:Addr),(Builtin.firstCells i.size 0 (.slice (some a) tA pW)).run P w= .ok #[] w:=λa=>by
  have:=run_firstCells_some (P:=P) w i.size 0 a tA pW [] zd zd
  simpa using this
 have hs:∀(a:Addr),(storeCells a []).run P w= .ok () w:=λa=>by simp [storeCells]
 cases p <;> cases q <;> simp [Builtin.copy_,run_underlying hu,Builtin.lenOf,sizeOf,typeInfo,hi,hn,hl,hs,run_firstCells_none]
theorem k9(G:xh P tt en){ti te:TI}{e b o dl dc m:Nat}{l news:List Value}{xv:Value}{K:Value->y7->Prop}(ht:tt t=some ti)(hk:ti.kind= .slice e)(oL:tt e=some te)
  (hx:ev env x=some (.slice (some ⟨b,o,none⟩) dl dc)) (hy:ev env y=some xv) (hb:lN h b e l) (hs:Sl h xv m news) (hm:news.length=m * te.size) (h1:∀v∈news.take (min m dl * te.size),v.oneCell'=true) (kH:o+min m dl * te.size<=l.length)
  (k:∀h',h'.size=h.size->ej h b e (l.take o ++ news.take (min m dl * te.size) ++ l.drop (o+min m dl * te.size)) h'->K (.int .i64 (min m dl:Nat)) h'):Ld P n (.call { callee:= .builtin .copy,args:=#[x,y],argTypes:=#[t,u] }) ty env h K:=by
 intro a w oo next Q ha hw nU pv hn
 obtain⟨i,dd,hi,hd,nV,pU,Hv,_⟩:=(G.ok _ _ oL).ok
 have hu:=(G.ok _ _ ht).slice hk
 unfold Oper.wp
 have fin:∀w',(Builtin.copy_ #[t,u] ty #[.slice (some ⟨b,o,none⟩) dl dc,xv]).run P w= .ok (goInt (min m dl:Nat)) w'->yW w w'->w'.heap.size=h.size->ej h b e (l.take o ++ news.take (min m dl * te.size) ++ l.drop (o+min m dl * te.size)) w'.heap->oo.upon P a next Q ((execOp a.eval oo).run P w):=by
  intro w' hr tV u4 mM
  have wq:(execOp a.eval (yI (.call { callee:= .builtin .copy,args:=#[x,y],argTypes:=#[t,u] }) ty)).run P w= .ok (.value (goInt (min m dl:Nat))) w':=by
   simp [yI,execOp,resolve,invoke,builtin,ha.ev hx,ha.ev hy,hr]
  rw [xj,nU,pv,wq]
  exact hn _ w' tV (k w'.heap u4 mM)
 have zero:min m dl=0->oo.upon P a next Q ((execOp a.eval oo).run P w):=λh0=>by
  obtain⟨q,qc,rfl⟩:=hs.shape
  have hr:=h_ (P:=P) w t u ty e (some ⟨b,o,none⟩) q dl dc m qc hu hi h0
  rw [<-show min m dl=0 from h0] at hr
  refine fin w hr (yW.refl w) (by rw [hw]) ?_
  rw [h0,Nat.zero_mul,List.take_zero,List.append_nil,Nat.add_zero,List.take_append_drop,hw]
  refine⟨hb.lt, ?_⟩
  obtain⟨xC,Rv⟩:=zA.1 hb.get
  apply Array.ext
  ·simp
  ·intro q h1 h2
   rw [Array.getElem_setIfInBounds]
   split
   ·rename_i hq;subst hq;exact Rv
   ·rfl
 rcases hs.ok with⟨p,cap,rfl,h2,h3⟩|⟨b',o',cap,rfl,sR,oP,_,hc⟩
 ·exact zero zk
 ·rcases Nat.eq_zero_or_pos (min m dl) with h0|h0
  ·exact zero h0
  ·have hg:w.heap[b]?=some (.cells l.toArray e (0,0)):=hb.heap hw
   have Ln:min m dl * te.size<=m * te.size:=zU _ (Nat.min_le_left _ _)
   have hlen:(news.take (min m dl * te.size)).length=min m dl * te.size:=by rw [zN];omega
   have hr:=XN (P:=P) w t u ty e (i:=i) b o dl dc ⟨b',o',none⟩ m cap l.toArray e (news.take (min m dl * te.size)) hu hi hg (by rw [hlen,nV])
    (λj v hv=>by
     rw [List.getElem?_take] at hv
     split at hv
     ·exact(hc.get j v hv).get w hw
     ·cases hv) (by rw [hlen];simpa using kH) h1
   refine fin _ hr (yW.rM hg rfl (World.xF hg)) (by simp [World.xF hg,hw]) ⟨hb.lt, ?_⟩
   rw [World.xF hg,hw,hlen]
theorem St.cap(G:xh P tt en){ti:TI}{e len cap:Nat}{p:Option Addr}(ht:tt t=some ti)(hk:ti.kind= .slice e)(hx:ev env x=some (.slice p len cap))(k:N ((d,.int .i64 (cap:Nat)) :: env) h) :
  St P n fp c (some d) (.call { callee:= .builtin .cap,args:=#[x],argTypes:=#[t] }) ty env h N :=
 .xH (v:= .int .i64 (cap:Nat)) (λa w ha=>by
  have hu:=(G.ok _ _ ht).slice hk
  simp [yI,execOp,resolve,invoke,builtin,ha.ev hx,Builtin.cap_,run_underlying hu,goInt]) k
end
/-! ### DC in parts -/
theorem xX{α:Type}{sz:Nat} :∀(rows:List (List α)) (a:Nat),(∀r∈rows,r.length=sz)->(rows.take a).flatten=rows.flatten.take (a * sz)
 | [],a,_=>by simp
 | r :: rs,0,_=>by simp
 | r :: rs,a+1,h=>by
  have h1:=h r zd
  have h2:(a+1) * sz=sz+a * sz:=by rw [Nat.add_mul];omega
  rw [List.take_succ_cons,List.flatten_cons,List.flatten_cons,xX rs a λq hq=>h q (by simp [hq]),List.take_append,h2,List.take_of_length_le (l:=r) z6,h1,Nat.add_sub_cancel_left]
theorem pq{α:Type}{sz:Nat} :∀(rows:List (List α)) (a:Nat),(∀r∈rows,r.length=sz)->(rows.drop a).flatten=rows.flatten.drop (a * sz)
 | [],a,_=>by simp
 | r :: rs,0,_=>by simp
 | r :: rs,a+1,h=>by
  have h1:=h r zd
  have h2:(a+1) * sz=sz+a * sz:=by rw [Nat.add_mul];omega
  rw [List.drop_succ_cons,List.flatten_cons,pq rs a λq hq=>h q (by simp [hq]),List.drop_append,h2,List.drop_of_length_le (l:=r) z6,h1,Nat.add_sub_cancel_left,List.nil_append]
theorem XR{α:Type}{l X:List α}{of a k:Nat}(hx:a+X.length<=k)(hk:of+k<=l.length):((l.take (of+a) ++ X ++ l.drop (of+a+X.length)).drop of).take k=((l.drop of).take k).take a ++ X ++ ((l.drop of).take k).drop (a+X.length):=by
 apply List.ext_getElem?
 intro q
 simp only [List.getElem?_append,List.getElem?_take,List.getElem?_drop,zP,zN,List.length_drop]
 by_cases h1:q < k
 ·by_cases h2:q < a
  ·simp [h1,h2,show of+q < of+a by omega,show of+q < l.length by omega,show min a (min k (l.length - of))=a by omega,show min (of+a) l.length=of+a by omega,show q < a+X.length by omega]
   intros;omega
  ·by_cases h3:q < a+X.length
   ·simp [h1,h2,h3,show¬of+q < of+a by omega,show min a (min k (l.length - of))=a by omega,show min (of+a) l.length=of+a by omega,show of+q - (of+a)=q - a by omega]
    intros;omega
   ·simp [h1,h3,show min a (min k (l.length - of))=a by omega,show min (of+a) l.length=of+a by omega,show¬of+q < of+a+X.length by omega,show of+a+X.length+(of+q - (of+a+X.length))=of+(a+X.length+(q - (a+X.length))) by omega]
    omega
 ·simp [h1,show min a (min k (l.length - of))=a by omega,show¬q < a+X.length by omega]
  omega
end Go.CF
