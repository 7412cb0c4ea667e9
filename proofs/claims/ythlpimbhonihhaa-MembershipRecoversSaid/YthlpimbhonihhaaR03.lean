/- Part 3 of the ground of this proof: what its texts say of the model, the program and the plain data; conditions: those that are named. -/
import Derived.Laws.ResultCell
import Derived.Laws.StructEq
import Derived.Laws.Strings
import Derived.Laws.DeepStrings4
import Derived.Test.YthlpimbhonihhaaProg
import Derived.KernelRfl
import Derived.Test.YthlpimbhonihhaaR02
set_option maxRecDepth 100000
set_option maxHeartbeats 80000000
namespace Go.CF
open Go
section
variable {Γ:Cx} {k:List KI} {e:EA} {o:List Res} {N:NA} {c:Cls} {d:Tmp} {ty:TypeId} {x y z:Operand} {t u:TypeId} {kk:IntKind} {i:Int}

/-! ### Parts of slices -/
structure Bds (e:EA) (lo hi:Option Operand) (n:Nat) (M:Nat→Nat→Prop):Prop where
 ok:∃l m,l≤m∧m≤n∧M l m∧(match lo with|none=>l=0|some q=>∃kk i,evA e q=some (.val (.int kk i))∧i=(l:Int))∧(match hi with|none=>m=n|some q=>∃kk i,evA e q=some (.val (.int kk i))∧i=(m:Int))
structure Nb (a:AV) (M:Int→Prop):Prop where
 ok:∃kk i,a= .val (.int kk i)∧M i
instance {kk:IntKind} {i:Int} {M:Int→Prop} : Sp (Nb (.val (.int kk i)) M) (M i):=⟨fun h=>⟨kk,i,rfl,h⟩⟩
instance {n:Nat} {M:Nat→Nat→Prop} {q:Operand} : Sp (Bds e (some q) none n M) (Lk (evA e q) fun a=>Nb a fun i=>Jx i n fun j=>M j n):=⟨fun⟨_,ha,kk,i,hk,j,h1,h2,h3⟩=>⟨j,n,h2,Nat.le_refl _,h3,⟨kk,i,hk▸ha,h1⟩,rfl⟩⟩
instance {n:Nat} {M:Nat→Nat→Prop} {q:Operand} : Sp (Bds e none (some q) n M) (Lk (evA e q) fun a=>Nb a fun i=>Jx i n fun j=>M 0 j):=⟨fun⟨_,ha,kk,i,hk,j,h1,h2,h3⟩=>⟨0,j,zZ _,h2,h3,rfl,⟨kk,i,hk▸ha,h1⟩⟩⟩
instance {n:Nat} {M:Nat→Nat→Prop} {q r:Operand} : Sp (Bds e (some q) (some r) n M) (Lk (evA e q) fun a=>Nb a fun i=>Lk (evA e r) fun b=>Nb b fun i'=>Jx i' n fun m=>Jx i m fun j=>M j m):=⟨fun⟨_,ha,kk,i,hk,_,hb,kk',i',hk',m,h1,h2,j,h3,h4,h5⟩=>⟨j,m,h4,h2,h5,⟨kk,i,hk▸ha,h3⟩,⟨kk',i',hk'▸hb,h1⟩⟩⟩
structure Slp (Γ:Cx) (c:Cls) (d:Tmp) (t:TypeId) (x:Operand) (lo hi:Option Operand) (ty:TypeId) (e:EA) (o:List Res) (N:NA) (a:AV):Prop where
 h:evA e x=some a→SA Γ c (some d) (.slice t x lo hi none) ty e o N
instance {lo hi:Option Operand} : Sp (SA Γ c (some d) (.slice t x lo hi none) ty e o N) (Lk (evA e x) fun a=>Slp Γ c d t x lo hi ty e o N a):=⟨fun⟨_,ha,h⟩=>h.h ha⟩
theorem slice_at{lo hi:Option Operand}{env:Env}{h:Heap}{G:Nat→Prop}{Os:List (Nat→Prop)}(cn:Con Γ ⟨e,o⟩ env h G Os){p:Nat×TI}(hp:slE Γ.tt t=some p){q:Option Addr}{len cap l m:Nat}(h1:ev env x=some (.slice q len cap))(hlm:l≤m)(hmn:m≤len)(hcap:len≤cap)
  (hlo:match lo with|none=>l=0|some q=>∃kk i,evA e q=some (.val (.int kk i))∧i=(l:Int)) (hhi:match hi with|none=>m=len|some q=>∃kk i,evA e q=some (.val (.int kk i))∧i=(m:Int)) {N':Env→Heap→Prop} (hn:N' ((d, .slice (subA q p.2.size l cap) (m - l) (cap - l)) :: env) h) :
  lo≠none∨hi≠none→St Γ.P Γ.n Γ.fp c (some d) (.slice t x lo hi none) ty env h N':=by
 intro hne
 obtain⟨ti,t1,t2,t3⟩:=slE_spec hp
 match lo,hi with
 | none,none=>simp at hne
 | some a,none =>
  obtain⟨kk,i,g1,g2⟩:=hlo
  obtain⟨v,g3,g4⟩:=cn.get g1
  have g4:v= .int kk i:=g4
  subst g4
  simp only at hhi
  subst hhi
  exact St.sliceL Γ.ok t1 t2 t3 h1 g3 g2 hlm hn
 | none,some b =>
  obtain⟨kk,i,g1,g2⟩:=hhi
  obtain⟨v,g3,g4⟩:=cn.get g1
  have g4:v= .int kk i:=g4
  subst g4
  simp only at hlo
  subst hlo
  exact St.sliceH Γ.ok t1 t2 t3 h1 g3 g2 (by omega) hn
 | some a,some b =>
  obtain⟨kk,i,g1,g2⟩:=hlo
  obtain⟨v,g3,g4⟩:=cn.get g1
  have g4:v= .int kk i:=g4
  subst g4
  obtain⟨kk',i',g5,g6⟩:=hhi
  obtain⟨v,g7,g8⟩:=cn.get g5
  have g8:v= .int kk' i':=g8
  subst g8
  exact St.sliceLH Γ.ok t1 t2 t3 h1 g3 g7 g2 g6 hlm (by omega) hn
instance {lo hi:Option Operand} {α:Type} {sz:Nat} {l:List α} {f:α→List AV} : Sp (Slp Γ c d t x lo hi ty e o N (.sl sz l f)) (Rf ((lo.isSome || hi.isSome)=true) (Lk (slE Γ.tt t) fun p=>Rf (p.2.size=sz) (Bds e lo hi l.length fun a b=>N ((d, .sl sz ((l.drop a).take (b - a)) f) :: e) o))):=⟨fun⟨hne,p,hp,hz,a,b,h1,h2,hn,h3,h4⟩=>⟨fun ha=>⟨fun env hh G Os cn=>by
 obtain⟨v,g1,g2⟩:=cn.get ha
 have hlen:((l.drop a).take (b - a)).length=b - a:=by simp;omega
 have hnn:lo≠none∨hi≠none:=by cases lo <;> cases hi <;> simp at hne ⊢
 obtain⟨hm,⟨rfl,q,cap,rfl⟩|⟨bk,of,cap,rows,rfl,k1,k2,k3,k4,k5,k6⟩⟩:=g2
 ·have hb0:b=0:=by simpa using h2
  have ha0:a=0:=by omega
  subst hb0;subst ha0
  exact slice_at cn hp g1 (l:=0) (m:=0) (Nat.le_refl _) (Nat.le_refl _) (zZ _) h3 h4 (CN.mk (cn.put d (a:= .sl sz (([]:List α).drop 0 |>.take (0 - 0)) f) ⟨by simp, .inl ⟨by simp,_,_,rfl⟩⟩) hn) hnn
 ·refine slice_at cn hp g1 h1 h2 k2 h3 h4 (CN.mk (cn.put d (a:= .sl sz ((l.drop a).take (b - a)) f) ⟨by omega, ?_⟩) hn) hnn
  rcases Nat.eq_or_lt_of_le h1 with h9|h9
  ·refine .inl ⟨zQ (by omega), ?_⟩
   subst h9
   exact⟨_,_,by rw [Nat.sub_self]⟩
  ·refine .inr ⟨bk,of+a * sz,cap - a,(rows.drop a).take (b - a), ?_,by omega,by omega,k3,k4, ?_,(k6.drop a).take (b - a)⟩
   ·rw [hlen]
    unfold subA
    rw [if_neg (by omega),hz]
    simp [Addr.add]
   ·have hsz:=k6.sz
    have e1:(rows.drop a).flatten=rows.flatten.drop (a * sz):=by
     have e2:rows.flatten=(rows.take a).flatten ++ (rows.drop a).flatten:=by rw [←List.flatten_append,List.take_append_drop]
     have e3:(rows.take a).flatten.length=a * sz:=by rw [flat_len _ (fun r hr=>hsz r (zW hr)),zN,k6.len];congr 1 <;> omega
     rw [e2,←e3,List.drop_left]
    have e4:((rows.drop a).take (b - a)).flatten=(rows.flatten.drop (a * sz)).take ((b - a) * sz):=by
     have e2:(rows.drop a).flatten=((rows.drop a).take (b - a)).flatten ++ ((rows.drop a).drop (b - a)).flatten:=by rw [←List.flatten_append,List.take_append_drop]
     have e3:((rows.drop a).take (b - a)).flatten.length=(b - a) * sz:=by rw [flat_len _ (fun r hr=>hsz r (List.mem_of_mem_drop (zW hr))),zN,List.length_drop,k6.len];congr 1 <;> omega
     rw [←e1,e2,←e3,List.take_left]
    rw [e4]
    refine⟨fun j v hv=>?_⟩
    rw [List.getElem?_take] at hv
    split at hv
    ·rw [List.getElem?_drop] at hv
     have:=k5.cell hv
     rw [addr_add,show of+a * sz+j=of+(a * sz+j) by omega]
     exact this
    ·cases hv⟩⟩⟩
instance {lo hi:Option Operand} {v:Value} : Sp (Slp Γ c d t x lo hi ty e o N (.ow v)) (Rf ((lo.isSome || hi.isSome)=true) (Lk (slE Γ.tt t) fun p=>TkA o v fun _ sz l _ _=>Rf (p.2.size=sz) (Bds e lo hi l.length fun a b=>N ((d, .os v sz a (b - a)) :: e) o))):=⟨fun⟨hne,p,hp,α,T,sz,l,f,rest,tk,hz,a,b,h1,h2,hn,h3,h4⟩=>⟨fun ha=>⟨fun env hh G Os cn=>by
 obtain⟨w,g1,rfl,q,len,cap,rfl⟩:=cn.get ha
 obtain⟨O,Os',cn2⟩:=cn.take tk
 obtain⟨⟨_,rows,hw,_⟩,_⟩:=cn2.hp.own
 have hnn:lo≠none∨hi≠none:=by cases lo <;> cases hi <;> simp at hne ⊢
 have hlc:len=l.length∧l.length≤cap:=by
  rcases hw.ok with⟨e1,e2⟩|⟨b',of,cap',L,e1,_,_,e2,_⟩
  ·cases e1;omega
  ·cases e1;exact⟨rfl,e2⟩
 obtain⟨rfl,hlc⟩:=hlc
 exact slice_at cn hp g1 h1 h2 hlc h3 h4 (CN.mk (cn.put d (a:= .os _ sz a (b - a)) ⟨q,_,cap,rfl,by omega,by rw [hz]⟩) hn) hnn⟩⟩⟩

/-! ### append -/
structure Mp {α β:Type} (m:List β) (g:β→List AV) (f:α→List AV) (M:List α→Prop):Prop where
 ok:∃l,l.map f=m.map g∧M l
theorem Mp.same{α:Type}{m:List α}{f:α→List AV}{M:List α→Prop}(h:M m) : Mp m f f M:=⟨m,rfl,h⟩
inductive MpL {α β:Type} (g:β→List AV) (f:α→List AV):List β→List α→Prop where
 | nil:MpL g f [] []
 | cons {b:β} {a:α} {m:List β} {l:List α} : f a=g b→MpL g f m l→MpL g f (b :: m) (a :: l)
theorem MpL.inv{α β:Type}{g:β→List AV}{f:α→List AV}{b:β}{cs:List AV}{a:α}{m:List β}{l:List α}(hl:LN (g b) cs)(hi:Inv f cs a)(h:MpL g f m l) : MpL g f (b :: m) (a :: l):= .cons (hi.eq.trans hl.eq.symm) h
theorem MpL.eq{α β:Type}{g:β→List AV}{f:α→List AV} :∀{m:List β} {l:List α},MpL g f m l→l.map f=m.map g
 | _,_, .nil=>rfl
 | _,_, .cons h1 h2=>by rw [List.map_cons,List.map_cons,h1,h2.eq]
theorem Mp.lit{α β:Type}{m:List β}{g:β→List AV}{f:α→List AV}{M:List α→Prop}{l:List α}(h:MpL g f m l)(hk:M l) : Mp m g f M:=⟨l,h.eq,hk⟩
theorem Rows.map{α β:Type}{h:Heap}{G:Nat→Prop}{sz:Nat}{rows:List (List Value)}{m:List β}{g:β→List AV}{l:List α}{f:α→List AV}(r:Rows h G sz rows m g)(he:l.map f=m.map g) : Rows h G sz rows l f:=by
 have hl:l.length=m.length:=by have:=congrArg List.length he;simpa using this
 refine⟨by rw [r.len,hl],fun i row a h1 h2=>?_,r.sz⟩
 have hlt:=(zS.1 h2).1
 obtain⟨b,hb⟩:∃b,m[i]?=some b:=⟨_,zE (by omega)⟩
 have h3:=congrArg (fun q=>q[i]?) he
 simp only [zG,h2,hb,Option.map_some,Option.some.injEq] at h3
 rw [h3]
 exact r.row i row b h1 hb
structure Src (o:List Res) (a:AV) (sz:Nat) (M:∀{β:Type},List β→(β→List AV)→Prop):Prop where
 ok:∃(β:Type) (m:List β) (g:β→List AV),M m g∧∀{h0:Heap} {G0 O0:Nat→Prop} {h:Heap} {G:Nat→Prop} {Os:List (Nat→Prop)} {v:Value},HpOK h0 G0 O0 o h G Os→a.R h G v→∃rows,Sl h v m.length rows.flatten∧Rows h G sz rows m g
instance {α:Type} {sz sz':Nat} {l:List α} {f:α→List AV} {M:∀{β:Type},List β→(β→List AV)→Prop} : Sp (Src o (.sl sz l f) sz' M) (Rf (sz=sz') (M l f)):=⟨fun⟨hz,h⟩=>⟨α,l,f,h,fun _ hr=>by
 subst hz
 obtain⟨rows,h1,h2,_⟩:=AV.sl_stp hr
 exact⟨rows,h1,h2⟩⟩⟩
instance {v:Value} {sz:Nat} {M:∀{β:Type},List β→(β→List AV)→Prop} : Sp (Src o (.ow v) sz M) (TkA o v fun _ s l f _=>Rf (s=sz) (M l f)):=⟨fun⟨α,T,s,l,f,rest,tk,hs,hn⟩=>⟨α,l,f,hn,by
 subst hs
 rintro h0 G0 O0 h G Os u c ⟨rfl,_⟩
 obtain⟨O,Os',c2⟩:=c.take tk
 obtain⟨⟨_,rows,hw,hrr⟩,_⟩:=c2.own
 exact⟨rows,hw.sl,hrr⟩⟩⟩
instance {v:Value} {s j m sz:Nat} {M:∀{β:Type},List β→(β→List AV)→Prop} : Sp (Src o (.os v s j m) sz M) (TkA o v fun _ s' l f _=>Rf (s=sz∧s'=sz) (M ((l.drop j).take m) f)):=⟨fun⟨α,T,s',l,f,rest,tk,⟨hs,hs'⟩,hn⟩=>⟨α,_,f,hn,by
 subst hs;subst hs'
 rintro h0 G0 O0 h G Os u c ⟨p,len,cap,rfl,hjm,rfl⟩
 obtain⟨O,Os',c2⟩:=c.take tk
 obtain⟨⟨_,rows,hw,hrr⟩,_⟩:=c2.own
 have hsz:=hrr.sz
 have hlen:len=l.length:=by
  rcases hw.ok with⟨e1,e2⟩|⟨b',of,cap',L,e1,_,_,_,_⟩
  ·cases e1;omega
  ·cases e1;rfl
 subst hlen
 have hml:((l.drop j).take m).length=m:=by simp;omega
 refine⟨(rows.drop j).take m, ?_,(hrr.drop j).take m⟩
 rw [hml]
 rcases Nat.eq_zero_or_pos m with rfl|hm
 ·exact⟨.inl ⟨_,_,rfl,rfl,by simp⟩⟩
 ·rcases hw.sl.ok with⟨p',cap',e1,e2,_⟩|⟨b,of,cap',e1,_,e2,e3,hc⟩
  ·omega
  ·cases e1
   refine⟨.inr ⟨b,of+j * s',cap - j, ?_,hm,by omega,e3, ?_⟩⟩
   ·unfold subA
    rw [if_neg (by omega)]
    simp [Addr.add]
   ·have e1:(rows.drop j).flatten=rows.flatten.drop (j * s'):=by
     have e2:rows.flatten=(rows.take j).flatten ++ (rows.drop j).flatten:=by rw [←List.flatten_append,List.take_append_drop]
     have e3:(rows.take j).flatten.length=j * s':=by rw [flat_len _ (fun r hr=>hsz r (zW hr)),zN,hrr.len];congr 1 <;> omega
     rw [e2,←e3,List.drop_left]
    have e4:((rows.drop j).take m).flatten=(rows.flatten.drop (j * s')).take (m * s'):=by
     have e2:(rows.drop j).flatten=((rows.drop j).take m).flatten ++ ((rows.drop j).drop m).flatten:=by rw [←List.flatten_append,List.take_append_drop]
     have e3:((rows.drop j).take m).flatten.length=m * s':=by rw [flat_len _ (fun r hr=>hsz r (List.mem_of_mem_drop (zW hr))),zN,List.length_drop,hrr.len];congr 1 <;> omega
     rw [←e1,e2,←e3,List.take_left]
    rw [e4]
    refine⟨fun q v hv=>?_⟩
    rw [List.getElem?_take] at hv
    split at hv
    ·rw [List.getElem?_drop] at hv
     have:=hc.cell hv
     rw [addr_add,show of+j * s'+q=of+(j * s'+q) by omega]
     exact this
    ·cases hv⟩⟩
structure Tgt {β:Type} (o:List Res) (a:AV) (p:Nat×TI) (g:β→List AV) (M:∀{α:Type},List α→(α→List AV)→List Res→Prop):Prop where
 ok:∃(α:Type) (l:List α) (f:α→List AV) (rest:List Res),M l f rest∧∀{h0:Heap} {G0 O0:Nat→Prop} {h:Heap} {G:Nat→Prop} {Os:List (Nat→Prop)} {w:Value},HpOK h0 G0 O0 o h G Os→a.R h G w→∃O Os',HpOK h0 G0 O0 (arrR w p.1 p.2.size l f :: rest) h G (O :: Os')
theorem HpOK.nilA{h0:Heap}{G0 O0:Nat→Prop}{h:Heap}{G:Nat→Prop}{Os:List (Nat→Prop)}(c:HpOK h0 G0 O0 o h G Os){α:Type}(T sz:Nat)(f:α→List AV) : HpOK h0 G0 O0 (arrR (.slice none 0 0) T sz [] f :: o) h G ((fun _=>False) :: Os) :=
 ⟨⟨⟨fun x=>by simp [blkOf],[],Own.nil,Rows.nil⟩,c.own⟩,c.g,c.g0,fun O hO b hb=>by
   rcases List.mem_cons.1 hO with rfl|hO
   ·exact hb.elim
   ·exact c.o O hO b hb,List.pairwise_cons.2 ⟨fun _ _ _ h=>h.elim,c.d⟩,c.fp⟩
structure Ce (p X Y:Prop):Prop where
 ok:(p∧X)∨Y
theorem Ce.l{p X Y:Prop}(h:p)(x:X) : Ce p X Y:=⟨.inl ⟨h,x⟩⟩
theorem Ce.r{p X Y:Prop}(y:Y) : Ce p X Y:=⟨.inr y⟩
instance {β:Type} {v:Value} {p:Nat×TI} {g:β→List AV} {M:∀{α:Type},List α→(α→List AV)→List Res→Prop} : Sp (Tgt o (.ow v) p g M) (TkA o v fun T s l f rest=>Rf (T=p.1∧s=p.2.size) (Ce (l= []) (M ([]:List β) g rest) (M l f rest))):=⟨fun⟨α,T,s,l,f,rest,tk,⟨h1,h2⟩,h⟩=>by
 subst h1;subst h2
 rcases h.ok with⟨h0,hm⟩|hm
 ·subst h0
  refine⟨β,[],g,rest,hm, ?_⟩
  rintro h0 G0 O0 h G Os w c ⟨rfl,_⟩
  obtain⟨O,Os',c2⟩:=c.take tk
  obtain⟨⟨ho,rows,hw,hrr⟩,hrest⟩:=c2.own
  have hrows:rows= []:=zQ hrr.len
  subst hrows
  exact⟨O,Os',⟨⟨⟨ho,[],hw,Rows.nil⟩,hrest⟩,c2.g,c2.g0,c2.o,c2.d,c2.fp⟩⟩
 ·refine⟨α,l,f,rest,hm, ?_⟩
  rintro h0 G0 O0 h G Os w c ⟨rfl,_⟩
  exact c.take tk⟩
instance {β:Type} {v:Value} {m s:Nat} {p:Nat×TI} {g:β→List AV} {M:∀{α:Type},List α→(α→List AV)→List Res→Prop} : Sp (Tgt o (.os v s 0 m) p g M) (TkA o v fun T s' l f rest=>Rf (T=p.1∧s'=p.2.size) (M (l.take m) f rest)):=⟨fun⟨α,T,s',l,f,rest,tk,⟨h1,h2⟩,h⟩=>⟨α,l.take m,f,rest,h,by
 subst h1;subst h2
 rintro h0 G0 O0 h G Os w c ⟨q,len,cap,rfl,hm,rfl⟩
 obtain⟨O,Os',c2⟩:=c.take tk
 obtain⟨⟨ho,rows,hw,hrr⟩,hrest⟩:=c2.own
 have eq:subA q s 0 cap=q:=by
  unfold subA
  split
  ·rfl
  ·cases q with
   | none=>rfl
   | some a=>simp [Addr.add]
 rw [eq,Nat.sub_zero]
 rcases hw.ok with⟨e1,e2⟩|⟨b,of,cap',L,e1,hbk,g1,g2,g3⟩
 ·cases e1
  have hm0:m=0:=by omega
  subst hm0
  refine⟨O,Os',⟨⟨⟨fun x=>(ho x).trans (by simp [blkOf]),[],Own.nil,Rows.nil⟩,hrest⟩,c2.g,c2.g0,c2.o,c2.d,c2.fp⟩⟩
 ·cases e1
  have hml:(l.take m).length=m:=by rw [zN];omega
  have hsz:=hrr.sz
  have e3:(rows.take m).flatten.length=m * p.2.size:=by rw [flat_len _ (fun r hr=>hsz r (zW hr)),zN,hrr.len];congr 1 <;> omega
  refine⟨O,Os',⟨⟨⟨fun x=>(ho x).trans (by simp [blkOf]),rows.take m,⟨by rw [hml];exact e3, .inr ⟨b,of,cap,L,by rw [hml],hbk,g1,by rw [hml];omega, ?_⟩⟩,hrr.take m⟩,hrest⟩,c2.g,c2.g0,c2.o,c2.d,c2.fp⟩⟩
  have e2:rows.flatten=(rows.take m).flatten ++ (rows.drop m).flatten:=by rw [←List.flatten_append,List.take_append_drop]
  have hmul:m * p.2.size≤l.length * p.2.size:=zU _ (by omega)
  rw [hml,←Nat.min_eq_left hmul,←List.take_take,g3,e2,←e3,List.take_left]⟩⟩
instance : Sp (SA Γ c (some d) (.call { callee:= .builtin .append,args:=#[x,y],argTypes:=#[t,t] }) ty e o N)
  (Rf (isLoud c=true) (Lk (evA e x) fun a=>Lk (evA e y) fun b=>Lk (slE Γ.tt t) fun p=>Rf (p.2.zero.cells.size=p.2.size∧Nat.ble p.2.bytes 1000=true) (Src o b p.2.size fun m g=>Tgt o a p g fun l f rest=>Mp m g f fun m'=>Om (l.length+m'.length≤100000000000) (All fun v:Value=>N ((d, .ow v) :: e) (arrR v p.1 p.2.size (l ++ m') f :: rest))))):=⟨fun⟨hc,a,ha,b,hb,p,hp,⟨hz,hB⟩,β,m,g,⟨α,l,f,rest,⟨m',he,hl,hn⟩,htg⟩,hsrc⟩=>⟨fun env hh G Os cn=>by
 obtain⟨v,g1,g2⟩:=cn.get ha
 obtain⟨w,g3,g4⟩:=cn.get hb
 obtain⟨ti,t1,t2,t3⟩:=slE_spec hp
 obtain⟨rows2,k1,k2⟩:=hsrc cn.hp g4
 obtain⟨O,Os',c2⟩:=htg cn.hp g2
 have cn2:Con Γ ⟨e,arrR v p.1 p.2.size l f :: rest⟩ env hh G (O :: Os'):=⟨c2,cn.env,cn.nf⟩
 obtain⟨⟨ho,rows,hw,hrr⟩,_⟩:=cn2.hp.own
 have k3:=k2.map he
 have hmm:m'.length=m.length:=by rw [←k3.len,k2.len]
 have hB2:=zB hB
 refine St.append Γ.ok t1 t2 t3 hz g1 g3 hw (m:=m.length) (news:=rows2.flatten) k1 (by rw [k2.flen]) k2.one (Nat.le_trans (Nat.mul_le_mul (by omega:l.length+m.length≤100000000000) hB2) (by decide)) (by omega) hc fun v' h' happ=>?_
 have hst:=happ.stp
 have hx:FPx (fun y=>¬O y) hh h':=⟨hst.size,fun y hy hl=>hst.same y hl (fun hm=>hy ((ho y).2 hm))⟩
 have hg:FPx G hh h':=hx.mono fun y hy hoy=>(cn2.hp.o O (by simp) y hoy).2.2 hy
 have hO:∀b,b∈blkOf v'→b < h'.size∧(O b∨hh.size≤b):=fun b hb=>⟨happ.own.lt b hb,by
  rcases happ.blk with h9|h9
  ·rw [h9] at hb;exact .inl ((ho b).2 hb)
  ·exact .inr (h9 b hb)⟩
 have hrows:Rows h' G p.2.size (rows ++ rows2) (l ++ m') f:=(hrr.app k3).stp hg
 obtain⟨q,cap,hsh⟩:=happ.own.sl.shape
 refine CN.mk ((cn2.upd (R':=arrR v' p.1 p.2.size (l ++ m') f) (O':=fun b=>b∈blkOf v') hx hO ⟨fun _=>Iff.rfl,rows ++ rows2, ?_,hrows⟩).put d (a:= .ow v') ⟨rfl,q,_,cap,hsh⟩) (hn.ok v')
 rw [zP,hmm,List.flatten_append]
 exact happ.own⟩⟩
end
section
variable {P:Program} {tt:Nat→Option TI} {en:Nat→Bool} {n:Nat} {env:Env} {h:Heap}
theorem results_cell_tmp2{fn:Func}{p u u2:Tmp}{ty:TypeId}(h:fn.results=#[.cell p ty, .tmp u, .tmp u2])(tmps:Array Value)(P:Program)(w:World) :
  (results fn tmps).run P w =
   ((asAddr (tmps.getD p undef)).run P w).andThen fun a w₁=>((loadVar ty a).run P w₁).andThen fun v w₂=> .ok (.tuple #[v,tmps.getD u undef,tmps.getD u2 undef]) w₂:=by
 simp only [results,h]
 simp [Sem.run_bind,Result.andThen]
theorem ResOK.cell1(G:PgOK P tt en){a t:Nat}{ti:TI}{fs:List (Nat×Nat×Nat)}{p:Addr}{l:List Value}{t2:Tmp}{v2:Value}(ht:tt t=some ti)(hk:ti.kind= .struct fs)(h1:look env a=some (.pointer (some p)))(hl:Cels h p l)(hz:ti.size=l.length)(h2:look env t2=some v2) :
  ResOK P n #[.cell a t, .tmp t2] env h (.tuple #[.agg l.toArray,v2]):=fun ac w fn ha hw hr=>by
 rw [results_cell_tmp hr]
 have g1:=(G.ok _ _ ht).run_agg' w hk
 have g2:=(G.ok _ _ ht).run_size w
 have g3:=run_cels (P:=P) (w:=w) (a:=p) (l:=l) (hl.shut hw)
 simp [ha.val _ _ h1,ha.val _ _ h2,asAddr,loadVar,g1,g2,hz,g3]
theorem ResOK.cell2(G:PgOK P tt en){a t:Nat}{ti:TI}{fs:List (Nat×Nat×Nat)}{p:Addr}{l:List Value}{t2 t3:Tmp}{v2 v3:Value}(ht:tt t=some ti)(hk:ti.kind= .struct fs)(h1:look env a=some (.pointer (some p)))(hl:Cels h p l)(hz:ti.size=l.length)(h2:look env t2=some v2)(h3:look env t3=some v3) :
  ResOK P n #[.cell a t, .tmp t2, .tmp t3] env h (.tuple #[.agg l.toArray,v2,v3]):=fun ac w fn ha hw hr=>by
 rw [results_cell_tmp2 hr]
 have g1:=(G.ok _ _ ht).run_agg' w hk
 have g2:=(G.ok _ _ ht).run_size w
 have g3:=run_cels (P:=P) (w:=w) (a:=p) (l:=l) (hl.shut hw)
 simp [ha.val _ _ h1,ha.val _ _ h2,ha.val _ _ h3,asAddr,loadVar,g1,g2,hz,g3]
end

def U(Os:List (Nat→Prop))(b:Nat) : Prop:=∃O∈Os,O b
structure CallA (P:Program) (f:FuncId) (asx:List AV) (own:List Res) (K:AV→List Res→Prop):Prop where
 run:∀h G Os vs,RepT h G vs asx→HpOK h G (U Os) own h G Os→CallsH P f vs.toArray h fun v h'=>∃r own' G' Os',K r own'∧r.R h' G' v∧HpOK h G (U Os) own' h' G' Os'
def CallP(P:Program)(f:FuncId)(asx:List AV)(r:AV) : Prop:=CallA P f asx [] fun q own=>q=r∧own= []
theorem CallA.mono{P:Program}{f:FuncId}{asx:List AV}{own:List Res}{K K':AV→List Res→Prop}(h:CallA P f asx own K)(hk:∀r o,K r o→K' r o) : CallA P f asx own K' :=
 ⟨fun hh G Os vs h1 h2=>(h.run hh G Os vs h1 h2).mono fun _ _ ⟨r,o,G',Os',g1,g2⟩=>⟨r,o,G',Os',hk _ _ g1,g2⟩⟩

inductive Takes:List Res→List Res→List Res→Prop where
 | nil {l:List Res} : Takes l [] l
 | cons {l l1 rest own:List Res} {R:Res} : Take l R l1→Takes l1 own rest→Takes l (R :: own) rest
theorem Takes.own{h:Heap}{G:Nat→Prop}{rs own rest:List Res}(t:Takes rs own rest) :∀{os:List (Nat→Prop)},OwnL h G rs os→∃o1 o2,OwnL h G own o1∧OwnL h G rest o2∧os.Perm (o1 ++ o2):=by
 induction t with
 | nil=>exact fun ho=>⟨[],_,trivial,ho,List.Perm.refl _⟩
 | cons h1 _ ih =>
  intro os ho
  obtain⟨O,os',g1,g2,g3⟩:=h1.own ho
  obtain⟨o1,o2,k1,k2,k3⟩:=ih g2
  exact⟨O :: o1,o2,⟨g1,k1⟩,k2,g3.trans (List.Perm.cons O k3)⟩

section
variable {Γ:Cx} {k:List KI} {e:EA} {o:List Res} {N:NA} {c:Cls} {d:Tmp} {ty:TypeId} {x y z:Operand} {t u:TypeId} {kk:IntKind} {i:Int}

theorem HpOK.inner{h0:Heap}{G0 O0:Nat→Prop}{r1 r2:List Res}{h:Heap}{G:Nat→Prop}{o1 o2:List (Nat→Prop)}(c:HpOK h0 G0 O0 (r1 ++ r2) h G (o1 ++ o2))(h1:OwnL h G r1 o1) : HpOK h G (U o1) r1 h G o1 :=
 ⟨h1,fun b hb=>⟨(c.g b hb).1, .inl hb⟩,fun _ hb=>hb,fun O hO b hb=>by
  have:=c.o O (by simp [hO]) b hb
  exact⟨this.1, .inl ⟨O,hO,hb⟩,this.2.2⟩,(List.pairwise_append.1 c.d).1,FPx.refl h⟩
theorem HpOK.call{h0:Heap}{G0 O0:Nat→Prop}{r1 r2 r1':List Res}{h h':Heap}{G G':Nat→Prop}{o1 o2 o1':List (Nat→Prop)}(c:HpOK h0 G0 O0 (r1 ++ r2) h G (o1 ++ o2))(h2:OwnL h G r2 o2)(c':HpOK h G (U o1) r1' h' G' o1') :
  HpOK h0 G0 O0 (r1' ++ r2) h' G' (o1' ++ o2)∧FPx G h h'∧∀b,G b→G' b:=by
 obtain⟨d1,d2,d3⟩:=List.pairwise_append.1 c.d
 have hnu:∀X∈o2,∀b,X b→¬U o1 b:=fun X hX b hb ⟨O,hO,ho⟩=>d3 O hO X hX b ho hb
 have hng:∀b,G b→¬U o1 b:=fun b hb ⟨O,hO,ho⟩=>(c.o O (by simp [hO]) b ho).2.2 hb
 have hg:FPx G h h':=c'.fp.mono hng
 have hs:=c.fp.size
 have hs':=c'.fp.size
 have hold:∀O∈o1 ++ o2,∀b,O b→b < h.size∧(O0 b∨h0.size≤b)∧¬G b:=c.o
 have hu:∀b,U o1 b→b < h.size∧(O0 b∨h0.size≤b):=fun b ⟨O,hO,ho⟩=>by have:=hold O (by simp [hO]) b ho;exact⟨this.1,this.2.1⟩
 have hg2:∀b,G' b→b < h'.size∧(G0 b∨((O0 b∨h0.size≤b)∧NC h' b)):=fun b hb=>by
  have:=c'.g b hb
  refine⟨this.1, ?_⟩
  rcases this.2 with h9|⟨h9|h9,h10⟩
  ·exact(c.g b h9).2.imp id fun q=>⟨q.1,q.2.eq (hg.same b h9 (c.g b h9).1)⟩
  ·exact .inr ⟨(hu b h9).2,h10⟩
  ·exact .inr ⟨.inr (by omega),h10⟩
 have hx2:∀X∈o2,∀b,X b→¬G' b:=fun X hX b hb hgb=>by
  have h8:=hold X (by simp [hX]) b hb
  rcases(c'.g b hgb).2 with h9|⟨h9|h9,_⟩
  ·exact h8.2.2 h9
  ·exact hnu X hX b hb h9
  ·omega
 refine⟨⟨c'.own.app (OwnL.mono c'.g0 (OwnL.stp (fun X hX=>c'.fp.mono fun b hb=>?_) h2)),hg2,fun b hb=>c'.g0 b (c.g0 b hb),fun O hO b hb=>?_,List.pairwise_append.2 ⟨c'.d,d2,fun A hA B hB b ha hb=>?_⟩,⟨Nat.le_trans hs hs',fun b hb hl=>?_⟩⟩,hg,c'.g0⟩
 ·rcases hb with hb|hb
  ·exact hnu X hX b hb
  ·exact hng b hb
 ·rcases zV.1 hO with hO|hO
  ·have h8:=c'.o O hO b hb
   refine⟨h8.1, ?_,h8.2.2⟩
   rcases h8.2.1 with h9|h9
   ·exact(hu b h9).2
   ·exact .inr (by omega)
  ·have h8:=hold O (by simp [hO]) b hb
   exact⟨by omega,h8.2.1,hx2 O hO b hb⟩
 ·have h8:=c'.o A hA b ha
  rcases h8.2.1 with h9|h9
  ·exact hnu B hB b hb h9
  ·have:=(hold B (by simp [hB]) b hb).1;omega
 ·rw [c'.fp.same b (fun hub=>?_) (Nat.lt_of_lt_of_le hl hs)]
  ·exact c.fp.same b hb hl
  ·rcases(hu b hub).2 with h9|h9
   ·exact hb h9
   ·omega
structure Cl (Γ:Cx) (c:Cls) (f:FuncId) (asx:List AV) (o:List Res) (M:AV→List Res→Prop):Prop where
 ok:∀{h:Heap} {G:Nat→Prop} {Os:List (Nat→Prop)} {vs:List Value},HpOK Γ.h0 Γ.G0 Γ.O0 o h G Os→RepT h G vs asx→
  CallsH Γ.P f vs.toArray h fun v h'=>(isLoud c=true∨Stp ([]:List Nat) h h')∧∃r o' G' Os',M r o'∧r.R h' G' v∧HpOK Γ.h0 Γ.G0 Γ.O0 o' h' G' Os'∧FPx G h h'∧∀b,G b→G' b
inductive Lend (o:List Res):List AV→List AV→Prop where
 | nil:Lend o [] []
 | keep {a:AV} {l l':List AV} : Lend o l l'→Lend o (a :: l) (a :: l')
 | nils {α:Type} {p:Option Addr} {c sz:Nat} {f:α→List AV} {l l':List AV} : Lend o l l'→Lend o (.val (.slice p 0 c) :: l) (.sl sz [] f :: l')
 | mp {α β:Type} {sz:Nat} {xs:List α} {f:α→List AV} {ys:List β} {g:β→List AV} {l l':List AV} : ys.map g=xs.map f→Lend o l l'→Lend o (.sl sz xs f :: l) (.sl sz ys g :: l')
 | lend {α:Type} {v:Value} {T sz:Nat} {xs:List α} {f:α→List AV} {rest:List Res} {l l':List AV} : Take o (arrR v T sz xs f) rest→xs.length≤9223372036854775807→Lend o l l'→Lend o (.ow v :: l) (.sl sz xs f :: l')
 | lendm {α β:Type} {v:Value} {T sz:Nat} {xs:List α} {f:α→List AV} {ys:List β} {g:β→List AV} {rest:List Res} {l l':List AV} : Take o (arrR v T sz xs f) rest→ys.map g=xs.map f→xs.length≤9223372036854775807→Lend o l l'→Lend o (.ow v :: l) (.sl sz ys g :: l')
 | cell {b:Nat} {k:Nat} {T:TypeId} {cs cs':List AV} {rest:List Res} {l l':List AV} : Take o (blkR b T cs) rest→Lend o cs cs'→Lend o l l'→Lend o (.val (.pointer (some ⟨b,k,none⟩)) :: l) (.ad cs' k :: l')
 | agg {cs cs' l l':List AV} : Lend o cs cs'→Lend o l l'→Lend o (.agg cs :: l) (.agg cs' :: l')
 | fn {f:FuncId} {cs cs' l l':List AV} : Lend o cs cs'→Lend o l l'→Lend o (.fn f cs :: l) (.fn f cs' :: l')
theorem sl_of_own{h:Heap}{G:Nat→Prop}{O:Nat→Prop}{α:Type}{v:Value}{T sz:Nat}{xs:List α}{f:α→List AV}(hr:(arrR v T sz xs f).R h O G)(hl:xs.length≤9223372036854775807) : (AV.sl sz xs f).R h (fun b=>G b∨O b) v:=by
 obtain⟨ho,rows,hw,hrr⟩:=hr
 refine⟨hl, ?_⟩
 rcases hw.sl.ok with⟨p,cap,e1,e2,_⟩|⟨b,of,cap,e1,e2,e3,e4,e5⟩
 ·exact .inl ⟨zQ e2,p,cap,e1⟩
 ·exact .inr ⟨b,of,cap,rows,e1,e2,e3, .inr ((ho b).2 (by simp [e1,blkOf])),e4,e5,hrr.mono fun _=> .inl⟩
theorem AV.sl_map{h:Heap}{G:Nat→Prop}{α β:Type}{v:Value}{sz:Nat}{xs:List α}{f:α→List AV}{ys:List β}{g:β→List AV}(he:ys.map g=xs.map f)(hr:(AV.sl sz xs f).R h G v) : (AV.sl sz ys g).R h G v:=by
 have hl:ys.length=xs.length:=by have:=congrArg List.length he;simpa using this
 obtain⟨hm,⟨rfl,p,c,e⟩|⟨b,of,cap,rows,e,h1,h2,h3,h4,h5,h6⟩⟩:=hr
 ·exact⟨by rw [hl];exact hm, .inl ⟨by simpa using hl,p,c,e⟩⟩
 ·exact⟨by rw [hl];exact hm, .inr ⟨b,of,cap,rows,by rw [hl];exact e,by omega,by omega,h3,h4,h5,h6.map he⟩⟩
theorem Lend.rep{h:Heap}{G:Nat→Prop}{Os:List (Nat→Prop)}(ho:OwnL h G o Os){asx as':List AV}(l:Lend o asx as') :∀{vs:List Value},RepT h G vs asx→RepT h (fun b=>G b∨U Os b) vs as':=by
 induction l with
 | nil=>intro vs hr;match vs,hr with | [],_=>trivial
 | keep _ ih =>
  intro vs hr
  match vs,hr with
  | v :: vs,⟨h1,h2⟩=>exact⟨AV.mono _ (fun _=> .inl) h1,ih h2⟩
 | nils _ ih =>
  intro vs hr
  match vs,hr with
  | v :: vs,⟨h1,h2⟩=>exact⟨⟨by simp, .inl ⟨rfl,_,_,h1⟩⟩,ih h2⟩
 | mp he _ ih =>
  intro vs hr
  match vs,hr with
  | v :: vs,⟨h1,h2⟩=>exact⟨AV.mono _ (fun _=> .inl) (AV.sl_map he h1),ih h2⟩
 | lend tk hl _ ih =>
  intro vs hr
  match vs,hr with
  | v :: vs,⟨⟨h1,_⟩,h2⟩ =>
   subst h1
   obtain⟨O,os',g1,g2,g3⟩:=tk.own ho
   exact⟨AV.mono _ (fun b hb=>hb.imp id fun hb=>⟨O,g3.mem_iff.2 (by simp),hb⟩) (sl_of_own g1 hl),ih h2⟩
 | lendm tk he hl _ ih =>
  intro vs hr
  match vs,hr with
  | v :: vs,⟨⟨h1,_⟩,h2⟩ =>
   subst h1
   obtain⟨O,os',g1,g2,g3⟩:=tk.own ho
   exact⟨AV.mono _ (fun b hb=>hb.imp id fun hb=>⟨O,g3.mem_iff.2 (by simp),hb⟩) (AV.sl_map he (sl_of_own g1 hl)),ih h2⟩
 | cell tk _ _ ih1 ih =>
  intro vs hr
  match vs,hr with
  | v :: vs,⟨h1,h2⟩ =>
   obtain⟨O,os',⟨g0,ws,gb,gr⟩,g2,g3⟩:=tk.own ho
   have h1:v=_:=h1
   subst h1
   exact⟨⟨_,0,ws,by rw [Nat.zero_add], .inr ⟨O,g3.mem_iff.2 (by simp),(g0 _).2 rfl⟩,gb.lt,gb.cels0,ih1 gr.t,gr.one⟩,ih h2⟩
 | agg _ _ ih1 ih =>
  intro vs hr
  match vs,hr with
  | v :: vs,⟨⟨ws,h1,h3⟩,h2⟩=>exact⟨⟨ws,h1,ih1 h3.t,h3.one⟩,ih h2⟩
 | fn _ _ ih1 ih =>
  intro vs hr
  match vs,hr with
  | v :: vs,⟨⟨ws,h1,h3⟩,h2⟩=>exact⟨⟨ws,h1,ih1 h3⟩,ih h2⟩
theorem Lend.rep0{h:Heap}{G:Nat→Prop}{asx as':List AV}(l:Lend [] asx as'){vs:List Value}(hr:RepT h G vs asx) : RepT h G vs as' :=
 (Lend.rep (o:= []) (Os:= []) (G:=G) trivial l hr).mono fun b hb=>hb.elim id fun⟨O,hO,_⟩=>by cases hO
theorem Cl.use{f:FuncId}{asx as':List AV}{own rest:List Res}{K:AV→List Res→Prop}{M:AV→List Res→Prop}(hc:CallA Γ.P f as' own K)(hv:Lend [] asx as')(ht:Takes o own rest)(hl:(isLoud c || own.isEmpty)=true)(hm:∀r own',K r own'→M r (own' ++ rest)) : Cl Γ c f asx o M:=by
 refine⟨fun {h G Os vs} hp hr=>?_⟩
 obtain⟨o1,o2,h1,h2,h3⟩:=ht.own hp.own
 have hp2:=hp.perm (h1.app h2) h3
 refine(hc.run h G o1 vs (hv.rep0 hr) (hp2.inner h1)).mono fun v h' ⟨r,own',G',Os',g1,g2,g3⟩=>?_
 obtain⟨k1,k2,k3⟩:=hp2.call h2 g3
 refine⟨?_,r,_,G',_,hm r own' g1,g2,k1,k2,k3⟩
 simp only [Bool.or_eq_true] at hl
 rcases hl with hl|hl
 ·exact .inl hl
 ·right
  have he:own= []:=by simpa using hl
  subst he
  match o1,h1 with
  | [],_=>exact⟨g3.fp.size,fun b hb _=>g3.fp.same b (fun⟨O,hO,_⟩=>by cases hO) hb⟩
theorem Cl.p{f:FuncId}{asx as':List AV}{r:AV}{M:AV→List Res→Prop}(hc:CallP Γ.P f as' r)(hv:Lend [] asx as')(hm:M r o) : Cl Γ c f asx o M:=by
 refine⟨fun {h G Os vs} hp hr=>?_⟩
 have hp2:HpOK Γ.h0 Γ.G0 Γ.O0 ([] ++ o) h G ([] ++ Os):=hp
 refine(CallA.run hc h G [] vs (hv.rep0 hr) (hp2.inner trivial)).mono fun v h' ⟨r,own',G',Os',⟨g1,g2⟩,g3,g4⟩=>?_
 subst g1;subst g2
 have hst:Stp ([]:List Nat) h h':=⟨g4.fp.size,fun b hb _=>g4.fp.same b (fun⟨O,hO,_⟩=>by cases hO) hb⟩
 match Os',g4.own with
 | [],_ =>
  obtain⟨k1,k2,k3⟩:=hp2.call hp.own g4
  exact⟨.inr hst,r,_,G',_,hm,g3,k1,k2,k3⟩
class Flat (a:AV):Prop where
 h:∀h h' G G' v,a.R h G v→a.R h' G' v
instance {v:Value} : Flat (.val v):=⟨fun _ _ _ _ _ h=>h⟩
theorem Cl.lend{f:FuncId}{asx as':List AV}{r:AV}{M:AV→List Res→Prop}[hf:Flat r](hc:CallP Γ.P f as' r)(hl:Lend o asx as')(hm:M r o) : Cl Γ c f asx o M:=by
 refine⟨fun {h G Os vs} hp hr=>?_⟩
 have hin:HpOK h (fun b=>G b∨U Os b) (U []) [] h (fun b=>G b∨U Os b) [] :=
  ⟨trivial,fun b hb=>⟨hb.elim (fun h9=>(hp.g b h9).1) (fun⟨O,hO,h9⟩=>(hp.o O hO b h9).1), .inl hb⟩,fun _ h=>h,fun O hO=>(by cases hO),List.Pairwise.nil,FPx.refl h⟩
 refine(CallA.run hc h _ [] vs (hl.rep hp.own hr) hin).mono fun v h' ⟨r',own',G',Os',⟨g1,g2⟩,g3,g4⟩=>?_
 subst g1;subst g2
 have hst:Stp ([]:List Nat) h h':=⟨g4.fp.size,fun b hb _=>g4.fp.same b (fun⟨O,hO,_⟩=>by cases hO) hb⟩
 have hx:∀S,FPx S h h':=fun S=>⟨hst.size,fun b _ hb=>hst.same b hb (by simp)⟩
 have hs:=hp.fp.size
 have hs':=hst.size
 refine⟨.inr hst,r',o,G,Os,hm,hf.h _ _ _ _ _ g3,⟨OwnL.stp (fun O _=>hx _) hp.own,fun b hb=>⟨by have:=(hp.g b hb).1;omega,(hp.g b hb).2.imp id fun q=>⟨q.1,q.2.eq (hst.same b (hp.g b hb).1 (by simp))⟩⟩,hp.g0,fun O hO b hb=>⟨by have:=(hp.o O hO b hb).1;omega,(hp.o O hO b hb).2⟩,hp.d,⟨by omega,fun b hb hl=>?_⟩⟩,hx G,fun _ h=>h⟩
 rw [hst.same b (by omega) (by simp)]
 exact hp.fp.same b hb hl
theorem cl_sa{env:Env}{h:Heap}{G:Nat→Prop}{Os:List (Nat→Prop)}{f:FuncId}{asx:List AV}{vs:List Value}(cn:Con Γ ⟨e,o⟩ env h G Os)(hr:RepT h G vs asx){dst:Option Tmp}(hfp:Γ.fp.n=none)(hc:Cl Γ c f asx o fun r o'=>N (match dst with|some d=>(d,r) :: e|none=>e) o') : CallsH Γ.P f vs.toArray h fun v h'=>(isLoud c=true∨Stp ([]:List Nat) h h')∧CN Γ N (putE env dst v) h':=by
 refine(hc.ok cn.hp hr).mono fun v h' ⟨h1,r,o',G',Os',g1,g2,g3,g4,g5⟩=>⟨h1, ?_⟩
 have c2:Con Γ ⟨e,o'⟩ env h' G' Os':=⟨g3,fun t a ha=>let ⟨w,k1,k2⟩:=cn.env t a ha;⟨w,k1,a.mono g5 (a.stp g4 k2)⟩,FpOK.none hfp⟩
 cases dst with
 | none=>exact CN.mk c2 g1
 | some d=>exact CN.mk (c2.put d g2) g1
theorem acts_cases{c:Cls}(h:acts c=true) : c= .loud∨c= .ext:=by cases c <;> simp [acts] at h ⊢
instance {f:FuncId} {args:Array Operand} {tys:Array TypeId} : Sp (SA Γ c (some d) (.call { callee:= .value (.func f),args:=args,argTypes:=tys }) ty e o N) (Rf (Γ.fp.n=none) (Rf (acts c=true) (Lk (evAs e args.toList) fun asx=>Rf (Γ.en f=true) (Cl Γ c f asx o fun r o'=>N ((d,r) :: e) o')))):=⟨fun⟨hfp,hc,asx,ha,he,h⟩=>⟨fun env hh G Os cn=>by
 obtain⟨vs,g1,g2⟩:=cn.gets ha
 have hcl:=cl_sa (dst:=some d) cn g2 hfp h
 rcases acts_cases hc with rfl|rfl
 ·exact St.call Γ.ok g1 he rfl (hcl.mono fun v h' hk=>hk.2)
 ·exact St.callX Γ.ok g1 he rfl (hcl.mono fun v h' hk=>⟨(hk.1.resolve_left (by simp [isLoud])).nil,hk.2⟩)⟩⟩
structure ClF (Γ:Cx) (c:Cls) (d:Tmp) (x:Operand) (args:Array Operand) (tys:Array TypeId) (ty:TypeId) (e:EA) (o:List Res) (N:NA) (a:AV) (asx:List AV):Prop where
 h:evA e x=some a→evAs e args.toList=some asx→isLoud c=true→SA Γ c (some d) (.call { callee:= .value x,args:=args,argTypes:=tys }) ty e o N
instance {r:Tmp} {args:Array Operand} {tys:Array TypeId} : Sp (SA Γ c (some d) (.call { callee:= .value (.tmp r),args:=args,argTypes:=tys }) ty e o N) (Rf (isLoud c=true) (Lk (evA e (.tmp r)) fun a=>Lk (evAs e args.toList) fun asx=>ClF Γ c d (.tmp r) args tys ty e o N a asx)):=⟨fun⟨h1,_,ha,_,hb,h⟩=>h.h ha hb h1⟩
instance {f:FuncId} {cs asx:List AV} {args:Array Operand} {tys:Array TypeId} : Sp (ClF Γ c d x args tys ty e o N (.fn f cs) asx) (Rf (Γ.fp.n=none) (Rf (Γ.en f=true) (Cl Γ c f (asx ++ cs) o fun r o'=>N ((d,r) :: e) o'))):=⟨fun⟨hfp,he,h⟩=>⟨fun ha hb hc=>⟨fun env hh G Os cn=>by
 obtain⟨v,g1,ws,rfl,g2⟩:=cn.get ha
 obtain⟨vs,g3,g4⟩:=cn.gets hb
 exact St.callT (first:= []) Γ.ok g1 g3 he hc ((cl_sa (dst:=some d) cn (g4.app g2) hfp h).mono fun v h' hk=>hk.2)⟩⟩⟩

/-! ### Loops, and paths that join -/
def subA'(e:EA) : EA→Prop
 | []=>True
 | (t,a) :: r=>lookA e t=some a∧subA' e r
theorem lookA_sub :∀{e1 e2:EA},subA' e2 e1→∀t v,lookA e1 t=some v→lookA e2 t=some v
 | [],_,_,_,_,h=>by simp [lookA] at h
 | (k,u) :: r,e2,hs,t,v,h=>by
  rw [lookA_cons] at h
  by_cases hk:k=t
  ·subst hk;simp at h;subst h;exact hs.1
  ·simp only [hk,if_false] at h;exact lookA_sub hs.2 t v h
structure Sub (e:EA) (o:List Res) (σ:AS):Prop where
 e:subA' e σ.env
 o:Subl o σ.own
theorem Con.sub{σ:AS}{env:Env}{h:Heap}{G:Nat→Prop}{Os:List (Nat→Prop)}(s:Sub e o σ)(cn:Con Γ ⟨e,o⟩ env h G Os) :∃Os',Con Γ σ env h G Os':=by
 obtain⟨Os',h1,_⟩:=HpOK.sub s.o cn.hp
 exact⟨Os',h1,fun t a ha=>cn.env t a (lookA_sub s.e t a ha),cn.nf⟩
theorem Con.canon{σ:AS}{env:Env}{h:Heap}{G:Nat→Prop}{Os:List (Nat→Prop)}(cn:Con Γ σ env h G Os) :∃env',subE env' env∧Con Γ σ env' h G Os:=by
 have key:∀l:EA,(∀t a,(t,a)∈l→∃v,look env t=some v)→∃env',subE env' env∧∀t a,lookA l t=some a→∃v,look env' t=some v∧look env t=some v:=by
  intro l
  induction l with
  | nil=>exact fun _=>⟨[],trivial,fun t a h=>by simp [lookA] at h⟩
  | cons p r ih =>
   intro hl
   obtain⟨t,a⟩:=p
   obtain⟨env',h1,h2⟩:=ih (fun t a hm=>hl t a (by simp [hm]))
   obtain⟨v,hv⟩:=hl t a (by simp)
   refine⟨(t,v) :: env',⟨hv,h1⟩,fun q b hq=>?_⟩
   rw [lookA_cons] at hq
   rw [look_cons]
   by_cases hk:t=q
   ·subst hk;rw [if_pos rfl];exact⟨v,rfl,hv⟩
   ·rw [if_neg hk] at hq ⊢;exact h2 q b hq
 have hmem:∀(l:EA) t a,(t,a)∈l→∃b,lookA l t=some b:=by
  intro l
  induction l with
  | nil=>intro t a h;cases h
  | cons p r ih =>
   intro t a hm
   obtain⟨q,b⟩:=p
   rw [lookA_cons]
   by_cases hk:q=t
   ·rw [if_pos hk];exact⟨b,rfl⟩
   ·rw [if_neg hk]
    rcases List.mem_cons.1 hm with h9|h9
    ·simp only [Prod.mk.injEq] at h9;exact absurd h9.1.symm hk
    ·exact ih t a h9
 obtain⟨env',h1,h2⟩:=key σ.env fun t a hm=>by
  obtain⟨b,hb⟩:=hmem _ t a hm
  obtain⟨v,hv,_⟩:=cn.env t b hb
  exact⟨v,hv⟩
 refine⟨env',h1,cn.hp,fun t a ha=>?_,cn.nf⟩
 obtain⟨v,g1,g2⟩:=h2 t a ha
 obtain⟨w,g3,g4⟩:=cn.env t a ha
 rw [g2] at g3;cases g3
 exact⟨v,g1,g4⟩
def lpI{α:Type}(Γ:Cx)(st:α→AS)(J:α→Prop) : Env→Heap→Prop:=fun env h=>∃p:α×Env,subE p.2 env∧(∃G Os,Con Γ (st p.1) p.2 h G Os)∧J p.1
theorem PA.lp{α:Type}{st:α→AS}{J:α→Prop}(x:α)(hs:Sub e o (st x))(hj:J x) : PA Γ (.lp (lpI Γ st J) :: k) .normal e o :=
 ⟨fun env h G Os cn=>PK.lp_normal (by
  obtain⟨Os',c⟩:=cn.sub hs
  obtain⟨env',h1,h2⟩:=c.canon
  exact⟨(x,env'),h1,⟨G,Os',h2⟩,hj⟩)⟩
theorem CA.loop{α:Type}{y:Code}(st:α→AS)(I:α→Prop)(μ:α→Nat)(x0:α)(hs:Sub e o (st x0))(hi:I x0)
  (round:∀x,I x→CA Γ (.lp (lpI Γ st fun x'=>I x'∧μ x' < μ x) :: k) y (st x).env (st x).own):CA Γ k (.loop y) e o:=by
 refine⟨fun env h G Os cn=>?_⟩
 obtain⟨Os',c⟩:=cn.sub hs
 obtain⟨env',h1,h2⟩:=c.canon
 refine CW.loop (fun p:α×Env=>p.2) (fun p h=>(∃G Os,Con Γ (st p.1) p.2 h G Os)∧I p.1) (fun p=>μ p.1) (x0,env') h1 ⟨⟨G,Os',h2⟩,hi⟩ ?_
 rintro⟨x,env1⟩ h' ⟨⟨G1,Os1,c1⟩,hx⟩
 refine CW.mono (fun x e h hq=>?_) ((round x hx).h env1 h' G1 Os1 c1)
 have key:∀(I1 I2:Env→Heap→Prop),(∀e h,I1 e h→I2 e h)→∀x e h,PK Γ.P Γ.n (endR Γ) (.lp I1 :: k) x e h→PK Γ.P Γ.n (endR Γ) (.lp I2 :: k) x e h:=by
  intro I1 I2 h12 x e h hp
  unfold PK at hp ⊢
  cases x <;> first|exact h12 _ _ hp|exact hp
 exact key _ _ (fun e h ⟨p,g1,g2,g3,g4⟩=>⟨p,g1,⟨g2,g3⟩,g4⟩) x e h hq
theorem CA.cut{α:Type}{y:Code}(st:α→AS)(I:α→Prop)(h1:CA Γ (.lp (lpI Γ st I) :: k) y e o)(h2:∀x,I x→PA Γ k .normal (st x).env (st x).own) : CA Γ k y e o:=by
 refine⟨fun env h G Os cn=>⟨fun rd m B a w ha hf hr hw hB=>wpIn_mono ((h1.h env h G Os cn).run rd m B a w ha hf hr hw hB) fun x a' w' hl=>?_⟩⟩
 cases x <;> simp only [lift,PK] at hl ⊢
 case normal =>
  obtain⟨hs,hf1,e1,hag,⟨x,env'⟩,hsub,⟨G',Os',c⟩,hx⟩:=hl
  exact⟨hs,hf1,env',hag.sub hsub,(h2 x hx).h env' _ G' Os' c⟩
 all_goals exact hl
theorem CA.nilOwn{α:Type}{y:Code}(t:Tmp)(T sz:Nat)(f:α→List AV)(ht:lookA e t=some (.val (.slice none 0 0)))(h:∀v,CA Γ k y ((t, .ow v) :: e) (arrR v T sz [] f :: o)) : CA Γ k y e o:=by
 refine⟨fun env hh G Os cn=>?_⟩
 have hp:HpOK Γ.h0 Γ.G0 Γ.O0 (arrR (.slice none 0 0) T sz [] f :: o) hh G ((fun _=>False) :: Os):=HpOK.nilA (o:=o) cn.hp T sz f
 refine(h (.slice none 0 0)).h env hh G _ ⟨hp,fun q a hq=>?_,cn.nf⟩
 rw [lookA_cons] at hq
 by_cases hk:t=q
 ·subst hk
  rw [if_pos rfl] at hq;cases hq
  obtain⟨v,g1,g2⟩:=cn.env t _ ht
  exact⟨v,g1,g2,none,0,0,rfl⟩
 ·rw [if_neg hk] at hq;exact cn.env q a hq
theorem con_re{σ:AS}{env:Env}{h:Heap}{G:Nat→Prop}{Os:List (Nat→Prop)}(cn:Con Γ σ env h G Os)(t:Tmp){a:AV}(ha:∀v,look env t=some v→a.R h G v){b:AV}(hb:lookA σ.env t=some b) : Con Γ ⟨(t,a) :: σ.env,σ.own⟩ env h G Os:=by
 refine⟨cn.hp,fun q c hq=>?_,cn.nf⟩
 rw [lookA_cons] at hq
 by_cases hk:t=q
 ·subst hk
  rw [if_pos rfl] at hq;cases hq
  obtain⟨v,g1,_⟩:=cn.env t _ hb
  exact⟨v,g1,ha v g1⟩
 ·rw [if_neg hk] at hq;exact cn.env q c hq
theorem CA.freeze{P:Program}{tt:Nat→Option TI}{en:Nat→Bool}{ok:PgOK P tt en}{T0:Nat→Ord×(Nat→Cls)}{m0:Nat}{rs:Array ResultVar}{K:AV→List Res→Prop}{h0:Heap}{G0 O0:Nat→Prop}{α:Type}{y:Code}(t:Tmp){v:Value}{T sz:Nat}{l:List α}{f:α→List AV}{rest:List Res}(ht:lookA e t=some (.ow v))(tk:Take o (arrR v T sz l f) rest)(hl:l.length≤9223372036854775807)(h:CA ⟨P,tt,en,ok,T0,m0,rs,K,h0,G0,O0,⟨none⟩⟩ k y ((t, .sl sz l f) :: e) rest) : CA ⟨P,tt,en,ok,T0,m0,rs,K,h0,G0,O0,⟨none⟩⟩ k y e o:=by
 refine⟨fun env hh G Os cn=>?_⟩
 obtain⟨O,Os',cn2⟩:=cn.take tk
 have hr:=cn2.hp.own.1
 have c3:=cn2.freeze
 refine h.h env hh _ Os' (con_re (σ:=⟨e,rest⟩) c3 t (fun w hw=>?_) ht)
 obtain⟨w',g1,g2,_⟩:=cn.env t _ ht
 rw [hw] at g1;cases g1;subst g2
 exact sl_of_own hr hl
theorem CA.retype{α β:Type}{y:Code}{v:Value}{T sz:Nat}{l:List α}{f:α→List AV}{rest:List Res}(tk:Take o (arrR v T sz l f) rest)(m:List β)(g:β→List AV)(he:m.map g=l.map f)(h:CA Γ k y e (arrR v T sz m g :: rest)) : CA Γ k y e o:=by
 refine⟨fun env hh G Os cn=>?_⟩
 obtain⟨O,Os',cn2⟩:=cn.take tk
 obtain⟨⟨ho,rows,hw,hr⟩,hrest⟩:=cn2.hp.own
 have hlen:m.length=l.length:=by have:=congrArg List.length he;simpa using this
 exact h.h env hh G (O :: Os') ⟨cn2.hp.perm ⟨⟨ho,rows,by rw [hlen];exact hw,hr.map he⟩,hrest⟩ (List.Perm.refl _),cn.env,cn.nf⟩

/-! ### Entry and end -/
def resA(e:EA) : List ResultVar→Option AV
 | []=>some (.tup [])
 | [.tmp a]=>lookA e a
 | [.tmp a, .tmp b]=>match lookA e a,lookA e b with
  | some x,some y=>some (.tup [x,y])
  | _,_=>none
 | [.tmp a, .tmp b, .tmp c]=>match lookA e a,lookA e b,lookA e c with
  | some x,some y,some z=>some (.tup [x,y,z])
  | _,_,_=>none
 | _=>none
theorem HpOK.freeze{h0:Heap}{G0 O0:Nat→Prop}{R:Res}{rest:List Res}{h:Heap}{G O:Nat→Prop}{Os:List (Nat→Prop)}(c:HpOK h0 G0 O0 (R :: rest) h G (O :: Os)) : HpOK h0 G0 O0 rest h (fun b=>G b∨O b) Os:=by
 have hd:=List.pairwise_cons.1 c.d
 refine⟨c.own.2.mono fun _=> .inl,fun b hb=>?_,fun b hb=> .inl (c.g0 b hb),fun X hX b hb=>?_,hd.2,c.fp⟩
 ·rcases hb with hb|hb
  ·exact c.g b hb
  ·have:=c.o O (by simp) b hb;exact⟨this.1, .inr ⟨this.2.1,R.nc c.own.1 b hb⟩⟩
 ·have:=c.o X (by simp [hX]) b hb
  exact⟨this.1,this.2.1,fun hg=>hg.elim this.2.2 (fun ho=>hd.1 X hX b ho hb)⟩
inductive FL:List Res→List AV→List AV→List Res→Prop where
 | nil {o own:List Res} : Subl o own→FL o [] [] own
 | same {o own:List Res} {a:AV} {l l':List AV} : FL o l l' own→FL o (a :: l) (a :: l') own
 | nils {o own:List Res} {l l':List AV} {α:Type} {T sz:Nat} {f:α→List AV} : FL (arrR (.slice none 0 0) T sz [] f :: o) l l' own→FL o (.val (.slice none 0 0) :: l) (.ow (.slice none 0 0) :: l') own
 | nilr {o own:List Res} {l l':List AV} {α:Type} {sz:Nat} {f:α→List AV} : FL o l l' own→FL o (.val (.slice none 0 0) :: l) (.sl sz [] f :: l') own
 | fz {o rest own:List Res} {l l':List AV} {α:Type} {v:Value} {T sz:Nat} {xs:List α} {f:α→List AV} : Take o (arrR v T sz xs f) rest→xs.length≤9223372036854775807→FL rest l l' own→FL o (.ow v :: l) (.sl sz xs f :: l') own
theorem FL.rep{h0:Heap}{G0 O0:Nat→Prop}{h:Heap}{o own:List Res}{l l':List AV}(x:FL o l l' own) :∀{G:Nat→Prop} {Os:List (Nat→Prop)} {vs:List Value},HpOK h0 G0 O0 o h G Os→RepT h G vs l→∃G' Os',HpOK h0 G0 O0 own h G' Os'∧RepT h G' vs l'∧∀b,G b→G' b:=by
 induction x with
 | nil s =>
  intro G Os vs c hr
  obtain⟨Os',h1,_⟩:=HpOK.sub s c
  exact⟨G,Os',h1,hr,fun _ h=>h⟩
 | same _ ih =>
  intro G Os vs c hr
  match vs,hr with
  | v :: vs,⟨r1,r2⟩ =>
   obtain⟨G',Os',h1,h2,h3⟩:=ih c r2
   exact⟨G',Os',h1,⟨AV.mono _ h3 r1,h2⟩,h3⟩
 | @nils o own l l' α T sz f _ ih =>
  intro G Os vs c hr
  match vs,hr with
  | v :: vs,⟨r1,r2⟩ =>
   obtain⟨G',Os',h1,h2,h3⟩:=ih (HpOK.nilA (o:=o) c T sz f) r2
   exact⟨G',Os',h1,⟨⟨r1,none,0,0,rfl⟩,h2⟩,h3⟩
 | nilr _ ih =>
  intro G Os vs c hr
  match vs,hr with
  | v :: vs,⟨r1,r2⟩ =>
   obtain⟨G',Os',h1,h2,h3⟩:=ih c r2
   exact⟨G',Os',h1,⟨⟨by simp, .inl ⟨rfl,_,_,r1⟩⟩,h2⟩,h3⟩
 | fz tk hl _ ih =>
  intro G Os vs c hr
  match vs,hr with
  | v :: vs,⟨⟨r1,_⟩,r2⟩ =>
   subst r1
   obtain⟨O,os',c2⟩:=c.take tk
   have hrr:=c2.own.1
   obtain⟨G',Os',h1,h2,h3⟩:=ih c2.freeze (r2.mono fun _=> .inl)
   exact⟨G',Os',h1,⟨AV.mono _ h3 (sl_of_own hrr hl),h2⟩,fun b hb=>h3 b (.inl hb)⟩
inductive FA (o:List Res):AV→AV→List Res→Prop where
 | one {a a':AV} {own:List Res} : FL o [a] [a'] own→FA o a a' own
 | tup {l l':List AV} {own:List Res} : FL o l l' own→FA o (.tup l) (.tup l') own
structure Fin (Γ:Cx) (o:List Res) (a:AV):Prop where
 ok:∃a' own,FA o a a' own∧Γ.K a' own
theorem resA_ok{P:Program}{n:Nat}{rs:Array ResultVar}{env:Env}{h:Heap}{G:Nat→Prop}(he:∀t a,lookA e t=some a→∃v,look env t=some v∧a.R h G v){a:AV}(hr:resA e rs.toList=some a) :∃v,ResOK P n rs env h v∧a.R h G v:=by
 obtain⟨l⟩:=rs
 unfold resA at hr
 split at hr
 ·rename_i h1
  cases hr
  have h1:l= []:=h1
  subst h1
  exact⟨_,ResOK.zero,[],rfl,trivial⟩
 ·rename_i t1 h1
  have h1:l=_:=h1
  subst h1
  obtain⟨v,g1,g2⟩:=he _ _ hr
  exact⟨v,ResOK.one g1,g2⟩
 ·rename_i t1 t2 h1
  have h1:l=_:=h1
  subst h1
  split at hr
  ·rename_i x y e1 e2
   cases hr
   obtain⟨v,g1,g2⟩:=he _ _ e1
   obtain⟨w,g3,g4⟩:=he _ _ e2
   exact⟨_,ResOK.two g1 g3,[v,w],rfl,g2,g4,trivial⟩
  ·cases hr
 ·rename_i t1 t2 t3 h1
  have h1:l=_:=h1
  subst h1
  split at hr
  ·rename_i x y z e1 e2 e3
   cases hr
   obtain⟨v,g1,g2⟩:=he _ _ e1
   obtain⟨w,g3,g4⟩:=he _ _ e2
   obtain⟨u,g5,g6⟩:=he _ _ e3
   exact⟨_,ResOK.three g1 g3 g5,[v,w,u],rfl,g2,g4,g6,trivial⟩
  ·cases hr
 ·cases hr
structure ResX (Γ:Cx) (e:EA) (o:List Res) (rs:List ResultVar) (k:AV→Prop):Prop where
 ok:∃a,k a∧(Γ.rs.toList=rs→∀env h G Os,Con Γ ⟨e,o⟩ env h G Os→∃v,ResOK Γ.P Γ.n Γ.rs env h v∧a.R h G v)
theorem ResX.tmps{rs:List ResultVar}{k:AV→Prop}(h:Lk (resA e rs) k) : ResX Γ e o rs k:=by
 obtain⟨a,ha,hk⟩:=h
 exact⟨a,hk,fun hr env h G Os cn=>resA_ok cn.env (by rw [hr];exact ha)⟩
instance {k:AV→Prop} : Sp (ResX Γ e o [] k) (k (.tup [])):=⟨fun h=>ResX.tmps ⟨_,rfl,h⟩⟩
instance {a:Tmp} {k:AV→Prop} : Sp (ResX Γ e o [.tmp a] k) (Lk (lookA e a) k):=⟨fun⟨x,h1,h2⟩=>ResX.tmps ⟨x,h1,h2⟩⟩
instance {a b:Tmp} {k:AV→Prop} : Sp (ResX Γ e o [.tmp a, .tmp b] k) (Lk (lookA e a) fun x=>Lk (lookA e b) fun y=>k (.tup [x,y])):=⟨fun⟨x,h1,y,h2,h3⟩=>ResX.tmps ⟨.tup [x,y],by simp [resA,h1,h2],h3⟩⟩
structure CelX (Γ:Cx) (e:EA) (o:List Res) (a:AV) (ty:TypeId) (k:AV→Prop):Prop where
 ok:∃cs,k (.agg cs)∧∀env h G Os v,Con Γ ⟨e,o⟩ env h G Os→a.R h G v→∃p vs ti fs,v= .pointer (some p)∧Γ.tt ty=some ti∧ti.kind= .struct fs∧ti.size=vs.length∧Cels h p vs∧RepL h G vs cs
instance {b:Nat} {ty:TypeId} {k:AV→Prop} : Sp (CelX Γ e o (.val (.pointer (some ⟨b,0,none⟩))) ty k) (TkB o b fun _ cs _=>Lk (stI Γ.tt ty) fun _=>Rf ((Γ.tt ty).map (fun ti=>ti.size)=some cs.length) (k (.agg cs))):=⟨fun⟨T,cs,rest,tk,q,hq,hz,hk⟩=>⟨cs,hk,fun env h G Os v cn hv=>by
 have hv:v=_:=hv
 subst hv
 obtain⟨O,Os',cn2⟩:=cn.take tk
 obtain⟨⟨_,vs,hb,hr⟩,_⟩:=cn2.hp.own
 obtain⟨ti,t1,t2,_,_⟩:=stI_spec hq
 refine⟨⟨b,0,none⟩,vs,ti,_,rfl,t1,t2, ?_,hb.cels0,hr⟩
 rw [t1] at hz
 simp only [Option.map_some,Option.some.injEq] at hz
 rw [hz,hr.t.len]⟩⟩
theorem results_cell1{fn:Func}{p:Tmp}{ty:TypeId}(h:fn.results=#[.cell p ty])(tmps:Array Value)(P:Program)(w:World) :
  (results fn tmps).run P w=((asAddr (tmps.getD p undef)).run P w).andThen fun a w₁=>(loadVar ty a).run P w₁:=by
 simp only [results,h]
 simp [Sem.run_bind,Result.andThen]
instance {a:Tmp} {ty:TypeId} {k:AV→Prop} : Sp (ResX Γ e o [.cell a ty] k) (Lk (lookA e a) fun x=>CelX Γ e o x ty k):=⟨fun⟨x,h1,cs,h2,h3⟩=>⟨.agg cs,h2,fun hr env h G Os cn=>by
 obtain⟨v,g1,g2⟩:=cn.env a x h1
 obtain⟨p,vs,ti,fs,rfl,t1,t2,t3,g3,g4⟩:=h3 env h G Os v cn g2
 have hrs:Γ.rs=#[.cell a ty]:=Array.ext' hr
 refine⟨.agg vs.toArray, ?_,vs,rfl,g4⟩
 rw [hrs]
 intro ac w fn ha hw hfr
 rw [results_cell1 hfr]
 have k1:=(Γ.ok.ok _ _ t1).run_agg' w t2
 have k2:=(Γ.ok.ok _ _ t1).run_size w
 have k3:=run_cels (P:=Γ.P) (w:=w) (a:=p) (l:=vs) (g3.shut hw)
 simp [ha.val _ _ g1,asAddr,loadVar,k1,k2,t3,k3]⟩⟩
instance {a b:Tmp} {ty:TypeId} {k:AV→Prop} : Sp (ResX Γ e o [.cell a ty, .tmp b] k) (Lk (lookA e a) fun x=>Lk (lookA e b) fun y=>CelX Γ e o x ty fun q=>k (.tup [q,y])):=⟨fun⟨x,h1,y,hy,cs,h2,h3⟩=>⟨.tup [.agg cs,y],h2,fun hr env h G Os cn=>by
 obtain⟨v,g1,g2⟩:=cn.env a x h1
 obtain⟨v2,g5,g6⟩:=cn.env b y hy
 obtain⟨p,vs,ti,fs,rfl,t1,t2,t3,g3,g4⟩:=h3 env h G Os v cn g2
 have hrs:Γ.rs=#[.cell a ty, .tmp b]:=Array.ext' hr
 refine⟨.tuple #[.agg vs.toArray,v2], ?_,[_,_],rfl,⟨vs,rfl,g4⟩,g6,trivial⟩
 rw [hrs]
 exact ResOK.cell1 Γ.ok t1 t2 g1 g3 t3 g5⟩⟩
theorem PA.fin(h:ResX Γ e o Γ.rs.toList fun a=>Fin Γ o a) :∀env hh G Os,Con Γ ⟨e,o⟩ env hh G Os→endR Γ env hh:=by
 obtain⟨a,⟨a',own,hs,hk⟩,hx⟩:=h
 intro env hh G Os cn
 obtain⟨v,g1,g2⟩:=hx rfl env hh G Os cn
 cases hs with
 | one hs =>
  obtain⟨G',Os',h1,h2,_⟩:=hs.rep (vs:= [v]) cn.hp ⟨g2,trivial⟩
  exact⟨v,a',own,G',Os',g1,hk,h2.1,h1⟩
 | tup hs =>
  obtain⟨vs,rfl,g3⟩:=g2
  obtain⟨G',Os',h1,h2,_⟩:=hs.rep cn.hp g3
  exact⟨_,_,own,G',Os',g1,hk,⟨vs,rfl,h2⟩,h1⟩
instance : Sp (PA Γ [] .ret e o) (Nm Γ.rs.toList fun rs=>ResX Γ e o rs fun a=>Fin Γ o a):=⟨fun h=>⟨fun env hh G Os cn=>PK.nil_ret (PA.fin h.ok env hh G Os cn)⟩⟩
instance : Sp (PA Γ [] .normal e o) (Nm Γ.rs.toList fun rs=>ResX Γ e o rs fun a=>Fin Γ o a):=⟨fun h=>⟨fun env hh G Os cn=>PK.nil_normal (PA.fin h.ok env hh G Os cn)⟩⟩
theorem Fin.p{a r:AV}(hk:Γ.K=fun q own=>q=r∧own= [])(h:a=r) : Fin Γ o a:=⟨a,[], .one (.same (.nil .nil)),by rw [hk];exact⟨h,rfl⟩⟩
def argA : Nat→List AV→EA
 | _,[]=> []
 | i,a :: r=>(i,a) :: argA (i+1) r
theorem look_argA{h:Heap}{G:Nat→Prop} :∀(asx:List AV) (vs:List Value) (i:Nat),RepT h G vs asx→∀t a,lookA (argA i asx) t=some a→∃v,look (argE i vs) t=some v∧a.R h G v
 | [],[],_,_,t,a,hl=>by simp [argA,lookA] at hl
 | b :: asx,v :: vs,i,⟨h1,h2⟩,t,a,hl=>by
  simp only [argA,argE,lookA_cons,look_cons] at hl ⊢
  by_cases hk:i=t
  ·rw [if_pos hk] at hl ⊢;cases hl;exact⟨v,rfl,h1⟩
  ·rw [if_neg hk] at hl ⊢;exact look_argA asx vs (i+1) h2 t a hl
theorem CallA.of{P:Program}{tt:Nat→Option TI}{en:Nat→Bool}(ok:PgOK P tt en)(T:Nat→Ord×(Nat→Cls)){f:FuncId}{fn:Func}{y:Code}{n:Nat}{rs:Array ResultVar}{asx:List AV}{own:List Res}{K:AV→List Res→Prop}(hf:P.funcs[f]?=some fn)(hb:fn.body=some y)(hn:fn.ntmps=n)(hr:fn.results=rs)(hl:Nat.ble asx.length n=true)
  (hc:∀h0 G0 O0,CA ⟨P,tt,en,ok,T,n,rs,K,h0,G0,O0,⟨none⟩⟩ [] y (argA 0 asx) own):CallA P f asx own K:=by
 refine⟨fun h G Os vs h1 h2=>?_⟩
 refine CallsH.of hf hb hn hr (by rw [h1.len];exact hl) (fun v ha hb hs ⟨r,own',G',Os',g2,g3,g4⟩=>⟨r,own',G',Os',g2,AV.stp _ (g4.shutF (fun b hb=>(h2.g b hb).1) hs) g3,g4.shut (fun b hb=>(h2.g b hb).1) hs⟩) (CW.mono (fun x e h' hq=>?_) ((hc h G (U Os)).h (argE 0 vs) h G Os ⟨h2,look_argA asx vs 0 h1,FpOK.none rfl⟩))
 have key:∀(R1 R2:Env→Heap→Prop),(∀e h,R1 e h→R2 e h)→∀x e h,PK P n R1 [] x e h→PK P n R2 [] x e h:=by
  intro R1 R2 h12 x e h hp
  unfold PK at hp ⊢
  cases x <;> first|exact h12 _ _ hp|exact hp
 exact key _ _ (fun e h' ⟨v,r,own',G',Os',g1,g2,g3,g4⟩=>⟨v,g1,r,own',G',Os',g2,g3,g4⟩) x e h' hq
end

/-! ### Flat structs of integers -/
inductive FV (P:Program) (t:TypeId):List Int→Value→Prop where
 | int {x:Int} : P.underlying t=some (.int .i64)→FV P t [x] (.int .i64 x)
 | st {fs:Array Field} {xs:List Int} : P.underlying t=some (.struct fs)→FV P t xs (.agg (xs.map (Value.int .i64)).toArray)
def offsOK(P:Program) : List Field→Nat→Nat→Bool
 | [],o,n=>Nat.beq o n
 | f :: fs,o,n=>Nat.beq f.offset o && f.name != "_" && offsOK P fs (o+P.cellsOf f.type) n
def flatI(P:Program) : Nat→TypeId→Bool
 | 0,_=>false
 | d+1,t=>match P.info? t with
  | none=>false
  | some i=>match P.underlying t with
   | some (.int .i64)=>Nat.beq i.size 1
   | some (.struct fs)=> !P.stoodInHeld t && offsOK P fs.toList 0 i.size && fs.toList.all fun f=>flatI P d f.type
   | _=>false
section
variable {P:Program}
theorem offsOK_le :∀{fs:List Field} {o n:Nat},offsOK P fs o n=true→o≤n
 | [],o,n,h=>by simp [offsOK] at h;omega
 | f :: fs,o,n,h=>by
  simp only [offsOK,Bool.and_eq_true] at h
  have:=offsOK_le h.2
  omega
theorem cells_info{t:TypeId}{i:TypeInfo}(h:P.info? t=some i) : P.cellsOf t=i.size:=by simp [Program.cellsOf,h]
theorem flatI_cases{d:Nat}{t:TypeId}(h:flatI P (d+1) t=true) : (P.underlying t=some (.int .i64)∧P.cellsOf t=1)∨∃fs i,P.info? t=some i∧P.underlying t=some (.struct fs)∧P.stoodInHeld t=false∧offsOK P fs.toList 0 (P.cellsOf t)=true∧∀f∈fs.toList,flatI P d f.type=true:=by
 unfold flatI at h
 split at h
 ·cases h
 ·rename_i i hi
  split at h
  ·rename_i hu
   exact .inl ⟨hu,by rw [cells_info hi];simpa using h⟩
  ·rename_i fs hu
   simp only [Bool.and_eq_true,Bool.not_eq_true',List.all_eq_true] at h
   exact .inr ⟨fs,i,hi,hu,h.1.1,by rw [cells_info hi];exact h.1.2,h.2⟩
  ·cases h
theorem FV.part{d:Nat}{t:TypeId}(h:flatI P (d+1) t=true){xs:List Int}{off:Nat}(hl:off+P.cellsOf t≤xs.length)(w:World) :
  ∃v,(part t (xs.map (Value.int .i64)).toArray off).run P w= .ok v w∧FV P t ((xs.drop off).take (P.cellsOf t)) v:=by
 rcases flatI_cases h with⟨hu,hc⟩|⟨fs,i,hi,hu,_,_,_⟩
 ·rw [hc] at hl ⊢
  obtain⟨x,hx⟩:∃x,xs[off]?=some x:=⟨_,zE (by omega)⟩
  have e1:(xs.drop off).take 1= [x]:=by
   have:xs.drop off=x :: xs.drop (off+1):=by rw [List.drop_eq_getElem_cons (by omega)];congr 1;rw [zE (by omega)] at hx;simpa using hx
   rw [this];rfl
  have hag:(isAgg t).run P w= .ok false w:=by simp [isAgg,run_underlying hu]
  refine⟨.int .i64 x, ?_,by rw [e1];exact .int hu⟩
  simp [Go.part,hag,hx]
 ·have hag:(isAgg t).run P w= .ok true w:=by simp [isAgg,run_underlying hu]
  have hsz:(sizeOf t).run P w= .ok (P.cellsOf t) w:=by simp [sizeOf,typeInfo,hi,Program.cellsOf]
  refine⟨.agg (((xs.drop off).take (P.cellsOf t)).map (Value.int .i64)).toArray, ?_, .st hu⟩
  simp [Go.part,hag,hsz,List.map_take,List.map_drop]
theorem eq_flat :∀(d:Nat) (t:TypeId),flatI P d t=true→∀(D:Nat),d≤D→∀(xs ys:List Int) (vx vy:Value),xs.length=P.cellsOf t→ys.length=P.cellsOf t→FV P t xs vx→FV P t ys vy→∀w,(Op.equalIn D t vx vy).run P w= .ok (decide (xs=ys)) w
 | 0,t,h=>by simp [flatI] at h
 | d+1,t,h=>by
  intro D hD xs ys vx vy hlx hly hx hy w
  obtain⟨D,rfl⟩:∃D',D=D'+1:=⟨D - 1,by omega⟩
  rcases flatI_cases h with⟨hu,hc⟩|⟨fs,i,hi,hu,hs,ho,ha⟩
  ·cases hx with
   | st h'=>rw [hu] at h';cases h'
   | int _ =>
    cases hy with
    | st h'=>rw [hu] at h';cases h'
    | int _ =>
     rw [run_equalIn_int w D t .i64 .i64 _ _ hu]
     congr 1
     rw [Bool.eq_iff_iff]
     simp
  ·cases hx with
   | int h'=>rw [hu] at h';cases h'
   | st _ =>
    cases hy with
    | int h'=>rw [hu] at h';cases h'
    | st _ =>
     have hf:P.fieldsOf t=fs:=by simp [Program.fieldsOf,hu]
     rw [run_equalIn_agg w D t _ _ (by rw [hf];exact hu) hs,hf]
     have key:∀(l:List Field) (off:Nat),(∀f∈l,flatI P d f.type=true)→offsOK P l off (P.cellsOf t)=true→
       (Op.eqFields D (xs.map (Value.int .i64)).toArray (ys.map (Value.int .i64)).toArray l).run P w= .ok (decide (xs.drop off=ys.drop off)) w:=by
      intro l
      induction l with
      | nil =>
       intro off _ ho
       have:off=P.cellsOf t:=by simpa [offsOK] using ho
       subst this
       rw [List.drop_of_length_le (by omega),List.drop_of_length_le (by omega)]
       simp [Op.eqFields]
      | cons f l ih =>
       intro off hfl ho
       simp only [offsOK,Bool.and_eq_true] at ho
       obtain⟨⟨h1,h2⟩,h3⟩:=ho
       have h1:f.offset=off:=by simpa using h1
       have hle:=offsOK_le h3
       have hff:=hfl f (by simp)
       obtain⟨d',rfl⟩:∃d',d=d'+1:=by cases d with
        | zero=>simp [flatI] at hff
        | succ d'=>exact⟨d',rfl⟩
       obtain⟨va,ra,fa⟩:=FV.part hff (xs:=xs) (off:=off) (by omega) w
       obtain⟨vb,rb,fb⟩:=FV.part hff (xs:=ys) (off:=off) (by omega) w
       have hr:=eq_flat (d'+1) f.type hff D (by omega) _ _ va vb (by rw [zN,List.length_drop];omega) (by rw [zN,List.length_drop];omega) fa fb w
       have hn:f.name≠"_":=by simpa using h2
       have e1:∀zs:List Int,zs.drop off=(zs.drop off).take (P.cellsOf f.type) ++ zs.drop (off+P.cellsOf f.type):=fun zs=>by
        rw [←List.drop_drop,List.take_append_drop]
       simp only [Op.eqFields,h1,Sem.run_ite,if_pos hn,Sem.run_bind,ra,rb,hr,Result.andThen_ok]
       by_cases he:(xs.drop off).take (P.cellsOf f.type)=(ys.drop off).take (P.cellsOf f.type)
       ·rw [zT he]
        simp only [Bool.not_true,Bool.false_eq_true,if_false]
        rw [ih (off+P.cellsOf f.type) (fun g hg=>hfl g (by simp [hg])) h3]
        congr 1
        refine zD.2 ⟨fun h9=>by rw [e1 xs,e1 ys,he,h9],fun h9=>?_⟩
        rw [←List.drop_drop,←List.drop_drop,h9]
       ·rw [zF he]
        simp only [Bool.not_false,if_true,Sem.run_pure]
        congr 1
        exact(zF (fun h9=>he (by rw [h9]))).symm
     have:=key fs.toList 0 ha ho
     simpa using this
theorem check_flat(e:Bool) :∀(d:Nat) (t:TypeId),flatI P d t=true→∀(D:Nat),d≤D→∀(xs:List Int) (v:Value),xs.length=P.cellsOf t→FV P t xs v→∀w,(Instr.checkKey e D t v).run P w= .ok () w
 | 0,t,h=>by simp [flatI] at h
 | d+1,t,h=>by
  intro D hD xs v hl hv w
  obtain⟨D,rfl⟩:∃D',D=D'+1:=⟨D - 1,by omega⟩
  rcases flatI_cases h with⟨hu,hc⟩|⟨fs,i,hi,hu,hs,ho,ha⟩
  ·cases hv with
   | st h'=>rw [hu] at h';cases h'
   | int _=>simp [Instr.checkKey,run_underlying hu]
  ·cases hv with
   | int h'=>rw [hu] at h';cases h'
   | st _ =>
    simp only [Instr.checkKey,Sem.run_bind,run_underlying hu,Result.andThen_ok]
    rw [←Array.forIn_toList]
    clear hu hi hs
    generalize fs.toList=l at ho ha ⊢
    generalize (0:Nat)=off at ho
    induction l generalizing off with
    | nil=>simp
    | cons f l ih =>
     simp only [offsOK,Bool.and_eq_true] at ho
     obtain⟨⟨h1,h2⟩,h3⟩:=ho
     have h1:f.offset=off:=by simpa using h1
     have hle:=offsOK_le h3
     have hff:=ha f (by simp)
     obtain⟨d',rfl⟩:∃d',d=d'+1:=by cases d with
      | zero=>simp [flatI] at hff
      | succ d'=>exact⟨d',rfl⟩
     obtain⟨va,ra,fa⟩:=FV.part hff (xs:=xs) (off:=off) (by omega) w
     have hr:=check_flat e (d'+1) f.type hff D (by omega) _ va (by rw [zN,List.length_drop];omega) fa w
     have hn:f.name≠"_":=by simpa using h2
     have ih':=ih (fun g hg=>ha g (by simp [hg])) (off+P.cellsOf f.type) h3
     simp only [List.forIn_cons,h1,if_pos hn,Sem.run_bind,ra,hr,Result.andThen_ok,Sem.run_pure]
     exact ih'
end
/-! ### Equality of structs -/
structure Kf (p k:Prop):Prop where
 p:p
 k:k
inductive ILit:List AV→List Int→Prop where
 | nil:ILit [] []
 | cons {x:Int} {l:List AV} {xs:List Int} : ILit l xs→ILit (.val (.int .i64 x) :: l) (x :: xs)
theorem ILit.rep{h:Heap}{G:Nat→Prop} :∀{cs:List AV} {xs:List Int} {vs:List Value},ILit cs xs→RepT h G vs cs→vs=xs.map (Value.int .i64)
 | _,_,vs, .nil,hr=>by match vs,hr with | [],_=>rfl
 | _,_,vs, .cons h1,hr=>by
  match vs,hr with
  | v :: vs,⟨g1,g2⟩=>rw [h1.rep g2,show v=_ from g1];rfl
structure Il (cs:List AV) (M:List Int→Prop):Prop where
 ok:∃xs,ILit cs xs∧M xs
theorem Il.r{cs:List AV}{M:List Int→Prop}{xs:List Int}(h:ILit cs xs)(hm:M xs) : Il cs M:=⟨xs,h,hm⟩
section
variable {Γ:Cx} {k:List KI} {e:EA} {o:List Res} {N:NA} {c:Cls} {d:Tmp} {ty:TypeId} {x y z:Operand} {t u:TypeId} {kk:IntKind} {i:Int}
theorem flat_st{P:Program}{t:TypeId}(hf:flatI P 4 t=true)(h2:2≤P.cellsOf t) :∃fs,P.underlying t=some (.struct fs):=by
 rcases flatI_cases hf with⟨_,h⟩|⟨fs,_,_,h,_⟩
 ·omega
 ·exact⟨fs,h⟩
/-! ### Is a slice nil? -/
instance {α:Type} {sz:Nat} {l:List α} {f:α→List AV} {m cp:Nat} : Sp (Ap2 Γ c d (.binOp .eql t x y u) ty e o N x (.sl sz l f) y (.val (.slice none m cp))) (Lk (slE Γ.tt t) fun _=>All fun b:Bool=>Im (l≠ []→b=false) (N ((d, .val (.bool b)) :: e) o)):=⟨fun⟨p,hp,hn⟩=>pu2 fun env h G v w g1 g2 r1 r2=>by
 obtain⟨rows,hs,_,_⟩:=AV.sl_stp r1
 obtain⟨q,cap,rfl⟩:=hs.shape
 have r2:w=_:=r2
 subst r2
 obtain⟨ti,t1,t2,t3⟩:=slE_spec hp
 refine⟨.val (.bool q.isNone),_,rfl,(hn.ok q.isNone).k fun hne=>?_,fun _ hk=>St.eql_snil Γ.ok t1 t2 g1 g2 hk⟩
 obtain⟨_,⟨h0,_⟩|⟨b,of,cp,rs,e1,_⟩⟩:=r1
 ·exact absurd h0 hne
 ·cases e1;rfl⟩
instance {v:Value} {m cp:Nat} : Sp (Ap2 Γ c d (.binOp .eql t x y u) ty e o N x (.ow v) y (.val (.slice none m cp))) (Lk (slE Γ.tt t) fun _=>TkA o v fun _ _ l _ _=>All fun b:Bool=>Im (l≠ []→b=false) (N ((d, .val (.bool b)) :: e) o)):=⟨fun⟨p,hp,α,T,sz,l,f,rest,tk,hn⟩=>⟨fun ha hb=>⟨fun env hh G Os cn=>by
 obtain⟨w,h1,rfl,q,len,cap,rfl⟩:=cn.get ha
 obtain⟨w',h2,h3⟩:=cn.get hb
 have h3:w'=_:=h3
 subst h3
 obtain⟨O,Os',cn2⟩:=cn.take tk
 obtain⟨⟨_,rows,hw,_⟩,_⟩:=cn2.hp.own
 obtain⟨ti,t1,t2,t3⟩:=slE_spec hp
 refine St.eql_snil Γ.ok t1 t2 h1 h2 (CN.mk (cn.put d (a:= .val (.bool q.isNone)) rfl) ((hn.ok q.isNone).k fun hne=>?_))
 rcases hw.ok with⟨_,e2⟩|⟨b',of,cap',L,e1,_⟩
 ·exact absurd (zQ e2) hne
 ·cases e1;rfl⟩⟩⟩
end

def fE : List MapEntry→List (List Int)→List Int→Nat→Option (Nat×Value)
 | e :: es,k :: ks,xs,i=>if xs=k then some (i,e.val) else fE es ks xs (i+1)
 | _,_,_,_=>none
def lookL{β:Type}(kvs:List (List Int×β))(xs:List Int) : Option β:=(kvs.find? fun p=>decide (p.1=xs)).map (·.2)
def updL{β:Type} : List (List Int×β)→List Int→β→List (List Int×β)
 | [],xs,v=> [(xs,v)]
 | (k,u) :: r,xs,v=>if k=xs then(k,v) :: r else(k,u) :: updL r xs v
theorem lookL_upd{β:Type} :∀(kvs:List (List Int×β)) (xs ys:List Int) (v:β),lookL (updL kvs xs v) ys=if ys=xs then some v else lookL kvs ys
 | [],xs,ys,v=>by
  simp only [updL,lookL,List.find?_cons,List.find?_nil]
  by_cases h:xs=ys
  ·subst h;simp
  ·have h':¬ys=xs:=fun e=>h e.symm
   simp [h,h']
 | (k,u) :: r,xs,ys,v=>by
  have ih:=lookL_upd r xs ys v
  simp only [updL]
  by_cases hk:k=xs
  ·subst hk
   simp only [if_true,lookL,List.find?_cons]
   by_cases h:k=ys
   ·subst h;simp
   ·have h':¬ys=k:=fun e=>h e.symm
    simp [h,h']
  ·simp only [hk,if_false,lookL,List.find?_cons] at ih ⊢
   by_cases h:k=ys
   ·subst h;simp [hk]
   ·simp only [h,decide_false];exact ih
structure KeysOK (P:Program) (kt:TypeId) (es:List MapEntry) (ks:List (List Int)):Prop where
 len:es.length=ks.length
 key:∀(i:Nat) (e:MapEntry) (k:List Int),es[i]?=some e→ks[i]?=some k→FV P kt k e.key∧k.length=P.cellsOf kt
theorem KeysOK.tail{P:Program}{kt:TypeId}{e:MapEntry}{es:List MapEntry}{k:List Int}{ks:List (List Int)}(h:KeysOK P kt (e :: es) (k :: ks)) : KeysOK P kt es ks :=
 ⟨by simpa using h.len,fun i a b h1 h2=>h.key (i+1) a b (by simpa using h1) (by simpa using h2)⟩
theorem find_flat{P:Program}{kt:TypeId}(hf:flatI P 4 kt=true){xs:List Int}{kv:Value}(hk:FV P kt xs kv)(hl:xs.length=P.cellsOf kt)(es:List MapEntry)(ks:List (List Int))(ho:KeysOK P kt es ks)(w:World) :
  (Instr.findKey kt kv es).run P w= .ok (fE es ks xs 0) w:=by
 have hask:∀(es:List MapEntry) (ks:List (List Int)) (i:Nat),KeysOK P kt es ks→(Instr.findAsking kt kv es i).run P w= .ok (fE es ks xs i) w:=by
  intro es
  induction es with
  | nil=>intro ks i _;simp [Instr.findAsking,fE]
  | cons e es ih =>
   intro ks i ho
   match ks,ho with
   | [],ho=>have:=ho.len;simp at this
   | k :: ks,ho =>
    obtain⟨h1,h2⟩:=ho.key 0 e k rfl rfl
    have he:=eq_flat 4 kt hf 10000 (by decide) xs k kv e.key hl h2 hk h1 w
    have ih':=ih ks (i+1) ho.tail
    simp only [Instr.findAsking,Op.equal,Op.maxDepth,Sem.run_bind,he,Result.andThen_ok,fE]
    by_cases hx:xs=k
    ·subst hx;simp
    ·simp only [hx,decide_false,Bool.false_eq_true,if_false];exact ih'
 rcases flatI_cases hf with⟨hu,hc⟩|⟨fs,_,_,hu,_⟩
 ·have hnow:∀(es:List MapEntry) (ks:List (List Int)) (i:Nat),KeysOK P kt es ks→Instr.findNow (.int .i64) kv es i=some (fE es ks xs i):=by
   intro es
   induction es with
   | nil=>intro ks i _;simp [Instr.findNow,fE]
   | cons e es ih =>
    intro ks i ho
    match ks,ho with
    | [],ho=>have:=ho.len;simp at this
    | k :: ks,ho =>
     obtain⟨h1,h2⟩:=ho.key 0 e k rfl rfl
     have ih':=ih ks (i+1) ho.tail
     cases hk with
     | st h'=>rw [hu] at h';cases h'
     | @int x _ =>
      generalize hek:e.key=ek at h1
      cases h1 with
      | st h'=>rw [hu] at h';cases h'
      | @int y _ =>
       simp only [Instr.findNow,hek,Instr.sameNow,if_true,fE]
       by_cases hx:x=y
       ·subst hx;simp
       ·have h3:(x == y)=false:=by simpa using hx
        have h4:¬ [x]= [y]:=by simpa using hx
        simp only [h3,h4,if_false];exact ih'
  simp only [Instr.findKey,Sem.run_bind,run_underlying hu,Result.andThen_ok,hnow es ks 0 ho,Sem.run_pure]
 ·cases es with
  | nil =>
   simp only [Instr.findKey,Sem.run_bind,run_underlying hu,Result.andThen_ok,Instr.findNow,Sem.run_pure,fE]
  | cons e es =>
   have hn:Instr.findNow (.struct fs) kv (e :: es) 0=none:=by
    simp [Instr.findNow,Instr.sameNow]
   simp only [Instr.findKey,Sem.run_bind,run_underlying hu,Result.andThen_ok,hn]
   exact hask (e :: es) ks 0 ho
def Stmp(es:List MapEntry)(cl:Nat) : Prop:=(∀e∈es,e.born < cl)∧(es.map (·.born)).Nodup
def mapR(P:Program){β:Type}(b:Nat)(kt:TypeId)(kvs:List (List Int×β))(f:β→AV) : Res :=
  ⟨fun h O G=>(∀x,O x↔x=b)∧∃es clock,h[b]?=some (.map es clock)∧KeysOK P kt es.toList (kvs.map (·.1))∧(∀(i:Nat) (e:MapEntry) (p:List Int×β),es.toList[i]?=some e→kvs[i]?=some p→(f p.2).R h G e.val)∧Stmp es.toList clock,
   by rintro h h' O G x ⟨ho,es,cl,h1,h2,h3,h4⟩;exact⟨ho,es,cl,(x.same b (.inl ((ho b).2 rfl)) (zA.1 h1).1).trans h1,h2,fun i e p g1 g2=>(f p.2).stp (x.mono fun _=> .inr) (h3 i e p g1 g2),h4⟩,
   by rintro h O G G' x ⟨ho,es,cl,h1,h2,h3,h4⟩;exact⟨ho,es,cl,h1,h2,fun i e p g1 g2=>(f p.2).mono x (h3 i e p g1 g2),h4⟩,
   by rintro h O G ⟨ho,es,cl,h1,_⟩ y hy;rw [(ho y).1 hy];exact NC.of h1 rfl⟩
structure TkM (P:Program) (o:List Res) (b:Nat) (k:∀{β:Type},TypeId→List (List Int×β)→(β→AV)→List Res→Prop):Prop where
 ok:∃(β:Type) (kt:TypeId) (kvs:List (List Int×β)) (f:β→AV) (rest:List Res),Take o (mapR P b kt kvs f) rest∧k kt kvs f rest
theorem TkM.r{β:Type}{P:Program}{o rest:List Res}{b:Nat}{k:∀{β:Type},TypeId→List (List Int×β)→(β→AV)→List Res→Prop}{kt:TypeId}{kvs:List (List Int×β)}{f:β→AV}(h:Take o (mapR P b kt kvs f) rest)(hk:k kt kvs f rest) : TkM P o b k:=⟨β,kt,kvs,f,rest,h,hk⟩
structure MkM (k:∀{β:Type},(β→AV)→Prop):Prop where
 ok:∃(β:Type) (f:β→AV),k f
theorem MkM.r{β:Type}{k:∀{β:Type},(β→AV)→Prop}(f:β→AV)(h:k f) : MkM k:=⟨β,f,h⟩
structure Ky (a:AV) (M:List Int→Prop):Prop where
 ok:∃xs,M xs∧((∃x,xs= [x]∧a= .val (.int .i64 x))∨∃cs,a= .agg cs∧ILit cs xs∧2≤xs.length)
instance {x:Int} {M:List Int→Prop} : Sp (Ky (.val (.int .i64 x)) M) (M [x]):=⟨fun h=>⟨[x],h, .inl ⟨x,rfl,rfl⟩⟩⟩
structure UpV {β:Type} (f:β→AV) (a:AV) (k:β→Prop):Prop where
 ok:∃v,f v=a∧k v
theorem UpV.r{β:Type}{f:β→AV}{a:AV}{k:β→Prop}{v:β}(h:f v=a)(hk:k v) : UpV f a k:=⟨v,h,hk⟩
structure LkM {β:Type} (q:Option β) (X:β→Prop) (Y:Prop):Prop where
 x:∀v,q=some v→X v
 y:q=none→Y
theorem LkM.s{β:Type}{q:Option β}{X:β→Prop}{Y:Prop}{v:β}(h:q=some v)(hx:X v) : LkM q X Y:=⟨fun w hw=>(by rw [h] at hw;cases hw;exact hx),fun hn=>(by rw [h] at hn;cases hn)⟩
theorem LkM.n{β:Type}{q:Option β}{X:β→Prop}{Y:Prop}(h:q=none)(hy:Y) : LkM q X Y:=⟨fun w hw=>(by rw [h] at hw;cases hw),fun _=>hy⟩
def mpE(tt:Nat→Option TI)(t:Nat) : Option (Nat×Nat×TI):=match tt t with
 | some ti=>match ti.kind with
  | .map k e=>match tt e with
   | some te=>some (k,e,te)
   | none=>none
  | _=>none
 | none=>none
theorem mpE_spec{tt:Nat→Option TI}{t:Nat}{p:Nat×Nat×TI}(h:mpE tt t=some p) :∃ti,tt t=some ti∧ti.kind= .map p.1 p.2.1∧tt p.2.1=some p.2.2:=by
 unfold mpE at h
 split at h
 ·rename_i ti h1
  split at h
  ·rename_i k e h2
   split at h
   ·rename_i te h3
    cases h
    exact⟨ti,h1,h2,h3⟩
   ·cases h
  ·cases h
 ·cases h
theorem fE_spec{β:Type} :∀(es:List MapEntry) (kvs:List (List Int×β)) (xs:List Int) (i:Nat),es.length=kvs.length→
  (fE es (kvs.map (·.1)) xs i=none∧lookL kvs xs=none∧(∀v,updL kvs xs v=kvs ++ [(xs,v)]))∨∃j e v,fE es (kvs.map (·.1)) xs i=some (i+j,e.val)∧es[j]?=some e∧kvs[j]?=some (xs,v)∧lookL kvs xs=some v∧∀u,updL kvs xs u=kvs.set j (xs,u)
 | [],[],xs,i,_=> .inl ⟨rfl,rfl,fun _=>rfl⟩
 | [],_ :: _,_,_,h=>by simp at h
 | _ :: _,[],_,_,h=>by simp at h
 | e :: es,(k,v) :: kvs,xs,i,h=>by
  by_cases hx:xs=k
  ·subst hx
   refine .inr ⟨0,e,v, ?_,rfl,rfl, ?_,fun u=>?_⟩
   ·simp [fE]
   ·simp [lookL]
   ·simp [updL]
  ·have hx':¬k=xs:=fun e=>hx e.symm
   rcases fE_spec es kvs xs (i+1) (by simpa using h) with⟨h1,h2,h3⟩|⟨j,e',v',h1,h2,h3,h4,h5⟩
   ·refine .inl ⟨?_, ?_,fun u=>?_⟩
    ·simp only [List.map_cons,fE,hx,if_false];exact h1
    ·simp only [lookL,List.find?_cons,hx',decide_false] at h2 ⊢;exact h2
    ·simp only [updL,hx',if_false,h3 u,List.cons_append]
   ·refine .inr ⟨j+1,e',v', ?_,by simpa using h2,by simpa using h3, ?_,fun u=>?_⟩
    ·simp only [List.map_cons,fE,hx,if_false,h1];congr 2;omega
    ·simp only [lookL,List.find?_cons,hx',decide_false] at h4 ⊢;exact h4
    ·simp only [updL,hx',if_false,h5 u,List.set_cons_succ]
theorem fv_same{P:Program}{kt:TypeId}{xs:List Int}{v w:Value}(h1:FV P kt xs v)(h2:FV P kt xs w) : v=w:=by
 cases h1 with
 | int hu=>cases h2 with
  | int _=>rfl
  | st h'=>rw [hu] at h';cases h'
 | st hu=>cases h2 with
  | int h'=>rw [hu] at h';cases h'
  | st _=>rfl
theorem same_bits{P:Program}{kt:TypeId}{xs:List Int}{v:Value}(h:FV P kt xs v) : Instr.sameBits 10000 v v=true:=by
 cases h with
 | int _=>simp [Instr.sameBits]
 | st _ =>
  simp only [Instr.sameBits,beq_self_eq_true,Bool.true_and,List.all_eq_true]
  intro p hp
  obtain⟨a,b⟩:=p
  have hab:a=b∧a∈xs.map (Value.int .i64):=by
   generalize (xs.map (Value.int .i64))=l at hp
   induction l with
   | nil=>simp at hp
   | cons q l ih =>
    simp only [List.zip_cons_cons,List.mem_cons,Prod.mk.injEq] at hp
    rcases hp with⟨rfl,rfl⟩|hp
    ·exact⟨rfl,by simp⟩
    ·obtain⟨h1,h2⟩:=ih hp;exact⟨h1,by simp [h2]⟩
  obtain⟨rfl,hm⟩:=hab
  obtain⟨x,_,rfl⟩:=List.mem_map.1 hm
  simp [Instr.sameBits]

section
variable {Γ:Cx} {k:List KI} {e:EA} {o:List Res} {N:NA} {c:Cls} {d:Tmp} {ty:TypeId} {x y z:Operand} {t u:TypeId}
instance : Sp (SA Γ c (some d) (.makeMap t none) ty e o N) (Rf (acts c=true) (Lk (mpE Γ.tt t) fun p=>MkM fun {_} f=>All fun b:Nat=>N ((d, .val (.map (some b))) :: e) (mapR Γ.P b p.1 [] f :: o))):=⟨fun⟨hc,p,hp,β,f,hn⟩=>⟨fun env hh G Os cn=>by
 refine St.makeMap hc .i64 fun b h' hm hst hb hsz=>?_
 obtain⟨es,cl,h1,h2⟩:=hm.ok
 have he:es=#[]:=by
  have:es.toList= []:=by simpa using h2
  exact Array.ext' this
 subst he
 have cn2:=cn.emp.upd (h':=h') (R':=mapR Γ.P b p.1 ([]:List (List Int×β)) f) (O':=fun y=>y=b) ⟨hst.size,fun y _ hl=>hst.same y hl (by simp)⟩ (fun y hy=>by subst hy;omega) ⟨fun y=>Iff.rfl,#[],cl,h1,⟨rfl,fun i e k h=>by simp at h⟩,fun i e p h=>by simp at h,by simp [Stmp]⟩
 exact CN.mk (cn2.put d (a:= .val _) rfl) (hn.ok b)⟩⟩
structure Mup (Γ:Cx) (c:Cls) (op:Op) (t:TypeId) (x y z:Operand) (ty:TypeId) (e:EA) (o:List Res) (N:NA) (m key v:AV):Prop where
 h:(op= .insert t x y z∨op= .mapUpdate t x y z)→evA e x=some m→evA e y=some key→evA e z=some v→isLoud c=true→SA Γ c none op ty e o N
instance : Sp (SA Γ c none (.insert t x y z) ty e o N) (Rf (isLoud c=true) (Lk (evA e x) fun m=>Lk (evA e y) fun key=>Lk (evA e z) fun v=>Mup Γ c (.insert t x y z) t x y z ty e o N m key v)):=⟨fun⟨hc,_,h1,_,h2,_,h3,h⟩=>h.h (.inl rfl) h1 h2 h3 hc⟩
def isI(P:Program)(t:TypeId) : Bool:=match P.underlying t with
 | some (.int .i64)=>true
 | _=>false
theorem isI_spec{P:Program}{t:TypeId}(h:isI P t=true) : P.underlying t=some (.int .i64):=by
 unfold isI at h
 split at h
 ·assumption
 ·cases h
def kyOK(P:Program)(kt:TypeId)(n:Nat) : Bool:=flatI P 4 kt && Nat.beq n (P.cellsOf kt) && (Nat.ble 2 n || isI P kt)
theorem kyOK_fv{P:Program}{kt:TypeId}{a:AV}{xs:List Int}{h:Heap}{G:Nat→Prop}{v:Value}(hk:kyOK P kt xs.length=true)(h2:(∃x,xs= [x]∧a= .val (.int .i64 x))∨∃cs,a= .agg cs∧ILit cs xs∧2≤xs.length)(hr:a.R h G v) : flatI P 4 kt=true∧xs.length=P.cellsOf kt∧FV P kt xs v:=by
 simp only [kyOK,Bool.and_eq_true,Bool.or_eq_true] at hk
 obtain⟨⟨h3,h4⟩,h5⟩:=hk
 have h4:=Nat.eq_of_beq_eq_true h4
 refine⟨h3,h4, ?_⟩
 rcases h2 with⟨x,rfl,rfl⟩|⟨cs,rfl,hi,h6⟩
 ·have hr:v=_:=hr
  subst hr
  rcases h5 with h5|h5
  ·simp at h5
  ·exact .int (isI_spec h5)
 ·obtain⟨vs,rfl,hv⟩:=hr
  obtain⟨fs,hu⟩:=flat_st h3 (by omega)
  rw [hi.rep hv.t]
  exact .st hu
theorem ld_mapU{P:Program}{tt:Nat→Option TI}{en:Nat→Bool}(ok:PgOK P tt en){n:Nat}{env:Env}{h:Heap}{op:Op}{K:Value→Heap→Prop}{p:Nat×Nat×TI}{b:Nat}{xs:List Int}{kv vv:Value}{es:Array MapEntry}{cl:Nat}{ks:List (List Int)}(hop:op= .insert t x y z∨op= .mapUpdate t x y z)(hp:mpE tt t=some p)(hf:flatI P 4 p.1=true)(hl:xs.length=P.cellsOf p.1)(hfv:FV P p.1 xs kv)
  (hx:ev env x=some (.map (some b))) (hy:ev env y=some kv) (hz:ev env z=some vv) (hb:h[b]?=some (.map es cl)) (ho:KeysOK P p.1 es.toList ks)
  (kn:fE es.toList ks xs 0=none→∀h',h'=h.setIfInBounds b (.map (es.push { key:=kv,val:=vv,born:=cl }) (cl+1))→K undef h')
  (ks':∀j u,fE es.toList ks xs 0=some (j,u)→(∃e,es[j]?=some e∧e.key=kv)∧∀h',h'=h.setIfInBounds b (.map (es.modify j fun e=>{ e with key:=kv,val:=vv }) cl)→K undef h'):Ld P n op ty env h K:=by
 intro a w oo next Q ha hw hoo hty hn
 obtain⟨ti,t1,t2,t3⟩:=mpE_spec hp
 have hmu:=(ok.ok _ _ t1).map t2
 have hb':w.heap[b]?=some (.map es cl):=hw▸hb
 have hfk:=find_flat hf hfv hl es.toList ks ho w
 have hck:∀bb,(Instr.checkKey bb 10000 p.1 kv).run P w= .ok () w:=fun bb=>check_flat bb 4 p.1 hf 10000 (by decide) xs kv hl hfv w
 have fin:∀es' cl',(Instr.mapUpdate t (.map (some b)) kv vv).run P w= .ok () { w with heap:=w.heap.setIfInBounds b (.map es' cl') }→K undef (h.setIfInBounds b (.map es' cl'))→oo.upon P a next Q ((execOp a.eval oo).run P w):=by
  intro es' cl' hr hk
  have hrun:(execOp a.eval (mkOp op ty)).run P w= .ok .skip { w with heap:=w.heap.setIfInBounds b (.map es' cl') }:=by
   rcases hop with rfl|rfl <;> simp [mkOp,execOp,ha.ev hx,ha.ev hy,ha.ev hz,hr]
  rw [exec_mk,hoo,hty,hrun]
  exact hn _ _ (Same.of_set hb' rfl rfl) (by simp only [hw];exact hk)
 unfold Oper.wp
 cases hfe:fE es.toList ks xs 0 with
 | none =>
  rw [hfe] at hfk
  refine fin _ _ ?_ (kn hfe _ rfl)
  simp only [Instr.mapUpdate,Sem.run_bind,run_underlying hmu,Result.andThen_ok,MapKept.run_getObj_map hb',hck,hfk,MapKept.run_setObj_map _ hb']
 | some q =>
  obtain⟨j,u⟩:=q
  rw [hfe] at hfk
  obtain⟨⟨e0,he0,he0'⟩,hk⟩:=ks' j u hfe
  refine fin _ _ ?_ (hk _ rfl)
  have hkeep:(Instr.keyThatStays kv kv).run P w= .ok kv w:=by
   unfold Instr.keyThatStays
   rw [same_bits hfv];simp
  simp only [Instr.mapUpdate,Sem.run_bind,run_underlying hmu,Result.andThen_ok,MapKept.run_getObj_map hb',hck,hfk,he0,Option.map_some,Option.getD_some,he0',hkeep,MapKept.run_setObj_map _ hb']
instance {op:Op} {b:Nat} {key v:AV} : Sp (Mup Γ c op t x y z ty e o N (.val (.map (some b))) key v) (Lk (mpE Γ.tt t) fun p=>TkM Γ.P o b fun kt kvs f rest=>Ky key fun xs=>Rf (kt=p.1) (Kf (kyOK Γ.P kt xs.length=true) (UpV f v fun w=>N e (mapR Γ.P b kt (updL kvs xs w) f :: rest)))):=⟨fun⟨p,hp,β,kt,kvs,f,rest,tk,xs,⟨hkt,hky,v',hv',hn⟩,h2⟩=>⟨fun hop ha hb hv hc=>⟨fun env hh G Os cn=>by
 subst hkt
 obtain⟨m,g1,rfl⟩:=cn.get ha
 obtain⟨kv,g2,r2⟩:=cn.get hb
 obtain⟨vv,g3,r3⟩:=cn.get hv
 obtain⟨hf,hl,hfv⟩:=kyOK_fv hky h2 r2
 obtain⟨O,Os',cn2⟩:=cn.take tk
 obtain⟨⟨ho,es,cl,hb0,hko,hvs,hsm⟩,_⟩:=cn2.hp.own
 have hlt:=(zA.1 hb0).1
 have hlen:es.toList.length=kvs.length:=by have:=hko.len;simpa using this
 have fin:∀es' cl' kvs' h',h'=hh.setIfInBounds b (.map es' cl')→KeysOK Γ.P p.1 es'.toList (kvs'.map (·.1))→(∀(i:Nat) (en:MapEntry) (q:List Int×β),es'.toList[i]?=some en→kvs'[i]?=some q→(f q.2).R hh G en.val)→kvs'=updL kvs xs v'→Stmp es'.toList cl'→CN Γ N env h':=by
  intro es' cl' kvs' h' e1 hk' hv2 e2 hsm'
  subst e1;subst e2
  have hx:FPx (fun y=>¬O y) hh (hh.setIfInBounds b (.map es' cl')):=⟨by simp,fun y hy hl=>by rw [Array.getElem?_setIfInBounds,if_neg (fun e9=>hy ((ho y).2 e9.symm))]⟩
  have hg:FPx G hh (hh.setIfInBounds b (.map es' cl')):=hx.mono fun y hy hoy=>(cn2.hp.o O (by simp) y hoy).2.2 hy
  exact CN.mk (cn2.upd (R':=mapR Γ.P b p.1 (updL kvs xs v') f) (O':=O) hx (fun y hy=>⟨by have:=(cn2.hp.o O (by simp) y hy).1;simpa using this, .inl hy⟩) ⟨ho,es',cl',by simp [hlt],hk',fun i en q h7 h8=>AV.stp _ hg (hv2 i en q h7 h8),hsm'⟩) hn
 refine .ofLd hc (ld_mapU Γ.ok hop hp hf hl hfv g1 g2 g3 hb0 hko (fun hfe h' he=>?_) (fun j u hfe=>?_))
 ·rcases fE_spec es.toList kvs xs 0 hlen with⟨_,_,q3⟩|⟨j,en,v,q1,_⟩
  ·refine fin _ _ (kvs ++ [(xs,v')]) h' he ⟨by simp;simpa using hlen,fun i en k h7 h8=>?_⟩ (fun i en q h7 h8=>?_) (q3 v').symm ⟨fun en hen=>?_, ?_⟩
   ·rw [Array.toList_push] at h7
    rw [List.map_append] at h8
    by_cases hi:i < es.toList.length
    ·rw [zI hi] at h7
     rw [zI (by rw [List.length_map,←hlen];exact hi)] at h8
     exact hko.key i en k h7 h8
    ·rw [zJ (by omega)] at h7
     rw [zJ (by rw [List.length_map];omega),List.length_map,←hlen] at h8
     obtain⟨m,hm⟩:∃m,i - es.toList.length=m:=⟨_,rfl⟩
     rw [hm] at h7 h8
     cases m with
     | zero=>simp at h7 h8;subst h7;subst h8;exact⟨hfv,hl⟩
     | succ m=>simp at h7
   ·rw [Array.toList_push] at h7
    by_cases hi:i < es.toList.length
    ·rw [zI hi] at h7
     rw [zI (by omega)] at h8
     exact hvs i en q h7 h8
    ·rw [zJ (by omega)] at h7
     rw [zJ (by omega),←hlen] at h8
     obtain⟨m,hm⟩:∃m,i - es.toList.length=m:=⟨_,rfl⟩
     rw [hm] at h7 h8
     cases m with
     | zero=>simp at h7 h8;subst h7;subst h8;rw [hv'];exact r3
     | succ m=>simp at h7
   ·rw [Array.toList_push,zV,zH] at hen
    rcases hen with hen|rfl
    ·have:=hsm.1 en hen;omega
    ·exact Nat.lt_succ_self _
   ·rw [Array.toList_push,List.map_append,List.map_cons,List.map_nil]
    refine List.nodup_append.2 ⟨hsm.2,by simp,fun a ha b hb=>?_⟩
    obtain⟨en,hen,rfl⟩:=List.mem_map.1 ha
    have:=hsm.1 en hen
    rw [zH.1 hb]
    exact Nat.ne_of_lt this
  ·rw [hfe] at q1;cases q1
 ·rcases fE_spec es.toList kvs xs 0 hlen with⟨q1,_,_⟩|⟨j',en,v,q1,q2,q3,q4,q5⟩
  ·rw [hfe] at q1;cases q1
  ·rw [hfe] at q1
   simp only [Nat.zero_add,Option.some.injEq,Prod.mk.injEq] at q1
   obtain⟨rfl,_⟩:=q1
   have hjl:=(zS.1 q2).1
   refine⟨⟨en,by simpa using q2,fv_same (hko.key j en xs q2 (by simp [q3])).1 hfv⟩,fun h' he=>fin _ _ (kvs.set j (xs,v')) h' he ⟨by simp;simpa using hlen,fun i e1 k h7 h8=>?_⟩ (fun i e1 q h7 h8=>?_) (q5 v').symm ⟨fun e1 h7=>?_, ?_⟩⟩
   ·rw [Array.toList_modify,List.getElem?_modify] at h7
    rw [List.map_set,List.getElem?_set] at h8
    by_cases hij:j=i
    ·subst hij
     rw [if_pos rfl] at h8
     simp only [if_true,q2,Option.map_eq_map,Option.map_some,Option.some.injEq] at h7
     subst h7
     rw [if_pos (by rw [List.length_map];omega)] at h8
     simp only [Option.some.injEq] at h8
     subst h8
     exact⟨hfv,hl⟩
    ·rw [if_neg hij] at h8
     simp only [hij,if_false,Option.map_eq_map,Option.map_id'] at h7
     exact hko.key i e1 k (by simpa using h7) h8
   ·rw [Array.toList_modify,List.getElem?_modify] at h7
    rw [List.getElem?_set] at h8
    by_cases hij:j=i
    ·subst hij
     rw [if_pos rfl] at h8
     simp only [if_true,q2,Option.map_eq_map,Option.map_some,Option.some.injEq] at h7
     subst h7
     rw [if_pos (by omega)] at h8
     simp only [Option.some.injEq] at h8
     subst h8
     rw [hv'];exact r3
    ·rw [if_neg hij] at h8
     simp only [hij,if_false,Option.map_eq_map,Option.map_id'] at h7
     exact hvs i e1 q (by simpa using h7) h8
   ·obtain⟨i,hi⟩:=zO h7
    rw [Array.toList_modify,List.getElem?_modify] at hi
    obtain⟨e2,he2,he3⟩:∃e2,es.toList[i]?=some e2∧e1.born=e2.born:=by
     cases he2:es.toList[i]? with
     | none=>rw [he2] at hi;simp at hi
     | some e2 =>
      rw [he2] at hi
      by_cases hij:j=i
      ·simp [hij] at hi;exact⟨e2,rfl,by rw [←hi]⟩
      ·simp [hij] at hi;exact⟨e2,rfl,by rw [←hi]⟩
    rw [he3];exact hsm.1 e2 (zM he2)
   ·rw [show((es.modify j fun e=>{ e with key:=kv,val:=vv }).toList.map (·.born))=es.toList.map (·.born) from by
     rw [Array.toList_modify]
     refine List.ext_getElem? fun i=>?_
     rw [zG,zG,List.getElem?_modify]
     cases es.toList[i]? with
     | none=>rfl
     | some e2=>by_cases hij:j=i <;> simp [hij]]
    exact hsm.2⟩⟩⟩
structure Zx (v:Value) (k:AV→Prop):Prop where
 ok:∃a,k a∧∀h G,a.R h G v
theorem Zx.agg{v:Value}{k:AV→Prop}{cs:List Value}{l:List AV}(h:v= .agg cs.toArray)(h1:cs.all Value.oneCell'=true)(hn:LN (cs.map AV.val) l)(hk:k (.agg l)) : Zx v k:=⟨.agg l,hk,fun _ _=>by subst h;rw [←hn.eq];exact⟨cs,rfl,repL_vals cs h1⟩⟩
theorem Zx.b{v:Value}{k:AV→Prop}(h:v= .bool false)(hk:k (.val (.bool false))) : Zx v k:=⟨.val (.bool false),hk,fun _ _=>h⟩
theorem Zx.i{v:Value}{k:AV→Prop}(h:v= .int .i64 0)(hk:k (.val (.int .i64 0))) : Zx v k:=⟨.val (.int .i64 0),hk,fun _ _=>h⟩
theorem Zx.one{v:Value}{k:AV→Prop}(hk:k (.val v)) : Zx v k:=⟨.val v,hk,fun _ _=>rfl⟩
structure Lup (Γ:Cx) (c:Cls) (d:Tmp) (t:TypeId) (x y:Operand) (ok:Bool) (ty:TypeId) (e:EA) (o:List Res) (N:NA) (m key:AV):Prop where
 h:evA e x=some m→evA e y=some key→notPure c=true→SA Γ c (some d) (.lookup t x y ok) ty e o N
instance {ok:Bool} : Sp (SA Γ c (some d) (.lookup t x y ok) ty e o N) (Rf (notPure c=true) (Lk (evA e x) fun m=>Lk (evA e y) fun key=>Lup Γ c d t x y ok ty e o N m key)):=⟨fun⟨hc,_,h1,_,h2,h⟩=>h.h h1 h2 hc⟩
theorem St.lookupF{γ:Type}[Membership Nat γ]{fp:γ}{P:Program}{tt:Nat→Option TI}{en:Nat→Bool}(pok:PgOK P tt en){n:Nat}{env:Env}{h:Heap}{N':Env→Heap→Prop}{p:Nat×Nat×TI}{b:Nat}{xs:List Int}{kv:Value}{es:Array MapEntry}{cl:Nat}{ks:List (List Int)}(hc:notPure c=true)(hp:mpE tt t=some p)(hf:flatI P 4 p.1=true)(hl:xs.length=P.cellsOf p.1)(hfv:FV P p.1 xs kv)
  (hx:ev env x=some (.map (some b))) (hy:ev env y=some kv) (hb:h[b]?=some (.map es cl)) (ho:KeysOK P p.1 es.toList ks) (ok:Bool) (vv:Value) (bb:Bool) (hv:(fE es.toList ks xs 0=none∧vv=p.2.2.zero∧bb=false)∨∃j,fE es.toList ks xs 0=some (j,vv)∧bb=true)
  (hnf:b ∉ fp) (k:N' ((d,if ok then .tuple #[vv, .bool bb] else vv) :: env) h):St P n fp c (some d) (.lookup t x y ok) ty env h N':=by
 refine .ofRd hc (v:=if ok then .tuple #[vv, .bool bb] else vv) (fun a w ha hw=>?_) k
 obtain⟨ti,t1,t2,t3⟩:=mpE_spec hp
 have hmu:=(pok.ok _ _ t1).map t2
 have hlt:=(zA.1 hb).1
 have hb':w.heap[b]?=some (.map es cl):=(hw.same b hlt hnf).trans hb
 have hfk:=find_flat hf hfv hl es.toList ks ho w
 have hck:∀bb,(Instr.checkKey bb 10000 p.1 kv).run P w= .ok () w:=fun bb=>check_flat bb 4 p.1 hf 10000 (by decide) xs kv hl hfv w
 have hzr:=(pok.ok _ _ t3).run_zero w
 rcases hv with⟨h1,rfl,rfl⟩|⟨j,h1,rfl⟩
 ·rw [h1] at hfk
  simp only [mkOp,execOp,ha.ev hx,ha.ev hy,Instr.lookup,Sem.run_bind,run_underlying hmu,Result.andThen_ok,MapKept.run_getObj_map hb',Sem.run_pure,hck,hfk,hzr]
  try(cases ok <;> rfl)
 ·rw [h1] at hfk
  simp only [mkOp,execOp,ha.ev hx,ha.ev hy,Instr.lookup,Sem.run_bind,run_underlying hmu,Result.andThen_ok,MapKept.run_getObj_map hb',Sem.run_pure,hck,hfk]
  try(cases ok <;> rfl)
theorem lup_at{b:Nat}{key:AV}{ok:Bool}{p:Nat×Nat×TI}(hp:mpE Γ.tt t=some p){β:Type}{kvs:List (List Int×β)}{f:β→AV}{rest:List Res}(tk:Take o (mapR Γ.P b p.1 kvs f) rest){xs:List Int}(hky:kyOK Γ.P p.1 xs.length=true)(h2:(∃x,xs= [x]∧key= .val (.int .i64 x))∨∃cs,key= .agg cs∧ILit cs xs∧2≤xs.length)(ha:evA e x=some (.val (.map (some b))))(hb:evA e y=some key)(hc:notPure c=true)
  (hx:∀v,lookL kvs xs=some v→N ((d,if ok then .tup [f v, .val (.bool true)] else f v) :: e) o) (hy:lookL kvs xs=none→Zx p.2.2.zero fun z=>N ((d,if ok then .tup [z, .val (.bool false)] else z) :: e) o) (hnf:c= .read→∀b,b ∉ Γ.fp):SA Γ c (some d) (.lookup t x y ok) ty e o N:=⟨fun env hh G Os cn=>by
 obtain⟨m,g1,rfl⟩:=cn.get ha
 obtain⟨kv,g2,r2⟩:=cn.get hb
 obtain⟨hf,hl,hfv⟩:=kyOK_fv hky h2 r2
 obtain⟨O,Os',cn2⟩:=cn.take tk
 obtain⟨⟨ho,es,cl,hb0,hko,hvs,_⟩,_⟩:=cn2.hp.own
 have hlen:es.toList.length=kvs.length:=by have:=hko.len;simpa using this
 rcases fE_spec es.toList kvs xs 0 hlen with⟨q1,q2,_⟩|⟨j,en,v,q1,q2,q3,q4,_⟩
 ·refine St.unread hc (fun hc hnb=>St.lookupF Γ.ok hc hp hf hl hfv g1 g2 hb0 hko ok _ false (.inl ⟨q1,rfl,rfl⟩) hnb ?_) (fun h=>hnf h _)
  obtain⟨z,hz1,hz2⟩:=(hy q2).ok
  cases ok with
  | true=>exact CN.mk (cn.put d (a:= .tup [z, .val (.bool false)]) ⟨[_,_],rfl,hz2 _ _,rfl,trivial⟩) hz1
  | false=>exact CN.mk (cn.put d (a:=z) (hz2 _ _)) hz1
 ·have hr:=hvs j en _ q2 q3
  refine St.unread hc (fun hc hnb=>St.lookupF Γ.ok hc hp hf hl hfv g1 g2 hb0 hko ok _ true (.inr ⟨_,q1,rfl⟩) hnb ?_) (fun h=>hnf h _)
  cases ok with
  | true=>exact CN.mk (cn.put d (a:= .tup [f v, .val (.bool true)]) ⟨[_,_],rfl,hr,rfl,trivial⟩) (hx v q4)
  | false=>exact CN.mk (cn.put d (a:=f v) hr) (hx v q4)⟩
instance {b:Nat} {key:AV} : Sp (Lup Γ c d t x y true ty e o N (.val (.map (some b))) key) (NfV Γ.fp c (Lk (mpE Γ.tt t) fun p=>TkM Γ.P o b fun kt kvs f _=>Ky key fun xs=>Rf (kt=p.1) (Kf (kyOK Γ.P kt xs.length=true) (LkM (lookL kvs xs) (fun v=>N ((d, .tup [f v, .val (.bool true)]) :: e) o) (Zx p.2.2.zero fun z=>N ((d, .tup [z, .val (.bool false)]) :: e) o))))):=⟨fun⟨hnf,p,hp,β,kt,kvs,f,rest,tk,xs,⟨hkt,hky,hn⟩,h2⟩=>⟨fun ha hb hc=>by
 subst hkt
 exact lup_at (ok:=true) hp tk hky h2 ha hb hc hn.x hn.y hnf⟩⟩
end
section
variable {Γ:Cx} {k:List KI} {e:EA} {o:List Res} {N:NA} {c:Cls} {d:Tmp} {ty:TypeId} {x y z:Operand} {t u:TypeId} {kk:IntKind} {i:Int}
inductive FZ:List Res→List AV→List AV→List Res→Prop where
 | nil {o:List Res} : FZ o [] [] o
 | same {o own:List Res} {a:AV} {l l':List AV} : FZ o l l' own→FZ o (a :: l) (a :: l') own
 | fz {o rest own:List Res} {l l':List AV} {α:Type} {v:Value} {T sz:Nat} {xs:List α} {f:α→List AV} : Take o (arrR v T sz xs f) rest→xs.length≤9223372036854775807→FZ rest l l' own→FZ o (.ow v :: l) (.sl sz xs f :: l') own
 | fzm {o rest own:List Res} {l l':List AV} {α β:Type} {v:Value} {T sz:Nat} {xs:List α} {f:α→List AV} {ys:List β} {g:β→List AV} : Take o (arrR v T sz xs f) rest→ys.map g=xs.map f→xs.length≤9223372036854775807→FZ rest l l' own→FZ o (.ow v :: l) (.sl sz ys g :: l') own
 | agg {o o1 own:List Res} {cs cs' l l':List AV} : FZ o cs cs' o1→FZ o1 l l' own→FZ o (.agg cs :: l) (.agg cs' :: l') own
theorem FZ.rep{h0:Heap}{G0 O0:Nat→Prop}{h:Heap}{o own:List Res}{l l':List AV}(x:FZ o l l' own) :∀{G:Nat→Prop} {Os:List (Nat→Prop)} {vs:List Value},HpOK h0 G0 O0 o h G Os→RepT h G vs l→∃G' Os',HpOK h0 G0 O0 own h G' Os'∧RepT h G' vs l'∧∀b,G b→G' b:=by
 induction x with
 | nil=>exact fun {G Os vs} c hr=>⟨G,Os,c,hr,fun _ h=>h⟩
 | same _ ih =>
  intro G Os vs c hr
  match vs,hr with
  | v :: vs,⟨r1,r2⟩ =>
   obtain⟨G',Os',h1,h2,h3⟩:=ih c r2
   exact⟨G',Os',h1,⟨AV.mono _ h3 r1,h2⟩,h3⟩
 | fz tk hl _ ih =>
  intro G Os vs c hr
  match vs,hr with
  | v :: vs,⟨⟨r1,_⟩,r2⟩ =>
   subst r1
   obtain⟨O,os',c2⟩:=c.take tk
   have hrr:=c2.own.1
   obtain⟨G',Os',h1,h2,h3⟩:=ih c2.freeze (r2.mono fun _=> .inl)
   exact⟨G',Os',h1,⟨AV.mono _ h3 (sl_of_own hrr hl),h2⟩,fun b hb=>h3 b (.inl hb)⟩
 | fzm tk he hl _ ih =>
  intro G Os vs c hr
  match vs,hr with
  | v :: vs,⟨⟨r1,_⟩,r2⟩ =>
   subst r1
   obtain⟨O,os',c2⟩:=c.take tk
   have hrr:=c2.own.1
   obtain⟨G',Os',h1,h2,h3⟩:=ih c2.freeze (r2.mono fun _=> .inl)
   exact⟨G',Os',h1,⟨AV.mono _ h3 (AV.sl_map he (sl_of_own hrr hl)),h2⟩,fun b hb=>h3 b (.inl hb)⟩
 | agg _ _ ih1 ih =>
  intro G Os vs c hr
  match vs,hr with
  | v :: vs,⟨⟨ws,r1,r3⟩,r2⟩ =>
   obtain⟨G1,Os1,h1,h2,h3⟩:=ih1 c r3.t
   obtain⟨G2,Os2,h4,h5,h6⟩:=ih h1 (r2.mono h3)
   exact⟨G2,Os2,h4,⟨⟨ws,r1,h2.mono h6,r3.one⟩,h5⟩,fun b hb=>h6 b (h3 b hb)⟩
theorem Cl.fz{f:FuncId}{asx as':List AV}{o own:List Res}{M:AV→List Res→Prop}(x:FZ o asx as' own)(hc:Cl Γ c f as' own M) : Cl Γ c f asx o M:=by
 refine⟨fun {h G Os vs} hp hr=>?_⟩
 obtain⟨G1,Os1,k1,k2,k3⟩:=x.rep hp hr
 refine(hc.ok k1 k2).mono fun v h' ⟨g1,r,o',G',Os',g2,g3,g4,g5,g6⟩=>?_
 exact⟨g1,r,o',G',Os',g2,g3,g4,g5.mono k3,fun b hb=>g6 b (k3 b hb)⟩
def RepLL(h:Heap)(G:Nat→Prop) : List (List Value)→List (List AV)→Prop
 | [],[]=>True
 | v :: vs,c :: cs=>RepL h G v c∧RepLL h G vs cs
 | _,_=>False
theorem RepLL.of{h:Heap}{G:Nat→Prop}{α:Type}{sz:Nat}{f:α→List AV} :∀{rows:List (List Value)} {l:List α},Rows h G sz rows l f→RepLL h G rows (l.map f)
 | [],[],_=>trivial
 | [],_ :: _,r=>by have:=r.len;simp at this
 | _ :: _,[],r=>by have:=r.len;simp at this
 | v :: vs,x :: l,r=>⟨r.row 0 v x rfl rfl,RepLL.of (rows:=vs) (l:=l) ⟨by have:=r.len;simpa using this,fun i a b h1 h2=>r.row (i+1) a b h1 h2,fun a ha=>r.sz a (by simp [ha])⟩⟩
theorem RepLL.to{h:Heap}{G:Nat→Prop}{α:Type}{sz:Nat}{f:α→List AV} :∀{rows:List (List Value)} {l:List α},RepLL h G rows (l.map f)→(∀r∈rows,r.length=sz)→Rows h G sz rows l f
 | [],[],_,_=>Rows.nil
 | v :: vs,x :: l,r,hs=>by
  have ih:=RepLL.to (rows:=vs) (l:=l) r.2 fun a ha=>hs a (by simp [ha])
  refine⟨by have:=ih.len;simpa using this,fun i a b h1 h2=>?_,hs⟩
  cases i with
  | zero=>cases h1;cases h2;exact r.1
  | succ i=>exact ih.row i a b h1 h2
theorem CallA.fz{P:Program}{f:FuncId}{asx:List AV}{own:List Res}{α:Type}{T sz:Nat}{l:List α}{g:α→List AV}(hl:l.length≤9223372036854775807)
  (h:CallA P f asx own fun r o=>∃v,r= .ow v∧o= [arrR v T sz l g]):CallA P f asx own fun q o=>q= .sl sz l g∧o= [] :=
 ⟨fun hh G Os vs h1 h2=>(h.run hh G Os vs h1 h2).mono fun v' h' ⟨r,o,G',Os',⟨v,e1,e2⟩,g1,g2⟩=>by
  subst e1;subst e2
  have g1:(AV.ow v).R h' G' v':=g1
  match Os',g2.own with
  | O :: [],ho =>
   have c3:=g2.freeze
   refine⟨_,_,_,_,⟨rfl,rfl⟩, ?_,c3⟩
   obtain⟨rfl,_⟩:=g1
   exact sl_of_own ho.1 hl⟩
/-! ### Arrays -/
def arE(tt:Nat→Option TI)(t:Nat) : Option (Nat×TI):=match tt t with
 | some ti=>match ti.kind with
  | .array n e=>match tt e with
   | some te=>some (n,te)
   | none=>none
  | _=>none
 | none=>none
theorem arE_spec{tt:Nat→Option TI}{t:Nat}{p:Nat×TI}(h:arE tt t=some p) :∃ti e,tt t=some ti∧ti.kind= .array p.1 e∧tt e=some p.2:=by
 unfold arE at h
 split at h
 ·rename_i ti h1
  split at h
  ·rename_i n e h2
   split at h
   ·rename_i te h3
    cases h
    exact⟨ti,e,h1,h2,h3⟩
   ·cases h
  ·cases h
 ·cases h
theorem CA.freezeB{P:Program}{tt:Nat→Option TI}{en:Nat→Bool}{ok:PgOK P tt en}{T0:Nat→Ord×(Nat→Cls)}{m0:Nat}{rs:Array ResultVar}{K:AV→List Res→Prop}{h0:Heap}{G0 O0:Nat→Prop}{y':Code}(q:Tmp){b m:Nat}{T:TypeId}{cs:List AV}{rest:List Res}(ht:lookA e q=some (.val (.pointer (some ⟨b,m,none⟩))))(tk:Take o (blkR b T cs) rest)(h:CA ⟨P,tt,en,ok,T0,m0,rs,K,h0,G0,O0,⟨none⟩⟩ k y' ((q, .ad cs m) :: e) rest) : CA ⟨P,tt,en,ok,T0,m0,rs,K,h0,G0,O0,⟨none⟩⟩ k y' e o:=by
 refine⟨fun env hh G Os cn=>?_⟩
 obtain⟨O,Os',cn2⟩:=cn.take tk
 obtain⟨ho,vs,hb,hr⟩:=cn2.hp.own.1
 have c3:=cn2.freeze
 refine h.h env hh _ Os' (con_re (σ:=⟨e,rest⟩) c3 q (fun w hw=>?_) ht)
 obtain⟨w',g1,g2⟩:=cn.env q _ ht
 have g2:w'=_:=g2
 rw [hw] at g1;cases g1;subst g2
 exact⟨b,0,vs,by rw [Nat.zero_add], .inr ((ho b).2 rfl),hb.lt,hb.cels0,hr.mono fun _=> .inl⟩
end
structure Avr {α:Type} (r:Rp α) (f:α→List AV):Prop where
 rep:∀{h F cs a},r.R h F cs a→RepL h F cs (f a)
theorem Avr.slice{α:Type}{r:Rp α}{f:α→List AV}(hr:Avr r f) : Avr r.slice fun l=> [.sl r.sz l f] :=
 ⟨by
  intro h F cs l hrd
  have h1:=r.slice.one hrd
  obtain⟨v,rfl,hb,hl,rows,hs,hlen,hrow⟩:=hrd
  refine⟨⟨⟨hl, ?_⟩,trivial⟩,h1⟩
  rcases hs.ok with⟨p,cap,e1,e2,_⟩|⟨b,o,cap,e1,e2,e3,e4,e5⟩
  ·exact .inl ⟨zQ e2,p,cap,e1⟩
  ·refine .inr ⟨b,o,cap,rows,e1,e2,e3,hb b ?_,e4,e5,hlen,fun i row x h2 h3=>hr.rep (hrow i row x h2 h3),fun row hm=>?_⟩
   ·subst e1
    obtain⟨m,hm⟩:∃m,l.length=m+1:=⟨l.length - 1,by omega⟩
    rw [hm];exact zH.2 rfl
   ·obtain⟨i,hi⟩:=zO hm
    have hil:=(zS.1 hi).1
    exact r.len (hrow i row (l[i]'(by omega)) hi (zE _))⟩
theorem CallP.calls{P:Program}{f:FuncId}{asx:List AV}{v:Value}{h:Heap}{vs:List Value}(hc:CallP P f asx (.val v))(hr:RepT h (Old h) vs asx) : CallsH P f vs.toArray h fun x h'=>x=v∧Stp ([]:List Nat) h h':=by
 have hin:HpOK h (Old h) (U []) [] h (Old h) [] :=
  ⟨trivial,fun b hb=>⟨hb, .inl hb⟩,fun _ h=>h,fun O hO=>(by cases hO),List.Pairwise.nil,FPx.refl h⟩
 refine(CallA.run hc h (Old h) [] vs hr hin).mono fun x h' ⟨r,own,G',Os',⟨g1,g2⟩,g3,g4⟩=>?_
 subst g1;subst g2
 exact⟨g3,g4.fp.size,fun b hb _=>g4.fp.same b (fun⟨O,hO,_⟩=>by cases hO) hb⟩
section
variable {P:Program} {tt:Nat→Option TI} {en:Nat→Bool} {n:Nat} {γ:Type} [Membership Nat γ] {fp:γ} {c:Cls} {d:Tmp} {ty t u:TypeId} {env:Env} {h:Heap} {N:Env→Heap→Prop} {x y z:Operand} {k1 k2:IntKind}
end
/-! ### Over abstract values -/
section
variable {Γ:Cx} {k:List KI} {e:EA} {o:List Res} {N:NA} {c:Cls} {d:Tmp} {ty:TypeId} {x y z:Operand} {t u:TypeId} {kk kk':IntKind} {i i':Int}
structure Sx (i:Int) (n:Nat) (M:Nat→Prop):Prop where
 ok:∃j:Nat,i=(j:Int)∧j < n∧M j
theorem Sx.r{i:Int}{n:Nat}{M:Nat→Prop}{j:Nat}(h:i=(j:Int))(hl:j < n)(hm:M j) : Sx i n M:=⟨j,h,hl,hm⟩
end
end Go.CF
namespace Go.Proofs.Ythlpimbhonihhaa
open Go Go.CF
def ti3 : TI := ⟨.int .i64, 1, 8, .int .i64 0⟩ -- int
theorem tok3 : TOK Try.prog 3 ti3:=TOK.mk' (by kernel_rfl) (by kernel_rfl)
def ti4 : TI := ⟨.bool, 1, 1, .bool false⟩ -- bool
theorem tok4 : TOK Try.prog 4 ti4:=TOK.mk' (by kernel_rfl) (by kernel_rfl)
def ti5 : TI := ⟨.int .u8, 1, 1, .int .u8 0⟩ -- uint8
theorem tok5 : TOK Try.prog 5 ti5:=TOK.mk' (by kernel_rfl) (by kernel_rfl)
def ti9 : TI := ⟨.str, 1, 16, .string ⟨#[]⟩⟩ -- string
theorem tok9 : TOK Try.prog 9 ti9:=TOK.mk' (by kernel_rfl) (by kernel_rfl)
def ti22 : TI := ⟨.slice 5, 1, 24, .slice none 0 0⟩ -- []uint8
theorem tok22 : TOK Try.prog 22 ti22:=TOK.mk' (by kernel_rfl) (by kernel_rfl)
def ti24 : TI := ⟨.ptr 30, 1, 8, .pointer none⟩ -- *confluentlaw44.World
theorem tok24 : TOK Try.prog 24 ti24:=TOK.mk' (by kernel_rfl) (by kernel_rfl)
def ti26 : TI := ⟨.slice 31, 1, 24, .slice none 0 0⟩ -- []*membership.Node
theorem tok26 : TOK Try.prog 26 ti26:=TOK.mk' (by kernel_rfl) (by kernel_rfl)
def ti27 : TI := ⟨.slice 33, 1, 24, .slice none 0 0⟩ -- [][]api.Record
theorem tok27 : TOK Try.prog 27 ti27:=TOK.mk' (by kernel_rfl) (by kernel_rfl)
def ti28 : TI := ⟨.slice 76, 1, 24, .slice none 0 0⟩ -- []api.Message
theorem tok28 : TOK Try.prog 28 ti28:=TOK.mk' (by kernel_rfl) (by kernel_rfl)
def ti30 : TI := ⟨.struct [(0, 26, 1), (1, 27, 1), (2, 28, 1)], 3, 72, .agg #[.slice none 0 0, .slice none 0 0, .slice none 0 0]⟩ -- confluentlaw44.World
theorem tok30 : TOK Try.prog 30 ti30:=TOK.mk' (by kernel_rfl) (by kernel_rfl)
def ti31 : TI := ⟨.ptr 54, 1, 8, .pointer none⟩ -- *membership.Node
theorem tok31 : TOK Try.prog 31 ti31:=TOK.mk' (by kernel_rfl) (by kernel_rfl)
def ti33 : TI := ⟨.slice 108, 1, 24, .slice none 0 0⟩ -- []api.Record
theorem tok33 : TOK Try.prog 33 ti33:=TOK.mk' (by kernel_rfl) (by kernel_rfl)
def ti34 : TI := ⟨.slice 184, 1, 24, .slice none 0 0⟩ -- []api.Outcome
theorem tok34 : TOK Try.prog 34 ti34:=TOK.mk' (by kernel_rfl) (by kernel_rfl)
def ti36 : TI := ⟨.struct [(0, 33, 1), (1, 28, 1), (2, 34, 1)], 3, 72, .agg #[.slice none 0 0, .slice none 0 0, .slice none 0 0]⟩ -- api.Output
theorem tok36 : TOK Try.prog 36 ti36:=TOK.mk' (by kernel_rfl) (by kernel_rfl)
def ti40 : TI := ⟨.slice 3, 1, 24, .slice none 0 0⟩ -- []int
theorem tok40 : TOK Try.prog 40 ti40:=TOK.mk' (by kernel_rfl) (by kernel_rfl)
def ti45 : TI := ⟨.int .i64, 1, 8, .int .i64 0⟩ -- api.Errno
theorem tok45 : TOK Try.prog 45 ti45:=TOK.mk' (by kernel_rfl) (by kernel_rfl)
def ti51 : TI := ⟨.ptr 93, 1, 8, .pointer none⟩ -- *election.Node
theorem tok51 : TOK Try.prog 51 ti51:=TOK.mk' (by kernel_rfl) (by kernel_rfl)
def ti52 : TI := ⟨.ptr 119, 1, 8, .pointer none⟩ -- *replog.Log
theorem tok52 : TOK Try.prog 52 ti52:=TOK.mk' (by kernel_rfl) (by kernel_rfl)
def ti54 : TI := ⟨.struct [(0, 51, 1), (1, 52, 1), (2, 3, 1), (3, 3, 1), (4, 3, 1)], 5, 40, .agg #[.pointer none, .pointer none, .int .i64 0, .int .i64 0, .int .i64 0]⟩ -- membership.Node
theorem tok54 : TOK Try.prog 54 ti54:=TOK.mk' (by kernel_rfl) (by kernel_rfl)
def ti57 : TI := ⟨.slice 60, 1, 24, .slice none 0 0⟩ -- []uint16
theorem tok57 : TOK Try.prog 57 ti57:=TOK.mk' (by kernel_rfl) (by kernel_rfl)
def ti58 : TI := ⟨.map 3 3, 1, 8, .map none⟩ -- map[int]int
theorem tok58 : TOK Try.prog 58 ti58:=TOK.mk' (by kernel_rfl) (by kernel_rfl)
def ti59 : TI := ⟨.slice 89, 1, 24, .slice none 0 0⟩ -- []api.Entry
theorem tok59 : TOK Try.prog 59 ti59:=TOK.mk' (by kernel_rfl) (by kernel_rfl)
def ti60 : TI := ⟨.int .u16, 1, 2, .int .u16 0⟩ -- uint16
theorem tok60 : TOK Try.prog 60 ti60:=TOK.mk' (by kernel_rfl) (by kernel_rfl)
def ti68 : TI := ⟨.slice 101, 1, 24, .slice none 0 0⟩ -- []api.Event
theorem tok68 : TOK Try.prog 68 ti68:=TOK.mk' (by kernel_rfl) (by kernel_rfl)
def ti69 : TI := ⟨.slice 186, 1, 24, .slice none 0 0⟩ -- []api.Span
theorem tok69 : TOK Try.prog 69 ti69:=TOK.mk' (by kernel_rfl) (by kernel_rfl)
def ti71 : TI := ⟨.struct [(0, 3, 1), (1, 3, 1), (2, 3, 1), (3, 3, 1)], 4, 32, .agg #[.int .i64 0, .int .i64 0, .int .i64 0, .int .i64 0]⟩ -- api.Priority
theorem tok71 : TOK Try.prog 71 ti71:=TOK.mk' (by kernel_rfl) (by kernel_rfl)
def ti72 : TI := ⟨.slice 99, 1, 24, .slice none 0 0⟩ -- []api.Need
theorem tok72 : TOK Try.prog 72 ti72:=TOK.mk' (by kernel_rfl) (by kernel_rfl)
def ti74 : TI := ⟨.struct [(0, 3, 1), (1, 71, 4), (5, 72, 1)], 6, 64, .agg #[.int .i64 0, .int .i64 0, .int .i64 0, .int .i64 0, .int .i64 0, .slice none 0 0]⟩ -- api.Ask
theorem tok74 : TOK Try.prog 74 ti74:=TOK.mk' (by kernel_rfl) (by kernel_rfl)
def ti76 : TI := ⟨.struct [(0, 3, 1), (1, 3, 1), (2, 3, 1), (3, 40, 1), (4, 68, 1), (5, 69, 1), (6, 74, 6), (12, 3, 1), (13, 3, 1), (14, 3, 1), (15, 3, 1), (16, 4, 1), (17, 59, 1)], 18, 224, .agg #[.int .i64 0, .int .i64 0, .int .i64 0, .slice none 0 0, .slice none 0 0, .slice none 0 0, .int .i64 0, .int .i64 0, .int .i64 0, .int .i64 0, .int .i64 0, .slice none 0 0, .int .i64 0, .int .i64 0, .int .i64 0, .int .i64 0, .bool false, .slice none 0 0]⟩ -- api.Message
theorem tok76 : TOK Try.prog 76 ti76:=TOK.mk' (by kernel_rfl) (by kernel_rfl)
def ti81 : TI := ⟨.func, 1, 8, .nilFunc⟩ -- func() []api.Message
theorem tok81 : TOK Try.prog 81 ti81:=TOK.mk' (by kernel_rfl) (by kernel_rfl)
def ti85 : TI := ⟨.int .u64, 1, 8, .int .u64 0⟩ -- uint
theorem tok85 : TOK Try.prog 85 ti85:=TOK.mk' (by kernel_rfl) (by kernel_rfl)
def ti89 : TI := ⟨.struct [(0, 3, 1), (1, 3, 1), (2, 3, 1), (3, 3, 1), (4, 3, 1), (5, 40, 1)], 6, 64, .agg #[.int .i64 0, .int .i64 0, .int .i64 0, .int .i64 0, .int .i64 0, .slice none 0 0]⟩ -- api.Entry
theorem tok89 : TOK Try.prog 89 ti89:=TOK.mk' (by kernel_rfl) (by kernel_rfl)
def ti93 : TI := ⟨.struct [(0, 3, 1), (1, 3, 1), (2, 3, 1), (3, 3, 1), (4, 3, 1), (5, 3, 1), (6, 40, 1), (7, 3, 1)], 8, 80, .agg #[.int .i64 0, .int .i64 0, .int .i64 0, .int .i64 0, .int .i64 0, .int .i64 0, .slice none 0 0, .int .i64 0]⟩ -- election.Node
theorem tok93 : TOK Try.prog 93 ti93:=TOK.mk' (by kernel_rfl) (by kernel_rfl)
def ti97 : TI := ⟨.struct [(0, 3, 1), (1, 3, 1), (2, 3, 1)], 3, 24, .agg #[.int .i64 0, .int .i64 0, .int .i64 0]⟩ -- api.Right
theorem tok97 : TOK Try.prog 97 ti97:=TOK.mk' (by kernel_rfl) (by kernel_rfl)
def ti99 : TI := ⟨.struct [(0, 97, 3), (3, 3, 1)], 4, 32, .agg #[.int .i64 0, .int .i64 0, .int .i64 0, .int .i64 0]⟩ -- api.Need
theorem tok99 : TOK Try.prog 99 ti99:=TOK.mk' (by kernel_rfl) (by kernel_rfl)
def ti101 : TI := ⟨.struct [(0, 3, 1), (1, 3, 1), (2, 3, 1), (3, 40, 1), (4, 3, 1), (5, 3, 1), (6, 99, 4), (10, 3, 1), (11, 3, 1), (12, 3, 1)], 13, 120, .agg #[.int .i64 0, .int .i64 0, .int .i64 0, .slice none 0 0, .int .i64 0, .int .i64 0, .int .i64 0, .int .i64 0, .int .i64 0, .int .i64 0, .int .i64 0, .int .i64 0, .int .i64 0]⟩ -- api.Event
theorem tok101 : TOK Try.prog 101 ti101:=TOK.mk' (by kernel_rfl) (by kernel_rfl)
def ti102 : TI := ⟨.slice 189, 1, 24, .slice none 0 0⟩ -- []api.Merged
theorem tok102 : TOK Try.prog 102 ti102:=TOK.mk' (by kernel_rfl) (by kernel_rfl)
def ti103 : TI := ⟨.slice 40, 1, 24, .slice none 0 0⟩ -- [][]int
theorem tok103 : TOK Try.prog 103 ti103:=TOK.mk' (by kernel_rfl) (by kernel_rfl)
def ti104 : TI := ⟨.slice 103, 1, 24, .slice none 0 0⟩ -- [][][]int
theorem tok104 : TOK Try.prog 104 ti104:=TOK.mk' (by kernel_rfl) (by kernel_rfl)
def ti106 : TI := ⟨.struct [(0, 40, 1), (1, 3, 1), (2, 40, 1), (3, 102, 1), (4, 103, 1), (5, 104, 1), (6, 40, 1)], 7, 152, .agg #[.slice none 0 0, .int .i64 0, .slice none 0 0, .slice none 0 0, .slice none 0 0, .slice none 0 0, .slice none 0 0]⟩ -- api.Base
theorem tok106 : TOK Try.prog 106 ti106:=TOK.mk' (by kernel_rfl) (by kernel_rfl)
def ti108 : TI := ⟨.struct [(0, 3, 1), (1, 101, 13), (14, 106, 7), (21, 3, 1), (22, 3, 1), (23, 3, 1), (24, 89, 6)], 30, 368, .agg #[.int .i64 0, .int .i64 0, .int .i64 0, .int .i64 0, .slice none 0 0, .int .i64 0, .int .i64 0, .int .i64 0, .int .i64 0, .int .i64 0, .int .i64 0, .int .i64 0, .int .i64 0, .int .i64 0, .slice none 0 0, .int .i64 0, .slice none 0 0, .slice none 0 0, .slice none 0 0, .slice none 0 0, .slice none 0 0, .int .i64 0, .int .i64 0, .int .i64 0, .int .i64 0, .int .i64 0, .int .i64 0, .int .i64 0, .int .i64 0, .slice none 0 0]⟩ -- api.Record
theorem tok108 : TOK Try.prog 108 ti108:=TOK.mk' (by kernel_rfl) (by kernel_rfl)
def ti116 : TI := ⟨.struct [(0, 3, 1), (1, 3, 1)], 2, 16, .agg #[.int .i64 0, .int .i64 0]⟩ -- replog.progress
theorem tok116 : TOK Try.prog 116 ti116:=TOK.mk' (by kernel_rfl) (by kernel_rfl)
def ti117 : TI := ⟨.array 5 116, 10, 80, .agg #[.int .i64 0, .int .i64 0, .int .i64 0, .int .i64 0, .int .i64 0, .int .i64 0, .int .i64 0, .int .i64 0, .int .i64 0, .int .i64 0]⟩ -- [5]replog.progress
theorem tok117 : TOK Try.prog 117 ti117:=TOK.mk' (by kernel_rfl) (by kernel_rfl)
def ti119 : TI := ⟨.struct [(0, 3, 1), (1, 3, 1), (2, 59, 1), (3, 3, 1), (4, 3, 1), (5, 117, 10)], 15, 136, .agg #[.int .i64 0, .int .i64 0, .slice none 0 0, .int .i64 0, .int .i64 0, .int .i64 0, .int .i64 0, .int .i64 0, .int .i64 0, .int .i64 0, .int .i64 0, .int .i64 0, .int .i64 0, .int .i64 0, .int .i64 0]⟩ -- replog.Log
theorem tok119 : TOK Try.prog 119 ti119:=TOK.mk' (by kernel_rfl) (by kernel_rfl)
def ti126 : TI := ⟨.int .i64, 1, 8, .int .i64 0⟩ -- slices.sortedHint
theorem tok126 : TOK Try.prog 126 ti126:=TOK.mk' (by kernel_rfl) (by kernel_rfl)
def ti134 : TI := ⟨.int .u32, 1, 4, .int .u32 0⟩ -- uint32
theorem tok134 : TOK Try.prog 134 ti134:=TOK.mk' (by kernel_rfl) (by kernel_rfl)
def ti136 : TI := ⟨.int .u64, 1, 8, .int .u64 0⟩ -- uint64
theorem tok136 : TOK Try.prog 136 ti136:=TOK.mk' (by kernel_rfl) (by kernel_rfl)
def ti147 : TI := ⟨.int .u64, 1, 8, .int .u64 0⟩ -- slices.xorshift
theorem tok147 : TOK Try.prog 147 ti147:=TOK.mk' (by kernel_rfl) (by kernel_rfl)
def ti151 : TI := ⟨.ptr 3, 1, 8, .pointer none⟩ -- *int
theorem tok151 : TOK Try.prog 151 ti151:=TOK.mk' (by kernel_rfl) (by kernel_rfl)
def ti156 : TI := ⟨.struct [(0, 51, 1), (1, 76, 18), (19, 40, 1), (20, 3, 1), (21, 3, 1)], 22, 272, .agg #[.pointer none, .int .i64 0, .int .i64 0, .int .i64 0, .slice none 0 0, .slice none 0 0, .slice none 0 0, .int .i64 0, .int .i64 0, .int .i64 0, .int .i64 0, .int .i64 0, .slice none 0 0, .int .i64 0, .int .i64 0, .int .i64 0, .int .i64 0, .bool false, .slice none 0 0, .slice none 0 0, .int .i64 0, .int .i64 0]⟩ -- election.ballot
theorem tok156 : TOK Try.prog 156 ti156:=TOK.mk' (by kernel_rfl) (by kernel_rfl)
def ti158 : TI := ⟨.map 3 81, 1, 8, .map none⟩ -- map[int]func() []api.Message
theorem tok158 : TOK Try.prog 158 ti158:=TOK.mk' (by kernel_rfl) (by kernel_rfl)
def ti182 : TI := ⟨.struct [(0, 3, 1), (1, 3, 1)], 2, 16, .agg #[.int .i64 0, .int .i64 0]⟩ -- api.Refusal
theorem tok182 : TOK Try.prog 182 ti182:=TOK.mk' (by kernel_rfl) (by kernel_rfl)
def ti184 : TI := ⟨.struct [(0, 3, 1), (1, 3, 1), (2, 3, 1), (3, 182, 2), (5, 72, 1)], 6, 64, .agg #[.int .i64 0, .int .i64 0, .int .i64 0, .int .i64 0, .int .i64 0, .slice none 0 0]⟩ -- api.Outcome
theorem tok184 : TOK Try.prog 184 ti184:=TOK.mk' (by kernel_rfl) (by kernel_rfl)
def ti186 : TI := ⟨.struct [(0, 3, 1), (1, 3, 1), (2, 3, 1)], 3, 24, .agg #[.int .i64 0, .int .i64 0, .int .i64 0]⟩ -- api.Span
theorem tok186 : TOK Try.prog 186 ti186:=TOK.mk' (by kernel_rfl) (by kernel_rfl)
def ti187 : TI := ⟨.slice 192, 1, 24, .slice none 0 0⟩ -- []api.Mark
theorem tok187 : TOK Try.prog 187 ti187:=TOK.mk' (by kernel_rfl) (by kernel_rfl)
def ti189 : TI := ⟨.struct [(0, 4, 1), (1, 4, 1), (2, 187, 1)], 3, 32, .agg #[.bool false, .bool false, .slice none 0 0]⟩ -- api.Merged
theorem tok189 : TOK Try.prog 189 ti189:=TOK.mk' (by kernel_rfl) (by kernel_rfl)
def ti192 : TI := ⟨.struct [(0, 3, 1), (1, 3, 1), (2, 3, 1), (3, 3, 1)], 4, 32, .agg #[.int .i64 0, .int .i64 0, .int .i64 0, .int .i64 0]⟩ -- api.Mark
theorem tok192 : TOK Try.prog 192 ti192:=TOK.mk' (by kernel_rfl) (by kernel_rfl)
def tyTab : List (Nat×TI):= [(3,ti3),(4,ti4),(5,ti5),(9,ti9),(22,ti22),(24,ti24),(26,ti26),(27,ti27),(28,ti28),(30,ti30),(31,ti31),(33,ti33),(34,ti34),(36,ti36),(40,ti40),(45,ti45),(51,ti51),(52,ti52),(54,ti54),(57,ti57),(58,ti58),(59,ti59),(60,ti60),(68,ti68),(69,ti69),(71,ti71),(72,ti72),(74,ti74),(76,ti76),(81,ti81),(85,ti85),(89,ti89),(93,ti93),(97,ti97),(99,ti99),(101,ti101),(102,ti102),(103,ti103),(104,ti104),(106,ti106),(108,ti108),(116,ti116),(117,ti117),(119,ti119),(126,ti126),(134,ti134),(136,ti136),(147,ti147),(151,ti151),(156,ti156),(158,ti158),(182,ti182),(184,ti184),(186,ti186),(187,ti187),(189,ti189),(192,ti192)]
theorem tyTab_ok :∀p∈tyTab,TOK Try.prog p.1 p.2:=by
 unfold tyTab
 repeat(first|exact List.forall_mem_nil _|refine List.forall_mem_cons.2 ⟨by first|exact tok3|exact tok4|exact tok5|exact tok9|exact tok22|exact tok24|exact tok26|exact tok27|exact tok28|exact tok30|exact tok31|exact tok33|exact tok34|exact tok36|exact tok40|exact tok45|exact tok51|exact tok52|exact tok54|exact tok57|exact tok58|exact tok59|exact tok60|exact tok68|exact tok69|exact tok71|exact tok72|exact tok74|exact tok76|exact tok81|exact tok85|exact tok89|exact tok93|exact tok97|exact tok99|exact tok101|exact tok102|exact tok103|exact tok104|exact tok106|exact tok108|exact tok116|exact tok117|exact tok119|exact tok126|exact tok134|exact tok136|exact tok147|exact tok151|exact tok156|exact tok158|exact tok182|exact tok184|exact tok186|exact tok187|exact tok189|exact tok192, ?_⟩)
def tt : Nat→Option TI:=lookT tyTab
def en : Nat→Bool:=fun f=>Nat.ble 3 f && Nat.ble f 105
theorem pg : PgOK Try.prog tt en :=
 ⟨lookT_ok tyTab_ok,fun f h=>entB_ok (by
  have k:=List.all_eq_true.1 (show(List.range 106).all (fun f=> !(Nat.ble 3 f && Nat.ble f 105) || entB Try.prog f)=true by kernel_rfl) f (List.mem_range.2 (by simp [en] at h;omega))
  have h2:(Nat.ble 3 f && Nat.ble f 105)=true:=h
  rw [h2] at k;simpa using k),by kernel_rfl⟩
abbrev ordZ:Nat→Ord×(Nat→Cls):=fun _=>(.done,clOf [])
def oA(l:List Nat)(t:Ord) : Ord:=l.foldr .one t
def oR : Nat→Nat→Ord→Ord
  | _,0,t=>t
  | a,n+1,t=> .one a (oR (a+1) n t)
def cD : Nat→Cls
  | 0=> .pure
  | 1=> .read
  | 2=> .ext
  | _=> .loud
def cN(l:List Nat)(i:Nat) : Cls:=cD (l.getD i 3)
def oM : List (Nat×Ord×List Nat)→Nat→Ord×(Nat→Cls)
  | [],_=>(.done,clOf [])
  | (k,o,c) :: r,id=>bif Nat.beq id k then(o,cN c) else oM r id
def ord18:=oM [(6,(oR 0 9 .done),[0,0,0,1,0,0,0,1,0])]
def ord19:=oM [(1,(oR 0 10 .done),[0,0,0,1,0,0,0,1,0,0])]
def ord21:=oM [(42,(oR 0 15 .done),[0,0,0,0,1,0,0,0,1,0,0,0,0,0,3])]
def ord22:=oM [(1,(oR 0 10 .done),[0,0,0,1,0,0,0,1,0,0])]
def ord25:=oM [(6,(oR 0 8 (.alt 8 (oA [9,10,11] .done) (.alt 9 (oA [8,10,11] .done) .none))),[0,0,0,1,0,0,0,1,2,2,2,2,2]),(12,(oR 0 11 .done),[0,1,0,0,1,0,1,0,0,1,0])]
def ord26:=oM [(16,(oR 0 10 .done),[0,0,1,0,0,0,1,2,3,0])]
def ord32:=oM [(4,(oR 0 11 .done),[0,0,0,1,0,0,0,1,0,0,0]),(9,(oA [0,1,2,3,4,5,6,7,8,9,10,11,12,13,14,15,16,17,19,20] (.alt 18 (oR 21 13 .done) (.alt 21 (oA [22,23] (.alt 18 (oR 24 10 .done) (.alt 24 (oA [25,26] (.alt 18 (oR 27 7 .done) (.alt 27 (oA [28,29] (.alt 18 (oR 30 4 .done) (.alt 30 (oA [18,31,32,33] .done) .none))) .none))) .none))) .none))),[0,0,0,0,0,0,0,0,1,0,0,0,0,1,0,0,0,1,2,0,0,3,0,0,3,0,0,3,0,0,3,0,0,3]),(17,(oR 0 16 .done),[0,0,0,0,1,0,0,0,0,1,0,0,0,2,3,0])]
def ord42:=oM [(4,(oR 0 19 .done),[0,1,3,0,0,0,0,0,0,1,0,0,0,0,0,1,0,0,0])]
def ord44:=oM [(4,(oA [0,2] (.alt 1 (oA [3,4] .done) (.alt 3 (oA [1,4] .done) .none))),[0,3,0,3,0]),(5,(oR 0 5 .done),[1,1,0,3,0])]
def ord56:=oM [(7,(oA [0,1,2,3,4,5,6,7,8,9,10,11,13,14,15,16,17,18,19,20,21,22,23,24,12,25,26,27,28] .done),[0,0,0,1,0,0,0,0,1,0,0,0,2,0,0,0,1,0,0,0,1,0,0,0,0,2,0,3,0])]
def ord74:=oM [(4,(oR 0 13 .done),[0,1,0,0,0,0,0,1,1,3,0,0,0])]
def ord75:=oM [(5,(oA [0,1,2,3,4,5,7,8,6,9,10] .done),[1,0,0,1,1,1,2,0,0,3,0])]
def ord76:=oM [(3,(oR 0 28 .done),[0,0,0,0,1,0,0,0,1,0,0,0,0,0,1,3,0,0,0,0,1,0,0,0,0,1,0,0])]
def ord82:=oM [(4,(oA [0,1,2,3,4,5,6,7,8,10,11,12,13,9,14,15] .done),[0,0,0,0,1,0,0,0,0,2,0,0,0,1,0,0])]
def ord95:=oM [(2,(oR 0 32 .done),[0,0,1,0,1,0,0,1,0,0,0,1,0,0,1,0,0,0,1,0,0,1,0,0,1,0,0,0,0,0,0,0]),(4,(oA [0,2,4,5] (.alt 1 (.alt 3 (oR 6 7 .done) (.alt 6 (oA [7,8] (.alt 3 (oR 9 4 .done) (.alt 9 (oA [3,10,11,12] .done) .none))) .none)) (.alt 3 (.alt 1 (oR 6 7 .done) (.alt 6 (oA [1,7,8,9,10,11,12] .done) .none)) (.alt 6 (.alt 1 (oA [7,8] (.alt 3 (oR 9 4 .done) (.alt 9 (oA [3,10,11,12] .done) .none))) (.alt 3 (oA [1,7,8,9,10,11,12] .done) .none)) .none)))),[0,3,0,3,0,0,3,0,0,3,0,0,3]),(5,(oR 0 17 .done),[0,1,0,0,1,0,0,1,0,1,0,0,1,0,0,2,0])]
def ord96:=oM [(1,(oR 0 22 .done),[0,1,0,0,1,0,0,0,0,1,0,1,0,0,1,0,0,0,0,0,1,0]),(2,(oR 0 15 .done),[0,1,0,1,0,0,1,0,0,1,2,2,0,0,3])]
def ord99:=oM [(1,(oR 0 31 .done),[0,1,0,0,0,1,0,0,0,1,0,0,0,0,1,0,0,0,1,0,0,0,0,1,0,0,0,1,0,0,0])]
def ord101:=oM [(5,(oR 0 11 .done),[0,0,0,1,0,1,0,1,0,2,3]),(6,(oA [0,1,2,3,4,5,6,7,8,9,10,11,13,14,12,15,16] .done),[0,1,0,0,0,1,0,0,0,0,0,1,2,0,1,0,0]),(7,(oR 0 11 .done),[0,1,0,0,0,0,1,0,0,0,3]),(14,(oA [0,1,2,3,4,5,6,7,8,9,11,12,10,13,14] .done),[0,0,0,0,1,0,0,0,0,0,2,0,1,0,0]),(19,(oR 0 19 .done),[0,0,0,0,1,0,0,0,0,0,0,1,0,0,2,3,0,0,3]),(22,(oA [0,2,6] (.alt 1 (.alt 3 (oA [4,5,7,8,9] .done) (.alt 7 (oA [3,4,5,8,9] .done) .none)) (.alt 3 (.one 4 (.alt 1 (oA [5,7,8,9] .done) (.alt 7 (oA [1,5,8,9] .done) .none))) (.alt 7 (.alt 1 (oA [3,4,5,8,9] .done) (.alt 3 (oA [4,1,5,8,9] .done) .none)) .none)))),[0,3,0,3,0,0,0,3,0,3]),(23,(oR 0 14 .done),[0,0,0,0,1,0,1,0,1,0,0,0,0,3])]
def ord102:=oM [(1,(oR 0 35 .done),[0,1,0,0,0,1,0,0,0,1,0,0,0,0,0,1,3,0,0,0,0,0,0,1,0,0,0,0,1,0,0,0,1,0,0]),(2,(oR 0 7 .done),[0,0,1,0,0,0,0]),(3,(oR 0 13 .done),[0,1,0,0,1,0,0,0,1,0,0,0,0]),(4,(oR 0 11 .done),[0,0,0,0,1,0,1,0,0,0,3]),(6,(oR 0 13 .done),[0,1,0,0,0,1,0,0,0,1,0,0,0]),(7,(oR 0 13 .done),[0,0,1,0,0,0,0,1,0,0,0,0,3])]
def ord104:=oM [(1,(oR 0 39 .done),[0,1,0,0,0,1,0,0,0,1,0,0,0,0,0,1,3,0,0,0,0,1,0,0,0,0,1,0,0,0,0,0,0,1,0,1,3,0,0])]
end Go.Proofs.Ythlpimbhonihhaa
namespace Go.CF
open Go
theorem xA{p X Y:Prop}(hx:X)(h:p:=by first|assumption|omega|rfl) : Bd p X Y:= .t h hx
theorem xB{p X Y:Prop}(hy:Y)(h:¬p:=by first|assumption|omega|exact Bool.false_ne_true) : Bd p X Y:= .f h hy
theorem xN{α:Type}{l l':List α}{k:List α→Prop}(hk:k l')(h:LN l l':=by repeat constructor) : Nm l k:= .r h hk
theorem xT{o rest:List Res}{b:Nat}{k:TypeId→List AV→List Res→Prop}{T:TypeId}{cs:List AV}(hk:k T cs rest)(h:Take o (blkR b T cs) rest:=by repeat constructor) : TkB o b k:= .r h hk
theorem xU{α:Type}{o rest:List Res}{v:Value}{k:∀{α:Type},TypeId→Nat→List α→(α→List AV)→List Res→Prop}{T:TypeId}{sz:Nat}{l:List α}{f:α→List AV}(hk:k T sz l f rest)(h:Take o (arrR v T sz l f) rest:=by repeat constructor) : TkA o v k:= .r h hk
theorem xM{β:Type}{P:Program}{o rest:List Res}{b:Nat}{k:∀{β:Type},TypeId→List (List Int×β)→(β→AV)→List Res→Prop}{kt:TypeId}{kvs:List (List Int×β)}{f:β→AV}(hk:k kt kvs f rest)(h:Take o (mapR P b kt kvs f) rest:=by repeat constructor) : TkM P o b k:= .r h hk
theorem xV{l:List AV}{k:Nat}{v:AV}{M:List AV→Prop}{l':List AV}(hm:M l')(h:SetA l k v l':=by repeat first|assumption|constructor) : SetAk l k v M:= .r h hm
theorem xO{i:Int}{M:Int→Prop}(hm:M i)(h: -9223372036854775808≤i∧i≤9223372036854775807:=by first|omega|(simp <;> omega)) : Ov i M:= .n h hm
theorem xI{α:Type}{l:List α}{i:Int}{k:Nat→α→Prop}{j:Nat}{x:α}(hk:k j x)(hi:i=(j:Int):=by exact rfl)(h:l[j]?=some x:=by assumption) : Ix l i k:= .q hi h hk
theorem xJ{α:Type}{l:List α}{k:α→Prop}{j:Nat}{x:α}(hk:k x)(h:l[j]?=some x:=by assumption) : At l j k:= .r h hk
theorem xP{p k:Prop}(hk:k)(h:p:=by first|omega|(simp <;> omega)) : Om p k:=⟨h,hk⟩
theorem xK{cs:List AV}{M:List Int→Prop}{xs:List Int}(hm:M xs)(h:ILit cs xs:=by repeat(first|apply ILit.cons|exact ILit.nil)) : Il cs M:= .r h hm
section
variable {Γ:Cx} {k:List KI} {e:EA} {o:List Res} {ops:Array Oper} {c:Cls}
theorem xD{i:Nat}{t:Ord}(h:RA' Γ k ops (Γ.T i).2 t e o)(_hx:isLoud ((Γ.T i).2 ops.size)=true:=by rfl)(hn:Region.noSelect ops=true:=by kernel_rfl)(hc:chk ops (Γ.T i).2 (Γ.T i).1 ops.size true (Array.replicate ops.size false)=true:=by kernel_rfl)(ho:ON (Γ.T i).1 t:=by repeat' constructor)(hd:(ops.toList.all fun op=>dOK Γ.n op.dst)=true:=by rfl) : CA Γ k (.region i ops true) e o:= .draw _hx hn hc ho hd h
theorem xQ{f:FuncId}{as':List AV}{r:AV}(hc:CallP Γ.P f as' r){xs:List AV}{M:AV→List Res→Prop}(hm:M r o)(hv:Lend [] xs as':=by repeat'(first|exact Lend.nil|apply Lend.keep)) : Cl Γ c f xs o M:= .p hc hv hm
theorem xW{f:FuncId}{xs as':List AV}{own rest:List Res}{K:AV→List Res→Prop}{M:AV→List Res→Prop}(hc:CallA Γ.P f as' own K)(hm:∀r own',K r own'→M r (own' ++ rest))(hv:Lend [] xs as':=by repeat'(first|exact Lend.nil|apply Lend.keep))(ht:Takes o own rest:=by repeat(first|exact Takes.nil|(apply Takes.cons;(focus repeat constructor))))(hl:(isLoud c || own.isEmpty)=true:=by rfl) : Cl Γ c f xs o M:= .use hc hv ht hl hm
end
theorem xE{e:EA}{o:List Res}{σ:AS}(h1:subA' e σ.env:=by repeat first|trivial|refine⟨rfl,?_⟩)(h2:Subl o σ.own:=by repeat first|exact .nil|refine .cons (by repeat constructor) ?_) : Sub e o σ:=⟨h1,h2⟩
theorem FL.z{o own:List Res}(h:Subl o own:=by repeat first|exact .nil|refine .cons (by repeat constructor) ?_) : FL o [] [] own:= .nil h
end Go.CF
namespace Go.Proofs.Ythlpimbhonihhaa
open Go Go.CF
def intC(x:Int) : List AV:= [.val (.int .i64 x)]
abbrev ints (l:List Int):AV:= .sl 1 l intC
theorem vb{a b:Bool}(h:a=b) : AV.val (.bool a)=AV.val (.bool b):=by rw [h]
theorem all_succ{α:Type}{l:List α}{i:Nat}{x:α}{P:α→Prop}(h:l[i]?=some x)(ha:∀y∈l.take i,P y)(hx:P x) :∀y∈l.take (i+1),P y:=fun y hy=>by
 rw [zK,h] at hy
 rcases zV.1 hy with h1|h1
 ·exact ha y h1
 ·simp at h1;exact h1▸hx
theorem get_of{α:Type}{l:List α}{i:Nat}(h:i < l.length) :∃x,l[i]?=some x:=⟨_,zE h⟩
theorem equal_p(a b:List Int) : CallP Try.prog 18 [ints a,ints b] (.val (.bool (decide (a=b)))):=by
 refine CallA.of pg ord18 Try.func18 rfl Try.ntmps18 Try.results18 rfl fun h0 G0 O0=>?_
 repeat'(first|apply Sp.h|refine Lk.r rfl ?_|refine Rf.mk rfl ?_|apply Bd.mk|apply Im.mk|refine xN ?_|intro _)
 ·rename_i ha hb hab _
  refine CA.loop (fun i:Nat=>⟨[(0,ints a),(1,ints b),(12, .val (.int .i64 a.length)),(13, .val (.int .i64 i))],[]⟩) (fun i=>i≤a.length∧a.take i=b.take i) (fun i=>a.length - i) 0 xE ⟨zZ _,by simp⟩ ?_
  rintro i ⟨hi,heq⟩
  by_cases hin:i < a.length
  ·obtain⟨x,hx⟩:∃x,a[i]?=some x:=⟨_,zE hin⟩
   obtain⟨y,hy⟩:∃y,b[i]?=some y:=⟨_,zE (by omega)⟩
   repeat'(first|apply Sp.h|refine Lk.r rfl ?_|refine Rf.mk rfl ?_|refine xA ?_|apply Bd.mk|refine OpK.r rfl ?_|refine xI ?_|refine xN ?_|refine xD ?_|refine xO ?_|intro _)
   ·rename_i hxy
    refine PA.lp (i+1) xE ⟨⟨hin, ?_⟩,by omega⟩
    rw [zK,zK,hx,hy,heq,show x=y by omega]
   ·rename_i hxy
    refine Fin.p rfl ?_
    rw [zF (fun e=>hxy ?_)]
    subst e;rw [hx] at hy;cases hy;rfl
  ·have:i=a.length:=by omega
   subst this
   repeat'(first|apply Sp.h|refine Lk.r rfl ?_|refine Rf.mk rfl ?_|refine xB ?_|refine xN ?_|fail)
   refine Fin.p rfl ?_
   rw [zL] at heq
   rw [zT (by rw [heq,List.take_of_length_le (by omega)])]
 ·rename_i h
  refine Fin.p rfl ?_
  rw [zF (fun e=>h (by rw [e]))]
/-! ### Valid -/
/-! ### alike, inside -/
abbrev CallO (P:Program) (f:FuncId) (args:List AV) {α:Type} (T:TypeId) (sz:Nat) (l:List α) (g:α→List AV):Prop:=CallA P f args [] fun r own=>∃v,r= .ow v∧own= [arrR v T sz l g]
theorem clone_o(l:List Int)(hl:l.length≤1000000000) : CallO Try.prog 70 [ints l] 3 1 l intC:=by
 refine CallA.of pg ordZ Try.func70 rfl Try.ntmps70 Try.results70 rfl fun h0 G0 O0=>?_
 repeat'(first|apply Sp.h|refine Lk.r rfl ?_|refine Rf.mk rfl ?_|apply Bd.mk|refine xP ?_|apply Im.mk|apply All.mk|refine xU ?_|refine Ce.l rfl ?_|(apply Fk.r;focus repeat' first|infer_instance|constructor)|refine xN ?_|refine Rf.mk ⟨rfl,rfl⟩ ?_|refine Rf.mk ⟨rfl,rfl,rfl⟩ ?_|refine Mp.same ?_|intro _)
 ·rename_i b hb hbt
  have hl0:l= []:=Decidable.byContradiction fun h=>by rw [hb h] at hbt;cases hbt
  subst hl0
  exact⟨_,_, .one (.nils (.z)),_,rfl,rfl⟩
 ·repeat'(first|fail)
  exact⟨_,_, .one (.same (.z)),_,rfl,rfl⟩
/-! ### Events -/
structure EvS where
 rep:Int
 num:Int
 time:Int
 past:List Int
 kind:Int
 action:Int
 gk:Int
 gi:Int
 ge:Int
 ga:Int
 to:Int
 place:Int
 serial:Int
abbrev iv (x:Int):AV:= .val (.int .i64 x)
def evC(e:EvS) : List AV:= [iv e.rep,iv e.num,iv e.time,ints e.past,iv e.kind,iv e.action,iv e.gk,iv e.gi,iv e.ge,iv e.ga,iv e.to,iv e.place,iv e.serial]
abbrev evs (l:List EvS):AV:= .sl 13 l evC
end Go.Proofs.Ythlpimbhonihhaa
