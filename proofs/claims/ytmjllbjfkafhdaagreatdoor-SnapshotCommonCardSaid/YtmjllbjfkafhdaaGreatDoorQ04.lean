/- Part 4 of the ground of this proof: what its texts say of the model, the program and the plain data; conditions: those that are named. -/
import Derived.Test.YtmjllbjfkafhdaaGreatDoorProg
import Derived.KernelRfl
import Derived.Test.YtmjllbjfkafhdaaGreatDoorRows
import Derived.LaidMore
import Derived.OpenShut
import Derived.MakeChecks
import Derived.Handed
import Derived.Test.YtmjllbjfkafhdaaGreatDoorTie
import Derived.Test.YtmjllbjfkafhdaaGreatDoorCards
import Derived.Test.YtmjllbjfkafhdaaGreatDoorQ03
namespace Go.CF
open Go
section
variable {Γ:Cx} {k:List KI} {e:EA} {o:List Res} {N:NA} {c:Cls} {d:Tmp} {ty:TypeId} {x y z:Operand} {t u:TypeId} {kk:IntKind} {i:Int}
/-! ### Capacity -/
def capV : Value→Nat
 | .slice _ _ c=>c
 | _=>0
structure Cpv (Γ:Cx) (c:Cls) (d:Tmp) (t:TypeId) (x:Operand) (ty:TypeId) (e:EA) (o:List Res) (N:NA) (a:AV):Prop where
 h:evA e x=some a→SA Γ c (some d) (.call { callee:= .builtin .cap,args:=#[x],argTypes:=#[t] }) ty e o N
instance : Sp (SA Γ c (some d) (.call { callee:= .builtin .cap,args:=#[x],argTypes:=#[t] }) ty e o N) (Lk (evA e x) fun a=>Cpv Γ c d t x ty e o N a):=⟨fun⟨_,ha,h⟩=>h.h ha⟩
instance {v:Value} : Sp (Cpv Γ c d t x ty e o N (.ow v)) (Lk (slE Γ.tt t) fun _=>TkA o v fun _ _ l _ _=>Im (l.length≤capV v) (N ((d, .val (.int .i64 (capV v:Nat))) :: e) o)):=⟨fun⟨p,hp,α,T,sz,l,f,rest,tk,hn⟩=>⟨fun ha=>⟨fun env hh G Os cn=>by
 obtain⟨w,g1,rfl,q,len,cap,rfl⟩:=cn.get ha
 obtain⟨O,Os',cn2⟩:=cn.take tk
 obtain⟨⟨_,rows,hw,_⟩,_⟩:=cn2.hp.own
 obtain⟨ti,t1,t2,_⟩:=slE_spec hp
 have hlc:l.length≤cap:=by
  rcases hw.ok with⟨e1,e2⟩|⟨b',of,cap',L,e1,_,_,e2,_⟩
  ·cases e1;omega
  ·cases e1;exact e2
 exact St.cap Γ.ok t1 t2 g1 (CN.mk (cn.put d (a:= .val _) rfl) (hn.k hlc))⟩⟩⟩

/-! ### Rows of plain values -/
def valR(r:List Value) : List AV:=r.map AV.val
theorem repT_val{h:Heap}{G:Nat→Prop} :∀{vs r:List Value},RepT h G vs (valR r)→vs=r
 | [],[],_=>rfl
 | _ :: _,_ :: _,⟨h1,h2⟩=>by
  have h1:_=_:=h1
  rw [h1,repT_val h2]
 | [],_ :: _,h=>h.elim
 | _ :: _,[],h=>h.elim
theorem repT_val'{h:Heap}{G:Nat→Prop} :∀r:List Value,RepT h G r (valR r)
 | []=>trivial
 | _ :: r=>⟨rfl,repT_val' r⟩
theorem rows_val{h:Heap}{G:Nat→Prop}{sz:Nat}{rows L:List (List Value)}(hr:Rows h G sz rows L valR) : rows=L:=by
 apply List.ext_getElem?
 intro j
 by_cases hj:j < L.length
 ·obtain⟨r,h1⟩:=zS.2 ⟨by rw [hr.len];exact hj,rfl⟩ |> fun h=>(⟨_,h⟩:∃r,rows[j]?=some r)
  obtain⟨s,h2⟩:∃s,L[j]?=some s:=⟨_,zE hj⟩
  rw [h1,h2,repT_val (hr.row j r s h1 h2).t]
 ·rw [zX (by rw [hr.len];omega),zX (by omega)]
structure RowsV (sz:Nat) (L:List (List Value)):Prop where
 sz:∀r∈L,r.length=sz
 one:∀r∈L,∀u∈r,u.oneCell'=true
theorem RowsV.of{h:Heap}{G:Nat→Prop}{sz:Nat}{rows L:List (List Value)}(hr:Rows h G sz rows L valR) : RowsV sz L:=by
 have e:=rows_val hr
 subst e
 refine⟨hr.sz,fun r hm u hu=>?_⟩
 obtain⟨j,hj⟩:=zO hm
 exact(hr.row j r r hj hj).one u hu
theorem RowsV.rows{sz:Nat}{L:List (List Value)}(hv:RowsV sz L)(h:Heap)(G:Nat→Prop) : Rows h G sz L L valR :=
 ⟨rfl,fun j r s h1 h2=>by rw [h1] at h2;cases h2;exact⟨repT_val' r,fun u hu=>hv.one r (zM h1) u hu⟩,hv.sz⟩
theorem RowsV.flen{sz:Nat}{L:List (List Value)}(hv:RowsV sz L) : L.flatten.length=L.length * sz:=flat_len L hv.sz
def arrX(v:Value)(T:TypeId)(sz:Nat)(L:List (List Value))(m:Nat) : Res :=
  ⟨fun h O _=>(∀x,O x↔x∈blkOf v)∧RowsV sz L∧L.length≤m∧∃junk,Own h v T sz m (L.flatten ++ junk),
   fun x ⟨ho,hv,hl,junk,hb⟩=>⟨ho,hv,hl,junk,by
      rcases hb.ok with h1|⟨b,of,cap,L',e,hbl,h1,h2,h3⟩
      · exact⟨hb.len_vs, .inl h1⟩
      · exact⟨hb.len_vs, .inr ⟨b,of,cap,L',e,⟨(x.same b (.inl ((ho b).2 (by simp [e,blkOf]))) hbl.lt).trans hbl.get⟩,h1,h2,h3⟩⟩⟩,
   fun _ ⟨ho,hv,hl,junk,hb⟩=>⟨ho,hv,hl,junk,hb⟩,
   fun⟨ho,_,_,_,hb⟩ y hy=>hb.nc ((ho y).1 hy)⟩
def AV.ox(v:Value) : AV:=⟨fun _ _ u=>u=v∧∃p len cap,v= .slice p len cap,fun _ h=>h,fun _ h=>h⟩
theorem CA.toX{y:Code}(q:Tmp){v:Value}{T sz:Nat}{L:List (List Value)}{rest:List Res}(ht:lookA e q=some (.ow v))(tk:Take o (arrR v T sz L valR) rest)(h:L.length≤capV v→CA Γ k y ((q, .ox v) :: e) (arrX v T sz L L.length :: rest)) : CA Γ k y e o:=by
 refine⟨fun env hh G Os cn=>?_⟩
 obtain⟨O,Os',cn2⟩:=cn.take tk
 obtain⟨⟨ho,rows,hw,hr⟩,hrest⟩:=cn2.hp.own
 have hv:=RowsV.of hr
 have e1:=rows_val hr
 subst e1
 have c3:Con Γ ⟨e,arrX v T sz rows rows.length :: rest⟩ env hh G (O :: Os'):=⟨cn2.hp.perm ⟨⟨ho,hv,Nat.le_refl _,[],by rw [List.append_nil];exact hw⟩,hrest⟩ (List.Perm.refl _),cn2.env,cn2.nf⟩
 have hcap:rows.length≤capV v:=by
  rcases hw.ok with⟨e1,e2⟩|⟨b',of,cap',L,e1,_,_,e2,_⟩
  ·rw [e2];exact zZ _
  ·rw [e1];exact e2
 exact(h hcap).h env hh G (O :: Os') (con_re (σ:=⟨e,arrX v T sz rows rows.length :: rest⟩) c3 q (fun w hw'=>by
  obtain⟨w',g1,g2⟩:=cn.env q _ ht
  rw [hw'] at g1;cases g1;exact g2) ht)
structure TkX (o:List Res) (v:Value) (k:TypeId→Nat→List (List Value)→Nat→List Res→Prop):Prop where
 ok:∃T sz L m rest,Take o (arrX v T sz L m) rest∧k T sz L m rest
theorem TkX.r{o rest:List Res}{v:Value}{k:TypeId→Nat→List (List Value)→Nat→List Res→Prop}{T:TypeId}{sz m:Nat}{L:List (List Value)}(h:Take o (arrX v T sz L m) rest)(hk:k T sz L m rest) : TkX o v k:=⟨T,sz,L,m,rest,h,hk⟩
instance {q:Operand} {v:Value} : Sp (Slp Γ c d t x (some q) none ty e o N (.ox v)) (Lk (slE Γ.tt t) fun p=>TkX o v fun _ sz _ m _=>Rf (p.2.size=sz) (Lk (evA e q) fun a=>Nb a fun i=>Jx i m fun j=>N ((d, .os v sz j (m - j)) :: e) o)):=⟨fun⟨p,hp,T,sz,L,m,rest,tk,hz,a,ha2,kk,i,hk,j,hij,hjm,hn⟩=>⟨fun ha=>⟨fun env hh G Os cn=>by
 obtain⟨w,g1,rfl,q',len,cap,rfl⟩:=cn.get ha
 obtain⟨O,Os',cn2⟩:=cn.take tk
 obtain⟨⟨_,_,_,junk,hw⟩,_⟩:=cn2.hp.own
 have hlc:len=m∧m≤cap:=by
  rcases hw.ok with⟨e1,e2⟩|⟨b',of,cap',L',e1,_,_,e2,_⟩
  ·cases e1;omega
  ·cases e1;exact⟨rfl,e2⟩
 obtain⟨rfl,hlc⟩:=hlc
 exact slice_at (lo:=some q) (hi:=none) cn hp g1 hjm (Nat.le_refl _) hlc ⟨kk,i,hk▸ha2,hij⟩ rfl (CN.mk (cn.put d (a:= .os _ sz j (len - j)) ⟨q',_,cap,rfl,by omega,by rw [hz]⟩) hn) (.inl (by simp))⟩⟩⟩
def reV : Value→Nat→Value
 | .slice p _ c,m=> .slice (subA p 0 0 c) m c
 | v,_=>v
structure ExX (i:Int) (L m:Nat) (cp:Nat) (A X:Nat→Prop):Prop where
 ok:∃j:Nat,i=(j:Int)∧j≤cp∧((j≤L∧A j)∨(L≤j∧X j))
theorem ExX.short{i:Int}{L m cp:Nat}{A X:Nat→Prop}{j:Nat}(h:i=(j:Int))(h1:j≤cp)(h2:j≤L)(hk:A j) : ExX i L m cp A X:=⟨j,h,h1, .inl ⟨h2,hk⟩⟩
theorem ExX.long{i:Int}{L m cp:Nat}{A X:Nat→Prop}{j:Nat}(h:i=(j:Int))(h1:j≤cp)(h2:L≤j)(hk:X j) : ExX i L m cp A X:=⟨j,h,h1, .inr ⟨h2,hk⟩⟩
theorem subA_zero{p:Option Addr}{sz cap:Nat}(hp:∀a,p=some a→a.spot=none) : subA p sz 0 cap=p:=by
 unfold subA
 split
 ·rfl
 ·cases p with
  | none=>rfl
  | some a =>
   have:=hp a rfl
   obtain⟨b,of,sp⟩:=a
   simp only at this
   subst this
   simp [addr_add]
theorem own_short{h:Heap}{p:Option Addr}{len cap T sz m:Nat}{R:List Value}(hw:Own h (.slice p len cap) T sz len R)(hm:m≤len) : Own h (.slice p m cap) T sz m (R.take (m * sz)):=by
 have hl:=hw.len_vs
 have hms:m * sz≤len * sz:=zU _ hm
 refine⟨by rw [zN];omega, ?_⟩
 rcases hw.ok with⟨e1,e2⟩|⟨b,of,cap',l,e1,hb,h1,h2,h3⟩
 ·cases e1
  exact .inl ⟨by rw [show m=0 by omega],by omega⟩
 ·cases e1
  exact .inr ⟨b,of,cap,l,rfl,hb,h1,by omega,by rw [←h3,List.take_take,Nat.min_eq_left hms]⟩
theorem own_long{h:Heap}{p:Option Addr}{len cap T sz m:Nat}{R:List Value}(hw:Own h (.slice p len cap) T sz len R)(hm:len≤m)(hc:m≤cap) :∃junk,Own h (.slice p m cap) T sz m (R ++ junk):=by
 have hl:=hw.len_vs
 have hms:len * sz≤m * sz:=zU _ hm
 rcases hw.ok with⟨e1,e2⟩|⟨b,of,cap',l,e1,hb,h1,h2,h3⟩
 ·cases e1
  obtain rfl:m=0:=by omega
  exact⟨[],by simpa using hw⟩
 ·cases e1
  have hmc:m * sz≤cap * sz:=zU _ hc
  refine⟨(l.drop (of+len * sz)).take (m * sz - len * sz), ?_, .inr ⟨b,of,cap,l,rfl,hb,h1,hc, ?_⟩⟩
  ·rw [zP,hl,zN,List.length_drop];omega
  ·rw [←h3,←List.drop_drop,show m * sz=len * sz+(m * sz - len * sz) by omega,List.take_add]
   simp
theorem own_spot{h:Heap}{p:Option Addr}{len cap T sz m:Nat}{R:List Value}(hw:Own h (.slice p len cap) T sz m R) :∀a,p=some a→a.spot=none:=by
 intro a ha
 rcases hw.ok with⟨e1,e2⟩|⟨b,of,cap',l,e1,_⟩
 ·cases e1;cases ha
 ·cases e1;cases ha;rfl
instance {q:Operand} {v:Value} : Sp (Slp Γ c d t x none (some q) ty e o N (.ox v)) (Lk (slE Γ.tt t) fun p=>TkX o v fun T sz L m rest=>Rf (p.2.size=sz) (Lk (evA e q) fun a=>Nb a fun i =>
  ExX i L.length m (capV v) (fun j=>N ((d, .ow (reV v j)) :: e) (arrR (reV v j) T sz (L.take j) valR :: rest)) (fun j=>N ((d, .ox (reV v j)) :: e) (arrX (reV v j) T sz L j :: rest)))):=⟨fun⟨p,hp,T,sz,L,m,rest,tk,hz,a,ha2,kk,i,hk,j,hij,hjc,hn⟩=>⟨fun ha=>⟨fun env hh G Os cn=>by
 obtain⟨w,g1,rfl,q',len,cap,rfl⟩:=cn.get ha
 obtain⟨O,Os',cn2⟩:=cn.take tk
 obtain⟨⟨ho,hv,hLm,junk,hw⟩,hrest⟩:=cn2.hp.own
 obtain⟨ti,t1,t2,t3⟩:=slE_spec hp
 have hlc:len=m:=by
  rcases hw.ok with⟨e1,e2⟩|⟨b',of,cap',L',e1,_,_,e2,_⟩
  ·cases e1;omega
  ·cases e1;rfl
 subst hlc
 have hsp:=own_spot hw
 have hre:subA q' 0 0 cap=q':=subA_zero hsp
 have hre2:subA q' p.2.size 0 cap=q':=subA_zero hsp
 have hq:evA e q=some (.val (.int kk i)):=hk▸ha2
 obtain⟨vq,hq1,hq2⟩:=cn.get hq
 have hq2:vq=_:=hq2
 subst hq2
 have hblk:∀b,b∈blkOf (Value.slice q' j cap)↔b∈blkOf (Value.slice q' len cap):=by intro b;cases q' <;> simp [blkOf]
 have hev:reV (.slice q' len cap) j= .slice q' j cap:=by simp only [reV,hre]
 rw [hev] at hn
 refine St.sliceH Γ.ok t1 t2 t3 g1 hq1 hij hjc ?_
 rw [hre2]
 rcases hn with⟨hjL,hn⟩|⟨hjL,hn⟩
 ·have hsh:=own_short hw (show j≤len by omega)
  have hfl:=hv.flen
  have hjs:j * sz≤L.length * sz:=zU _ hjL
  have he:(L.flatten ++ junk).take (j * sz)=(L.take j).flatten:=by
   rw [flat_take L j hv.sz,List.take_append_of_le_length (by omega)]
  rw [he] at hsh
  have hvt:RowsV sz (L.take j):=⟨fun r hr=>hv.sz r (zW hr),fun r hr=>hv.one r (zW hr)⟩
  have c3:Con Γ ⟨e,arrR (.slice q' j cap) T sz (L.take j) valR :: rest⟩ env hh G (O :: Os'):=⟨cn2.hp.perm ⟨⟨fun b=>(ho b).trans (hblk b).symm,L.take j,by rw [zN,Nat.min_eq_left hjL];exact hsh,hvt.rows hh G⟩,hrest⟩ (List.Perm.refl _),cn2.env,cn2.nf⟩
  exact CN.mk (c3.put d (a:= .ow _) ⟨rfl,_,_,_,rfl⟩) hn
 ·by_cases hjl:j≤len
  ·have hsh:=own_short hw hjl
   have hfl:=hv.flen
   have hjs:L.length * sz≤j * sz:=zU _ hjL
   rw [List.take_append,List.take_of_length_le (by omega)] at hsh
   have c3:Con Γ ⟨e,arrX (.slice q' j cap) T sz L j :: rest⟩ env hh G (O :: Os'):=⟨cn2.hp.perm ⟨⟨fun b=>(ho b).trans (hblk b).symm,hv,hjL,_,hsh⟩,hrest⟩ (List.Perm.refl _),cn2.env,cn2.nf⟩
   exact CN.mk (c3.put d (a:= .ox _) ⟨rfl,_,_,_,rfl⟩) hn
  ·obtain⟨jk,hlg⟩:=own_long hw (show len≤j by omega) hjc
   have c3:Con Γ ⟨e,arrX (.slice q' j cap) T sz L j :: rest⟩ env hh G (O :: Os'):=⟨cn2.hp.perm ⟨⟨fun b=>(ho b).trans (hblk b).symm,hv,hjL,junk ++ jk,by rw [←List.append_assoc];exact hlg⟩,hrest⟩ (List.Perm.refl _),cn2.env,cn2.nf⟩
   exact CN.mk (c3.put d (a:= .ox _) ⟨rfl,_,_,_,rfl⟩) hn⟩⟩⟩
end
end Go.CF
set_option maxRecDepth 100000
set_option maxHeartbeats 80000000
namespace Go.CF
open Go
def isWsN(k:Nat) : Bool:=Nat.beq k 9 || Nat.beq k 10 || Nat.beq k 11 || Nat.beq k 12 || Nat.beq k 13 || Nat.beq k 32
def ascVs : List Value:=(List.range 256).map fun k=> .int .u8 (bif isWsN k then 1 else 0)
theorem ascVs_at{k:Nat}(h:k < 256) : (ascVs.map AV.val)[k]?=some (.val (.int .u8 (bif isWsN k then 1 else 0))):=by
 unfold ascVs
 rw [zG,zG,List.getElem?_range h]
 rfl
def ambG(P:Program) : List Nat:=(List.range P.globals.size).filter fun g=>(P.globals[g]?).any (·.name == "strings.asciiSpace")
def AmbOK(P:Program)(h:Heap)(G:Nat→Prop) : Prop:=∀g∈ambG P,G g∧g < h.size∧Cels h ⟨g,0,none⟩ ascVs
theorem AmbOK.mono{P:Program}{h h':Heap}{G G':Nat→Prop}(a:AmbOK P h G)(hf:FPx G h h')(hg:∀b,G b→G' b) : AmbOK P h' G':=fun g hm =>
 ⟨hg g (a g hm).1,Nat.lt_of_lt_of_le (a g hm).2.1 hf.size,⟨fun j v hv=>Cel.of_block (hf.same _ (by rw [addr_add];exact(a g hm).1) (by rw [addr_add];exact(a g hm).2.1)) ((a g hm).2.2.get j v hv)⟩⟩
def AmbF(P:Program)(h0:Heap)(G0 O0:Nat→Prop) : Prop:=∀own h G Os,HpOK h0 G0 O0 own h G Os→AmbOK P h G
structure CallG (P:Program) (f:FuncId) (asx:List AV) (own:List Res) (K:AV→List Res→Prop):Prop where
 run:∀h G Os vs,RepT h G vs asx→HpOK h G (U Os) own h G Os→AmbOK P h G→CallsH P f vs.toArray h fun v h'=>∃r own' G' Os',K r own'∧r.R h' G' v∧HpOK h G (U Os) own' h' G' Os'
def CallGP(P:Program)(f:FuncId)(asx:List AV)(r:AV) : Prop:=CallG P f asx [] fun q own=>q=r∧own= []
theorem CallG.of{P:Program}{tt:Nat→Option TI}{en:Nat→Bool}(ok:PgOK P tt en)(T:Nat→Ord×(Nat→Cls)){f:FuncId}{fn:Func}{y:Code}{n:Nat}{rs:Array ResultVar}{asx:List AV}{own:List Res}{K:AV→List Res→Prop}(hf:P.funcs[f]?=some fn)(hb:fn.body=some y)(hn:fn.ntmps=n)(hr:fn.results=rs)(hl:Nat.ble asx.length n=true)
  (hc:∀h0 G0 O0,AmbF P h0 G0 O0→CA ⟨P,tt,en,ok,T,n,rs,K,h0,G0,O0,⟨none⟩⟩ [] y (argA 0 asx) own):CallG P f asx own K:=by
 refine⟨fun h G Os vs h1 h2 ha=>?_⟩
 have hx:AmbF P h G (U Os):=fun own h' G' Os' c=>ha.mono (c.fp.mono fun b hb ⟨O,hO,ho⟩=>(h2.o O hO b ho).2.2 hb) c.g0
 refine CallsH.of hf hb hn hr (by rw [h1.len];exact hl) (fun v ha hb hs ⟨r,own',G',Os',g2,g3,g4⟩=>⟨r,own',G',Os',g2,AV.stp _ (g4.shutF (fun b hb=>(h2.g b hb).1) hs) g3,g4.shut (fun b hb=>(h2.g b hb).1) hs⟩) (CW.mono (fun x e h' hq=>?_) ((hc h G (U Os) hx).h (argE 0 vs) h G Os ⟨h2,look_argA asx vs 0 h1,FpOK.none rfl⟩))
 have key:∀(R1 R2:Env→Heap→Prop),(∀e h,R1 e h→R2 e h)→∀x e h,PK P n R1 [] x e h→PK P n R2 [] x e h:=by
  intro R1 R2 h12 x e h hp
  unfold PK at hp ⊢
  cases x <;> first|exact h12 _ _ hp|exact hp
 exact key _ _ (fun e h' ⟨v,r,own',G',Os',g1,g2,g3,g4⟩=>⟨v,g1,r,own',G',Os',g2,g3,g4⟩) x e h' hq
section
variable {Γ:Cx} {k:List KI} {e:EA} {o:List Res} {N:NA} {c:Cls} {d:Tmp} {ty:TypeId} {x y z:Operand} {t u:TypeId}
theorem Cl.useG{f:FuncId}{asx as':List AV}{own rest:List Res}{K:AV→List Res→Prop}{M:AV→List Res→Prop}(hc:CallG Γ.P f as' own K)(ga:AmbF Γ.P Γ.h0 Γ.G0 Γ.O0)(hv:Lend [] asx as')(ht:Takes o own rest)(hl:(isLoud c || own.isEmpty)=true)(hm:∀r own',K r own'→M r (own' ++ rest)) : Cl Γ c f asx o M:=by
 refine⟨fun {h G Os vs} hp hr=>?_⟩
 obtain⟨o1,o2,h1,h2,h3⟩:=ht.own hp.own
 have hp2:=hp.perm (h1.app h2) h3
 refine(hc.run h G o1 vs (hv.rep0 hr) (hp2.inner h1) (ga _ _ _ _ hp)).mono fun v h' ⟨r,own',G',Os',g1,g2,g3⟩=>?_
 obtain⟨k1,k2,k3⟩:=hp2.call h2 g3
 refine⟨?_,r,_,G',_,hm r own' g1,g2,k1,k2,k3⟩
 simp only [Bool.or_eq_true] at hl
 rcases hl with hl|hl
 ·exact .inl hl
 ·right
  have he:own= []:=by simpa using hl
  subst he
  match o1,h1 with
  | [],_=>exact⟨g3.fp.size,fun b hb _=>g3.fp.same b (fun⟨O,hO,_⟩=>by cases hO) hb⟩
theorem Cl.pG{f:FuncId}{asx as':List AV}{r:AV}{M:AV→List Res→Prop}(hc:CallGP Γ.P f as' r)(ga:AmbF Γ.P Γ.h0 Γ.G0 Γ.O0)(hv:Lend [] asx as')(hm:M r o) : Cl Γ c f asx o M :=
 Cl.useG hc ga hv .nil (by cases isLoud c <;> rfl) fun r' own' ⟨h1,h2⟩=>by subst h1;subst h2;exact hm
theorem Cl.lendG{f:FuncId}{asx as':List AV}{r:AV}{M:AV→List Res→Prop}[hf:Flat r](hc:CallGP Γ.P f as' r)(ga:AmbF Γ.P Γ.h0 Γ.G0 Γ.O0)(hl:Lend o asx as')(hm:M r o) : Cl Γ c f asx o M:=by
 refine⟨fun {h G Os vs} hp hr=>?_⟩
 have hin:HpOK h (fun b=>G b∨U Os b) (U []) [] h (fun b=>G b∨U Os b) [] :=
  ⟨trivial,fun b hb=>⟨hb.elim (fun h9=>(hp.g b h9).1) (fun⟨O,hO,h9⟩=>(hp.o O hO b h9).1), .inl hb⟩,fun _ h=>h,fun O hO=>(by cases hO),List.Pairwise.nil,FPx.refl h⟩
 refine(CallG.run hc h _ [] vs (hl.rep hp.own hr) hin ((ga _ _ _ _ hp).mono (FPx.refl h) fun _=> .inl)).mono fun v h' ⟨r',own',G',Os',⟨g1,g2⟩,g3,g4⟩=>?_
 subst g1;subst g2
 have hst:Stp ([]:List Nat) h h':=⟨g4.fp.size,fun b hb _=>g4.fp.same b (fun⟨O,hO,_⟩=>by cases hO) hb⟩
 have hx:∀S,FPx S h h':=fun S=>⟨hst.size,fun b _ hb=>hst.same b hb (by simp)⟩
 have hs:=hp.fp.size
 have hs':=hst.size
 refine⟨.inr hst,r',o,G,Os,hm,hf.h _ _ _ _ _ g3,⟨OwnL.stp (fun O _=>hx _) hp.own,fun b hb=>⟨by have:=(hp.g b hb).1;omega,(hp.g b hb).2.imp id fun q=>⟨q.1,q.2.eq (hst.same b (hp.g b hb).1 (by simp))⟩⟩,hp.g0,fun O hO b hb=>⟨by have:=(hp.o O hO b hb).1;omega,(hp.o O hO b hb).2⟩,hp.d,⟨by omega,fun b hb hl=>?_⟩⟩,hx G,fun _ h=>h⟩
 rw [hst.same b (by omega) (by simp)]
 exact hp.fp.same b hb hl
theorem Ldp.glob(ga:AmbF Γ.P Γ.h0 Γ.G0 Γ.O0){g j:Nat}{m:Option Nat}(hg:g∈ambG Γ.P){cs:List AV}(hcs:cs=ascVs.map AV.val)(hn:LdX m cs j fun r=>N ((d,r) :: e) o) : Ldp Γ c d t x ty e o N (.val (.pointer (some ⟨g,j,none⟩))) m :=
 ⟨fun ha hm hc=>⟨fun env hh G Os cn=>by
  subst hcs
  obtain⟨v,h1,rfl⟩:=cn.get ha
  obtain⟨a1,a2,a3⟩:=ga _ hh G Os cn.hp g hg
  refine load_at (of:=0) (vs:=ascVs) hm hc (by rw [Nat.zero_add];exact h1) a3 ⟨repT_val' ascVs,fun u hu=>?_⟩ hn cn fun _=>cn.nf.not_mem a1
  obtain⟨k,-,rfl⟩:=List.mem_map.1 hu
  rfl⟩⟩
theorem CallGP.calls{P:Program}{f:FuncId}{asx:List AV}{v:Value}{h:Heap}{vs:List Value}(hc:CallGP P f asx (.val v))(hr:RepT h (Old h) vs asx)(ha:AmbOK P h (Old h)) : CallsH P f vs.toArray h fun x h'=>x=v∧Stp ([]:List Nat) h h':=by
 have hin:HpOK h (Old h) (U []) [] h (Old h) [] :=
  ⟨trivial,fun b hb=>⟨hb, .inl hb⟩,fun _ h=>h,fun O hO=>(by cases hO),List.Pairwise.nil,FPx.refl h⟩
 refine(CallG.run hc h (Old h) [] vs hr hin ha).mono fun x h' ⟨r,own,G',Os',⟨g1,g2⟩,g3,g4⟩=>?_
 subst g1;subst g2
 exact⟨g3,g4.fp.size,fun b hb _=>g4.fp.same b (fun⟨O,hO,_⟩=>by cases hO) hb⟩
end
section
variable {P:Program} {tt:Nat→Option TI} {en:Nat→Bool} {n:Nat} {env:Env} {h:Heap} {N:Env→Heap→Prop} {γ:Type} [Membership Nat γ] {fp:γ} {c:Cls} {d:Tmp} {ty t u:TypeId} {x y z:Operand} {k1:IntKind}
theorem St.sliceSf(G:PgOK P tt en){ti:TI}{s:ByteArray}{i:Int}{j:Nat}(ht:tt t=some ti)(hk:ti.kind= .str)(hx:ev env x=some (.string s))(hy:ev env y=some (.int k1 i))(hi:i=(j:Int))(hj:j≤s.size)(k:N ((d, .string (s.extract j s.size)) :: env) h) :
  St P n fp c (some d) (.slice t x (some y) none none) ty env h N :=
 .ofPu (v:= .string (s.extract j s.size)) (fun a w ha=>by
  subst hi
  have h1:=run_slice_string_from_if w t s k1 (j:Int) ((G.ok _ _ ht).str hk)
  rw [if_pos ⟨by omega,by omega⟩] at h1
  simp [mkOp,execOp,ha.ev hx,ha.ev hy,run_sliceAt_string _ _ _ _ _ _ ((G.ok _ _ ht).str hk),h1]) k
theorem St.sliceSt(G:PgOK P tt en){ti:TI}{s:ByteArray}{i:Int}{j:Nat}(ht:tt t=some ti)(hk:ti.kind= .str)(hx:ev env x=some (.string s))(hy:ev env y=some (.int k1 i))(hi:i=(j:Int))(hj:j≤s.size)(k:N ((d, .string (s.extract 0 j)) :: env) h) :
  St P n fp c (some d) (.slice t x none (some y) none) ty env h N :=
 .ofPu (v:= .string (s.extract 0 j)) (fun a w ha=>by
  subst hi
  have h1:=run_slice_string_to_if w t s k1 (j:Int) ((G.ok _ _ ht).str hk)
  rw [if_pos ⟨by omega,by omega⟩] at h1
  simp [mkOp,execOp,ha.ev hx,ha.ev hy,run_sliceAt_string _ _ _ _ _ _ ((G.ok _ _ ht).str hk),h1]) k
theorem St.neqS{s q:ByteArray}(hx:ev env x=some (.string s))(hy:ev env y=some (.string q))(k:N ((d, .bool (decide (¬s.toList=q.toList))) :: env) h) : St P n fp c (some d) (.binOp .neq t x y u) ty env h N :=
 .ofPu (v:= .bool (decide (¬s.toList=q.toList))) (fun a w ha=>by
  have hb:(!(s.toList == q.toList))=decide (¬s.toList=q.toList):=by rw [Bool.eq_iff_iff];simp
  simp [mkOp,execOp,ha.ev hx,ha.ev hy,binOp_string_neq,eqGuard,hb]) k
end
section
variable {Γ:Cx} {k:List KI} {e:EA} {o:List Res} {N:NA} {c:Cls} {d:Tmp} {ty:TypeId} {x y z:Operand} {t u:TypeId} {kk kk':IntKind} {i i':Int}
instance {s q:ByteArray} : Sp (Ap2 Γ c d (.binOp .neq t x y u) ty e o N x (.val (.string s)) y (.val (.string q))) (N ((d, .val (.bool (decide (¬s.toList=q.toList)))) :: e) o):=⟨fun hn=>puv2 hn fun _ _ _ h h' k=>St.neqS h h' k⟩
instance {s:ByteArray} {lo:Operand} : Sp (Slp Γ c d t x (some lo) none ty e o N (.val (.string s))) (Lk (Γ.tt t) fun ti=>Rf (ti.kind= .str) (Bds e (some lo) none s.size fun a _=>N ((d, .val (.string (s.extract a s.size))) :: e) o)) :=
 ⟨fun⟨_,h1,h2,a,b,h3,h4,hn,⟨_,_,g1,g2⟩,g3⟩=>⟨fun ha=>⟨fun env hh G Os cn=>by
  obtain⟨v,k1,k2⟩:=cn.get ha
  have k2:v=_:=k2
  subst k2
  obtain⟨v,k3,k4⟩:=cn.get g1
  have k4:v=_:=k4
  subst k4
  exact St.sliceSf Γ.ok h1 h2 k1 k3 g2 (Nat.le_trans h3 h4) (CN.mk (cn.put d (a:= .val (.string (s.extract a s.size))) rfl) hn)⟩⟩⟩
instance {s:ByteArray} {hi:Operand} : Sp (Slp Γ c d t x none (some hi) ty e o N (.val (.string s))) (Lk (Γ.tt t) fun ti=>Rf (ti.kind= .str) (Bds e none (some hi) s.size fun _ b=>N ((d, .val (.string (s.extract 0 b))) :: e) o)) :=
 ⟨fun⟨_,h1,h2,a,b,h3,h4,hn,g3,⟨_,_,g1,g2⟩⟩=>⟨fun ha=>⟨fun env hh G Os cn=>by
  obtain⟨v,k1,k2⟩:=cn.get ha
  have k2:v=_:=k2
  subst k2
  obtain⟨v,k3,k4⟩:=cn.get g1
  have k4:v=_:=k4
  subst k4
  exact St.sliceSt Γ.ok h1 h2 k1 k3 g2 h4 (CN.mk (cn.put d (a:= .val (.string (s.extract 0 b))) rfl) hn)⟩⟩⟩
end
theorem ResX.cellI{Γ:Cx}{e:EA}{o:List Res}{a:Tmp}{ty:TypeId}{k:AV→Prop}{b:Nat}{T:TypeId}{x:AV}{rest:List Res}{ti:TI}(ha:lookA e a=some (.val (.pointer (some ⟨b,0,none⟩))))(tk:Take o (blkR b T [x]) rest)(ht:Γ.tt ty=some ti)(hna:ti.kind.agg=false)(hk:k x) : ResX Γ e o [.cell a ty] k:=⟨⟨x,hk,fun hr env h G Os cn=>by
 obtain⟨v,g1,g2⟩:=cn.env a _ ha
 have g2:v=_:=g2
 subst g2
 obtain⟨O,Os',cn2⟩:=cn.take tk
 obtain⟨⟨_,vs,hb,hrl⟩,_⟩:=cn2.hp.own
 match vs,hrl.t with
 | [v0],⟨hv,_⟩ =>
  have hrs:Γ.rs=#[.cell a ty]:=Array.ext' hr
  refine⟨v0, ?_,hv⟩
  rw [hrs]
  intro ac w fn ha' hw hfr
  rw [results_cell1 hfr]
  have k1:=(Γ.ok.ok _ _ ht).run_agg (w:=w) hna
  have k3:w.cell? ⟨b,0,none⟩=some v0:=((hb.cels0.cell (j:=0) rfl).shut hw).get w rfl
  simp [ha'.val _ _ g1,asAddr,loadVar,k1,k3]⟩⟩
structure Stopped (p:Prop):Prop where
 h:p
theorem Stopped.out{p:Prop}(h:Stopped p) : p:=h.h
end Go.CF
namespace Go.Proofs.YtmjllbjfkafhdaaGreatDoor
open Go Go.CF
def ti3 : TI := ⟨.int .i64, 1, 8, .int .i64 0⟩ -- int
theorem tok3 : TOK Tryz.prog 3 ti3:=TOK.mk' (by kernel_rfl) (by kernel_rfl)
def ti4 : TI := ⟨.bool, 1, 1, .bool false⟩ -- bool
theorem tok4 : TOK Tryz.prog 4 ti4:=TOK.mk' (by kernel_rfl) (by kernel_rfl)
def ti5 : TI := ⟨.int .u8, 1, 1, .int .u8 0⟩ -- uint8
theorem tok5 : TOK Tryz.prog 5 ti5:=TOK.mk' (by kernel_rfl) (by kernel_rfl)
def ti9 : TI := ⟨.str, 1, 16, .string ⟨#[]⟩⟩ -- string
theorem tok9 : TOK Tryz.prog 9 ti9:=TOK.mk' (by kernel_rfl) (by kernel_rfl)
def ti21 : TI := ⟨.int .i32, 1, 4, .int .i32 0⟩ -- int32
theorem tok21 : TOK Tryz.prog 21 ti21:=TOK.mk' (by kernel_rfl) (by kernel_rfl)
def ti22 : TI := ⟨.slice 3, 1, 24, .slice none 0 0⟩ -- []int
theorem tok22 : TOK Tryz.prog 22 ti22:=TOK.mk' (by kernel_rfl) (by kernel_rfl)
def ti23 : TI := ⟨.slice 150, 1, 24, .slice none 0 0⟩ -- []api.Table
theorem tok23 : TOK Tryz.prog 23 ti23:=TOK.mk' (by kernel_rfl) (by kernel_rfl)
def ti24 : TI := ⟨.slice 9, 1, 24, .slice none 0 0⟩ -- []string
theorem tok24 : TOK Tryz.prog 24 ti24:=TOK.mk' (by kernel_rfl) (by kernel_rfl)
def ti25 : TI := ⟨.slice 172, 1, 24, .slice none 0 0⟩ -- []api.Constraint
theorem tok25 : TOK Tryz.prog 25 ti25:=TOK.mk' (by kernel_rfl) (by kernel_rfl)
def ti26 : TI := ⟨.slice 174, 1, 24, .slice none 0 0⟩ -- []api.Operation
theorem tok26 : TOK Tryz.prog 26 ti26:=TOK.mk' (by kernel_rfl) (by kernel_rfl)
def ti27 : TI := ⟨.slice 142, 1, 24, .slice none 0 0⟩ -- []api.Action
theorem tok27 : TOK Tryz.prog 27 ti27:=TOK.mk' (by kernel_rfl) (by kernel_rfl)
def ti28 : TI := ⟨.slice 192, 1, 24, .slice none 0 0⟩ -- []api.Hide
theorem tok28 : TOK Tryz.prog 28 ti28:=TOK.mk' (by kernel_rfl) (by kernel_rfl)
def ti30 : TI := ⟨.struct [(0, 22, 1), (1, 23, 1), (2, 24, 1), (3, 25, 1), (4, 26, 1), (5, 27, 1), (6, 28, 1)], 7, 168, .agg #[.slice none 0 0, .slice none 0 0, .slice none 0 0, .slice none 0 0, .slice none 0 0, .slice none 0 0, .slice none 0 0]⟩ -- api.Model
theorem tok30 : TOK Tryz.prog 30 ti30:=TOK.mk' (by kernel_rfl) (by kernel_rfl)
def ti31 : TI := ⟨.slice 66, 1, 24, .slice none 0 0⟩ -- []api.Event
theorem tok31 : TOK Tryz.prog 31 ti31:=TOK.mk' (by kernel_rfl) (by kernel_rfl)
def ti32 : TI := ⟨.slice 5, 1, 24, .slice none 0 0⟩ -- []uint8
theorem tok32 : TOK Tryz.prog 32 ti32:=TOK.mk' (by kernel_rfl) (by kernel_rfl)
def ti33 : TI := ⟨.slice 102, 1, 24, .slice none 0 0⟩ -- []api.Query
theorem tok33 : TOK Tryz.prog 33 ti33:=TOK.mk' (by kernel_rfl) (by kernel_rfl)
def ti38 : TI := ⟨.ptr 133, 1, 8, .pointer none⟩ -- *store.Store
theorem tok38 : TOK Tryz.prog 38 ti38:=TOK.mk' (by kernel_rfl) (by kernel_rfl)
def ti40 : TI := ⟨.int .i64, 1, 8, .int .i64 0⟩ -- api.Errno
theorem tok40 : TOK Tryz.prog 40 ti40:=TOK.mk' (by kernel_rfl) (by kernel_rfl)
def ti42 : TI := ⟨.slice 231, 1, 24, .slice none 0 0⟩ -- []api.Merged
theorem tok42 : TOK Tryz.prog 42 ti42:=TOK.mk' (by kernel_rfl) (by kernel_rfl)
def ti43 : TI := ⟨.slice 22, 1, 24, .slice none 0 0⟩ -- [][]int
theorem tok43 : TOK Tryz.prog 43 ti43:=TOK.mk' (by kernel_rfl) (by kernel_rfl)
def ti44 : TI := ⟨.slice 43, 1, 24, .slice none 0 0⟩ -- [][][]int
theorem tok44 : TOK Tryz.prog 44 ti44:=TOK.mk' (by kernel_rfl) (by kernel_rfl)
def ti46 : TI := ⟨.struct [(0, 22, 1), (1, 3, 1), (2, 22, 1), (3, 42, 1), (4, 43, 1), (5, 44, 1), (6, 22, 1)], 7, 152, .agg #[.slice none 0 0, .int .i64 0, .slice none 0 0, .slice none 0 0, .slice none 0 0, .slice none 0 0, .slice none 0 0]⟩ -- api.Base
theorem tok46 : TOK Tryz.prog 46 ti46:=TOK.mk' (by kernel_rfl) (by kernel_rfl)
def ti48 : TI := ⟨.struct [(0, 46, 7), (7, 31, 1), (8, 22, 1)], 9, 200, .agg #[.slice none 0 0, .int .i64 0, .slice none 0 0, .slice none 0 0, .slice none 0 0, .slice none 0 0, .slice none 0 0, .slice none 0 0, .slice none 0 0]⟩ -- confluentref53.View
theorem tok48 : TOK Tryz.prog 48 ti48:=TOK.mk' (by kernel_rfl) (by kernel_rfl)
def ti55 : TI := ⟨.func, 1, 8, .nilFunc⟩ -- func([]int, []int) bool
theorem tok55 : TOK Tryz.prog 55 ti55:=TOK.mk' (by kernel_rfl) (by kernel_rfl)
def ti62 : TI := ⟨.struct [(0, 3, 1), (1, 3, 1), (2, 3, 1)], 3, 24, .agg #[.int .i64 0, .int .i64 0, .int .i64 0]⟩ -- api.Right
theorem tok62 : TOK Tryz.prog 62 ti62:=TOK.mk' (by kernel_rfl) (by kernel_rfl)
def ti64 : TI := ⟨.struct [(0, 62, 3), (3, 3, 1)], 4, 32, .agg #[.int .i64 0, .int .i64 0, .int .i64 0, .int .i64 0]⟩ -- api.Need
theorem tok64 : TOK Tryz.prog 64 ti64:=TOK.mk' (by kernel_rfl) (by kernel_rfl)
def ti66 : TI := ⟨.struct [(0, 3, 1), (1, 3, 1), (2, 3, 1), (3, 22, 1), (4, 3, 1), (5, 3, 1), (6, 64, 4), (10, 3, 1), (11, 3, 1), (12, 3, 1)], 13, 120, .agg #[.int .i64 0, .int .i64 0, .int .i64 0, .slice none 0 0, .int .i64 0, .int .i64 0, .int .i64 0, .int .i64 0, .int .i64 0, .int .i64 0, .int .i64 0, .int .i64 0, .int .i64 0]⟩ -- api.Event
theorem tok66 : TOK Tryz.prog 66 ti66:=TOK.mk' (by kernel_rfl) (by kernel_rfl)
def ti70 : TI := ⟨.struct [(0, 3, 1), (1, 3, 1)], 2, 16, .agg #[.int .i64 0, .int .i64 0]⟩ -- api.Dot
theorem tok70 : TOK Tryz.prog 70 ti70:=TOK.mk' (by kernel_rfl) (by kernel_rfl)
def ti86 : TI := ⟨.slice 38, 1, 24, .slice none 0 0⟩ -- []*store.Store
theorem tok86 : TOK Tryz.prog 86 ti86:=TOK.mk' (by kernel_rfl) (by kernel_rfl)
def ti91 : TI := ⟨.func, 1, 8, .nilFunc⟩ -- func(*store.Store) bool
theorem tok91 : TOK Tryz.prog 91 ti91:=TOK.mk' (by kernel_rfl) (by kernel_rfl)
def ti102 : TI := ⟨.struct [(0, 3, 1), (1, 3, 1)], 2, 16, .agg #[.int .i64 0, .int .i64 0]⟩ -- api.Query
theorem tok102 : TOK Tryz.prog 102 ti102:=TOK.mk' (by kernel_rfl) (by kernel_rfl)
def ti104 : TI := ⟨.struct [(0, 22, 1), (1, 3, 1)], 2, 32, .agg #[.slice none 0 0, .int .i64 0]⟩ -- struct { at []int;want int }
theorem tok104 : TOK Tryz.prog 104 ti104:=TOK.mk' (by kernel_rfl) (by kernel_rfl)
def ti105 : TI := ⟨.slice 104, 1, 24, .slice none 0 0⟩ -- []struct { at []int;want int }
theorem tok105 : TOK Tryz.prog 105 ti105:=TOK.mk' (by kernel_rfl) (by kernel_rfl)
def ti107 : TI := ⟨.func, 1, 8, .nilFunc⟩ -- func(api.Event) bool
theorem tok107 : TOK Tryz.prog 107 ti107:=TOK.mk' (by kernel_rfl) (by kernel_rfl)
def ti110 : TI := ⟨.slice 148, 1, 24, .slice none 0 0⟩ -- []api.Range
theorem tok110 : TOK Tryz.prog 110 ti110:=TOK.mk' (by kernel_rfl) (by kernel_rfl)
def ti112 : TI := ⟨.map 3 3, 1, 8, .map none⟩ -- map[int]int
theorem tok112 : TOK Tryz.prog 112 ti112:=TOK.mk' (by kernel_rfl) (by kernel_rfl)
def ti114 : TI := ⟨.func, 1, 8, .nilFunc⟩ -- func(api.Query) bool
theorem tok114 : TOK Tryz.prog 114 ti114:=TOK.mk' (by kernel_rfl) (by kernel_rfl)
def ti119 : TI := ⟨.slice 4, 1, 24, .slice none 0 0⟩ -- []bool
theorem tok119 : TOK Tryz.prog 119 ti119:=TOK.mk' (by kernel_rfl) (by kernel_rfl)
def ti121 : TI := ⟨.struct [(0, 22, 1), (1, 119, 1), (2, 43, 1)], 3, 72, .agg #[.slice none 0 0, .slice none 0 0, .slice none 0 0]⟩ -- snapshot.snapshot
theorem tok121 : TOK Tryz.prog 121 ti121:=TOK.mk' (by kernel_rfl) (by kernel_rfl)
def ti131 : TI := ⟨.struct [(0, 22, 1), (1, 3, 1), (2, 22, 1), (3, 42, 1), (4, 22, 1)], 5, 104, .agg #[.slice none 0 0, .int .i64 0, .slice none 0 0, .slice none 0 0, .slice none 0 0]⟩ -- store.now
theorem tok131 : TOK Tryz.prog 131 ti131:=TOK.mk' (by kernel_rfl) (by kernel_rfl)
def ti133 : TI := ⟨.struct [(0, 30, 7), (7, 46, 7), (14, 31, 1), (15, 131, 5)], 20, 448, .agg #[.slice none 0 0, .slice none 0 0, .slice none 0 0, .slice none 0 0, .slice none 0 0, .slice none 0 0, .slice none 0 0, .slice none 0 0, .int .i64 0, .slice none 0 0, .slice none 0 0, .slice none 0 0, .slice none 0 0, .slice none 0 0, .slice none 0 0, .slice none 0 0, .int .i64 0, .slice none 0 0, .slice none 0 0, .slice none 0 0]⟩ -- store.Store
theorem tok133 : TOK Tryz.prog 133 ti133:=TOK.mk' (by kernel_rfl) (by kernel_rfl)
def ti136 : TI := ⟨.slice 144, 1, 24, .slice none 0 0⟩ -- []api.Change
theorem tok136 : TOK Tryz.prog 136 ti136:=TOK.mk' (by kernel_rfl) (by kernel_rfl)
def ti137 : TI := ⟨.slice 170, 1, 24, .slice none 0 0⟩ -- []api.Row
theorem tok137 : TOK Tryz.prog 137 ti137:=TOK.mk' (by kernel_rfl) (by kernel_rfl)
def ti138 : TI := ⟨.slice 206, 1, 24, .slice none 0 0⟩ -- []api.Update
theorem tok138 : TOK Tryz.prog 138 ti138:=TOK.mk' (by kernel_rfl) (by kernel_rfl)
def ti140 : TI := ⟨.struct [(0, 136, 1), (1, 137, 1), (2, 138, 1)], 3, 72, .agg #[.slice none 0 0, .slice none 0 0, .slice none 0 0]⟩ -- api.Effect
theorem tok140 : TOK Tryz.prog 140 ti140:=TOK.mk' (by kernel_rfl) (by kernel_rfl)
def ti142 : TI := ⟨.struct [(0, 3, 1), (1, 22, 1), (2, 140, 3)], 5, 104, .agg #[.int .i64 0, .slice none 0 0, .slice none 0 0, .slice none 0 0, .slice none 0 0]⟩ -- api.Action
theorem tok142 : TOK Tryz.prog 142 ti142:=TOK.mk' (by kernel_rfl) (by kernel_rfl)
def ti144 : TI := ⟨.struct [(0, 3, 1), (1, 3, 1)], 2, 16, .agg #[.int .i64 0, .int .i64 0]⟩ -- api.Change
theorem tok144 : TOK Tryz.prog 144 ti144:=TOK.mk' (by kernel_rfl) (by kernel_rfl)
def ti148 : TI := ⟨.struct [(0, 3, 1), (1, 3, 1)], 2, 16, .agg #[.int .i64 0, .int .i64 0]⟩ -- api.Range
theorem tok148 : TOK Tryz.prog 148 ti148:=TOK.mk' (by kernel_rfl) (by kernel_rfl)
def ti150 : TI := ⟨.struct [(0, 9, 1), (1, 3, 1), (2, 22, 1), (3, 148, 2), (5, 3, 1)], 6, 72, .agg #[.string ⟨#[]⟩, .int .i64 0, .slice none 0 0, .int .i64 0, .int .i64 0, .int .i64 0]⟩ -- api.Table
theorem tok150 : TOK Tryz.prog 150 ti150:=TOK.mk' (by kernel_rfl) (by kernel_rfl)
def ti151 : TI := ⟨.slice 208, 1, 24, .slice none 0 0⟩ -- []confluentref32.updated
theorem tok151 : TOK Tryz.prog 151 ti151:=TOK.mk' (by kernel_rfl) (by kernel_rfl)
def ti155 : TI := ⟨.func, 1, 8, .nilFunc⟩ -- func(int) []int
theorem tok155 : TOK Tryz.prog 155 ti155:=TOK.mk' (by kernel_rfl) (by kernel_rfl)
def ti157 : TI := ⟨.slice 216, 1, 24, .slice none 0 0⟩ -- []api.Span
theorem tok157 : TOK Tryz.prog 157 ti157:=TOK.mk' (by kernel_rfl) (by kernel_rfl)
def ti161 : TI := ⟨.struct [(0, 38, 1), (1, 66, 13), (14, 131, 5)], 19, 232, .agg #[.pointer none, .int .i64 0, .int .i64 0, .int .i64 0, .slice none 0 0, .int .i64 0, .int .i64 0, .int .i64 0, .int .i64 0, .int .i64 0, .int .i64 0, .int .i64 0, .int .i64 0, .int .i64 0, .slice none 0 0, .int .i64 0, .slice none 0 0, .slice none 0 0, .slice none 0 0]⟩ -- store.step
theorem tok161 : TOK Tryz.prog 161 ti161:=TOK.mk' (by kernel_rfl) (by kernel_rfl)
def ti162 : TI := ⟨.func, 1, 8, .nilFunc⟩ -- func() api.Errno
theorem tok162 : TOK Tryz.prog 162 ti162:=TOK.mk' (by kernel_rfl) (by kernel_rfl)
def ti163 : TI := ⟨.slice 162, 1, 24, .slice none 0 0⟩ -- []func() api.Errno
theorem tok163 : TOK Tryz.prog 163 ti163:=TOK.mk' (by kernel_rfl) (by kernel_rfl)
def ti167 : TI := ⟨.struct [(0, 3, 1), (1, 3, 1)], 2, 16, .agg #[.int .i64 0, .int .i64 0]⟩ -- api.Term
theorem tok167 : TOK Tryz.prog 167 ti167:=TOK.mk' (by kernel_rfl) (by kernel_rfl)
def ti168 : TI := ⟨.slice 167, 1, 24, .slice none 0 0⟩ -- []api.Term
theorem tok168 : TOK Tryz.prog 168 ti168:=TOK.mk' (by kernel_rfl) (by kernel_rfl)
def ti170 : TI := ⟨.struct [(0, 168, 1), (1, 3, 1)], 2, 32, .agg #[.slice none 0 0, .int .i64 0]⟩ -- api.Row
theorem tok170 : TOK Tryz.prog 170 ti170:=TOK.mk' (by kernel_rfl) (by kernel_rfl)
def ti172 : TI := ⟨.struct [(0, 3, 1), (1, 3, 1), (2, 170, 2), (4, 3, 1), (5, 3, 1)], 6, 64, .agg #[.int .i64 0, .int .i64 0, .slice none 0 0, .int .i64 0, .int .i64 0, .int .i64 0]⟩ -- api.Constraint
theorem tok172 : TOK Tryz.prog 172 ti172:=TOK.mk' (by kernel_rfl) (by kernel_rfl)
def ti174 : TI := ⟨.struct [(0, 9, 1), (1, 4, 1), (2, 22, 1)], 3, 48, .agg #[.string ⟨#[]⟩, .bool false, .slice none 0 0]⟩ -- api.Operation
theorem tok174 : TOK Tryz.prog 174 ti174:=TOK.mk' (by kernel_rfl) (by kernel_rfl)
def ti184 : TI := ⟨.func, 1, 8, .nilFunc⟩ -- func(int) bool
theorem tok184 : TOK Tryz.prog 184 ti184:=TOK.mk' (by kernel_rfl) (by kernel_rfl)
def ti192 : TI := ⟨.struct [(0, 3, 1), (1, 3, 1), (2, 3, 1)], 3, 24, .agg #[.int .i64 0, .int .i64 0, .int .i64 0]⟩ -- api.Hide
theorem tok192 : TOK Tryz.prog 192 ti192:=TOK.mk' (by kernel_rfl) (by kernel_rfl)
def ti196 : TI := ⟨.struct [(0, 30, 7), (7, 110, 1)], 8, 192, .agg #[.slice none 0 0, .slice none 0 0, .slice none 0 0, .slice none 0 0, .slice none 0 0, .slice none 0 0, .slice none 0 0, .slice none 0 0]⟩ -- model.judge
theorem tok196 : TOK Tryz.prog 196 ti196:=TOK.mk' (by kernel_rfl) (by kernel_rfl)
def ti203 : TI := ⟨.slice 155, 1, 24, .slice none 0 0⟩ -- []func(int) []int
theorem tok203 : TOK Tryz.prog 203 ti203:=TOK.mk' (by kernel_rfl) (by kernel_rfl)
def ti206 : TI := ⟨.struct [(0, 3, 1), (1, 3, 1), (2, 3, 1)], 3, 24, .agg #[.int .i64 0, .int .i64 0, .int .i64 0]⟩ -- api.Update
theorem tok206 : TOK Tryz.prog 206 ti206:=TOK.mk' (by kernel_rfl) (by kernel_rfl)
def ti208 : TI := ⟨.struct [(0, 66, 13), (13, 206, 3)], 16, 144, .agg #[.int .i64 0, .int .i64 0, .int .i64 0, .slice none 0 0, .int .i64 0, .int .i64 0, .int .i64 0, .int .i64 0, .int .i64 0, .int .i64 0, .int .i64 0, .int .i64 0, .int .i64 0, .int .i64 0, .int .i64 0, .int .i64 0]⟩ -- confluentref32.updated
theorem tok208 : TOK Tryz.prog 208 ti208:=TOK.mk' (by kernel_rfl) (by kernel_rfl)
def ti216 : TI := ⟨.struct [(0, 3, 1), (1, 3, 1), (2, 3, 1)], 3, 24, .agg #[.int .i64 0, .int .i64 0, .int .i64 0]⟩ -- api.Span
theorem tok216 : TOK Tryz.prog 216 ti216:=TOK.mk' (by kernel_rfl) (by kernel_rfl)
def ti218 : TI := ⟨.func, 1, 8, .nilFunc⟩ -- func(int, int) int
theorem tok218 : TOK Tryz.prog 218 ti218:=TOK.mk' (by kernel_rfl) (by kernel_rfl)
def ti220 : TI := ⟨.map 227 224, 1, 8, .map none⟩ -- map[merge.rule]func(merge.change) api.Errno
theorem tok220 : TOK Tryz.prog 220 ti220:=TOK.mk' (by kernel_rfl) (by kernel_rfl)
def ti222 : TI := ⟨.map 3 206, 1, 8, .map none⟩ -- map[int]api.Update
theorem tok222 : TOK Tryz.prog 222 ti222:=TOK.mk' (by kernel_rfl) (by kernel_rfl)
def ti224 : TI := ⟨.func, 1, 8, .nilFunc⟩ -- func(merge.change) api.Errno
theorem tok224 : TOK Tryz.prog 224 ti224:=TOK.mk' (by kernel_rfl) (by kernel_rfl)
def ti227 : TI := ⟨.struct [(0, 3, 1), (1, 3, 1)], 2, 16, .agg #[.int .i64 0, .int .i64 0]⟩ -- merge.rule
theorem tok227 : TOK Tryz.prog 227 ti227:=TOK.mk' (by kernel_rfl) (by kernel_rfl)
def ti228 : TI := ⟨.ptr 231, 1, 8, .pointer none⟩ -- *api.Merged
theorem tok228 : TOK Tryz.prog 228 ti228:=TOK.mk' (by kernel_rfl) (by kernel_rfl)
def ti229 : TI := ⟨.slice 233, 1, 24, .slice none 0 0⟩ -- []api.Mark
theorem tok229 : TOK Tryz.prog 229 ti229:=TOK.mk' (by kernel_rfl) (by kernel_rfl)
def ti231 : TI := ⟨.struct [(0, 4, 1), (1, 4, 1), (2, 229, 1)], 3, 32, .agg #[.bool false, .bool false, .slice none 0 0]⟩ -- api.Merged
theorem tok231 : TOK Tryz.prog 231 ti231:=TOK.mk' (by kernel_rfl) (by kernel_rfl)
def ti233 : TI := ⟨.struct [(0, 3, 1), (1, 3, 1), (2, 3, 1), (3, 3, 1)], 4, 32, .agg #[.int .i64 0, .int .i64 0, .int .i64 0, .int .i64 0]⟩ -- api.Mark
theorem tok233 : TOK Tryz.prog 233 ti233:=TOK.mk' (by kernel_rfl) (by kernel_rfl)
def ti235 : TI := ⟨.struct [(0, 228, 1), (1, 66, 13), (14, 233, 4)], 18, 160, .agg #[.pointer none, .int .i64 0, .int .i64 0, .int .i64 0, .slice none 0 0, .int .i64 0, .int .i64 0, .int .i64 0, .int .i64 0, .int .i64 0, .int .i64 0, .int .i64 0, .int .i64 0, .int .i64 0, .int .i64 0, .int .i64 0, .int .i64 0, .int .i64 0]⟩ -- merge.change
theorem tok235 : TOK Tryz.prog 235 ti235:=TOK.mk' (by kernel_rfl) (by kernel_rfl)
def ti236 : TI := ⟨.func, 1, 8, .nilFunc⟩ -- func(api.Table) bool
theorem tok236 : TOK Tryz.prog 236 ti236:=TOK.mk' (by kernel_rfl) (by kernel_rfl)
def ti246 : TI := ⟨.map 9 4, 1, 8, .map none⟩ -- map[string]bool
theorem tok246 : TOK Tryz.prog 246 ti246:=TOK.mk' (by kernel_rfl) (by kernel_rfl)
def ti248 : TI := ⟨.ptr 3, 1, 8, .pointer none⟩ -- *int
theorem tok248 : TOK Tryz.prog 248 ti248:=TOK.mk' (by kernel_rfl) (by kernel_rfl)
def ti250 : TI := ⟨.func, 1, 8, .nilFunc⟩ -- func(api.Row) bool
theorem tok250 : TOK Tryz.prog 250 ti250:=TOK.mk' (by kernel_rfl) (by kernel_rfl)
def ti254 : TI := ⟨.map 3 4, 1, 8, .map none⟩ -- map[int]bool
theorem tok254 : TOK Tryz.prog 254 ti254:=TOK.mk' (by kernel_rfl) (by kernel_rfl)
def ti256 : TI := ⟨.func, 1, 8, .nilFunc⟩ -- func(api.Hide) bool
theorem tok256 : TOK Tryz.prog 256 ti256:=TOK.mk' (by kernel_rfl) (by kernel_rfl)
def ti265 : TI := ⟨.func, 1, 8, .nilFunc⟩ -- func(api.Table, api.Merged) bool
theorem tok265 : TOK Tryz.prog 265 ti265:=TOK.mk' (by kernel_rfl) (by kernel_rfl)
def ti266 : TI := ⟨.int .u64, 1, 8, .int .u64 0⟩ -- uint
theorem tok266 : TOK Tryz.prog 266 ti266:=TOK.mk' (by kernel_rfl) (by kernel_rfl)
def ti268 : TI := ⟨.slice 272, 1, 24, .slice none 0 0⟩ -- []api.Token
theorem tok268 : TOK Tryz.prog 268 ti268:=TOK.mk' (by kernel_rfl) (by kernel_rfl)
def ti272 : TI := ⟨.struct [(0, 3, 1), (1, 3, 1), (2, 3, 1), (3, 3, 1)], 4, 32, .agg #[.int .i64 0, .int .i64 0, .int .i64 0, .int .i64 0]⟩ -- api.Token
theorem tok272 : TOK Tryz.prog 272 ti272:=TOK.mk' (by kernel_rfl) (by kernel_rfl)
def ti290 : TI := ⟨.func, 1, 8, .nilFunc⟩ -- func(*api.Event) bool
theorem tok290 : TOK Tryz.prog 290 ti290:=TOK.mk' (by kernel_rfl) (by kernel_rfl)
def ti292 : TI := ⟨.map 3 290, 1, 8, .map none⟩ -- map[int]func(*api.Event) bool
theorem tok292 : TOK Tryz.prog 292 ti292:=TOK.mk' (by kernel_rfl) (by kernel_rfl)
def ti294 : TI := ⟨.ptr 66, 1, 8, .pointer none⟩ -- *api.Event
theorem tok294 : TOK Tryz.prog 294 ti294:=TOK.mk' (by kernel_rfl) (by kernel_rfl)
def ti295 : TI := ⟨.map 70 4, 1, 8, .map none⟩ -- map[api.Dot]bool
theorem tok295 : TOK Tryz.prog 295 ti295:=TOK.mk' (by kernel_rfl) (by kernel_rfl)
def ti298 : TI := ⟨.func, 1, 8, .nilFunc⟩ -- func(api.Mark, api.Mark) int
theorem tok298 : TOK Tryz.prog 298 ti298:=TOK.mk' (by kernel_rfl) (by kernel_rfl)
def ti300 : TI := ⟨.func, 1, 8, .nilFunc⟩ -- func(api.Mark) bool
theorem tok300 : TOK Tryz.prog 300 ti300:=TOK.mk' (by kernel_rfl) (by kernel_rfl)
def ti310 : TI := ⟨.int .u32, 1, 4, .int .u32 0⟩ -- uint32
theorem tok310 : TOK Tryz.prog 310 ti310:=TOK.mk' (by kernel_rfl) (by kernel_rfl)
def ti313 : TI := ⟨.int .u64, 1, 8, .int .u64 0⟩ -- uint64
theorem tok313 : TOK Tryz.prog 313 ti313:=TOK.mk' (by kernel_rfl) (by kernel_rfl)
def ti324 : TI := ⟨.func, 1, 8, .nilFunc⟩ -- func(uint8) bool
theorem tok324 : TOK Tryz.prog 324 ti324:=TOK.mk' (by kernel_rfl) (by kernel_rfl)
def ti330 : TI := ⟨.int .i64, 1, 8, .int .i64 0⟩ -- slices.sortedHint
theorem tok330 : TOK Tryz.prog 330 ti330:=TOK.mk' (by kernel_rfl) (by kernel_rfl)
def ti341 : TI := ⟨.int .u64, 1, 8, .int .u64 0⟩ -- slices.xorshift
theorem tok341 : TOK Tryz.prog 341 ti341:=TOK.mk' (by kernel_rfl) (by kernel_rfl)
def ti347 : TI := ⟨.array 256 5, 256, 256, .agg #[.int .u8 0, .int .u8 0, .int .u8 0, .int .u8 0, .int .u8 0, .int .u8 0, .int .u8 0, .int .u8 0, .int .u8 0, .int .u8 0, .int .u8 0, .int .u8 0, .int .u8 0, .int .u8 0, .int .u8 0, .int .u8 0, .int .u8 0, .int .u8 0, .int .u8 0, .int .u8 0, .int .u8 0, .int .u8 0, .int .u8 0, .int .u8 0, .int .u8 0, .int .u8 0, .int .u8 0, .int .u8 0, .int .u8 0, .int .u8 0, .int .u8 0, .int .u8 0, .int .u8 0, .int .u8 0, .int .u8 0, .int .u8 0, .int .u8 0, .int .u8 0, .int .u8 0, .int .u8 0, .int .u8 0, .int .u8 0, .int .u8 0, .int .u8 0, .int .u8 0, .int .u8 0, .int .u8 0, .int .u8 0, .int .u8 0, .int .u8 0, .int .u8 0, .int .u8 0, .int .u8 0, .int .u8 0, .int .u8 0, .int .u8 0, .int .u8 0, .int .u8 0, .int .u8 0, .int .u8 0, .int .u8 0, .int .u8 0, .int .u8 0, .int .u8 0, .int .u8 0, .int .u8 0, .int .u8 0, .int .u8 0, .int .u8 0, .int .u8 0, .int .u8 0, .int .u8 0, .int .u8 0, .int .u8 0, .int .u8 0, .int .u8 0, .int .u8 0, .int .u8 0, .int .u8 0, .int .u8 0, .int .u8 0, .int .u8 0, .int .u8 0, .int .u8 0, .int .u8 0, .int .u8 0, .int .u8 0, .int .u8 0, .int .u8 0, .int .u8 0, .int .u8 0, .int .u8 0, .int .u8 0, .int .u8 0, .int .u8 0, .int .u8 0, .int .u8 0, .int .u8 0, .int .u8 0, .int .u8 0, .int .u8 0, .int .u8 0, .int .u8 0, .int .u8 0, .int .u8 0, .int .u8 0, .int .u8 0, .int .u8 0, .int .u8 0, .int .u8 0, .int .u8 0, .int .u8 0, .int .u8 0, .int .u8 0, .int .u8 0, .int .u8 0, .int .u8 0, .int .u8 0, .int .u8 0, .int .u8 0, .int .u8 0, .int .u8 0, .int .u8 0, .int .u8 0, .int .u8 0, .int .u8 0, .int .u8 0, .int .u8 0, .int .u8 0, .int .u8 0, .int .u8 0, .int .u8 0, .int .u8 0, .int .u8 0, .int .u8 0, .int .u8 0, .int .u8 0, .int .u8 0, .int .u8 0, .int .u8 0, .int .u8 0, .int .u8 0, .int .u8 0, .int .u8 0, .int .u8 0, .int .u8 0, .int .u8 0, .int .u8 0, .int .u8 0, .int .u8 0, .int .u8 0, .int .u8 0, .int .u8 0, .int .u8 0, .int .u8 0, .int .u8 0, .int .u8 0, .int .u8 0, .int .u8 0, .int .u8 0, .int .u8 0, .int .u8 0, .int .u8 0, .int .u8 0, .int .u8 0, .int .u8 0, .int .u8 0, .int .u8 0, .int .u8 0, .int .u8 0, .int .u8 0, .int .u8 0, .int .u8 0, .int .u8 0, .int .u8 0, .int .u8 0, .int .u8 0, .int .u8 0, .int .u8 0, .int .u8 0, .int .u8 0, .int .u8 0, .int .u8 0, .int .u8 0, .int .u8 0, .int .u8 0, .int .u8 0, .int .u8 0, .int .u8 0, .int .u8 0, .int .u8 0, .int .u8 0, .int .u8 0, .int .u8 0, .int .u8 0, .int .u8 0, .int .u8 0, .int .u8 0, .int .u8 0, .int .u8 0, .int .u8 0, .int .u8 0, .int .u8 0, .int .u8 0, .int .u8 0, .int .u8 0, .int .u8 0, .int .u8 0, .int .u8 0, .int .u8 0, .int .u8 0, .int .u8 0, .int .u8 0, .int .u8 0, .int .u8 0, .int .u8 0, .int .u8 0, .int .u8 0, .int .u8 0, .int .u8 0, .int .u8 0, .int .u8 0, .int .u8 0, .int .u8 0, .int .u8 0, .int .u8 0, .int .u8 0, .int .u8 0, .int .u8 0, .int .u8 0, .int .u8 0, .int .u8 0, .int .u8 0, .int .u8 0, .int .u8 0, .int .u8 0, .int .u8 0, .int .u8 0, .int .u8 0, .int .u8 0, .int .u8 0, .int .u8 0, .int .u8 0, .int .u8 0, .int .u8 0, .int .u8 0, .int .u8 0, .int .u8 0, .int .u8 0, .int .u8 0, .int .u8 0, .int .u8 0, .int .u8 0, .int .u8 0, .int .u8 0, .int .u8 0]⟩ -- [256]uint8
theorem tok347 : TOK Tryz.prog 347 ti347:=TOK.mk' (by kernel_rfl) (by kernel_rfl)
def ti349 : TI := ⟨.func, 1, 8, .nilFunc⟩ -- func(int32) bool
theorem tok349 : TOK Tryz.prog 349 ti349:=TOK.mk' (by kernel_rfl) (by kernel_rfl)
def ti352 : TI := ⟨.slice 354, 1, 24, .slice none 0 0⟩ -- []strings.span
theorem tok352 : TOK Tryz.prog 352 ti352:=TOK.mk' (by kernel_rfl) (by kernel_rfl)
def ti354 : TI := ⟨.struct [(0, 3, 1), (1, 3, 1)], 2, 16, .agg #[.int .i64 0, .int .i64 0]⟩ -- strings.span
theorem tok354 : TOK Tryz.prog 354 ti354:=TOK.mk' (by kernel_rfl) (by kernel_rfl)
def ti356 : TI := ⟨.ptr 360, 1, 8, .pointer none⟩ -- *unicode.RangeTable
theorem tok356 : TOK Tryz.prog 356 ti356:=TOK.mk' (by kernel_rfl) (by kernel_rfl)
def ti357 : TI := ⟨.slice 363, 1, 24, .slice none 0 0⟩ -- []unicode.Range16
theorem tok357 : TOK Tryz.prog 357 ti357:=TOK.mk' (by kernel_rfl) (by kernel_rfl)
def ti358 : TI := ⟨.slice 366, 1, 24, .slice none 0 0⟩ -- []unicode.Range32
theorem tok358 : TOK Tryz.prog 358 ti358:=TOK.mk' (by kernel_rfl) (by kernel_rfl)
def ti360 : TI := ⟨.struct [(0, 357, 1), (1, 358, 1), (2, 3, 1)], 3, 56, .agg #[.slice none 0 0, .slice none 0 0, .int .i64 0]⟩ -- unicode.RangeTable
theorem tok360 : TOK Tryz.prog 360 ti360:=TOK.mk' (by kernel_rfl) (by kernel_rfl)
def ti361 : TI := ⟨.int .u16, 1, 2, .int .u16 0⟩ -- uint16
theorem tok361 : TOK Tryz.prog 361 ti361:=TOK.mk' (by kernel_rfl) (by kernel_rfl)
def ti363 : TI := ⟨.struct [(0, 361, 1), (1, 361, 1), (2, 361, 1)], 3, 6, .agg #[.int .u16 0, .int .u16 0, .int .u16 0]⟩ -- unicode.Range16
theorem tok363 : TOK Tryz.prog 363 ti363:=TOK.mk' (by kernel_rfl) (by kernel_rfl)
def ti366 : TI := ⟨.struct [(0, 310, 1), (1, 310, 1), (2, 310, 1)], 3, 12, .agg #[.int .u32 0, .int .u32 0, .int .u32 0]⟩ -- unicode.Range32
theorem tok366 : TOK Tryz.prog 366 ti366:=TOK.mk' (by kernel_rfl) (by kernel_rfl)
def tyTab : List (Nat×TI):= [(3,ti3),(4,ti4),(5,ti5),(9,ti9),(21,ti21),(22,ti22),(23,ti23),(24,ti24),(25,ti25),(26,ti26),(27,ti27),(28,ti28),(30,ti30),(31,ti31),(32,ti32),(33,ti33),(38,ti38),(40,ti40),(42,ti42),(43,ti43),(44,ti44),(46,ti46),(48,ti48),(55,ti55),(62,ti62),(64,ti64),(66,ti66),(70,ti70),(86,ti86),(91,ti91),(102,ti102),(104,ti104),(105,ti105),(107,ti107),(110,ti110),(112,ti112),(114,ti114),(119,ti119),(121,ti121),(131,ti131),(133,ti133),(136,ti136),(137,ti137),(138,ti138),(140,ti140),(142,ti142),(144,ti144),(148,ti148),(150,ti150),(151,ti151),(155,ti155),(157,ti157),(161,ti161),(162,ti162),(163,ti163),(167,ti167),(168,ti168),(170,ti170),(172,ti172),(174,ti174),(184,ti184),(192,ti192),(196,ti196),(203,ti203),(206,ti206),(208,ti208),(216,ti216),(218,ti218),(220,ti220),(222,ti222),(224,ti224),(227,ti227),(228,ti228),(229,ti229),(231,ti231),(233,ti233),(235,ti235),(236,ti236),(246,ti246),(248,ti248),(250,ti250),(254,ti254),(256,ti256),(265,ti265),(266,ti266),(268,ti268),(272,ti272),(290,ti290),(292,ti292),(294,ti294),(295,ti295),(298,ti298),(300,ti300),(310,ti310),(313,ti313),(324,ti324),(330,ti330),(341,ti341),(347,ti347),(349,ti349),(352,ti352),(354,ti354),(356,ti356),(357,ti357),(358,ti358),(360,ti360),(361,ti361),(363,ti363),(366,ti366)]
theorem tyTab_ok :∀p∈tyTab,TOK Tryz.prog p.1 p.2:=by
 unfold tyTab
 repeat(first|exact List.forall_mem_nil _|refine List.forall_mem_cons.2 ⟨by first|exact tok3|exact tok4|exact tok5|exact tok9|exact tok21|exact tok22|exact tok23|exact tok24|exact tok25|exact tok26|exact tok27|exact tok28|exact tok30|exact tok31|exact tok32|exact tok33|exact tok38|exact tok40|exact tok42|exact tok43|exact tok44|exact tok46|exact tok48|exact tok55|exact tok62|exact tok64|exact tok66|exact tok70|exact tok86|exact tok91|exact tok102|exact tok104|exact tok105|exact tok107|exact tok110|exact tok112|exact tok114|exact tok119|exact tok121|exact tok131|exact tok133|exact tok136|exact tok137|exact tok138|exact tok140|exact tok142|exact tok144|exact tok148|exact tok150|exact tok151|exact tok155|exact tok157|exact tok161|exact tok162|exact tok163|exact tok167|exact tok168|exact tok170|exact tok172|exact tok174|exact tok184|exact tok192|exact tok196|exact tok203|exact tok206|exact tok208|exact tok216|exact tok218|exact tok220|exact tok222|exact tok224|exact tok227|exact tok228|exact tok229|exact tok231|exact tok233|exact tok235|exact tok236|exact tok246|exact tok248|exact tok250|exact tok254|exact tok256|exact tok265|exact tok266|exact tok268|exact tok272|exact tok290|exact tok292|exact tok294|exact tok295|exact tok298|exact tok300|exact tok310|exact tok313|exact tok324|exact tok330|exact tok341|exact tok347|exact tok349|exact tok352|exact tok354|exact tok356|exact tok357|exact tok358|exact tok360|exact tok361|exact tok363|exact tok366, ?_⟩)
def tt : Nat→Option TI:=lookT tyTab
def en : Nat→Bool:=fun f=>Nat.ble 3 f && Nat.ble f 320 && !Nat.beq f 214 && !Nat.beq f 270 && !Nat.beq f 318
theorem pg : PgOK Tryz.prog tt en :=
 ⟨lookT_ok tyTab_ok,fun f h=>entB_ok (by
  have k:=List.all_eq_true.1 (show(List.range 321).all (fun f=> !(Nat.ble 3 f && Nat.ble f 320 && !Nat.beq f 214 && !Nat.beq f 270 && !Nat.beq f 318) || entB Tryz.prog f)=true by kernel_rfl) f (List.mem_range.2 (by simp [en] at h;omega))
  have h2:(Nat.ble 3 f && Nat.ble f 320 && !Nat.beq f 214 && !Nat.beq f 270 && !Nat.beq f 318)=true:=h
  rw [h2] at k;simpa using k),by kernel_rfl⟩
abbrev ordZ:Nat→Ord×(Nat→Cls):=fun _=>(.done,clOf [])
def oA(l:List Nat)(t:Ord) : Ord:=l.foldr .one t
def oR : Nat→Nat→Ord→Ord
  | _,0,t=>t
  | a,n+1,t=> .one a (oR (a+1) n t)
def cD : Nat→Cls
  | 0=> .pure
  | 1=> .read
  | 2=> .ext
  | _=> .loud
def cN(l:List Nat)(i:Nat) : Cls:=cD (l.getD i 3)
def oM : List (Nat×Ord×List Nat)→Nat→Ord×(Nat→Cls)
  | [],_=>(.done,clOf [])
  | (k,o,c) :: r,id=>bif Nat.beq id k then(o,cN c) else oM r id
def ord6:=oM [(9,(oR 0 13 .done),[1,0,0,0,1,0,0,3,0,0,0,0,0]),(24,(oR 0 12 .done),[1,0,0,1,0,0,3,0,0,0,0,0])]
def ord9:=oM [(10,(oR 0 17 .done),[0,0,0,0,0,0,0,0,0,0,1,0,1,2,3,0,0])]
def ord19:=oM [(6,(oR 0 9 .done),[0,0,0,1,0,0,0,1,0])]
def ord23:=oM [(6,(oR 0 20 .done),[0,0,0,1,3,0,0,0,0,0,0,1,0,0,0,0,1,0,0,0]),(12,(oA [0,1,2,3,4,5,6,7,9,10,11,12,8,13,14,15] .done),[0,0,0,0,0,0,0,1,2,0,0,0,1,3,0,0]),(14,(oR 0 10 .done),[0,0,0,1,0,0,0,1,3,0]),(16,(oR 0 25 .done),[0,0,0,0,1,0,0,0,0,1,3,0,0,0,0,0,0,1,0,0,0,0,1,0,0])]
def ord25:=oM [(1,(oR 0 30 .done),[0,3,0,0,1,0,0,0,0,1,0,0,0,0,0,0,1,0,0,0,0,1,0,0,1,0,1,0,0,0])]
def ord27:=oM [(6,(oR 0 9 .done),[0,0,0,1,0,0,0,1,0])]
def ord35:=oM [(3,(oA [0,1,3,4,2,5,6,7,8,9] .done),[1,0,2,0,1,2,0,3,0,0])]
def ord37:=oM [(3,(oR 0 9 .done),[0,0,0,0,1,1,2,3,0]),(5,(oR 0 11 .done),[0,0,0,0,1,0,1,3,0,0,0]),(7,(oR 0 9 .done),[0,1,0,0,0,1,0,2,0]),(16,(oR 0 12 .done),[0,0,0,0,1,1,2,2,3,0,0,3])]
def ord38:=oM [(6,(oR 0 14 .done),[0,0,0,0,0,0,1,0,0,0,0,1,3,0]),(9,(oA [0,1,2,3,4,5,6,9,7,8,10,11] .done),[0,0,0,0,0,0,1,2,3,0,3,0])]
def ord44:=oM [(16,(oR 0 13 .done),[0,0,0,0,1,0,1,0,0,0,1,0,0]),(19,(oR 0 11 .done),[0,1,0,1,0,1,0,1,0,0,3]),(21,(oR 0 13 .done),[0,0,0,1,0,1,1,3,0,0,0,0,3]),(30,(oR 0 11 .done),[0,0,0,1,0,1,3,0,0,0,0]),(32,(oR 0 17 .done),[0,0,0,1,0,0,2,0,0,3,0,0,3,0,0,0,3])]
def ord45:=oM [(10,(oA [0,1,2,4,5,6] (.alt 3 (.alt 7 (.alt 8 (oA [9,10,11] .done) (.alt 9 (oA [8,10,11] .done) .none)) (.alt 8 (.alt 7 (oA [9,10,11] .done) (.alt 9 (oA [7,10,11] .done) .none)) (.alt 9 (.alt 7 (oA [8,10,11] .done) (.alt 8 (oA [7,10,11] .done) .none)) .none))) (.alt 8 (.alt 3 (.alt 7 (oA [9,10,11] .done) (.alt 9 (oA [7,10,11] .done) .none)) (.alt 9 (oA [3,7,10,11] .done) .none)) (.alt 9 (.alt 3 (.alt 7 (oA [8,10,11] .done) (.alt 8 (oA [7,10,11] .done) .none)) (.alt 8 (oA [3,7,10,11] .done) .none)) .none)))),[1,0,0,2,1,0,0,3,2,2,3,3])]
def ord47:=oM [(6,(oR 0 9 .done),[0,0,0,1,0,0,0,1,0])]
def ord51:=oM [(11,(oR 0 8 .done),[0,0,0,0,1,0,1,0])]
def ord52:=oM [(4,(oR 0 16 .done),[0,0,0,1,3,0,0,0,0,0,0,0,0,1,3,0])]
def ord53:=oM [(9,(oR 0 23 .done),[0,1,0,0,0,0,1,1,3,0,0,0,1,0,0,0,0,0,1,1,3,0,0])]
def ord54:=oM [(10,(oR 0 17 .done),[0,1,0,0,1,0,0,0,1,0,0,1,0,1,0,0,0]),(20,(oR 0 25 .done),[0,1,0,0,0,1,0,1,0,0,0,0,0,1,0,0,1,0,1,0,0,1,0,0,0]),(26,(oR 0 36 .done),[0,0,0,0,1,0,0,1,3,0,0,0,0,0,0,0,1,0,0,1,0,0,0,1,0,0,1,0,1,0,0,1,0,0,0,0])]
def ord55:=oM [(9,(oR 0 12 (.alt 12 (oA [13,14,15] .done) (.alt 13 (oA [12,14,15] .done) .none))),[0,1,0,1,0,1,0,1,0,1,0,1,2,2,2,2,2]),(10,(oR 0 40 .done),[0,1,0,0,0,1,0,0,0,0,1,0,0,0,0,1,0,1,0,0,0,0,0,1,0,0,0,0,0,1,0,1,0,1,0,1,0,1,0,0]),(15,(oR 0 17 .done),[1,0,1,0,0,0,1,0,1,0,0,0,1,0,1,0,3])]
def ord56:=oM [(3,(oR 0 5 (.alt 5 (oA [6,7,8] .done) (.alt 7 (oA [5,6,8] .done) .none))),[1,0,1,0,1,2,0,2,3])]
def ord66:=oM [(2,(oR 0 6 .done),[0,1,0,1,0,0])]
def ord67:=oM [(2,(oR 0 9 .done),[0,0,1,0,1,0,1,3,0])]
def ord73:=oM [(1,(oR 0 44 .done),[0,1,3,0,0,0,1,0,0,0,0,1,0,1,0,0,0,0,0,1,0,1,0,1,0,1,0,0,0,0,0,1,0,0,0,0,1,0,0,0,0,1,0,0])]
def ord74:=oM [(1,(oR 0 14 .done),[1,3,0,1,3,0,0,0,1,1,2,3,0,0])]
def ord75:=oM [(4,(oR 0 9 .done),[0,0,0,1,0,0,0,1,0])]
def ord90:=oM [(1,(oR 0 13 .done),[0,0,0,1,0,0,0,0,1,0,1,3,0])]
def ord91:=oM [(1,(oR 0 30 .done),[0,3,0,0,1,0,0,0,0,1,0,0,0,0,0,0,1,0,0,0,0,1,0,0,1,0,1,0,0,0])]
def ord93:=oM [(7,(oR 0 9 .done),[0,0,0,1,0,0,0,1,0]),(8,(oR 0 15 .done),[0,0,0,0,0,1,0,0,0,0,1,0,2,3,0])]
def ord94:=oM [(2,(oR 0 30 .done),[0,0,0,0,1,0,0,0,0,1,0,0,0,0,1,0,0,0,0,1,0,1,0,0,0,0,1,0,0,3])]
def ord95:=oM [(4,(oR 0 18 .done),[0,0,0,0,1,1,2,3,0,0,1,0,0,0,0,1,0,0]),(7,(oR 0 16 .done),[0,0,0,0,0,1,0,0,0,0,1,0,0,0,0,3])]
def ord96:=oM [(4,(oR 0 19 .done),[0,0,0,1,0,0,0,1,0,0,0,0,1,0,0,0,1,0,0]),(7,(oR 0 14 .done),[0,0,0,0,1,0,1,0,1,0,1,0,0,3])]
def ord97:=oM [(1,(oR 0 22 .done),[0,0,0,1,0,0,1,0,0,0,0,1,0,0,0,1,3,0,0,0,0,0])]
def ord98:=oM [(2,(oR 0 16 .done),[0,0,0,0,0,1,0,0,0,0,1,3,0,0,0,3])]
def ord104:=oM [(1,(oA [0,1,3,4,5,6,8,9,11,12,2,7,10,13,14,15] .done),[0,1,2,0,1,0,1,2,0,1,2,0,1,2,0,3])]
def ord105:=oM [(19,(oR 0 14 .done),[0,0,0,1,0,1,0,1,0,1,0,0,2,3])]
def ord108:=oM [(4,(oA [0,1,3,4,2,5,6,7] .done),[1,1,2,1,1,3,3,0])]
def ord119:=oM [(5,(oR 0 36 .done),[0,1,0,0,0,1,0,0,0,0,0,0,0,0,1,0,0,0,0,1,0,1,0,0,0,0,0,1,0,0,0,0,1,3,0,0])]
def ord120:=oM [(7,(oR 0 40 .done),[0,1,0,0,0,1,0,0,0,0,0,1,0,1,0,1,0,1,0,0,0,0,1,0,1,0,0,0,0,1,0,1,0,1,0,1,0,1,0,0])]
def ord122:=oM [(4,(oR 0 9 .done),[0,0,0,1,0,0,0,1,0]),(5,(oR 0 10 .done),[0,0,0,1,0,0,0,1,0,0])]
def ord123:=oM [(6,(oR 0 36 .done),[0,1,0,0,0,1,0,0,0,0,0,0,0,0,1,0,0,0,0,1,0,1,0,0,0,0,0,1,0,0,0,0,1,3,0,0]),(18,(oR 0 18 .done),[0,0,0,0,0,0,0,1,0,0,0,0,1,0,1,0,0,0])]
def ord124:=oM [(6,(oR 0 21 .done),[0,1,0,0,0,1,0,0,0,1,0,1,0,0,0,1,0,0,0,3,0])]
def ord125:=oM [(8,(oA [0,1,3,4,5,6,7,8,9,11,12,13,15,2,10,14,16,17,18,19] .done),[0,1,2,0,0,1,1,0,0,1,2,0,0,1,2,1,2,2,3,0]),(14,(oR 0 6 .done),[0,1,0,0,1,0]),(16,(oR 0 10 .done),[0,0,1,0,0,1,2,0,0,3])]
def ord127:=oM [(8,(oA [0,1,2,4,5,6] (.alt 3 (oR 7 4 .done) (.alt 7 (oA [3,8,9,10] .done) .none))),[0,0,1,2,0,0,1,2,3,3,0])]
def ord128:=oM [(17,(oR 0 5 .done),[0,1,0,0,0])]
def ord130:=oM [(6,(oR 0 23 .done),[0,1,0,0,1,0,3,0,0,0,1,0,0,0,1,0,1,0,0,1,0,0,0])]
def ord131:=oM [(8,(oR 0 14 (.alt 14 (oA [15,16,17] .done) (.alt 15 (oA [14,16,17] .done) .none))),[0,0,1,0,1,0,1,0,0,1,0,1,0,1,2,2,2,2,2]),(9,(oR 0 36 .done),[0,1,0,0,0,1,0,0,0,0,1,0,1,0,3,0,0,0,0,1,0,0,0,0,0,1,0,1,0,1,0,1,0,1,0,0])]
def ord135:=oM [(6,(oR 0 10 .done),[0,0,1,0,1,0,1,0,0,3])]
def ord136:=oM [(7,(oR 0 10 .done),[0,1,0,0,0,1,3,2,3,0])]
def ord165:=oM [(11,(oR 0 9 .done),[0,0,0,0,0,0,0,0,3]),(15,(oR 0 9 .done),[0,0,0,0,0,0,0,0,3])]
def ord170:=oM [(6,(oR 0 9 .done),[0,0,0,1,0,0,0,1,0])]
def ord181:=oM [(9,(oR 0 10 .done),[0,0,0,0,0,0,0,3,0,0])]
def ord192:=oM [(4,(oR 0 9 .done),[0,0,0,1,0,0,0,1,0])]
def ord195:=oM [(10,(oR 0 18 .done),[0,1,0,1,0,1,0,0,1,0,1,2,3,0,0,0,0,0])]
def ord196:=oM [(13,(oR 0 11 .done),[0,0,0,0,0,0,0,0,0,3,0])]
def ord204:=oM [(1,(oR 0 37 .done),[0,1,3,0,0,0,1,0,1,0,0,3,0,0,0,0,1,0,1,0,1,0,1,0,0,0,0,0,1,0,0,0,0,1,3,0,0]),(3,(oA [0,2,3,1,4,5,6,7,8,9] .done),[1,2,0,1,1,0,0,0,0,0])]
def ord206:=oM [(7,(oR 0 25 .done),[1,1,3,0,0,0,1,3,1,0,0,0,0,0,0,1,0,0,0,1,1,3,0,0,0])]
def ord207:=oM [(5,(oR 0 13 .done),[0,1,0,0,1,0,1,3,0,0,0,0,0]),(6,(oA [0,2,3,4,5,6,7,8,9] (.alt 1 (oR 10 5 .done) (.alt 10 (.alt 1 (oR 11 4 .done) (.alt 11 (oA [1,12,13,14] .done) .none)) .none))),[0,2,0,1,0,0,1,0,0,1,2,3,0,0,3])]
def ord209:=oM [(1,(oA [0,2] (.alt 1 (oA [4,5] (.alt 3 (oR 6 4 .done) (.alt 6 (oA [3,7,8,9] .done) .none))) (.alt 3 (oA [1,4,5,6,7,8,9] .done) .none))),[0,3,0,3,0,0,3,0,0,3])]
def ord210:=oM [(4,(oA [0,1,2,3,4,6,7,8,9,10,5,11,12,13,14] .done),[0,1,0,0,1,2,0,1,0,0,1,3,2,3,0]),(5,(oR 0 9 .done),[0,1,0,0,1,0,1,0,3])]
def ord224:=oM [(1,(oR 0 42 .done),[0,1,0,0,0,1,0,0,0,0,0,1,0,1,0,1,0,1,0,0,0,0,1,0,1,0,0,0,0,0,1,0,1,0,1,0,1,0,1,0,0,0])]
def ord225:=oM [(6,(oR 0 9 .done),[0,0,0,1,0,0,0,1,0])]
def ord233:=oM [(6,(oR 0 10 .done),[0,0,0,1,0,0,0,0,1,0]),(11,(oR 0 10 .done),[0,0,0,1,0,0,0,0,1,0])]
def ord244:=oM [(3,(oR 0 8 .done),[0,0,1,0,0,1,0,0])]
def ord246:=oM [(1,(oA [0,1,2,3,5,6,7,8,10,11,12,13,4,9,14,15,16,17] .done),[0,1,0,1,2,0,1,0,1,2,0,1,0,1,3,2,3,0])]
def ord248:=oM [(1,(oA [0,2,3,1,4,5,6] .done),[1,2,0,1,3,0,0])]
def ord249:=oM [(5,(oR 0 8 .done),[0,0,0,0,1,1,3,0]),(8,(oR 0 16 .done),[0,0,0,0,0,0,0,0,0,1,1,3,0,0,0,0])]
def ord250:=oM [(11,(oR 0 9 .done),[0,0,0,0,0,0,0,0,3]),(15,(oR 0 9 .done),[0,0,0,0,0,0,0,0,3])]
def ord251:=oM [(1,(oA [0,2,3,4,5,6,7] (.alt 1 (oR 8 4 .done) (.alt 8 (oA [1,9,10,11] .done) .none))),[0,2,0,1,0,0,1,0,3,0,0,3])]
def ord256:=oM [(5,(oA [1,2,3,4,0,5] .done),[3,0,0,0,0,3])]
def ord273:=oM [(1,(oR 0 7 .done),[0,0,1,1,2,3,0])]
def ord279:=oM [(6,(oR 0 19 .done),[0,0,0,0,0,0,0,0,0,0,0,0,0,0,0,0,1,0,0])]
def ord281:=oM [(11,(oR 0 5 .done),[1,0,0,0,1])]
end Go.Proofs.YtmjllbjfkafhdaaGreatDoor
namespace Go.CF
open Go
theorem xA{p X Y:Prop}(hx:X)(h:p:=by first|assumption|omega|rfl) : Bd p X Y:= .t h hx
theorem xB{p X Y:Prop}(hy:Y)(h:¬p:=by first|assumption|omega|exact Bool.false_ne_true) : Bd p X Y:= .f h hy
theorem xN{α:Type}{l l':List α}{k:List α→Prop}(hk:k l')(h:LN l l':=by repeat constructor) : Nm l k:= .r h hk
theorem xT{o rest:List Res}{b:Nat}{k:TypeId→List AV→List Res→Prop}{T:TypeId}{cs:List AV}(hk:k T cs rest)(h:Take o (blkR b T cs) rest:=by repeat constructor) : TkB o b k:= .r h hk
theorem xU{α:Type}{o rest:List Res}{v:Value}{k:∀{α:Type},TypeId→Nat→List α→(α→List AV)→List Res→Prop}{T:TypeId}{sz:Nat}{l:List α}{f:α→List AV}(hk:k T sz l f rest)(h:Take o (arrR v T sz l f) rest:=by repeat constructor) : TkA o v k:= .r h hk
theorem xM{β:Type}{P:Program}{o rest:List Res}{b:Nat}{k:∀{β:Type},TypeId→List (List Int×β)→(β→AV)→List Res→Prop}{kt:TypeId}{kvs:List (List Int×β)}{f:β→AV}(hk:k kt kvs f rest)(h:Take o (mapR P b kt kvs f) rest:=by repeat constructor) : TkM P o b k:= .r h hk
theorem xV{l:List AV}{k:Nat}{v:AV}{M:List AV→Prop}{l':List AV}(hm:M l')(h:SetA l k v l':=by repeat first|assumption|constructor) : SetAk l k v M:= .r h hm
theorem xO{i:Int}{M:Int→Prop}(hm:M i)(h: -9223372036854775808≤i∧i≤9223372036854775807:=by first|omega|(simp <;> omega)) : Ov i M:= .n h hm
theorem xI{α:Type}{l:List α}{i:Int}{k:Nat→α→Prop}{j:Nat}{x:α}(hk:k j x)(hi:i=(j:Int):=by exact rfl)(h:l[j]?=some x:=by assumption) : Ix l i k:= .q hi h hk
theorem xJ{α:Type}{l:List α}{k:α→Prop}{j:Nat}{x:α}(hk:k x)(h:l[j]?=some x:=by assumption) : At l j k:= .r h hk
theorem xP{p k:Prop}(hk:k)(h:p:=by first|omega|(simp <;> omega)) : Om p k:=⟨h,hk⟩
theorem xK{cs:List AV}{M:List Int→Prop}{xs:List Int}(hm:M xs)(h:ILit cs xs:=by repeat(first|apply ILit.cons|exact ILit.nil)) : Il cs M:= .r h hm
section
variable {Γ:Cx} {k:List KI} {e:EA} {o:List Res} {ops:Array Oper} {c:Cls}
theorem xD{i:Nat}{t:Ord}(h:RA' Γ k ops (Γ.T i).2 t e o)(_hx:isLoud ((Γ.T i).2 ops.size)=true:=by rfl)(hn:Region.noSelect ops=true:=by kernel_rfl)(hc:chk ops (Γ.T i).2 (Γ.T i).1 ops.size true (Array.replicate ops.size false)=true:=by kernel_rfl)(ho:ON (Γ.T i).1 t:=by repeat' constructor)(hd:(ops.toList.all fun op=>dOK Γ.n op.dst)=true:=by rfl) : CA Γ k (.region i ops true) e o:= .draw _hx hn hc ho hd h
theorem xQ{f:FuncId}{as':List AV}{r:AV}(hc:CallP Γ.P f as' r){xs:List AV}{M:AV→List Res→Prop}(hm:M r o)(hv:Lend [] xs as':=by repeat'(first|exact Lend.nil|apply Lend.keep)) : Cl Γ c f xs o M:= .p hc hv hm
theorem xW{f:FuncId}{xs as':List AV}{own rest:List Res}{K:AV→List Res→Prop}{M:AV→List Res→Prop}(hc:CallA Γ.P f as' own K)(hm:∀r own',K r own'→M r (own' ++ rest))(hv:Lend [] xs as':=by repeat'(first|exact Lend.nil|apply Lend.keep))(ht:Takes o own rest:=by repeat(first|exact Takes.nil|(apply Takes.cons;(focus repeat constructor))))(hl:(isLoud c || own.isEmpty)=true:=by rfl) : Cl Γ c f xs o M:= .use hc hv ht hl hm
end
theorem xE{e:EA}{o:List Res}{σ:AS}(h1:subA' e σ.env:=by repeat first|trivial|refine⟨rfl,?_⟩)(h2:Subl o σ.own:=by repeat first|exact .nil|refine .cons (by repeat constructor) ?_) : Sub e o σ:=⟨h1,h2⟩
theorem FL.z{o own:List Res}(h:Subl o own:=by repeat first|exact .nil|refine .cons (by repeat constructor) ?_) : FL o [] [] own:= .nil h
end Go.CF
namespace Go.Proofs.YtmjllbjfkafhdaaGreatDoor
open Go Go.CF
def intC(x:Int) : List AV:= [.val (.int .i64 x)]
abbrev ints (l:List Int):AV:= .sl 1 l intC
theorem vb{a b:Bool}(h:a=b) : AV.val (.bool a)=AV.val (.bool b):=by rw [h]
theorem all_succ{α:Type}{l:List α}{i:Nat}{x:α}{P:α→Prop}(h:l[i]?=some x)(ha:∀y∈l.take i,P y)(hx:P x) :∀y∈l.take (i+1),P y:=fun y hy=>by
 rw [zK,h] at hy
 rcases zV.1 hy with h1|h1
 ·exact ha y h1
 ·simp at h1;exact h1▸hx
theorem get_of{α:Type}{l:List α}{i:Nat}(h:i < l.length) :∃x,l[i]?=some x:=⟨_,zE h⟩
theorem equal_p(a b:List Int) : CallP Tryz.prog 19 [ints a,ints b] (.val (.bool (decide (a=b)))):=by
 refine CallA.of pg ord19 Tryz.func19 rfl Tryz.ntmps19 Tryz.results19 rfl fun h0 G0 O0=>?_
 repeat'(first|apply Sp.h|refine Lk.r rfl ?_|refine Rf.mk rfl ?_|apply Bd.mk|apply Im.mk|refine xN ?_|intro _)
 ·rename_i ha hb hab _
  refine CA.loop (fun i:Nat=>⟨[(0,ints a),(1,ints b),(12, .val (.int .i64 a.length)),(13, .val (.int .i64 i))],[]⟩) (fun i=>i≤a.length∧a.take i=b.take i) (fun i=>a.length - i) 0 xE ⟨zZ _,by simp⟩ ?_
  rintro i ⟨hi,heq⟩
  by_cases hin:i < a.length
  ·obtain⟨x,hx⟩:∃x,a[i]?=some x:=⟨_,zE hin⟩
   obtain⟨y,hy⟩:∃y,b[i]?=some y:=⟨_,zE (by omega)⟩
   repeat'(first|apply Sp.h|refine Lk.r rfl ?_|refine Rf.mk rfl ?_|refine xA ?_|apply Bd.mk|refine OpK.r rfl ?_|refine xI ?_|refine xN ?_|refine xD ?_|refine xO ?_|intro _)
   ·rename_i hxy
    refine PA.lp (i+1) xE ⟨⟨hin, ?_⟩,by omega⟩
    rw [zK,zK,hx,hy,heq,show x=y by omega]
   ·rename_i hxy
    refine Fin.p rfl ?_
    rw [zF (fun e=>hxy ?_)]
    subst e;rw [hx] at hy;cases hy;rfl
  ·have:i=a.length:=by omega
   subst this
   repeat'(first|apply Sp.h|refine Lk.r rfl ?_|refine Rf.mk rfl ?_|refine xB ?_|refine xN ?_|fail)
   refine Fin.p rfl ?_
   rw [zL] at heq
   rw [zT (by rw [heq,List.take_of_length_le (by omega)])]
 ·rename_i h
  refine Fin.p rfl ?_
  rw [zF (fun e=>h (by rw [e]))]
/-! ### Valid -/
def rngK(x:Int) : Prop:=0≤x∧x≤1024
def ValC(c:List Int) : Prop:=(∀x∈c,rngK x)∧1≤c.length∧c.length≤5
noncomputable instance (c:List Int):Decidable (ValC c):=zC _
theorem validC_p(c:List Int) : CallP Tryz.prog 61 [ints c] (.val (.bool (decide (ValC c)))):=by
 refine CallA.of pg ordZ Tryz.func61 rfl Tryz.ntmps61 Tryz.results61 rfl fun h0 G0 O0=>?_
 repeat'(first|apply Sp.h|refine Lk.r rfl ?_|refine Rf.mk rfl ?_|apply Im.mk|intro _)
 refine CA.loop (fun i:Nat=>⟨[(0,ints c),(5,ints c),(6, .val (.int .i64 c.length)),(7, .val (.int .i64 i))],[]⟩) (fun i=>i≤c.length∧∀x∈c.take i,rngK x) (fun i=>c.length - i) 0 xE ⟨zZ _,by simp⟩ ?_
 rintro i ⟨hi,ha⟩
 by_cases hin:i < c.length
 ·obtain⟨x,hx⟩:=get_of hin
  repeat'(first|apply Sp.h|refine Lk.r rfl ?_|refine Rf.mk rfl ?_|refine xA ?_|refine xB ?_|apply Bd.mk|refine xI ?_|refine xN ?_|refine xO ?_|intro _)
  all_goals first
   | exact PA.lp (i+1) xE ⟨⟨hin,all_succ hx ha ⟨by omega,by omega⟩⟩,by omega⟩
   | exact Fin.p rfl (vb (zF (fun h=>by have h1:=h.1 x (zM hx);unfold rngK at h1;omega)).symm)
 ·have:i=c.length:=by omega
  subst this
  rw [zL] at ha
  repeat'(first|apply Sp.h|refine Lk.r rfl ?_|refine Rf.mk rfl ?_|refine xA ?_|refine xB ?_|apply Bd.mk|apply Im.mk|refine xN ?_|intro _)
  all_goals exact Fin.p rfl (vb (by first|exact(zF (fun h=>by have:=h.2;omega)).symm|exact zD.2 ⟨fun h=>⟨ha,by omega,by omega⟩,fun h=>by have:=h.2;omega⟩))
def HasC(c:List Int)(r n:Int) : Prop:=ValC c∧0≤r∧1≤n∧∃x,c[r.toNat]?=some x∧n≤x
noncomputable instance (c:List Int) (r n:Int):Decidable (HasC c r n):=zC _
abbrev dotC (r n:Int):AV:= .agg [.val (.int .i64 r), .val (.int .i64 n)]
theorem hasC_p(c:List Int)(r n:Int) : CallP Tryz.prog 91 [ints c,dotC r n] (.val (.bool (decide (HasC c r n)))):=by
 refine CallA.of pg ord91 Tryz.func91 rfl Tryz.ntmps91 Tryz.results91 rfl fun h0 G0 O0=>?_
 by_cases hr:0≤r∧r < c.length
 ·obtain⟨x,hx⟩:=get_of (l:=c) (i:=r.toNat) (by omega)
  repeat'(first|apply Sp.h|refine Lk.r rfl ?_|refine Rf.mk rfl ?_|refine OpK.r rfl ?_|apply All.mk|refine xD ?_|intro _)
  refine xQ (validC_p _) ?_
  repeat'(first|apply Sp.h|refine Lk.r rfl ?_|refine Rf.mk rfl ?_|refine xA ?_|refine xB ?_|apply Bd.mk|refine OpK.r rfl ?_|apply Im.mk|refine xT ?_|(apply Ix.r;(focus assumption);(focus omega))|refine xN ?_|intro _)
  all_goals refine Fin.p rfl (vb ?_)
  all_goals first
   | exact zD.2 ⟨fun h=>⟨by assumption,hr.1,by assumption,x,hx,h⟩,fun⟨_,_,_,y,hy,h⟩=>by rw [hx] at hy;cases hy;exact h⟩
   | exact(zF (fun⟨_,_,_,y,hy,_⟩=>by have:=(zS.1 hy).1;first|contradiction|omega)).symm
 ·repeat'(first|apply Sp.h|refine Lk.r rfl ?_|refine Rf.mk rfl ?_|refine OpK.r rfl ?_|apply All.mk|refine xD ?_|intro _)
  refine xQ (validC_p _) ?_
  repeat'(first|apply Sp.h|refine Lk.r rfl ?_|refine Rf.mk rfl ?_|refine xA ?_|refine xB ?_|apply Bd.mk|refine OpK.r rfl ?_|apply Im.mk|refine xT ?_|refine xN ?_|intro _)
  all_goals refine Fin.p rfl (vb ?_)
  all_goals exact(zF (fun⟨_,_,_,y,hy,_⟩=>by have:=(zS.1 hy).1;first|contradiction|omega)).symm
/-! ### alike, inside -/
def clkC(c:List Int) : List AV:= [ints c]
abbrev clks (l:List (List Int)):AV:= .sl 1 l clkC
def AlikeC(l:List (List Int)) : Prop:=0 < l.length∧∀c∈l,ValC c∧c.length=(l[0]?.getD []).length
noncomputable instance (l:List (List Int)):Decidable (AlikeC l):=zC _
theorem alike_p(l:List (List Int)) : CallP Tryz.prog 156 [clks l] (.val (.bool (decide (AlikeC l)))):=by
 refine CallA.of pg ordZ Tryz.func156 rfl Tryz.ntmps156 Tryz.results156 rfl fun h0 G0 O0=>?_
 repeat'(first|apply Sp.h|refine Lk.r rfl ?_|refine Rf.mk rfl ?_|apply Im.mk|intro _)
 refine CA.loop (fun i:Nat=>⟨[(0,clks l),(5,clks l),(6, .val (.int .i64 l.length)),(7, .val (.int .i64 i))],[]⟩) (fun i=>i≤l.length∧∀c∈l.take i,ValC c∧c.length=(l[0]?.getD []).length) (fun i=>l.length - i) 0 xE ⟨zZ _,by simp⟩ ?_
 rintro i ⟨hi,ha⟩
 by_cases hin:i < l.length
 ·obtain⟨c,hc⟩:=get_of hin
  obtain⟨b,hb⟩:=get_of (l:=l) (i:=0) (by omega)
  have hbb:(l[0]?.getD []).length=b.length:=by rw [hb];rfl
  repeat'(first|apply Sp.h|refine Lk.r rfl ?_|refine Rf.mk rfl ?_|refine xA ?_|refine xI ?_|fail)
  refine xQ (validC_p _) ?_
  repeat'(first|apply Sp.h|refine Lk.r rfl ?_|refine Rf.mk rfl ?_|refine xA ?_|refine xB ?_|apply Bd.mk|apply Im.mk|refine xI ?_|refine xN ?_|refine xO ?_|intro _)
  all_goals first
   | exact Fin.p rfl (vb (zF (fun h=>by have h1:=h.2 c (zM hc);first|exact absurd h1.1 (by assumption)|omega)).symm)
   | exact PA.lp (i+1) xE ⟨⟨hin,all_succ hc ha ⟨by assumption,by omega⟩⟩,by omega⟩
 ·have:i=l.length:=by omega
  subst this
  rw [zL] at ha
  repeat'(first|apply Sp.h|refine Lk.r rfl ?_|refine Rf.mk rfl ?_|refine xB ?_|apply Im.mk|refine xN ?_|intro _)
  exact Fin.p rfl (vb (zD.2 ⟨fun h=>⟨by omega,ha⟩,fun h=>by have:=h.1;omega⟩))
abbrev CallO (P:Program) (f:FuncId) (args:List AV) {α:Type} (T:TypeId) (sz:Nat) (l:List α) (g:α→List AV):Prop:=CallA P f args [] fun r own=>∃v,r= .ow v∧own= [arrR v T sz l g]
theorem clone_o(l:List Int)(hl:l.length≤1000000000) : CallO Tryz.prog 40 [ints l] 3 1 l intC:=by
 refine CallA.of pg ordZ Tryz.func40 rfl Tryz.ntmps40 Tryz.results40 rfl fun h0 G0 O0=>?_
 repeat'(first|apply Sp.h|refine Lk.r rfl ?_|refine Rf.mk rfl ?_|apply Bd.mk|refine xP ?_|apply Im.mk|apply All.mk|refine xU ?_|refine Ce.l rfl ?_|(apply Fk.r;focus repeat' first|infer_instance|constructor)|refine xN ?_|refine Rf.mk ⟨rfl,rfl⟩ ?_|refine Rf.mk ⟨rfl,rfl,rfl⟩ ?_|refine Mp.same ?_|intro _)
 ·rename_i b hb hbt
  have hl0:l= []:=Decidable.byContradiction fun h=>by rw [hb h] at hbt;cases hbt
  subst hl0
  exact⟨_,_, .one (.nils (.z)),_,rfl,rfl⟩
 ·repeat'(first|fail)
  exact⟨_,_, .one (.same (.z)),_,rfl,rfl⟩
def Ins(a b:List Int) : Prop:=∀(i:Nat) (x y:Int),a[i]?=some x→b[i]?=some y→x≤y
noncomputable instance (a b:List Int):Decidable (Ins a b):=zC _
theorem inside_p(a b:List Int)(hab:a.length≤b.length) : CallP Tryz.prog 192 [ints a,ints b] (.val (.bool (decide (Ins a b)))):=by
 refine CallA.of pg ord192 Tryz.func192 rfl Tryz.ntmps192 Tryz.results192 rfl fun h0 G0 O0=>?_
 repeat'(first|apply Sp.h|refine Lk.r rfl ?_|refine Rf.mk rfl ?_|apply Im.mk|intro _)
 refine CA.loop (fun i:Nat=>⟨[(0,ints a),(1,ints b),(7, .val (.int .i64 a.length)),(8, .val (.int .i64 i))],[]⟩) (fun i=>i≤a.length∧∀j x y,j < i→a[j]?=some x→b[j]?=some y→x≤y) (fun i=>a.length - i) 0 xE ⟨zZ _,fun j x y h=>by omega⟩ ?_
 rintro i ⟨hi,ha⟩
 by_cases hin:i < a.length
 ·obtain⟨x,hx⟩:=get_of hin
  obtain⟨y,hy⟩:=get_of (l:=b) (i:=i) (by omega)
  repeat'(first|apply Sp.h|refine Lk.r rfl ?_|refine Rf.mk rfl ?_|refine xA ?_|apply Bd.mk|refine OpK.r rfl ?_|refine xI ?_|refine xN ?_|refine xD ?_|refine xO ?_|intro _)
  ·rename_i hxy
   exact Fin.p rfl (vb (zF (fun h=>by have:=h i x y hx hy;omega)).symm)
  ·rename_i hxy
   refine PA.lp (i+1) xE ⟨⟨hin,fun j x' y' hj h1 h2=>?_⟩,by omega⟩
   by_cases e:j=i
   ·subst e;rw [hx] at h1;rw [hy] at h2;cases h1;cases h2;omega
   ·exact ha j x' y' (by omega) h1 h2
 ·have:i=a.length:=by omega
  subst this
  repeat'(first|apply Sp.h|refine Lk.r rfl ?_|refine Rf.mk rfl ?_|refine xB ?_|refine xN ?_|fail)
  exact Fin.p rfl (vb (zT (p:=Ins a b) (fun j x y h1 h2=>ha j x y (zS.1 h1).1 h1 h2)).symm)
theorem alike2(a b:List Int) : AlikeC [a,b]↔ValC a∧ValC b∧a.length=b.length:=by
 unfold AlikeC
 simp
 intro _ _
 exact eq_comm
/-! ### Missing -/
def spanC(s:Int×Int×Int) : List AV:= [.val (.int .i64 s.1), .val (.int .i64 s.2.1), .val (.int .i64 s.2.2)]
instance {p q r:Int} : Inv spanC [.val (.int .i64 p), .val (.int .i64 q), .val (.int .i64 r)] (p,q,r):=⟨rfl⟩
theorem missing_o(a b:List Int) : CallA Tryz.prog 93 [ints a,ints b] [] fun r own=>∃v l,r= .ow v∧own= [arrR v 216 3 l spanC]∧(l= []↔(AlikeC [a,b]→Ins b a))∧l.length≤5:=by
 refine CallA.of pg ord93 Tryz.func93 rfl Tryz.ntmps93 Tryz.results93 rfl fun h0 G0 O0=>?_
 repeat'(first|apply Sp.h|refine Lk.r rfl ?_|refine Rf.mk rfl ?_|apply All.mk|(apply Fk.r;focus repeat' first|infer_instance|constructor)|refine Rf.mk ⟨rfl,rfl,rfl⟩ ?_|intro _)
 rename_i w
 (apply Cl.lend (alike_p [a,b]);(focus repeat'(first|exact Lend.nil|(apply Lend.lendm;(focus repeat constructor);(focus rfl);(focus first|omega|decide|(simp;omega)|exact zB rfl))|fail)))
 repeat'(first|apply Sp.h|refine Lk.r rfl ?_|refine Rf.mk rfl ?_|apply Bd.mk|apply Im.mk|refine xN ?_|intro _)
 ·rename_i hal hla
  obtain⟨hva,hvb,hlab⟩:=(alike2 a b).1 hal
  refine CA.nilOwn 5 216 3 spanC rfl fun w2=>?_
  refine CA.loop (fun x:Nat×Value×List (Int×Int×Int)=>⟨[(0,ints a),(1,ints b),(13, .val (.int .i64 a.length)),(14, .val (.int .i64 x.1)),(5, .ow x.2.1)],[arrR x.2.1 216 3 x.2.2 spanC]⟩)
   (fun x=>x.1≤a.length∧x.2.2.length≤x.1∧(x.2.2= []↔∀j p q,j < x.1→a[j]?=some p→b[j]?=some q→q≤p)) (fun x=>a.length - x.1) (0,w2,[]) xE ⟨zZ _,Nat.le_refl _,⟨fun _ j p q h=>absurd h (by omega),fun _=>rfl⟩⟩ ?_
  rintro⟨i,v,l⟩ ⟨hi,hl,hq⟩
  simp only at hi hl hq
  by_cases hin:i < a.length
  ·obtain⟨x,hx⟩:=get_of hin
   obtain⟨y,hy⟩:=get_of (l:=b) (i:=i) (by omega)
   have hrx:=hva.1 x (zM hx)
   unfold rngK at hrx
   have hva3:=hva.2
   repeat'(first|apply Sp.h|refine Lk.r rfl ?_|refine Rf.mk rfl ?_|refine xA ?_|apply Bd.mk|refine OpK.r rfl ?_|refine xP ?_|apply All.mk|refine xU ?_|refine xI ?_|refine Ce.r ?_|(apply Fk.r;focus repeat' first|infer_instance|constructor)|refine Rf.mk ⟨rfl,rfl⟩ ?_|refine Rf.mk ⟨rfl,rfl,rfl⟩ ?_|(apply Mp.lit;(focus repeat(first|exact MpL.nil|(apply MpL.cons;(focus rfl))|(apply MpL.inv;(focus repeat constructor);(focus infer_instance)))))|refine xD ?_|refine xO ?_|intro _)
   ·rename_i hxy _ v2
    refine PA.lp (i+1,v2,l ++ [((i:Int),x+1,y)]) xE ⟨⟨hin,by simp;omega, ?_⟩,by simp only;omega⟩
    constructor
    ·intro h;simp at h
    ·intro h;have:=h i x y (by simp) hx hy;omega
   ·rename_i hxy
    refine PA.lp (i+1,v,l) xE ⟨⟨hin,by simp only;omega,hq.trans ⟨fun h j p q hj h1 h2=>?_,fun h j p q hj h1 h2=>h j p q (by simp only;omega) h1 h2⟩⟩,by simp only;omega⟩
    by_cases e:j=i
    ·subst e;rw [hx] at h1;rw [hy] at h2;cases h1;cases h2;omega
    ·exact h j p q (by simp only at hj;omega) h1 h2
  ·have:i=a.length:=by omega
   subst this
   repeat'(first|apply Sp.h|refine Lk.r rfl ?_|refine Rf.mk rfl ?_|refine xB ?_|refine xN ?_|fail)
   exact⟨_,_, .one (.same (.z)),v,l,rfl,rfl,⟨fun h _ j p q h1 h2=>hq.1 h j q p (zS.1 h2).1 h2 h1,fun h=>hq.2 fun j p q _ h1 h2=>h hal j q p h2 h1⟩,by have:=hva.2;omega⟩
 ·exact⟨_,_, .one (.nils (.z)),_,[],rfl,rfl,⟨fun _ h=>absurd h (by assumption),fun _=>rfl⟩,by simp⟩
/-! ### Zero -/
theorem zero_ok(n:Int)(hn:1≤n∧n≤5) : CallO Tryz.prog 88 [.val (.int .i64 n)] 3 1 (List.replicate n.toNat 0) intC:=by
 obtain⟨m,rfl⟩:∃m:Nat,n=m:=⟨n.toNat,by omega⟩
 refine CallA.of pg ordZ Tryz.func88 rfl Tryz.ntmps88 Tryz.results88 rfl fun h0 G0 O0=>?_
 repeat'(first|apply Sp.h|refine Lk.r rfl ?_|refine Rf.mk rfl ?_|refine xB ?_|apply All.mk|refine xN ?_|refine Rf.mk ⟨rfl,rfl,rfl⟩ ?_|(apply Jx.r;(focus exact rfl);(focus first|omega|(simp;done)|(simp;omega)))|refine MkS.r intC 0 rfl ?_|intro _)
 exact⟨_,_, .one (.same (.z)),_,rfl,rfl⟩
/-! ### Compare -/
theorem compare_p(a b:List Int) : CallP Tryz.prog 134 [ints a,ints b] (if AlikeC [a,b] then .tup [.val (.int .i64 (if Ins a b∧Ins b a then 0 else if Ins a b then 1 else if Ins b a then 2 else 3)), .val (.int .i64 0)] else .tup [.val (.int .i64 0), .val (.int .i64 1)]):=by
 refine CallA.of pg ordZ Tryz.func134 rfl Tryz.ntmps134 Tryz.results134 rfl fun h0 G0 O0=>?_
 repeat'(first|apply Sp.h|refine Lk.r rfl ?_|refine Rf.mk rfl ?_|apply All.mk|(apply Fk.r;focus repeat' first|infer_instance|constructor)|refine Rf.mk ⟨rfl,rfl,rfl⟩ ?_|intro _)
 (apply Cl.lend (alike_p [a,b]);(focus repeat'(first|exact Lend.nil|(apply Lend.lendm;(focus repeat constructor);(focus rfl);(focus first|omega|decide|(simp;omega)|exact zB rfl))|fail)))
 by_cases hal:AlikeC [a,b]
 ·obtain⟨_,_,hlab⟩:=(alike2 a b).1 hal
  have l1:a.length≤b.length:=by omega
  have l2:b.length≤a.length:=by omega
  repeat'(first|apply Sp.h|refine Lk.r rfl ?_|refine Rf.mk rfl ?_|refine xA ?_|fail)
  refine xQ (inside_p a b l1) ?_
  repeat'(first|apply Sp.h|refine Lk.r rfl ?_|refine Rf.mk rfl ?_|fail)
  refine xQ (inside_p b a l2) ?_
  repeat'(first|apply Sp.h|refine Lk.r rfl ?_|refine Rf.mk rfl ?_|refine xA ?_|refine xB ?_|apply Bd.mk|refine xN ?_|intro _)
  all_goals refine Fin.p rfl ?_
  all_goals rw [if_pos hal]
  all_goals simp only [*,and_self,and_true,if_true,if_false,and_false]
 ·repeat'(first|apply Sp.h|refine Lk.r rfl ?_|refine Rf.mk rfl ?_|refine xB ?_|refine xN ?_|fail)
  exact Fin.p rfl (by rw [if_neg hal])
def zipC(op:Int→Int→Int)(a b:List Int) : List Int:=List.zipWith op a b
def foldC(op:Int→Int→Int)(l:List (List Int)) : List Int:=l.tail.foldl (zipC op) (l.headD [])
theorem zip_step{op:Int→Int→Int}{a c:List Int}{i:Nat}{x y:Int}(ha:a[i]?=some x)(hc:c[i]?=some y)(hl:a.length=c.length) :
  ((zipC op a c).take i ++ a.drop i).set i (op x y)=(zipC op a c).take (i+1) ++ a.drop (i+1):=by
 have hz:(zipC op a c)[i]?=some (op x y):=by simp [zipC,List.getElem?_zipWith,ha,hc]
 have hi:=(zS.1 ha).1
 have hzl:(zipC op a c).length=a.length:=by simp [zipC];omega
 apply List.ext_getElem?
 intro j
 rw [List.getElem?_set]
 have htl:((zipC op a c).take i).length=i:=by simp;omega
 have htl2:((zipC op a c).take (i+1)).length=i+1:=by simp;omega
 by_cases hij:i=j
 ·subst hij
  rw [if_pos rfl,if_pos (by simp;omega),zI (by omega),List.getElem?_take,if_pos (by omega),hz]
 ·rw [if_neg hij]
  by_cases hj:j < i
  ·rw [zI (by omega),zI (by omega),List.getElem?_take,List.getElem?_take,if_pos hj,if_pos (by omega)]
  ·rw [zJ (by omega),zJ (by omega),htl,htl2,List.getElem?_drop,List.getElem?_drop]
   congr 1;omega
theorem zip_at{op:Int→Int→Int}{a c:List Int}{i:Nat}{x:Int}(ha:a[i]?=some x)(hl:a.length=c.length) : ((zipC op a c).take i ++ a.drop i)[i]?=some x:=by
 have hi:=(zS.1 ha).1
 have hzl:(zipC op a c).length=a.length:=by simp [zipC];omega
 have htl:((zipC op a c).take i).length=i:=by simp;omega
 rw [zJ (by omega),htl,Nat.sub_self,List.getElem?_drop]
 simpa using ha


theorem zipC_len{op:Int→Int→Int}{a c:List Int}(h:a.length=c.length) : (zipC op a c).length=a.length:=by simp [zipC];omega
def foldN(op:Int→Int→Int)(d:List Int)(r:List (List Int))(i:Nat) : List Int:=(r.take i).foldl (zipC op) d
theorem foldN_succ{op:Int→Int→Int}{d:List Int}{r:List (List Int)}{i:Nat}{c:List Int}(h:r[i]?=some c) : foldN op d r (i+1)=zipC op (foldN op d r i) c:=by
 unfold foldN
 rw [zK,h]
 simp
theorem foldN_len{op:Int→Int→Int}{d:List Int}{r:List (List Int)}(h:∀c∈r,c.length=d.length) :∀i,(foldN op d r i).length=d.length
 | 0=>rfl
 | i+1=>by
  cases hr:r[i]? with
  | none =>
   have:=foldN_len h (op:=op) i
   unfold foldN at this ⊢
   rw [zK,hr]
   simpa using this
  | some c =>
   have ih:=foldN_len h (op:=op) i
   rw [foldN_succ hr,zipC_len (by rw [ih,h c (zM hr)]),ih]
theorem fold_o{g:FuncId}{op:Int→Int→Int}(hg:∀x y,CallP Tryz.prog g [.val (.int .i64 x), .val (.int .i64 y)] (.val (.int .i64 (op x y))))(he:en g=true)(d:List Int)(r:List (List Int))(hal:AlikeC (d :: r)) :
  CallO Tryz.prog 158 [.fn g [],clks (d :: r)] 3 1 ((d :: r).tail.foldl (zipC op) d) intC:=by
 have hd:=hal.2 d (by simp)
 have hd2:=hd.1.2
 have hr:∀c∈r,c.length=d.length:=fun c hc=>(hal.2 c (by simp [hc])).2
 have hd0:(d :: r)[0]?=some d:=rfl
 refine CallA.of pg ordZ Tryz.func158 rfl Tryz.ntmps158 Tryz.results158 rfl fun h0 G0 O0=>?_
 repeat'(first|apply Sp.h|refine Lk.r rfl ?_|refine Rf.mk rfl ?_|fail)
 refine xQ (alike_p _) ?_
 repeat'(first|apply Sp.h|refine Lk.r rfl ?_|refine Rf.mk rfl ?_|refine xA ?_|refine xI ?_|fail)
 have hl:d.length≤1000000000:=by omega
 (refine Cl.use (clone_o d hl) (by repeat'(first|exact Lend.nil|apply Lend.keep|fail)) .nil rfl ?_;rintro _ _ ⟨_,rfl,rfl⟩)
 repeat'(first|apply Sp.h|refine Lk.r rfl ?_|refine Rf.mk rfl ?_|apply Im.mk|(apply Jx.r;(focus exact rfl);(focus first|omega|(simp;done)|(simp;omega)))|intro _)
 rw [show List.take ((d :: r).length - 1) (List.drop 1 (d :: r))=r by simp]
 repeat'(first|fail)
 rename_i w hrl
 have hrl:r.length≤9223372036854775807:=by simpa using hrl
 refine CA.loop (fun x:Nat×Value=>⟨[(0, .fn g []),(18,clks r),(19, .val (.int .i64 r.length)),(20, .val (.int .i64 x.1)),(5, .ow x.2)],[arrR x.2 3 1 (foldN op d r x.1) intC]⟩)
  (fun x=>x.1≤r.length) (fun x=>r.length - x.1) (0,w) xE (zZ _) ?_
 rintro⟨k,v⟩ hk
 simp only at hk
 by_cases hin:k < r.length
 ·obtain⟨c,hc⟩:=get_of hin
  have hcl:=hr c (zM hc)
  have hfl:=foldN_len (op:=op) hr k
  repeat'(first|apply Sp.h|refine Lk.r rfl ?_|refine Rf.mk rfl ?_|refine xA ?_|apply Im.mk|refine xI ?_|intro _)
  obtain⟨A,hA⟩:∃A,A=foldN op d r k:=⟨_,rfl⟩
  rw [←hA] at hfl
  refine CA.loop (fun x:Nat×Value=>⟨[(0, .fn g []),(18,clks r),(19, .val (.int .i64 r.length)),(20, .val (.int .i64 k)),(24,ints c),(25, .val (.int .i64 c.length)),(26, .val (.int .i64 x.1)),(5, .ow x.2)],[arrR x.2 3 1 ((zipC op A c).take x.1 ++ A.drop x.1) intC]⟩)
   (fun x=>x.1≤c.length) (fun x=>c.length - x.1) (0,v) (by subst hA;exact xE) (zZ _) ?_
  rintro⟨i,v⟩ hi
  simp only at hi
  by_cases hic:i < c.length
  ·obtain⟨y,hy⟩:=get_of hic
   obtain⟨x,hx⟩:=get_of (l:=A) (i:=i) (by omega)
   have hat:=zip_at (op:=op) (c:=c) hx (by omega)
   have hst:=zip_step (op:=op) hx hy (by omega)
   repeat'(first|apply Sp.h|refine Lk.r rfl ?_|refine Rf.mk rfl ?_|refine xA ?_|refine xU ?_|refine xI ?_|refine xJ ?_|(apply Rf.mk;(focus assumption))|fail)
   refine xQ (hg x y) ?_
   repeat'(first|apply Sp.h|refine Lk.r rfl ?_|refine Rf.mk rfl ?_|refine xU ?_|refine xI ?_|refine xJ ?_|refine xV ?_|refine Up.r rfl ?_|refine xO ?_|fail)
   rw [hst]
   exact PA.lp (i+1,v) xE ⟨hic,by simp only;omega⟩
  ·have:i=c.length:=by omega
   subst this
   have e1:(zipC op A c).take c.length ++ A.drop c.length=zipC op A c:=by
    rw [List.drop_of_length_le (by omega),List.append_nil,List.take_of_length_le (by rw [zipC_len (by omega)];omega)]
   simp only [e1]
   repeat'(first|apply Sp.h|refine Lk.r rfl ?_|refine Rf.mk rfl ?_|refine xB ?_|refine xO ?_|fail)
   refine PA.lp (k+1,v) (by rw [foldN_succ hc,←hA];exact xE) ⟨hin,by simp only;omega⟩
 ·have:k=r.length:=by omega
  subst this
  repeat'(first|apply Sp.h|refine Lk.r rfl ?_|refine Rf.mk rfl ?_|refine xB ?_|refine xN ?_|fail)
  have e1:foldN op d r r.length=(d :: r).tail.foldl (zipC op) d:=by simp [foldN]
  simp only [e1]
  exact⟨_,_, .one (.same (.z)),_,rfl,rfl⟩
theorem fold_nil{g:FuncId}(l:List (List Int))(hal:¬AlikeC l) : CallP Tryz.prog 158 [.fn g [],clks l] (.val (.slice none 0 0)):=by
 refine CallA.of pg ordZ Tryz.func158 rfl Tryz.ntmps158 Tryz.results158 rfl fun h0 G0 O0=>?_
 repeat'(first|apply Sp.h|refine Lk.r rfl ?_|refine Rf.mk rfl ?_|fail)
 refine xQ (alike_p _) ?_
 repeat'(first|apply Sp.h|refine Lk.r rfl ?_|refine Rf.mk rfl ?_|refine xB ?_|refine xN ?_|fail)
 exact Fin.p rfl rfl
theorem meet1_p(x y:Int) : CallP Tryz.prog 159 [.val (.int .i64 x), .val (.int .i64 y)] (.val (.int .i64 (min x y))):=by
 refine CallA.of pg ordZ Tryz.func159 rfl Tryz.ntmps159 Tryz.results159 rfl fun h0 G0 O0=>?_
 repeat'(first|apply Sp.h|refine Lk.r rfl ?_|refine Rf.mk rfl ?_|refine xN ?_|fail)
 exact Fin.p rfl rfl
theorem alike_cons{l:List (List Int)}(h:AlikeC l) :∃d r,l=d :: r:=by
 cases l with
 | nil=>exact absurd h.1 (by simp)
 | cons d r=>exact⟨d,r,rfl⟩
theorem meet_o(l:List (List Int))(hal:AlikeC l) : CallO Tryz.prog 101 [clks l] 3 1 (foldC min l) intC:=by
 obtain⟨d,r,rfl⟩:=alike_cons hal
 refine CallA.of pg ordZ Tryz.func101 rfl Tryz.ntmps101 Tryz.results101 rfl fun h0 G0 O0=>?_
 repeat'(first|apply Sp.h|refine Lk.r rfl ?_|refine Rf.mk rfl ?_|fail)
 have he:en 159=true:=rfl
 (refine Cl.use (fold_o meet1_p he d r hal) (by repeat'(first|exact Lend.nil|apply Lend.keep|fail)) .nil rfl ?_;rintro _ _ ⟨_,rfl,rfl⟩)
 repeat'(first|apply Sp.h|refine Lk.r rfl ?_|refine xN ?_|fail)
 exact⟨_,_, .one (.same (.z)),_,rfl,rfl⟩
theorem meet_nil(l:List (List Int))(hal:¬AlikeC l) : CallP Tryz.prog 101 [clks l] (.val (.slice none 0 0)):=by
 refine CallA.of pg ordZ Tryz.func101 rfl Tryz.ntmps101 Tryz.results101 rfl fun h0 G0 O0=>?_
 repeat'(first|apply Sp.h|refine Lk.r rfl ?_|refine Rf.mk rfl ?_|fail)
 refine xQ (fold_nil l hal) ?_
 repeat'(first|apply Sp.h|refine Lk.r rfl ?_|refine xN ?_|fail)
 exact Fin.p rfl rfl
theorem validR_p(c:List Int) : CallP Tryz.prog 70 [ints c] (.val (.bool (decide (ValC c)))):=by
 refine CallA.of pg ordZ Tryz.func70 rfl Tryz.ntmps70 Tryz.results70 rfl fun h0 G0 O0=>?_
 repeat'(first|apply Sp.h|refine Lk.r rfl ?_|refine Rf.mk rfl ?_|fail)
 refine CA.loop (fun i:Nat=>⟨[(0,ints c),(3, .val (.int .i64 i))],[]⟩) (fun i=>i≤c.length∧∀x∈c.take i,rngK x) (fun i=>c.length - i) 0 xE ⟨zZ _,by simp⟩ ?_
 rintro i ⟨hi,ha⟩
 by_cases hin:i < c.length
 ·obtain⟨x,hx⟩:=get_of hin
  repeat'(first|apply Sp.h|refine Lk.r rfl ?_|refine Rf.mk rfl ?_|refine xA ?_|refine xB ?_|apply Bd.mk|apply Im.mk|refine xI ?_|refine xN ?_|refine xO ?_|intro _)
  all_goals first
   | exact PA.lp (i+1) xE ⟨⟨hin,all_succ hx ha ⟨by omega,by omega⟩⟩,by omega⟩
   | exact Fin.p rfl (vb (zF (fun h=>by have h1:=h.1 x (zM hx);unfold rngK at h1;omega)).symm)
 ·have:i=c.length:=by omega
  subst this
  rw [zL] at ha
  repeat'(first|apply Sp.h|refine Lk.r rfl ?_|refine Rf.mk rfl ?_|refine xA ?_|refine xB ?_|apply Bd.mk|apply Im.mk|refine xN ?_|intro _)
  all_goals exact Fin.p rfl (vb (by first|exact(zF (fun h=>by have:=h.2;omega)).symm|exact zD.2 ⟨fun h=>⟨ha,by omega,by omega⟩,fun h=>by have:=h.2;omega⟩))
theorem hasR_p(c:List Int)(r n:Int) : CallP Tryz.prog 25 [ints c,dotC r n] (.val (.bool (decide (HasC c r n)))):=by
 refine CallA.of pg ord25 Tryz.func25 rfl Tryz.ntmps25 Tryz.results25 rfl fun h0 G0 O0=>?_
 by_cases hr:0≤r∧r < c.length
 ·obtain⟨x,hx⟩:=get_of (l:=c) (i:=r.toNat) (by omega)
  repeat'(first|apply Sp.h|refine Lk.r rfl ?_|refine Rf.mk rfl ?_|refine OpK.r rfl ?_|apply All.mk|refine xD ?_|intro _)
  refine xQ (validR_p _) ?_
  repeat'(first|apply Sp.h|refine Lk.r rfl ?_|refine Rf.mk rfl ?_|refine xA ?_|refine xB ?_|apply Bd.mk|refine OpK.r rfl ?_|apply Im.mk|refine xT ?_|(apply Ix.r;(focus assumption);(focus omega))|refine xN ?_|intro _)
  all_goals refine Fin.p rfl (vb ?_)
  all_goals first
   | exact zD.2 ⟨fun h=>⟨by assumption,hr.1,by assumption,x,hx,h⟩,fun⟨_,_,_,y,hy,h⟩=>by rw [hx] at hy;cases hy;exact h⟩
   | exact(zF (fun⟨_,_,_,y,hy,_⟩=>by have:=(zS.1 hy).1;first|contradiction|omega)).symm
 ·repeat'(first|apply Sp.h|refine Lk.r rfl ?_|refine Rf.mk rfl ?_|refine OpK.r rfl ?_|apply All.mk|refine xD ?_|intro _)
  refine xQ (validR_p _) ?_
  repeat'(first|apply Sp.h|refine Lk.r rfl ?_|refine Rf.mk rfl ?_|refine xA ?_|refine xB ?_|apply Bd.mk|refine OpK.r rfl ?_|apply Im.mk|refine xT ?_|refine xN ?_|intro _)
  all_goals refine Fin.p rfl (vb ?_)
  all_goals exact(zF (fun⟨_,_,_,y,hy,_⟩=>by have:=(zS.1 hy).1;first|contradiction|omega)).symm
theorem insideR_p(a b:List Int) : CallP Tryz.prog 75 [ints a,ints b] (.val (.bool (decide (Ins a b)))):=by
 refine CallA.of pg ord75 Tryz.func75 rfl Tryz.ntmps75 Tryz.results75 rfl fun h0 G0 O0=>?_
 repeat'(first|apply Sp.h|refine Lk.r rfl ?_|refine Rf.mk rfl ?_|fail)
 refine CA.loop (fun i:Nat=>⟨[(0,ints a),(1,ints b),(5, .val (.int .i64 i))],[]⟩) (fun i=>i≤a.length∧∀j x y,j < i→a[j]?=some x→b[j]?=some y→x≤y) (fun i=>a.length - i) 0 xE ⟨zZ _,fun j x y h=>by omega⟩ ?_
 rintro i ⟨hi,ha⟩
 by_cases hin:i < a.length∧i < b.length
 ·obtain⟨x,hx⟩:=get_of hin.1
  obtain⟨y,hy⟩:=get_of hin.2
  repeat'(first|apply Sp.h|refine Lk.r rfl ?_|refine Rf.mk rfl ?_|refine xA ?_|apply Bd.mk|refine OpK.r rfl ?_|apply Im.mk|refine xI ?_|refine xN ?_|refine xD ?_|refine xO ?_|intro _)
  ·rename_i hxy
   exact Fin.p rfl (vb (zF (fun h=>by have:=h i x y hx hy;omega)).symm)
  ·rename_i hxy
   refine PA.lp (i+1) xE ⟨⟨hin.1,fun j x' y' hj h1 h2=>?_⟩,by omega⟩
   by_cases e:j=i
   ·subst e;rw [hx] at h1;rw [hy] at h2;cases h1;cases h2;omega
   ·exact ha j x' y' (by omega) h1 h2
 ·repeat'(first|apply Sp.h|refine Lk.r rfl ?_|refine Rf.mk rfl ?_|refine xA ?_|refine xB ?_|apply Bd.mk|apply Im.mk|refine xN ?_|intro _)
  all_goals exact Fin.p rfl (vb (zT (p:=Ins a b) (fun j x y h1 h2=>ha j x y (by have:=(zS.1 h1).1;have:=(zS.1 h2).1;omega) h1 h2)).symm)
/-! ### Events -/
structure EvS where
 rep:Int
 num:Int
 time:Int
 past:List Int
 kind:Int
 action:Int
 gk:Int
 gi:Int
 ge:Int
 ga:Int
 to:Int
 place:Int
 serial:Int
abbrev iv (x:Int):AV:= .val (.int .i64 x)
def evC(e:EvS) : List AV:= [iv e.rep,iv e.num,iv e.time,ints e.past,iv e.kind,iv e.action,iv e.gk,iv e.gi,iv e.ge,iv e.ga,iv e.to,iv e.place,iv e.serial]
abbrev evA' (e:EvS):AV:= .agg (evC e)
abbrev evs (l:List EvS):AV:= .sl 13 l evC
theorem nameR_p(e:EvS) : CallP Tryz.prog 26 [evA' e] (dotC e.rep e.num):=by
 refine CallA.of pg ordZ Tryz.func26 rfl Tryz.ntmps26 Tryz.results26 rfl fun h0 G0 O0=>?_
 repeat'(first|apply Sp.h|refine Lk.r rfl ?_|refine Rf.mk rfl ?_|apply All.mk|refine xT ?_|(apply SetAsk.r;focus repeat' constructor)|(apply Fk.r;focus repeat' first|infer_instance|constructor)|refine xN ?_|intro _)
 exact Fin.p rfl rfl
def Btw(n lo hi:Int) : Prop:=lo≤n∧n≤hi
instance (n lo hi:Int):Decidable (Btw n lo hi):=inferInstanceAs (Decidable (_∧_))
theorem between_p(n lo hi:Int) : CallP Tryz.prog 241 [iv n,iv lo,iv hi] (.val (.bool (decide (Btw n lo hi)))):=by
 refine CallA.of pg ordZ Tryz.func241 rfl Tryz.ntmps241 Tryz.results241 rfl fun h0 G0 O0=>?_
 repeat'(first|apply Sp.h|refine Lk.r rfl ?_|refine Rf.mk rfl ?_|refine xA ?_|refine xB ?_|apply Bd.mk|refine xN ?_|intro _)
 all_goals refine Fin.p rfl (vb ?_)
 ·exact zD.2 (by unfold Btw;omega)
 ·exact(zF (by unfold Btw;omega)).symm
theorem rdInt : RdT Tryz.prog 3 (Rp.int .i64):=RdT.int Tryz.underlying3 (by kernel_rfl)
theorem rdInts : RdT Tryz.prog 22 (Rp.int .i64).slice:=RdT.slice Tryz.underlying22 (by kernel_rfl) rdInt (by decide)
abbrev RightT:=Int×Int×Int×Unit
def Rp.rightT : Rp RightT:=(Rp.int .i64).pair ((Rp.int .i64).pair ((Rp.int .i64).pair Rp.unit))
theorem rdRight : RdT Tryz.prog 62 Rp.rightT:=RdT.struct Tryz.underlying62 rfl (by kernel_rfl) (RdF.cons rfl rdInt rfl (RdF.cons rfl rdInt rfl (RdF.cons rfl rdInt rfl RdF.nil)))
abbrev NeedT:=RightT×Int×Unit
def Rp.needT : Rp NeedT:=Rp.rightT.pair ((Rp.int .i64).pair Rp.unit)
theorem rdNeed : RdT Tryz.prog 64 Rp.needT:=RdT.struct Tryz.underlying64 rfl (by kernel_rfl) (RdF.cons rfl rdRight rfl (RdF.cons rfl rdInt rfl RdF.nil))
abbrev EventT:=Int×Int×Int×List Int×Int×Int×NeedT×Int×Int×Int×Unit
def Rp.eventT : Rp EventT:=(Rp.int .i64).pair ((Rp.int .i64).pair ((Rp.int .i64).pair ((Rp.int .i64).slice.pair ((Rp.int .i64).pair ((Rp.int .i64).pair (Rp.needT.pair ((Rp.int .i64).pair ((Rp.int .i64).pair ((Rp.int .i64).pair Rp.unit)))))))))
theorem rdEvent : RdT Tryz.prog 66 Rp.eventT:=RdT.struct Tryz.underlying66 rfl (by kernel_rfl)
 (RdF.cons rfl rdInt rfl (RdF.cons rfl rdInt rfl (RdF.cons rfl rdInt rfl (RdF.cons rfl rdInts rfl (RdF.cons rfl rdInt rfl (RdF.cons rfl rdInt rfl (RdF.cons rfl rdNeed rfl (RdF.cons rfl rdInt rfl (RdF.cons rfl rdInt rfl (RdF.cons rfl rdInt rfl RdF.nil))))))))))
def evOf : EventT→EvS
 | (rep,num,time,past,kind,action,((gk,gi,ge,()),ga,()),to,place,serial,()) =>
  { rep:=rep,num:=num,time:=time,past:=past,kind:=kind,action:=action,gk:=gk,gi:=gi,ge:=ge,ga:=ga,to:=to,place:=place,serial:=serial }
def evIn(e:EvS) : EventT:=(e.rep,e.num,e.time,e.past,e.kind,e.action,((e.gk,e.gi,e.ge,()),e.ga,()),e.to,e.place,e.serial,())
def Rp.event : Rp EvS:=Rp.eventT.iso evIn
theorem rdEv : RdT Tryz.prog 66 Rp.event:=RdT.iso rdEvent evIn evOf (fun _=>rfl)
theorem rdEvs : RdT Tryz.prog 31 Rp.event.slice:=RdT.slice Tryz.underlying31 (by kernel_rfl) rdEv (by decide)
theorem avInts : Avr (Rp.int .i64).slice fun l=> [ints l]:=Avr.int.slice
theorem avEvent : Avr Rp.event evC :=
 ((Avr.int.pair (Avr.int.pair (Avr.int.pair (avInts.pair (Avr.int.pair (Avr.int.pair (((Avr.int.pair (Avr.int.pair (Avr.int.pair Avr.unit))).pair (Avr.int.pair Avr.unit)).pair (Avr.int.pair (Avr.int.pair (Avr.int.pair Avr.unit)))))))))).iso evIn).cast fun _=>rfl
theorem avEvs : Avr Rp.event.slice fun l=> [evs l]:=avEvent.slice
end Go.Proofs.YtmjllbjfkafhdaaGreatDoor
namespace Go.Proofs.YtmjllbjfkafhdaaGreatDoor
open Go Go.CF Go.ChangeShapes Go.WideShapes Go.ChangeAt Go.RowKit

theorem knob : ownKnob Tryz.prog.godebug=none:=by kernel_rfl
theorem laid : laidOutB Tryz.prog=true:=by kernel_rfl
theorem sliceArg{W:World}{r:Reach}{b:Nat}{t e:TypeId}{v:Value}{α:Type}{R:Rp α}{l:List α}(ht:Tryz.prog.underlying t=some (.slice e))(hv:Value.okWide Tryz.prog W r b t v)(h:R.slice.R W.heap (Old W.heap) v.cells.toList l) : R.slice.R W.heap (Old W.heap) [v] l:=by
 rw [CF.okWide_slice ht hv] at h;exact h
abbrev laidL:List (String×DataW Unit):= [("unicode.White_Space",Rows.laid_unicode_White_Space),("strings.asciiSpace",Rows.laid_strings_asciiSpace)]
theorem gAsc : Tryz.prog.globalNamed "strings.asciiSpace" = some 0:=by kernel_rfl
theorem tAsc : (Tryz.prog.globals[0]?).map (·.type)=some 347:=by kernel_rfl
theorem ambG_eq : ambG Tryz.prog= [0]:=by kernel_rfl
theorem c8 : Tryz.prog.cellsOf 5=1:=by kernel_rfl
theorem asc_d : (Rows.laid_strings_asciiSpace:DataW Unit)= .agg (ascVs.map fun v=>match v with | .int k n=> .lit (.int k n)|_=> .nil):=by kernel_rfl
theorem ascVs_len : ascVs.length=256:=by kernel_rfl
theorem amb_of{W:World}(h:laidMetH Tryz.prog laidL W) : AmbOK Tryz.prog W.heap (Old W.heap):=by
 rw [MakeChecks.laidMetH_plain _ _ _ (by kernel_rfl)] at h
 obtain⟨ps,⟨g0,t0,cs0,f0,p0,q0,hg0,ht0,hv0,hd0,⟨g1,t1,cs1,f1,p1,q1,hg1,ht1,hv1,hd1,_,_⟩,_⟩,_,_⟩:=h
 obtain rfl:=Option.some.inj (gAsc.symm.trans hg1)
 obtain rfl:=Option.some.inj (tAsc.symm.trans ht1)
 obtain⟨xs,m1,rfl,hx1,hlen,hn,hel⟩:=DataW.trod_array Tryz.underlying347 hd1
 rw [asc_d] at hx1
 simp only [Prod.mk.injEq,DataW.agg.injEq] at hx1
 have hcell:=fun i=>World.var?_cell hg1 hv1 i
 have hat:∀j v,ascVs[j]?=some v→W.cell? ⟨0,j,none⟩=some v:=by
  intro j v hj
  have hj256:j < 256:=by rw [←ascVs_len];exact(zS.1 hj).1
  have h1:=hel j hj256
  rw [c8,Nat.mul_one] at h1
  have hxj:xs[j]?=some (xs[j]'(by omega)):=zE (by omega)
  rw [hxj] at h1
  obtain⟨k,e1,e2,_⟩:=DataW.trod_int Tryz.underlying5 h1
  have h2:=congrArg (fun l=>l[j]?) hx1.1
  simp only [zG,hj,hxj,Option.map_some,Option.some.injEq] at h2
  rw [e2] at h2
  have hk:v= .int .u8 k:=by
   unfold ascVs at hj
   rw [zG,List.getElem?_range hj256] at hj
   simp only [Option.map_some,Option.some.injEq] at hj
   subst hj
   simp only [DataW.lit.injEq,Lit.int.injEq,true_and] at h2
   rw [h2]
  rw [hcell j,←Array.getElem?_toList,hk]
  have h3:=congrArg (fun l=>l[0]?) e1
  simp only [List.getElem?_take,List.getElem?_drop,List.getElem?_cons_zero] at h3
  simpa using h3
 intro g hg
 rw [ambG_eq] at hg
 obtain rfl:=zH.1 hg
 have h0:W.cell? ⟨0,0,none⟩=some (.int .u8 0):=hat 0 _ rfl
 have hlt:0 < W.heap.size:=by
  unfold World.cell? at h0
  split at h0
  ·rename_i e
   exact(zA.1 e).1
  ·cases h0
 refine⟨hlt,hlt,⟨fun j v hj=>⟨fun w hw=>?_⟩⟩⟩
 rw [addr_add,Nat.zero_add]
 have:=hat j v hj
 unfold World.cell? at this ⊢
 rw [hw]
 exact this
theorem door_met(os:Os)(args:Array Value) : laidMetH Tryz.prog laidL ((World.doorLaid Tryz.prog 33 os).forCall (fun _ _=>0) ⟨#[],args,[]⟩).memory :=
 laidMetH_of_parts3 (fuel:=8) (laidMet_of_run' 8 (by kernel_rfl) (by kernel_rfl)) (by kernel_rfl) (by kernel_rfl)
end Go.Proofs.YtmjllbjfkafhdaaGreatDoor
