/- Part 2 of the ground of this proof: what its texts say of the model, the program and the plain data; conditions: those that are named. -/
import Derived.WalkKit
import Derived.ProofKit
import Derived.Carry
import Derived.Deep.Slices
import Derived.Laws.Entries
import Derived.OpenShut
import Derived.Test.YthlpimbhonihhaaR01
set_option maxRecDepth 100000
set_option maxHeartbeats 80000000
namespace Go.CF
open Go Go.ChangeShapes Go.WideShapes Go.ChangeAt Go.RowKit

section
variable {H:Type} {enc:TypeId×Value→H} {P:Program}

theorem trodAll_stays(hl:laidOutB P=true){W W':World}{sp:Nat→Bool} :∀{ts:List TypeId} {vs:List Value} {ds:List (DataW H)} {ps:List MemPlace},(∀t∈ts,P.readableRec t=true∧t < P.types.size)→
  DataW.TrodAll enc P W 0 (fun _=>true) true ts vs ds ps→(∀p∈ps,W.sameAt W' p)→(∀p∈ps,sp p.block=true)→DataW.TrodAll enc P W' 0 sp true ts vs ds ps
 | [],[],[],_,_,h,_,_=>h
 | t :: ts,v :: vs,d :: ds,ps,hts,h,h1,h2=>by
  obtain⟨p,q,h3,h4,rfl⟩:=h
  exact⟨p,q,WideElems.Trod_stays hl (hts t (by simp)).1 (hts t (by simp)).2 h3 (fun x hx=>h1 x (by simp [hx])) (fun x hx=>h2 x (by simp [hx])),
   trodAll_stays hl (fun t ht=>hts t (by simp [ht])) h4 (fun x hx=>h1 x (by simp [hx])) (fun x hx=>h2 x (by simp [hx])),rfl⟩
 | [],_ :: _,_,_,_,h,_,_=>h.elim
 | [],[],_ :: _,_,_,h,_,_=>h.elim
 | _ :: _,[],_,_,_,h,_,_=>h.elim
 | _ :: _,_ :: _,[],_,_,h,_,_=>h.elim

theorem law_contract(hl:laidOutB P=true){fn:Func}{f:FuncId}{s:ChangeSpec}{apart fresh handsOn again:Bool}{tb:TypeId}{W:World}{args:Array Value}{ds gs:List (DataW H)}{before:List MemPlace}
  (hts:∀t∈fn.params.toList,P.readableRec t=true∧t < P.types.size) (hvars:s.vars= []) (hrt:fn.resultTypes=#[tb]) (htb:P.underlying tb=some .bool)
  (hspec:s.fn H ds= { results:= [.lit (.bool true)],args:=ds })
  (hW:DataW.Whole enc P fn.params.toList s.vars apart W args.toList ds gs before)
  (hc:CallsH P f args W.heap fun r h'=>r= .bool true∧Stp ([]:List Nat) W.heap h') :
  Calls P f args W fun e W'=>∃v,e= .returned v∧s.post enc P fn apart fresh handsOn again W args v W':=by
 refine(hc.run W rfl).mono fun e W' ⟨v,he,hsm,hr,hst⟩=>⟨v,he, ?_⟩
 subst hr
 have hb:Below W.heap.size W W':=⟨hsm.os,hsm.tape,hsm.output,hst.size,fun k hk=>hst.same k hk (by simp)⟩
 have hlt:∀p∈before,p.block < W.heap.size:=fun p hp=>hW.lt p hp
 have hW0:=hW
 obtain⟨p,q,hA,hV,hpq,hz,hn⟩:=hW
 rw [hvars] at hV
 obtain⟨rfl,rfl⟩:=trodVars_none hV
 rw [List.append_nil] at hpq
 subst hpq
 have hsp:s.fn H (ds ++ [])= { results:= [.lit (.bool true)],args:=ds }:=by rw [List.append_nil];exact hspec
 have hargs:∀sp:Nat→Bool,(∀p∈before,sp p.block=true)→DataW.TrodAll enc P W' 0 sp true fn.params.toList args.toList ds before:=fun sp h=>trodAll_stays hl hts hA (fun x hx=>hb.same (hlt x hx)) h
 have hres:∀(b:Nat) (sp:Nat→Bool) (hd:Bool),DataW.TrodAll enc P W' b sp hd fn.resultTypes.toList ((Value.bool true).resultList fn.resultTypes.size) [.lit (.bool true)] []:=fun b sp hd=>by
  rw [hrt]
  exact⟨[],[],⟨1,by simp [DataW.trod,Value.cells,htb]⟩,rfl,rfl⟩
 have hvv:∀sp:Nat→Bool,DataW.TrodVars enc P W' sp s.vars (s.fn H (ds ++ [])).vars []:=fun sp=>by rw [hvars,hsp];rfl
 refine⟨ds,[],before,[],before,[],hW0,by rw [hsp];exact hres _ _ _,by rw [hsp];exact hargs _ (fun x hx=>by simpa using hlt x hx),hvv _,Below.frame hb _,fun _=>⟨?_, ?_⟩⟩
 ·intro j t r h1 h2
  rw [hrt] at h1 h2
  cases j with
  | zero =>
   simp at h1;subst h1
   simp [Value.resultList] at h2;subst h2
   simp [Value.okWide,htb,Cell.okWide,Cell.ok]
  | succ j=>simp at h1
 ·refine⟨_,[],before,⟨[] ++ before,[],trodAll_append (hargs (fun _=>true) (fun _ _=>rfl)) (hres _ _ _),by rw [hvars];rfl,by simp, ?_, ?_⟩, ?_⟩
  ·intro b off hp
   have h1:=hz b off hp
   rw [←h1]
   exact World.frozen?_of_block (w:=W) (hb.block b (hlt _ hp))
  ·intro ha;exact hn ha
  ·intro p hp _;exact hp

/-! ### What a reading says -/
theorem Cel.ofWorld{W:World}{a:Addr}{v:Value}(h:W.cell? a=some v) : Cel W.heap a v :=
 ⟨fun w hw=>by rw [←h];exact World.cell?_of_block (w:=W) (by rw [hw])⟩

theorem flatten_get{sz:Nat} :∀(rows:List (List Value)) (j:Nat) (u:Value),(∀r∈rows,r.length=sz)→rows.flatten[j]?=some u→∃i k r,rows[i]?=some r∧r[k]?=some u∧j=i * sz+k∧k < sz
 | [],j,u,_,h=>by simp at h
 | r :: rs,j,u,hr,h=>by
  have hrl:=hr r (by simp)
  by_cases hj:j < sz
  ·rw [List.flatten_cons,zI (by omega)] at h
   exact⟨0,j,r,rfl,h,by simp,hj⟩
  ·rw [List.flatten_cons,zJ (by omega),hrl] at h
   obtain⟨i,k,r',h1,h2,h3,h4⟩:=flatten_get rs (j - sz) u (fun r hr'=>hr r (by simp [hr'])) h
   exact⟨i+1,k,r',by simpa using h1,h2,by rw [Nat.add_mul];omega,h4⟩

theorem trod_sl{W:World}{sp:Nat→Bool}{held:Bool}{t e sz:Nat}{fuel:Nat}{cs:List Value}{x:DataW H×List MemPlace}(ht:P.underlying t=some (.slice e))(hc:P.cellsOf e=sz)(hpos:0 < sz)
  (h:DataW.trod enc P W 0 sp held fuel t cs=some x) :
  ∃(v:Value) (rows:List (List Value)),cs= [v]∧Sl W.heap v rows.length rows.flatten∧(∃p cap,v= .slice p rows.length cap)∧rows.length≤maxLen∧∀r∈rows,r.length=sz∧∃n d ps,DataW.trod enc P W 0 sp held n e r=some (d,ps):=by
 rcases Deep.open_slice ht h with⟨rfl,_⟩|⟨a,len,cap,m,n,D,Pl,rfl,_,hle,hmx,hm,_,hx⟩
 ·exact⟨_,[],rfl,⟨.inl ⟨_,_,rfl,rfl,rfl⟩⟩,⟨_,_,rfl⟩,zZ _,by simp⟩
 have hlm:len≤m:=by rw [hm];split <;> omega
 obtain⟨R,hR⟩:=Deep.choose_lt hx
 have hrl:∀r∈(List.range len).map R,r.length=sz∧∃n d ps,DataW.trod enc P W 0 sp held n e r=some (d,ps):=by
  intro r hr
  simp only [List.mem_map,List.mem_range] at hr
  obtain⟨i,hi,rfl⟩:=hr
  obtain⟨h1,h2⟩:=hR i (by omega)
  obtain⟨_,h3,_⟩:=World.cells?_some h1
  exact⟨by rw [h3,hc],n,_,_,h2⟩
 have hlen:((List.range len).map R).length=len:=by simp
 refine⟨_,(List.range len).map R,rfl, ?_,⟨_,_,by rw [hlen]⟩,by rw [hlen];omega,hrl⟩
 rw [hlen]
 rcases Nat.eq_zero_or_pos len with rfl|hp
 ·exact⟨.inl ⟨_,_,rfl,rfl,rfl⟩⟩
 have hcell:∀i,i < len→∀k,k < sz→W.cell? ((a.add (i * sz)).add k)=(R i)[k]?:=by
  intro i hi k hk
  obtain⟨_,h3,h4⟩:=World.cells?_some (hR i (by omega)).1
  rw [hc] at h4
  exact h4 k hk
 obtain⟨b,o,spot⟩:=a
 have h00:=hcell 0 hp 0 hpos
 obtain⟨c0,hc0⟩:∃c0,(R 0)[0]?=some c0:=by
  have:=(hrl (R 0) (List.mem_map.2 ⟨0,by simpa using hp,rfl⟩)).1
  exact⟨(R 0)[0]'(by omega),zE _⟩
 rw [hc0] at h00
 have hspot:spot=none:=by simpa [Addr.add] using World.cell?_spot h00
 subst hspot
 have hblk:b < W.heap.size:=by
  have:=World.block_lt_of_cell? W _ h00
  simpa [Addr.add] using this
 refine⟨.inr ⟨b,o,cap,rfl,hp,hle,hblk,⟨fun j v hv=>?_⟩⟩⟩
 obtain⟨i,k,r,h1,h2,rfl,h4⟩:=flatten_get _ j v (fun r hr=>(hrl r hr).1) hv
 have hi:i < len:=by
  have:=(zS.1 h1).1
  simpa using this
 have h5:R i=r:=by simpa [hi] using h1
 have h6:=hcell i hi k h4
 rw [h5,h2] at h6
 have h7:(((⟨b,o,none⟩:Addr).add (i * sz)).add k)=(⟨b,o,none⟩:Addr).add (i * sz+k):=by
  simp only [add_plain];congr 1;omega
 rw [h7] at h6
 exact Cel.ofWorld h6

theorem okWide_slice{W:World}{r:Reach}{b:Nat}{t e:TypeId}{v:Value}(ht:P.underlying t=some (.slice e))(h:Value.okWide P W r b t v) : v.cells=#[v]:=by
 cases v with
 | agg c=>simp [Value.okWide,ht,Cell.okWide,Cell.ok] at h
 | tuple c=>simp [Value.okWide,ht,Cell.okWide,Cell.ok] at h
 | _=>rfl
end

structure Rp (α:Type) where
 sz:Nat
 R:Heap→(Nat→Prop)→List Value→α→Prop
 len:∀{h F cs a},R h F cs a→cs.length=sz
 one:∀{h F cs a},R h F cs a→∀u∈cs,u.oneCell'=true
 stp:∀{h h' F cs a} {fp:List Nat},Stp fp h h'→(∀b,F b→b ∉ fp)→R h F cs a→R h' F cs a
 mono:∀{h F G cs a},(∀b,F b→G b)→R h F cs a→R h G cs a
 lt:∀{h F cs a},R h F cs a→R h (fun b=>F b∧b < h.size) cs a

def Old(h:Heap) : Nat→Prop:=fun b=>b < h.size

def Rp.int(k:IntKind) : Rp Int where
 sz:=1
 R:=fun _ _ cs a=>cs= [.int k a]∧(Lit.int k a).wf=true
 len:=by rintro _ _ _ _ ⟨rfl,_⟩;rfl
 one:=by rintro _ _ _ _ ⟨rfl,_⟩ u hu;simp at hu;subst hu;rfl
 stp:=fun _ _ h=>h
 mono:=fun _ h=>h
 lt:=fun h=>h
def rowsR{α:Type}(r:Rp α)(h:Heap)(F:Nat→Prop)(rows:List (List Value))(l:List α) : Prop :=
 rows.length=l.length∧∀(i:Nat) (row:List Value) (a:α),rows[i]?=some row→l[i]?=some a→r.R h F row a

def Rp.slice{α:Type}(r:Rp α) : Rp (List α) where
 sz:=1
 R:=fun h F cs l=>∃v,cs= [v]∧(∀b∈rdOf v,F b)∧l.length≤9223372036854775807∧∃rows,Sl h v l.length rows.flatten∧rowsR r h F rows l
 len:=by rintro _ _ _ _ ⟨v,rfl,_⟩;rfl
 one:=by
  rintro _ _ _ _ ⟨v,rfl,_,_,rows,hs,_⟩ u hu
  simp at hu;subst hu
  obtain⟨p,cap,rfl⟩:=hs.shape
  rfl
 stp:=by
  rintro h h' F cs l fp x hn ⟨v,e,hb,hmx,rows,hs,hl,hr⟩
  exact⟨v,e,hb,hmx,rows,hs.stp x (fun b hm=>hn b (hb b hm)),hl,fun i row a h1 h2=>r.stp x hn (hr i row a h1 h2)⟩
 mono:=by
  rintro h F G cs l hm ⟨v,e,hb,hmx,rows,hs,hl,hr⟩
  exact⟨v,e,fun b h1=>hm b (hb b h1),hmx,rows,hs,hl,fun i row a h1 h2=>r.mono hm (hr i row a h1 h2)⟩
 lt:=by
  rintro h F cs l ⟨v,e,hb,hmx,rows,hs,hl,hr⟩
  exact⟨v,e,fun b h1=>⟨hb b h1,hs.lt b h1⟩,hmx,rows,hs,hl,fun i row a h1 h2=>r.lt (hr i row a h1 h2)⟩

theorem rows_flat{sz:Nat} :∀(rows:List (List Value)) (i k:Nat) (r:List Value) (u:Value),(∀r∈rows,r.length=sz)→rows[i]?=some r→r[k]?=some u→rows.flatten[i * sz+k]?=some u
 | [],i,_,_,_,_,h,_=>by simp at h
 | x :: rs,0,k,r,u,hr,h,hu=>by
  simp at h;subst h
  have hk:=(zS.1 hu).1
  rw [Nat.zero_mul,Nat.zero_add,List.flatten_cons,zI hk];exact hu
 | x :: rs,i+1,k,r,u,hr,h,hu=>by
  have hx:=hr x (by simp)
  rw [List.flatten_cons,zJ (by rw [hx,Nat.add_mul];omega),hx]
  have:=rows_flat rs i k r u (fun r h=>hr r (by simp [h])) (by simpa using h) hu
  rw [←this];congr 1;rw [Nat.add_mul];omega

section
variable {α:Type} {r:Rp α} {h:Heap} {F:Nat→Prop} {l:List α}
end

theorem wf_u8{n:Int} : (Lit.int .u8 n).wf=true↔0≤n∧n≤255:=by
 simp [Lit.wf,IntKind.min,IntKind.max,IntKind.signed,IntKind.bits]
theorem wf_u16{n:Int} : (Lit.int .u16 n).wf=true↔0≤n∧n≤65535:=by
 simp [Lit.wf,IntKind.min,IntKind.max,IntKind.signed,IntKind.bits]

/-! ### Reading -/
section
variable {P:Program}
structure RdT {α:Type} (P:Program) (t:TypeId) (r:Rp α):Prop where
 sz:P.cellsOf t=r.sz
 rd:∀{H:Type} {enc:TypeId×Value→H} {W:World} {sp:Nat→Bool} {held:Bool} {n:Nat} {cs:List Value} {x:DataW H×List MemPlace},DataW.trod enc P W 0 sp held n t cs=some x→∃a,r.R W.heap (Old W.heap) cs a
theorem RdT.int{t:TypeId}{k:IntKind}(ht:P.underlying t=some (.int k))(hc:P.cellsOf t=1) : RdT P t (Rp.int k) :=
 ⟨hc,fun h=>by obtain⟨n,h1,_,h2⟩:=DataW.trod_int ht h;exact⟨n,h1,h2⟩⟩
theorem RdT.slice{α:Type}{t e:TypeId}{r:Rp α}(ht:P.underlying t=some (.slice e))(hc:P.cellsOf t=1)(he:RdT P e r)(hz:0 < r.sz) : RdT P t r.slice:=by
 refine⟨hc,fun {H enc W sp held n cs x} h=>?_⟩
 obtain⟨v,rows,rfl,hs,_,hm,hr⟩:=trod_sl ht he.sz hz h
 have key:∀rows:List (List Value),(∀r'∈rows,∃n d ps,DataW.trod enc P W 0 sp held n e r'=some (d,ps))→∃l:List α,rowsR r W.heap (Old W.heap) rows l:=by
  intro rows
  induction rows with
  | nil=>exact fun _=>⟨[],rfl,fun i row a h1=>by simp at h1⟩
  | cons r' rs ih =>
   intro hr
   obtain⟨l,h1,h2⟩:=ih (fun r' h=>hr r' (by simp [h]))
   obtain⟨n,d,ps,h3⟩:=hr r' (by simp)
   obtain⟨a,h4⟩:=he.rd h3
   refine⟨a :: l,by simp [h1],fun i row b hi hb=>?_⟩
   cases i with
   | zero=>simp at hi hb;subst hi;subst hb;exact h4
   | succ i=>exact h2 i row b (by simpa using hi) (by simpa using hb)
 obtain⟨l,h1,h2⟩:=key rows (fun r' hm=>(hr r' hm).2)
 exact⟨l,v,rfl,hs.lt,by rw [←h1];exact hm,rows,by rw [←h1];exact hs,h1,h2⟩
theorem RdT.arg{α H:Type}{enc:TypeId×Value→H}{t:TypeId}{r:Rp α}(hr:RdT P t r){W:World}{sp:Nat→Bool}{held:Bool}{v:Value}{d:DataW H}{ps:List MemPlace}(h:DataW.Trod enc P W 0 sp held t v d ps) :
  ∃a,r.R W.heap (Old W.heap) v.cells.toList a:=by
 obtain⟨n,h⟩:=h
 exact hr.rd h
end

section
variable {P:Program}
theorem trodAll_cons{H:Type}{enc:TypeId×Value→H}{W:World}{sp:Nat→Bool}{held:Bool}{t:TypeId}{ts:List TypeId}{vs:List Value}{ds:List (DataW H)}{ps:List MemPlace}(h:DataW.TrodAll enc P W 0 sp held (t :: ts) vs ds ps) :
  ∃v vs' d ds' p q,vs=v :: vs'∧ds=d :: ds'∧DataW.Trod enc P W 0 sp held t v d p∧DataW.TrodAll enc P W 0 sp held ts vs' ds' q:=by
 match vs,ds,h with
 | v :: vs',d :: ds',h=>obtain⟨p,q,h1,h2,_⟩:=h;exact⟨v,vs',d,ds',p,q,rfl,rfl,h1,h2⟩
theorem trodAll_end{H:Type}{enc:TypeId×Value→H}{W:World}{sp:Nat→Bool}{held:Bool}{vs:List Value}{ds:List (DataW H)}{ps:List MemPlace}(h:DataW.TrodAll enc P W 0 sp held [] vs ds ps) : vs= []∧ds= []:=by
 match vs,ds,h with
 | [],[],_=>exact⟨rfl,rfl⟩
end
end Go.CF
namespace Go.CF
open Go

section
variable {P:Program} {tt:Nat→Option TI} {en:Nat→Bool} {γ:Type} [Membership Nat γ] {fp:γ} {n:Nat} {c:Cls} {env:Env} {h:Heap} {N:Env→Heap→Prop} {d:Tmp} {ty:TypeId} {t u:TypeId} {x y z:Operand} {v:Value} {k' k2:IntKind} {i j:Int}

theorem St.shrN{m:Nat}(hx:ev env x=some (.int k' i))(hy:ev env y=some (.int k2 j))(hj:j=(m:Int))(hm:(m:Int)≤k'.bits)(k:N ((d, .int k' (i / 2 ^ m)) :: env) h) : St P n fp c (some d) (.binOp .shr t x y u) ty env h N :=
 .ofPu (v:= .int k' (i / 2 ^ m)) (fun a w ha=>by
  subst hj
  have:=shift_shr k' k2 i (m:Int) (by omega) hm
  simp only [mkOp,execOp,ha.ev hx,ha.ev hy,eqGuard_at_int,Sem.run_bind,Sem.run_pure,Result.andThen_ok,binOp_shr,this,Int.toNat_natCast]) k

theorem St.clearS(G:PgOK P tt en){ti te:TI}{e b o m cap T:Nat}{l:List Value}(ht:tt t=some ti)(hk:ti.kind= .slice e)(hte:tt e=some te)(h1:∀u∈te.zero.cells.toList,u.oneCell'=true)(hz:te.zero.cells.size=te.size)
  (hx:ev env x=some (.slice (some ⟨b,o,none⟩) (m+1) cap)) (hb:Blk h b T l) (hl:o+(m+1) * te.size≤l.length) (hc:isLoud c=true)
  (k:∀h' l',Upd h b T l' h'→h'.size=h.size→l'.length=l.length→(∀j,j < o→l'[j]?=l[j]?)→N env h'):St P n fp c none (.call { callee:= .builtin .clear,args:=#[x],argTypes:=#[t] }) ty env h N:=by
 refine .ofLd hc fun a w oo next Q ha hw hop hty hn=>?_
 have hu:=(G.ok _ _ ht).slice hk
 have hv:=(G.ok _ _ hte).run_zero w
 have hg:w.heap[b]?=some (.cells l.toArray T (0,0)):=hb.heap hw
 have hsz:(Builtin.zeroCells te.zero.cells (m+1)).toList.length=(m+1) * te.size:=by simp [size_zeroCells,hz]
 have hone:∀u∈(Builtin.zeroCells te.zero.cells (m+1)).toList,u.oneCell'=true:=by
  intro u hu
  simp only [Builtin.zeroCells,Array.toList_map,List.mem_map] at hu
  obtain⟨q,hq,rfl⟩:=hu
  have hq2:q < (m+1) * te.zero.cells.size:=by simpa using hq
  have hpos:0 < te.zero.cells.size:=by
   rcases Nat.eq_zero_or_pos te.zero.cells.size with h0|h0
   ·rw [h0] at hq2;simp at hq2
   ·exact h0
  have hlt:=Nat.mod_lt q hpos
  rw [getElem!_pos te.zero.cells _ hlt]
  exact h1 _ (by simp)
 have hst:=run_storeCells_at P b o T (Builtin.zeroCells te.zero.cells (m+1)).toList 0 l.toArray w hg (by rw [hsz];simpa using hl) hone
 simp only [Nat.add_zero] at hst
 have hrun:(execOp a.eval (mkOp (.call { callee:= .builtin .clear,args:=#[x],argTypes:=#[t] }) ty)).run P w= .ok (.value (.tuple #[])) (w.setRow b (l.take o ++ (Builtin.zeroCells te.zero.cells (m+1)).toList ++ l.drop (o+(Builtin.zeroCells te.zero.cells (m+1)).toList.length)).toArray):=by
  simp [mkOp,execOp,resolve,invoke,builtin,ha.ev hx,Builtin.clear_,run_underlying hu,hv,hst]
 unfold Oper.wp
 rw [exec_mk,hop,hty,hrun]
 refine hn _ _ (Same.of_set hg rfl (World.setRow_heap' hg)) (k _ _ ⟨hb.lt,by rw [World.setRow_heap' hg,hw]⟩ ?_ ?_ ?_)
 ·simp [World.setRow_heap' hg,hw]
 ·simp only [zP,zN,List.length_drop,hsz];omega
 ·intro q hq
  rw [List.append_assoc,zI (by simp;omega),List.getElem?_take,if_pos hq]
end
def sub : List Nat→Code→Code
 | [],c=>c
 | 0 :: r, .seq a _=>sub r a
 | _ :: r, .seq _ b=>sub r b
 | 0 :: r, .cond _ a _=>sub r a
 | _ :: r, .cond _ _ b=>sub r b
 | _ :: r, .block _ c=>sub r c
 | _ :: r, .loop c=>sub r c
 | _ :: _,c=>c

structure FPx (S:Nat→Prop) (h h':Heap):Prop where
 size:h.size≤h'.size
 same:∀b,S b→b < h.size→h'[b]?=h[b]?
theorem FPx.refl{S:Nat→Prop}(h:Heap) : FPx S h h:=⟨Nat.le_refl _,fun _ _ _=>rfl⟩
theorem FPx.mono{S S':Nat→Prop}{h h':Heap}(x:FPx S h h')(hs:∀b,S' b→S b) : FPx S' h h':=⟨x.size,fun b hb hl=>x.same b (hs b hb) hl⟩

structure AV where
 R:Heap→(Nat→Prop)→Value→Prop
 stp:∀{h h' G v},FPx G h h'→R h G v→R h' G v
 mono:∀{h G G' v},(∀b,G b→G' b)→R h G v→R h G' v

def NC(h:Heap)(b:Nat) : Prop:=∀o,h[b]?=some o→isCtl o=false
theorem NC.of{h:Heap}{b:Nat}{o:Obj}(hb:h[b]?=some o)(ho:isCtl o=false) : NC h b:=fun o' h'=>by rw [hb] at h';cases h';exact ho
theorem NC.eq{h h':Heap}{b:Nat}(x:NC h b)(e:h'[b]?=h[b]?) : NC h' b:=fun o ho=>x o (e▸ho)
structure Res where
 R:Heap→(Nat→Prop)→(Nat→Prop)→Prop
 stp:∀{h h' O G},FPx (fun b=>O b∨G b) h h'→R h O G→R h' O G
 mono:∀{h O G G'},(∀b,G b→G' b)→R h O G→R h O G'
 nc:∀{h O G},R h O G→∀b,O b→NC h b

def AV.val(v:Value) : AV:=⟨fun _ _ u=>u=v,fun _ h=>h,fun _ h=>h⟩
def AV.ow(v:Value) : AV:=⟨fun _ _ u=>u=v∧∃p len cap,v= .slice p len cap,fun _ h=>h,fun _ h=>h⟩
def AV.oe(v:Value)(sz j r:Nat) : AV:=⟨fun _ _ u=>∃b o len cap,v= .slice (some ⟨b,o,none⟩) len cap∧u= .pointer (some ⟨b,o+j * sz+r,none⟩),fun _ h=>h,fun _ h=>h⟩
def AV.os(v:Value)(sz j m:Nat) : AV:=⟨fun _ _ u=>∃p len cap,v= .slice p len cap∧j+m≤len∧u= .slice (subA p sz j cap) m (cap - j),fun _ h=>h,fun _ h=>h⟩

def RepT(h:Heap)(G:Nat→Prop) : List Value→List AV→Prop
 | [],[]=>True
 | v :: vs,a :: asx=>a.R h G v∧RepT h G vs asx
 | _,_=>False
theorem RepT.stp{h h':Heap}{G:Nat→Prop}(x:FPx G h h') :∀{vs:List Value} {asx:List AV},RepT h G vs asx→RepT h' G vs asx
 | [],[],_=>trivial
 | _ :: _,_ :: _,⟨h1,h2⟩=>⟨AV.stp _ x h1,RepT.stp x h2⟩
theorem RepT.mono{h:Heap}{G G':Nat→Prop}(x:∀b,G b→G' b) :∀{vs:List Value} {asx:List AV},RepT h G vs asx→RepT h G' vs asx
 | [],[],_=>trivial
 | _ :: _,_ :: _,⟨h1,h2⟩=>⟨AV.mono _ x h1,RepT.mono x h2⟩
theorem RepT.len{h:Heap}{G:Nat→Prop} :∀{vs:List Value} {asx:List AV},RepT h G vs asx→vs.length=asx.length
 | [],[],_=>rfl
 | _ :: _,_ :: _,⟨_,h2⟩=>by simp [RepT.len h2]
theorem RepT.get{h:Heap}{G:Nat→Prop} :∀{vs:List Value} {asx:List AV} {i:Nat} {a:AV},RepT h G vs asx→asx[i]?=some a→∃v,vs[i]?=some v∧a.R h G v
 | [],[],i,a,_,h1=>by simp at h1
 | v :: vs,a :: asx,0,b,⟨h1,_⟩,h2=>⟨v,rfl,by simp at h2;exact h2▸h1⟩
 | v :: vs,a :: asx,i+1,b,⟨_,h1⟩,h2=>by simpa using RepT.get h1 (by simpa using h2)
theorem RepT.app{h:Heap}{G:Nat→Prop} :∀{v1 v2:List Value} {a1 a2:List AV},RepT h G v1 a1→RepT h G v2 a2→RepT h G (v1 ++ v2) (a1 ++ a2)
 | [],_,[],_,_,h2=>h2
 | _ :: _,_,_ :: _,_,⟨h1,h3⟩,h2=>⟨h1,h3.app h2⟩
theorem RepT.take{h:Heap}{G:Nat→Prop} :∀{vs:List Value} {asx:List AV} (n:Nat),RepT h G vs asx→RepT h G (vs.take n) (asx.take n)
 | [],[],n,_=>by simp [RepT]
 | v :: vs,a :: asx,0,_=>trivial
 | v :: vs,a :: asx,n+1,⟨h1,h2⟩=>⟨h1,h2.take n⟩
theorem RepT.drop{h:Heap}{G:Nat→Prop} :∀{vs:List Value} {asx:List AV} (n:Nat),RepT h G vs asx→RepT h G (vs.drop n) (asx.drop n)
 | [],[],n,_=>by simp [RepT]
 | v :: vs,a :: asx,0,hr=>hr
 | v :: vs,a :: asx,n+1,⟨_,h2⟩=>h2.drop n
theorem RepT.set{h:Heap}{G:Nat→Prop} :∀{vs:List Value} {asx:List AV} (n:Nat) {v:Value} {a:AV},RepT h G vs asx→a.R h G v→RepT h G (vs.set n v) (asx.set n a)
 | [],[],n,_,_,_,_=>by simp [RepT]
 | _ :: vs,_ :: asx,0,_,_,⟨_,h2⟩,h3=>⟨h3,h2⟩
 | _ :: vs,_ :: asx,n+1,_,_,⟨h1,h2⟩,h3=>⟨h1,h2.set n h3⟩

structure RepL (h:Heap) (G:Nat→Prop) (vs:List Value) (asx:List AV):Prop where
 t:RepT h G vs asx
 one:∀u∈vs,u.oneCell'=true
theorem RepL.stp{h h':Heap}{G:Nat→Prop}{vs:List Value}{asx:List AV}(x:FPx G h h')(r:RepL h G vs asx) : RepL h' G vs asx:=⟨r.t.stp x,r.one⟩
theorem RepL.mono{h:Heap}{G G':Nat→Prop}{vs:List Value}{asx:List AV}(x:∀b,G b→G' b)(r:RepL h G vs asx) : RepL h G' vs asx:=⟨r.t.mono x,r.one⟩

def AV.agg(cs:List AV) : AV:=⟨fun h G u=>∃vs,u= .agg vs.toArray∧RepL h G vs cs,by rintro h h' G v x ⟨vs,e,r⟩;exact⟨vs,e,r.stp x⟩,by rintro h G G' v x ⟨vs,e,r⟩;exact⟨vs,e,r.mono x⟩⟩
def AV.tup(cs:List AV) : AV:=⟨fun h G u=>∃vs,u= .tuple vs.toArray∧RepT h G vs cs,by rintro h h' G v x ⟨vs,e,r⟩;exact⟨vs,e,r.stp x⟩,by rintro h G G' v x ⟨vs,e,r⟩;exact⟨vs,e,r.mono x⟩⟩
def AV.fn(f:FuncId)(cs:List AV) : AV:=⟨fun h G u=>∃vs,u= .func (.func f) #[] vs.toArray∧RepT h G vs cs,by rintro h h' G v x ⟨vs,e,r⟩;exact⟨vs,e,r.stp x⟩,by rintro h G G' v x ⟨vs,e,r⟩;exact⟨vs,e,r.mono x⟩⟩

theorem Cels.of_block{h h':Heap}{b o:Nat}{l:List Value}(he:h'[b]?=h[b]?)(hc:Cels h ⟨b,o,none⟩ l) : Cels h' ⟨b,o,none⟩ l :=
 ⟨fun j v hv=>Cel.of_block (by rw [addr_add];exact he) (hc.get j v hv)⟩
def AV.ad(cs:List AV)(k:Nat) : AV:=⟨fun h G u=>∃b o vs,u= .pointer (some ⟨b,o+k,none⟩)∧G b∧b < h.size∧Cels h ⟨b,o,none⟩ vs∧RepL h G vs cs,
 fun x ⟨b,o,vs,e,g,l,c,r⟩=>⟨b,o,vs,e,g,Nat.lt_of_lt_of_le l x.size,c.of_block (x.same b g l),r.stp x⟩,fun x ⟨b,o,vs,e,g,l,c,r⟩=>⟨b,o,vs,e,x b g,l,c,r.mono x⟩⟩

structure Rows {α:Type} (h:Heap) (G:Nat→Prop) (sz:Nat) (rows:List (List Value)) (l:List α) (f:α→List AV):Prop where
 len:rows.length=l.length
 row:∀(i:Nat) (r:List Value) (x:α),rows[i]?=some r→l[i]?=some x→RepL h G r (f x)
 sz:∀r∈rows,r.length=sz
section
variable {α:Type} {h h':Heap} {G G':Nat→Prop} {sz:Nat} {rows:List (List Value)} {l:List α} {f:α→List AV}
theorem Rows.stp(x:FPx G h h')(r:Rows h G sz rows l f) : Rows h' G sz rows l f:=⟨r.len,fun i a b h1 h2=>(r.row i a b h1 h2).stp x,r.sz⟩
theorem Rows.mono(x:∀b,G b→G' b)(r:Rows h G sz rows l f) : Rows h G' sz rows l f:=⟨r.len,fun i a b h1 h2=>(r.row i a b h1 h2).mono x,r.sz⟩
theorem Rows.flen(r:Rows h G sz rows l f) : rows.flatten.length=l.length * sz:=by
 have key:∀rows:List (List Value),(∀r∈rows,r.length=sz)→rows.flatten.length=rows.length * sz:=by
  intro rows
  induction rows with
  | nil=>simp
  | cons a rs ih=>intro h1;rw [List.flatten_cons,zP,h1 a (by simp),ih (fun r hr=>h1 r (by simp [hr])),List.length_cons,Nat.add_mul];omega
 rw [key rows r.sz,r.len]
theorem Rows.one(r:Rows h G sz rows l f) :∀u∈rows.flatten,u.oneCell'=true:=by
 intro u hu
 obtain⟨row,hr,hu⟩:=List.mem_flatten.1 hu
 obtain⟨i,hi⟩:=zO hr
 have hlt:=(zS.1 hi).1
 exact(r.row i row _ hi (zE (by rw [←r.len];exact hlt))).one u hu
theorem Rows.at(r:Rows h G sz rows l f){i:Nat}{x:α}(hi:l[i]?=some x) :∃row,rows[i]?=some row∧RepL h G row (f x)∧row.length=sz:=by
 have hlt:=(zS.1 hi).1
 have h1:rows[i]?=some (rows[i]'(by rw [r.len];exact hlt)):=zE _
 exact⟨_,h1,r.row i _ x h1 hi,r.sz _ (List.getElem_mem _)⟩
theorem Rows.nil : Rows h G sz [] ([]:List α) f:=⟨rfl,fun i r x h1=>by simp at h1,fun r hr=>by cases hr⟩
theorem Rows.app{m:List α}{rows2:List (List Value)}(r:Rows h G sz rows l f)(s:Rows h G sz rows2 m f) : Rows h G sz (rows ++ rows2) (l ++ m) f:=by
 refine⟨by simp [r.len,s.len],fun i a b h1 h2=>?_,fun a ha=>(zV.1 ha).elim (r.sz a) (s.sz a)⟩
 by_cases hi:i < rows.length
 ·rw [zI hi] at h1
  rw [zI (by rw [←r.len];exact hi)] at h2
  exact r.row i a b h1 h2
 ·rw [zJ (by omega)] at h1
  rw [zJ (by rw [←r.len];omega),←r.len] at h2
  exact s.row _ a b h1 h2
theorem Rows.take(r:Rows h G sz rows l f)(m:Nat) : Rows h G sz (rows.take m) (l.take m) f:=by
 refine⟨by simp [r.len],fun i a b h1 h2=>?_,fun a ha=>r.sz a (zW ha)⟩
 rw [List.getElem?_take] at h1 h2
 split at h1
 ·rename_i hm;rw [if_pos hm] at h2;exact r.row i a b h1 h2
 ·cases h1
theorem Rows.drop(r:Rows h G sz rows l f)(m:Nat) : Rows h G sz (rows.drop m) (l.drop m) f:=by
 refine⟨by simp [r.len],fun i a b h1 h2=>?_,fun a ha=>r.sz a (List.mem_of_mem_drop ha)⟩
 rw [List.getElem?_drop] at h1 h2
 exact r.row _ a b h1 h2
theorem Rows.set(r:Rows h G sz rows l f){i:Nat}{row:List Value}{x:α}(hr:RepL h G row (f x))(hs:row.length=sz) : Rows h G sz (rows.set i row) (l.set i x) f:=by
 refine⟨by simp [r.len],fun j a b h1 h2=>?_,fun a ha=>(List.mem_or_eq_of_mem_set ha).elim (r.sz a) (fun e=>e▸hs)⟩
 rw [List.getElem?_set] at h1 h2
 by_cases hij:i=j
 ·subst hij
  rw [if_pos rfl] at h1 h2
  split at h1
  ·rename_i hlt
   rw [if_pos (by rw [←r.len];exact hlt)] at h2
   cases h1;cases h2;exact hr
  ·cases h1
 ·rw [if_neg hij] at h1 h2
  exact r.row j a b h1 h2
end

def AV.sl{α:Type}(sz:Nat)(l:List α)(f:α→List AV) : AV :=
  ⟨fun h G u=>l.length≤9223372036854775807∧((l= []∧∃p cap,u= .slice p 0 cap)∨∃b o cap rows,u= .slice (some ⟨b,o,none⟩) l.length cap∧0 < l.length∧l.length≤cap∧G b∧b < h.size∧Cels h ⟨b,o,none⟩ rows.flatten∧Rows h G sz rows l f),
   fun x ⟨hm,hr⟩=>⟨hm,hr.imp id fun⟨b,o,cap,rows,e,h1,h2,g,lt,c,r⟩=>⟨b,o,cap,rows,e,h1,h2,g,Nat.lt_of_lt_of_le lt x.size,c.of_block (x.same b g lt),r.stp x⟩⟩,
   fun x ⟨hm,hr⟩=>⟨hm,hr.imp id fun⟨b,o,cap,rows,e,h1,h2,g,lt,c,r⟩=>⟨b,o,cap,rows,e,h1,h2,x b g,lt,c,r.mono x⟩⟩⟩

def blkR(b:Nat)(T:TypeId)(cs:List AV) : Res :=
  ⟨fun h O G=>(∀x,O x↔x=b)∧∃vs,Blk h b T vs∧RepL h G vs cs,
   fun x ⟨ho,vs,hb,r⟩=>⟨ho,vs,⟨(x.same b (.inl ((ho b).2 rfl)) hb.lt).trans hb.get⟩,r.stp (x.mono fun _=> .inr)⟩,
   fun x ⟨ho,vs,hb,r⟩=>⟨ho,vs,hb,r.mono x⟩,
   fun⟨ho,_,hb,_⟩ y hy=>by rw [(ho y).1 hy];exact NC.of hb.get rfl⟩
theorem Own.nc{h:Heap}{v:Value}{T:TypeId}{sz n:Nat}{vs:List Value}(hb:Own h v T sz n vs){y:Nat}(hy:y∈blkOf v) : NC h y:=by
 rcases hb.ok with⟨rfl,_⟩|⟨b,o,cap,L,e,hbl,_⟩
 ·simp [blkOf] at hy
 ·subst e
  simp [blkOf] at hy
  subst hy;exact NC.of hbl.get rfl
def arrR{α:Type}(v:Value)(T:TypeId)(sz:Nat)(l:List α)(f:α→List AV) : Res :=
  ⟨fun h O G=>(∀x,O x↔x∈blkOf v)∧∃rows,Own h v T sz l.length rows.flatten∧Rows h G sz rows l f,
   fun x ⟨ho,rows,hb,r⟩=>⟨ho,rows,by
      rcases hb.ok with h1|⟨b,o,cap,L,e,hbl,h1,h2,h3⟩
      · exact⟨hb.len_vs, .inl h1⟩
      · exact⟨hb.len_vs, .inr ⟨b,o,cap,L,e,⟨(x.same b (.inl ((ho b).2 (by simp [e,blkOf]))) hbl.lt).trans hbl.get⟩,h1,h2,h3⟩⟩,r.stp (x.mono fun _=> .inr)⟩,
   fun x ⟨ho,rows,hb,r⟩=>⟨ho,rows,hb,r.mono x⟩,
   fun⟨ho,_,hb,_⟩ y hy=>hb.nc ((ho y).1 hy)⟩

def OwnL(h:Heap)(G:Nat→Prop) : List Res→List (Nat→Prop)→Prop
 | [],[]=>True
 | R :: rs,O :: os=>R.R h O G∧OwnL h G rs os
 | _,_=>False
theorem OwnL.stp{h h':Heap}{G:Nat→Prop} :∀{rs:List Res} {os:List (Nat→Prop)},(∀O∈os,FPx (fun b=>O b∨G b) h h')→OwnL h G rs os→OwnL h' G rs os
 | [],[],_,_=>trivial
 | R :: _,O :: _,x,⟨h1,h2⟩=>⟨R.stp (x O (by simp)) h1,OwnL.stp (fun O hO=>x O (by simp [hO])) h2⟩
theorem OwnL.mono{h:Heap}{G G':Nat→Prop}(x:∀b,G b→G' b) :∀{rs:List Res} {os:List (Nat→Prop)},OwnL h G rs os→OwnL h G' rs os
 | [],[],_=>trivial
 | R :: _,_ :: _,⟨h1,h2⟩=>⟨R.mono x h1,OwnL.mono x h2⟩
theorem OwnL.nc{h:Heap}{G:Nat→Prop} :∀{rs:List Res} {os:List (Nat→Prop)},OwnL h G rs os→∀O∈os,∀b,O b→NC h b
 | [],[],_,_,hO,_,_=>by cases hO
 | R :: _,_ :: _,⟨h1,h2⟩,O,hO,b,hb=>by
  rcases List.mem_cons.1 hO with rfl|hO
  ·exact R.nc h1 b hb
  ·exact OwnL.nc h2 O hO b hb
theorem OwnL.app{h:Heap}{G:Nat→Prop} :∀{r1 r2:List Res} {o1 o2:List (Nat→Prop)},OwnL h G r1 o1→OwnL h G r2 o2→OwnL h G (r1 ++ r2) (o1 ++ o2)
 | [],_,[],_,_,h2=>h2
 | _ :: _,_,_ :: _,_,⟨h1,h3⟩,h2=>⟨h1,h3.app h2⟩
theorem OwnL.split{h:Heap}{G:Nat→Prop} :∀{r1 r2:List Res} {os:List (Nat→Prop)},OwnL h G (r1 ++ r2) os→∃o1 o2,os=o1 ++ o2∧OwnL h G r1 o1∧OwnL h G r2 o2
 | [],r2,os,hr=>⟨[],os,rfl,trivial,hr⟩
 | R :: r1,r2,O :: os,⟨h1,h2⟩=>by
  obtain⟨o1,o2,rfl,h3,h4⟩:=OwnL.split h2
  exact⟨O :: o1,o2,rfl,⟨h1,h3⟩,h4⟩
 | R :: r1,r2,[],h1=>h1.elim

structure AS where
 env:List (Nat×AV)
 own:List Res
def lookA : List (Nat×AV)→Nat→Option AV
 | [],_=>none
 | (k,v) :: r,t=>bif Nat.beq k t then some v else lookA r t
theorem lookA_cons(k:Nat)(v:AV)(r:List (Nat×AV))(t:Nat) : lookA ((k,v) :: r) t=if k=t then some v else lookA r t:=by
 simp only [lookA]
 by_cases h:k=t
 ·subst h;simp
 ·have:Nat.beq k t=false:=beq_of_ne h
  simp [this,h]
def evA(e:List (Nat×AV)) : Operand→Option AV
 | .tmp t=>lookA e t
 | .const v=>some (.val v)
 | .global g=>some (.val (.pointer (some ⟨g,0,none⟩)))
 | .func f=>some (.fn f [])
def evAs(e:List (Nat×AV)) : List Operand→Option (List AV)
 | []=>some []
 | x :: r=>match evA e x,evAs e r with
  | some v,some l=>some (v :: l)
  | _,_=>none

structure Cx where
 P:Program
 tt:Nat→Option TI
 en:Nat→Bool
 ok:PgOK P tt en
 T:Nat→Ord×(Nat→Cls)
 n:Nat
 rs:Array ResultVar
 K:AV→List Res→Prop
 h0:Heap
 G0:Nat→Prop
 O0:Nat→Prop
 fp:Fp
abbrev Cx.at (Γ:Cx) (n:Nat):Cx:=⟨Γ.P,Γ.tt,Γ.en,Γ.ok,Γ.T,Γ.n,Γ.rs,Γ.K,Γ.h0,Γ.G0,Γ.O0,⟨some n⟩⟩
def FpOK(fp:Fp)(h:Heap)(G:Nat→Prop) : Prop:=∀n,fp.n=some n→n≤h.size∧∀b,G b→b < n
theorem FpOK.none{fp:Fp}{h:Heap}{G:Nat→Prop}(hn:fp.n=Option.none) : FpOK fp h G:=fun n h=>by rw [hn] at h;cases h
theorem FpOK.step{fp:Fp}{h h':Heap}{G:Nat→Prop}(x:FpOK fp h G)(hs:h.size≤h'.size) : FpOK fp h' G:=fun n hn=>⟨Nat.le_trans (x n hn).1 hs,(x n hn).2⟩
theorem FpOK.not_mem{fp:Fp}{h:Heap}{G:Nat→Prop}(x:FpOK fp h G){b:Nat}(hb:G b) : b ∉ fp:=by
 obtain⟨n⟩:=fp
 cases n with
 | none=>exact Fp.not_mem_none b
 | some n=>exact fun hm=>by have:=(x n rfl).2 b hb;have:=Fp.mem_some.1 hm;omega

abbrev Apart (os:List (Nat→Prop)):Prop:=os.Pairwise fun A B=>∀b,A b→¬B b

structure HpOK (h0:Heap) (G0 O0:Nat→Prop) (own:List Res) (h:Heap) (G:Nat→Prop) (Os:List (Nat→Prop)):Prop where
 own:OwnL h G own Os
 g:∀b,G b→b < h.size∧(G0 b∨((O0 b∨h0.size≤b)∧NC h b))
 g0:∀b,G0 b→G b
 o:∀O∈Os,∀b,O b→b < h.size∧(O0 b∨h0.size≤b)∧¬G b
 d:Apart Os
 fp:FPx (fun b=>¬O0 b) h0 h
theorem HpOK.shutF{h0:Heap}{G0 O0:Nat→Prop}{own:List Res}{h h2:Heap}{G:Nat→Prop}{Os:List (Nat→Prop)}(c:HpOK h0 G0 O0 own h G Os)(h0g:∀b,G0 b→b < h0.size)(s:Shut h0.size h h2) : FPx G h h2 :=
 ⟨s.size,fun b hb hl=>by
  rcases s.same b hl with h1|⟨h1,o,h3,h4⟩
  ·exact h1
  ·rcases(c.g b hb).2 with h5|⟨_,h5⟩
   ·have:=h0g b h5;omega
   ·rw [h5 o h3] at h4;cases h4⟩
theorem HpOK.shut{h0:Heap}{G0 O0:Nat→Prop}{own:List Res}{h h2:Heap}{G:Nat→Prop}{Os:List (Nat→Prop)}(c:HpOK h0 G0 O0 own h G Os)(h0g:∀b,G0 b→b < h0.size)(s:Shut h0.size h h2) : HpOK h0 G0 O0 own h2 G Os:=by
 have hf:=c.shutF h0g s
 refine⟨OwnL.stp (fun O hO=>⟨s.size,fun b hb hl=>?_⟩) c.own,fun b hb=>⟨Nat.lt_of_lt_of_le (c.g b hb).1 s.size,(c.g b hb).2.imp id fun q=>⟨q.1,q.2.eq (hf.same b hb (c.g b hb).1)⟩⟩,c.g0,fun O hO b hb=>⟨Nat.lt_of_lt_of_le (c.o O hO b hb).1 s.size,(c.o O hO b hb).2⟩,c.d,⟨Nat.le_trans c.fp.size s.size,fun b hb hl=>?_⟩⟩
 ·rcases hb with hb|hb
  ·rcases s.same b hl with h1|⟨_,o,h3,h4⟩
   ·exact h1
   ·rw [c.own.nc O hO b hb o h3] at h4;cases h4
  ·exact hf.same b hb hl
 ·rcases s.same b (Nat.lt_of_lt_of_le hl c.fp.size) with h1|⟨h1,_⟩
  ·exact h1.trans (c.fp.same b hb hl)
  ·omega
structure Con (Γ:Cx) (σ:AS) (env:Env) (h:Heap) (G:Nat→Prop) (Os:List (Nat→Prop)):Prop where
 hp:HpOK Γ.h0 Γ.G0 Γ.O0 σ.own h G Os
 env:∀t a,lookA σ.env t=some a→∃v,look env t=some v∧a.R h G v
 nf:FpOK Γ.fp h G

section
variable {Γ:Cx} {σ:AS} {env:Env} {h:Heap} {G:Nat→Prop} {Os:List (Nat→Prop)}
theorem Con.get(c:Con Γ σ env h G Os){x:Operand}{a:AV}(hx:evA σ.env x=some a) :∃v,ev env x=some v∧a.R h G v:=by
 cases x with
 | tmp t=>exact c.env t a hx
 | const v=>simp only [evA,Option.some.injEq] at hx;subst hx;exact⟨v,rfl,rfl⟩
 | global g=>simp only [evA,Option.some.injEq] at hx;subst hx;exact⟨_,rfl,rfl⟩
 | func f=>simp only [evA,Option.some.injEq] at hx;subst hx;exact⟨_,rfl,[],rfl,trivial⟩
theorem Con.gets(c:Con Γ σ env h G Os) :∀{xs:List Operand} {asx:List AV},evAs σ.env xs=some asx→∃vs,evs env xs=some vs∧RepT h G vs asx
 | [],asx,hx=>by simp only [evAs,Option.some.injEq] at hx;subst hx;exact⟨[],rfl,trivial⟩
 | x :: r,asx,hx=>by
  simp only [evAs] at hx
  split at hx
  ·rename_i a l h1 h2
   simp only [Option.some.injEq] at hx
   subst hx
   obtain⟨v,e1,r1⟩:=c.get h1
   obtain⟨vs,e2,r2⟩:=c.gets h2
   exact⟨v :: vs,by simp [evs,e1,e2],r1,r2⟩
  ·cases hx
theorem Con.put(c:Con Γ σ env h G Os)(d:Nat){a:AV}{v:Value}(hr:a.R h G v) : Con Γ ⟨(d,a) :: σ.env,σ.own⟩ ((d,v) :: env) h G Os:=by
 refine⟨c.hp,fun t b hb=>?_,c.nf⟩
 rw [lookA_cons] at hb
 rw [look_cons]
 by_cases hd:d=t
 ·rw [if_pos hd] at hb ⊢;cases hb;exact⟨v,rfl,hr⟩
 ·rw [if_neg hd] at hb ⊢;exact c.env t b hb

inductive Take:List Res→Res→List Res→Prop where
 | here {R:Res} {l:List Res} : Take (R :: l) R l
 | there {R S:Res} {l l':List Res} : Take l R l'→Take (S :: l) R (S :: l')
theorem Take.own{rs:List Res}{R:Res}{rest:List Res}(t:Take rs R rest) :∀{os:List (Nat→Prop)},OwnL h G rs os→∃O os',R.R h O G∧OwnL h G rest os'∧os.Perm (O :: os'):=by
 induction t with
 | here =>
  intro os ho
  match os,ho with
  | O :: os,⟨h1,h2⟩=>exact⟨O,os,h1,h2,List.Perm.refl _⟩
 | there _ ih =>
  intro os ho
  match os,ho with
  | O :: os,⟨h1,h2⟩ =>
   obtain⟨O',os',h3,h4,h5⟩:=ih h2
   exact⟨O',O :: os',h3,⟨h1,h4⟩,(List.Perm.cons O h5).trans (List.Perm.swap O' O os')⟩
theorem HpOK.perm{h0:Heap}{G0 O0:Nat→Prop}{own own':List Res}{Os':List (Nat→Prop)}(c:HpOK h0 G0 O0 own h G Os)(ho:OwnL h G own' Os')(hp:Os.Perm Os') : HpOK h0 G0 O0 own' h G Os' :=
 ⟨ho,c.g,c.g0,fun O hO=>c.o O (hp.mem_iff.2 hO),(List.Perm.pairwise_iff (fun hab b h1 h2=>hab b h2 h1) hp).1 c.d,c.fp⟩
theorem HpOK.take{h0:Heap}{G0 O0:Nat→Prop}{own:List Res}(c:HpOK h0 G0 O0 own h G Os){R:Res}{rest:List Res}(t:Take own R rest) :∃O Os',HpOK h0 G0 O0 (R :: rest) h G (O :: Os'):=by
 obtain⟨O,os',h1,h2,h3⟩:=t.own c.own
 exact⟨O,os',c.perm ⟨h1,h2⟩ h3⟩
theorem Con.take(c:Con Γ σ env h G Os){R:Res}{rest:List Res}(t:Take σ.own R rest) :∃O Os',Con Γ ⟨σ.env,R :: rest⟩ env h G (O :: Os'):=by
 obtain⟨O,os',h1⟩:=c.hp.take t
 exact⟨O,os',h1,c.env,c.nf⟩
inductive Subl:List Res→List Res→Prop where
 | nil {l:List Res} : Subl l []
 | cons {l rest l':List Res} {R:Res} : Take l R rest→Subl rest l'→Subl l (R :: l')
theorem HpOK.drop{h0:Heap}{G0 O0:Nat→Prop}{R:Res}{rest:List Res}{O:Nat→Prop}(c:HpOK h0 G0 O0 (R :: rest) h G (O :: Os)) : HpOK h0 G0 O0 rest h G Os :=
 ⟨c.own.2,c.g,c.g0,fun O hO=>c.o O (by simp [hO]),(List.pairwise_cons.1 c.d).2,c.fp⟩
theorem HpOK.sub{h0:Heap}{G0 O0:Nat→Prop}{own own':List Res}(s:Subl own own') :∀{Os:List (Nat→Prop)},HpOK h0 G0 O0 own h G Os→∃Os',HpOK h0 G0 O0 own' h G Os'∧∀O∈Os',O∈Os:=by
 induction s with
 | nil=>exact fun c=>⟨[],⟨trivial,c.g,c.g0,fun O hO=>(by cases hO),List.Pairwise.nil,c.fp⟩,fun O hO=>(by cases hO)⟩
 | @cons l rest l' R t _ ih =>
  intro Os c
  obtain⟨O,os',h1,h2,h3⟩:=t.own c.own
  have c1:HpOK h0 G0 O0 (R :: rest) h G (O :: os'):=c.perm ⟨h1,h2⟩ h3
  obtain⟨Os2,c2,hs⟩:=ih c1.drop
  refine⟨O :: Os2,⟨⟨h1,c2.own⟩,c.g,c.g0,fun X hX=>?_,List.pairwise_cons.2 ⟨fun X hX=>(List.pairwise_cons.1 c1.d).1 X (hs X hX),c2.d⟩,c.fp⟩,fun X hX=>?_⟩
  ·rcases List.mem_cons.1 hX with rfl|hX
   ·exact c1.o _ (by simp)
   ·exact c2.o X hX
  ·rcases List.mem_cons.1 hX with rfl|hX
   ·exact h3.mem_iff.2 (by simp)
   ·exact h3.mem_iff.2 (by simp [hs X hX])

theorem HpOK.upd{h0:Heap}{G0 O0:Nat→Prop}{R R':Res}{rest:List Res}{O O':Nat→Prop}{h':Heap}(c:HpOK h0 G0 O0 (R :: rest) h G (O :: Os))(x:FPx (fun b=>¬O b) h h')(hO:∀b,O' b→b < h'.size∧(O b∨h.size≤b))(hr:R'.R h' O' G) :
  HpOK h0 G0 O0 (R' :: rest) h' G (O' :: Os)∧FPx G h h':=by
 have hg:FPx G h h':=x.mono fun b hb ho=>(c.o O (by simp) b ho).2.2 hb
 have hd:=List.pairwise_cons.1 c.d
 have hs:=c.fp.size
 have hs2:=x.size
 have hno:∀X∈Os,∀b,X b→¬O' b:=fun X hX b hb ho=>by
  rcases(hO b ho).2 with h1|h1
  ·exact hd.1 X hX b h1 hb
  ·have:=(c.o X (by simp [hX]) b hb).1;omega
 refine⟨⟨⟨hr,OwnL.stp (fun X hX=>x.mono fun b hb ho=>?_) c.own.2⟩,fun b hb=>⟨Nat.lt_of_lt_of_le (c.g b hb).1 x.size,(c.g b hb).2.imp id fun q=>⟨q.1,q.2.eq (hg.same b hb (c.g b hb).1)⟩⟩,c.g0,fun X hX b hb=>?_,List.pairwise_cons.2 ⟨fun X hX b h1 h2=>hno X hX b h2 h1,hd.2⟩,⟨Nat.le_trans hs hs2,fun b hb hl=>?_⟩⟩,hg⟩
 ·rcases hb with hb|hb
  ·exact hd.1 X hX b ho hb
  ·exact(c.o O (by simp) b ho).2.2 hb
 ·rcases List.mem_cons.1 hX with rfl|hX
  ·obtain⟨h1,h2⟩:=hO b hb
   rcases h2 with h2|h2
   ·have:=c.o O (by simp) b h2;exact⟨h1,this.2⟩
   ·exact⟨h1, .inr (by omega),fun hgb=>by have:=(c.g b hgb).1;omega⟩
  ·have:=c.o X (by simp [hX]) b hb
   exact⟨by omega,this.2⟩
 ·rw [x.same b (fun ho=>?_) (Nat.lt_of_lt_of_le hl hs)]
  ·exact c.fp.same b hb hl
  ·rcases(c.o O (by simp) b ho).2.1 with h1|h1
   ·exact hb h1
   ·omega
theorem Con.upd{R R':Res}{e:List (Nat×AV)}{rest:List Res}{O O':Nat→Prop}{h':Heap}(c:Con Γ ⟨e,R :: rest⟩ env h G (O :: Os))(x:FPx (fun b=>¬O b) h h')(hO:∀b,O' b→b < h'.size∧(O b∨h.size≤b))(hr:R'.R h' O' G) :
  Con Γ ⟨e,R' :: rest⟩ env h' G (O' :: Os):=by
 obtain⟨h1,h2⟩:=c.hp.upd x hO hr
 refine⟨h1,fun t a ha=>?_,c.nf.step x.size⟩
 obtain⟨v,h3,h4⟩:=c.env t a ha
 exact⟨v,h3,a.stp h2 h4⟩
def empR : Res:=⟨fun _ O _=>∀b,¬O b,fun _ h=>h,fun _ h=>h,fun h b hb=>absurd hb (h b)⟩
theorem Con.emp(c:Con Γ σ env h G Os) : Con Γ ⟨σ.env,empR :: σ.own⟩ env h G ((fun _=>False) :: Os) :=
 ⟨⟨⟨fun _ h=>h,c.hp.own⟩,c.hp.g,c.hp.g0,fun O hO b hb=>by
   rcases List.mem_cons.1 hO with rfl|hO
   ·exact hb.elim
   ·exact c.hp.o O hO b hb,List.pairwise_cons.2 ⟨fun _ _ _ h=>h.elim,c.hp.d⟩,c.hp.fp⟩,c.env,c.nf⟩
theorem Con.new(c:Con Γ σ env h G Os){b:Nat}{T:TypeId}{vs:List Value}{h':Heap}(x:New h b T vs h'){R:Res}{O:Nat→Prop}(hO:∀y,O y→y=b)(hr:R.R h' O G) : Con Γ ⟨σ.env,R :: σ.own⟩ env h' G (O :: Os) :=
 c.emp.upd ⟨(x.stp (fp:= [])).size,fun y _ hl=>(x.stp (fp:= [])).same y hl (by simp)⟩ (fun y hy=>by have:=x.size;have:=x.eb;have:=hO y hy;omega) hr
theorem Con.gnew(_:Con Γ σ env h G Os){b:Nat}{T:TypeId}{vs:List Value}{h':Heap}(x:New h b T vs h') : FPx G h h':=⟨(x.stp (fp:= [])).size,fun y _ hl=>(x.stp (fp:= [])).same y hl (by simp)⟩
theorem Con.freeze{R:Res}{e:List (Nat×AV)}{rest:List Res}{O:Nat→Prop}(c:Con Γ ⟨e,R :: rest⟩ env h G (O :: Os))(hfp:Γ.fp.n=none:=by rfl) : Con Γ ⟨e,rest⟩ env h (fun b=>G b∨O b) Os:=by
 have hd:=List.pairwise_cons.1 c.hp.d
 refine⟨⟨c.hp.own.2.mono fun _=> .inl,fun b hb=>?_,fun b hb=> .inl (c.hp.g0 b hb),fun X hX b hb=>?_,hd.2,c.hp.fp⟩,fun t a ha=>?_,FpOK.none hfp⟩
 ·rcases hb with hb|hb
  ·exact c.hp.g b hb
  ·have:=c.hp.o O (by simp) b hb;exact⟨this.1, .inr ⟨this.2.1,R.nc c.hp.own.1 b hb⟩⟩
 ·have:=c.hp.o X (by simp [hX]) b hb
  exact⟨this.1,this.2.1,fun hg=>hg.elim this.2.2 (fun ho=>hd.1 X hX b ho hb)⟩
 ·obtain⟨v,h3,h4⟩:=c.env t a ha
  exact⟨v,h3,a.mono (fun _=> .inl) h4⟩
end

class Sp (g:Prop) (s:outParam Prop):Prop where
 h:s→g
abbrev EA:=List (Nat×AV)
abbrev NA:=EA→List Res→Prop

structure Lk {α:Type} (o:Option α) (k:α→Prop):Prop where
 ok:∃a,o=some a∧k a
theorem Lk.r{α:Type}{o:Option α}{k:α→Prop}{a:α}(h:o=some a)(hk:k a) : Lk o k:=⟨a,h,hk⟩
structure Rf (p k:Prop):Prop where
 p:p
 k:k
structure Om (p k:Prop):Prop where
 p:p
 k:k
structure Ov (i:Int) (M:Int→Prop):Prop where
 h:M (IntKind.i64.wrap i)
theorem Ov.n{i:Int}{M:Int→Prop}(h: -9223372036854775808≤i∧i≤9223372036854775807)(hm:M i) : Ov i M:=⟨by rw [show IntKind.i64.wrap i=i by rw [IntKind.wrap_i64];omega];exact hm⟩
structure Bd (p X Y:Prop):Prop where
 x:p→X
 y:¬p→Y
theorem Bd.t{p X Y:Prop}(h:p)(hx:X) : Bd p X Y:=⟨fun _=>hx,fun hn=>absurd h hn⟩
theorem Bd.f{p X Y:Prop}(h:¬p)(hy:Y) : Bd p X Y:=⟨fun hp=>absurd hp h,fun _=>hy⟩
structure NfK (fp:Fp) (c:Cls) (b:Nat) (k:Prop):Prop where
 h:c= .read→b ∉ fp
 k:k
def isRead : Cls→Bool | .read=>true|_=>false
theorem NfK.nr{fp:Fp}{c:Cls}{b:Nat}{k:Prop}(h:isRead c=false)(hk:k) : NfK fp c b k:=⟨fun e=>(by rw [e] at h;cases h),hk⟩
theorem NfK.lt{n:Nat}{c:Cls}{b:Nat}{k:Prop}(h:b < n)(hk:k) : NfK ⟨some n⟩ c b k:=⟨fun _ hm=>(by have:=Fp.mem_some.1 hm;omega),hk⟩
instance {c:Cls} {b:Nat} {k:Prop} : Sp (NfK ⟨none⟩ c b k) k:=⟨fun h=>⟨fun _=>Fp.not_mem_none b,h⟩⟩
structure NfV (fp:Fp) (c:Cls) (k:Prop):Prop where
 h:c= .read→∀b,b ∉ fp
 k:k
theorem NfV.nr{fp:Fp}{c:Cls}{k:Prop}(h:isRead c=false)(hk:k) : NfV fp c k:=⟨fun e=>(by rw [e] at h;cases h),hk⟩
instance {c:Cls} {k:Prop} : Sp (NfV ⟨none⟩ c k) k:=⟨fun h=>⟨fun _ b=>Fp.not_mem_none b,h⟩⟩
structure Im (p k:Prop):Prop where
 k:p→k

section
variable (Γ:Cx)
def CN(N:NA)(env:Env)(h:Heap) : Prop:=∃e o G Os,N e o∧Con Γ ⟨e,o⟩ env h G Os
def endR(env:Env)(h:Heap) : Prop:=∃v r own G Os,ResOK Γ.P Γ.n Γ.rs env h v∧Γ.K r own∧r.R h G v∧HpOK Γ.h0 Γ.G0 Γ.O0 own h G Os
structure CA (k:List KI) (c:Code) (e:EA) (o:List Res):Prop where
 h:∀env h G Os,Con Γ ⟨e,o⟩ env h G Os→CW Γ.P Γ.n c (PK Γ.P Γ.n (endR Γ) k) env h
structure PA (k:List KI) (x:Exit) (e:EA) (o:List Res):Prop where
 h:∀env h G Os,Con Γ ⟨e,o⟩ env h G Os→PK Γ.P Γ.n (endR Γ) k x env h
structure OA (k:List KI) (ops:Array Oper) (l:List Oper) (e:EA) (o:List Res):Prop where
 h:(l.all fun op=>dOK Γ.n op.dst)=true→∀env h G Os,Con Γ ⟨e,o⟩ env h G Os→OW Γ.P Γ.n ops (PK Γ.P Γ.n (endR Γ) k) l env h
structure RA' (k:List KI) (ops:Array Oper) (cl:Nat→Cls) (t:Ord) (e:EA) (o:List Res):Prop where
 h:(ops.toList.all fun op=>dOK Γ.n op.dst)=true→∀env h G Os,Con Γ ⟨e,o⟩ env h G Os→RW Γ.P Γ.n Γ.fp ops cl (PK Γ.P Γ.n (endR Γ) k) t env h
structure SA (c:Cls) (dst:Option Tmp) (op:Op) (ty:TypeId) (e:EA) (o:List Res) (N:NA):Prop where
 h:∀env h G Os,Con Γ ⟨e,o⟩ env h G Os→St Γ.P Γ.n Γ.fp c dst op ty env h (CN Γ N)
structure Ex (ops:Array Oper) (c:Cls) (op:Oper) (e:EA) (o:List Res) (N:NA):Prop where
 h:∀env h G Os,Con Γ ⟨e,o⟩ env h G Os→(gd ops env op true∧St Γ.P Γ.n Γ.fp c op.dst op.op op.type env h (CN Γ N))∨(gd ops env op false∧CN Γ N (putE env op.dst undef) h)
structure Br (a:AV) (X Y:Prop):Prop where
 h:∀h G v,a.R h G v→∃b,v= .bool b∧(b=true→X)∧(b=false→Y)
end

theorem St.mono{P:Program}{n:Nat}{γ:Type}[Membership Nat γ]{fp:γ}{c:Cls}{dst:Option Tmp}{op:Op}{ty:TypeId}{env:Env}{h:Heap}{N N':Env→Heap→Prop}(s:St P n fp c dst op ty env h N)(hk:∀e h,N e h→N' e h) : St P n fp c dst op ty env h N' :=
  ⟨fun hc=>let ⟨v,h1,h2⟩:=s.pu hc;⟨v,h1,hk _ _ h2⟩,fun hc=>let ⟨v,h1,h2⟩:=s.rd hc;⟨v,h1,hk _ _ h2⟩,
   fun hc=>(s.ex hc).mono fun _ _ h=>⟨h.1,hk _ _ h.2⟩,fun hc=>(s.ld hc).mono fun _ _ h=>hk _ _ h⟩

section
variable {Γ:Cx} {k:List KI} {e:EA} {o:List Res} {ops:Array Oper} {l:List Oper} {cl:Nat→Cls} {N:NA}
theorem CN.mk{env:Env}{h:Heap}{G:Nat→Prop}{Os:List (Nat→Prop)}(c:Con Γ ⟨e,o⟩ env h G Os)(hn:N e o) : CN Γ N env h:=⟨e,o,G,Os,hn,c⟩

/-! ### Branches -/
instance {X Y:Prop} : Sp (Br (.val (.bool true)) X Y) X:=⟨fun hx=>⟨by rintro h G v rfl;exact⟨true,rfl,fun _=>hx,fun h=>by cases h⟩⟩⟩
instance {X Y:Prop} : Sp (Br (.val (.bool false)) X Y) Y:=⟨fun hx=>⟨by rintro h G v rfl;exact⟨false,rfl,fun h=>(by cases h),fun _=>hx⟩⟩⟩
instance (priority:=900) {p X Y:Prop} [Decidable p]:Sp (Br (.val (.bool (decide p))) X Y) (Bd p X Y):=⟨fun hx=>⟨by rintro h G v rfl;exact⟨decide p,rfl,fun h=>hx.x (of_decide_eq_true h),fun h=>hx.y (of_decide_eq_false h)⟩⟩⟩
instance {α:Type} {i j:α} {X Y:Prop} [DecidableEq α]:Sp (Br (.val (.bool (decide (i≠j)))) X Y) (Bd (i=j) Y X):=⟨fun hx=>⟨by rintro h G v rfl;exact⟨decide (i≠j),rfl,fun h=>hx.y (of_decide_eq_true h),fun h=>hx.x (Decidable.not_not.1 (of_decide_eq_false h))⟩⟩⟩
instance (priority:=800) {b:Bool} {X Y:Prop} : Sp (Br (.val (.bool b)) X Y) (Bd (b=true) X Y):=⟨fun hx=>⟨by rintro h G v rfl;exact⟨b,rfl,fun h=>hx.x h,fun h=>hx.y (by simp [h])⟩⟩⟩
instance {b:Bool} {X Y:Prop} : Sp (Br (.val (.bool (!b))) X Y) (Bd (b=true) Y X):=⟨fun hx=>⟨by rintro h G v rfl;exact⟨!b,rfl,fun h=>hx.y (by simpa using h),fun h=>hx.x (by simpa using h)⟩⟩⟩

/-! ### Control -/
instance {x y:Code} : Sp (CA Γ k (.seq x y) e o) (CA Γ (.code y :: k) x e o):=⟨fun h=>⟨fun env hp G Os c=>CW.seq (h.h env hp G Os c)⟩⟩
instance : Sp (CA Γ k .skip e o) (PA Γ k .normal e o):=⟨fun h=>⟨fun env hp G Os c=>CW.skip (h.h env hp G Os c)⟩⟩
instance : Sp (CA Γ k .ret e o) (PA Γ k .ret e o):=⟨fun h=>⟨fun env hp G Os c=>CW.ret (h.h env hp G Os c)⟩⟩
instance {i:Nat} : Sp (CA Γ k (.exit i) e o) (PA Γ k (.exit i) e o):=⟨fun h=>⟨fun env hp G Os c=>CW.exit (h.h env hp G Os c)⟩⟩
instance {i:Nat} {x:Code} : Sp (CA Γ k (.block i x) e o) (CA Γ (.blk i :: k) x e o):=⟨fun h=>⟨fun env hp G Os c=>CW.block (h.h env hp G Os c)⟩⟩
instance {x:Operand} {c1 c2:Code} : Sp (CA Γ k (.cond x c1 c2) e o) (Lk (evA e x) fun a=>Br a (CA Γ k c1 e o) (CA Γ k c2 e o)):=⟨fun⟨a,ha,hb⟩=>⟨fun env hp G Os c=>by
 obtain⟨v,h1,h2⟩:=c.get ha
 obtain⟨b,rfl,h3,h4⟩:=hb.h hp G v h2
 exact CW.cond h1 (fun h=>(h3 h).h env hp G Os c) (fun h=>(h4 h).h env hp G Os c)⟩⟩
instance {i:Nat} : Sp (CA Γ k (.region i l.toArray false) e o) (Rf ((l.all fun op=>dOK Γ.n op.dst)=true) (OA Γ k l.toArray l e o)):=⟨fun h=>⟨fun env hp G Os c=>CW.region (h.k.h h.p env hp G Os c)⟩⟩
inductive ON:Ord→Ord→Prop where
 | done:ON .done .done
 | none:ON .none .none
 | one {i:Nat} {r r':Ord} : ON r r'→ON (.one i r) (.one i r')
 | alt {i:Nat} {r r' m m':Ord} : ON r r'→ON m m'→ON (.alt i r m) (.alt i r' m')
theorem ON.eq :∀{a b:Ord},ON a b→a=b
 | _,_, .done=>rfl
 | _,_, .none=>rfl
 | _,_, .one h=>by rw [h.eq]
 | _,_, .alt h h'=>by rw [h.eq,h'.eq]
theorem CA.draw{i:Nat}{t:Ord}(_hx:isLoud ((Γ.T i).2 ops.size)=true)(hn:Region.noSelect ops=true)(hc:chk ops (Γ.T i).2 (Γ.T i).1 ops.size true (Array.replicate ops.size false)=true)(ho:ON (Γ.T i).1 t)(hd:(ops.toList.all fun op=>dOK Γ.n op.dst)=true)(h:RA' Γ k ops (Γ.T i).2 t e o) : CA Γ k (.region i ops true) e o :=
 ⟨fun env hp G Os c=>CW.region_draw Γ.fp Γ.T Γ.ok.mix hn hc (ho.eq▸h.h hd env hp G Os c)⟩
instance {y:Code} : Sp (PA Γ (.code y :: k) .normal e o) (CA Γ k y e o):=⟨fun h=>⟨fun env hp G Os c=>PK.code_normal (h.h env hp G Os c)⟩⟩
instance {i:Nat} : Sp (PA Γ (.blk i :: k) .normal e o) (PA Γ k .normal e o):=⟨fun h=>⟨fun env hp G Os c=>PK.blk_normal (h.h env hp G Os c)⟩⟩
instance {y:Code} : Sp (PA Γ (.code y :: k) .ret e o) (PA Γ k .ret e o):=⟨fun h=>⟨fun env hp G Os c=>PK.code_ret (h.h env hp G Os c)⟩⟩
instance {i:Nat} : Sp (PA Γ (.blk i :: k) .ret e o) (PA Γ k .ret e o):=⟨fun h=>⟨fun env hp G Os c=>PK.blk_ret (h.h env hp G Os c)⟩⟩
instance {I:Env→Heap→Prop} : Sp (PA Γ (.lp I :: k) .ret e o) (PA Γ k .ret e o):=⟨fun h=>⟨fun env hp G Os c=>PK.lp_ret (h.h env hp G Os c)⟩⟩
instance {y:Code} {i:Nat} : Sp (PA Γ (.code y :: k) (.exit i) e o) (PA Γ k (.exit i) e o):=⟨fun h=>⟨fun env hp G Os c=>PK.code_exit (h.h env hp G Os c)⟩⟩
instance {I:Env→Heap→Prop} {i:Nat} : Sp (PA Γ (.lp I :: k) (.exit i) e o) (PA Γ k (.exit i) e o):=⟨fun h=>⟨fun env hp G Os c=>PK.lp_exit (h.h env hp G Os c)⟩⟩
instance {i:Nat} : Sp (PA Γ (.blk i :: k) (.exit i) e o) (PA Γ k .normal e o):=⟨fun h=>⟨fun env hp G Os c=>PK.blk_exit (h.h env hp G Os c)⟩⟩
instance (priority:=900) {i j:Nat} : Sp (PA Γ (.blk j :: k) (.exit i) e o) (Rf (Nat.beq i j=false) (PA Γ k (.exit i) e o)):=⟨fun h=>⟨fun env hp G Os c=>PK.blk_exit_ne h.p (h.k.h env hp G Os c)⟩⟩

/-! ### Operations one by one -/
instance : Sp (OA Γ k ops [] e o) (PA Γ k .normal e o):=⟨fun h=>⟨fun _ env hp G Os c=>OW.nil (h.h env hp G Os c)⟩⟩
theorem OA.cons{op:Oper}(h:Ex Γ ops .loud op e o (OA Γ k ops l)) : OA Γ k ops (op :: l) e o:=⟨fun hd env hp G Os c=>by
 simp only [List.all_cons,Bool.and_eq_true] at hd
 rcases h.h env hp G Os c with⟨h1,h2⟩|⟨h1,h2⟩
 ·exact OW.step h1 hd.1 (h2.mono fun e' h' ⟨a,b,G',Os',hn,hc⟩=>hn.h hd.2 _ _ _ _ hc)
 ·obtain⟨a,b,G',Os',hn,hc⟩:=h2
  exact OW.pass h1 hd.1 (hn.h hd.2 _ _ _ _ hc)⟩
instance (priority:=800) {op:Oper} : Sp (OA Γ k ops (op :: l) e o) (Ex Γ ops .loud op e o (OA Γ k ops l)):=⟨OA.cons⟩
instance : Sp (RA' Γ k ops cl .done e o) (PA Γ k .normal e o):=⟨fun h=>⟨fun _ env hp G Os c=>RW.done (h.h env hp G Os c)⟩⟩
theorem CA.drawF{i:Nat}{t:Ord}(_hx:isLoud ((Γ.T i).2 ops.size)=false)(hn:Region.noSelect ops=true)(hc:chk ops (Γ.T i).2 (Γ.T i).1 ops.size true (Array.replicate ops.size false)=true)(ho:ON (Γ.T i).1 t)(hd:(ops.toList.all fun op=>dOK Γ.n op.dst)=true)
  (h:∀n,(∀b T cs rest,Take o (blkR b T cs) rest→b < n)→RA' (Γ.at n) k ops (Γ.T i).2 t e o):CA Γ k (.region i ops true) e o :=
 ⟨fun env hp G Os c=>by
  refine CW.region_draw (⟨some hp.size⟩:Fp) Γ.T Γ.ok.mix hn hc (ho.eq▸(h hp.size fun b T cs rest tk=>?_).h hd env hp G Os ⟨c.hp,c.env,fun n hn=>?_⟩)
  ·obtain⟨O,Os',c2⟩:=c.take tk
   obtain⟨_,vs,hb,_⟩:=c2.hp.own.1
   exact hb.lt
  ·cases hn
   exact⟨Nat.le_refl _,fun b hb=>(c.hp.g b hb).1⟩⟩
instance (priority:=1100) {P:Program} {tt:Nat→Option TI} {en:Nat→Bool} {ok:PgOK P tt en} {T:Nat→Ord×(Nat→Cls)} {m:Nat} {rs:Array ResultVar} {K:AV→List Res→Prop} {h0:Heap} {G0 O0:Nat→Prop} {n:Nat} :
  Sp (RA' ⟨P,tt,en,ok,T,m,rs,K,h0,G0,O0,⟨some n⟩⟩ k ops cl .done e o) (PA ⟨P,tt,en,ok,T,m,rs,K,h0,G0,O0,⟨none⟩⟩ k .normal e o):=⟨fun h=>⟨fun _ env hp G Os c=>RW.done (h.h env hp G Os ⟨c.hp,c.env,FpOK.none rfl⟩)⟩⟩
instance : Sp (RA' Γ k ops cl .none e o) True:=⟨fun _=>⟨fun _ _ _ _ _ _=>RW.none⟩⟩
structure OpK (x:Option Oper) (M:Option Tmp→Op→TypeId→String→Array Edge→Option (Nat×Bool)→Prop):Prop where
 ok:∃dst op ty pos after guard,x=some ⟨dst,op,ty,pos,after,guard⟩∧M dst op ty pos after guard
theorem OpK.r{x:Option Oper}{M:Option Tmp→Op→TypeId→String→Array Edge→Option (Nat×Bool)→Prop}{dst:Option Tmp}{op:Op}{ty:TypeId}{pos:String}{after:Array Edge}{guard:Option (Nat×Bool)}(h:x=some ⟨dst,op,ty,pos,after,guard⟩)(hm:M dst op ty pos after guard) : OpK x M:=⟨_,_,_,_,_,_,h,hm⟩
instance {i:Nat} {r:Ord} : Sp (RA' Γ k ops cl (.one i r) e o) (OpK ops[i]? fun dst op ty pos after guard=>Ex Γ ops (cl i) ⟨dst,op,ty,pos,after,guard⟩ e o (RA' Γ k ops cl r)):=⟨fun⟨dst,op,ty,pos,after,guard,ho,h⟩=>⟨fun hd env hp G Os c=>by
 have hd1:dOK Γ.n dst=true:=by
  have h1:=List.all_eq_true.1 hd _ (Array.mem_toList_iff.2 (Array.mem_of_getElem? ho))
  exact h1
 rcases h.h env hp G Os c with⟨h1,h2⟩|⟨h1,h2⟩
 ·exact RW.step ho h1 hd1 (h2.mono fun e' h' ⟨a,b,G',Os',hn,hc⟩=>hn.h hd _ _ _ _ hc)
 ·obtain⟨a,b,G',Os',hn,hc⟩:=h2
  exact RW.pass ho h1 hd1 (hn.h hd _ _ _ _ hc)⟩⟩
instance {i:Nat} {ri m:Ord} : Sp (RA' Γ k ops cl (.alt i ri m) e o) (RA' Γ k ops cl (.one i ri) e o∧RA' Γ k ops cl m e o):=⟨fun h=>⟨fun hd env hp G Os c=>RW.alt (h.1.h hd env hp G Os c) (h.2.h hd env hp G Os c)⟩⟩
theorem RA'.both{r s:Ord}(h1:RA' Γ k ops cl r e o)(h2:RA' Γ k ops cl s e o) : RA' Γ k ops cl r e o∧RA' Γ k ops cl s e o:=⟨h1,h2⟩
variable {c:Cls} {d:Tmp} {dst:Option Tmp} {op:Op} {ty:TypeId} {pos:String} {after:Array Edge} {j:Nat} {want:Bool}
instance : Sp (Ex Γ ops c ⟨dst,op,ty,pos,after,none⟩ e o N) (SA Γ c dst op ty e o N):=⟨fun h=>⟨fun env hp G Os c=> .inl ⟨gd_none rfl,h.h env hp G Os c⟩⟩⟩
structure Gd (a:AV) (want:Bool) (X Y:Prop):Prop where
 h:∀h G v,a.R h G v→(∃b,v= .bool b∧(b=want→X)∧(b=(!want)→Y))∨(v=undef∧Y)
instance {a:AV} {X Y s:Prop} [hs:Sp (Br a X Y) s]:Sp (Gd a true X Y) s:=⟨fun h=>⟨fun hp G v hv=> .inl ((hs.h h).h hp G v hv)⟩⟩
instance {a:AV} {X Y s:Prop} [hs:Sp (Br a Y X) s]:Sp (Gd a false X Y) s:=⟨fun h=>⟨fun hp G v hv=> .inl (let ⟨b,h1,h2,h3⟩:=(hs.h h).h hp G v hv;⟨b,h1,h3,h2⟩)⟩⟩
instance (priority:=1100) {X Y:Prop} : Sp (Gd (.val undef) want X Y) Y:=⟨fun h=>⟨by rintro hp G v rfl;exact .inr ⟨rfl,h⟩⟩⟩
instance : Sp (Ex Γ ops c ⟨some d,op,ty,pos,after,some (j,want)⟩ e o N) (Lk ((ops[j]?).bind (·.dst)) fun q=>Lk (lookA e q) fun a=>Gd a want (SA Γ c (some d) op ty e o N) (N ((d, .val undef) :: e) o)):=⟨fun⟨q,hq,a,ha,h⟩=>⟨fun env hp G Os c=>by
 obtain⟨v,h1,h2⟩:=c.env q a ha
 rcases h.h hp G v h2 with⟨b,rfl,hx,hy⟩|⟨rfl,hy⟩
 ·by_cases hb:b=want
  ·exact .inl ⟨gd_yes rfl hq h1 hb,(hx hb).h env hp G Os c⟩
  ·have hb':b= !want:=by cases b <;> cases want <;> simp_all
   exact .inr ⟨gd_no rfl hq h1 hb',CN.mk (c.put d rfl) (hy hb')⟩
 ·exact .inr ⟨gd_undef rfl hq h1,CN.mk (c.put d rfl) hy⟩⟩⟩
instance : Sp (OA Γ k ops (⟨dst,op,ty,pos,after,none⟩ :: l) e o) (SA Γ .loud dst op ty e o (OA Γ k ops l)):=⟨fun h=>OA.cons (Sp.h h)⟩
/-! ### The operations that touch no memory -/
structure Ap1 (Γ:Cx) (c:Cls) (d:Tmp) (op:Op) (ty:TypeId) (e:EA) (o:List Res) (N:NA) (x:Operand) (a:AV):Prop where
 h:evA e x=some a→SA Γ c (some d) op ty e o N
structure Ap2 (Γ:Cx) (c:Cls) (d:Tmp) (op:Op) (ty:TypeId) (e:EA) (o:List Res) (N:NA) (x:Operand) (a:AV) (y:Operand) (b:AV):Prop where
 h:evA e x=some a→evA e y=some b→SA Γ c (some d) op ty e o N
variable {x y z:Operand} {t u:TypeId}
theorem pu1{a:AV}(f:∀env h G v,ev env x=some v→a.R h G v→∃r w,r.R h G w∧N ((d,r) :: e) o∧∀N':Env→Heap→Prop,N' ((d,w) :: env) h→St Γ.P Γ.n Γ.fp c (some d) op ty env h N') : Ap1 Γ c d op ty e o N x a :=
 ⟨fun ha=>⟨fun env h G Os c=>by
  obtain⟨v,h1,h2⟩:=c.get ha
  obtain⟨r,w,h3,h4,h5⟩:=f env h G v h1 h2
  exact h5 _ (CN.mk (c.put d h3) h4)⟩⟩
theorem pu2{a b:AV}(f:∀env h G v w,ev env x=some v→ev env y=some w→a.R h G v→b.R h G w→∃r s,r.R h G s∧N ((d,r) :: e) o∧∀N':Env→Heap→Prop,N' ((d,s) :: env) h→St Γ.P Γ.n Γ.fp c (some d) op ty env h N') : Ap2 Γ c d op ty e o N x a y b :=
 ⟨fun ha hb=>⟨fun env h G Os c=>by
  obtain⟨v,h1,h2⟩:=c.get ha
  obtain⟨w,h1',h2'⟩:=c.get hb
  obtain⟨r,s,h3,h4,h5⟩:=f env h G v w h1 h1' h2 h2'
  exact h5 _ (CN.mk (c.put d h3) h4)⟩⟩
theorem puv1{v:Value}{s:AV}{w:Value}(hs:∀h G,s.R h G w)(hn:N ((d,s) :: e) o)(f:∀env h (N':Env→Heap→Prop),ev env x=some v→N' ((d,w) :: env) h→St Γ.P Γ.n Γ.fp c (some d) op ty env h N') : Ap1 Γ c d op ty e o N x (.val v) :=
 pu1 fun env h G u h1 h2=>⟨s,w,hs h G,hn,fun N' hk=>f env h N' (by rw [h1];exact congrArg some h2) hk⟩
theorem puv2{v v' w:Value}(hn:N ((d, .val w) :: e) o)(f:∀env h (N':Env→Heap→Prop),ev env x=some v→ev env y=some v'→N' ((d,w) :: env) h→St Γ.P Γ.n Γ.fp c (some d) op ty env h N') : Ap2 Γ c d op ty e o N x (.val v) y (.val v') :=
 pu2 fun env h G u u' h1 h1' h2 h2'=>⟨.val w,w,rfl,hn,fun N' hk=>f env h N' (by rw [h1];exact congrArg some h2) (by rw [h1'];exact congrArg some h2') hk⟩

instance : Sp (SA Γ c (some d) (.move x) ty e o N) (Lk (evA e x) fun a=>N ((d,a) :: e) o):=⟨fun⟨a,ha,h⟩=>⟨fun env hp G Os c=>by
 obtain⟨v,h1,h2⟩:=c.get ha
 exact St.move h1 (CN.mk (c.put d h2) h)⟩⟩
instance : Sp (SA Γ c (some d) (.assign x) ty e o N) (Lk (evA e x) fun a=>N ((d,a) :: e) o):=⟨fun⟨a,ha,h⟩=>⟨fun env hp G Os c=>by
 obtain⟨v,h1,h2⟩:=c.get ha
 exact St.assign h1 (CN.mk (c.put d h2) h)⟩⟩
instance : Sp (OA Γ k ops (⟨some d, .move x,ty,pos,after,none⟩ :: l) e o) (Lk (evA e x) fun a=>OA Γ k ops l ((d,a) :: e) o):=⟨fun h=>OA.cons (Sp.h (Sp.h h))⟩
instance : Sp (OA Γ k ops (⟨some d, .assign x,ty,pos,after,none⟩ :: l) e o) (Lk (evA e x) fun a=>OA Γ k ops l ((d,a) :: e) o):=⟨fun h=>OA.cons (Sp.h (Sp.h h))⟩
instance : Sp (Ex Γ ops c ⟨some d, .move x,ty,pos,after,none⟩ e o N) (Lk (evA e x) fun a=>N ((d,a) :: e) o):=⟨fun h=>Sp.h (Sp.h h)⟩
instance : Sp (SA Γ c (some d) (.pick x y z) ty e o N) (Lk (evA e x) fun q=>Br q (Lk (evA e y) fun a=>N ((d,a) :: e) o) (Lk (evA e z) fun a=>N ((d,a) :: e) o)):=⟨fun⟨q,hq,h⟩=>⟨fun env hp G Os c=>by
 obtain⟨v,h1,h2⟩:=c.get hq
 obtain⟨b,rfl,h3,h4⟩:=h.h hp G v h2
 cases b with
 | true =>
  obtain⟨a,ha,hn⟩:=h3 rfl
  obtain⟨v,g1,g2⟩:=c.get ha
  exact St.pick_true h1 rfl g1 (CN.mk (c.put d g2) hn)
 | false =>
  obtain⟨a,ha,hn⟩:=h4 rfl
  obtain⟨v,g1,g2⟩:=c.get ha
  exact St.pick_false h1 rfl g1 (CN.mk (c.put d g2) hn)⟩⟩
instance : Sp (SA Γ c (some d) (.nilCheck x) ty e o N) (Lk (evA e x) fun a=>Ap1 Γ c d (.nilCheck x) ty e o N x a):=⟨fun⟨_,ha,h⟩=>h.h ha⟩
instance {p:Addr} : Sp (Ap1 Γ c d (.nilCheck x) ty e o N x (.val (.pointer (some p)))) (N ((d, .val (.pointer (some p))) :: e) o):=⟨fun hn=>puv1 (w:= .pointer (some p)) (fun _ _=>rfl) hn fun _ _ _ h k=>St.nilCheck h k⟩
instance {cs:List AV} {i:Nat} : Sp (Ap1 Γ c d (.nilCheck x) ty e o N x (.ad cs i)) (N ((d, .ad cs i) :: e) o):=⟨fun hn=>pu1 fun env h G v h1 h2=>by
 have h2':=h2
 obtain⟨b,of,vs,rfl,_⟩:=h2'
 exact⟨.ad cs i,_,h2,hn,fun _ k=>St.nilCheck h1 k⟩⟩
instance {q:UnOp} : Sp (SA Γ c (some d) (.unOp q t x) ty e o N) (Lk (evA e x) fun a=>Ap1 Γ c d (.unOp q t x) ty e o N x a):=⟨fun⟨_,ha,h⟩=>h.h ha⟩
instance {p:Prop} [Decidable p]:Sp (Ap1 Γ c d (.unOp .not t x) ty e o N x (.val (.bool (decide p)))) (N ((d, .val (.bool (decide (¬p)))) :: e) o):=⟨fun hn=>puv1 (fun _ _=>rfl) hn fun _ _ _ h k=>St.not_dec h k⟩
instance (priority:=900) {b:Bool} : Sp (Ap1 Γ c d (.unOp .not t x) ty e o N x (.val (.bool b))) (N ((d, .val (.bool (!b))) :: e) o):=⟨fun hn=>puv1 (fun _ _=>rfl) hn fun _ _ _ h k=>St.not h k⟩
instance {i:Nat} : Sp (SA Γ c (some d) (.extract x i) ty e o N) (Lk (evA e x) fun a=>Ap1 Γ c d (.extract x i) ty e o N x a):=⟨fun⟨_,ha,h⟩=>h.h ha⟩
instance {i:Nat} {cs:List AV} : Sp (Ap1 Γ c d (.extract x i) ty e o N x (.tup cs)) (Lk cs[i]? fun a=>N ((d,a) :: e) o):=⟨fun⟨a,ha,hn⟩=>pu1 fun env h G v h1 h2=>by
 obtain⟨vs,rfl,hr⟩:=h2
 obtain⟨w,h3,h4⟩:=hr.get ha
 exact⟨a,w,h4,hn,fun _ k=>St.extract h1 h3 k⟩⟩
instance {q:BinOp} : Sp (SA Γ c (some d) (.binOp q t x y u) ty e o N) (Lk (evA e x) fun a=>Lk (evA e y) fun b=>Ap2 Γ c d (.binOp q t x y u) ty e o N x a y b):=⟨fun⟨_,ha,_,hb,h⟩=>h.h ha hb⟩
section ints
variable {kk:IntKind} {i j:Int}
instance : Sp (Ap2 Γ c d (.binOp .add t x y u) ty e o N x (.val (.int .i64 i)) y (.val (.int .i64 j))) (Ov (i+j) fun r=>N ((d, .val (.int .i64 r)) :: e) o):=⟨fun hn=>puv2 hn.h fun _ _ _ h h' k=>St.addW h h' k⟩
instance : Sp (Ap2 Γ c d (.binOp .sub t x y u) ty e o N x (.val (.int .i64 i)) y (.val (.int .i64 j))) (Ov (i - j) fun r=>N ((d, .val (.int .i64 r)) :: e) o):=⟨fun hn=>puv2 hn.h fun _ _ _ h h' k=>St.subW h h' k⟩
instance : Sp (Ap2 Γ c d (.binOp .mul t x y u) ty e o N x (.val (.int .i64 i)) y (.val (.int .i64 j))) (Om (-9223372036854775808≤i * j∧i * j≤9223372036854775807) (N ((d, .val (.int .i64 (i * j))) :: e) o)):=⟨fun hn=>puv2 hn.k fun _ _ _ h h' k=>St.mul h h' hn.p k⟩
instance : Sp (Ap2 Γ c d (.binOp .rem t x y u) ty e o N x (.val (.int kk i)) y (.val (.int kk j))) (Om (0 < j∧0≤i) (N ((d, .val (.int kk (i % j))) :: e) o)):=⟨fun hn=>puv2 hn.k fun _ _ _ h h' k=>St.remP h h' hn.p.1 hn.p.2 k⟩
instance : Sp (Ap2 Γ c d (.binOp .eql t x y u) ty e o N x (.val (.int kk i)) y (.val (.int kk j))) (N ((d, .val (.bool (decide (i=j)))) :: e) o):=⟨fun hn=>puv2 hn fun _ _ _ h h' k=>St.eql h h' k⟩
instance : Sp (Ap2 Γ c d (.binOp .neq t x y u) ty e o N x (.val (.int kk i)) y (.val (.int kk j))) (N ((d, .val (.bool (decide (¬i=j)))) :: e) o):=⟨fun hn=>puv2 hn fun _ _ _ h h' k=>St.neq h h' k⟩
instance : Sp (Ap2 Γ c d (.binOp .lss t x y u) ty e o N x (.val (.int kk i)) y (.val (.int kk j))) (N ((d, .val (.bool (decide (i < j)))) :: e) o):=⟨fun hn=>puv2 hn fun _ _ _ h h' k=>St.lss h h' k⟩
instance : Sp (Ap2 Γ c d (.binOp .leq t x y u) ty e o N x (.val (.int kk i)) y (.val (.int kk j))) (N ((d, .val (.bool (decide (i≤j)))) :: e) o):=⟨fun hn=>puv2 hn fun _ _ _ h h' k=>St.leq h h' k⟩
instance : Sp (Ap2 Γ c d (.binOp .gtr t x y u) ty e o N x (.val (.int kk i)) y (.val (.int kk j))) (N ((d, .val (.bool (decide (j < i)))) :: e) o):=⟨fun hn=>puv2 hn fun _ _ _ h h' k=>St.gtr h h' k⟩
instance : Sp (Ap2 Γ c d (.binOp .geq t x y u) ty e o N x (.val (.int kk i)) y (.val (.int kk j))) (N ((d, .val (.bool (decide (j≤i)))) :: e) o):=⟨fun hn=>puv2 hn fun _ _ _ h h' k=>St.geq h h' k⟩
instance {a b:Bool} : Sp (Ap2 Γ c d (.binOp .eql t x y u) ty e o N x (.val (.bool a)) y (.val (.bool b))) (Lk (Γ.tt t) fun ti=>Rf (ti.kind= .bool) (N ((d, .val (.bool (decide (a=b)))) :: e) o)):=⟨fun⟨_,h1,hn⟩=>puv2 hn.k fun _ _ _ h h' k=>St.beql Γ.ok h1 hn.p h h' k⟩
instance {a:Option Addr} : Sp (Ap2 Γ c d (.binOp .eql t x y u) ty e o N x (.val (.pointer a)) y (.val (.pointer none))) (Lk (Γ.tt t) fun ti=>Lk (match ti.kind with | .ptr e=>some e|_=>none) fun q=>Rf (ti.kind= .ptr q) (N ((d, .val (.bool a.isNone)) :: e) o)):=⟨fun⟨_,h1,_,_,hn⟩=>puv2 hn.k fun _ _ _ h h' k=>St.eql_pnil Γ.ok h1 hn.p h h' k⟩
instance {w:TypeId} : Sp (SA Γ c (some d) (.convert t w x) ty e o N) (Lk (evA e x) fun a=>Ap1 Γ c d (.convert t w x) ty e o N x a):=⟨fun⟨_,ha,h⟩=>h.h ha⟩
variable {tys:Array TypeId}
instance : Sp (SA Γ c (some d) (.call { callee:= .builtin .min,args:=#[x,y],argTypes:=tys }) ty e o N) (Lk (evA e x) fun a=>Lk (evA e y) fun b=>Ap2 Γ c d (.call { callee:= .builtin .min,args:=#[x,y],argTypes:=tys }) ty e o N x a y b):=⟨fun⟨_,ha,_,hb,h⟩=>h.h ha hb⟩
instance : Sp (SA Γ c (some d) (.call { callee:= .builtin .max,args:=#[x,y],argTypes:=tys }) ty e o N) (Lk (evA e x) fun a=>Lk (evA e y) fun b=>Ap2 Γ c d (.call { callee:= .builtin .max,args:=#[x,y],argTypes:=tys }) ty e o N x a y b):=⟨fun⟨_,ha,_,hb,h⟩=>h.h ha hb⟩
instance : Sp (Ap2 Γ c d (.call { callee:= .builtin .min,args:=#[x,y],argTypes:=tys }) ty e o N x (.val (.int kk i)) y (.val (.int kk j))) (N ((d, .val (.int kk (min i j))) :: e) o):=⟨fun hn=>puv2 hn fun _ _ _ h h' k=>St.imin h h' k⟩
instance : Sp (Ap2 Γ c d (.call { callee:= .builtin .max,args:=#[x,y],argTypes:=tys }) ty e o N x (.val (.int kk i)) y (.val (.int kk j))) (N ((d, .val (.int kk (max i j))) :: e) o):=⟨fun hn=>puv2 hn fun _ _ _ h h' k=>St.imax h h' k⟩
end ints
instance {f:FuncId} {f2:Array Operand} : Sp (SA Γ c (some d) (.makeFunc (.func f) #[] f2) ty e o N) (Lk (evAs e f2.toList) fun cs=>N ((d, .fn f cs) :: e) o):=⟨fun⟨cs,hcs,hn⟩=>⟨fun env hp G Os c=>by
 obtain⟨vs,h1,h2⟩:=c.gets hcs
 exact St.makeFunc (l1:= []) rfl h1 (CN.mk (c.put d (a:= .fn f cs) ⟨vs,rfl,h2⟩) hn)⟩⟩
end

/-! ### What the table of types says -/
def slE(tt:Nat→Option TI)(t:Nat) : Option (Nat×TI):=match tt t with
 | some ti=>match ti.kind with
  | .slice e=>match tt e with
   | some te=>some (e,te)
   | none=>none
  | _=>none
 | none=>none
theorem slE_spec{tt:Nat→Option TI}{t:Nat}{p:Nat×TI}(h:slE tt t=some p) :∃ti,tt t=some ti∧ti.kind= .slice p.1∧tt p.1=some p.2:=by
 unfold slE at h
 split at h
 ·rename_i ti h1
  split at h
  ·rename_i e h2
   split at h
   ·rename_i te h3
    cases h
    exact⟨ti,h1,h2,h3⟩
   ·cases h
  ·cases h
 ·cases h
def fldO(tt:Nat→Option TI)(t i:Nat) : Option Nat:=match tt t with
 | some ti=>match ti.kind with
  | .struct fs=>match fs[i]? with
   | some (off,_,_+1)=>some off
   | _=>none
  | _=>none
 | none=>none
theorem fldO_spec{tt:Nat→Option TI}{t i off:Nat}(h:fldO tt t i=some off) :∃ti fs ft sz,tt t=some ti∧ti.kind= .struct fs∧fs[i]?=some (off,ft,sz+1):=by
 unfold fldO at h
 split at h
 ·rename_i ti h1
  split at h
  ·rename_i fs h2
   split at h
   ·rename_i off' ft sz h3
    cases h
    exact⟨ti,fs,ft,sz,h1,h2,h3⟩
   ·cases h
  ·cases h
 ·cases h
def ldK(tt:Nat→Option TI)(t:Nat) : Option (Option Nat):=match tt t with
 | some ti=>match ti.kind with
  | .struct _=>some (some ti.size)
  | .array _ _=>none
  | .other=>none
  | _=>some none
 | none=>none
theorem ldK_none{tt:Nat→Option TI}{t:Nat}(h:ldK tt t=some none) :∃ti,tt t=some ti∧ti.kind.agg=false:=by
 unfold ldK at h
 split at h
 ·rename_i ti h1
  refine⟨ti,h1, ?_⟩
  split at h
  ·cases h
  ·cases h
  ·cases h
  ·rename_i h2 h3 h4
   cases hk:ti.kind <;> simp_all [TK.agg]
 ·cases h
theorem ldK_some{tt:Nat→Option TI}{t n:Nat}(h:ldK tt t=some (some n)) :∃ti fs,tt t=some ti∧ti.kind= .struct fs∧ti.size=n:=by
 unfold ldK at h
 split at h
 ·rename_i ti h1
  split at h
  ·rename_i fs h2;cases h;exact⟨ti,fs,h1,h2,rfl⟩
  ·cases h
  ·cases h
  ·cases h
 ·cases h
def zrA(tt:Nat→Option TI)(t:Nat) : Option (List Value):=match tt t with
 | some ti=>some ti.zero.cells.toList
 | none=>none
inductive LN {α:Type} : List α→List α→Prop where
 | nil:LN [] []
 | cons {a:α} {l l':List α} : LN l l'→LN (a :: l) (a :: l')
theorem LN.eq{α:Type} :∀{l l':List α},LN l l'→l=l'
 | _,_, .nil=>rfl
 | _,_, .cons h=>by rw [h.eq]
structure Nm {α:Type} (l:List α) (k:List α→Prop):Prop where
 ok:k l
theorem Nm.r{α:Type}{l l':List α}{k:List α→Prop}(h:LN l l')(hk:k l') : Nm l k:=⟨h.eq▸hk⟩
structure Ix {α:Type} (l:List α) (i:Int) (k:Nat→α→Prop):Prop where
 ok:∃(j:Nat) (x:α),l[j]?=some x∧i=(j:Int)∧k j x
theorem Ix.r{α:Type}{l:List α}{i:Int}{k:Nat→α→Prop}{j:Nat}{x:α}(h:l[j]?=some x)(hi:i=(j:Int))(hk:k j x) : Ix l i k:=⟨j,x,h,hi,hk⟩
theorem Ix.q{α:Type}{l:List α}{i:Int}{k:Nat→α→Prop}{j:Nat}{x:α}(hi:i=(j:Int))(h:l[j]?=some x)(hk:k j x) : Ix l i k:=⟨j,x,h,hi,hk⟩
structure At {α:Type} (l:List α) (j:Nat) (k:α→Prop):Prop where
 ok:∃x:α,l[j]?=some x∧k x
theorem At.r{α:Type}{l:List α}{k:α→Prop}{j:Nat}{x:α}(h:l[j]?=some x)(hk:k x) : At l j k:=⟨x,h,hk⟩
structure Jx (i:Int) (n:Nat) (k:Nat→Prop):Prop where
 ok:∃j:Nat,i=(j:Int)∧j≤n∧k j
theorem Jx.r{i:Int}{n:Nat}{k:Nat→Prop}{j:Nat}(h:i=(j:Int))(hl:j≤n)(hk:k j) : Jx i n k:=⟨j,h,hl,hk⟩
structure TkB (o:List Res) (b:Nat) (k:TypeId→List AV→List Res→Prop):Prop where
 ok:∃T cs rest,Take o (blkR b T cs) rest∧k T cs rest
theorem TkB.r{o rest:List Res}{b:Nat}{k:TypeId→List AV→List Res→Prop}{T:TypeId}{cs:List AV}(h:Take o (blkR b T cs) rest)(hk:k T cs rest) : TkB o b k:=⟨T,cs,rest,h,hk⟩
structure TkA (o:List Res) (v:Value) (k:∀{α:Type},TypeId→Nat→List α→(α→List AV)→List Res→Prop):Prop where
 ok:∃(α:Type) (T:TypeId) (sz:Nat) (l:List α) (f:α→List AV) (rest:List Res),Take o (arrR v T sz l f) rest∧k T sz l f rest
theorem TkA.r{α:Type}{o rest:List Res}{v:Value}{k:∀{α:Type},TypeId→Nat→List α→(α→List AV)→List Res→Prop}{T:TypeId}{sz:Nat}{l:List α}{f:α→List AV}(h:Take o (arrR v T sz l f) rest)(hk:k T sz l f rest) : TkA o v k:=⟨α,T,sz,l,f,rest,h,hk⟩
structure All {α:Type} (k:α→Prop):Prop where
 ok:∀x,k x
structure Ch (p X Y:Prop):Prop where
 ok:(p∧X)∨Y
theorem Ch.l{p X Y:Prop}(h:p)(x:X) : Ch p X Y:=⟨.inl ⟨h,x⟩⟩
theorem Ch.r{p X Y:Prop}(y:Y) : Ch p X Y:=⟨.inr y⟩
class OneA (a:AV):Prop where
 h:∀h G v,a.R h G v→v.oneCell'=true
instance {k:IntKind} {i:Int} : OneA (.val (.int k i)):=⟨by rintro h G v rfl;rfl⟩
instance {b:Bool} : OneA (.val (.bool b)):=⟨by rintro h G v rfl;rfl⟩
instance {p:Option Addr} : OneA (.val (.pointer p)):=⟨by rintro h G v rfl;rfl⟩
instance {p:Option Addr} {l c:Nat} : OneA (.val (.slice p l c)):=⟨by rintro h G v rfl;rfl⟩
instance {v:Value} : OneA (.ow v):=⟨by rintro h G u ⟨rfl,p,l,c,rfl⟩;rfl⟩
instance {α:Type} {sz:Nat} {l:List α} {f:α→List AV} : OneA (.sl sz l f):=⟨by rintro h G u ⟨_,⟨_,p,c,rfl⟩|⟨b,o,cap,rows,rfl,_⟩⟩ <;> rfl⟩
section
variable {Γ:Cx} {k:List KI} {e:EA} {o:List Res} {N:NA} {c:Cls} {d:Tmp} {ty:TypeId} {x y z:Operand} {t u:TypeId} {kk:IntKind} {i:Int}

theorem AV.sl_stp{α:Type}{sz:Nat}{l:List α}{f:α→List AV}{h:Heap}{G:Nat→Prop}{v:Value}(hr:(AV.sl sz l f).R h G v) :∃rows,Sl h v l.length rows.flatten∧Rows h G sz rows l f∧l.length≤9223372036854775807:=by
 obtain⟨hm,⟨rfl,p,cap,rfl⟩|⟨b,of,cap,rows,rfl,h1,h2,h3,h4,h5,h6⟩⟩:=hr
 ·exact⟨[],⟨.inl ⟨p,cap,rfl,rfl,rfl⟩⟩,Rows.nil,hm⟩
 ·exact⟨rows,⟨.inr ⟨b,of,cap,rfl,h1,h2,h4,h5⟩⟩,h6,hm⟩
/-! ### Lengths -/
instance : Sp (SA Γ c (some d) (.call { callee:= .builtin .len,args:=#[x],argTypes:=#[t] }) ty e o N) (Lk (evA e x) fun a=>Ap1 Γ c d (.call { callee:= .builtin .len,args:=#[x],argTypes:=#[t] }) ty e o N x a):=⟨fun⟨_,ha,h⟩=>h.h ha⟩
instance {α:Type} {sz:Nat} {l:List α} {f:α→List AV} : Sp (Ap1 Γ c d (.call { callee:= .builtin .len,args:=#[x],argTypes:=#[t] }) ty e o N x (.sl sz l f)) (Lk (slE Γ.tt t) fun _=>Im (l.length≤9223372036854775807) (N ((d, .val (.int .i64 (l.length:Int))) :: e) o)):=⟨fun⟨p,hp,hn⟩=>⟨fun ha=>⟨fun env hh G Os cn=>by
 obtain⟨v,h1,h2⟩:=cn.get ha
 obtain⟨rows,hs,_,hm⟩:=AV.sl_stp h2
 obtain⟨q,cap,rfl⟩:=hs.shape
 obtain⟨ti,t1,t2,t3⟩:=slE_spec hp
 exact St.len Γ.ok t1 t2 h1 (CN.mk (cn.put d (a:= .val _) rfl) (hn.k hm))⟩⟩⟩
instance {v:Value} : Sp (Ap1 Γ c d (.call { callee:= .builtin .len,args:=#[x],argTypes:=#[t] }) ty e o N x (.ow v)) (Lk (slE Γ.tt t) fun _=>TkA o v fun _ _ l _ _=>N ((d, .val (.int .i64 (l.length:Int))) :: e) o):=⟨fun⟨p,hp,α,T,sz,l,f,rest,tk,hn⟩=>⟨fun ha=>⟨fun env hh G Os cn=>by
 obtain⟨w,h1,rfl,h2⟩:=cn.get ha
 obtain⟨O,Os',cn2⟩:=cn.take tk
 obtain⟨⟨_,rows,hw,_⟩,_⟩:=cn2.hp.own
 obtain⟨q,cap,rfl⟩:=hw.sl.shape
 obtain⟨ti,t1,t2,t3⟩:=slE_spec hp
 exact St.len Γ.ok t1 t2 h1 (CN.mk (cn.put d (a:= .val _) rfl) hn)⟩⟩⟩

/-! ### Addresses -/
instance {i:Nat} : Sp (SA Γ c (some d) (.fieldAddr t x i) ty e o N) (Lk (evA e x) fun a=>Lk (fldO Γ.tt t i) fun q=>Ap2 Γ c d (.fieldAddr t x i) ty e o N x a (.const (.int .i64 q)) (.val (.int .i64 q))):=⟨fun⟨_,ha,_,_,h⟩=>h.h ha rfl⟩
instance {i b k q:Nat} : Sp (Ap2 Γ c d (.fieldAddr t x i) ty e o N x (.val (.pointer (some ⟨b,k,none⟩))) y (.val (.int .i64 (Nat.cast q)))) (Rf (fldO Γ.tt t i=some q) (N ((d, .val (.pointer (some ⟨b,k+q,none⟩))) :: e) o)):=⟨fun hn=>puv2 hn.k fun _ _ _ h _ k=>by
 obtain⟨ti,fs,ft,sz,t1,t2,t3⟩:=fldO_spec hn.p
 exact St.fieldAddr Γ.ok t1 t2 t3 h k⟩
instance {i k q:Nat} {cs:List AV} : Sp (Ap2 Γ c d (.fieldAddr t x i) ty e o N x (.ad cs k) y (.val (.int .i64 (Nat.cast q)))) (Rf (fldO Γ.tt t i=some q) (N ((d, .ad cs (k+q)) :: e) o)):=⟨fun hn=>pu2 fun env h G v w h1 _ h2 _=>by
 obtain⟨ti,fs,ft,sz,t1,t2,t3⟩:=fldO_spec hn.p
 obtain⟨b,of,vs,rfl,hr⟩:=h2
 exact⟨.ad cs (k+q), .pointer (some ⟨b,of+(k+q),none⟩),⟨b,of,vs,rfl,hr⟩,hn.k,fun _ hk=>St.fieldAddr Γ.ok t1 t2 t3 h1 (by rw [Nat.add_assoc];exact hk)⟩⟩
instance {i q s j r:Nat} {v:Value} : Sp (Ap2 Γ c d (.fieldAddr t x i) ty e o N x (.oe v s j r) y (.val (.int .i64 (Nat.cast q)))) (Rf (fldO Γ.tt t i=some q) (N ((d, .oe v s j (r+q)) :: e) o)):=⟨fun hn=>pu2 fun env h G v' w h1 _ h2 _=>by
 obtain⟨ti,fs,ft,sz,t1,t2,t3⟩:=fldO_spec hn.p
 obtain⟨b,of,len,cap,rfl,rfl⟩:=h2
 exact⟨.oe _ s j (r+q), .pointer (some ⟨b,of+j * s+(r+q),none⟩),⟨b,of,len,cap,rfl,rfl⟩,hn.k,fun _ hk=>St.fieldAddr Γ.ok t1 t2 t3 h1 (by rw [Nat.add_assoc (of+j * s)];exact hk)⟩⟩
instance : Sp (SA Γ c (some d) (.indexAddr t x y) ty e o N) (Lk (evA e x) fun a=>Lk (evA e y) fun b=>Ap2 Γ c d (.indexAddr t x y) ty e o N x a y b):=⟨fun⟨_,ha,_,hb,h⟩=>h.h ha hb⟩
theorem rows_at_cels{h:Heap}{G:Nat→Prop}{α:Type}{sz b of:Nat}{rows:List (List Value)}{l:List α}{f:α→List AV}(hc:Cels h ⟨b,of,none⟩ rows.flatten)(hr:Rows h G sz rows l f){j:Nat}{x:α}(hj:l[j]?=some x) :∃row,RepL h G row (f x)∧row.length=sz∧Cels h ⟨b,of+j * sz,none⟩ row:=by
 obtain⟨row,h1,h2,h3⟩:=hr.at hj
 refine⟨row,h2,h3,⟨fun i v hv=>?_⟩⟩
 have:=hc.cell (rows_flat rows j i row v (fun r hm=>hr.sz r hm) h1 hv)
 rw [addr_add,show of+j * sz+i=of+(j * sz+i) by omega]
 exact this
instance {α:Type} {sz:Nat} {l:List α} {f:α→List AV} : Sp (Ap2 Γ c d (.indexAddr t x y) ty e o N x (.sl sz l f) y (.val (.int kk i))) (Lk (slE Γ.tt t) fun p=>Rf (p.2.size=sz) (Ix l i fun _ a=>N ((d, .ad (f a) 0) :: e) o)):=⟨fun⟨p,hp,hz,j,a,hj,hi,hn⟩=>pu2 fun env h G v w h1 h1' h2 h2'=>by
 obtain⟨ti,t1,t2,t3⟩:=slE_spec hp
 have hw:w= .int kk i:=h2'
 subst hw
 have hlt:=(zS.1 hj).1
 obtain⟨_,⟨rfl,_⟩|⟨b,of,cap,rows,rfl,g1,g2,g3,g4,g5,g6⟩⟩:=h2
 ·simp at hlt
 obtain⟨row,k1,k2,k3⟩:=rows_at_cels g5 g6 hj
 exact⟨.ad (f a) 0, .pointer (some ⟨b,of+j * sz,none⟩),⟨b,of+j * sz,row,rfl,g3,g4,k3,k1⟩,hn,fun _ hk=>St.indexAddr Γ.ok t1 t2 t3 h1 h1' hi hlt (by rw [hz];exact hk)⟩⟩
instance {v:Value} : Sp (Ap2 Γ c d (.indexAddr t x y) ty e o N x (.ow v) y (.val (.int kk i))) (Lk (slE Γ.tt t) fun p=>TkA o v fun _ sz l _ _=>Rf (p.2.size=sz) (Ix l i fun j _=>N ((d, .oe v sz j 0) :: e) o)):=⟨fun⟨p,hp,α,T,sz,l,f,rest,tk,hz,j,a,hj,hi,hn⟩=>⟨fun ha hb=>⟨fun env hh G Os cn=>by
 obtain⟨w,h1,rfl,h2⟩:=cn.get ha
 obtain⟨w',h1',h2'⟩:=cn.get hb
 have hw:w'= .int kk i:=h2'
 subst hw
 obtain⟨O,Os',cn2⟩:=cn.take tk
 obtain⟨⟨_,rows,hw,_⟩,_⟩:=cn2.hp.own
 obtain⟨ti,t1,t2,t3⟩:=slE_spec hp
 have hlt:=(zS.1 hj).1
 rcases hw.ok with⟨_,h0⟩|⟨b,of,cap,L,rfl,_,_,_,_⟩
 ·omega
 ·exact St.indexAddr Γ.ok t1 t2 t3 h1 h1' hi hlt (CN.mk (cn.put d (a:= .oe _ sz j 0) ⟨b,of,_,cap,rfl,by rw [hz];rfl⟩) hn)⟩⟩⟩

/-! ### Loading -/
structure LdX (m:Option Nat) (cs:List AV) (k:Nat) (N:AV→Prop):Prop where
 ok:match m with
  | none=>∃a,cs[k]?=some a∧N a
  | some n=>N (.agg ((cs.drop k).take n))∧k+n≤cs.length
instance {cs:List AV} {k:Nat} {M:AV→Prop} : Sp (LdX none cs k M) (Lk cs[k]? fun a=>M a):=⟨fun⟨a,h1,h2⟩=>⟨a,h1,h2⟩⟩
instance {n k:Nat} {cs:List AV} {M:AV→Prop} : Sp (LdX (some n) cs k M) (Rf (Nat.ble (k+n) cs.length=true) (Ch (k=0∧n=cs.length) (M (.agg cs)) (M (.agg ((cs.drop k).take n))))):=⟨fun⟨h0,h⟩=>⟨⟨by
 rcases h.ok with⟨⟨h1,h2⟩,g⟩|g
 ·rw [h1,h2,List.drop_zero,zL];exact g
 ·exact g,zB h0⟩⟩⟩
structure Ldp (Γ:Cx) (c:Cls) (d:Tmp) (t:TypeId) (x:Operand) (ty:TypeId) (e:EA) (o:List Res) (N:NA) (a:AV) (m:Option Nat):Prop where
 h:evA e x=some a→ldK Γ.tt t=some m→notPure c=true→SA Γ c (some d) (.load t x) ty e o N
instance : Sp (SA Γ c (some d) (.load t x) ty e o N) (Rf (notPure c=true) (Lk (evA e x) fun a=>Lk (ldK Γ.tt t) fun m=>Ldp Γ c d t x ty e o N a m)):=⟨fun⟨h1,_,ha,_,hm,h⟩=>h.h ha hm h1⟩
theorem St.unread{P:Program}{n:Nat}{fp:Fp}{c:Cls}{dst:Option Tmp}{op:Op}{ty:TypeId}{env:Env}{h:Heap}{N:Env→Heap→Prop}{b:Nat}(hc:notPure c=true)
  (hs:∀{γ:Type} [Membership Nat γ] {fp:γ} {c:Cls},notPure c=true→b ∉ fp→St P n fp c dst op ty env h N) (hb:c= .read→b ∉ fp):St P n fp c dst op ty env h N:=by
 have h0:=fun {c:Cls} (hc:notPure c=true)=>hs (fp:=([]:List Nat)) (c:=c) hc List.not_mem_nil
 refine⟨fun h'=>(by rw [h'] at hc;cases hc),fun h'=>(hs hc (hb h')).rd h',fun h'=>((h0 (c:= .ext) rfl).ex rfl).mono fun v h'' hk=>⟨hk.1.nil,hk.2⟩,fun h'=>(h0 (c:= .loud) rfl).ld rfl⟩
theorem load_at{m:Option Nat}{env:Env}{hh:Heap}{G:Nat→Prop}{Os:List (Nat→Prop)}{b of k:Nat}{vs:List Value}{cs:List AV}(ht:ldK Γ.tt t=some m)(hc:notPure c=true)(h1:ev env x=some (.pointer (some ⟨b,of+k,none⟩)))(hcs:Cels hh ⟨b,of,none⟩ vs)(hr:RepL hh G vs cs)(hx:LdX m cs k fun r=>N ((d,r) :: e) o)(cn:Con Γ ⟨e,o⟩ env hh G Os)(hnf:c= .read→b ∉ Γ.fp) :
  St Γ.P Γ.n Γ.fp c (some d) (.load t x) ty env hh (CN Γ N):=by
 cases m with
 | none =>
  obtain⟨ti,t1,t2⟩:=ldK_none ht
  obtain⟨a,g1,g2⟩:=hx.ok
  obtain⟨v,g3,g4⟩:=hr.t.get g1
  exact St.unread hc (fun hc hb=>St.load Γ.ok t1 t2 h1 (hcs.cell g3) hb hc (CN.mk (cn.put d g4) g2)) hnf
 | some n =>
  obtain⟨ti,fs,t1,t2,t3⟩:=ldK_some ht
  obtain⟨g1,g2⟩:=hx.ok
  have hl:=hr.t.len
  refine St.unread hc (fun hc hb=>?_) hnf
  refine St.loadS Γ.ok t1 t2 h1 (l:=(vs.drop k).take n) ⟨fun j v hv=>?_⟩ hb (by rw [t3];simp;omega) hc (CN.mk (cn.put d (a:= .agg ((cs.drop k).take n)) ⟨_,rfl,(hr.t.drop k).take n,fun u hu=>hr.one u (List.mem_of_mem_drop (zW hu))⟩) g1)
  rw [List.getElem?_take] at hv
  split at hv
  ·rw [List.getElem?_drop] at hv
   have:=hcs.cell hv
   rw [addr_add,show of+k+j=of+(k+j) by omega]
   exact this
  ·cases hv
instance {m:Option Nat} {cs:List AV} {k:Nat} : Sp (Ldp Γ c d t x ty e o N (.ad cs k) m) (LdX m cs k fun r=>N ((d,r) :: e) o):=⟨fun hn=>⟨fun ha hm hc=>⟨fun env hh G Os cn=>by
 obtain⟨v,h1,b,of,vs,rfl,g1,g2,g3,g4⟩:=cn.get ha
 exact load_at hm hc h1 g3 g4 hn cn fun _=>cn.nf.not_mem g1⟩⟩⟩
instance {m:Option Nat} {b k:Nat} : Sp (Ldp Γ c d t x ty e o N (.val (.pointer (some ⟨b,k,none⟩))) m) (TkB o b fun _ cs _=>NfK Γ.fp c b (LdX m cs k fun r=>N ((d,r) :: e) o)):=⟨fun⟨T,cs,rest,tk,hnf,hn⟩=>⟨fun ha hm hc=>⟨fun env hh G Os cn=>by
 obtain⟨v,h1,rfl⟩:=cn.get ha
 obtain⟨O,Os',cn2⟩:=cn.take tk
 obtain⟨⟨_,vs,hb,hr⟩,_⟩:=cn2.hp.own
 exact load_at (of:=0) hm hc (by rw [Nat.zero_add];exact h1) hb.cels0 hr hn cn hnf⟩⟩⟩
instance {m:Option Nat} {v:Value} {s j r:Nat} : Sp (Ldp Γ c d t x ty e o N (.oe v s j r) m) (TkA o v fun _ sz l f _=>Rf (s=sz) (At l j fun a=>NfV Γ.fp c (LdX m (f a) r fun q=>N ((d,q) :: e) o))):=⟨fun⟨α,T,sz,l,f,rest,tk,hs,a,hj,hnf,hn⟩=>⟨fun ha hm hc=>⟨fun env hh G Os cn=>by
 obtain⟨w,h1,b,of,len,cap,rfl,rfl⟩:=cn.get ha
 subst hs
 obtain⟨O,Os',cn2⟩:=cn.take tk
 obtain⟨⟨_,rows,hw,hrr⟩,_⟩:=cn2.hp.own
 rcases hw.sl.ok with⟨p,cap',e1,e2,_⟩|⟨b',of',cap',e1,_,_,_,hcs⟩
 ·have:=(zS.1 hj).1;omega
 ·cases e1
  obtain⟨row,k1,k2,k3⟩:=rows_at_cels hcs hrr hj
  exact load_at hm hc h1 k3 k1 hn cn fun h=>hnf h _⟩⟩⟩

/-! ### Storing -/
inductive SetA:List AV→Nat→AV→List AV→Prop where
 | z {x v:AV} {r:List AV} : SetA (x :: r) 0 v (v :: r)
 | s {x v:AV} {r r':List AV} {k:Nat} : SetA r k v r'→SetA (x :: r) (k+1) v (x :: r')
theorem SetA.eq :∀{l:List AV} {k:Nat} {v:AV} {l':List AV},SetA l k v l'→l'=l.set k v∧k < l.length
 | _,_,_,_, .z=>by simp
 | _,_,_,_, .s hs=>by obtain⟨h1,h2⟩:=hs.eq;exact⟨by rw [h1];rfl,by simp;omega⟩
inductive SetAs:List AV→Nat→List AV→List AV→Prop where
 | z {l:List AV} {k:Nat} : SetAs l k [] l
 | c {l l1 l2 r:List AV} {k:Nat} {v:AV} : SetA l k v l1→SetAs l1 (k+1) r l2→SetAs l k (v :: r) l2
theorem setL_mk :∀{l:List Value} {k:Nat} {v:Value},k < l.length→SetL l k v (l.set k v)
 | _ :: _,0,_,_=> .z
 | _ :: l,k+1,_,h=> .s (setL_mk (l:=l) (by simpa using h))
theorem SetA.rep{h:Heap}{G:Nat→Prop}{cs cs':List AV}{k:Nat}{a:AV}{vs:List Value}{v:Value}(s:SetA cs k a cs')(hr:RepL h G vs cs)(ha:a.R h G v)(h1:v.oneCell'=true) :∃vs',SetL vs k v vs'∧RepL h G vs' cs':=by
 obtain⟨rfl,hk⟩:=s.eq
 have:=hr.t.len
 refine⟨vs.set k v,setL_mk (by omega),hr.t.set k ha,fun u hu=>?_⟩
 rcases List.mem_or_eq_of_mem_set hu with h2|rfl
 ·exact hr.one u h2
 ·exact h1
theorem SetAs.rep{h:Heap}{G:Nat→Prop} :∀{cs cs' asx:List AV} {k:Nat} {vs us:List Value},SetAs cs k asx cs'→RepL h G vs cs→RepL h G us asx→∃vs',SetR vs k us vs'∧RepL h G vs' cs'
 | _,_,_,_,vs,us, .z,hr,hu=>by
  match us,hu.t with
  | [],_=>exact⟨vs, .z,hr⟩
 | _,_,_,_,vs,us, .c h1 h2,hr,hu=>by
  match us,hu with
  | u :: us,⟨⟨g1,g2⟩,g3⟩ =>
   obtain⟨vs1,k1,k2⟩:=h1.rep hr g1 (g3 u (by simp))
   obtain⟨vs2,k3,k4⟩:=h2.rep k2 ⟨g2,fun w hw=>g3 w (by simp [hw])⟩
   exact⟨vs2, .c k1 k3,k4⟩
structure SetAk (l:List AV) (k:Nat) (v:AV) (M:List AV→Prop):Prop where
 ok:∃l',SetA l k v l'∧M l'
theorem SetAk.r{l:List AV}{k:Nat}{v:AV}{M:List AV→Prop}{l':List AV}(h:SetA l k v l')(hm:M l') : SetAk l k v M:=⟨l',h,hm⟩
structure SetAsk (l:List AV) (k:Nat) (m:List AV) (M:List AV→Prop):Prop where
 ok:∃l',SetAs l k m l'∧M l'
theorem SetAsk.r{l:List AV}{k:Nat}{m:List AV}{M:List AV→Prop}{l':List AV}(h:SetAs l k m l')(hm:M l') : SetAsk l k m M:=⟨l',h,hm⟩
structure Up {α:Type} (f:α→List AV) (cs:List AV) (k:α→Prop):Prop where
 ok:∃x,f x=cs∧k x
theorem Up.r{α:Type}{f:α→List AV}{cs:List AV}{k:α→Prop}{x:α}(h:f x=cs)(hk:k x) : Up f cs k:=⟨x,h,hk⟩
class Inv {α:Type} (f:α→List AV) (cs:List AV) (x:outParam α):Prop where
 eq:f x=cs
theorem Up.inv{α:Type}{f:α→List AV}{cs cs':List AV}{k:α→Prop}{x:α}(hl:LN cs cs')(h:Inv f cs' x)(hk:k x) : Up f cs k:=⟨x,h.eq.trans hl.eq.symm,hk⟩
structure StX (tt:Nat→Option TI) (t:TypeId) (a:AV) (cs:List AV) (k:Nat) (M:List AV→Prop):Prop where
 ok:∃ti cs',tt t=some ti∧M cs'∧((ti.size=1∧(∀h G v,a.R h G v→v.oneCell'=true)∧SetA cs k a cs')∨∃asx,a= .agg asx∧ti.size=asx.length∧asx≠ []∧SetAs cs k asx cs')
instance {tt:Nat→Option TI} {a:AV} {cs:List AV} {k:Nat} {M:List AV→Prop} [OneA a]:Sp (StX tt t a cs k M) (Lk (tt t) fun ti=>Rf (ti.size=1) (SetAk cs k a M)):=⟨fun⟨ti,h1,h2,l,h3,h4⟩=>⟨ti,l,h1,h4, .inl ⟨h2,OneA.h,h3⟩⟩⟩
instance {tt:Nat→Option TI} {asx cs:List AV} {k:Nat} {M:List AV→Prop} : Sp (StX tt t (.agg asx) cs k M) (Lk (tt t) fun ti=>Rf (Nat.beq ti.size asx.length && Nat.blt 0 asx.length) (SetAsk cs k asx M)):=⟨fun⟨ti,h1,h2,l,h3,h4⟩=>⟨ti,l,h1,h4, .inr ⟨asx,rfl,by simp at h2;exact h2.1,fun h=>by subst h;simp at h2,h3⟩⟩⟩
structure Stp' (Γ:Cx) (c:Cls) (t:TypeId) (x y:Operand) (ty:TypeId) (e:EA) (o:List Res) (N:NA) (a b:AV):Prop where
 h:evA e x=some a→evA e y=some b→isLoud c=true→SA Γ c none (.store t x y) ty e o N
instance : Sp (SA Γ c none (.store t x y) ty e o N) (Rf (isLoud c=true) (Lk (evA e x) fun a=>Lk (evA e y) fun b=>Stp' Γ c t x y ty e o N a b)):=⟨fun⟨h1,_,ha,_,hb,h⟩=>h.h ha hb h1⟩
theorem store_at{env:Env}{hh:Heap}{G:Nat→Prop}{b k:Nat}{T:TypeId}{vs:List Value}{cs:List AV}{a:AV}{v:Value}{M:List AV→Prop}{N':Env→Heap→Prop}(hc:isLoud c=true∨acts c=true∧b∈Γ.fp)(h1:ev env x=some (.pointer (some ⟨b,k,none⟩)))(h2:ev env y=some v)(ha:a.R hh G v)(hb:Blk hh b T vs){pre post us:List Value}(hv:vs=pre ++ us ++ post){k':Nat}(hk:k=pre.length+k')(hr:RepL hh G us cs)
  (hx:StX Γ.tt t a cs k' M) (hn:∀us' cs' h',Upd hh b T (pre ++ us' ++ post) h'→RepL hh G us' cs'→us'.length=us.length→M cs'→N' env h'):St Γ.P Γ.n Γ.fp c none (.store t x y) ty env hh N':=by
 subst hk
 have setL_app:∀{us us':List Value} {i:Nat} {w:Value} (post:List Value),SetL us i w us'→SetL (us ++ post) i w (us' ++ post):=by
  intro us us' i w post hs
  induction hs with
  | z=>exact .z
  | s _ ih=>exact .s ih
 have setL_pre:∀{us us':List Value} {i:Nat} {w:Value} (pre:List Value),SetL us i w us'→SetL (pre ++ us) (pre.length+i) w (pre ++ us'):=by
  intro us us' i w pre hs
  induction pre with
  | nil=>simpa using hs
  | cons q pre ih=>rw [List.length_cons,show pre.length+1+i=pre.length+i+1 by omega];exact .s ih
 have setR_all:∀{us us':List Value} {i:Nat} {m:List Value} (pre post:List Value),SetR us i m us'→SetR (pre ++ us ++ post) (pre.length+i) m (pre ++ us' ++ post):=by
  intro us us' i m pre post hs
  induction hs with
  | z=>exact .z
  | c g1 _ ih=>exact .c (setL_app post (setL_pre pre g1)) (by rw [Nat.add_assoc];exact ih)
 obtain⟨ti,cs',t1,hm,⟨t2,t3,t4⟩|⟨asx,rfl,t2,t3,t4⟩⟩:=hx.ok
 ·obtain⟨us',g1,g2⟩:=t4.rep hr ha (t3 _ _ _ ha)
  exact St.store Γ.ok t1 t2 h1 h2 (t3 _ _ _ ha) (hv▸hb) (setL_app post (setL_pre pre g1)) hc fun h' hu _=>hn us' cs' h' hu g2 (by rw [g1.eq.1];simp) hm
 ·obtain⟨ws,rfl,hws⟩:=ha
  obtain⟨us',g1,g2⟩:=t4.rep hr hws
  have hl:=hws.t.len
  have hne:ws≠ []:=fun h=>by subst h;exact t3 (zQ (by simpa using hl.symm))
  exact St.storeS Γ.ok t1 h1 h2 (by rw [t2,hl]) hne hws.one (hv▸hb) (setR_all pre post g1) hc fun h' hu _=>hn us' cs' h' hu g2 (g1.bound hne).2 hm
instance {b k:Nat} {a:AV} : Sp (Stp' Γ c t x y ty e o N (.val (.pointer (some ⟨b,k,none⟩))) a) (TkB o b fun T cs rest=>StX Γ.tt t a cs k fun cs'=>N e (blkR b T cs' :: rest)):=⟨fun⟨T,cs,rest,tk,hn⟩=>⟨fun ha hb hc=>⟨fun env hh G Os cn=>by
 obtain⟨v,h1,rfl⟩:=cn.get ha
 obtain⟨w,h2,h3⟩:=cn.get hb
 obtain⟨O,Os',cn2⟩:=cn.take tk
 obtain⟨⟨ho,vs,hbk,hr⟩,_⟩:=cn2.hp.own
 refine store_at (.inl hc) h1 h2 h3 hbk (pre:= []) (post:= []) (us:=vs) (by simp) (by simp) hr hn fun us' cs' h' hu hr' _ hm=>?_
 rw [List.nil_append,List.append_nil] at hu
 have hst:=hu.stp
 have hx:FPx (fun y=>¬O y) hh h':=⟨hst.size,fun y hy hl=>hst.same y hl (fun hm=>hy ((ho y).2 (by simpa using hm)))⟩
 have hg:FPx G hh h':=hx.mono fun y hy hoy=>(cn2.hp.o O (by simp) y hoy).2.2 hy
 exact CN.mk (cn2.upd (R':=blkR b T cs') (O':=O) hx (fun y hy=>⟨Nat.lt_of_lt_of_le (cn2.hp.o O (by simp) y hy).1 hst.size, .inl hy⟩) ⟨ho,us',hu.blk,hr'.stp hg⟩) hm⟩⟩⟩
structure StF (Γ:Cx) (c:Cls) (n:Nat) (t:TypeId) (x y:Operand) (ty:TypeId) (e:EA) (o:List Res) (N:NA) (a b:AV):Prop where
 h:evA e x=some a→evA e y=some b→acts c=true→(∀q,n≤q→q∈Γ.fp)→SA Γ c none (.store t x y) ty e o N
instance (priority:=1100) {P:Program} {tt:Nat→Option TI} {en:Nat→Bool} {ok:PgOK P tt en} {T:Nat→Ord×(Nat→Cls)} {m:Nat} {rs:Array ResultVar} {K:AV→List Res→Prop} {h0:Heap} {G0 O0:Nat→Prop} {n:Nat} :
  Sp (SA ⟨P,tt,en,ok,T,m,rs,K,h0,G0,O0,⟨some n⟩⟩ c none (.store t x y) ty e o N) (Rf (acts c=true) (Lk (evA e x) fun a=>Lk (evA e y) fun b=>StF ⟨P,tt,en,ok,T,m,rs,K,h0,G0,O0,⟨some n⟩⟩ c n t x y ty e o N a b)):=⟨fun⟨h1,_,ha,_,hb,h⟩=>h.h ha hb h1 fun _ hq=>Fp.mem_some.2 hq⟩
instance {b k n:Nat} {a:AV} : Sp (StF Γ c n t x y ty e o N (.val (.pointer (some ⟨b,k,none⟩))) a) (TkB o b fun T cs rest=>Om (n≤b) (StX Γ.tt t a cs k fun cs'=>N e (blkR b T cs' :: rest))):=⟨fun⟨T,cs,rest,tk,hnb,hn⟩=>⟨fun ha hb hc hq=>⟨fun env hh G Os cn=>by
 obtain⟨v,h1,rfl⟩:=cn.get ha
 obtain⟨w,h2,h3⟩:=cn.get hb
 obtain⟨O,Os',cn2⟩:=cn.take tk
 obtain⟨⟨ho,vs,hbk,hr⟩,_⟩:=cn2.hp.own
 refine store_at (.inr ⟨hc,hq b hnb⟩) h1 h2 h3 hbk (pre:= []) (post:= []) (us:=vs) (by simp) (by simp) hr hn fun us' cs' h' hu hr' _ hm=>?_
 rw [List.nil_append,List.append_nil] at hu
 have hst:=hu.stp
 have hx:FPx (fun y=>¬O y) hh h':=⟨hst.size,fun y hy hl=>hst.same y hl (fun hm=>hy ((ho y).2 (by simpa using hm)))⟩
 have hg:FPx G hh h':=hx.mono fun y hy hoy=>(cn2.hp.o O (by simp) y hoy).2.2 hy
 exact CN.mk (cn2.upd (R':=blkR b T cs') (O':=O) hx (fun y hy=>⟨Nat.lt_of_lt_of_le (cn2.hp.o O (by simp) y hy).1 hst.size, .inl hy⟩) ⟨ho,us',hu.blk,hr'.stp hg⟩) hm⟩⟩⟩
end
section
variable {Γ:Cx} {k:List KI} {e:EA} {o:List Res} {N:NA} {c:Cls} {d:Tmp} {ty:TypeId} {x y z:Operand} {t u:TypeId} {kk:IntKind} {i:Int}

theorem flatten_parts{sz:Nat} :∀(rows:List (List Value)) (j:Nat) (row:List Value),rows[j]?=some row→∃r1 r2:List (List Value),rows=r1 ++ row :: r2∧r1.length=j
 | [],j,_,h=>by simp at h
 | a :: rs,0,row,h=>⟨[],rs,by simp at h;simp [h],rfl⟩
 | a :: rs,j+1,row,h=>by
  obtain⟨r1,r2,e,hl⟩:=flatten_parts (sz:=sz) rs j row (by simpa using h)
  exact⟨a :: r1,r2,by simp [e],by simp [hl]⟩
theorem flat_len{sz:Nat} :∀(rows:List (List Value)),(∀r∈rows,r.length=sz)→rows.flatten.length=rows.length * sz
 | [],_=>by simp
 | a :: rs,h=>by rw [List.flatten_cons,zP,h a (by simp),flat_len rs (fun r hr=>h r (by simp [hr])),List.length_cons,Nat.add_mul];omega
instance {v:Value} {s j r:Nat} {a:AV} : Sp (Stp' Γ c t x y ty e o N (.oe v s j r) a) (TkA o v fun T sz l f rest=>Rf (s=sz) (At l j fun q=>StX Γ.tt t a (f q) r fun cs'=>Up f cs' fun q'=>N e (arrR v T sz (l.set j q') f :: rest))):=⟨fun⟨α,T,sz,l,f,rest,tk,hs,q,hj,hn⟩=>⟨fun ha hb hc=>⟨fun env hh G Os cn=>by
 obtain⟨v,h1,b,of,len,cap,rfl,rfl⟩:=cn.get ha
 obtain⟨w,h2,h3⟩:=cn.get hb
 subst hs
 obtain⟨O,Os',cn2⟩:=cn.take tk
 obtain⟨⟨ho,rows,hw,hrr⟩,_⟩:=cn2.hp.own
 obtain⟨row,k1,k2,k3⟩:=hrr.at hj
 obtain⟨r1,r2,er,hl⟩:=flatten_parts (sz:=s) rows j row k1
 have hlv:=hw.len_vs
 rcases hw.ok with⟨e1,_⟩|⟨b',of',cap',L,e1,hbk,g1,g2,g3⟩
 ·cases e1
 cases e1
 have hcl:l.length * s≤cap * s:=zU _ g2
 have hL:L=L.take of ++ rows.flatten ++ L.drop (of+l.length * s):=by
  rw [←g3]
  conv=>lhs;rw [←List.take_append_drop of L,←List.take_append_drop (l.length * s) (L.drop of)]
  rw [List.drop_drop,List.append_assoc]
 have hr1:r1.flatten.length=j * s:=by rw [flat_len r1 (fun r hr=>hrr.sz r (by rw [er];simp [hr])),hl]
 refine store_at (.inl hc) h1 h2 h3 hbk (pre:=L.take of ++ r1.flatten) (post:=r2.flatten ++ L.drop (of+l.length * s)) (us:=row) (hL.trans (by rw [er];simp)) (by simp [hr1];omega) k2 hn fun us' cs' h' hu hr' hlen hm=>?_
 obtain⟨q',hq,hm⟩:=hm
 have hst:=hu.stp
 have hx:FPx (fun y=>¬O y) hh h':=⟨hst.size,fun y hy hl=>hst.same y hl (fun hm=>hy ((ho y).2 (by simpa [blkOf] using hm)))⟩
 have hg:FPx G hh h':=hx.mono fun y hy hoy=>(cn2.hp.o O (by simp) y hoy).2.2 hy
 have hrows:rows.set j us'=r1 ++ us' :: r2:=by rw [er,←hl];simp
 have hnew:Rows h' G s (rows.set j us') (l.set j q') f:=(hrr.stp hg).set (hq▸hr'.stp hg) (by rw [hlen,k3])
 refine CN.mk (cn2.upd (R':=arrR _ T s (l.set j q') f) (O':=O) hx (fun y hy=>⟨Nat.lt_of_lt_of_le (cn2.hp.o O (by simp) y hy).1 hst.size, .inl hy⟩) ⟨ho,rows.set j us',⟨by rw [hnew.flen], .inr ⟨b,of,cap,_,by rw [zY],hu.blk, ?_,by rw [zY];exact g2, ?_⟩⟩,hnew⟩) hm
 ·have:=congrArg List.length hL
  simp only [zP,er,List.flatten_append,List.flatten_cons] at this ⊢
  omega
 ·rw [zY,hrows]
  have e2:(L.take of ++ r1.flatten ++ us' ++ (r2.flatten ++ L.drop (of+l.length * s)))=L.take of ++ ((r1 ++ us' :: r2).flatten ++ L.drop (of+l.length * s)):=by simp
  have ht:(L.take of).length=of:=by rw [zN];omega
  rw [e2,List.drop_append_of_le_length (by omega),List.drop_of_length_le (by omega),List.nil_append]
  have e3:l.length * s=(r1 ++ us' :: r2).flatten.length:=by rw [←hrows,hnew.flen,zY]
  rw [e3,List.take_left]⟩⟩⟩

/-! ### New blocks -/
instance : Sp (SA Γ c (some d) (.alloc t) ty e o N) (Rf (acts c=true) (Lk (zrA Γ.tt t) fun zs=>Rf (zs.all Value.oneCell'=true) (Nm (zs.map AV.val) fun cs=>All fun b:Nat=>N ((d, .val (.pointer (some ⟨b,0,none⟩))) :: e) (blkR b t cs :: o)))):=⟨fun⟨hc,zs,hz,h1,hn⟩=>⟨fun env hh G Os cn=>by
 unfold zrA at hz
 split at hz
 ·rename_i ti ht
  cases hz
  refine St.alloc Γ.ok ht hc rfl fun b h' hnew hb hsz=>?_
  refine CN.mk ((cn.new (R:=blkR b t _) (O:=fun y=>y=b) hnew (fun y h=>h) ⟨fun y=>Iff.rfl,_,hnew.blk, ?_,fun u hu=>List.all_eq_true.1 h1 u hu⟩).put d (a:= .val _) rfl) (hn.ok.ok b)
  generalize ti.zero.cells.toList=zs
  induction zs with
  | nil=>trivial
  | cons z zs ih=>exact⟨rfl,ih⟩
 ·cases hz⟩⟩
instance (priority:=1100) {P:Program} {tt:Nat→Option TI} {en:Nat→Bool} {ok:PgOK P tt en} {T:Nat→Ord×(Nat→Cls)} {m:Nat} {rs:Array ResultVar} {K:AV→List Res→Prop} {h0:Heap} {G0 O0:Nat→Prop} {n:Nat} :
  Sp (SA ⟨P,tt,en,ok,T,m,rs,K,h0,G0,O0,⟨some n⟩⟩ c (some d) (.alloc t) ty e o N) (Rf (acts c=true) (Lk (zrA tt t) fun zs=>Rf (zs.all Value.oneCell'=true) (Nm (zs.map AV.val) fun cs=>All fun b:Nat=>Im (n≤b) (N ((d, .val (.pointer (some ⟨b,0,none⟩))) :: e) (blkR b t cs :: o))))):=⟨fun⟨hc,zs,hz,h1,hn⟩=>⟨fun env hh G Os cn=>by
 unfold zrA at hz
 split at hz
 ·rename_i ti ht
  cases hz
  refine St.alloc ok ht hc rfl fun b h' hnew hb hsz=>?_
  refine CN.mk ((cn.new (R:=blkR b t _) (O:=fun y=>y=b) hnew (fun y h=>h) ⟨fun y=>Iff.rfl,_,hnew.blk, ?_,fun u hu=>List.all_eq_true.1 h1 u hu⟩).put d (a:= .val _) rfl) ((hn.ok.ok b).k (by have:=(cn.nf n rfl).1;have:=hnew.eb;omega))
  generalize ti.zero.cells.toList=zs
  induction zs with
  | nil=>trivial
  | cons z zs ih=>exact⟨rfl,ih⟩
 ·cases hz⟩⟩
structure BxX (a:AV) (k:List AV→Prop):Prop where
 ok:∃cs,k cs∧∀h G v,a.R h G v→∃vs,v.cells.toList=vs∧RepL h G vs cs
theorem cells_one{v:Value}(h:v.oneCell'=true) : v.cells=#[v]:=by cases v <;> first|rfl|(simp [Value.oneCell'] at h)
instance {cs:List AV} {M:List AV→Prop} : Sp (BxX (.agg cs) M) (M cs):=⟨fun h=>⟨cs,h,by rintro h G v ⟨vs,rfl,hr⟩;exact⟨vs,rfl,hr⟩⟩⟩
instance {a:AV} {M:List AV→Prop} [OneA a]:Sp (BxX a M) (M [a]):=⟨fun h=>⟨[a],h,fun hh G v hv=>by
 have h1:=OneA.h hh G v hv
 exact⟨[v],by rw [cells_one h1],⟨hv,trivial⟩,fun u hu=>by simp at hu;subst hu;exact h1⟩⟩⟩
instance : Sp (SA Γ c (some d) (.box t x) ty e o N) (Rf (acts c=true) (Lk (evA e x) fun a=>BxX a fun cs=>All fun b:Nat=>N ((d, .val (.pointer (some ⟨b,0,none⟩))) :: e) (blkR b t cs :: o))):=⟨fun⟨hc,a,ha,cs,hn,hr⟩=>⟨fun env hh G Os cn=>by
 obtain⟨v,h1,h2⟩:=cn.get ha
 obtain⟨vs,h3,h4⟩:=hr _ _ _ h2
 refine St.box h1 hc h3 fun b h' hnew hb hsz=>?_
 exact CN.mk ((cn.new (R:=blkR b t cs) (O:=fun y=>y=b) hnew (fun y h=>h) ⟨fun y=>Iff.rfl,vs,hnew.blk,h4.stp (cn.gnew hnew)⟩).put d (a:= .val _) rfl) (hn.ok b)⟩⟩

/-! ### What is built -/
def evAP(e:EA) : List (Nat×Operand)→Option (List (Nat×AV))
 | []=>some []
 | (i,x) :: r=>match evA e x,evAP e r with
  | some v,some l=>some ((i,v) :: l)
  | _,_=>none
inductive RepP (h:Heap) (G:Nat→Prop):List (Nat×Value)→List (Nat×AV)→Prop where
 | nil:RepP h G [] []
 | cons {i:Nat} {v:Value} {a:AV} {vs:List (Nat×Value)} {asx:List (Nat×AV)} : a.R h G v→RepP h G vs asx→RepP h G ((i,v) :: vs) ((i,a) :: asx)
theorem Con.getP{env:Env}{h:Heap}{G:Nat→Prop}{Os:List (Nat→Prop)}(cn:Con Γ ⟨e,o⟩ env h G Os) :∀{xs:List (Nat×Operand)} {asx:List (Nat×AV)},evAP e xs=some asx→∃vs,evP env xs=some vs∧RepP h G vs asx
 | [],asx,hx=>by simp only [evAP,Option.some.injEq] at hx;subst hx;exact⟨[],rfl, .nil⟩
 | (i,x) :: r,asx,hx=>by
  simp only [evAP] at hx
  split at hx
  ·rename_i a l h1 h2
   simp only [Option.some.injEq] at hx
   subst hx
   obtain⟨v,e1,r1⟩:=cn.get h1
   obtain⟨vs,e2,r2⟩:=cn.getP h2
   exact⟨(i,v) :: vs,by simp [evP,e1,e2], .cons r1 r2⟩
  ·cases hx
inductive FillA (place:Nat→Option (Nat×Nat)):List AV→List (Nat×AV)→List AV→Prop where
 | nil {l:List AV} : FillA place l [] l
 | agg {l l1 l2 m:List AV} {i off n:Nat} {r:List (Nat×AV)} : place i=some (off,n+1)→m.length=n+1→SetAs l off m l1→FillA place l1 r l2→FillA place l ((i, .agg m) :: r) l2
 | one {l l1 l2:List AV} {i off:Nat} {a:AV} {r:List (Nat×AV)} : place i=some (off,1)→OneA a→SetA l off a l1→FillA place l1 r l2→FillA place l ((i,a) :: r) l2
theorem FillA.rep{h:Heap}{G:Nat→Prop}{place:Nat→Option (Nat×Nat)}{cs cs':List AV}{ps:List (Nat×AV)}(f:FillA place cs ps cs') :∀{vs:List Value} {qs:List (Nat×Value)},RepL h G vs cs→RepP h G qs ps→∃vs',Fill place vs qs vs'∧RepL h G vs' cs':=by
 induction f with
 | nil=>intro vs qs hr hp;cases hp;exact⟨vs, .nil,hr⟩
 | agg h1 h2 h3 _ ih =>
  intro vs qs hr hp
  cases hp with
  | cons g1 g2 =>
   obtain⟨ws,rfl,hws⟩:=g1
   obtain⟨vs1,k1,k2⟩:=h3.rep hr hws
   obtain⟨vs2,k3,k4⟩:=ih k2 g2
   exact⟨vs2, .agg h1 (by rw [hws.t.len,h2]) k1 k3,k4⟩
 | one h1 h2 h3 _ ih =>
  intro vs qs hr hp
  cases hp with
  | cons g1 g2 =>
   have ho:=h2.h _ _ _ g1
   obtain⟨vs1,k1,k2⟩:=h3.rep hr g1 ho
   obtain⟨vs2,k3,k4⟩:=ih k2 g2
   exact⟨vs2, .one h1 (cells_one ho) k1 k3,k4⟩
structure Fk (place:Nat→Option (Nat×Nat)) (l:List AV) (ps:List (Nat×AV)) (k:List AV→Prop):Prop where
 ok:∃l',FillA place l ps l'∧k l'
theorem Fk.r{place:Nat→Option (Nat×Nat)}{l l':List AV}{ps:List (Nat×AV)}{k:List AV→Prop}(h:FillA place l ps l')(hk:k l') : Fk place l ps k:=⟨l',h,hk⟩
theorem repL_vals{h:Heap}{G:Nat→Prop} :∀(zs:List Value),zs.all Value.oneCell'=true→RepL h G zs (zs.map AV.val)
 | [],_=>⟨trivial,by simp⟩
 | z :: zs,hz=>by
  simp only [List.all_cons,Bool.and_eq_true] at hz
  have ih:=repL_vals (h:=h) (G:=G) zs hz.2
  exact⟨⟨rfl,ih.t⟩,fun u hu=>(List.mem_cons.1 hu).elim (fun e=>e▸hz.1) (ih.one u)⟩
def stI(tt:Nat→Option TI)(t:Nat) : Option (List (Nat×Nat×Nat)×List Value):=match tt t with
 | some ti=>match ti.kind,ti.zero with
  | .struct fs, .agg zl=>if allPos fs=true then some (fs,zl.toList) else none
  | _,_=>none
 | none=>none
theorem stI_spec{tt:Nat→Option TI}{t:Nat}{p:List (Nat×Nat×Nat)×List Value}(h:stI tt t=some p) :∃ti,tt t=some ti∧ti.kind= .struct p.1∧ti.zero= .agg p.2.toArray∧allPos p.1=true:=by
 unfold stI at h
 split at h
 ·rename_i ti h1
  split at h
  ·rename_i fs zl h2 h3
   split at h
   ·rename_i h4
    cases h
    exact⟨ti,h1,h2,by simp [h3],h4⟩
   ·cases h
  ·cases h
 ·cases h
instance {parts:Array (Nat×Operand)} : Sp (SA Γ c (some d) (.build t parts) ty e o N) (Lk (evAP e parts.toList) fun ps=>Lk (stI Γ.tt t) fun q=>Rf (q.2.all Value.oneCell'=true) (Fk (plS q.1) (q.2.map AV.val) ps fun cs=>N ((d, .agg cs) :: e) o)):=⟨fun⟨ps,hps,q,hq,h1,cs,hf,hn⟩=>⟨fun env hh G Os cn=>by
 obtain⟨ti,t1,t2,t3,t4⟩:=stI_spec hq
 obtain⟨vs,g1,g2⟩:=cn.getP hps
 obtain⟨vs',k1,k2⟩:=hf.rep (repL_vals (h:=hh) (G:=G) q.2 h1) g2
 exact St.build Γ.ok t1 t2 t3 t4 g1 k1 (CN.mk (cn.put d (a:= .agg cs) ⟨vs',rfl,k2⟩) hn)⟩⟩
def chunk{β:Type}(sz:Nat) : Nat→List β→List (List β)
 | 0,_=> []
 | n+1,l=>l.take sz :: chunk sz n (l.drop sz)
theorem chunk_rows{h:Heap}{G:Nat→Prop}{sz:Nat} :∀(n:Nat) {vs:List Value} {cs:List AV},RepL h G vs cs→vs.length=n * sz→Rows h G sz (chunk sz n vs) (chunk sz n cs) id∧(chunk sz n vs).flatten=vs∧(chunk sz n cs).length=n
 | 0,vs,cs,hr,hl=>by
  have:vs= []:=zQ (by simpa using hl)
  subst this
  exact⟨Rows.nil,rfl,rfl⟩
 | n+1,vs,cs,hr,hl=>by
  rw [Nat.add_mul] at hl
  obtain⟨h1,h2,h3⟩:=chunk_rows (sz:=sz) n (vs:=vs.drop sz) (cs:=cs.drop sz) ⟨hr.t.drop sz,fun u hu=>hr.one u (List.mem_of_mem_drop hu)⟩ (by rw [List.length_drop];omega)
  refine⟨⟨by simp [chunk,h1.len],fun i a b e1 e2=>?_,fun a ha=>?_⟩,by simp [chunk,h2],by simp [chunk,h3]⟩
  ·cases i with
   | zero=>simp [chunk] at e1 e2;subst e1;subst e2;exact⟨hr.t.take sz,fun u hu=>hr.one u (zW hu)⟩
   | succ i=>exact h1.row i a b (by simpa [chunk] using e1) (by simpa [chunk] using e2)
  ·rcases List.mem_cons.1 ha with rfl|ha
   ·rw [zN];omega
   ·exact h1.sz a ha
theorem all_zeroL{z:List Value}(hz:z.all Value.oneCell'=true) :∀n,(zeroL z n).all Value.oneCell'=true
 | 0=>rfl
 | n+1=>by simp [zeroL,List.all_append,hz,all_zeroL hz n]
instance {m:Nat} {parts:Array (Nat×Operand)} : Sp (SA Γ c (some d) (.buildSlice t m parts) ty e o N) (Rf (acts c=true) (Lk (evAP e parts.toList) fun ps=>Lk (slE Γ.tt t) fun p=>Rf (p.2.zero.cells.toList.all Value.oneCell'=true∧p.2.size=p.2.zero.cells.toList.length∧Nat.ble (m * p.2.size) 16777216=true) (Fk (plA p.2.size) ((zeroL p.2.zero.cells.toList m).map AV.val) ps fun cs=>All fun v:Value=>N ((d, .ow v) :: e) (arrR v p.1 p.2.size (chunk p.2.size m cs) id :: o)))):=⟨fun⟨hc,ps,hps,p,hp,⟨h1,h2,h3⟩,cs,hf,hn⟩=>⟨fun env hh G Os cn=>by
 obtain⟨ti,t1,t2,t3⟩:=slE_spec hp
 obtain⟨vs,g1,g2⟩:=cn.getP hps
 obtain⟨vs',k1,k2⟩:=hf.rep (repL_vals (h:=hh) (G:=G) _ (all_zeroL h1 m)) g2
 refine St.buildSlice Γ.ok t1 t2 t3 rfl h2 h3 g1 k1 hc fun b h' hnew hb hsz=>?_
 have hl:vs'.length=m * p.2.size:=by
  clear hn
  have key:∀{pl:Nat→Option (Nat×Nat)} {l l':List Value} {q:List (Nat×Value)},Fill pl l q l'→l'.length=l.length:=by
   intro pl l l' q hf
   induction hf with
   | nil=>rfl
   | one _ _ hs _ ih=>rw [ih,hs.length]
   | agg _ hm hs _ ih=>rw [ih,(hs.bound (by intro h;simp [h] at hm)).2]
  rw [key k1,zeroL_length,←h2]
 obtain⟨r1,r2,r3⟩:=chunk_rows m k2 hl
 refine CN.mk ((cn.new (R:=arrR (.slice (some ⟨b,0,none⟩) m m) p.1 p.2.size (chunk p.2.size m cs) id) (O:=fun y=>y=b) hnew (fun y h=>h) ⟨fun y=>by simp [blkOf],_, ?_,r1.stp (cn.gnew hnew)⟩).put d (a:= .ow _) ⟨rfl,_,_,_,rfl⟩) (hn.ok _)
 rw [r2,r3]
 exact Own.ofBlk hnew.blk hl⟩⟩
structure MkS (zs:List AV) (k:∀{α:Type},α→(α→List AV)→Prop):Prop where
 ok:∃(α:Type) (x:α) (f:α→List AV),f x=zs∧k x f
theorem MkS.r{α:Type}{zs:List AV}{k:∀{α:Type},α→(α→List AV)→Prop}(f:α→List AV)(x:α)(h:f x=zs)(hk:k x f) : MkS zs k:=⟨α,x,f,h,hk⟩
theorem rows_zero{h:Heap}{G:Nat→Prop}{α:Type}{f:α→List AV}{a:α}{zl:List Value}(hz:zl.all Value.oneCell'=true)(hf:f a=zl.map AV.val)(m:Nat) : Rows h G zl.length (List.replicate m zl) (List.replicate m a) f :=
 ⟨by simp,fun i r b e1 e2=>by
  have h1:=List.eq_of_mem_replicate (zM e1)
  have h2:=List.eq_of_mem_replicate (zM e2)
  subst h1;subst h2
  rw [hf];exact repL_vals _ hz,fun r hr=>by rw [List.eq_of_mem_replicate hr]⟩
theorem zeroL_flat(z:List Value) :∀m,zeroL z m=(List.replicate m z).flatten
 | 0=>rfl
 | m+1=>by rw [zeroL,zeroL_flat z m,List.replicate_succ,List.flatten_cons]
instance : Sp (SA Γ c (some d) (.makeSlice t x y) ty e o N) (Rf (acts c=true) (Lk (evA e x) fun a=>Lk (evA e y) fun b=>Ap2 Γ c d (.makeSlice t x y) ty e o N x a y b)):=⟨fun⟨_,_,ha,_,hb,h⟩=>h.h ha hb⟩
instance {k1 k2:IntKind} {m n:Int} : Sp (Ap2 Γ c d (.makeSlice t x y) ty e o N x (.val (.int k1 m)) y (.val (.int k2 n))) (Rf (acts c=true) (Lk (slE Γ.tt t) fun p=>Rf (p.2.zero.cells.toList.all Value.oneCell'=true∧p.2.size=p.2.zero.cells.toList.length∧Nat.ble p.2.bytes 100000=true) (Jx n 1000000000 fun cp=>Jx m cp fun len=>Nm (p.2.zero.cells.toList.map AV.val) fun zs=>MkS zs fun {_} a f=>All fun v:Value=>N ((d, .ow v) :: e) (arrR v p.1 p.2.size (List.replicate len a) f :: o)))):=⟨fun⟨hc,p,hp,⟨h1,h2,h3⟩,cp,hcp,hcl,len,hlen,hll,hn⟩=>⟨fun ha hb=>⟨fun env hh G Os cn=>by
 obtain⟨v,g1,g2⟩:=cn.get ha
 obtain⟨w,g3,g4⟩:=cn.get hb
 have g2:v= .int k1 m:=g2
 have g4:w= .int k2 n:=g4
 subst g2;subst g4
 obtain⟨ti,t1,t2,t3⟩:=slE_spec hp
 obtain⟨α,a,f,hf,hn⟩:=hn.ok.ok
 refine St.makeS Γ.ok t1 t2 t3 rfl h2 h3 g1 g3 hlen hcp hll hcl hc fun b h' hnew hb hsz=>?_
 have hr:=rows_zero (h:=h') (G:=G) h1 hf len
 refine CN.mk ((cn.new (R:=arrR (.slice (some ⟨b,0,none⟩) len cp) p.1 p.2.size (List.replicate len a) f) (O:=fun y=>y=b) hnew (fun y h=>h) ⟨fun y=>by simp [blkOf],List.replicate len p.2.zero.cells.toList, ?_,h2▸hr⟩).put d (a:= .ow _) ⟨rfl,_,_,_,rfl⟩) (hn.ok _)
 have e1:(zeroL p.2.zero.cells.toList cp).length=cp * p.2.size:=by rw [zeroL_length,h2]
 refine⟨by rw [hr.flen,h2], .inr ⟨b,0,cp,_,by simp,hnew.blk,by omega,by simpa using hll, ?_⟩⟩
 rw [List.drop_zero,zR,zeroL_flat,←Nat.sub_add_cancel hll,Nat.add_comm,←List.replicate_append_replicate,List.flatten_append]
 have e2:len * p.2.size=(List.replicate len p.2.zero.cells.toList).flatten.length:=by rw [hr.flen,h2];simp
 rw [e2,List.take_left]⟩⟩⟩
end
end Go.CF
