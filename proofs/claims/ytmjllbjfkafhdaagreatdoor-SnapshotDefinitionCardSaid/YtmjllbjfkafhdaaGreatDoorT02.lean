/- Part 2 of the ground of this proof: what its texts say of the model, the program and the plain data; conditions: those that are named. -/
import Derived.Laws.Entries
import Derived.OpenShut
import Derived.WalkKit
import Derived.ProofKit
import Derived.Carry
import Derived.Deep.Slices
import Derived.Test.YtmjllbjfkafhdaaGreatDoorT01
namespace Go.CF
open Go

section
variable {P:Program} {tt:Nat->Option TI} {en:Nat->Bool} {γ:Type} [Membership Nat γ] {fp:γ} {n:Nat} {c:xa} {env:Env} {h:y7} {N:Env->y7->Prop} {d:Tmp} {ty:TypeId} {t u:TypeId} {x y z:Operand} {v:Value} {k' k2:IntKind} {i j:Int}

theorem St.F9{m:Nat}(hx:ev env x=some (.int k' i))(hy:ev env y=some (.int k2 j))(hj:j=(m:Int))(hm:(m:Int)<=k'.bits)(k:N ((d,.int k' (i / 2 ^ m)) :: env) h):St P n fp c (some d) (.binOp .shr t x y u) ty env h N :=
 .xH (v:= .int k' (i / 2 ^ m)) (λa w ha=>by
  subst hj
  have:=shift_shr k' k2 i (m:Int) z6 hm
  simp only [yI,execOp,ha.ev hx,ha.ev hy,eqGuard_at_int,Sem.run_bind,Sem.run_pure,Result.andThen_ok,binOp_shr,this,Int.toNat_natCast]) k

theorem St.IL(G:xh P tt en){ti te:TI}{e b o m cap T:Nat}{l:List Value}(ht:tt t=some ti)(hk:ti.kind= .slice e)(oL:tt e=some te)(h1:∀u∈te.zero.cells.toList,u.oneCell'=true)(hz:te.zero.cells.size=te.size)
  (hx:ev env x=some (.slice (some ⟨b,o,none⟩) (m+1) cap)) (hb:lN h b T l) (hl:o+(m+1) * te.size<=l.length) (hc:yN c=true)
  (k:∀h' l',ej h b T l' h'->h'.size=h.size->l'.length=l.length->(∀j,j < o->l'[j]?=l[j]?)->N env h'):St P n fp c none (.call { callee:= .builtin .clear,args:=#[x],argTypes:=#[t] }) ty env h N:=by
 refine .th hc λa w oo next Q ha hw nU pv hn=>?_
 have hu:=(G.ok _ _ ht).slice hk
 have hv:=(G.ok _ _ oL).rj w
 have hg:w.heap[b]?=some (.cells l.toArray T (0,0)):=hb.heap hw
 have u4:(Builtin.zeroCells te.zero.cells (m+1)).toList.length=(m+1) * te.size:=by simp [size_zeroCells,hz]
 have Vl:∀u∈(Builtin.zeroCells te.zero.cells (m+1)).toList,u.oneCell'=true:=by
  intro u hu
  simp only [Builtin.zeroCells,Array.toList_map,List.mem_map] at hu
  obtain⟨q,hq,rfl⟩:=hu
  have lJ:q < (m+1) * te.zero.cells.size:=by simpa using hq
  have sR:0 < te.zero.cells.size:=by
   rcases Nat.eq_zero_or_pos te.zero.cells.size with h0|h0
   ·rw [h0] at lJ;simp at lJ
   ·exact h0
  have xC:=Nat.mod_lt q sR
  rw [getElem!_pos te.zero.cells _ xC]
  exact h1 _ zd
 have yL:=run_storeCells_at P b o T (Builtin.zeroCells te.zero.cells (m+1)).toList 0 l.toArray w hg (by rw [u4];simpa using hl) Vl
 simp only [Nat.add_zero] at yL
 have wq:(execOp a.eval (yI (.call { callee:= .builtin .clear,args:=#[x],argTypes:=#[t] }) ty)).run P w= .ok (.value (.tuple #[])) (w.setRow b (l.take o ++ (Builtin.zeroCells te.zero.cells (m+1)).toList ++ l.drop (o+(Builtin.zeroCells te.zero.cells (m+1)).toList.length)).toArray):=by
  simp [yI,execOp,resolve,invoke,builtin,ha.ev hx,Builtin.clear_,run_underlying hu,hv,yL]
 unfold Oper.wp
 rw [xj,nU,pv,wq]
 refine hn _ _ (yW.rM hg rfl (World.xF hg)) (k _ _ ⟨hb.lt,by rw [World.xF hg,hw]⟩ ?_ ?_ ?_)
 ·simp [World.xF hg,hw]
 ·simp only [zP,zN,List.length_drop,u4];omega
 ·intro q hq
  rw [List.append_assoc,zI zk,List.getElem?_take,if_pos hq]
end
end Go.CF
set_option maxRecDepth 100000
set_option maxHeartbeats 80000000
namespace Go.CF
open Go
def sub:List Nat->Code->Code
 | [],c=>c
 | 0 :: r,.seq a _=>sub r a
 | _ :: r,.seq _ b=>sub r b
 | 0 :: r,.cond _ a _=>sub r a
 | _ :: r,.cond _ _ b=>sub r b
 | _ :: r,.block _ c=>sub r c
 | _ :: r,.loop c=>sub r c
 | _ :: _,c=>c

section
variable {P:Program} {tt:Nat->Option TI} {en:Nat->Bool} {γ:Type} [Membership Nat γ] {fp:γ} {n:Nat} {c:xa} {env:Env} {h:y7} {N:Env->y7->Prop} {d:Tmp} {ty:TypeId} {t u:TypeId} {x y z:Operand} {v:Value} {k' k2:IntKind} {i j:Int}

theorem St.cJ(G:xh P tt en){ti te:TI}{e b o len m:Nat}{ii:Int}(ht:tt t=some ti)(hk:ti.kind= .array len e)(oL:tt e=some te)(h1:te.size=1)(hx:ev env x=some (.pointer (some ⟨b,o,none⟩)))(hy:ev env y=some (.int k' ii))
  (bp:ii=(m:Int)) (hi:m < len) (k:N ((d,.pointer (some ⟨b,o+m,none⟩)) :: env) h):St P n fp c (some d) (.indexAddr t x y) ty env h N :=
 St.a_ G ht hk oL hx hy bp hi (by rw [h1,Nat.mul_one];exact k)
end

structure uo (S:Nat->Prop) (h h':y7):Prop where
 size:h.size<=h'.size
 same:∀b,S b->b < h.size->h'[b]?=h[b]?
theorem uo.refl{S:Nat->Prop}(h:y7):uo S h h:=⟨Nat.le_refl _,λ_ _ _=>rfl⟩
theorem uo.mono{S S':Nat->Prop}{h h':y7}(x:uo S h h')(hs:∀b,S' b->S b):uo S' h h':=⟨x.size,λb hb hl=>x.same b (hs b hb) hl⟩

structure AV where
 R:y7->(Nat->Prop)->Value->Prop
 wm:∀{h h' G v},uo G h h'->R h G v->R h' G v
 mono:∀{h G G' v},(∀b,G b->G' b)->R h G v->R h G' v

def NC(h:y7)(b:Nat):Prop:=∀o,h[b]?=some o->mU o=false
theorem NC.of{h:y7}{b:Nat}{o:Obj}(hb:h[b]?=some o)(ho:mU o=false):NC h b:=λo' h'=>by rw [hb] at h';cases h';exact ho
theorem NC.eq{h h':y7}{b:Nat}(x:NC h b)(e:h'[b]?=h[b]?):NC h' b:=λo ho=>x o (e▸ho)
structure yh where
 R:y7->(Nat->Prop)->(Nat->Prop)->Prop
 wm:∀{h h' O G},uo (λb=>O b∨G b) h h'->R h O G->R h' O G
 mono:∀{h O G G'},(∀b,G b->G' b)->R h O G->R h O G'
 nc:∀{h O G},R h O G->∀b,O b->NC h b

def AV.val(v:Value):AV:=⟨λ_ _ u=>u=v,λ_ h=>h,λ_ h=>h⟩
def AV.ow(v:Value):AV:=⟨λ_ _ u=>u=v/\∃p len cap,v= .slice p len cap,λ_ h=>h,λ_ h=>h⟩
def AV.oe(v:Value)(sz j r:Nat):AV:=⟨λ_ _ u=>∃b o len cap,v= .slice (some ⟨b,o,none⟩) len cap/\u= .pointer (some ⟨b,o+j * sz+r,none⟩),λ_ h=>h,λ_ h=>h⟩
def AV.os(v:Value)(sz j m:Nat):AV:=⟨λ_ _ u=>∃p len cap,v= .slice p len cap/\j+m<=len/\u= .slice (vd p sz j cap) m (cap - j),λ_ h=>h,λ_ h=>h⟩

def xb(h:y7)(G:Nat->Prop):List Value->List AV->Prop
 | [],[]=>True
 | v :: vs,a :: yM=>a.R h G v/\xb h G vs yM
 | _,_=>False
theorem xb.wm{h h':y7}{G:Nat->Prop}(x:uo G h h') :∀{vs:List Value} {yM:List AV},xb h G vs yM->xb h' G vs yM
 | [],[],_=>trivial
 | _ :: _,_ :: _,⟨h1,h2⟩=>⟨AV.wm _ x h1,xb.wm x h2⟩
theorem xb.mono{h:y7}{G G':Nat->Prop}(x:∀b,G b->G' b) :∀{vs:List Value} {yM:List AV},xb h G vs yM->xb h G' vs yM
 | [],[],_=>trivial
 | _ :: _,_ :: _,⟨h1,h2⟩=>⟨AV.mono _ x h1,xb.mono x h2⟩
theorem xb.len{h:y7}{G:Nat->Prop} :∀{vs:List Value} {yM:List AV},xb h G vs yM->vs.length=yM.length
 | [],[],_=>rfl
 | _ :: _,_ :: _,⟨_,h2⟩=>by simp [xb.len h2]
theorem xb.get{h:y7}{G:Nat->Prop} :∀{vs:List Value} {yM:List AV} {i:Nat} {a:AV},xb h G vs yM->yM[i]?=some a->∃v,vs[i]?=some v/\a.R h G v
 | [],[],i,a,_,h1=>by simp at h1
 | v :: vs,a :: yM,0,b,⟨h1,_⟩,h2=>⟨v,rfl,by simp at h2;exact h2▸h1⟩
 | v :: vs,a :: yM,i+1,b,⟨_,h1⟩,h2=>by simpa using xb.get h1 (by simpa using h2)
theorem xb.app{h:y7}{G:Nat->Prop} :∀{v1 v2:List Value} {a1 a2:List AV},xb h G v1 a1->xb h G v2 a2->xb h G (v1 ++ v2) (a1 ++ a2)
 | [],_,[],_,_,h2=>h2
 | _ :: _,_,_ :: _,_,⟨h1,h3⟩,h2=>⟨h1,h3.app h2⟩
theorem xb.take{h:y7}{G:Nat->Prop} :∀{vs:List Value} {yM:List AV} (n:Nat),xb h G vs yM->xb h G (vs.take n) (yM.take n)
 | [],[],n,_=>by simp [xb]
 | v :: vs,a :: yM,0,_=>trivial
 | v :: vs,a :: yM,n+1,⟨h1,h2⟩=>⟨h1,h2.take n⟩
theorem xb.drop{h:y7}{G:Nat->Prop} :∀{vs:List Value} {yM:List AV} (n:Nat),xb h G vs yM->xb h G (vs.drop n) (yM.drop n)
 | [],[],n,_=>by simp [xb]
 | v :: vs,a :: yM,0,hr=>hr
 | v :: vs,a :: yM,n+1,⟨_,h2⟩=>h2.drop n
theorem xb.set{h:y7}{G:Nat->Prop} :∀{vs:List Value} {yM:List AV} (n:Nat) {v:Value} {a:AV},xb h G vs yM->a.R h G v->xb h G (vs.set n v) (yM.set n a)
 | [],[],n,_,_,_,_=>by simp [xb]
 | _ :: vs,_ :: yM,0,_,_,⟨_,h2⟩,h3=>⟨h3,h2⟩
 | _ :: vs,_ :: yM,n+1,_,_,⟨h1,h2⟩,h3=>⟨h1,h2.set n h3⟩

structure uw (h:y7) (G:Nat->Prop) (vs:List Value) (yM:List AV):Prop where
 t:xb h G vs yM
 one:∀u∈vs,u.oneCell'=true
theorem uw.wm{h h':y7}{G:Nat->Prop}{vs:List Value}{yM:List AV}(x:uo G h h')(r:uw h G vs yM):uw h' G vs yM:=⟨r.t.wm x,r.one⟩
theorem uw.mono{h:y7}{G G':Nat->Prop}{vs:List Value}{yM:List AV}(x:∀b,G b->G' b)(r:uw h G vs yM):uw h G' vs yM:=⟨r.t.mono x,r.one⟩

def AV.agg(cs:List AV):AV:=⟨λh G u=>∃vs,u= .agg vs.toArray/\uw h G vs cs,by rintro h h' G v x ⟨vs,e,r⟩;exact⟨vs,e,r.wm x⟩,by rintro h G G' v x ⟨vs,e,r⟩;exact⟨vs,e,r.mono x⟩⟩
def AV.yE(cs:List AV):AV:=⟨λh G u=>∃vs,u= .tuple vs.toArray/\xb h G vs cs,by rintro h h' G v x ⟨vs,e,r⟩;exact⟨vs,e,r.wm x⟩,by rintro h G G' v x ⟨vs,e,r⟩;exact⟨vs,e,r.mono x⟩⟩
def AV.fn(f:FuncId)(cs:List AV):AV:=⟨λh G u=>∃vs,u= .func (.func f) #[] vs.toArray/\xb h G vs cs,by rintro h h' G v x ⟨vs,e,r⟩;exact⟨vs,e,r.wm x⟩,by rintro h G G' v x ⟨vs,e,r⟩;exact⟨vs,e,r.mono x⟩⟩

theorem tP.s9{h h':y7}{b o:Nat}{l:List Value}(he:h'[b]?=h[b]?)(hc:tP h ⟨b,o,none⟩ l):tP h' ⟨b,o,none⟩ l :=
 ⟨λj v hv=>jZ.s9 (by rw [yZ];exact he) (hc.get j v hv)⟩
def AV.ad(cs:List AV)(k:Nat):AV:=⟨λh G u=>∃b o vs,u= .pointer (some ⟨b,o+k,none⟩)/\G b/\b < h.size/\tP h ⟨b,o,none⟩ vs/\uw h G vs cs,
 λx ⟨b,o,vs,e,g,l,c,r⟩=>⟨b,o,vs,e,g,Nat.lt_of_lt_of_le l x.size,c.s9 (x.same b g l),r.wm x⟩,λx ⟨b,o,vs,e,g,l,c,r⟩=>⟨b,o,vs,e,x b g,l,c,r.mono x⟩⟩

structure Rows {α:Type} (h:y7) (G:Nat->Prop) (sz:Nat) (rows:List (List Value)) (l:List α) (f:α->List AV):Prop where
 len:rows.length=l.length
 row:∀(i:Nat) (r:List Value) (x:α),rows[i]?=some r->l[i]?=some x->uw h G r (f x)
 sz:∀r∈rows,r.length=sz
section
variable {α:Type} {h h':y7} {G G':Nat->Prop} {sz:Nat} {rows:List (List Value)} {l:List α} {f:α->List AV}
theorem Rows.wm(x:uo G h h')(r:Rows h G sz rows l f):Rows h' G sz rows l f:=⟨r.len,λi a b h1 h2=>(r.row i a b h1 h2).wm x,r.sz⟩
theorem Rows.mono(x:∀b,G b->G' b)(r:Rows h G sz rows l f):Rows h G' sz rows l f:=⟨r.len,λi a b h1 h2=>(r.row i a b h1 h2).mono x,r.sz⟩
theorem Rows.pE(r:Rows h G sz rows l f):rows.flatten.length=l.length * sz:=by
 have key:∀rows:List (List Value),(∀r∈rows,r.length=sz)->rows.flatten.length=rows.length * sz:=by
  intro rows
  induction rows with
  | nil=>simp
  | cons a rs ih=>intro h1;rw [List.flatten_cons,zP,h1 a zd,ih (λr hr=>h1 r (by simp [hr])),List.length_cons,Nat.add_mul];omega
 rw [key rows r.sz,r.len]
theorem Rows.one(r:Rows h G sz rows l f) :∀u∈rows.flatten,u.oneCell'=true:=by
 intro u hu
 obtain⟨row,hr,hu⟩:=List.mem_flatten.1 hu
 obtain⟨i,hi⟩:=zO hr
 have xC:=(zS.1 hi).1
 exact(r.row i row _ hi (zE (by rw [<-r.len];exact xC))).one u hu
theorem Rows.at(r:Rows h G sz rows l f){i:Nat}{x:α}(hi:l[i]?=some x) :∃row,rows[i]?=some row/\uw h G row (f x)/\row.length=sz:=by
 have xC:=(zS.1 hi).1
 have h1:rows[i]?=some (rows[i]'(by rw [r.len];exact xC)):=zE _
 exact⟨_,h1,r.row i _ x h1 hi,r.sz _ (List.getElem_mem _)⟩
theorem Rows.nil:Rows h G sz [] ([]:List α) f:=⟨rfl,λi r x h1=>by simp at h1,λr hr=>by cases hr⟩
theorem Rows.app{m:List α}{iL:List (List Value)}(r:Rows h G sz rows l f)(s:Rows h G sz iL m f):Rows h G sz (rows ++ iL) (l ++ m) f:=by
 refine⟨by simp [r.len,s.len],λi a b h1 h2=>?_,λa ha=>(zV.1 ha).elim (r.sz a) (s.sz a)⟩
 by_cases hi:i < rows.length
 ·rw [zI hi] at h1
  rw [zI (by rw [<-r.len];exact hi)] at h2
  exact r.row i a b h1 h2
 ·rw [zJ z6] at h1
  rw [zJ (by rw [<-r.len];omega),<-r.len] at h2
  exact s.row _ a b h1 h2
theorem Rows.take(r:Rows h G sz rows l f)(m:Nat):Rows h G sz (rows.take m) (l.take m) f:=by
 refine⟨by simp [r.len],λi a b h1 h2=>?_,λa ha=>r.sz a (zW ha)⟩
 rw [List.getElem?_take] at h1 h2
 split at h1
 ·rename_i hm;rw [if_pos hm] at h2;exact r.row i a b h1 h2
 ·cases h1
theorem Rows.drop(r:Rows h G sz rows l f)(m:Nat):Rows h G sz (rows.drop m) (l.drop m) f:=by
 refine⟨by simp [r.len],λi a b h1 h2=>?_,λa ha=>r.sz a (List.mem_of_mem_drop ha)⟩
 rw [List.getElem?_drop] at h1 h2
 exact r.row _ a b h1 h2
theorem Rows.set(r:Rows h G sz rows l f){i:Nat}{row:List Value}{x:α}(hr:uw h G row (f x))(hs:row.length=sz):Rows h G sz (rows.set i row) (l.set i x) f:=by
 refine⟨by simp [r.len],λj a b h1 h2=>?_,λa ha=>(List.mem_or_eq_of_mem_set ha).elim (r.sz a) (λe=>e▸hs)⟩
 rw [List.getElem?_set] at h1 h2
 by_cases u5:i=j
 ·subst u5
  rw [if_pos rfl] at h1 h2
  split at h1
  ·rename_i xC
   rw [if_pos (by rw [<-r.len];exact xC)] at h2
   cases h1;cases h2;exact hr
  ·cases h1
 ·rw [if_neg u5] at h1 h2
  exact r.row j a b h1 h2
end

def AV.sl{α:Type}(sz:Nat)(l:List α)(f:α->List AV):AV :=
  ⟨λh G u=>l.length<=9223372036854775807/\((l= []/\∃p cap,u= .slice p 0 cap)∨∃b o cap rows,u= .slice (some ⟨b,o,none⟩) l.length cap/\0 < l.length/\l.length<=cap/\G b/\b < h.size/\tP h ⟨b,o,none⟩ rows.flatten/\Rows h G sz rows l f),
   λx ⟨hm,hr⟩=>⟨hm,hr.imp id λ⟨b,o,cap,rows,e,h1,h2,g,lt,c,r⟩=>⟨b,o,cap,rows,e,h1,h2,g,Nat.lt_of_lt_of_le lt x.size,c.s9 (x.same b g lt),r.wm x⟩⟩,
   λx ⟨hm,hr⟩=>⟨hm,hr.imp id λ⟨b,o,cap,rows,e,h1,h2,g,lt,c,r⟩=>⟨b,o,cap,rows,e,h1,h2,x b g,lt,c,r.mono x⟩⟩⟩

def yr(b:Nat)(T:TypeId)(cs:List AV):yh :=
  ⟨λh O G=>(∀x,O x↔x=b)/\∃vs,lN h b T vs/\uw h G vs cs,
   λx ⟨ho,vs,hb,r⟩=>⟨ho,vs,⟨(x.same b (.inl ((ho b).2 rfl)) hb.lt).trans hb.get⟩,r.wm (x.mono λ_=> .inr)⟩,
   λx ⟨ho,vs,hb,r⟩=>⟨ho,vs,hb,r.mono x⟩,
   λ⟨ho,_,hb,_⟩ y hy=>by rw [(ho y).1 hy];exact NC.of hb.get rfl⟩
theorem Own.nc{h:y7}{v:Value}{T:TypeId}{sz n:Nat}{vs:List Value}(hb:Own h v T sz n vs){y:Nat}(hy:y∈xz v):NC h y:=by
 rcases hb.ok with⟨rfl,_⟩|⟨b,o,cap,L,e,Oh,_⟩
 ·simp [xz] at hy
 ·subst e
  simp [xz] at hy
  subst hy;exact NC.of Oh.get rfl
def yb{α:Type}(v:Value)(T:TypeId)(sz:Nat)(l:List α)(f:α->List AV):yh :=
  ⟨λh O G=>(∀x,O x↔x∈xz v)/\∃rows,Own h v T sz l.length rows.flatten/\Rows h G sz rows l f,
   λx ⟨ho,rows,hb,r⟩=>⟨ho,rows,by
      rcases hb.ok with h1|⟨b,o,cap,L,e,Oh,h1,h2,h3⟩
      · exact⟨hb.v_,.inl h1⟩
      · exact⟨hb.v_,.inr ⟨b,o,cap,L,e,⟨(x.same b (.inl ((ho b).2 (by simp [e,xz]))) Oh.lt).trans Oh.get⟩,h1,h2,h3⟩⟩,r.wm (x.mono λ_=> .inr)⟩,
   λx ⟨ho,rows,hb,r⟩=>⟨ho,rows,hb,r.mono x⟩,
   λ⟨ho,_,hb,_⟩ y hy=>hb.nc ((ho y).1 hy)⟩

def xy(h:y7)(G:Nat->Prop):List yh->List (Nat->Prop)->Prop
 | [],[]=>True
 | R :: rs,O :: os=>R.R h O G/\xy h G rs os
 | _,_=>False
theorem xy.wm{h h':y7}{G:Nat->Prop} :∀{rs:List yh} {os:List (Nat->Prop)},(∀O∈os,uo (λb=>O b∨G b) h h')->xy h G rs os->xy h' G rs os
 | [],[],_,_=>trivial
 | R :: _,O :: _,x,⟨h1,h2⟩=>⟨R.wm (x O zd) h1,xy.wm (λO hO=>x O (by simp [hO])) h2⟩
theorem xy.mono{h:y7}{G G':Nat->Prop}(x:∀b,G b->G' b) :∀{rs:List yh} {os:List (Nat->Prop)},xy h G rs os->xy h G' rs os
 | [],[],_=>trivial
 | R :: _,_ :: _,⟨h1,h2⟩=>⟨R.mono x h1,xy.mono x h2⟩
theorem xy.nc{h:y7}{G:Nat->Prop} :∀{rs:List yh} {os:List (Nat->Prop)},xy h G rs os->∀O∈os,∀b,O b->NC h b
 | [],[],_,_,hO,_,_=>by cases hO
 | R :: _,_ :: _,⟨h1,h2⟩,O,hO,b,hb=>by
  rcases List.mem_cons.1 hO with rfl|hO
  ·exact R.nc h1 b hb
  ·exact xy.nc h2 O hO b hb
theorem xy.app{h:y7}{G:Nat->Prop} :∀{r1 r2:List yh} {o1 o2:List (Nat->Prop)},xy h G r1 o1->xy h G r2 o2->xy h G (r1 ++ r2) (o1 ++ o2)
 | [],_,[],_,_,h2=>h2
 | _ :: _,_,_ :: _,_,⟨h1,h3⟩,h2=>⟨h1,h3.app h2⟩
theorem xy.split{h:y7}{G:Nat->Prop} :∀{r1 r2:List yh} {os:List (Nat->Prop)},xy h G (r1 ++ r2) os->∃o1 o2,os=o1 ++ o2/\xy h G r1 o1/\xy h G r2 o2
 | [],r2,os,hr=>⟨[],os,rfl,trivial,hr⟩
 | R :: r1,r2,O :: os,⟨h1,h2⟩=>by
  obtain⟨o1,o2,rfl,h3,h4⟩:=xy.split h2
  exact⟨O :: o1,o2,rfl,⟨h1,h3⟩,h4⟩
 | R :: r1,r2,[],h1=>h1.elim

structure AS where
 env:List (Nat×AV)
 own:List yh
def xd:List (Nat×AV)->Nat->Option AV
 | [],_=>none
 | (k,v) :: r,t=>bif Nat.beq k t then some v else xd r t
theorem vJ(k:Nat)(v:AV)(r:List (Nat×AV))(t:Nat):xd ((k,v) :: r) t=if k=t then some v else xd r t:=by
 simp only [xd]
 by_cases h:k=t
 ·subst h;simp
 ·have:Nat.beq k t=false:=gJ h
  simp [this,h]
def xr(e:List (Nat×AV)):Operand->Option AV
 | .tmp t=>xd e t
 | .const v=>some (.val v)
 | .global g=>some (.val (.pointer (some ⟨g,0,none⟩)))
 | .func f=>some (.fn f [])
def fj(e:List (Nat×AV)):List Operand->Option (List AV)
 | []=>some []
 | x :: r=>match xr e x,fj e r with
  | some v,some l=>some (v :: l)
  | _,_=>none

structure Cx where
 P:Program
 tt:Nat->Option TI
 en:Nat->Bool
 ok:xh P tt en
 T:Nat->Ord×(Nat->xa)
 n:Nat
 rs:Array ResultVar
 K:AV->List yh->Prop
 h0:y7
 G0:Nat->Prop
 O0:Nat->Prop
 fp:Fp
abbrev Cx.at (Γ:Cx) (n:Nat):Cx:=⟨Γ.P,Γ.tt,Γ.en,Γ.ok,Γ.T,Γ.n,Γ.rs,Γ.K,Γ.h0,Γ.G0,Γ.O0,⟨some n⟩⟩
def l7(fp:Fp)(h:y7)(G:Nat->Prop):Prop:=∀n,fp.n=some n->n<=h.size/\∀b,G b->b < n
theorem l7.none{fp:Fp}{h:y7}{G:Nat->Prop}(hn:fp.n=Option.none):l7 fp h G:=λn h=>by rw [hn] at h;cases h
theorem l7.step{fp:Fp}{h h':y7}{G:Nat->Prop}(x:l7 fp h G)(hs:h.size<=h'.size):l7 fp h' G:=λn hn=>⟨Nat.le_trans (x n hn).1 hs,(x n hn).2⟩
theorem l7.o_{fp:Fp}{h:y7}{G:Nat->Prop}(x:l7 fp h G){b:Nat}(hb:G b):b ∉ fp:=by
 obtain⟨n⟩:=fp
 cases n with
 | none=>exact Fp.not_mem_none b
 | some n=>exact λhm=>by have:=(x n rfl).2 b hb;have:=Fp.mem_some.1 hm;omega

abbrev MB (os:List (Nat->Prop)):Prop:=os.Pairwise λA B=>∀b,A b->¬B b

structure yF (h0:y7) (G0 O0:Nat->Prop) (own:List yh) (h:y7) (G:Nat->Prop) (Os:List (Nat->Prop)):Prop where
 own:xy h G own Os
 g:∀b,G b->b < h.size/\(G0 b∨((O0 b∨h0.size<=b)/\NC h b))
 g0:∀b,G0 b->G b
 o:∀O∈Os,∀b,O b->b < h.size/\(O0 b∨h0.size<=b)/\¬G b
 d:MB Os
 fp:uo (λb=>¬O0 b) h0 h
theorem yF.ZF{h0:y7}{G0 O0:Nat->Prop}{own:List yh}{h h2:y7}{G:Nat->Prop}{Os:List (Nat->Prop)}(c:yF h0 G0 O0 own h G Os)(Oj:∀b,G0 b->b < h0.size)(s:uu h0.size h h2):uo G h h2 :=
 ⟨s.size,λb hb hl=>by
  rcases s.same b hl with h1|⟨h1,o,h3,h4⟩
  ·exact h1
  ·rcases(c.g b hb).2 with h5|⟨_,h5⟩
   ·have:=Oj b h5;omega
   ·rw [h5 o h3] at h4;cases h4⟩
theorem yF.shut{h0:y7}{G0 O0:Nat->Prop}{own:List yh}{h h2:y7}{G:Nat->Prop}{Os:List (Nat->Prop)}(c:yF h0 G0 O0 own h G Os)(Oj:∀b,G0 b->b < h0.size)(s:uu h0.size h h2):yF h0 G0 O0 own h2 G Os:=by
 have hf:=c.ZF Oj s
 refine⟨xy.wm (λO hO=>⟨s.size,λb hb hl=>?_⟩) c.own,λb hb=>⟨Nat.lt_of_lt_of_le (c.g b hb).1 s.size,(c.g b hb).2.imp id λq=>⟨q.1,q.2.eq (hf.same b hb (c.g b hb).1)⟩⟩,c.g0,λO hO b hb=>⟨Nat.lt_of_lt_of_le (c.o O hO b hb).1 s.size,(c.o O hO b hb).2⟩,c.d,⟨Nat.le_trans c.fp.size s.size,λb hb hl=>?_⟩⟩
 ·rcases hb with hb|hb
  ·rcases s.same b hl with h1|⟨_,o,h3,h4⟩
   ·exact h1
   ·rw [c.own.nc O hO b hb o h3] at h4;cases h4
  ·exact hf.same b hb hl
 ·rcases s.same b (Nat.lt_of_lt_of_le hl c.fp.size) with h1|⟨h1,_⟩
  ·exact h1.trans (c.fp.same b hb hl)
  ·omega
structure vM (Γ:Cx) (σ:AS) (env:Env) (h:y7) (G:Nat->Prop) (Os:List (Nat->Prop)):Prop where
 hp:yF Γ.h0 Γ.G0 Γ.O0 σ.own h G Os
 env:∀t a,xd σ.env t=some a->∃v,look env t=some v/\a.R h G v
 nf:l7 Γ.fp h G

section
variable {Γ:Cx} {σ:AS} {env:Env} {h:y7} {G:Nat->Prop} {Os:List (Nat->Prop)}
theorem vM.get(c:vM Γ σ env h G Os){x:Operand}{a:AV}(hx:xr σ.env x=some a) :∃v,ev env x=some v/\a.R h G v:=by
 cases x with
 | tmp t=>exact c.env t a hx
 | const v=>simp only [xr,Option.some.injEq] at hx;subst hx;exact⟨v,rfl,rfl⟩
 | global g=>simp only [xr,Option.some.injEq] at hx;subst hx;exact⟨_,rfl,rfl⟩
 | func f=>simp only [xr,Option.some.injEq] at hx;subst hx;exact⟨_,rfl,[],rfl,trivial⟩
theorem vM.Xg(c:vM Γ σ env h G Os) :∀{xs:List Operand} {yM:List AV},fj σ.env xs=some yM->∃vs,vm env xs=some vs/\xb h G vs yM
 | [],yM,hx=>by simp only [fj,Option.some.injEq] at hx;subst hx;exact⟨[],rfl,trivial⟩
 | x :: r,yM,hx=>by
  simp only [fj] at hx
  split at hx
  ·rename_i a l h1 h2
   simp only [Option.some.injEq] at hx
   subst hx
   obtain⟨v,e1,r1⟩:=c.get h1
   obtain⟨vs,e2,r2⟩:=c.Xg h2
   exact⟨v :: vs,by simp [vm,e1,e2],r1,r2⟩
  ·cases hx
theorem vM.put(c:vM Γ σ env h G Os)(d:Nat){a:AV}{v:Value}(hr:a.R h G v):vM Γ ⟨(d,a) :: σ.env,σ.own⟩ ((d,v) :: env) h G Os:=by
 refine⟨c.hp,λt b hb=>?_,c.nf⟩
 rw [vJ] at hb
 rw [uW]
 by_cases hd:d=t
 ·rw [if_pos hd] at hb ⊢;cases hb;exact⟨v,rfl,hr⟩
 ·rw [if_neg hd] at hb ⊢;exact c.env t b hb

inductive Take:List yh->yh->List yh->Prop where
 | here {R:yh} {l:List yh}:Take (R :: l) R l
 | there {R S:yh} {l l':List yh}:Take l R l'->Take (S :: l) R (S :: l')
theorem Take.own{rs:List yh}{R:yh}{rest:List yh}(t:Take rs R rest) :∀{os:List (Nat->Prop)},xy h G rs os->∃O nO,R.R h O G/\xy h G rest nO/\os.Perm (O :: nO):=by
 induction t with
 | here =>
  intro os ho
  match os,ho with
  | O :: os,⟨h1,h2⟩=>exact⟨O,os,h1,h2,List.Perm.refl _⟩
 | there _ ih =>
  intro os ho
  match os,ho with
  | O :: os,⟨h1,h2⟩ =>
   obtain⟨O',nO,h3,h4,h5⟩:=ih h2
   exact⟨O',O :: nO,h3,⟨h1,h4⟩,(List.Perm.cons O h5).trans (List.Perm.swap O' O nO)⟩
theorem yF.perm{h0:y7}{G0 O0:Nat->Prop}{own wE:List yh}{yz:List (Nat->Prop)}(c:yF h0 G0 O0 own h G Os)(ho:xy h G wE yz)(hp:Os.Perm yz):yF h0 G0 O0 wE h G yz :=
 ⟨ho,c.g,c.g0,λO hO=>c.o O (hp.mem_iff.2 hO),(List.Perm.pairwise_iff (λpz b h1 h2=>pz b h2 h1) hp).1 c.d,c.fp⟩
theorem yF.take{h0:y7}{G0 O0:Nat->Prop}{own:List yh}(c:yF h0 G0 O0 own h G Os){R:yh}{rest:List yh}(t:Take own R rest) :∃O yz,yF h0 G0 O0 (R :: rest) h G (O :: yz):=by
 obtain⟨O,nO,h1,h2,h3⟩:=t.own c.own
 exact⟨O,nO,c.perm ⟨h1,h2⟩ h3⟩
theorem vM.take(c:vM Γ σ env h G Os){R:yh}{rest:List yh}(t:Take σ.own R rest) :∃O yz,vM Γ ⟨σ.env,R :: rest⟩ env h G (O :: yz):=by
 obtain⟨O,nO,h1⟩:=c.hp.take t
 exact⟨O,nO,h1,c.env,c.nf⟩
inductive lF:List yh->List yh->Prop where
 | nil {l:List yh}:lF l []
 | cons {l rest l':List yh} {R:yh}:Take l R rest->lF rest l'->lF l (R :: l')
theorem yF.drop{h0:y7}{G0 O0:Nat->Prop}{R:yh}{rest:List yh}{O:Nat->Prop}(c:yF h0 G0 O0 (R :: rest) h G (O :: Os)):yF h0 G0 O0 rest h G Os :=
 ⟨c.own.2,c.g,c.g0,λO hO=>c.o O (by simp [hO]),(List.pairwise_cons.1 c.d).2,c.fp⟩
theorem yF.sub{h0:y7}{G0 O0:Nat->Prop}{own wE:List yh}(s:lF own wE) :∀{Os:List (Nat->Prop)},yF h0 G0 O0 own h G Os->∃yz,yF h0 G0 O0 wE h G yz/\∀O∈yz,O∈Os:=by
 induction s with
 | nil=>exact λc=>⟨[],⟨trivial,c.g,c.g0,λO hO=>(by cases hO),List.Pairwise.nil,c.fp⟩,λO hO=>(by cases hO)⟩
 | @cons l rest l' R t _ ih =>
  intro Os c
  obtain⟨O,nO,h1,h2,h3⟩:=t.own c.own
  have c1:yF h0 G0 O0 (R :: rest) h G (O :: nO):=c.perm ⟨h1,h2⟩ h3
  obtain⟨qi,c2,hs⟩:=ih c1.drop
  refine⟨O :: qi,⟨⟨h1,c2.own⟩,c.g,c.g0,λX hX=>?_,List.pairwise_cons.2 ⟨λX hX=>(List.pairwise_cons.1 c1.d).1 X (hs X hX),c2.d⟩,c.fp⟩,λX hX=>?_⟩
  ·rcases List.mem_cons.1 hX with rfl|hX
   ·exact c1.o _ zd
   ·exact c2.o X hX
  ·rcases List.mem_cons.1 hX with rfl|hX
   ·exact h3.mem_iff.2 zd
   ·exact h3.mem_iff.2 (by simp [hs X hX])

theorem yF.jT{h0:y7}{G0 O0:Nat->Prop}{R R':yh}{rest:List yh}{O O':Nat->Prop}{h':y7}(c:yF h0 G0 O0 (R :: rest) h G (O :: Os))(x:uo (λb=>¬O b) h h')(hO:∀b,O' b->b < h'.size/\(O b∨h.size<=b))(hr:R'.R h' O' G) :
  yF h0 G0 O0 (R' :: rest) h' G (O' :: Os)/\uo G h h':=by
 have hg:uo G h h':=x.mono λb hb ho=>(c.o O zd b ho).2.2 hb
 have hd:=List.pairwise_cons.1 c.d
 have hs:=c.fp.size
 have bf:=x.size
 have yD:∀X∈Os,∀b,X b->¬O' b:=λX hX b hb ho=>by
  rcases(hO b ho).2 with h1|h1
  ·exact hd.1 X hX b h1 hb
  ·have:=(c.o X (by simp [hX]) b hb).1;omega
 refine⟨⟨⟨hr,xy.wm (λX hX=>x.mono λb hb ho=>?_) c.own.2⟩,λb hb=>⟨Nat.lt_of_lt_of_le (c.g b hb).1 x.size,(c.g b hb).2.imp id λq=>⟨q.1,q.2.eq (hg.same b hb (c.g b hb).1)⟩⟩,c.g0,λX hX b hb=>?_,List.pairwise_cons.2 ⟨λX hX b h1 h2=>yD X hX b h2 h1,hd.2⟩,⟨Nat.le_trans hs bf,λb hb hl=>?_⟩⟩,hg⟩
 ·rcases hb with hb|hb
  ·exact hd.1 X hX b ho hb
  ·exact(c.o O zd b ho).2.2 hb
 ·rcases List.mem_cons.1 hX with rfl|hX
  ·obtain⟨h1,h2⟩:=hO b hb
   rcases h2 with h2|h2
   ·have:=c.o O zd b h2;exact⟨h1,this.2⟩
   ·exact⟨h1,.inr z6,λBe=>by have:=(c.g b Be).1;omega⟩
  ·have:=c.o X (by simp [hX]) b hb
   exact⟨z6,this.2⟩
 ·rw [x.same b (λho=>?_) (Nat.lt_of_lt_of_le hl hs)]
  ·exact c.fp.same b hb hl
  ·rcases(c.o O zd b ho).2.1 with h1|h1
   ·exact hb h1
   ·omega
theorem vM.jT{R R':yh}{e:List (Nat×AV)}{rest:List yh}{O O':Nat->Prop}{h':y7}(c:vM Γ ⟨e,R :: rest⟩ env h G (O :: Os))(x:uo (λb=>¬O b) h h')(hO:∀b,O' b->b < h'.size/\(O b∨h.size<=b))(hr:R'.R h' O' G) :
  vM Γ ⟨e,R' :: rest⟩ env h' G (O' :: Os):=by
 obtain⟨h1,h2⟩:=c.hp.jT x hO hr
 refine⟨h1,λt a ha=>?_,c.nf.step x.size⟩
 obtain⟨v,h3,h4⟩:=c.env t a ha
 exact⟨v,h3,a.wm h2 h4⟩
def z0g:yh:=⟨λ_ O _=>∀b,¬O b,λ_ h=>h,λ_ h=>h,λh b hb=>absurd hb (h b)⟩
theorem vM.emp(c:vM Γ σ env h G Os):vM Γ ⟨σ.env,z0g :: σ.own⟩ env h G ((λ_=>False) :: Os) :=
 ⟨⟨⟨λ_ h=>h,c.hp.own⟩,c.hp.g,c.hp.g0,λO hO b hb=>by
   rcases List.mem_cons.1 hO with rfl|hO
   ·exact hb.elim
   ·exact c.hp.o O hO b hb,List.pairwise_cons.2 ⟨λ_ _ _ h=>h.elim,c.hp.d⟩,c.hp.fp⟩,c.env,c.nf⟩
theorem vM.new(c:vM Γ σ env h G Os){b:Nat}{T:TypeId}{vs:List Value}{h':y7}(x:et h b T vs h'){R:yh}{O:Nat->Prop}(hO:∀y,O y->y=b)(hr:R.R h' O G):vM Γ ⟨σ.env,R :: σ.own⟩ env h' G (O :: Os) :=
 c.emp.jT ⟨(x.wm (fp:= [])).size,λy _ hl=>(x.wm (fp:= [])).same y hl zd⟩ (λy hy=>by have:=x.size;have:=x.eb;have:=hO y hy;omega) hr
theorem vM.Fy(_:vM Γ σ env h G Os){b:Nat}{T:TypeId}{vs:List Value}{h':y7}(x:et h b T vs h'):uo G h h':=⟨(x.wm (fp:= [])).size,λy _ hl=>(x.wm (fp:= [])).same y hl zd⟩
theorem vM.freeze{R:yh}{e:List (Nat×AV)}{rest:List yh}{O:Nat->Prop}(c:vM Γ ⟨e,R :: rest⟩ env h G (O :: Os))(bH:Γ.fp.n=none:=by rfl):vM Γ ⟨e,rest⟩ env h (λb=>G b∨O b) Os:=by
 have hd:=List.pairwise_cons.1 c.hp.d
 refine⟨⟨c.hp.own.2.mono λ_=> .inl,λb hb=>?_,λb hb=> .inl (c.hp.g0 b hb),λX hX b hb=>?_,hd.2,c.hp.fp⟩,λt a ha=>?_,l7.none bH⟩
 ·rcases hb with hb|hb
  ·exact c.hp.g b hb
  ·have:=c.hp.o O zd b hb;exact⟨this.1,.inr ⟨this.2.1,R.nc c.hp.own.1 b hb⟩⟩
 ·have:=c.hp.o X (by simp [hX]) b hb
  exact⟨this.1,this.2.1,λhg=>hg.elim this.2.2 (λho=>hd.1 X hX b ho hb)⟩
 ·obtain⟨v,h3,h4⟩:=c.env t a ha
  exact⟨v,h3,a.mono (λ_=> .inl) h4⟩
end

class Sp (g:Prop) (s:outParam Prop):Prop where
 h:s->g
abbrev EA:=List (Nat×AV)
abbrev NA:=EA->List yh->Prop

structure Lk {α:Type} (o:Option α) (k:α->Prop):Prop where
 ok:∃a,o=some a/\k a
theorem Lk.r{α:Type}{o:Option α}{k:α->Prop}{a:α}(h:o=some a)(hk:k a):Lk o k:=⟨a,h,hk⟩
structure Rf (p k:Prop):Prop where
 p:p
 k:k
structure Om (p k:Prop):Prop where
 p:p
 k:k
structure Ov (i:Int) (M:Int->Prop):Prop where
 h:M (IntKind.i64.wrap i)
theorem Ov.n{i:Int}{M:Int->Prop}(h: -9223372036854775808<=i/\i<=9223372036854775807)(hm:M i):Ov i M:=⟨by rw [show IntKind.i64.wrap i=i by rw [IntKind.wrap_i64];omega];exact hm⟩
theorem Ov.w{i:Int}{M:Int->Prop}(hm:∀r:Int,-9223372036854775808<=r->r<=9223372036854775807->(∃q:Int,r=i+q * 18446744073709551616)->M r):Ov i M:=⟨hm _ (dv i).1 (dv i).2 (wrap_add i)⟩
structure Bd (p X Y:Prop):Prop where
 x:p->X
 y:¬p->Y
theorem Bd.t{p X Y:Prop}(h:p)(hx:X):Bd p X Y:=⟨λ_=>hx,λhn=>absurd h hn⟩
theorem Bd.f{p X Y:Prop}(h:¬p)(hy:Y):Bd p X Y:=⟨λhp=>absurd hp h,λ_=>hy⟩
structure mS (fp:Fp) (c:xa) (b:Nat) (k:Prop):Prop where
 h:c= .read->b ∉ fp
 k:k
def Uj:xa->Bool | .read=>true|_=>false
theorem mS.nr{fp:Fp}{c:xa}{b:Nat}{k:Prop}(h:Uj c=false)(hk:k):mS fp c b k:=⟨λe=>(by rw [e] at h;cases h),hk⟩
theorem mS.lt{n:Nat}{c:xa}{b:Nat}{k:Prop}(h:b < n)(hk:k):mS ⟨some n⟩ c b k:=⟨λ_ hm=>(by have:=Fp.mem_some.1 hm;omega),hk⟩
instance {c:xa} {b:Nat} {k:Prop}:Sp (mS ⟨none⟩ c b k) k:=⟨λh=>⟨λ_=>Fp.not_mem_none b,h⟩⟩
structure ZB (fp:Fp) (c:xa) (k:Prop):Prop where
 h:c= .read->∀b,b ∉ fp
 k:k
theorem ZB.nr{fp:Fp}{c:xa}{k:Prop}(h:Uj c=false)(hk:k):ZB fp c k:=⟨λe=>(by rw [e] at h;cases h),hk⟩
instance {c:xa} {k:Prop}:Sp (ZB ⟨none⟩ c k) k:=⟨λh=>⟨λ_ b=>Fp.not_mem_none b,h⟩⟩
structure Im (p k:Prop):Prop where
 k:p->k

section
variable (Γ:Cx)
def CN(N:NA)(env:Env)(h:y7):Prop:=∃e o G Os,N e o/\vM Γ ⟨e,o⟩ env h G Os
def fm(env:Env)(h:y7):Prop:=∃v r own G Os,uj Γ.P Γ.n Γ.rs env h v/\Γ.K r own/\r.R h G v/\yF Γ.h0 Γ.G0 Γ.O0 own h G Os
structure CA (k:List KI) (c:Code) (e:EA) (o:List yh):Prop where
 h:∀env h G Os,vM Γ ⟨e,o⟩ env h G Os->CW Γ.P Γ.n c (PK Γ.P Γ.n (fm Γ) k) env h
structure PA (k:List KI) (x:Exit) (e:EA) (o:List yh):Prop where
 h:∀env h G Os,vM Γ ⟨e,o⟩ env h G Os->PK Γ.P Γ.n (fm Γ) k x env h
structure OA (k:List KI) (ops:Array Oper) (l:List Oper) (e:EA) (o:List yh):Prop where
 h:(l.all λop=>eB Γ.n op.dst)=true->∀env h G Os,vM Γ ⟨e,o⟩ env h G Os->OW Γ.P Γ.n ops (PK Γ.P Γ.n (fm Γ) k) l env h
structure vn (k:List KI) (ops:Array Oper) (cl:Nat->xa) (t:Ord) (e:EA) (o:List yh):Prop where
 h:(ops.toList.all λop=>eB Γ.n op.dst)=true->∀env h G Os,vM Γ ⟨e,o⟩ env h G Os->RW Γ.P Γ.n Γ.fp ops cl (PK Γ.P Γ.n (fm Γ) k) t env h
structure SA (c:xa) (dst:Option Tmp) (op:Op) (ty:TypeId) (e:EA) (o:List yh) (N:NA):Prop where
 h:∀env h G Os,vM Γ ⟨e,o⟩ env h G Os->St Γ.P Γ.n Γ.fp c dst op ty env h (CN Γ N)
structure Ex (ops:Array Oper) (c:xa) (op:Oper) (e:EA) (o:List yh) (N:NA):Prop where
 h:∀env h G Os,vM Γ ⟨e,o⟩ env h G Os->(gd ops env op true/\St Γ.P Γ.n Γ.fp c op.dst op.op op.type env h (CN Γ N))∨(gd ops env op false/\CN Γ N (rG env op.dst undef) h)
structure Br (a:AV) (X Y:Prop):Prop where
 h:∀h G v,a.R h G v->∃b,v= .bool b/\(b=true->X)/\(b=false->Y)
end

theorem St.mono{P:Program}{n:Nat}{γ:Type}[Membership Nat γ]{fp:γ}{c:xa}{dst:Option Tmp}{op:Op}{ty:TypeId}{env:Env}{h:y7}{N N':Env->y7->Prop}(s:St P n fp c dst op ty env h N)(hk:∀e h,N e h->N' e h):St P n fp c dst op ty env h N' :=
  ⟨λhc=>let ⟨v,h1,h2⟩:=s.pu hc;⟨v,h1,hk _ _ h2⟩,λhc=>let ⟨v,h1,h2⟩:=s.rd hc;⟨v,h1,hk _ _ h2⟩,
   λhc=>(s.ex hc).mono λ_ _ h=>⟨h.1,hk _ _ h.2⟩,λhc=>(s.ld hc).mono λ_ _ h=>hk _ _ h⟩

section
variable {Γ:Cx} {k:List KI} {e:EA} {o:List yh} {ops:Array Oper} {l:List Oper} {cl:Nat->xa} {N:NA}
theorem CN.mk{env:Env}{h:y7}{G:Nat->Prop}{Os:List (Nat->Prop)}(c:vM Γ ⟨e,o⟩ env h G Os)(hn:N e o):CN Γ N env h:=⟨e,o,G,Os,hn,c⟩

/-! ### DL -/
instance {X Y:Prop}:Sp (Br (.val (.bool true)) X Y) X:=⟨λhx=>⟨by rintro h G v rfl;exact⟨true,rfl,λ_=>hx,λh=>by cases h⟩⟩⟩
instance {X Y:Prop}:Sp (Br (.val (.bool false)) X Y) Y:=⟨λhx=>⟨by rintro h G v rfl;exact⟨false,rfl,λh=>(by cases h),λ_=>hx⟩⟩⟩
instance (priority:=900) {p X Y:Prop} [Decidable p]:Sp (Br (.val (.bool (decide p))) X Y) (Bd p X Y):=⟨λhx=>⟨by rintro h G v rfl;exact⟨decide p,rfl,λh=>hx.x (of_decide_eq_true h),λh=>hx.y (of_decide_eq_false h)⟩⟩⟩
instance {p X Y:Prop} [Decidable p]:Sp (Br (.val (.bool (decide (¬p)))) X Y) (Bd p Y X):=⟨λhx=>⟨by rintro h G v rfl;exact⟨decide (¬p),rfl,λh=>hx.y (of_decide_eq_true h),λh=>hx.x (Decidable.not_not.1 (of_decide_eq_false h))⟩⟩⟩
instance {α:Type} {i j:α} {X Y:Prop} [DecidableEq α]:Sp (Br (.val (.bool (decide (i≠j)))) X Y) (Bd (i=j) Y X):=⟨λhx=>⟨by rintro h G v rfl;exact⟨decide (i≠j),rfl,λh=>hx.y (of_decide_eq_true h),λh=>hx.x (Decidable.not_not.1 (of_decide_eq_false h))⟩⟩⟩
instance (priority:=800) {b:Bool} {X Y:Prop}:Sp (Br (.val (.bool b)) X Y) (Bd (b=true) X Y):=⟨λhx=>⟨by rintro h G v rfl;exact⟨b,rfl,λh=>hx.x h,λh=>hx.y (by simp [h])⟩⟩⟩
instance {b:Bool} {X Y:Prop}:Sp (Br (.val (.bool (!b))) X Y) (Bd (b=true) Y X):=⟨λhx=>⟨by rintro h G v rfl;exact⟨!b,rfl,λh=>hx.y (by simpa using h),λh=>hx.x (by simpa using h)⟩⟩⟩

/-! ### Control -/
instance {x y:Code}:Sp (CA Γ k (.seq x y) e o) (CA Γ (.code y :: k) x e o):=⟨λh=>⟨λenv hp G Os c=>CW.seq (h.h env hp G Os c)⟩⟩
instance:Sp (CA Γ k .skip e o) (PA Γ k .normal e o):=⟨λh=>⟨λenv hp G Os c=>CW.skip (h.h env hp G Os c)⟩⟩
instance:Sp (CA Γ k .ret e o) (PA Γ k .ret e o):=⟨λh=>⟨λenv hp G Os c=>CW.ret (h.h env hp G Os c)⟩⟩
instance {i:Nat}:Sp (CA Γ k (.exit i) e o) (PA Γ k (.exit i) e o):=⟨λh=>⟨λenv hp G Os c=>CW.exit (h.h env hp G Os c)⟩⟩
instance {i:Nat} {x:Code}:Sp (CA Γ k (.block i x) e o) (CA Γ (.rD i :: k) x e o):=⟨λh=>⟨λenv hp G Os c=>CW.block (h.h env hp G Os c)⟩⟩
instance {x:Operand} {c1 c2:Code}:Sp (CA Γ k (.cond x c1 c2) e o) (Lk (xr e x) λa=>Br a (CA Γ k c1 e o) (CA Γ k c2 e o)):=⟨λ⟨a,ha,hb⟩=>⟨λenv hp G Os c=>by
 obtain⟨v,h1,h2⟩:=c.get ha
 obtain⟨b,rfl,h3,h4⟩:=hb.h hp G v h2
 exact CW.cond h1 (λh=>(h3 h).h env hp G Os c) (λh=>(h4 h).h env hp G Os c)⟩⟩
instance {i:Nat}:Sp (CA Γ k (.region i l.toArray false) e o) (Rf ((l.all λop=>eB Γ.n op.dst)=true) (OA Γ k l.toArray l e o)):=⟨λh=>⟨λenv hp G Os c=>CW.region (h.k.h h.p env hp G Os c)⟩⟩
inductive ON:Ord->Ord->Prop where
 | done:ON .done .done
 | none:ON .none .none
 | one {i:Nat} {r r':Ord}:ON r r'->ON (.one i r) (.one i r')
 | alt {i:Nat} {r r' m m':Ord}:ON r r'->ON m m'->ON (.alt i r m) (.alt i r' m')
theorem ON.eq :∀{a b:Ord},ON a b->a=b
 | _,_,.done=>rfl
 | _,_,.none=>rfl
 | _,_,.one h=>by rw [h.eq]
 | _,_,.alt h h'=>by rw [h.eq,h'.eq]
theorem CA.draw{i:Nat}{t:Ord}(BK:yN ((Γ.T i).2 ops.size)=true)(hn:Region.noSelect ops=true)(hc:Oo ops (Γ.T i).2 (Γ.T i).1 ops.size true (Array.replicate ops.size false)=true)(ho:ON (Γ.T i).1 t)(hd:(ops.toList.all λop=>eB Γ.n op.dst)=true)(h:vn Γ k ops (Γ.T i).2 t e o):CA Γ k (.region i ops true) e o :=
 ⟨λenv hp G Os c=>CW.l9 Γ.fp Γ.T Γ.ok.mix hn hc (ho.eq▸h.h hd env hp G Os c)⟩
instance {y:Code}:Sp (PA Γ (.code y :: k) .normal e o) (CA Γ k y e o):=⟨λh=>⟨λenv hp G Os c=>PK.cT (h.h env hp G Os c)⟩⟩
instance {i:Nat}:Sp (PA Γ (.rD i :: k) .normal e o) (PA Γ k .normal e o):=⟨λh=>⟨λenv hp G Os c=>PK.Zc (h.h env hp G Os c)⟩⟩
instance {y:Code}:Sp (PA Γ (.code y :: k) .ret e o) (PA Γ k .ret e o):=⟨λh=>⟨λenv hp G Os c=>PK.TS (h.h env hp G Os c)⟩⟩
instance {i:Nat}:Sp (PA Γ (.rD i :: k) .ret e o) (PA Γ k .ret e o):=⟨λh=>⟨λenv hp G Os c=>PK.Ps (h.h env hp G Os c)⟩⟩
instance {I:Env->y7->Prop}:Sp (PA Γ (.lp I :: k) .ret e o) (PA Γ k .ret e o):=⟨λh=>⟨λenv hp G Os c=>PK.Ih (h.h env hp G Os c)⟩⟩
instance {y:Code} {i:Nat}:Sp (PA Γ (.code y :: k) (.exit i) e o) (PA Γ k (.exit i) e o):=⟨λh=>⟨λenv hp G Os c=>PK.Wq (h.h env hp G Os c)⟩⟩
instance {I:Env->y7->Prop} {i:Nat}:Sp (PA Γ (.lp I :: k) (.exit i) e o) (PA Γ k (.exit i) e o):=⟨λh=>⟨λenv hp G Os c=>PK.QN (h.h env hp G Os c)⟩⟩
instance {i:Nat}:Sp (PA Γ (.rD i :: k) (.exit i) e o) (PA Γ k .normal e o):=⟨λh=>⟨λenv hp G Os c=>PK.S7 (h.h env hp G Os c)⟩⟩
instance (priority:=900) {i j:Nat}:Sp (PA Γ (.rD j :: k) (.exit i) e o) (Rf (Nat.beq i j=false) (PA Γ k (.exit i) e o)):=⟨λh=>⟨λenv hp G Os c=>PK.cV h.p (h.k.h env hp G Os c)⟩⟩

/-! ### Operations one by one -/
instance:Sp (OA Γ k ops [] e o) (PA Γ k .normal e o):=⟨λh=>⟨λ_ env hp G Os c=>OW.nil (h.h env hp G Os c)⟩⟩
theorem OA.cons{op:Oper}(h:Ex Γ ops .uJ op e o (OA Γ k ops l)):OA Γ k ops (op :: l) e o:=⟨λhd env hp G Os c=>by
 simp only [List.all_cons,Bool.and_eq_true] at hd
 rcases h.h env hp G Os c with⟨h1,h2⟩|⟨h1,h2⟩
 ·exact OW.step h1 hd.1 (h2.mono λe' h' ⟨a,b,G',yz,hn,hc⟩=>hn.h hd.2 _ _ _ _ hc)
 ·obtain⟨a,b,G',yz,hn,hc⟩:=h2
  exact OW.pass h1 hd.1 (hn.h hd.2 _ _ _ _ hc)⟩
instance {op:Oper} {a b:List Oper}:Sp (OA Γ k ops (List.append (op :: a) b) e o) (OA Γ k ops (op :: List.append a b) e o):=⟨id⟩
instance {b:List Oper}:Sp (OA Γ k ops (List.append [] b) e o) (OA Γ k ops b e o):=⟨id⟩
instance (priority:=800) {op:Oper}:Sp (OA Γ k ops (op :: l) e o) (Ex Γ ops .uJ op e o (OA Γ k ops l)):=⟨OA.cons⟩
instance:Sp (vn Γ k ops cl .done e o) (PA Γ k .normal e o):=⟨λh=>⟨λ_ env hp G Os c=>RW.done (h.h env hp G Os c)⟩⟩
theorem CA.sB{i:Nat}{t:Ord}(BK:yN ((Γ.T i).2 ops.size)=false)(hn:Region.noSelect ops=true)(hc:Oo ops (Γ.T i).2 (Γ.T i).1 ops.size true (Array.replicate ops.size false)=true)(ho:ON (Γ.T i).1 t)(hd:(ops.toList.all λop=>eB Γ.n op.dst)=true)
  (h:∀n,(∀b T cs rest,Take o (yr b T cs) rest->b < n)->vn (Γ.at n) k ops (Γ.T i).2 t e o):CA Γ k (.region i ops true) e o :=
 ⟨λenv hp G Os c=>by
  refine CW.l9 (⟨some hp.size⟩:Fp) Γ.T Γ.ok.mix hn hc (ho.eq▸(h hp.size λb T cs rest tk=>?_).h hd env hp G Os ⟨c.hp,c.env,λn hn=>?_⟩)
  ·obtain⟨O,yz,c2⟩:=c.take tk
   obtain⟨_,vs,hb,_⟩:=c2.hp.own.1
   exact hb.lt
  ·cases hn
   exact⟨Nat.le_refl _,λb hb=>(c.hp.g b hb).1⟩⟩
instance (priority:=1100) {P:Program} {tt:Nat->Option TI} {en:Nat->Bool} {ok:xh P tt en} {T:Nat->Ord×(Nat->xa)} {m:Nat} {rs:Array ResultVar} {K:AV->List yh->Prop} {h0:y7} {G0 O0:Nat->Prop} {n:Nat} :
  Sp (vn ⟨P,tt,en,ok,T,m,rs,K,h0,G0,O0,⟨some n⟩⟩ k ops cl .done e o) (PA ⟨P,tt,en,ok,T,m,rs,K,h0,G0,O0,⟨none⟩⟩ k .normal e o):=⟨λh=>⟨λ_ env hp G Os c=>RW.done (h.h env hp G Os ⟨c.hp,c.env,l7.none rfl⟩)⟩⟩
instance:Sp (vn Γ k ops cl .none e o) True:=⟨λ_=>⟨λ_ _ _ _ _ _=>RW.none⟩⟩
structure yu (x:Option Oper) (M:Option Tmp->Op->TypeId->String->Array Edge->Option (Nat×Bool)->Prop):Prop where
 ok:∃dst op ty pos after guard,x=some ⟨dst,op,ty,pos,after,guard⟩/\M dst op ty pos after guard
theorem yu.r{x:Option Oper}{M:Option Tmp->Op->TypeId->String->Array Edge->Option (Nat×Bool)->Prop}{dst:Option Tmp}{op:Op}{ty:TypeId}{pos:String}{after:Array Edge}{guard:Option (Nat×Bool)}(h:x=some ⟨dst,op,ty,pos,after,guard⟩)(hm:M dst op ty pos after guard):yu x M:=⟨_,_,_,_,_,_,h,hm⟩
instance {i:Nat} {r:Ord}:Sp (vn Γ k ops cl (.one i r) e o) (yu ops[i]? λdst op ty pos after guard=>Ex Γ ops (cl i) ⟨dst,op,ty,pos,after,guard⟩ e o (vn Γ k ops cl r)):=⟨λ⟨dst,op,ty,pos,after,guard,ho,h⟩=>⟨λhd env hp G Os c=>by
 have Og:eB Γ.n dst=true:=by
  have h1:=List.all_eq_true.1 hd _ (Array.mem_toList_iff.2 (Array.mem_of_getElem? ho))
  exact h1
 rcases h.h env hp G Os c with⟨h1,h2⟩|⟨h1,h2⟩
 ·exact RW.step ho h1 Og (h2.mono λe' h' ⟨a,b,G',yz,hn,hc⟩=>hn.h hd _ _ _ _ hc)
 ·obtain⟨a,b,G',yz,hn,hc⟩:=h2
  exact RW.pass ho h1 Og (hn.h hd _ _ _ _ hc)⟩⟩
instance {i:Nat} {ri m:Ord}:Sp (vn Γ k ops cl (.alt i ri m) e o) (vn Γ k ops cl (.one i ri) e o/\vn Γ k ops cl m e o):=⟨λh=>⟨λhd env hp G Os c=>RW.alt (h.1.h hd env hp G Os c) (h.2.h hd env hp G Os c)⟩⟩
theorem vn.both{r s:Ord}(h1:vn Γ k ops cl r e o)(h2:vn Γ k ops cl s e o):vn Γ k ops cl r e o/\vn Γ k ops cl s e o:=⟨h1,h2⟩
variable {c:xa} {d:Tmp} {dst:Option Tmp} {op:Op} {ty:TypeId} {pos:String} {after:Array Edge} {j:Nat} {want:Bool}
instance:Sp (Ex Γ ops c ⟨dst,op,ty,pos,after,none⟩ e o N) (SA Γ c dst op ty e o N):=⟨λh=>⟨λenv hp G Os c=> .inl ⟨P0 rfl,h.h env hp G Os c⟩⟩⟩
structure Gd (a:AV) (want:Bool) (X Y:Prop):Prop where
 h:∀h G v,a.R h G v->(∃b,v= .bool b/\(b=want->X)/\(b=(!want)->Y))∨(v=undef/\Y)
instance {a:AV} {X Y s:Prop} [hs:Sp (Br a X Y) s]:Sp (Gd a true X Y) s:=⟨λh=>⟨λhp G v hv=> .inl ((hs.h h).h hp G v hv)⟩⟩
instance {a:AV} {X Y s:Prop} [hs:Sp (Br a Y X) s]:Sp (Gd a false X Y) s:=⟨λh=>⟨λhp G v hv=> .inl (let ⟨b,h1,h2,h3⟩:=(hs.h h).h hp G v hv;⟨b,h1,h3,h2⟩)⟩⟩
instance (priority:=1100) {X Y:Prop}:Sp (Gd (.val undef) want X Y) Y:=⟨λh=>⟨by rintro hp G v rfl;exact .inr ⟨rfl,h⟩⟩⟩
instance:Sp (Ex Γ ops c ⟨some d,op,ty,pos,after,some (j,want)⟩ e o N) (Lk ((ops[j]?).bind (·.dst)) λq=>Lk (xd e q) λa=>Gd a want (SA Γ c (some d) op ty e o N) (N ((d,.val undef) :: e) o)):=⟨λ⟨q,hq,a,ha,h⟩=>⟨λenv hp G Os c=>by
 obtain⟨v,h1,h2⟩:=c.env q a ha
 rcases h.h hp G v h2 with⟨b,rfl,hx,hy⟩|⟨rfl,hy⟩
 ·by_cases hb:b=want
  ·exact .inl ⟨IC rfl hq h1 hb,(hx hb).h env hp G Os c⟩
  ·have sA:b= !want:=by cases b <;> cases want <;> simp_all
   exact .inr ⟨Dj rfl hq h1 sA,CN.mk (c.put d rfl) (hy sA)⟩
 ·exact .inr ⟨Tv rfl hq h1,CN.mk (c.put d rfl) hy⟩⟩⟩
instance:Sp (OA Γ k ops (⟨dst,op,ty,pos,after,none⟩ :: l) e o) (SA Γ .uJ dst op ty e o (OA Γ k ops l)):=⟨λh=>OA.cons (Sp.h h)⟩
/-! ### The aL that z2e no memory -/
structure lO (Γ:Cx) (c:xa) (d:Tmp) (op:Op) (ty:TypeId) (e:EA) (o:List yh) (N:NA) (x:Operand) (a:AV):Prop where
 h:xr e x=some a->SA Γ c (some d) op ty e o N
structure tZ (Γ:Cx) (c:xa) (d:Tmp) (op:Op) (ty:TypeId) (e:EA) (o:List yh) (N:NA) (x:Operand) (a:AV) (y:Operand) (b:AV):Prop where
 h:xr e x=some a->xr e y=some b->SA Γ c (some d) op ty e o N
variable {x y z:Operand} {t u:TypeId}
theorem HQ{a:AV}(f:∀env h G v,ev env x=some v->a.R h G v->∃r w,r.R h G w/\N ((d,r) :: e) o/\∀N':Env->y7->Prop,N' ((d,w) :: env) h->St Γ.P Γ.n Γ.fp c (some d) op ty env h N'):lO Γ c d op ty e o N x a :=
 ⟨λha=>⟨λenv h G Os c=>by
  obtain⟨v,h1,h2⟩:=c.get ha
  obtain⟨r,w,h3,h4,h5⟩:=f env h G v h1 h2
  exact h5 _ (CN.mk (c.put d h3) h4)⟩⟩
theorem SR{a b:AV}(f:∀env h G v w,ev env x=some v->ev env y=some w->a.R h G v->b.R h G w->∃r s,r.R h G s/\N ((d,r) :: e) o/\∀N':Env->y7->Prop,N' ((d,s) :: env) h->St Γ.P Γ.n Γ.fp c (some d) op ty env h N'):tZ Γ c d op ty e o N x a y b :=
 ⟨λha hb=>⟨λenv h G Os c=>by
  obtain⟨v,h1,h2⟩:=c.get ha
  obtain⟨w,Zz,eA⟩:=c.get hb
  obtain⟨r,s,h3,h4,h5⟩:=f env h G v w h1 Zz h2 eA
  exact h5 _ (CN.mk (c.put d h3) h4)⟩⟩
theorem eH{v:Value}{s:AV}{w:Value}(hs:∀h G,s.R h G w)(hn:N ((d,s) :: e) o)(f:∀env h (N':Env->y7->Prop),ev env x=some v->N' ((d,w) :: env) h->St Γ.P Γ.n Γ.fp c (some d) op ty env h N'):lO Γ c d op ty e o N x (.val v) :=
 HQ λenv h G u h1 h2=>⟨s,w,hs h G,hn,λN' hk=>f env h N' (by rw [h1];exact congrArg some h2) hk⟩
theorem uT{v v' w:Value}(hn:N ((d,.val w) :: e) o)(f:∀env h (N':Env->y7->Prop),ev env x=some v->ev env y=some v'->N' ((d,w) :: env) h->St Γ.P Γ.n Γ.fp c (some d) op ty env h N'):tZ Γ c d op ty e o N x (.val v) y (.val v') :=
 SR λenv h G u u' h1 Zz h2 eA=>⟨.val w,w,rfl,hn,λN' hk=>f env h N' (by rw [h1];exact congrArg some h2) (by rw [Zz];exact congrArg some eA) hk⟩

instance:Sp (SA Γ c (some d) (.move x) ty e o N) (Lk (xr e x) λa=>N ((d,a) :: e) o):=⟨λ⟨a,ha,h⟩=>⟨λenv hp G Os c=>by
 obtain⟨v,h1,h2⟩:=c.get ha
 exact St.move h1 (CN.mk (c.put d h2) h)⟩⟩
instance:Sp (SA Γ c (some d) (.assign x) ty e o N) (Lk (xr e x) λa=>N ((d,a) :: e) o):=⟨λ⟨a,ha,h⟩=>⟨λenv hp G Os c=>by
 obtain⟨v,h1,h2⟩:=c.get ha
 exact St.assign h1 (CN.mk (c.put d h2) h)⟩⟩
instance:Sp (OA Γ k ops (⟨some d,.move x,ty,pos,after,none⟩ :: l) e o) (Lk (xr e x) λa=>OA Γ k ops l ((d,a) :: e) o):=⟨λh=>OA.cons (Sp.h (Sp.h h))⟩
instance:Sp (OA Γ k ops (⟨some d,.assign x,ty,pos,after,none⟩ :: l) e o) (Lk (xr e x) λa=>OA Γ k ops l ((d,a) :: e) o):=⟨λh=>OA.cons (Sp.h (Sp.h h))⟩
instance:Sp (Ex Γ ops c ⟨some d,.move x,ty,pos,after,none⟩ e o N) (Lk (xr e x) λa=>N ((d,a) :: e) o):=⟨λh=>Sp.h (Sp.h h)⟩
instance:Sp (SA Γ c (some d) (.pick x y z) ty e o N) (Lk (xr e x) λq=>Br q (Lk (xr e y) λa=>N ((d,a) :: e) o) (Lk (xr e z) λa=>N ((d,a) :: e) o)):=⟨λ⟨q,hq,h⟩=>⟨λenv hp G Os c=>by
 obtain⟨v,h1,h2⟩:=c.get hq
 obtain⟨b,rfl,h3,h4⟩:=h.h hp G v h2
 cases b with
 | true =>
  obtain⟨a,ha,hn⟩:=h3 rfl
  obtain⟨v,g1,g2⟩:=c.get ha
  exact St.gl h1 rfl g1 (CN.mk (c.put d g2) hn)
 | false =>
  obtain⟨a,ha,hn⟩:=h4 rfl
  obtain⟨v,g1,g2⟩:=c.get ha
  exact St.aK h1 rfl g1 (CN.mk (c.put d g2) hn)⟩⟩
instance:Sp (SA Γ c (some d) (.nilCheck x) ty e o N) (Lk (xr e x) λa=>lO Γ c d (.nilCheck x) ty e o N x a):=⟨λ⟨_,ha,h⟩=>h.h ha⟩
instance {p:Addr}:Sp (lO Γ c d (.nilCheck x) ty e o N x (.val (.pointer (some p)))) (N ((d,.val (.pointer (some p))) :: e) o):=⟨λhn=>eH (w:= .pointer (some p)) (λ_ _=>rfl) hn λ_ _ _ h k=>St.nilCheck h k⟩
instance {cs:List AV} {i:Nat}:Sp (lO Γ c d (.nilCheck x) ty e o N x (.ad cs i)) (N ((d,.ad cs i) :: e) o):=⟨λhn=>HQ λenv h G v h1 h2=>by
 have eA:=h2
 obtain⟨b,of,vs,rfl,_⟩:=eA
 exact⟨.ad cs i,_,h2,hn,λ_ k=>St.nilCheck h1 k⟩⟩
instance {v:Value} {q i r:Nat}:Sp (lO Γ c d (.nilCheck x) ty e o N x (.oe v q i r)) (N ((d,.oe v q i r) :: e) o):=⟨λhn=>HQ λenv h G v h1 h2=>by
 have eA:=h2
 obtain⟨b,of,len,cap,_,rfl⟩:=eA
 exact⟨.oe _ q i r,_,h2,hn,λ_ k=>St.nilCheck h1 k⟩⟩
instance {q:UnOp}:Sp (SA Γ c (some d) (.unOp q t x) ty e o N) (Lk (xr e x) λa=>lO Γ c d (.unOp q t x) ty e o N x a):=⟨λ⟨_,ha,h⟩=>h.h ha⟩
instance {p:Prop} [Decidable p]:Sp (lO Γ c d (.unOp .not t x) ty e o N x (.val (.bool (decide p)))) (N ((d,.val (.bool (decide (¬p)))) :: e) o):=⟨λhn=>eH (λ_ _=>rfl) hn λ_ _ _ h k=>St.QE h k⟩
instance (priority:=900) {b:Bool}:Sp (lO Γ c d (.unOp .not t x) ty e o N x (.val (.bool b))) (N ((d,.val (.bool (!b))) :: e) o):=⟨λhn=>eH (λ_ _=>rfl) hn λ_ _ _ h k=>St.not h k⟩
instance {i:Int}:Sp (lO Γ c d (.unOp .neg t x) ty e o N x (.val (.int .i64 i))) (Om (-9223372036854775808<= - i/\ - i<=9223372036854775807) (N ((d,.val (.int .i64 (- i))) :: e) o)):=⟨λhn=>eH (λ_ _=>rfl) hn.k λ_ _ _ h k=>St.neg h hn.p k⟩
instance {i:Nat}:Sp (SA Γ c (some d) (.extract x i) ty e o N) (Lk (xr e x) λa=>lO Γ c d (.extract x i) ty e o N x a):=⟨λ⟨_,ha,h⟩=>h.h ha⟩
instance {i:Nat} {cs:List AV}:Sp (lO Γ c d (.extract x i) ty e o N x (.yE cs)) (Lk cs[i]? λa=>N ((d,a) :: e) o):=⟨λ⟨a,ha,hn⟩=>HQ λenv h G v h1 h2=>by
 obtain⟨vs,rfl,hr⟩:=h2
 obtain⟨w,h3,h4⟩:=hr.get ha
 exact⟨a,w,h4,hn,λ_ k=>St.extract h1 h3 k⟩⟩
instance {q:BinOp}:Sp (SA Γ c (some d) (.binOp q t x y u) ty e o N) (Lk (xr e x) λa=>Lk (xr e y) λb=>tZ Γ c d (.binOp q t x y u) ty e o N x a y b):=⟨λ⟨_,ha,_,hb,h⟩=>h.h ha hb⟩
section ints
variable {kk:IntKind} {i j:Int}
instance:Sp (tZ Γ c d (.binOp .add t x y u) ty e o N x (.val (.int .i64 i)) y (.val (.int .i64 j))) (Ov (i+j) λr=>N ((d,.val (.int .i64 r)) :: e) o):=⟨λhn=>uT hn.h λ_ _ _ h h' k=>St.z0s h h' k⟩
instance:Sp (tZ Γ c d (.binOp .sub t x y u) ty e o N x (.val (.int .i64 i)) y (.val (.int .i64 j))) (Ov (i - j) λr=>N ((d,.val (.int .i64 r)) :: e) o):=⟨λhn=>uT hn.h λ_ _ _ h h' k=>St.A1 h h' k⟩
instance:Sp (tZ Γ c d (.binOp .mul t x y u) ty e o N x (.val (.int .i64 i)) y (.val (.int .i64 j))) (Om (-9223372036854775808<=i * j/\i * j<=9223372036854775807) (N ((d,.val (.int .i64 (i * j))) :: e) o)):=⟨λhn=>uT hn.k λ_ _ _ h h' k=>St.mul h h' hn.p k⟩
instance:Sp (tZ Γ c d (.binOp .rem t x y u) ty e o N x (.val (.int kk i)) y (.val (.int kk j))) (Om (0 < j/\0<=i) (N ((d,.val (.int kk (i % j))) :: e) o)):=⟨λhn=>uT hn.k λ_ _ _ h h' k=>St.A7 h h' hn.p.1 hn.p.2 k⟩
instance:Sp (tZ Γ c d (.binOp .quo t x y u) ty e o N x (.val (.int .i64 i)) y (.val (.int .i64 j))) (Om (0 < j/\0<=i/\i<=9223372036854775807) (N ((d,.val (.int .i64 (i / j))) :: e) o)):=⟨λhn=>uT hn.k λ_ _ _ h h' k=>St.Ab h h' hn.p.1 hn.p.2 k⟩
instance:Sp (tZ Γ c d (.binOp .eql t x y u) ty e o N x (.val (.int kk i)) y (.val (.int kk j))) (N ((d,.val (.bool (decide (i=j)))) :: e) o):=⟨λhn=>uT hn λ_ _ _ h h' k=>St.eql h h' k⟩
instance:Sp (tZ Γ c d (.binOp .neq t x y u) ty e o N x (.val (.int kk i)) y (.val (.int kk j))) (N ((d,.val (.bool (decide (¬i=j)))) :: e) o):=⟨λhn=>uT hn λ_ _ _ h h' k=>St.neq h h' k⟩
instance:Sp (tZ Γ c d (.binOp .lss t x y u) ty e o N x (.val (.int kk i)) y (.val (.int kk j))) (N ((d,.val (.bool (decide (i < j)))) :: e) o):=⟨λhn=>uT hn λ_ _ _ h h' k=>St.lss h h' k⟩
instance:Sp (tZ Γ c d (.binOp .leq t x y u) ty e o N x (.val (.int kk i)) y (.val (.int kk j))) (N ((d,.val (.bool (decide (i<=j)))) :: e) o):=⟨λhn=>uT hn λ_ _ _ h h' k=>St.leq h h' k⟩
instance:Sp (tZ Γ c d (.binOp .gtr t x y u) ty e o N x (.val (.int kk i)) y (.val (.int kk j))) (N ((d,.val (.bool (decide (j < i)))) :: e) o):=⟨λhn=>uT hn λ_ _ _ h h' k=>St.gtr h h' k⟩
instance:Sp (tZ Γ c d (.binOp .geq t x y u) ty e o N x (.val (.int kk i)) y (.val (.int kk j))) (N ((d,.val (.bool (decide (j<=i)))) :: e) o):=⟨λhn=>uT hn λ_ _ _ h h' k=>St.geq h h' k⟩
instance {a b:Bool}:Sp (tZ Γ c d (.binOp .eql t x y u) ty e o N x (.val (.bool a)) y (.val (.bool b))) (Lk (Γ.tt t) λti=>Rf (ti.kind= .bool) (N ((d,.val (.bool (decide (a=b)))) :: e) o)):=⟨λ⟨_,h1,hn⟩=>uT hn.k λ_ _ _ h h' k=>St.z0o Γ.ok h1 hn.p h h' k⟩
instance {a b:Bool}:Sp (tZ Γ c d (.binOp .neq t x y u) ty e o N x (.val (.bool a)) y (.val (.bool b))) (Lk (Γ.tt t) λti=>Rf (ti.kind= .bool) (N ((d,.val (.bool (decide (¬a=b)))) :: e) o)):=⟨λ⟨_,h1,hn⟩=>uT hn.k λ_ _ _ h h' k=>St.z0n Γ.ok h1 hn.p h h' k⟩
instance {a:Option Addr}:Sp (tZ Γ c d (.binOp .eql t x y u) ty e o N x (.val (.pointer a)) y (.val (.pointer none))) (Lk (Γ.tt t) λti=>Lk (match ti.kind with | .ptr e=>some e|_=>none) λq=>Rf (ti.kind= .ptr q) (N ((d,.val (.bool a.isNone)) :: e) o)):=⟨λ⟨_,h1,_,_,hn⟩=>uT hn.k λ_ _ _ h h' k=>St.cg Γ.ok h1 hn.p h h' k⟩
instance {w:TypeId}:Sp (SA Γ c (some d) (.convert t w x) ty e o N) (Lk (xr e x) λa=>lO Γ c d (.convert t w x) ty e o N x a):=⟨λ⟨_,ha,h⟩=>h.h ha⟩
variable {sg:Array TypeId}
instance:Sp (SA Γ c (some d) (.call { callee:= .builtin .min,args:=#[x,y],argTypes:=sg }) ty e o N) (Lk (xr e x) λa=>Lk (xr e y) λb=>tZ Γ c d (.call { callee:= .builtin .min,args:=#[x,y],argTypes:=sg }) ty e o N x a y b):=⟨λ⟨_,ha,_,hb,h⟩=>h.h ha hb⟩
instance:Sp (SA Γ c (some d) (.call { callee:= .builtin .max,args:=#[x,y],argTypes:=sg }) ty e o N) (Lk (xr e x) λa=>Lk (xr e y) λb=>tZ Γ c d (.call { callee:= .builtin .max,args:=#[x,y],argTypes:=sg }) ty e o N x a y b):=⟨λ⟨_,ha,_,hb,h⟩=>h.h ha hb⟩
instance:Sp (tZ Γ c d (.call { callee:= .builtin .min,args:=#[x,y],argTypes:=sg }) ty e o N x (.val (.int kk i)) y (.val (.int kk j))) (N ((d,.val (.int kk (min i j))) :: e) o):=⟨λhn=>uT hn λ_ _ _ h h' k=>St.Al h h' k⟩
instance:Sp (tZ Γ c d (.call { callee:= .builtin .max,args:=#[x,y],argTypes:=sg }) ty e o N x (.val (.int kk i)) y (.val (.int kk j))) (N ((d,.val (.int kk (max i j))) :: e) o):=⟨λhn=>uT hn λ_ _ _ h h' k=>St.imax h h' k⟩
end ints
instance {f:FuncId} {f2:Array Operand}:Sp (SA Γ c (some d) (.makeFunc (.func f) #[] f2) ty e o N) (Lk (fj e f2.toList) λcs=>N ((d,.fn f cs) :: e) o):=⟨λ⟨cs,rY,hn⟩=>⟨λenv hp G Os c=>by
 obtain⟨vs,h1,h2⟩:=c.Xg rY
 exact St.makeFunc (l1:= []) rfl h1 (CN.mk (c.put d (a:= .fn f cs) ⟨vs,rfl,h2⟩) hn)⟩⟩
end
end Go.CF
namespace Go.CF
open Go Go.ChangeShapes Go.WideShapes Go.ChangeAt Go.RowKit

section
variable {H:Type} {enc:TypeId×Value->H} {P:Program}

theorem pN(hl:laidOutB P=true){W W':World}{sp:Nat->Bool} :∀{ts:List TypeId} {vs:List Value} {ds:List (DataW H)} {ps:List MemPlace},(∀t∈ts,P.readableRec t=true/\t < P.types.size)->
  DataW.TrodAll enc P W 0 (λ_=>true) true ts vs ds ps->(∀p∈ps,W.sameAt W' p)->(∀p∈ps,sp p.block=true)->DataW.TrodAll enc P W' 0 sp true ts vs ds ps
 | [],[],[],_,_,h,_,_=>h
 | t :: ts,v :: vs,d :: ds,ps,MJ,h,h1,h2=>by
  obtain⟨p,q,h3,h4,rfl⟩:=h
  exact⟨p,q,WideElems.Trod_stays hl (MJ t zd).1 (MJ t zd).2 h3 (λx hx=>h1 x (by simp [hx])) (λx hx=>h2 x (by simp [hx])),
   pN hl (λt ht=>MJ t (by simp [ht])) h4 (λx hx=>h1 x (by simp [hx])) (λx hx=>h2 x (by simp [hx])),rfl⟩
 | [],_ :: _,_,_,_,h,_,_=>h.elim
 | [],[],_ :: _,_,_,h,_,_=>h.elim
 | _ :: _,[],_,_,_,h,_,_=>h.elim
 | _ :: _,_ :: _,[],_,_,h,_,_=>h.elim

theorem fY(hl:laidOutB P=true){fn:Func}{f:FuncId}{s:ChangeSpec}{apart fresh handsOn again:Bool}{tb:TypeId}{W:World}{args:Array Value}{ds gs:List (DataW H)}{before:List MemPlace}
  (MJ:∀t∈fn.params.toList,P.readableRec t=true/\t < P.types.size) (VJ:s.vars= []) (C1:fn.resultTypes=#[tb]) (Hi:P.underlying tb=some .bool)
  (D6:s.fn H ds= { results:= [.lit (.bool true)],args:=ds })
  (hW:DataW.Whole enc P fn.params.toList s.vars apart W args.toList ds gs before)
  (hc:wS P f args W.heap λr h'=>r= .bool true/\tc ([]:List Nat) W.heap h') :
  Calls P f args W λe W'=>∃v,e= .returned v/\s.post enc P fn apart fresh handsOn again W args v W':=by
 refine(hc.run W rfl).mono λe W' ⟨v,he,tV,hr,yL⟩=>⟨v,he, ?_⟩
 subst hr
 have hb:Below W.heap.size W W':=⟨tV.os,tV.tape,tV.output,yL.size,λk hk=>yL.same k hk zd⟩
 have xC:∀p∈before,p.block < W.heap.size:=λp hp=>hW.lt p hp
 have hW0:=hW
 obtain⟨p,q,hA,hV,V6,hz,hn⟩:=hW
 rw [VJ] at hV
 obtain⟨rfl,rfl⟩:=trodVars_none hV
 rw [List.append_nil] at V6
 subst V6
 have pI:s.fn H (ds ++ [])= { results:= [.lit (.bool true)],args:=ds }:=by rw [List.append_nil];exact D6
 have ZM:∀sp:Nat->Bool,(∀p∈before,sp p.block=true)->DataW.TrodAll enc P W' 0 sp true fn.params.toList args.toList ds before:=λsp h=>pN hl MJ hA (λx hx=>hb.same (xC x hx)) h
 have eK:∀(b:Nat) (sp:Nat->Bool) (hd:Bool),DataW.TrodAll enc P W' b sp hd fn.resultTypes.toList ((Value.bool true).resultList fn.resultTypes.size) [.lit (.bool true)] []:=λb sp hd=>by
  rw [C1]
  exact⟨[],[],⟨1,by simp [DataW.trod,Value.cells,Hi]⟩,rfl,rfl⟩
 have hvv:∀sp:Nat->Bool,DataW.TrodVars enc P W' sp s.vars (s.fn H (ds ++ [])).vars []:=λsp=>by rw [VJ,pI];rfl
 refine⟨ds,[],before,[],before,[],hW0,by rw [pI];exact eK _ _ _,by rw [pI];exact ZM _ (λx hx=>by simpa using xC x hx),hvv _,Below.frame hb _,λ_=>⟨?_, ?_⟩⟩
 ·intro j t r h1 h2
  rw [C1] at h1 h2
  cases j with
  | zero =>
   simp at h1;subst h1
   simp [Value.resultList] at h2;subst h2
   simp [Value.okWide,Hi,Cell.okWide,Cell.ok]
  | succ j=>simp at h1
 ·refine⟨_,[],before,⟨[] ++ before,[],trodAll_append (ZM (λ_=>true) (λ_ _=>rfl)) (eK _ _ _),by rw [VJ];rfl,by simp, ?_, ?_⟩, ?_⟩
  ·intro b off hp
   have h1:=hz b off hp
   rw [<-h1]
   exact World.frozen?_of_block (w:=W) (hb.block b (xC _ hp))
  ·intro ha;exact hn ha
  ·intro p hp _;exact hp

/-! ### RG a reading says -/
theorem jZ.Qx{W:World}{a:Addr}{v:Value}(h:W.cell? a=some v):jZ W.heap a v :=
 ⟨λw hw=>by rw [<-h];exact World.cell?_of_block (w:=W) (by rw [hw])⟩

theorem lh{sz:Nat} :∀(rows:List (List Value)) (j:Nat) (u:Value),(∀r∈rows,r.length=sz)->rows.flatten[j]?=some u->∃i k r,rows[i]?=some r/\r[k]?=some u/\j=i * sz+k/\k < sz
 | [],j,u,_,h=>by simp at h
 | r :: rs,j,u,hr,h=>by
  have bg:=hr r zd
  by_cases hj:j < sz
  ·rw [List.flatten_cons,zI z6] at h
   exact⟨0,j,r,rfl,h,by simp,hj⟩
  ·rw [List.flatten_cons,zJ z6,bg] at h
   obtain⟨i,k,r',h1,h2,h3,h4⟩:=lh rs (j - sz) u (λr SD=>hr r (by simp [SD])) h
   exact⟨i+1,k,r',by simpa using h1,h2,by rw [Nat.add_mul];omega,h4⟩

theorem RZ{W:World}{sp:Nat->Bool}{held:Bool}{t e sz:Nat}{fuel:Nat}{cs:List Value}{x:DataW H×List MemPlace}(ht:P.underlying t=some (.slice e))(hc:P.cellsOf e=sz)(sR:0 < sz)
  (h:DataW.trod enc P W 0 sp held fuel t cs=some x) :
  ∃(v:Value) (rows:List (List Value)),cs= [v]/\Sl W.heap v rows.length rows.flatten/\(∃p cap,v= .slice p rows.length cap)/\rows.length<=maxLen/\∀r∈rows,r.length=sz/\∃n d ps,DataW.trod enc P W 0 sp held n e r=some (d,ps):=by
 rcases Deep.open_slice ht h with⟨rfl,_⟩|⟨a,len,cap,m,n,D,Pl,rfl,_,hle,Ho,hm,_,hx⟩
 ·exact⟨_,[],rfl,⟨.inl ⟨_,_,rfl,rfl,rfl⟩⟩,⟨_,_,rfl⟩,zZ _,by simp⟩
 have O4:len<=m:=by rw [hm];split <;> omega
 obtain⟨R,hR⟩:=Deep.choose_lt hx
 have bg:∀r∈(List.range len).map R,r.length=sz/\∃n d ps,DataW.trod enc P W 0 sp held n e r=some (d,ps):=by
  intro r hr
  simp only [List.mem_map,List.mem_range] at hr
  obtain⟨i,hi,rfl⟩:=hr
  obtain⟨h1,h2⟩:=hR i z6
  obtain⟨_,h3,_⟩:=World.cells?_some h1
  exact⟨by rw [h3,hc],n,_,_,h2⟩
 have hlen:((List.range len).map R).length=len:=by simp
 refine⟨_,(List.range len).map R,rfl, ?_,⟨_,_,by rw [hlen]⟩,by rw [hlen];omega,bg⟩
 rw [hlen]
 rcases Nat.eq_zero_or_pos len with rfl|hp
 ·exact⟨.inl ⟨_,_,rfl,rfl,rfl⟩⟩
 have yS:∀i,i < len->∀k,k < sz->W.cell? ((a.add (i * sz)).add k)=(R i)[k]?:=by
  intro i hi k hk
  obtain⟨_,h3,h4⟩:=World.cells?_some (hR i z6).1
  rw [hc] at h4
  exact h4 k hk
 obtain⟨b,o,spot⟩:=a
 have MY:=yS 0 hp 0 sR
 obtain⟨c0,bJ⟩:∃c0,(R 0)[0]?=some c0:=by
  have:=(bg (R 0) (List.mem_map.2 ⟨0,by simpa using hp,rfl⟩)).1
  exact⟨(R 0)[0]' z6,zE _⟩
 rw [bJ] at MY
 have D5:spot=none:=by simpa [Addr.add] using World.cell?_spot MY
 subst D5
 have hblk:b < W.heap.size:=by
  have:=World.block_lt_of_cell? W _ MY
  simpa [Addr.add] using this
 refine⟨.inr ⟨b,o,cap,rfl,hp,hle,hblk,⟨λj v hv=>?_⟩⟩⟩
 obtain⟨i,k,r,h1,h2,rfl,h4⟩:=lh _ j v (λr hr=>(bg r hr).1) hv
 have hi:i < len:=by
  have:=(zS.1 h1).1
  simpa using this
 have h5:R i=r:=by simpa [hi] using h1
 have h6:=yS i hi k h4
 rw [h5,h2] at h6
 have h7:(((⟨b,o,none⟩:Addr).add (i * sz)).add k)=(⟨b,o,none⟩:Addr).add (i * sz+k):=by
  simp only [add_plain];congr 1;omega
 rw [h7] at h6
 exact jZ.Qx h6

theorem okWide_slice{W:World}{r:Reach}{b:Nat}{t e:TypeId}{v:Value}(ht:P.underlying t=some (.slice e))(h:Value.okWide P W r b t v):v.cells=#[v]:=by
 cases v with
 | agg c=>simp [Value.okWide,ht,Cell.okWide,Cell.ok] at h
 | tuple c=>simp [Value.okWide,ht,Cell.okWide,Cell.ok] at h
 | _=>rfl
end

structure Rp (α:Type) where
 sz:Nat
 R:y7->(Nat->Prop)->List Value->α->Prop
 len:∀{h F cs a},R h F cs a->cs.length=sz
 one:∀{h F cs a},R h F cs a->∀u∈cs,u.oneCell'=true
 wm:∀{h h' F cs a} {fp:List Nat},tc fp h h'->(∀b,F b->b ∉ fp)->R h F cs a->R h' F cs a
 mono:∀{h F G cs a},(∀b,F b->G b)->R h F cs a->R h G cs a
 lt:∀{h F cs a},R h F cs a->R h (λb=>F b/\b < h.size) cs a

def Old(h:y7):Nat->Prop:=λb=>b < h.size

def Rp.int(k:IntKind):Rp Int where
 sz:=1
 R:=λ_ _ cs a=>cs= [.int k a]/\(Lit.int k a).wf=true
 len:=by rintro _ _ _ _ ⟨rfl,_⟩;rfl
 one:=by rintro _ _ _ _ ⟨rfl,_⟩ u hu;simp at hu;subst hu;rfl
 wm:=λ_ _ h=>h
 mono:=λ_ h=>h
 lt:=λh=>h
def Rp.bool:Rp Bool where
 sz:=1
 R:=λ_ _ cs a=>cs= [.bool a]
 len:=by rintro _ _ _ _ rfl;rfl
 one:=by rintro _ _ _ _ rfl u hu;simp at hu;subst hu;rfl
 wm:=λ_ _ h=>h
 mono:=λ_ h=>h
 lt:=λh=>h
def Rp.unit:Rp Unit where
 sz:=0
 R:=λ_ _ cs _=>cs= []
 len:=by rintro _ _ _ _ rfl;rfl
 one:=by rintro _ _ _ _ rfl u hu;cases hu
 wm:=λ_ _ h=>h
 mono:=λ_ h=>h
 lt:=λh=>h
def Rp.pair{α β:Type}(r:Rp α)(s:Rp β):Rp (α×β) where
 sz:=r.sz+s.sz
 R:=λh F cs x=>∃c1 c2,cs=c1 ++ c2/\r.R h F c1 x.1/\s.R h F c2 x.2
 len:=by rintro _ _ _ _ ⟨c1,c2,rfl,h1,h2⟩;rw [zP,r.len h1,s.len h2]
 one:=by
  rintro _ _ _ _ ⟨c1,c2,rfl,h1,h2⟩ u hu
  rcases zV.1 hu with h|h
  ·exact r.one h1 u h
  ·exact s.one h2 u h
 wm:=λx hn ⟨c1,c2,e,h1,h2⟩=>⟨c1,c2,e,r.wm x hn h1,s.wm x hn h2⟩
 mono:=λhm ⟨c1,c2,e,h1,h2⟩=>⟨c1,c2,e,r.mono hm h1,s.mono hm h2⟩
 lt:=λ⟨c1,c2,e,h1,h2⟩=>⟨c1,c2,e,r.lt h1,s.lt h2⟩
def Rp.qd{α β:Type}(r:Rp α)(g:β->α):Rp β where
 sz:=r.sz
 R:=λh F cs b=>r.R h F cs (g b)
 len:=λh=>r.len h
 one:=λh=>r.one h
 wm:=λx hn h=>r.wm x hn h
 mono:=λhm h=>r.mono hm h
 lt:=λh=>r.lt h

def M1{α:Type}(r:Rp α)(h:y7)(F:Nat->Prop)(rows:List (List Value))(l:List α):Prop :=
 rows.length=l.length/\∀(i:Nat) (row:List Value) (a:α),rows[i]?=some row->l[i]?=some a->r.R h F row a

def Rp.slice{α:Type}(r:Rp α):Rp (List α) where
 sz:=1
 R:=λh F cs l=>∃v,cs= [v]/\(∀b∈X7 v,F b)/\l.length<=9223372036854775807/\∃rows,Sl h v l.length rows.flatten/\M1 r h F rows l
 len:=by rintro _ _ _ _ ⟨v,rfl,_⟩;rfl
 one:=by
  rintro _ _ _ _ ⟨v,rfl,_,_,rows,hs,_⟩ u hu
  simp at hu;subst hu
  obtain⟨p,cap,rfl⟩:=hs.shape
  rfl
 wm:=by
  rintro h h' F cs l fp x hn ⟨v,e,hb,Ho,rows,hs,hl,hr⟩
  exact⟨v,e,hb,Ho,rows,hs.wm x (λb hm=>hn b (hb b hm)),hl,λi row a h1 h2=>r.wm x hn (hr i row a h1 h2)⟩
 mono:=by
  rintro h F G cs l hm ⟨v,e,hb,Ho,rows,hs,hl,hr⟩
  exact⟨v,e,λb h1=>hm b (hb b h1),Ho,rows,hs,hl,λi row a h1 h2=>r.mono hm (hr i row a h1 h2)⟩
 lt:=by
  rintro h F cs l ⟨v,e,hb,Ho,rows,hs,hl,hr⟩
  exact⟨v,e,λb h1=>⟨hb b h1,hs.lt b h1⟩,Ho,rows,hs,hl,λi row a h1 h2=>r.lt (hr i row a h1 h2)⟩

theorem gg{sz:Nat} :∀(rows:List (List Value)) (i k:Nat) (r:List Value) (u:Value),(∀r∈rows,r.length=sz)->rows[i]?=some r->r[k]?=some u->rows.flatten[i * sz+k]?=some u
 | [],i,_,_,_,_,h,_=>by simp at h
 | x :: rs,0,k,r,u,hr,h,hu=>by
  simp at h;subst h
  have hk:=(zS.1 hu).1
  rw [Nat.zero_mul,Nat.zero_add,List.flatten_cons,zI hk];exact hu
 | x :: rs,i+1,k,r,u,hr,h,hu=>by
  have hx:=hr x zd
  rw [List.flatten_cons,zJ (by rw [hx,Nat.add_mul];omega),hx]
  have:=gg rs i k r u (λr h=>hr r (by simp [h])) (by simpa using h) hu
  rw [<-this];congr 1;rw [Nat.add_mul];omega

section
variable {α:Type} {r:Rp α} {h:y7} {F:Nat->Prop} {l:List α}
end

theorem wf_i64{n:Int}:(Lit.int .i64 n).wf=true↔ -9223372036854775808<=n/\n<=9223372036854775807:=by
 simp [Lit.wf,IntKind.min,IntKind.max,IntKind.signed,IntKind.bits]
theorem wf_u8{n:Int}:(Lit.int .u8 n).wf=true↔0<=n/\n<=255:=by
 simp [Lit.wf,IntKind.min,IntKind.max,IntKind.signed,IntKind.bits]
/-! ### PF -/
section
variable {P:Program}
structure wJ {α:Type} (P:Program) (t:TypeId) (r:Rp α):Prop where
 sz:P.cellsOf t=r.sz
 rd:∀{H:Type} {enc:TypeId×Value->H} {W:World} {sp:Nat->Bool} {held:Bool} {n:Nat} {cs:List Value} {x:DataW H×List MemPlace},DataW.trod enc P W 0 sp held n t cs=some x->∃a,r.R W.heap (Old W.heap) cs a
theorem wJ.int{t:TypeId}{k:IntKind}(ht:P.underlying t=some (.int k))(hc:P.cellsOf t=1):wJ P t (Rp.int k) :=
 ⟨hc,λh=>by obtain⟨n,h1,_,h2⟩:=DataW.trod_int ht h;exact⟨n,h1,h2⟩⟩
theorem wJ.bool{t:TypeId}(ht:P.underlying t=some .bool)(hc:P.cellsOf t=1):wJ P t Rp.bool :=
 ⟨hc,λh=>by obtain⟨b,h1,_⟩:=DataW.trod_bool ht h;exact⟨b,h1⟩⟩
theorem wJ.slice{α:Type}{t e:TypeId}{r:Rp α}(ht:P.underlying t=some (.slice e))(hc:P.cellsOf t=1)(he:wJ P e r)(hz:0 < r.sz):wJ P t r.slice:=by
 refine⟨hc,λ{H enc W sp held n cs x} h=>?_⟩
 obtain⟨v,rows,rfl,hs,_,hm,hr⟩:=RZ ht he.sz hz h
 have key:∀rows:List (List Value),(∀r'∈rows,∃n d ps,DataW.trod enc P W 0 sp held n e r'=some (d,ps))->∃l:List α,M1 r W.heap (Old W.heap) rows l:=by
  intro rows
  induction rows with
  | nil=>exact λ_=>⟨[],rfl,λi row a h1=>by simp at h1⟩
  | cons r' rs ih =>
   intro hr
   obtain⟨l,h1,h2⟩:=ih (λr' h=>hr r' (by simp [h]))
   obtain⟨n,d,ps,h3⟩:=hr r' zd
   obtain⟨a,h4⟩:=he.rd h3
   refine⟨a :: l,by simp [h1],λi row b hi hb=>?_⟩
   cases i with
   | zero=>simp at hi hb;subst hi;subst hb;exact h4
   | succ i=>exact h2 i row b (by simpa using hi) (by simpa using hb)
 obtain⟨l,h1,h2⟩:=key rows (λr' hm=>(hr r' hm).2)
 exact⟨l,v,rfl,hs.lt,by rw [<-h1];exact hm,rows,by rw [<-h1];exact hs,h1,h2⟩
structure wY {α:Type} (P:Program) (fs:List Field) (off:Nat) (r:Rp α):Prop where
 rd:∀{H:Type} {enc:TypeId×Value->H} {W:World} {sp:Nat->Bool} {held:Bool} {cs:List Value},cs.length=off+r.sz->
  (∀f∈fs,∃n x,DataW.trod enc P W 0 sp held n f.type ((cs.drop f.offset).take (P.cellsOf f.type))=some x)->∃a,r.R W.heap (Old W.heap) (cs.drop off) a
theorem wY.nil{off:Nat}:wY P [] off Rp.unit:=⟨λhl _=>⟨(),by
 apply zQ
 rw [List.length_drop,hl];simp [Rp.unit]⟩⟩
theorem wY.cons{α β:Type}{f:Field}{fs:List Field}{off Le:Nat}{r:Rp α}{s:Rp β}(ho:f.offset=off)(ht:wJ P f.type r)(he:Le=off+r.sz)(hs:wY P fs Le s):wY P (f :: fs) off (r.pair s):=by
 subst he
 refine⟨λ{H enc W sp held cs} hl hf=>?_⟩
 obtain⟨n,x,h1⟩:=hf f zd
 obtain⟨a,h2⟩:=ht.rd h1
 obtain⟨b,h3⟩:=hs.rd (enc:=enc) (W:=W) (sp:=sp) (held:=held) (cs:=cs) (by simp only [Rp.pair] at hl;omega) (λg hg=>hf g (by simp [hg]))
 refine⟨(a,b),(cs.drop off).take r.sz,cs.drop (off+r.sz), ?_, ?_,h3⟩
 ·rw [<-List.drop_drop];exact(List.take_append_drop _ _).symm
 ·rw [ho,ht.sz] at h2;exact h2
theorem wJ.struct{α:Type}{t:TypeId}{fs:Array Field}{l:List Field}{r:Rp α}(ht:P.underlying t=some (.struct fs))(hl:fs.toList=l)(hc:P.cellsOf t=r.sz)(hf:wY P l 0 r):wJ P t r:=by
 subst hl
 refine⟨hc,λ{H enc W sp held n cs x} h=>?_⟩
 obtain⟨xs,m,rfl,_,h1,h2,h3⟩:=DataW.trod_struct ht h
 have:=hf.rd (enc:=enc) (W:=W) (sp:=sp) (held:=held) (cs:=cs) (by rw [h1,hc];omega) (λf hm=>by
  obtain⟨i,hi⟩:=zO hm
  have Gk:fs[i]?=some f:=by simpa using hi
  have:=h3 i f Gk
  have xC:i < xs.length:=by
   have:=(zA.1 Gk).1
   omega
  rw [zE xC] at this
  exact⟨m,_,this⟩)
 simpa using this
theorem wJ.qd{α β:Type}{t:TypeId}{r:Rp α}(hr:wJ P t r)(g:β->α)(f:α->β)(hg:∀a,g (f a)=a):wJ P t (r.qd g) :=
 ⟨hr.sz,λh=>by obtain⟨a,ha⟩:=hr.rd h;exact⟨f a,by simpa only [Rp.qd,hg] using ha⟩⟩
theorem wJ.arg{α H:Type}{enc:TypeId×Value->H}{t:TypeId}{r:Rp α}(hr:wJ P t r){W:World}{sp:Nat->Bool}{held:Bool}{v:Value}{d:DataW H}{ps:List MemPlace}(h:DataW.Trod enc P W 0 sp held t v d ps) :
  ∃a,r.R W.heap (Old W.heap) v.cells.toList a:=by
 obtain⟨n,h⟩:=h
 exact hr.rd h
end

section
variable {P:Program}
theorem trodAll_cons{H:Type}{enc:TypeId×Value->H}{W:World}{sp:Nat->Bool}{held:Bool}{t:TypeId}{ts:List TypeId}{vs:List Value}{ds:List (DataW H)}{ps:List MemPlace}(h:DataW.TrodAll enc P W 0 sp held (t :: ts) vs ds ps) :
  ∃v eu d Cq p q,vs=v :: eu/\ds=d :: Cq/\DataW.Trod enc P W 0 sp held t v d p/\DataW.TrodAll enc P W 0 sp held ts eu Cq q:=by
 match vs,ds,h with
 | v :: eu,d :: Cq,h=>obtain⟨p,q,h1,h2,_⟩:=h;exact⟨v,eu,d,Cq,p,q,rfl,rfl,h1,h2⟩
theorem cE{H:Type}{enc:TypeId×Value->H}{W:World}{sp:Nat->Bool}{held:Bool}{vs:List Value}{ds:List (DataW H)}{ps:List MemPlace}(h:DataW.TrodAll enc P W 0 sp held [] vs ds ps):vs= []/\ds= []:=by
 match vs,ds,h with
 | [],[],_=>exact⟨rfl,rfl⟩
end
end Go.CF
namespace Go.CF
open Go

/-! ### RG the table of types says -/
def nN(tt:Nat->Option TI)(t:Nat):Option (Nat×TI):=match tt t with
 | some ti=>match ti.kind with
  | .slice e=>match tt e with
   | some te=>some (e,te)
   | none=>none
  | _=>none
 | none=>none
theorem xg{tt:Nat->Option TI}{t:Nat}{p:Nat×TI}(h:nN tt t=some p) :∃ti,tt t=some ti/\ti.kind= .slice p.1/\tt p.1=some p.2:=by
 unfold nN at h
 split at h
 ·rename_i ti h1
  split at h
  ·rename_i e h2
   split at h
   ·rename_i te h3
    cases h
    exact⟨ti,h1,h2,h3⟩
   ·cases h
  ·cases h
 ·cases h
def Xh(tt:Nat->Option TI)(t i:Nat):Option Nat:=match tt t with
 | some ti=>match ti.kind with
  | .struct fs=>match fs[i]? with
   | some (off,_,_+1)=>some off
   | _=>none
  | _=>none
 | none=>none
theorem mE{tt:Nat->Option TI}{t i off:Nat}(h:Xh tt t i=some off) :∃ti fs ft sz,tt t=some ti/\ti.kind= .struct fs/\fs[i]?=some (off,ft,sz+1):=by
 unfold Xh at h
 split at h
 ·rename_i ti h1
  split at h
  ·rename_i fs h2
   split at h
   ·rename_i Le ft sz h3
    cases h
    exact⟨ti,fs,ft,sz,h1,h2,h3⟩
   ·cases h
  ·cases h
 ·cases h
def MF(tt:Nat->Option TI)(t:Nat):Option (Option Nat):=match tt t with
 | some ti=>match ti.kind with
  | .struct _=>some (some ti.size)
  | .array _ _=>none
  | .other=>none
  | _=>some none
 | none=>none
theorem Tf{tt:Nat->Option TI}{t:Nat}(h:MF tt t=some none) :∃ti,tt t=some ti/\ti.kind.agg=false:=by
 unfold MF at h
 split at h
 ·rename_i ti h1
  refine⟨ti,h1, ?_⟩
  split at h
  ·cases h
  ·cases h
  ·cases h
  ·rename_i h2 h3 h4
   cases hk:ti.kind <;> simp_all [TK.agg]
 ·cases h
theorem Te{tt:Nat->Option TI}{t n:Nat}(h:MF tt t=some (some n)) :∃ti fs,tt t=some ti/\ti.kind= .struct fs/\ti.size=n:=by
 unfold MF at h
 split at h
 ·rename_i ti h1
  split at h
  ·rename_i fs h2;cases h;exact⟨ti,fs,h1,h2,rfl⟩
  ·cases h
  ·cases h
  ·cases h
 ·cases h
def DM(tt:Nat->Option TI)(t:Nat):Option (List Value):=match tt t with
 | some ti=>some ti.zero.cells.toList
 | none=>none
inductive LN {α:Type}:List α->List α->Prop where
 | nil:LN [] []
 | cons {a:α} {l l':List α}:LN l l'->LN (a :: l) (a :: l')
theorem LN.eq{α:Type} :∀{l l':List α},LN l l'->l=l'
 | _,_,.nil=>rfl
 | _,_,.cons h=>by rw [h.eq]
structure Nm {α:Type} (l:List α) (k:List α->Prop):Prop where
 ok:k l
theorem Nm.r{α:Type}{l l':List α}{k:List α->Prop}(h:LN l l')(hk:k l'):Nm l k:=⟨h.eq▸hk⟩
structure Ix {α:Type} (l:List α) (i:Int) (k:Nat->α->Prop):Prop where
 ok:∃(j:Nat) (x:α),l[j]?=some x/\i=(j:Int)/\k j x
theorem Ix.r{α:Type}{l:List α}{i:Int}{k:Nat->α->Prop}{j:Nat}{x:α}(h:l[j]?=some x)(hi:i=(j:Int))(hk:k j x):Ix l i k:=⟨j,x,h,hi,hk⟩
theorem Ix.q{α:Type}{l:List α}{i:Int}{k:Nat->α->Prop}{j:Nat}{x:α}(hi:i=(j:Int))(h:l[j]?=some x)(hk:k j x):Ix l i k:=⟨j,x,h,hi,hk⟩
structure At {α:Type} (l:List α) (j:Nat) (k:α->Prop):Prop where
 ok:∃x:α,l[j]?=some x/\k x
theorem At.r{α:Type}{l:List α}{k:α->Prop}{j:Nat}{x:α}(h:l[j]?=some x)(hk:k x):At l j k:=⟨x,h,hk⟩
structure Jx (i:Int) (n:Nat) (k:Nat->Prop):Prop where
 ok:∃j:Nat,i=(j:Int)/\j<=n/\k j
theorem Jx.r{i:Int}{n:Nat}{k:Nat->Prop}{j:Nat}(h:i=(j:Int))(hl:j<=n)(hk:k j):Jx i n k:=⟨j,h,hl,hk⟩
structure L3 (o:List yh) (b:Nat) (k:TypeId->List AV->List yh->Prop):Prop where
 ok:∃T cs rest,Take o (yr b T cs) rest/\k T cs rest
theorem L3.r{o rest:List yh}{b:Nat}{k:TypeId->List AV->List yh->Prop}{T:TypeId}{cs:List AV}(h:Take o (yr b T cs) rest)(hk:k T cs rest):L3 o b k:=⟨T,cs,rest,h,hk⟩
structure gU (o:List yh) (v:Value) (k:∀{α:Type},TypeId->Nat->List α->(α->List AV)->List yh->Prop):Prop where
 ok:∃(α:Type) (T:TypeId) (sz:Nat) (l:List α) (f:α->List AV) (rest:List yh),Take o (yb v T sz l f) rest/\k T sz l f rest
theorem gU.r{α:Type}{o rest:List yh}{v:Value}{k:∀{α:Type},TypeId->Nat->List α->(α->List AV)->List yh->Prop}{T:TypeId}{sz:Nat}{l:List α}{f:α->List AV}(h:Take o (yb v T sz l f) rest)(hk:k T sz l f rest):gU o v k:=⟨α,T,sz,l,f,rest,h,hk⟩
structure yc {α:Type} (k:α->Prop):Prop where
 ok:∀x,k x
structure Ch (p X Y:Prop):Prop where
 ok:(p/\X)∨Y
theorem Ch.l{p X Y:Prop}(h:p)(x:X):Ch p X Y:=⟨.inl ⟨h,x⟩⟩
theorem Ch.r{p X Y:Prop}(y:Y):Ch p X Y:=⟨.inr y⟩
class qt (a:AV):Prop where
 h:∀h G v,a.R h G v->v.oneCell'=true
instance {k:IntKind} {i:Int}:qt (.val (.int k i)):=⟨by rintro h G v rfl;rfl⟩
instance {b:Bool}:qt (.val (.bool b)):=⟨by rintro h G v rfl;rfl⟩
instance {p:Option Addr}:qt (.val (.pointer p)):=⟨by rintro h G v rfl;rfl⟩
instance {p:Option Nat}:qt (.val (.map p)):=⟨by rintro h G v rfl;rfl⟩
instance {v:Value}:qt (.ow v):=⟨by rintro h G u ⟨rfl,p,l,c,rfl⟩;rfl⟩
instance {α:Type} {sz:Nat} {l:List α} {f:α->List AV}:qt (.sl sz l f):=⟨by rintro h G u ⟨_,⟨_,p,c,rfl⟩|⟨b,o,cap,rows,rfl,_⟩⟩ <;> rfl⟩
instance {cs:List AV} {k:Nat}:qt (.ad cs k):=⟨by rintro h G u ⟨b,o,vs,rfl,_⟩;rfl⟩
instance {f:FuncId} {cs:List AV}:qt (.fn f cs):=⟨by rintro h G u ⟨vs,rfl,_⟩;rfl⟩

section
variable {Γ:Cx} {k:List KI} {e:EA} {o:List yh} {N:NA} {c:xa} {d:Tmp} {ty:TypeId} {x y z:Operand} {t u:TypeId} {kk:IntKind} {i:Int}

theorem AV.ai{α:Type}{sz:Nat}{l:List α}{f:α->List AV}{h:y7}{G:Nat->Prop}{v:Value}(hr:(AV.sl sz l f).R h G v) :∃rows,Sl h v l.length rows.flatten/\Rows h G sz rows l f/\l.length<=9223372036854775807:=by
 obtain⟨hm,⟨rfl,p,cap,rfl⟩|⟨b,of,cap,rows,rfl,h1,h2,h3,h4,h5,h6⟩⟩:=hr
 ·exact⟨[],⟨.inl ⟨p,cap,rfl,rfl,rfl⟩⟩,Rows.nil,hm⟩
 ·exact⟨rows,⟨.inr ⟨b,of,cap,rfl,h1,h2,h4,h5⟩⟩,h6,hm⟩
/-! ### CB -/
instance:Sp (SA Γ c (some d) (.call { callee:= .builtin .len,args:=#[x],argTypes:=#[t] }) ty e o N) (Lk (xr e x) λa=>lO Γ c d (.call { callee:= .builtin .len,args:=#[x],argTypes:=#[t] }) ty e o N x a):=⟨λ⟨_,ha,h⟩=>h.h ha⟩
instance {α:Type} {sz:Nat} {l:List α} {f:α->List AV}:Sp (lO Γ c d (.call { callee:= .builtin .len,args:=#[x],argTypes:=#[t] }) ty e o N x (.sl sz l f)) (Lk (nN Γ.tt t) λ_=>Im (l.length<=9223372036854775807) (N ((d,.val (.int .i64 (l.length:Int))) :: e) o)):=⟨λ⟨p,hp,hn⟩=>⟨λha=>⟨λenv hh G Os cn=>by
 obtain⟨v,h1,h2⟩:=cn.get ha
 obtain⟨rows,hs,_,hm⟩:=AV.ai h2
 obtain⟨q,cap,rfl⟩:=hs.shape
 obtain⟨ti,t1,t2,t3⟩:=xg hp
 exact St.len Γ.ok t1 t2 h1 (CN.mk (cn.put d (a:= .val _) rfl) (hn.k hm))⟩⟩⟩
instance {p:Option Addr} {m cap:Nat}:Sp (lO Γ c d (.call { callee:= .builtin .len,args:=#[x],argTypes:=#[t] }) ty e o N x (.val (.slice p m cap))) (Lk (nN Γ.tt t) λ_=>N ((d,.val (.int .i64 (m:Int))) :: e) o):=⟨λ⟨p,hp,hn⟩=>eH (λ_ _=>rfl) hn λ_ _ _ h k=>by
 obtain⟨ti,t1,t2,t3⟩:=xg hp
 exact St.len Γ.ok t1 t2 h k⟩
instance {v:Value}:Sp (lO Γ c d (.call { callee:= .builtin .len,args:=#[x],argTypes:=#[t] }) ty e o N x (.ow v)) (Lk (nN Γ.tt t) λ_=>gU o v λ_ _ l _ _=>N ((d,.val (.int .i64 (l.length:Int))) :: e) o):=⟨λ⟨p,hp,α,T,sz,l,f,rest,tk,hn⟩=>⟨λha=>⟨λenv hh G Os cn=>by
 obtain⟨w,h1,rfl,h2⟩:=cn.get ha
 obtain⟨O,yz,yT⟩:=cn.take tk
 obtain⟨⟨_,rows,hw,_⟩,_⟩:=yT.hp.own
 obtain⟨q,cap,rfl⟩:=hw.sl.shape
 obtain⟨ti,t1,t2,t3⟩:=xg hp
 exact St.len Γ.ok t1 t2 h1 (CN.mk (cn.put d (a:= .val _) rfl) hn)⟩⟩⟩

/-! ### HN -/
instance {i:Nat}:Sp (SA Γ c (some d) (.fieldAddr t x i) ty e o N) (Lk (xr e x) λa=>Lk (Xh Γ.tt t i) λq=>tZ Γ c d (.fieldAddr t x i) ty e o N x a (.const (.int .i64 q)) (.val (.int .i64 q))):=⟨λ⟨_,ha,_,_,h⟩=>h.h ha rfl⟩
instance {i b k q:Nat}:Sp (tZ Γ c d (.fieldAddr t x i) ty e o N x (.val (.pointer (some ⟨b,k,none⟩))) y (.val (.int .i64 (Nat.cast q)))) (Rf (Xh Γ.tt t i=some q) (N ((d,.val (.pointer (some ⟨b,k+q,none⟩))) :: e) o)):=⟨λhn=>uT hn.k λ_ _ _ h _ k=>by
 obtain⟨ti,fs,ft,sz,t1,t2,t3⟩:=mE hn.p
 exact St.fieldAddr Γ.ok t1 t2 t3 h k⟩
instance {i k q:Nat} {cs:List AV}:Sp (tZ Γ c d (.fieldAddr t x i) ty e o N x (.ad cs k) y (.val (.int .i64 (Nat.cast q)))) (Rf (Xh Γ.tt t i=some q) (N ((d,.ad cs (k+q)) :: e) o)):=⟨λhn=>SR λenv h G v w h1 _ h2 _=>by
 obtain⟨ti,fs,ft,sz,t1,t2,t3⟩:=mE hn.p
 obtain⟨b,of,vs,rfl,hr⟩:=h2
 exact⟨.ad cs (k+q),.pointer (some ⟨b,of+(k+q),none⟩),⟨b,of,vs,rfl,hr⟩,hn.k,λ_ hk=>St.fieldAddr Γ.ok t1 t2 t3 h1 (by rw [Nat.add_assoc];exact hk)⟩⟩
instance {i q s j r:Nat} {v:Value}:Sp (tZ Γ c d (.fieldAddr t x i) ty e o N x (.oe v s j r) y (.val (.int .i64 (Nat.cast q)))) (Rf (Xh Γ.tt t i=some q) (N ((d,.oe v s j (r+q)) :: e) o)):=⟨λhn=>SR λenv h G v' w h1 _ h2 _=>by
 obtain⟨ti,fs,ft,sz,t1,t2,t3⟩:=mE hn.p
 obtain⟨b,of,len,cap,rfl,rfl⟩:=h2
 exact⟨.oe _ s j (r+q),.pointer (some ⟨b,of+j * s+(r+q),none⟩),⟨b,of,len,cap,rfl,rfl⟩,hn.k,λ_ hk=>St.fieldAddr Γ.ok t1 t2 t3 h1 (by rw [Nat.add_assoc (of+j * s)];exact hk)⟩⟩
instance:Sp (SA Γ c (some d) (.indexAddr t x y) ty e o N) (Lk (xr e x) λa=>Lk (xr e y) λb=>tZ Γ c d (.indexAddr t x y) ty e o N x a y b):=⟨λ⟨_,ha,_,hb,h⟩=>h.h ha hb⟩
theorem nK{h:y7}{G:Nat->Prop}{α:Type}{sz b of:Nat}{rows:List (List Value)}{l:List α}{f:α->List AV}(hc:tP h ⟨b,of,none⟩ rows.flatten)(hr:Rows h G sz rows l f){j:Nat}{x:α}(hj:l[j]?=some x) :∃row,uw h G row (f x)/\row.length=sz/\tP h ⟨b,of+j * sz,none⟩ row:=by
 obtain⟨row,h1,h2,h3⟩:=hr.at hj
 refine⟨row,h2,h3,⟨λi v hv=>?_⟩⟩
 have:=hc.cell (gg rows j i row v (λr hm=>hr.sz r hm) h1 hv)
 rw [yZ,show of+j * sz+i=of+(j * sz+i) by omega]
 exact this
instance {α:Type} {sz:Nat} {l:List α} {f:α->List AV}:Sp (tZ Γ c d (.indexAddr t x y) ty e o N x (.sl sz l f) y (.val (.int kk i))) (Lk (nN Γ.tt t) λp=>Rf (p.2.size=sz) (Ix l i λ_ a=>N ((d,.ad (f a) 0) :: e) o)):=⟨λ⟨p,hp,hz,j,a,hj,hi,hn⟩=>SR λenv h G v w h1 Zz h2 eA=>by
 obtain⟨ti,t1,t2,t3⟩:=xg hp
 have hw:w= .int kk i:=eA
 subst hw
 have xC:=(zS.1 hj).1
 obtain⟨_,⟨rfl,_⟩|⟨b,of,cap,rows,rfl,g1,g2,g3,g4,g5,g6⟩⟩:=h2
 ·simp at xC
 obtain⟨row,k1,k2,k3⟩:=nK g5 g6 hj
 exact⟨.ad (f a) 0,.pointer (some ⟨b,of+j * sz,none⟩),⟨b,of+j * sz,row,rfl,g3,g4,k3,k1⟩,hn,λ_ hk=>St.indexAddr Γ.ok t1 t2 t3 h1 Zz hi xC (by rw [hz];exact hk)⟩⟩
instance {v:Value}:Sp (tZ Γ c d (.indexAddr t x y) ty e o N x (.ow v) y (.val (.int kk i))) (Lk (nN Γ.tt t) λp=>gU o v λ_ sz l _ _=>Rf (p.2.size=sz) (Ix l i λj _=>N ((d,.oe v sz j 0) :: e) o)):=⟨λ⟨p,hp,α,T,sz,l,f,rest,tk,hz,j,a,hj,hi,hn⟩=>⟨λha hb=>⟨λenv hh G Os cn=>by
 obtain⟨w,h1,rfl,h2⟩:=cn.get ha
 obtain⟨w',Zz,eA⟩:=cn.get hb
 have hw:w'= .int kk i:=eA
 subst hw
 obtain⟨O,yz,yT⟩:=cn.take tk
 obtain⟨⟨_,rows,hw,_⟩,_⟩:=yT.hp.own
 obtain⟨ti,t1,t2,t3⟩:=xg hp
 have xC:=(zS.1 hj).1
 rcases hw.ok with⟨_,h0⟩|⟨b,of,cap,L,rfl,_,_,_,_⟩
 ·omega
 ·exact St.indexAddr Γ.ok t1 t2 t3 h1 Zz hi xC (CN.mk (cn.put d (a:= .oe _ sz j 0) ⟨b,of,_,cap,rfl,by rw [hz];rfl⟩) hn)⟩⟩⟩

/-! ### Cz -/
structure L8 (m:Option Nat) (cs:List AV) (k:Nat) (N:AV->Prop):Prop where
 ok:match m with
  | none=>∃a,cs[k]?=some a/\N a
  | some n=>N (.agg ((cs.drop k).take n))/\k+n<=cs.length
instance {cs:List AV} {k:Nat} {M:AV->Prop}:Sp (L8 none cs k M) (Lk cs[k]? λa=>M a):=⟨λ⟨a,h1,h2⟩=>⟨a,h1,h2⟩⟩
instance {n k:Nat} {cs:List AV} {M:AV->Prop}:Sp (L8 (some n) cs k M) (Rf (Nat.ble (k+n) cs.length=true) (Ch (k=0/\n=cs.length) (M (.agg cs)) (M (.agg ((cs.drop k).take n))))):=⟨λ⟨h0,h⟩=>⟨⟨by
 rcases h.ok with⟨⟨h1,h2⟩,g⟩|g
 ·rw [h1,h2,List.drop_zero,zL];exact g
 ·exact g,zB h0⟩⟩⟩
structure X4 (Γ:Cx) (c:xa) (d:Tmp) (t:TypeId) (x:Operand) (ty:TypeId) (e:EA) (o:List yh) (N:NA) (a:AV) (m:Option Nat):Prop where
 h:xr e x=some a->MF Γ.tt t=some m->wT c=true->SA Γ c (some d) (.load t x) ty e o N
instance:Sp (SA Γ c (some d) (.load t x) ty e o N) (Rf (wT c=true) (Lk (xr e x) λa=>Lk (MF Γ.tt t) λm=>X4 Γ c d t x ty e o N a m)):=⟨λ⟨h1,_,ha,_,hm,h⟩=>h.h ha hm h1⟩
theorem St.qG{P:Program}{n:Nat}{fp:Fp}{c:xa}{dst:Option Tmp}{op:Op}{ty:TypeId}{env:Env}{h:y7}{N:Env->y7->Prop}{b:Nat}(hc:wT c=true)
  (hs:∀{γ:Type} [Membership Nat γ] {fp:γ} {c:xa},wT c=true->b ∉ fp->St P n fp c dst op ty env h N) (hb:c= .read->b ∉ fp):St P n fp c dst op ty env h N:=by
 have h0:=λ{c:xa} (hc:wT c=true)=>hs (fp:=([]:List Nat)) (c:=c) hc List.not_mem_nil
 refine⟨λh'=>(by rw [h'] at hc;cases hc),λh'=>(hs hc (hb h')).rd h',λh'=>((h0 (c:= .ext) rfl).ex rfl).mono λv Co hk=>⟨hk.1.nil,hk.2⟩,λh'=>(h0 (c:= .uJ) rfl).ld rfl⟩
theorem k8{m:Option Nat}{env:Env}{hh:y7}{G:Nat->Prop}{Os:List (Nat->Prop)}{b of k:Nat}{vs:List Value}{cs:List AV}(ht:MF Γ.tt t=some m)(hc:wT c=true)(h1:ev env x=some (.pointer (some ⟨b,of+k,none⟩)))(rY:tP hh ⟨b,of,none⟩ vs)(hr:uw hh G vs cs)(hx:L8 m cs k λr=>N ((d,r) :: e) o)(cn:vM Γ ⟨e,o⟩ env hh G Os)(gQ:c= .read->b ∉ Γ.fp) :
  St Γ.P Γ.n Γ.fp c (some d) (.load t x) ty env hh (CN Γ N):=by
 cases m with
 | none =>
  obtain⟨ti,t1,t2⟩:=Tf ht
  obtain⟨a,g1,g2⟩:=hx.ok
  obtain⟨v,g3,g4⟩:=hr.t.get g1
  exact St.qG hc (λhc hb=>St.load Γ.ok t1 t2 h1 (rY.cell g3) hb hc (CN.mk (cn.put d g4) g2)) gQ
 | some n =>
  obtain⟨ti,fs,t1,t2,t3⟩:=Te ht
  obtain⟨g1,g2⟩:=hx.ok
  have hl:=hr.t.len
  refine St.qG hc (λhc hb=>?_) gQ
  refine St.Mf Γ.ok t1 t2 h1 (l:=(vs.drop k).take n) ⟨λj v hv=>?_⟩ hb (by rw [t3];simp;omega) hc (CN.mk (cn.put d (a:= .agg ((cs.drop k).take n)) ⟨_,rfl,(hr.t.drop k).take n,λu hu=>hr.one u (List.mem_of_mem_drop (zW hu))⟩) g1)
  rw [List.getElem?_take] at hv
  split at hv
  ·rw [List.getElem?_drop] at hv
   have:=rY.cell hv
   rw [yZ,show of+k+j=of+(k+j) by omega]
   exact this
  ·cases hv
instance {m:Option Nat} {cs:List AV} {k:Nat}:Sp (X4 Γ c d t x ty e o N (.ad cs k) m) (L8 m cs k λr=>N ((d,r) :: e) o):=⟨λhn=>⟨λha hm hc=>⟨λenv hh G Os cn=>by
 obtain⟨v,h1,b,of,vs,rfl,g1,g2,g3,g4⟩:=cn.get ha
 exact k8 hm hc h1 g3 g4 hn cn λ_=>cn.nf.o_ g1⟩⟩⟩
instance {m:Option Nat} {b k:Nat}:Sp (X4 Γ c d t x ty e o N (.val (.pointer (some ⟨b,k,none⟩))) m) (L3 o b λ_ cs _=>mS Γ.fp c b (L8 m cs k λr=>N ((d,r) :: e) o)):=⟨λ⟨T,cs,rest,tk,gQ,hn⟩=>⟨λha hm hc=>⟨λenv hh G Os cn=>by
 obtain⟨v,h1,rfl⟩:=cn.get ha
 obtain⟨O,yz,yT⟩:=cn.take tk
 obtain⟨⟨_,vs,hb,hr⟩,_⟩:=yT.hp.own
 exact k8 (of:=0) hm hc (by rw [Nat.zero_add];exact h1) hb.z1r hr hn cn gQ⟩⟩⟩
instance {m:Option Nat} {v:Value} {s j r:Nat}:Sp (X4 Γ c d t x ty e o N (.oe v s j r) m) (gU o v λ_ sz l f _=>Rf (s=sz) (At l j λa=>ZB Γ.fp c (L8 m (f a) r λq=>N ((d,q) :: e) o))):=⟨λ⟨α,T,sz,l,f,rest,tk,hs,a,hj,gQ,hn⟩=>⟨λha hm hc=>⟨λenv hh G Os cn=>by
 obtain⟨w,h1,b,of,len,cap,rfl,rfl⟩:=cn.get ha
 subst hs
 obtain⟨O,yz,yT⟩:=cn.take tk
 obtain⟨⟨_,rows,hw,qy⟩,_⟩:=yT.hp.own
 rcases hw.sl.ok with⟨p,wR,e1,e2,_⟩|⟨b',of',wR,e1,_,_,_,rY⟩
 ·have:=(zS.1 hj).1;omega
 ·cases e1
  obtain⟨row,k1,k2,k3⟩:=nK rY qy hj
  exact k8 hm hc h1 k3 k1 hn cn λh=>gQ h _⟩⟩⟩

/-! ### Cv -/
inductive mf:List AV->Nat->AV->List AV->Prop where
 | z {x v:AV} {r:List AV}:mf (x :: r) 0 v (v :: r)
 | s {x v:AV} {r r':List AV} {k:Nat}:mf r k v r'->mf (x :: r) (k+1) v (x :: r')
theorem mf.eq :∀{l:List AV} {k:Nat} {v:AV} {l':List AV},mf l k v l'->l'=l.set k v/\k < l.length
 | _,_,_,_,.z=>by simp
 | _,_,_,_,.s hs=>by obtain⟨h1,h2⟩:=hs.eq;exact⟨by rw [h1];rfl,by simp;omega⟩
inductive oV:List AV->Nat->List AV->List AV->Prop where
 | z {l:List AV} {k:Nat}:oV l k [] l
 | c {l l1 l2 r:List AV} {k:Nat} {v:AV}:mf l k v l1->oV l1 (k+1) r l2->oV l k (v :: r) l2
theorem Y5 :∀{l:List Value} {k:Nat} {v:Value},k < l.length->qq l k v (l.set k v)
 | _ :: _,0,_,_=> .z
 | _ :: l,k+1,_,h=> .s (Y5 (l:=l) (by simpa using h))
theorem mf.rep{h:y7}{G:Nat->Prop}{cs uq:List AV}{k:Nat}{a:AV}{vs:List Value}{v:Value}(s:mf cs k a uq)(hr:uw h G vs cs)(ha:a.R h G v)(h1:v.oneCell'=true) :∃eu,qq vs k v eu/\uw h G eu uq:=by
 obtain⟨rfl,hk⟩:=s.eq
 have:=hr.t.len
 refine⟨vs.set k v,Y5 z6,hr.t.set k ha,λu hu=>?_⟩
 rcases List.mem_or_eq_of_mem_set hu with h2|rfl
 ·exact hr.one u h2
 ·exact h1
theorem oV.rep{h:y7}{G:Nat->Prop} :∀{cs uq yM:List AV} {k:Nat} {vs us:List Value},oV cs k yM uq->uw h G vs cs->uw h G us yM->∃eu,qC vs k us eu/\uw h G eu uq
 | _,_,_,_,vs,us,.z,hr,hu=>by
  match us,hu.t with
  | [],_=>exact⟨vs,.z,hr⟩
 | _,_,_,_,vs,us,.c h1 h2,hr,hu=>by
  match us,hu with
  | u :: us,⟨⟨g1,g2⟩,g3⟩ =>
   obtain⟨CC,k1,k2⟩:=h1.rep hr g1 (g3 u zd)
   obtain⟨SQ,k3,k4⟩:=h2.rep k2 ⟨g2,λw hw=>g3 w (by simp [hw])⟩
   exact⟨SQ,.c k1 k3,k4⟩
structure ZQ (l:List AV) (k:Nat) (v:AV) (M:List AV->Prop):Prop where
 ok:∃l',mf l k v l'/\M l'
theorem ZQ.r{l:List AV}{k:Nat}{v:AV}{M:List AV->Prop}{l':List AV}(h:mf l k v l')(hm:M l'):ZQ l k v M:=⟨l',h,hm⟩
structure y4 (l:List AV) (k:Nat) (m:List AV) (M:List AV->Prop):Prop where
 ok:∃l',oV l k m l'/\M l'
theorem y4.r{l:List AV}{k:Nat}{m:List AV}{M:List AV->Prop}{l':List AV}(h:oV l k m l')(hm:M l'):y4 l k m M:=⟨l',h,hm⟩
structure Up {α:Type} (f:α->List AV) (cs:List AV) (k:α->Prop):Prop where
 ok:∃x,f x=cs/\k x
theorem Up.r{α:Type}{f:α->List AV}{cs:List AV}{k:α->Prop}{x:α}(h:f x=cs)(hk:k x):Up f cs k:=⟨x,h,hk⟩
class Inv {α:Type} (f:α->List AV) (cs:List AV) (x:outParam α):Prop where
 eq:f x=cs
theorem Up.inv{α:Type}{f:α->List AV}{cs uq:List AV}{k:α->Prop}{x:α}(hl:LN cs uq)(h:Inv f uq x)(hk:k x):Up f cs k:=⟨x,h.eq.trans hl.eq.symm,hk⟩
structure HI (tt:Nat->Option TI) (t:TypeId) (a:AV) (cs:List AV) (k:Nat) (M:List AV->Prop):Prop where
 ok:∃ti uq,tt t=some ti/\M uq/\((ti.size=1/\(∀h G v,a.R h G v->v.oneCell'=true)/\mf cs k a uq)∨∃yM,a= .agg yM/\ti.size=yM.length/\yM≠ []/\oV cs k yM uq)
instance {tt:Nat->Option TI} {a:AV} {cs:List AV} {k:Nat} {M:List AV->Prop} [qt a]:Sp (HI tt t a cs k M) (Lk (tt t) λti=>Rf (ti.size=1) (ZQ cs k a M)):=⟨λ⟨ti,h1,h2,l,h3,h4⟩=>⟨ti,l,h1,h4,.inl ⟨h2,qt.h,h3⟩⟩⟩
instance {tt:Nat->Option TI} {yM cs:List AV} {k:Nat} {M:List AV->Prop}:Sp (HI tt t (.agg yM) cs k M) (Lk (tt t) λti=>Rf (Nat.beq ti.size yM.length && Nat.blt 0 yM.length) (y4 cs k yM M)):=⟨λ⟨ti,h1,h2,l,h3,h4⟩=>⟨ti,l,h1,h4,.inr ⟨yM,rfl,by simp at h2;exact h2.1,λh=>by subst h;simp at h2,h3⟩⟩⟩
structure LA (Γ:Cx) (c:xa) (t:TypeId) (x y:Operand) (ty:TypeId) (e:EA) (o:List yh) (N:NA) (a b:AV):Prop where
 h:xr e x=some a->xr e y=some b->yN c=true->SA Γ c none (.store t x y) ty e o N
instance:Sp (SA Γ c none (.store t x y) ty e o N) (Rf (yN c=true) (Lk (xr e x) λa=>Lk (xr e y) λb=>LA Γ c t x y ty e o N a b)):=⟨λ⟨h1,_,ha,_,hb,h⟩=>h.h ha hb h1⟩
theorem j6{env:Env}{hh:y7}{G:Nat->Prop}{b k:Nat}{T:TypeId}{vs:List Value}{cs:List AV}{a:AV}{v:Value}{M:List AV->Prop}{N':Env->y7->Prop}(hc:yN c=true∨yP c=true/\b∈Γ.fp)(h1:ev env x=some (.pointer (some ⟨b,k,none⟩)))(h2:ev env y=some v)(ha:a.R hh G v)(hb:lN hh b T vs){pre post us:List Value}(hv:vs=pre ++ us ++ post){k':Nat}(hk:k=pre.length+k')(hr:uw hh G us cs)
  (hx:HI Γ.tt t a cs k' M) (hn:∀pQ uq h',ej hh b T (pre ++ pQ ++ post) h'->uw hh G pQ uq->pQ.length=us.length->M uq->N' env h'):St Γ.P Γ.n Γ.fp c none (.store t x y) ty env hh N':=by
 subst hk
 have dG:∀{us pQ:List Value} {i:Nat} {w:Value} (post:List Value),qq us i w pQ->qq (us ++ post) i w (pQ ++ post):=by
  intro us pQ i w post hs
  induction hs with
  | z=>exact .z
  | s _ ih=>exact .s ih
 have dF:∀{us pQ:List Value} {i:Nat} {w:Value} (pre:List Value),qq us i w pQ->qq (pre ++ us) (pre.length+i) w (pre ++ pQ):=by
  intro us pQ i w pre hs
  induction pre with
  | nil=>simpa using hs
  | cons q pre ih=>rw [List.length_cons,show pre.length+1+i=pre.length+i+1 by omega];exact .s ih
 have US:∀{us pQ:List Value} {i:Nat} {m:List Value} (pre post:List Value),qC us i m pQ->qC (pre ++ us ++ post) (pre.length+i) m (pre ++ pQ ++ post):=by
  intro us pQ i m pre post hs
  induction hs with
  | z=>exact .z
  | c g1 _ ih=>exact .c (dG post (dF pre g1)) (by rw [Nat.add_assoc];exact ih)
 obtain⟨ti,uq,t1,hm,⟨t2,t3,t4⟩|⟨yM,rfl,t2,t3,t4⟩⟩:=hx.ok
 ·obtain⟨pQ,g1,g2⟩:=t4.rep hr ha (t3 _ _ _ ha)
  exact St.store Γ.ok t1 t2 h1 h2 (t3 _ _ _ ha) (hv▸hb) (dG post (dF pre g1)) hc λh' hu _=>hn pQ uq h' hu g2 (by rw [g1.eq.1];simp) hm
 ·obtain⟨ws,rfl,Su⟩:=ha
  obtain⟨pQ,g1,g2⟩:=t4.rep hr Su
  have hl:=Su.t.len
  have vB:ws≠ []:=λh=>by subst h;exact t3 (zQ (by simpa using hl.symm))
  exact St.J6 Γ.ok t1 h1 h2 (by rw [t2,hl]) vB Su.one (hv▸hb) (US pre post g1) hc λh' hu _=>hn pQ uq h' hu g2 (g1.bound vB).2 hm
instance {b k:Nat} {a:AV}:Sp (LA Γ c t x y ty e o N (.val (.pointer (some ⟨b,k,none⟩))) a) (L3 o b λT cs rest=>HI Γ.tt t a cs k λuq=>N e (yr b T uq :: rest)):=⟨λ⟨T,cs,rest,tk,hn⟩=>⟨λha hb hc=>⟨λenv hh G Os cn=>by
 obtain⟨v,h1,rfl⟩:=cn.get ha
 obtain⟨w,h2,h3⟩:=cn.get hb
 obtain⟨O,yz,yT⟩:=cn.take tk
 obtain⟨⟨ho,vs,oN,hr⟩,_⟩:=yT.hp.own
 refine j6 (.inl hc) h1 h2 h3 oN (pre:= []) (post:= []) (us:=vs) zd zd hr hn λpQ uq h' hu SD _ hm=>?_
 rw [List.nil_append,List.append_nil] at hu
 have yL:=hu.wm
 have hx:uo (λy=>¬O y) hh h':=⟨yL.size,λy hy hl=>yL.same y hl (λhm=>hy ((ho y).2 (by simpa using hm)))⟩
 have hg:uo G hh h':=hx.mono λy hy bD=>(yT.hp.o O zd y bD).2.2 hy
 exact CN.mk (yT.jT (R':=yr b T uq) (O':=O) hx (λy hy=>⟨Nat.lt_of_lt_of_le (yT.hp.o O zd y hy).1 yL.size,.inl hy⟩) ⟨ho,pQ,hu.rD,SD.wm hg⟩) hm⟩⟩⟩
structure StF (Γ:Cx) (c:xa) (n:Nat) (t:TypeId) (x y:Operand) (ty:TypeId) (e:EA) (o:List yh) (N:NA) (a b:AV):Prop where
 h:xr e x=some a->xr e y=some b->yP c=true->(∀q,n<=q->q∈Γ.fp)->SA Γ c none (.store t x y) ty e o N
instance (priority:=1100) {P:Program} {tt:Nat->Option TI} {en:Nat->Bool} {ok:xh P tt en} {T:Nat->Ord×(Nat->xa)} {m:Nat} {rs:Array ResultVar} {K:AV->List yh->Prop} {h0:y7} {G0 O0:Nat->Prop} {n:Nat} :
  Sp (SA ⟨P,tt,en,ok,T,m,rs,K,h0,G0,O0,⟨some n⟩⟩ c none (.store t x y) ty e o N) (Rf (yP c=true) (Lk (xr e x) λa=>Lk (xr e y) λb=>StF ⟨P,tt,en,ok,T,m,rs,K,h0,G0,O0,⟨some n⟩⟩ c n t x y ty e o N a b)):=⟨λ⟨h1,_,ha,_,hb,h⟩=>h.h ha hb h1 λ_ hq=>Fp.mem_some.2 hq⟩
instance {b k n:Nat} {a:AV}:Sp (StF Γ c n t x y ty e o N (.val (.pointer (some ⟨b,k,none⟩))) a) (L3 o b λT cs rest=>Om (n<=b) (HI Γ.tt t a cs k λuq=>N e (yr b T uq :: rest))):=⟨λ⟨T,cs,rest,tk,Zq,hn⟩=>⟨λha hb hc hq=>⟨λenv hh G Os cn=>by
 obtain⟨v,h1,rfl⟩:=cn.get ha
 obtain⟨w,h2,h3⟩:=cn.get hb
 obtain⟨O,yz,yT⟩:=cn.take tk
 obtain⟨⟨ho,vs,oN,hr⟩,_⟩:=yT.hp.own
 refine j6 (.inr ⟨hc,hq b Zq⟩) h1 h2 h3 oN (pre:= []) (post:= []) (us:=vs) zd zd hr hn λpQ uq h' hu SD _ hm=>?_
 rw [List.nil_append,List.append_nil] at hu
 have yL:=hu.wm
 have hx:uo (λy=>¬O y) hh h':=⟨yL.size,λy hy hl=>yL.same y hl (λhm=>hy ((ho y).2 (by simpa using hm)))⟩
 have hg:uo G hh h':=hx.mono λy hy bD=>(yT.hp.o O zd y bD).2.2 hy
 exact CN.mk (yT.jT (R':=yr b T uq) (O':=O) hx (λy hy=>⟨Nat.lt_of_lt_of_le (yT.hp.o O zd y hy).1 yL.size,.inl hy⟩) ⟨ho,pQ,hu.rD,SD.wm hg⟩) hm⟩⟩⟩
end
section
variable {Γ:Cx} {k:List KI} {e:EA} {o:List yh} {N:NA} {c:xa} {d:Tmp} {ty:TypeId} {x y z:Operand} {t u:TypeId} {kk:IntKind} {i:Int}

theorem z1t{sz:Nat} :∀(rows:List (List Value)) (j:Nat) (row:List Value),rows[j]?=some row->∃r1 r2:List (List Value),rows=r1 ++ row :: r2/\r1.length=j
 | [],j,_,h=>by simp at h
 | a :: rs,0,row,h=>⟨[],rs,by simp at h;simp [h],rfl⟩
 | a :: rs,j+1,row,h=>by
  obtain⟨r1,r2,e,hl⟩:=z1t (sz:=sz) rs j row (by simpa using h)
  exact⟨a :: r1,r2,by simp [e],by simp [hl]⟩
theorem tw{sz:Nat} :∀(rows:List (List Value)),(∀r∈rows,r.length=sz)->rows.flatten.length=rows.length * sz
 | [],_=>by simp
 | a :: rs,h=>by rw [List.flatten_cons,zP,h a zd,tw rs (λr hr=>h r (by simp [hr])),List.length_cons,Nat.add_mul];omega
instance {v:Value} {s j r:Nat} {a:AV}:Sp (LA Γ c t x y ty e o N (.oe v s j r) a) (gU o v λT sz l f rest=>Rf (s=sz) (At l j λq=>HI Γ.tt t a (f q) r λuq=>Up f uq λq'=>N e (yb v T sz (l.set j q') f :: rest))):=⟨λ⟨α,T,sz,l,f,rest,tk,hs,q,hj,hn⟩=>⟨λha hb hc=>⟨λenv hh G Os cn=>by
 obtain⟨v,h1,b,of,len,cap,rfl,rfl⟩:=cn.get ha
 obtain⟨w,h2,h3⟩:=cn.get hb
 subst hs
 obtain⟨O,yz,yT⟩:=cn.take tk
 obtain⟨⟨ho,rows,hw,qy⟩,_⟩:=yT.hp.own
 obtain⟨row,k1,k2,k3⟩:=qy.at hj
 obtain⟨r1,r2,er,hl⟩:=z1t (sz:=s) rows j row k1
 have YR:=hw.v_
 rcases hw.ok with⟨e1,_⟩|⟨b',of',wR,L,e1,oN,g1,g2,g3⟩
 ·cases e1
 cases e1
 have ue:l.length * s<=cap * s:=zU _ g2
 have hL:L=L.take of ++ rows.flatten ++ L.drop (of+l.length * s):=by
  rw [<-g3]
  conv=>lhs;rw [<-List.take_append_drop of L,<-List.take_append_drop (l.length * s) (L.drop of)]
  rw [List.drop_drop,List.append_assoc]
 have R0:r1.flatten.length=j * s:=by rw [tw r1 (λr hr=>qy.sz r (by rw [er];simp [hr])),hl]
 refine j6 (.inl hc) h1 h2 h3 oN (pre:=L.take of ++ r1.flatten) (post:=r2.flatten ++ L.drop (of+l.length * s)) (us:=row) (hL.trans (by rw [er];simp)) (by simp [R0];omega) k2 hn λpQ uq h' hu SD hlen hm=>?_
 obtain⟨q',hq,hm⟩:=hm
 have yL:=hu.wm
 have hx:uo (λy=>¬O y) hh h':=⟨yL.size,λy hy hl=>yL.same y hl (λhm=>hy ((ho y).2 (by simpa [xz] using hm)))⟩
 have hg:uo G hh h':=hx.mono λy hy bD=>(yT.hp.o O zd y bD).2.2 hy
 have pJ:rows.set j pQ=r1 ++ pQ :: r2:=by rw [er,<-hl];simp
 have vV:Rows h' G s (rows.set j pQ) (l.set j q') f:=(qy.wm hg).set (hq▸SD.wm hg) (by rw [hlen,k3])
 refine CN.mk (yT.jT (R':=yb _ T s (l.set j q') f) (O':=O) hx (λy hy=>⟨Nat.lt_of_lt_of_le (yT.hp.o O zd y hy).1 yL.size,.inl hy⟩) ⟨ho,rows.set j pQ,⟨by rw [vV.pE],.inr ⟨b,of,cap,_,by rw [zY],hu.rD, ?_,by rw [zY];exact g2, ?_⟩⟩,vV⟩) hm
 ·have:=congrArg List.length hL
  simp only [zP,er,List.flatten_append,List.flatten_cons] at this ⊢
  omega
 ·rw [zY,pJ]
  have e2:(L.take of ++ r1.flatten ++ pQ ++ (r2.flatten ++ L.drop (of+l.length * s)))=L.take of ++ ((r1 ++ pQ :: r2).flatten ++ L.drop (of+l.length * s)):=by simp
  have ht:(L.take of).length=of:=by rw [zN];omega
  rw [e2,List.drop_append_of_le_length z6,List.drop_of_length_le z6,List.nil_append]
  have e3:l.length * s=(r1 ++ pQ :: r2).flatten.length:=by rw [<-pJ,vV.pE,zY]
  rw [e3,List.take_left]⟩⟩⟩

/-! ### et blocks -/
instance:Sp (SA Γ c (some d) (.alloc t) ty e o N) (Rf (yP c=true) (Lk (DM Γ.tt t) λzs=>Rf (zs.all Value.oneCell'=true) (Nm (zs.map AV.val) λcs=>yc λb:Nat=>N ((d,.val (.pointer (some ⟨b,0,none⟩))) :: e) (yr b t cs :: o)))):=⟨λ⟨hc,zs,hz,h1,hn⟩=>⟨λenv hh G Os cn=>by
 unfold DM at hz
 split at hz
 ·rename_i ti ht
  cases hz
  refine St.alloc Γ.ok ht hc rfl λb h' vV hb u4=>?_
  refine CN.mk ((cn.new (R:=yr b t _) (O:=λy=>y=b) vV (λy h=>h) ⟨λy=>Iff.rfl,_,vV.rD, ?_,λu hu=>List.all_eq_true.1 h1 u hu⟩).put d (a:= .val _) rfl) (hn.ok.ok b)
  generalize ti.zero.cells.toList=zs
  induction zs with
  | nil=>trivial
  | cons z zs ih=>exact⟨rfl,ih⟩
 ·cases hz⟩⟩
instance (priority:=1100) {P:Program} {tt:Nat->Option TI} {en:Nat->Bool} {ok:xh P tt en} {T:Nat->Ord×(Nat->xa)} {m:Nat} {rs:Array ResultVar} {K:AV->List yh->Prop} {h0:y7} {G0 O0:Nat->Prop} {n:Nat} :
  Sp (SA ⟨P,tt,en,ok,T,m,rs,K,h0,G0,O0,⟨some n⟩⟩ c (some d) (.alloc t) ty e o N) (Rf (yP c=true) (Lk (DM tt t) λzs=>Rf (zs.all Value.oneCell'=true) (Nm (zs.map AV.val) λcs=>yc λb:Nat=>Im (n<=b) (N ((d,.val (.pointer (some ⟨b,0,none⟩))) :: e) (yr b t cs :: o))))):=⟨λ⟨hc,zs,hz,h1,hn⟩=>⟨λenv hh G Os cn=>by
 unfold DM at hz
 split at hz
 ·rename_i ti ht
  cases hz
  refine St.alloc ok ht hc rfl λb h' vV hb u4=>?_
  refine CN.mk ((cn.new (R:=yr b t _) (O:=λy=>y=b) vV (λy h=>h) ⟨λy=>Iff.rfl,_,vV.rD, ?_,λu hu=>List.all_eq_true.1 h1 u hu⟩).put d (a:= .val _) rfl) ((hn.ok.ok b).k (by have:=(cn.nf n rfl).1;have:=vV.eb;omega))
  generalize ti.zero.cells.toList=zs
  induction zs with
  | nil=>trivial
  | cons z zs ih=>exact⟨rfl,ih⟩
 ·cases hz⟩⟩
structure BR (a:AV) (k:List AV->Prop):Prop where
 ok:∃cs,k cs/\∀h G v,a.R h G v->∃vs,v.cells.toList=vs/\uw h G vs cs
theorem cells_one{v:Value}(h:v.oneCell'=true):v.cells=#[v]:=by cases v <;> first|rfl|(simp [Value.oneCell'] at h)
instance {cs:List AV} {M:List AV->Prop}:Sp (BR (.agg cs) M) (M cs):=⟨λh=>⟨cs,h,by rintro h G v ⟨vs,rfl,hr⟩;exact⟨vs,rfl,hr⟩⟩⟩
instance {a:AV} {M:List AV->Prop} [qt a]:Sp (BR a M) (M [a]):=⟨λh=>⟨[a],h,λhh G v hv=>by
 have h1:=qt.h hh G v hv
 exact⟨[v],by rw [cells_one h1],⟨hv,trivial⟩,λu hu=>by simp at hu;subst hu;exact h1⟩⟩⟩
instance:Sp (SA Γ c (some d) (.box t x) ty e o N) (Rf (yP c=true) (Lk (xr e x) λa=>BR a λcs=>yc λb:Nat=>N ((d,.val (.pointer (some ⟨b,0,none⟩))) :: e) (yr b t cs :: o))):=⟨λ⟨hc,a,ha,cs,hn,hr⟩=>⟨λenv hh G Os cn=>by
 obtain⟨v,h1,h2⟩:=cn.get ha
 obtain⟨vs,h3,h4⟩:=hr _ _ _ h2
 refine St.box h1 hc h3 λb h' vV hb u4=>?_
 exact CN.mk ((cn.new (R:=yr b t cs) (O:=λy=>y=b) vV (λy h=>h) ⟨λy=>Iff.rfl,vs,vV.rD,h4.wm (cn.Fy vV)⟩).put d (a:= .val _) rfl) (hn.ok b)⟩⟩

/-! ### RG is built -/
def Xi(e:EA):List (Nat×Operand)->Option (List (Nat×AV))
 | []=>some []
 | (i,x) :: r=>match xr e x,Xi e r with
  | some v,some l=>some ((i,v) :: l)
  | _,_=>none
inductive Vx (h:y7) (G:Nat->Prop):List (Nat×Value)->List (Nat×AV)->Prop where
 | nil:Vx h G [] []
 | cons {i:Nat} {v:Value} {a:AV} {vs:List (Nat×Value)} {yM:List (Nat×AV)}:a.R h G v->Vx h G vs yM->Vx h G ((i,v) :: vs) ((i,a) :: yM)
theorem vM.Lt{env:Env}{h:y7}{G:Nat->Prop}{Os:List (Nat->Prop)}(cn:vM Γ ⟨e,o⟩ env h G Os) :∀{xs:List (Nat×Operand)} {yM:List (Nat×AV)},Xi e xs=some yM->∃vs,WX env xs=some vs/\Vx h G vs yM
 | [],yM,hx=>by simp only [Xi,Option.some.injEq] at hx;subst hx;exact⟨[],rfl,.nil⟩
 | (i,x) :: r,yM,hx=>by
  simp only [Xi] at hx
  split at hx
  ·rename_i a l h1 h2
   simp only [Option.some.injEq] at hx
   subst hx
   obtain⟨v,e1,r1⟩:=cn.get h1
   obtain⟨vs,e2,r2⟩:=cn.Lt h2
   exact⟨(i,v) :: vs,by simp [WX,e1,e2],.cons r1 r2⟩
  ·cases hx
inductive oW (place:Nat->Option (Nat×Nat)):List AV->List (Nat×AV)->List AV->Prop where
 | nil {l:List AV}:oW place l [] l
 | agg {l l1 l2 m:List AV} {i off n:Nat} {r:List (Nat×AV)}:place i=some (off,n+1)->m.length=n+1->oV l off m l1->oW place l1 r l2->oW place l ((i,.agg m) :: r) l2
 | one {l l1 l2:List AV} {i off:Nat} {a:AV} {r:List (Nat×AV)}:place i=some (off,1)->qt a->mf l off a l1->oW place l1 r l2->oW place l ((i,a) :: r) l2
theorem oW.rep{h:y7}{G:Nat->Prop}{place:Nat->Option (Nat×Nat)}{cs uq:List AV}{ps:List (Nat×AV)}(f:oW place cs ps uq) :∀{vs:List Value} {qs:List (Nat×Value)},uw h G vs cs->Vx h G qs ps->∃eu,iz place vs qs eu/\uw h G eu uq:=by
 induction f with
 | nil=>intro vs qs hr hp;cases hp;exact⟨vs,.nil,hr⟩
 | agg h1 h2 h3 _ ih =>
  intro vs qs hr hp
  cases hp with
  | cons g1 g2 =>
   obtain⟨ws,rfl,Su⟩:=g1
   obtain⟨CC,k1,k2⟩:=h3.rep hr Su
   obtain⟨SQ,k3,k4⟩:=ih k2 g2
   exact⟨SQ,.agg h1 (by rw [Su.t.len,h2]) k1 k3,k4⟩
 | one h1 h2 h3 _ ih =>
  intro vs qs hr hp
  cases hp with
  | cons g1 g2 =>
   have ho:=h2.h _ _ _ g1
   obtain⟨CC,k1,k2⟩:=h3.rep hr g1 ho
   obtain⟨SQ,k3,k4⟩:=ih k2 g2
   exact⟨SQ,.one h1 (cells_one ho) k1 k3,k4⟩
structure Fk (place:Nat->Option (Nat×Nat)) (l:List AV) (ps:List (Nat×AV)) (k:List AV->Prop):Prop where
 ok:∃l',oW place l ps l'/\k l'
theorem Fk.r{place:Nat->Option (Nat×Nat)}{l l':List AV}{ps:List (Nat×AV)}{k:List AV->Prop}(h:oW place l ps l')(hk:k l'):Fk place l ps k:=⟨l',h,hk⟩
theorem ru{h:y7}{G:Nat->Prop} :∀(zs:List Value),zs.all Value.oneCell'=true->uw h G zs (zs.map AV.val)
 | [],_=>⟨trivial,by simp⟩
 | z :: zs,hz=>by
  simp only [List.all_cons,Bool.and_eq_true] at hz
  have ih:=ru (h:=h) (G:=G) zs hz.2
  exact⟨⟨rfl,ih.t⟩,λu hu=>(List.mem_cons.1 hu).elim (λe=>e▸hz.1) (ih.one u)⟩
def DQ(tt:Nat->Option TI)(t:Nat):Option (List (Nat×Nat×Nat)×List Value):=match tt t with
 | some ti=>match ti.kind,ti.zero with
  | .struct fs,.agg zl=>if mo fs=true then some (fs,zl.toList) else none
  | _,_=>none
 | none=>none
theorem dC{tt:Nat->Option TI}{t:Nat}{p:List (Nat×Nat×Nat)×List Value}(h:DQ tt t=some p) :∃ti,tt t=some ti/\ti.kind= .struct p.1/\ti.zero= .agg p.2.toArray/\mo p.1=true:=by
 unfold DQ at h
 split at h
 ·rename_i ti h1
  split at h
  ·rename_i fs zl h2 h3
   split at h
   ·rename_i h4
    cases h
    exact⟨ti,h1,h2,by simp [h3],h4⟩
   ·cases h
  ·cases h
 ·cases h
instance {parts:Array (Nat×Operand)}:Sp (SA Γ c (some d) (.build t parts) ty e o N) (Lk (Xi e parts.toList) λps=>Lk (DQ Γ.tt t) λq=>Rf (q.2.all Value.oneCell'=true) (Fk (DT q.1) (q.2.map AV.val) ps λcs=>N ((d,.agg cs) :: e) o)):=⟨λ⟨ps,Zn,q,hq,h1,cs,hf,hn⟩=>⟨λenv hh G Os cn=>by
 obtain⟨ti,t1,t2,t3,t4⟩:=dC hq
 obtain⟨vs,g1,g2⟩:=cn.Lt Zn
 obtain⟨eu,k1,k2⟩:=hf.rep (ru (h:=hh) (G:=G) q.2 h1) g2
 exact St.build Γ.ok t1 t2 t3 t4 g1 k1 (CN.mk (cn.put d (a:= .agg cs) ⟨eu,rfl,k2⟩) hn)⟩⟩
def chunk{β:Type}(sz:Nat):Nat->List β->List (List β)
 | 0,_=> []
 | n+1,l=>l.take sz :: chunk sz n (l.drop sz)
theorem jF{h:y7}{G:Nat->Prop}{sz:Nat} :∀(n:Nat) {vs:List Value} {cs:List AV},uw h G vs cs->vs.length=n * sz->Rows h G sz (chunk sz n vs) (chunk sz n cs) id/\(chunk sz n vs).flatten=vs/\(chunk sz n cs).length=n
 | 0,vs,cs,hr,hl=>by
  have:vs= []:=zQ (by simpa using hl)
  subst this
  exact⟨Rows.nil,rfl,rfl⟩
 | n+1,vs,cs,hr,hl=>by
  rw [Nat.add_mul] at hl
  obtain⟨h1,h2,h3⟩:=jF (sz:=sz) n (vs:=vs.drop sz) (cs:=cs.drop sz) ⟨hr.t.drop sz,λu hu=>hr.one u (List.mem_of_mem_drop hu)⟩ (by rw [List.length_drop];omega)
  refine⟨⟨by simp [chunk,h1.len],λi a b e1 e2=>?_,λa ha=>?_⟩,by simp [chunk,h2],by simp [chunk,h3]⟩
  ·cases i with
   | zero=>simp [chunk] at e1 e2;subst e1;subst e2;exact⟨hr.t.take sz,λu hu=>hr.one u (zW hu)⟩
   | succ i=>exact h1.row i a b (by simpa [chunk] using e1) (by simpa [chunk] using e2)
  ·rcases List.mem_cons.1 ha with rfl|ha
   ·rw [zN];omega
   ·exact h1.sz a ha
theorem gK{z:List Value}(hz:z.all Value.oneCell'=true) :∀n,(uh z n).all Value.oneCell'=true
 | 0=>rfl
 | n+1=>by simp [uh,List.all_append,hz,gK hz n]
instance {m:Nat} {parts:Array (Nat×Operand)}:Sp (SA Γ c (some d) (.buildSlice t m parts) ty e o N) (Rf (yP c=true) (Lk (Xi e parts.toList) λps=>Lk (nN Γ.tt t) λp=>Rf (p.2.zero.cells.toList.all Value.oneCell'=true/\p.2.size=p.2.zero.cells.toList.length/\Nat.ble (m * p.2.size) 16777216=true) (Fk (plA p.2.size) ((uh p.2.zero.cells.toList m).map AV.val) ps λcs=>yc λv:Value=>N ((d,.ow v) :: e) (yb v p.1 p.2.size (chunk p.2.size m cs) id :: o)))):=⟨λ⟨hc,ps,Zn,p,hp,⟨h1,h2,h3⟩,cs,hf,hn⟩=>⟨λenv hh G Os cn=>by
 obtain⟨ti,t1,t2,t3⟩:=xg hp
 obtain⟨vs,g1,g2⟩:=cn.Lt Zn
 obtain⟨eu,k1,k2⟩:=hf.rep (ru (h:=hh) (G:=G) _ (gK h1 m)) g2
 refine St.buildSlice Γ.ok t1 t2 t3 rfl h2 h3 g1 k1 hc λb h' vV hb u4=>?_
 have hl:eu.length=m * p.2.size:=by
  clear hn
  have key:∀{pl:Nat->Option (Nat×Nat)} {l l':List Value} {q:List (Nat×Value)},iz pl l q l'->l'.length=l.length:=by
   intro pl l l' q hf
   induction hf with
   | nil=>rfl
   | one _ _ hs _ ih=>rw [ih,hs.length]
   | agg _ hm hs _ ih=>rw [ih,(hs.bound (by intro h;simp [h] at hm)).2]
  rw [key k1,uE,<-h2]
 obtain⟨r1,r2,r3⟩:=jF m k2 hl
 refine CN.mk ((cn.new (R:=yb (.slice (some ⟨b,0,none⟩) m m) p.1 p.2.size (chunk p.2.size m cs) id) (O:=λy=>y=b) vV (λy h=>h) ⟨λy=>by simp [xz],_, ?_,r1.wm (cn.Fy vV)⟩).put d (a:= .ow _) ⟨rfl,_,_,_,rfl⟩) (hn.ok _)
 rw [r2,r3]
 exact Own.ET vV.rD hl⟩⟩
structure yC (zs:List AV) (k:∀{α:Type},α->(α->List AV)->Prop):Prop where
 ok:∃(α:Type) (x:α) (f:α->List AV),f x=zs/\k x f
theorem yC.r{α:Type}{zs:List AV}{k:∀{α:Type},α->(α->List AV)->Prop}(f:α->List AV)(x:α)(h:f x=zs)(hk:k x f):yC zs k:=⟨α,x,f,h,hk⟩
theorem XO{h:y7}{G:Nat->Prop}{α:Type}{f:α->List AV}{a:α}{zl:List Value}(hz:zl.all Value.oneCell'=true)(hf:f a=zl.map AV.val)(m:Nat):Rows h G zl.length (List.replicate m zl) (List.replicate m a) f :=
 ⟨by simp,λi r b e1 e2=>by
  have h1:=List.eq_of_mem_replicate (zM e1)
  have h2:=List.eq_of_mem_replicate (zM e2)
  subst h1;subst h2
  rw [hf];exact ru _ hz,λr hr=>by rw [List.eq_of_mem_replicate hr]⟩
theorem ju(z:List Value) :∀m,uh z m=(List.replicate m z).flatten
 | 0=>rfl
 | m+1=>by rw [uh,ju z m,List.replicate_succ,List.flatten_cons]
instance:Sp (SA Γ c (some d) (.makeSlice t x y) ty e o N) (Rf (yP c=true) (Lk (xr e x) λa=>Lk (xr e y) λb=>tZ Γ c d (.makeSlice t x y) ty e o N x a y b)):=⟨λ⟨_,_,ha,_,hb,h⟩=>h.h ha hb⟩
instance {k1 k2:IntKind} {m n:Int}:Sp (tZ Γ c d (.makeSlice t x y) ty e o N x (.val (.int k1 m)) y (.val (.int k2 n))) (Rf (yP c=true) (Lk (nN Γ.tt t) λp=>Rf (p.2.zero.cells.toList.all Value.oneCell'=true/\p.2.size=p.2.zero.cells.toList.length/\Nat.ble p.2.bytes 100000=true) (Jx n 1000000000 λcp=>Jx m cp λlen=>Nm (p.2.zero.cells.toList.map AV.val) λzs=>yC zs λ{_} a f=>yc λv:Value=>N ((d,.ow v) :: e) (yb v p.1 p.2.size (List.replicate len a) f :: o)))):=⟨λ⟨hc,p,hp,⟨h1,h2,h3⟩,cp,hcp,ue,len,hlen,V8,hn⟩=>⟨λha hb=>⟨λenv hh G Os cn=>by
 obtain⟨v,g1,g2⟩:=cn.get ha
 obtain⟨w,g3,g4⟩:=cn.get hb
 have g2:v= .int k1 m:=g2
 have g4:w= .int k2 n:=g4
 subst g2;subst g4
 obtain⟨ti,t1,t2,t3⟩:=xg hp
 obtain⟨α,a,f,hf,hn⟩:=hn.ok.ok
 refine St.E_ Γ.ok t1 t2 t3 rfl h2 h3 g1 g3 hlen hcp V8 ue hc λb h' vV hb u4=>?_
 have hr:=XO (h:=h') (G:=G) h1 hf len
 refine CN.mk ((cn.new (R:=yb (.slice (some ⟨b,0,none⟩) len cp) p.1 p.2.size (List.replicate len a) f) (O:=λy=>y=b) vV (λy h=>h) ⟨λy=>by simp [xz],List.replicate len p.2.zero.cells.toList, ?_,h2▸hr⟩).put d (a:= .ow _) ⟨rfl,_,_,_,rfl⟩) (hn.ok _)
 have e1:(uh p.2.zero.cells.toList cp).length=cp * p.2.size:=by rw [uE,h2]
 refine⟨by rw [hr.pE,h2],.inr ⟨b,0,cp,_,by simp,vV.rD,z6,by simpa using V8, ?_⟩⟩
 rw [List.drop_zero,zR,ju,<-Nat.sub_add_cancel V8,Nat.add_comm,<-List.replicate_append_replicate,List.flatten_append]
 have e2:len * p.2.size=(List.replicate len p.2.zero.cells.toList).flatten.length:=by rw [hr.pE,h2];simp
 rw [e2,List.take_left]⟩⟩⟩
end
end Go.CF
