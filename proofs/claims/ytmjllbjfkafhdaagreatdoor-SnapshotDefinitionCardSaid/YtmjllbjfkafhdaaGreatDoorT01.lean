/- Part 1 of the ground of this proof: what its texts say of the model, the program and the plain data; conditions: those that are named. -/
import Derived.Orders
import Derived.RangeFuncLeaves
import Derived.Tactics
import Derived.TacticsIn
import Derived.Laws.Append
import Derived.Laws.AppendOwn
import Derived.Laws.Slices
import Derived.Laws.Small
import Derived.Laws.Unary
import Derived.Laws.Entries
import Derived.Laws.Cells
import Derived.Laws.CopyRow
import Derived.Laws.Build
import Derived.WalkSpells
import Derived.Laws.Tables
import Derived.MapKept
import Derived.Laws.MakeOwn
namespace Go.CF
theorem zS{α:Type _}{l:List α}{i:Nat}{a:α}:l[i]?=some a↔∃h:i < l.length,l[i]=a:=List.getElem?_eq_some_iff
theorem zM{α:Type _}{l:List α}{i:Nat}{a:α}(h:l[i]?=some a):a∈l:=List.mem_of_getElem? h
theorem zO{α:Type _}{a:α}{l:List α}(h:a∈l) :∃i:Nat,l[i]?=some a:=List.getElem?_of_mem h
theorem zF{p:Prop}[_i:Decidable p](h:¬p):decide p=false:=decide_eq_false h
theorem zT{p:Prop}[_i:Decidable p](h:p):decide p=true:=decide_eq_true h
theorem zD{p q:Prop}[_i:Decidable p][_j:Decidable q]:decide p=decide q↔(p↔q):=decide_eq_decide
theorem zB{n m:Nat}(h:Nat.ble n m=true):n<=m:=Nat.le_of_ble_eq_true h
theorem zA{α:Type _}{l:Array α}{i:Nat}{a:α}:l[i]?=some a↔∃h:i < l.size,l[i]=a:=Array.getElem?_eq_some_iff
theorem zL{α:Type _}{l:List α}:l.take l.length=l:=List.take_length
theorem zK{α:Type _}{l:List α}{i:Nat}:l.take (i+1)=l.take i ++ l[i]?.toList:=List.take_add_one
theorem zE{α:Type _}{l:List α}{i:Nat}(h:i < l.length):l[i]?=some l[i]:=List.getElem?_eq_getElem h
theorem zN{α:Type _}{i:Nat}{l:List α}:(l.take i).length=min i l.length:=List.length_take
theorem zP{α:Type _}{l r:List α}:(l ++ r).length=l.length+r.length:=List.length_append
theorem zW{α:Type _}{a:α}{i:Nat}{l:List α}(h:a∈l.take i):a∈l:=List.mem_of_mem_take h
theorem zQ{α:Type _}{l:List α}(h:l.length=0):l= []:=List.eq_nil_of_length_eq_zero h
theorem zU{m n:Nat}(k:Nat)(h:m<=n):m * k<=n * k:=Nat.mul_le_mul_right k h
noncomputable abbrev zC (p:Prop):Decidable p:=Classical.propDecidable p
theorem zI{α:Type _}{l r:List α}{i:Nat}(h:i < l.length):(l ++ r)[i]?=l[i]?:=List.getElem?_append_left h
theorem zJ{α:Type _}{l r:List α}{i:Nat}(h:l.length<=i):(l ++ r)[i]?=r[i - l.length]?:=List.getElem?_append_right h
theorem zX{α:Type _}{l:List α}{i:Nat}(h:l.length<=i):l[i]?=none:=List.getElem?_eq_none h
theorem zR{α:Type _}{n:Nat}{a:α}:(List.replicate n a).length=n:=List.length_replicate
theorem zY{α:Type _}{l:List α}{i:Nat}{a:α}:(l.set i a).length=l.length:=List.length_set
theorem zZ(n:Nat):0<=n:=Nat.zero_le n
theorem zG{α β:Type _}{f:α->β}{l:List α}{i:Nat}:(l.map f)[i]?=l[i]?.map f:=List.getElem?_map
theorem zH{α:Type _}{a b:α}:a∈ [b]↔a=b:=List.mem_singleton
theorem zV{α:Type _}{a:α}{l r:List α}:a∈l ++ r↔a∈l∨a∈r:=List.mem_append
end Go.CF
set_option maxRecDepth 100000
set_option maxHeartbeats 80000000
namespace Go.CF
open Go

inductive xa where
 | pure|read|ext|uJ

section
variable {P:Program} {ops:Array Oper} {Q:Exit->Act->World->Prop}

def jY(P:Program)(ops:Array Oper)(C:World->Prop)(o:Oper)(v:Value)(a:Act):Prop :=
 (Region.wanted o (yielded ops a.tmps)=true/\∀w,C w->(execOp a.eval o).run P w= .ok (.value v) w)∨
 (Region.wanted o (yielded ops a.tmps)=false/\v=undef)

theorem jY.of_same{C:World->Prop}{o:Oper}{v:Value}{a a':Act}(hy:jY P ops C o v a)(he:execOp a'.eval o=execOp a.eval o)
  (hw:Region.wanted o (yielded ops a'.tmps)=Region.wanted o (yielded ops a.tmps)):jY P ops C o v a':=by
 unfold jY at *
 rw [he,hw]
 exact hy

theorem jY.mono{C C':World->Prop}{o:Oper}{v:Value}{a:Act}(h:∀w,C' w->C w)(hy:jY P ops C o v a):jY P ops C' o v a:=by
 rcases hy with⟨h1,h2⟩|h1
 ·exact .inl ⟨h1,λw hw=>h2 w (h w hw)⟩
 ·exact .inr h1

theorem jY.wpOp{C:World->Prop}{i:Nat}{o:Oper}{v:Value}{a:Act}(hi:ops[i]?=some o)(hy:jY P ops C o v a)
  {K:Act->World->Prop} {w:World} (hw:C w) (h:K (a.put o.dst v) w):wpOp P ops Q i K a w:=by
 unfold Go.wpOp
 simp only [hi]
 rcases hy with⟨h1,h2⟩|⟨h1,rfl⟩
 ·simp only [h1,if_true,Oper.wp,h2 w hw,Oper.upon];exact .inl h
 ·simp only [h1,Bool.false_eq_true,if_false];exact h

def kA(X:Array Obj->Array Obj->Prop)(P:Program)(ops:Array Oper)(cl:Nat->xa)(Q:Exit->Act->World->Prop)(i:Nat)(K:Act->World->Prop)(a:Act)(w:World):Prop :=
 match cl i with
 | .pure=>∃o v,ops[i]?=some o/\jY P ops (λ_=>True) o v a/\K (a.put o.dst v) w
 | .read=>∃o v,ops[i]?=some o/\jY P ops (λw'=>X w.heap w'.heap) o v a/\K (a.put o.dst v) w
 | .ext=>wpOp P ops Q i (λa' w'=>X w.heap w'.heap/\K a' w') a w
 | .uJ=>wpOp P ops Q i K a w

variable {cl:Nat->xa} {X:Array Obj->Array Obj->Prop}

theorem qP{i:Nat}{a:Act}{w:World}{K K':Act->World->Prop}(h:∀a w,K a w->K' a w)(hh:kA X P ops cl Q i K a w):kA X P ops cl Q i K' a w:=by
 unfold kA at *
 cases hc:cl i <;> simp only [hc] at hh ⊢
 ·obtain⟨o,v,h1,h2,h3⟩:=hh;exact⟨o,v,h1,h2,h _ _ h3⟩
 ·obtain⟨o,v,h1,h2,h3⟩:=hh;exact⟨o,v,h1,h2,h _ _ h3⟩
 ·exact wpOp_mono (λa w hk=>⟨hk.1,h _ _ hk.2⟩) hh
 ·exact wpOp_mono h hh

theorem IW(hX:∀h,X h h){i:Nat}{a:Act}{w:World}{K:Act->World->Prop}(hh:kA X P ops cl Q i K a w):wpOp P ops Q i K a w:=by
 unfold kA at hh
 split at hh
 ·obtain⟨o,v,h1,h2,h3⟩:=hh;exact h2.wpOp h1 trivial h3
 ·obtain⟨o,v,h1,h2,h3⟩:=hh;exact h2.wpOp h1 (hX _) h3
 ·exact wpOp_mono (λa w hk=>hk.2) hh
 ·exact hh

def RA(X:Array Obj->Array Obj->Prop)(P:Program)(ops:Array Oper)(cl:Nat->xa)(Q:Exit->Act->World->Prop):Nat->Array Bool->Act->World->Prop
 | 0,listed,a,w=>Region.ready .any ops listed= []/\Q .normal a w
 | fuel+1,listed,a,w =>
  (Region.ready .any ops listed= []->Q .normal a w)/\
  ∀i∈Region.ready .any ops listed,kA X P ops cl Q i (RA X P ops cl Q fuel (listed.setIfInBounds i true)) a w

theorem Uy(hX:∀h,X h h) :∀(fuel:Nat) (listed:Array Bool) (a:Act) (w:World),RA X P ops cl Q fuel listed a w->wpAny P .any ops Q fuel listed a w
 | 0,_,_,_,h=>h
 | fuel+1,_,_,_,h=>⟨h.1,λi hi=>wpOp_mono (λa w=>Uy hX fuel _ a w) (IW hX (h.2 i hi))⟩

theorem km{C:World->Prop}{oi oj:Oper}{v u:Value}{a:Act}(lI:∀cs b,oi.op≠ .select cs b)(h3:∀d,oj.dst=some d->d ∉ oi.looksAt ops)
  (hy:jY P ops C oi v a):jY P ops C oi v (a.put oj.dst u) :=
 hy.of_same (execOp_put oi lI a oj.dst u h3) (wanted_put oi a oj.dst u h3)

theorem pt{C:World->Prop}{oi oj:Oper}{v u:Value}{a:Act}(YL:∀cs b,oj.op≠ .select cs b)(h1:∀d,oi.dst=some d->d ∉ oj.looksAt ops)
  (hy:jY P ops C oj u (a.put oi.dst v)):jY P ops C oj u a :=
 hy.of_same (execOp_put oj YL a oi.dst v h1).symm (wanted_put oj a oi.dst v h1).symm

def Alike(ops:Array Oper)(oi:Oper)(a a':Act):Prop :=
 execOp a'.eval oi=execOp a.eval oi/\Region.wanted oi (yielded ops a'.tmps)=Region.wanted oi (yielded ops a.tmps)

theorem oc{j:Nat}{oi oj:Oper}{v:Value}(hj:ops[j]?=some oj)(jS:oi.apart ops oj=true)
  (lI:∀cs b,oi.op≠ .select cs b) (YL:∀cs b,oj.op≠ .select cs b)
  (hQ:∀c a w,Q (.panic c) (a.put oi.dst v) w->Q (.panic c) a w) {K:Act->World->Prop} {a:Act} {w:World}
  (h:wpOp P ops Q j K (a.put oi.dst v) w):wpOp P ops Q j (λa' w'=>Alike ops oi a a'/\K (a'.put oi.dst v) w') a w:=by
 obtain⟨h1,h2,h3⟩:=Oper.apart_spec jS
 have yB:∀u,Alike ops oi a (a.put oj.dst u):=λu=>⟨execOp_put oi lI a oj.dst u h3,wanted_put oi a oj.dst u h3⟩
 have D2:∀d u,Alike ops oi a (({ a with defers:=d :: a.defers }:Act).put oj.dst u):=λd u =>
  ⟨execOp_put oi lI { a with defers:=d :: a.defers } oj.dst u h3,wanted_put oi { a with defers:=d :: a.defers } oj.dst u h3⟩
 have comm:∀u,K ((a.put oi.dst v).put oj.dst u)=K ((a.put oj.dst u).put oi.dst v):=λu=>by rw [Act.put_comm a v u h2]
 unfold wpOp at *
 simp only [hj] at *
 rw [wanted_put oj a oi.dst v h1] at h
 by_cases hw:Region.wanted oj (yielded ops a.tmps)=true
 ·simp only [hw,if_true] at h ⊢
  rcases h with h|⟨Mq,Db⟩
  ·refine .inl ?_
   unfold Oper.wp at *
   rw [execOp_put oj YL a oi.dst v h1] at h
   generalize (execOp a.eval oj).run P w=r at *
   cases r with
   | ok n w' =>
    cases n with
    | value u=>exact⟨yB u,comm u▸h⟩
    | skip=>exact⟨yB _,comm undef▸h⟩
    | defer d =>
     simp only [Oper.upon] at h ⊢
     refine⟨D2 d _, ?_⟩
     rw [<-Act.put_comm _ v undef h2,<-Act.put_defers]
     exact h
    | enter f args =>
     refine Calls.mono h λe WJ he=>?_
     cases e with
     | returned u=>exact⟨yB u,comm u▸he⟩
     | panicked c=>exact hQ _ _ _ he
     | outgrown=>exact he
    | row row args=>exact Rows.mono h λu WJ he=>⟨yB u,comm u▸he⟩
    | _=>exact h
   | halt x w' =>
    cases x with
    | panic u=>exact hQ _ _ _ h
    | _=>exact h
  ·exact .inr ⟨by unfold Oper.asks at *;rw [execOp_put oj YL a oi.dst v h1] at Mq;exact Mq,Db⟩
 ·simp only [hw] at h ⊢
  exact⟨yB undef,comm undef▸h⟩

theorem Pq{j:Nat}{oi oj:Oper}{v:Value}(hj:ops[j]?=some oj)(jS:oi.apart ops oj=true)
  (lI:∀cs b,oi.op≠ .select cs b) (YL:∀cs b,oj.op≠ .select cs b)
  (hQ:∀c a w,Q (.panic c) (a.put oi.dst v) w->Q (.panic c) a w) {K:Act->World->Prop} {a:Act} {w:World}
  (hy:jY P ops (λ_=>True) oi v a) (h:kA X P ops cl Q j K (a.put oi.dst v) w) :
  kA X P ops cl Q j (λa' w'=>jY P ops (λ_=>True) oi v a'/\K (a'.put oi.dst v) w') a w:=by
 obtain⟨h1,h2,h3⟩:=Oper.apart_spec jS
 unfold kA at *
 split <;> rename_i hc <;> simp only [hc] at h
 ·obtain⟨o,u,ho,hu,hk⟩:=h
  rw [hj] at ho;cases ho
  exact⟨oj,u,hj,pt YL h1 hu,km lI h3 hy,by rw [<-Act.put_comm a v u h2];exact hk⟩
 ·obtain⟨o,u,ho,hu,hk⟩:=h
  rw [hj] at ho;cases ho
  exact⟨oj,u,hj,pt YL h1 hu,km lI h3 hy,by rw [<-Act.put_comm a v u h2];exact hk⟩
 ·exact wpOp_mono (λa' w' h=>⟨h.2.1,hy.of_same h.1.1 h.1.2,h.2.2⟩) (oc hj jS lI YL hQ h)
 ·exact wpOp_mono (λa' w' h=>⟨hy.of_same h.1.1 h.1.2,h.2⟩) (oc hj jS lI YL hQ h)

theorem ed(hX:∀h,X h h){j:Nat}{oi oj:Oper}{v:Value}(hj:ops[j]?=some oj)(jS:oi.apart ops oj=true)
  (lI:∀cs b,oi.op≠ .select cs b) (YL:∀cs b,oj.op≠ .select cs b) (hl:cl j≠ .uJ)
  (hQ:∀c a w,Q (.panic c) (a.put oi.dst v) w->Q (.panic c) a w) {K:Act->World->Prop} {a:Act} {w:World}
  (hy:jY P ops (λw'=>X w.heap w'.heap) oi v a) (h:kA X P ops cl Q j K (a.put oi.dst v) w) :
  kA X P ops cl Q j (λa' w'=>X w.heap w'.heap/\jY P ops (λWJ=>X w.heap WJ.heap) oi v a'/\K (a'.put oi.dst v) w') a w:=by
 obtain⟨h1,h2,h3⟩:=Oper.apart_spec jS
 unfold kA at *
 split <;> rename_i hc <;> simp only [hc] at h
 ·obtain⟨o,u,ho,hu,hk⟩:=h
  rw [hj] at ho;cases ho
  exact⟨oj,u,hj,pt YL h1 hu,hX _,km lI h3 hy,by rw [<-Act.put_comm a v u h2];exact hk⟩
 ·obtain⟨o,u,ho,hu,hk⟩:=h
  rw [hj] at ho;cases ho
  exact⟨oj,u,hj,pt YL h1 hu,hX _,km lI h3 hy,by rw [<-Act.put_comm a v u h2];exact hk⟩
 ·exact wpOp_mono (λa' w' h=>⟨h.2.1,h.2.1,hy.of_same h.1.1 h.1.2,h.2.2⟩) (oc hj jS lI YL hQ h)
 ·exact absurd hc hl

theorem gq{i:Nat}{oj:Oper}{listed:Array Bool}(hr:i∈Region.ready .any ops listed)(ug:∀e∈oj.after,Region.binds .any e=true->listed.getD e.on false=true) :
  ∀e∈oj.after,Region.binds .any e=true->e.on≠i:=λe he hb heq=>by
 have h1:=ug e he hb
 have h0:=(mem_ready.1 hr).1
 rw [heq] at h1
 rcases Nat.lt_or_ge i listed.size with h' | h'
 ·simp [h'] at h0 h1;rw [h0] at h1;cases h1
 ·simp [Array.getElem?_eq_none h'] at h1

theorem iI{i:Nat}{oi:Oper}{v:Value}(hi:ops[i]?=some oi)(hc:cl i= .pure)(Vj:∀(j:Nat) (o:Oper) cs b,ops[j]?=some o->o.op≠ .select cs b)
  (hQ:∀c a w,Q (.panic c) (a.put oi.dst v) w->Q (.panic c) a w) :
  ∀(fuel:Nat) (listed:Array Bool) (a:Act) (w:World),
   (∀j oj,ops[j]?=some oj->j≠i->listed.getD j true=false->(∀e∈oj.after,Region.binds .any e=true->e.on≠i)->oi.apart ops oj=true)->
   i∈Region.ready .any ops listed->jY P ops (λ_=>True) oi v a->
   RA X P ops cl Q fuel (listed.setIfInBounds i true) (a.put oi.dst v) w->RA X P ops cl Q (fuel+1) listed a w:=by
 intro fuel
 induction fuel with
 | zero =>
  intro listed a w _ hr hy H
  refine⟨λh=>(by rw [h] at hr;cases hr),λj hj=>?_⟩
  by_cases py:j=i
  ·subst py;unfold kA;simp only [hc];exact⟨oi,v,hi,hy,H⟩
  ·have:=ready_mono hj py
   rw [H.1] at this
   cases this
 | succ fuel ih =>
  intro listed a w dn hr hy H
  refine⟨λh=>(by rw [h] at hr;cases hr),λj hj=>?_⟩
  by_cases py:j=i
  ·subst py;unfold kA;simp only [hc];exact⟨oi,v,hi,hy,H⟩
  ·have h1:=H.2 j (ready_mono hj py)
   obtain⟨Xf,oj,R3,ug⟩:=mem_ready.1 hj
   have h2:=Pq R3 (dn j oj R3 py Xf (gq hr ug)) (λcs b=>Vj i oi cs b hi) (λcs b=>Vj j oj cs b R3) hQ hy h1
   have Iz:∀k ok,ops[k]?=some ok->k≠i->(listed.setIfInBounds j true).getD k true=false->
     (∀e∈ok.after,Region.binds .any e=true->e.on≠i)->oi.apart ops ok=true:=λk ok hk O6 mN yD=>by
    refine dn k ok hk O6 ?_ yD
    by_cases MP:j=k
    ·subst MP;exact Xf
    ·rw [getD_set_ne true MP] at mN;exact mN
   refine qP (λa' w' h3=>ih (listed.setIfInBounds j true) a' w' Iz (ready_mono hr (Ne.symm py)) h3.1 ?_) h2
   rw [Array.setIfInBounds_comm _ _ py]
   exact h3.2

def qJ(ops:Array Oper)(listed:Array Bool):Prop :=
 ∀j oj,ops[j]?=some oj->listed.getD j false=true->∀e∈oj.after,Region.binds .any e=true->listed.getD e.on false=true

theorem qJ.set{listed:Array Bool}{i:Nat}(h:qJ ops listed)(hr:i∈Region.ready .any ops listed):qJ ops (listed.setIfInBounds i true):=by
 intro j oj hj hl e he hb
 by_cases u5:i=j
 ·subst u5
  obtain⟨_,o,ho,ug⟩:=mem_ready.1 hr
  rw [hj] at ho;cases ho
  exact getD_set_true (ug e he hb)
 ·rw [getD_set_ne false u5] at hl
  exact getD_set_true (h j oj hj hl e he hb)

def rK(ops:Array Oper)(i:Nat):Nat->Nat->Bool
 | 0,_=>false
 | n+1,j=>match ops[j]? with
  | some oj=>(oj.after.any λe=>e.on == i && Region.binds .any e) || oj.after.any λe=>Nat.blt i e.on && Region.binds .any e && rK ops i n e.on
  | none=>false

theorem nI{listed:Array Bool}(ue:qJ ops listed){i:Nat} :∀(n j:Nat) (oj:Oper),ops[j]?=some oj->rK ops i n j=true->
  (∀e∈oj.after,Region.binds .any e=true->listed.getD e.on false=true)->listed.getD i false=true
 | 0,_,_,_,h,_=>by simp [rK] at h
 | n+1,j,oj,hj,h,ug=>by
  simp only [rK,hj,Bool.or_eq_true] at h
  rcases h with h|h
  ·obtain⟨e,he,hb⟩:=Array.any_eq_true'.1 h
   simp only [Bool.and_eq_true,beq_iff_eq] at hb
   rw [<-hb.1]
   exact ug e he hb.2
  ·obtain⟨e,he,hb⟩:=Array.any_eq_true'.1 h
   simp only [Bool.and_eq_true] at hb
   obtain⟨⟨_,q_⟩,rC⟩:=hb
   have hle:=ug e he q_
   cases ho:ops[e.on]? with
   | none =>
    cases n with
    | zero=>simp [rK] at rC
    | succ n=>simp [rK,ho] at rC
   | some oe=>exact nI ue n e.on oe ho rC (λe' Gn sA=>ue e.on oe ho hle e' Gn sA)

theorem iH(hX:∀h,X h h)(hT:∀a b c,X a b->X b c->X a c){i:Nat}{oi:Oper}{v:Value}(hi:ops[i]?=some oi)(hc:cl i= .read)(Vj:∀(j:Nat) (o:Oper) cs b,ops[j]?=some o->o.op≠ .select cs b)
  (hQ:∀c a w,Q (.panic c) (a.put oi.dst v) w->Q (.panic c) a w) :
  ∀(fuel:Nat) (listed:Array Bool) (a:Act) (w:World),qJ ops listed->
   (∀j oj,ops[j]?=some oj->j≠i->listed.getD j true=false->(∀e∈oj.after,Region.binds .any e=true->e.on≠i)->oi.apart ops oj=true)->
   (∀j oj,ops[j]?=some oj->listed.getD j true=false->cl j= .uJ->rK ops i ops.size j=true)->
   i∈Region.ready .any ops listed->jY P ops (λw'=>X w.heap w'.heap) oi v a->
   RA X P ops cl Q fuel (listed.setIfInBounds i true) (a.put oi.dst v) w->RA X P ops cl Q (fuel+1) listed a w:=by
 intro fuel
 induction fuel with
 | zero =>
  intro listed a w _ _ _ hr hy H
  refine⟨λh=>(by rw [h] at hr;cases hr),λj hj=>?_⟩
  by_cases py:j=i
  ·subst py;unfold kA;simp only [hc];exact⟨oi,v,hi,hy,H⟩
  ·have:=ready_mono hj py
   rw [H.1] at this
   cases this
 | succ fuel ih =>
  intro listed a w ue dn hw hr hy H
  refine⟨λh=>(by rw [h] at hr;cases hr),λj hj=>?_⟩
  by_cases py:j=i
  ·subst py;unfold kA;simp only [hc];exact⟨oi,v,hi,hy,H⟩
  ·have h1:=H.2 j (ready_mono hj py)
   obtain⟨Xf,oj,R3,ug⟩:=mem_ready.1 hj
   have Zo:cl j≠ .uJ:=λhl=>by
    have h3:=nI ue _ j oj R3 (hw j oj R3 Xf hl) ug
    have h0:=(mem_ready.1 hr).1
    rcases Nat.lt_or_ge i listed.size with h' | h'
    ·simp [h'] at h0 h3;rw [h0] at h3;cases h3
    ·simp [Array.getElem?_eq_none h'] at h3
   have h2:=ed hX R3 (dn j oj R3 py Xf (gq hr ug)) (λcs b=>Vj i oi cs b hi) (λcs b=>Vj j oj cs b R3) Zo hQ hy h1
   have Fh:∀k,(listed.setIfInBounds j true).getD k true=false->listed.getD k true=false:=λk mN=>by
    by_cases MP:j=k
    ·subst MP;exact Xf
    ·rw [getD_set_ne true MP] at mN;exact mN
   refine qP (λa' w' h3=>?_) h2
   obtain⟨hx,h3,h4⟩:=h3
   refine ih (listed.setIfInBounds j true) a' w' (ue.set hj) (λk ok hk O6 mN yD=>dn k ok hk O6 (Fh k mN) yD) (λk ok hk mN=>hw k ok hk (Fh k mN)) (ready_mono hr (Ne.symm py)) (h3.mono λWJ c_=>hT _ _ _ hx c_) ?_
   rw [Array.setIfInBounds_comm _ _ py]
   exact h4

/-! ### The order that is walked -/
inductive Ord where
 | done
 | one (i:Nat) (r:Ord)
 | alt (i:Nat) (ri more:Ord)
 | none

def Ord.mV:Ord->List Nat
 | .alt i _ m=>i :: m.mV
 | _=> []

def yN:xa->Bool | .uJ=>true|_=>false
def yP:xa->Bool | .uJ=>true | .ext=>true|_=>false

def dg(ops:Array Oper):Bool:=ops.toList.all λo=>match o.op with | .defer _=>false|_=>true
theorem aM{ops:Array Oper}(h:dg ops=true)(i:Nat)(o:Oper)(ho:ops[i]?=some o)(c:Call):o.op≠ .defer c:=by
 intro he
 have:=List.all_eq_true.1 h o (by rw [Array.mem_toList_iff];exact Array.mem_of_getElem? ho)
 simp [he] at this

def wX(ops:Array Oper)(cl:Nat->xa):Ord->Nat->Bool->Array Bool->Bool
 | .done,_,top,listed=>top && (Region.ready .any ops listed).isEmpty
 | .one i r,fuel+1,top,listed=>top &&
  (match cl i with
   | .pure=>(Region.ready .any ops listed).contains i && Region.free .any ops listed i
   | .read=>(Region.ready .any ops listed).contains i && Region.free .any ops listed i &&
     (List.range ops.size).all λj=>listed.getD j true || !yN (cl j) || rK ops i ops.size j
   | _=>Region.ready .any ops listed == [i]) && wX ops cl r fuel true (listed.setIfInBounds i true)
 | .alt i ri m,fuel+1,top,listed=>(!top || Region.ready .any ops listed == i :: m.mV) && yP (cl i) && wX ops cl ri fuel true (listed.setIfInBounds i true) && wX ops cl m (fuel+1) false listed
 | .none,_,top,_=> !top
 | _,0,_,_=>false

def Oo(ops:Array Oper)(cl:Nat->xa)(t:Ord)(fuel:Nat)(top:Bool)(listed:Array Bool):Bool:=dg ops && wX ops cl t fuel top listed

def TW(X:Array Obj->Array Obj->Prop)(P:Program)(ops:Array Oper)(cl:Nat->xa)(Q:Exit->Act->World->Prop):Ord->Act->World->Prop
 | .done,a,w=>Q .normal a w
 | .one i r,a,w=>kA X P ops cl Q i (TW X P ops cl Q r) a w
 | .alt i ri m,a,w=>kA X P ops cl Q i (TW X P ops cl Q ri) a w/\TW X P ops cl Q m a w
 | .none,_,_=>True

theorem PI{listed:Array Bool}{a:Act}{w:World}(hr:Region.ready .any ops listed= [])(h:Q .normal a w) :
  ∀fuel,RA X P ops cl Q fuel listed a w
 | 0=>⟨hr,h⟩
 | _+1=>⟨λ_=>h,by rw [hr];simp⟩

theorem _root_.Go.CF.z6 {p:Prop}(h:p:=by omega):p:=h
theorem mW(hX:∀h,X h h)(hT:∀a b c,X a b->X b c->X a c)(hs:Region.noSelect ops=true)(hQ:∀c a d v w,Q (.panic c) (a.put d v) w->Q (.panic c) a w) :∀(t:Ord) (fuel:Nat) (listed:Array Bool) (a:Act) (w:World),
  qJ ops listed->
  (wX ops cl t fuel true listed=true->TW X P ops cl Q t a w->RA X P ops cl Q fuel listed a w)/\
  (∀f,fuel=f+1->wX ops cl t fuel false listed=true->(∀i∈t.mV,i∈Region.ready .any ops listed)->TW X P ops cl Q t a w->
   ∀i∈t.mV,kA X P ops cl Q i (RA X P ops cl Q f (listed.setIfInBounds i true)) a w)
 | .done,fuel,listed,a,w,_=>by
  refine⟨λh hw=>?_,λf _ h=>by simp [wX] at h⟩
  simp only [wX,Bool.true_and,List.isEmpty_iff] at h
  exact PI h hw fuel
 | .none,fuel,listed,a,w,_=>by
  refine⟨λh=>by simp [wX] at h,λf _ _ _ _ i hi=>by simp [Ord.mV] at hi⟩
 | .one i r,0,listed,a,w,_=>⟨λh=>by simp [wX] at h,λf hf=>z6⟩
 | .alt i ri m,0,listed,a,w,_=>⟨λh=>by simp [wX] at h,λf hf=>z6⟩
 | .one i r,fuel+1,listed,a,w,ue=>by
  refine⟨λh hw=>?_,λf _ h=>by simp [wX] at h⟩
  simp only [wX,Bool.true_and,Bool.and_eq_true] at h
  obtain⟨h1,h2⟩:=h
  simp only [TW] at hw
  cases hc:cl i <;> simp only [hc] at h1
  ·simp only [Bool.and_eq_true,List.contains_iff_mem] at h1
   obtain⟨hr,hf⟩:=h1
   unfold kA at hw
   simp only [hc] at hw
   obtain⟨oi,v,hi,hy,hk⟩:=hw
   exact iI hi hc (Region.noSelect_spec hs) (λc a w=>hQ c a _ _ w) fuel listed a w (Region.free_spec hi hf) hr hy
    ((mW hX hT hs hQ r fuel _ _ _ (ue.set hr)).1 h2 hk)
  ·simp only [Bool.and_eq_true,List.contains_iff_mem] at h1
   obtain⟨⟨hr,hf⟩,hl⟩:=h1
   unfold kA at hw
   simp only [hc] at hw
   obtain⟨oi,v,hi,hy,hk⟩:=hw
   refine iH hX hT hi hc (Region.noSelect_spec hs) (λc a w=>hQ c a _ _ w) fuel listed a w ue (Region.free_spec hi hf) (λj oj hj mN YS=>?_) hr hy
    ((mW hX hT hs hQ r fuel _ _ _ (ue.set hr)).1 h2 hk)
   have h3:=List.all_eq_true.1 hl j (List.mem_range.2 (zA.1 hj).1)
   simpa [mN,YS,yN] using h3
  all_goals
   simp only [beq_iff_eq] at h1
   have hr:i∈Region.ready .any ops listed:=by rw [h1];simp
   refine⟨λh0=>(by rw [h1] at h0;cases h0),λj hj=>?_⟩
   rw [h1] at hj
   simp only [zH] at hj
   subst hj
   exact qP (λa' w' hk=>(mW hX hT hs hQ r fuel _ a' w' (ue.set hr)).1 h2 hk) hw
 | .alt i ri m,fuel+1,listed,a,w,ue=>by
  refine⟨λh hw=>?_,λf hf h ug hw j hj=>?_⟩
  ·simp only [wX,Bool.and_eq_true,Bool.not_true,Bool.false_or,beq_iff_eq] at h
   obtain⟨⟨⟨h1,_⟩,h2⟩,h3⟩:=h
   simp only [TW] at hw
   have hr:i∈Region.ready .any ops listed:=by rw [h1];simp
   refine⟨λh0=>(by rw [h1] at h0;cases h0),λj hj=>?_⟩
   rw [h1] at hj
   rcases List.mem_cons.1 hj with rfl|hj
   ·exact(qP (λa' w' hk=>(mW hX hT hs hQ ri fuel _ a' w' (ue.set hr)).1 h2 hk) hw.1)
   ·exact(mW hX hT hs hQ m (fuel+1) listed a w ue).2 fuel rfl h3 (λk hk=>by rw [h1];exact List.mem_cons_of_mem _ hk) hw.2 j hj
  ·simp only [wX,Bool.and_eq_true,Bool.not_false,Bool.true_or,true_and] at h
   obtain⟨⟨_,h2⟩,h3⟩:=h
   cases hf
   simp only [TW] at hw
   simp only [Ord.mV,List.mem_cons] at hj ug
   rcases hj with rfl|hj
   ·exact(qP (λa' w' hk=>(mW hX hT hs hQ ri fuel _ a' w' (ue.set (ug _ (.inl rfl)))).1 h2 hk) hw.1)
   ·exact(mW hX hT hs hQ m (fuel+1) listed a w ue).2 fuel rfl h3 (λk hk=>ug k (.inr hk)) hw.2 j hj

abbrev wide (rd:Option Nat):Fence:={ fn:=λ_=>True,depth:=none,alive:=false,round:=rd }
theorem Oper.jv{rd:Option Nat}{m:Nat}{o:Oper}{a:Act}{w:World}{K K':Act->World->Prop}(hd:∀c,o.op≠ .defer c)(_hQ:¬LetsOut Q)(hk:∀a w,K a w->K' a w)(h:o.wp P a w K Q):o.wpIn (wide rd) m P a w K' Q:=by
 refine⟨λ_ _=>trivial, ?_⟩
 rw [Oper.semAt_eq _ _ _ hd]
 unfold Oper.wp at h
 generalize (execOp a.eval o).run P w=r at *
 cases r with
 | ok n w' =>
  cases n with
  | value u=>exact hk _ _ h
  | skip=>exact hk _ _ h
  | defer d=>exact hk _ _ h
  | enter f args =>
   refine⟨λh=>(by cases h), ?_⟩
   have h2:CallsIn Fence.wide (m - 1) P f args w' _:=callsIn_wide.2 (Calls.mono h (R':=fun
    | .returned v,WJ=>K' (a.put o.dst v) WJ
    | .panicked chain,WJ=>Q (.panic chain) a WJ
    | .outgrown,_=>LetsOut Q) λe WJ he=>by
     cases e with
     | returned u=>exact hk _ _ he
     | panicked c=>exact he
     | outgrown=>exact he)
   exact h2
  | row row args=>exact⟨λh=>(by cases h),λc cs _=>let ⟨v,WJ,r,s⟩:=h c cs;⟨v,WJ,hk _ _ r,stepsIn_wide.2 s⟩⟩
  | _=>exact h.elim
 | halt x w' =>
  cases x with
  | panic u=>exact h
  | _=>exact h.elim
theorem ns{rd:Option Nat}{m:Nat}(hQ:¬LetsOut Q)(hd:dg ops=true) :∀(l:List Nat) (a:Act) (w:World),wpOps P ops Q l a w->wpOpsIn (wide rd) m P ops Q l a w
 | [],_,_,h=>h
 | i :: l,a,w,h=>by
  simp only [wpOps,wpOpsIn] at h ⊢
  cases ho:ops[i]? with
  | none=>simp only [ho] at h ⊢;exact ns hQ hd l a w h
  | some o =>
   simp only [ho] at h ⊢
   by_cases hw:Region.wanted o (yielded ops a.tmps)=true
   ·rw [if_pos hw] at h ⊢
    exact Oper.jv (aM hd i o ho) hQ (λa w=>ns hQ hd l a w) (h.resolve_right λh=>hQ h.2)
   ·rw [if_neg hw] at h ⊢
    exact⟨λ_ _=>trivial,ns hQ hd l _ w h⟩
theorem iD(hX:∀h,X h h)(hT:∀a b c,X a b->X b c->X a c){rd:Option Nat}{m:Nat}{id:Nat}{a:Act}{w:World}(t:Ord)(cl:Nat->xa)(hm:P.follows .mixedOrders=true)(hs:Region.noSelect ops=true)
  (hc:Oo ops cl t ops.size true (Array.replicate ops.size false)=true) (hQ:∀c a d v w,Q (.panic c) (a.put d v) w->Q (.panic c) a w) (hL:¬LetsOut Q)
  (h:TW X P ops cl Q t a { w with drawn:=w.drawn+1 }):(Code.region id ops true).wpIn (wide rd) m P Q a w:=by
 simp only [Oo,Bool.and_eq_true] at hc
 refine wpIn_region_draw λs=>ns hL hc.1 _ _ _ ?_
 simp only [Region.schedule,hm,Bool.true_or,if_true]
 refine wpAny_sound ops.size s _ a _ (Uy hX _ _ _ _ ((mW hX hT hs hQ t ops.size _ a _ ?_).1 hc.2 h))
 intro j oj hj hl
 have xC:j < ops.size:=(zA.1 hj).1
 simp [xC] at hl
end
end Go.CF
namespace Go.CF
open Go

abbrev y7:=Array Obj
abbrev Env:=List (Nat×Value)

def look:Env->Nat->Option Value
 | [],_=>none
 | (k,v) :: r,t=>bif Nat.beq k t then some v else look r t

def ev(e:Env):Operand->Option Value
 | .tmp t=>look e t
 | .const v=>some v
 | .global g=>some (.pointer (some ⟨g,0,none⟩))
 | .func f=>some (.func (.func f) #[] #[])

def vm(e:Env):List Operand->Option (List Value)
 | []=>some []
 | x :: r=>match ev e x,vm e r with
  | some v,some l=>some (v :: l)
  | _,_=>none

def rG(e:Env):Option Tmp->Value->Env
 | some d,v=>(d,v) :: e
 | none,_=>e

def eB(n:Nat):Option Tmp->Bool
 | some d=>Nat.blt d n
 | none=>true

structure xf (n:Nat) (e:Env) (a:Act):Prop where
 size:a.tmps.size=n
 val:∀t v,look e t=some v->a.tmps[t]?=some v

theorem XW{a b:Nat}(h:Nat.beq a b=false):a≠b:=λe=>by subst e;rw [Nat.beq_refl] at h;cases h
theorem gJ{a b:Nat}(h:a≠b):Nat.beq a b=false:=by
 cases hb:Nat.beq a b with
 | false=>rfl
 | true=>exact absurd (Nat.eq_of_beq_eq_true hb) h

theorem uW(k:Nat)(v:Value)(r:Env)(t:Nat):look ((k,v) :: r) t=if k=t then some v else look r t:=by
 simp only [look]
 by_cases h:k=t
 ·subst h;simp
 ·have:Nat.beq k t=false:=gJ h
  simp [this,h]

theorem xf.ev{n:Nat}{e:Env}{a:Act}(h:xf n e a){x:Operand}{v:Value}(hx:CF.ev e x=some v):a.eval x=v:=by
 cases x with
 | tmp t =>
  have:=h.val t v hx
  simp [Act.eval,this]
 | const u=>simp only [CF.ev,Option.some.injEq] at hx;exact hx
 | global g=>simp only [CF.ev,Option.some.injEq] at hx;exact hx
 | func f=>simp only [CF.ev,Option.some.injEq] at hx;exact hx

theorem xf.vm{n:Nat}{e:Env}{a:Act}(h:xf n e a) :∀{xs:List Operand} {vs:List Value},CF.vm e xs=some vs->xs.map a.eval=vs
 | [],vs,hx=>by simp only [CF.vm,Option.some.injEq] at hx;simp [hx]
 | x :: r,vs,hx=>by
  simp only [CF.vm] at hx
  split at hx
  ·rename_i v l h1 h2
   simp only [Option.some.injEq] at hx
   subst hx
   simp [h.ev h1,h.vm h2]
  ·cases hx

theorem xf.put{n:Nat}{e:Env}{a:Act}(h:xf n e a){d:Option Tmp}(hd:eB n d=true)(v:Value):xf n (rG e d v) (a.put d v):=by
 cases d with
 | none=>exact h
 | some d =>
  simp only [eB,Nat.blt_eq] at hd
  refine⟨by simp [Act.put,h.size],λt u hu=>?_⟩
  simp only [rG,uW] at hu
  simp only [Act.put,Array.getElem?_setIfInBounds,h.size]
  by_cases hdt:d=t
  ·subst hdt;simp at hu;subst hu;simp [hd]
  ·simp only [hdt,if_false] at hu ⊢;exact h.val t u hu

def eF:Env->Env->Prop
 | [],_=>True
 | (t,v) :: r,e=>look e t=some v/\eF r e

theorem dO :∀{e1 e2:Env},eF e1 e2->∀t v,look e1 t=some v->look e2 t=some v
 | [],_,_,_,_,h=>by simp [look] at h
 | (k,u) :: r,e2,hs,t,v,h=>by
  rw [uW] at h
  by_cases hk:k=t
  ·subst hk;simp at h;subst h;exact hs.1
  ·simp only [hk,if_false] at h;exact dO hs.2 t v h

theorem xf.sub{n:Nat}{e1 e2:Env}{a:Act}(h:xf n e2 a)(hs:eF e1 e2):xf n e1 a :=
 ⟨h.size,λt v hv=>h.val t v (dO hs t v hv)⟩

structure Fp where
 n:Option Nat
instance:Membership Nat Fp:=⟨λfp b=>match fp.n with|none=>False|some n=>n<=b⟩
theorem Fp.not_mem_none(b:Nat):b ∉ (⟨none⟩:Fp):=λh=>h
theorem Fp.mem_some{n b:Nat}:b∈(⟨some n⟩:Fp)↔n<=b:=Iff.rfl
structure tc {γ:Type} [Membership Nat γ] (fp:γ) (h h':y7):Prop where
 size:h.size<=h'.size
 same:∀b,b < h.size->b ∉ fp->h'[b]?=h[b]?
theorem tc.refl{γ:Type}[Membership Nat γ]{fp:γ}(h:y7):tc fp h h:=⟨Nat.le_refl _,λ_ _ _=>rfl⟩
theorem tc.trans{γ:Type}[Membership Nat γ]{fp:γ}{h h' Co:y7}(x:tc fp h h')(y:tc fp h' Co):tc fp h Co :=
 ⟨Nat.le_trans x.size y.size,λb hb hn=>(y.same b (Nat.lt_of_lt_of_le hb x.size) hn).trans (x.same b hb hn)⟩

def mU:Obj->Bool
 | .loop _=>true
 | .deferred _=>true
 | _=>false
structure yW (w w':World):Prop where
 os:w'.os=w.os
 tape:w'.tape=w.tape
 output:w'.output=w.output
 drawn:w.drawn<=w'.drawn
 size:w.heap.size<=w'.heap.size
 SN:∀(k:Nat) (o:Obj),w.heap[k]?=some o->mU o=true->w'.heap[k]?=some o

theorem yW.refl(w:World):yW w w:=⟨rfl,rfl,rfl,Nat.le_refl _,Nat.le_refl _,λ_ _ h _=>h⟩
theorem yW.trans{a b c:World}(h:yW a b)(k:yW b c):yW a c :=
 ⟨k.os.trans h.os,k.tape.trans h.tape,k.output.trans h.output,Nat.le_trans h.drawn k.drawn,Nat.le_trans h.size k.size,λi o h1 h2=>k.SN i o (h.SN i o h1 h2) h2⟩
theorem yW.of_eq{w w':World}(he:w'.heap=w.heap)(h1:w'.os=w.os:=by rfl)(h2:w'.tape=w.tape:=by rfl)(h3:w'.output=w.output:=by rfl)(h4:w.drawn<=w'.drawn:=by first|exact Nat.le_refl _|exact Nat.le_succ _):yW w w' :=
 ⟨h1,h2,h3,h4,by rw [he];exact Nat.le_refl _,λ_ _ h _=>by rw [he];exact h⟩
theorem yW.sH{w w':World}{o:Obj}(he:w'.heap=w.heap.push o)(h1:w'.os=w.os:=by rfl)(h2:w'.tape=w.tape:=by rfl)(h3:w'.output=w.output:=by rfl)(h4:w.drawn<=w'.drawn:=by first|exact Nat.le_refl _|exact Nat.le_succ _):yW w w' :=
 ⟨h1,h2,h3,h4,by rw [he];simp,λk o' h _=>by
  have xC:=(zA.1 h).1
  rw [he,Array.getElem?_push,if_neg z6];exact h⟩
theorem yW.rM{w w':World}{b:Nat}{o o':Obj}(hb:w.heap[b]?=some o)(hc:mU o=false)(he:w'.heap=w.heap.setIfInBounds b o')(h1:w'.os=w.os:=by rfl)(h2:w'.tape=w.tape:=by rfl)(h3:w'.output=w.output:=by rfl)(h4:w.drawn<=w'.drawn:=by first|exact Nat.le_refl _|exact Nat.le_succ _):yW w w' :=
 ⟨h1,h2,h3,h4,by rw [he];simp,λk q h hq=>by
  rw [he,Array.getElem?_setIfInBounds]
  by_cases hk:b=k
  ·subst hk;rw [hb] at h;cases h;rw [hc] at hq;cases hq
  ·rw [if_neg hk];exact h⟩

structure Fr (B:Option Nat) (ds:List Deferred) (h:y7):Prop where
 le:∀b,B=some b->b<=h.size
 nd:ds.Nodup
 oK:∀d∈ds,∃D b,d= { target:= .collected D,args:=#[] }/\B=some b/\b<=D/\h[D]?=some (.deferred (some []))
theorem Fr.same{B:Option Nat}{ds:List Deferred}{w w':World}(f:Fr B ds w.heap)(s:yW w w'):Fr B ds w'.heap :=
 ⟨λb hb=>Nat.le_trans (f.le b hb) s.size,f.nd,λd hd=>let ⟨D,b,h1,h0,h2,h3⟩:=f.oK d hd;⟨D,b,h1,h0,h2,s.SN D _ h3 rfl⟩⟩
theorem _root_.Go.CF.zd {p:Prop}(h:p:=by simp):p:=h
theorem Fr.nil{ds:List Deferred}{h:y7}(f:Fr none ds h):ds= []:=by
 cases ds with
 | nil=>rfl
 | cons d ds=>obtain⟨D,b,_,h0,_⟩:=f.oK d zd;cases h0
def WL:Code->Bool
 | .rangeFunc _ _ _ _=>true
 | .seq x y=>WL x || WL y
 | .cond _ x y=>WL x || WL y
 | .loop x=>WL x
 | .block _ x=>WL x
 | _=>false
theorem lV(a:Act)(d:Option Tmp)(v:Value):(a.put d v).defers=a.defers:=by cases d <;> rfl
theorem Fr.put{B:Option Nat}{a:Act}{h:y7}(f:Fr B a.defers h)(d:Option Tmp)(v:Value):Fr B (a.put d v).defers h:=by rw [lV];exact f
def HK(rd:Option Nat)(h:y7):Prop:=∀l,rd=some l->∃r,h[l]?=some (.loop r)
theorem HK.same{rd:Option Nat}{w w':World}(f:HK rd w.heap)(s:yW w w'):HK rd w'.heap:=λl hl=>let ⟨r,hr⟩:=f l hl;⟨r,s.SN l _ hr rfl⟩

def lift(n:Nat)(B:Option Nat)(w0:World)(Q:Exit->Env->y7->Prop):Exit->Act->World->Prop
 | .panic _,_,_=>False
 | .outgrown,_,_=>False
 | .normal,a,w=>yW w0 w/\Fr B a.defers w.heap/\∃e,xf n e a/\Q .normal e w.heap
 | .ret,a,w=>yW w0 w/\Fr B a.defers w.heap/\∃e,xf n e a/\Q .ret e w.heap
 | .exit i,a,w=>yW w0 w/\Fr B a.defers w.heap/\∃e,xf n e a/\Q (.exit i) e w.heap
 | .goto i,a,w=>yW w0 w/\Fr B a.defers w.heap/\∃e,xf n e a/\Q (.goto i) e w.heap

theorem dR{n:Nat}{B:Option Nat}{w0:World}{Q:Exit->Env->y7->Prop} :¬LetsOut (lift n B w0 Q):=λ⟨_,_,h⟩=>h
theorem pk{n:Nat}{B:Option Nat}{w0 w1:World}{Q:Exit->Env->y7->Prop}(hs:yW w0 w1) :∀e a w,lift n B w1 Q e a w->lift n B w0 Q e a w:=by
 intro e a w h
 cases e <;> simp only [lift] at h ⊢ <;> exact⟨hs.trans h.1,h.2⟩

theorem Tc{n:Nat}{B:Option Nat}{w0:World}{Q Q':Exit->Env->y7->Prop}(hq:∀e env h,Q e env h->Q' e env h) :∀e a w,lift n B w0 Q e a w->lift n B w0 Q' e a w:=by
 intro e a w h
 cases e <;> simp only [lift] at h ⊢ <;> exact⟨h.1,h.2.1,let ⟨env,h1,h2⟩:=h.2.2;⟨env,h1,hq _ _ _ h2⟩⟩

structure CW (P:Program) (n:Nat) (c:Code) (Q:Exit->Env->y7->Prop) (env:Env) (h:y7):Prop where
 run:∀rd m B a w,xf n env a->Fr B a.defers w.heap->HK rd w.heap->w.heap=h->(WL c=true->B.isSome=true)->c.wpIn (wide rd) m P (lift n B w Q) a w

structure uu (B:Nat) (h h':y7):Prop where
 size:h.size<=h'.size
 same:∀k,k < h.size->h'[k]?=h[k]?∨(B<=k/\∃o,h[k]?=some o/\mU o=true)
theorem uu.refl(B:Nat)(h:y7):uu B h h:=⟨Nat.le_refl _,λ_ _=> .inl rfl⟩
theorem uu.mono{B B':Nat}{h h':y7}(s:uu B h h')(hb:B'<=B):uu B' h h':=⟨s.size,λk hk=>(s.same k hk).imp id λ⟨h1,h2⟩=>⟨Nat.le_trans hb h1,h2⟩⟩
inductive KI where
 | code (c:Code)
 | rD (id:Nat)
 | lp (I:Env->y7->Prop)
 | rd (E:Exit->Env->y7->Prop)
 | brk (B:Nat)

def PK(P:Program)(n:Nat)(R:Env->y7->Prop):List KI->Exit->Env->y7->Prop
 | [],.normal,env,h=>R env h
 | [],.ret,env,h=>R env h
 | [],_,_,_=>False
 | .rd E :: _,x,env,h=>E x env h
 | .brk B :: k,.normal,env,h=>∀h',uu B h h'->PK P n R k .normal env h'
 | .brk _ :: _,_,_,_=>False
 | .code c :: k,.normal,env,h=>CW P n c (PK P n R k) env h
 | .rD _ :: k,.normal,env,h=>PK P n R k .normal env h
 | .lp I :: _,.normal,env,h=>I env h
 | .rD id :: k,.exit i,env,h=>if i=id then PK P n R k .normal env h else PK P n R k (.exit i) env h
 | .code _ :: k,e,env,h=>PK P n R k e env h
 | .rD _ :: k,e,env,h=>PK P n R k e env h
 | .lp _ :: k,e,env,h=>PK P n R k e env h

section
variable {P:Program} {n:Nat} {R:Env->y7->Prop} {k:List KI} {env:Env} {h:y7}

theorem PK.brk{B:Nat}(hr:∀h',uu B h h'->PK P n R k .normal env h'):PK P n R (.brk B :: k) .normal env h:=hr
theorem PK.rd{E:Exit->Env->y7->Prop}{x:Exit}(hr:E x env h):PK P n R (.rd E :: k) x env h:=hr
theorem PK.aN(hr:R env h):PK P n R [] .normal env h:=hr
theorem PK.QG(hr:R env h):PK P n R [] .ret env h:=hr
theorem PK.cT{c:Code}(hr:CW P n c (PK P n R k) env h):PK P n R (.code c :: k) .normal env h:=hr
theorem PK.Zc{id:Nat}(hr:PK P n R k .normal env h):PK P n R (.rD id :: k) .normal env h:=hr
theorem PK.W6{I:Env->y7->Prop}(hr:I env h):PK P n R (.lp I :: k) .normal env h:=hr
theorem PK.TS{c:Code}(hr:PK P n R k .ret env h):PK P n R (.code c :: k) .ret env h:=hr
theorem PK.Ps{id:Nat}(hr:PK P n R k .ret env h):PK P n R (.rD id :: k) .ret env h:=hr
theorem PK.Ih{I:Env->y7->Prop}(hr:PK P n R k .ret env h):PK P n R (.lp I :: k) .ret env h:=hr
theorem PK.Wq{c:Code}{i:Nat}(hr:PK P n R k (.exit i) env h):PK P n R (.code c :: k) (.exit i) env h:=hr
theorem PK.QN{I:Env->y7->Prop}{i:Nat}(hr:PK P n R k (.exit i) env h):PK P n R (.lp I :: k) (.exit i) env h:=hr
theorem PK.S7{id:Nat}(hr:PK P n R k .normal env h):PK P n R (.rD id :: k) (.exit id) env h:=by
 show(if id=id then _ else _)
 rw [if_pos rfl];exact hr
theorem PK.cV{id i:Nat}(hn:Nat.beq i id=false)(hr:PK P n R k (.exit i) env h):PK P n R (.rD id :: k) (.exit i) env h:=by
 show(if i=id then _ else _)
 rw [if_neg (XW hn)];exact hr

theorem CW.mono{c:Code}{Q Q':Exit->Env->y7->Prop}(hq:∀e env h,Q e env h->Q' e env h)(hc:CW P n c Q env h):CW P n c Q' env h :=
 ⟨λrd m B a w ha hf hr hw hB=>wpIn_mono (hc.run rd m B a w ha hf hr hw hB) (λe a w=>Tc hq e a w)⟩

theorem CW.seq{x y:Code}(hx:CW P n x (PK P n R (.code y :: k)) env h):CW P n (.seq x y) (PK P n R k) env h:=by
 refine⟨λrd m B a w ha hf hr hw hB=>wpIn_seq (wpIn_mono (hx.run rd m B a w ha hf hr hw λh=>hB (by simp [WL,h])) λe a1 w1 hl=>?_)⟩
 cases e <;> simp only [lift,Exit.then] at hl ⊢
 case normal =>
  obtain⟨hs,lM,e1,MT,hq⟩:=hl
  exact wpIn_mono ((show CW P n y (PK P n R k) e1 w1.heap from hq).run rd m B a1 w1 MT lM (hr.same hs) rfl λh=>hB (by simp [WL,h])) (pk hs)
 all_goals exact hl

theorem CW.skip(hk:PK P n R k .normal env h):CW P n .skip (PK P n R k) env h :=
 ⟨λ_ _ _ _ w ha hf _ hw _=>wpIn_skip ⟨yW.refl w,hf,env,ha,hw▸hk⟩⟩
theorem CW.ret(hk:PK P n R k .ret env h):CW P n .ret (PK P n R k) env h :=
 ⟨λ_ _ _ _ w ha hf _ hw _=>wpIn_ret ⟨yW.refl w,hf,env,ha,hw▸hk⟩⟩
theorem CW.exit{i:Nat}(hk:PK P n R k (.exit i) env h):CW P n (.exit i) (PK P n R k) env h :=
 ⟨λ_ _ _ _ w ha hf _ hw _=>wpIn_exit ⟨yW.refl w,hf,env,ha,hw▸hk⟩⟩

theorem CW.block{id:Nat}{c:Code}(hc:CW P n c (PK P n R (.rD id :: k)) env h):CW P n (.block id c) (PK P n R k) env h:=by
 refine⟨λrd m B a w ha hf hr hw hB=>wpIn_block (wpIn_mono (hc.run rd m B a w ha hf hr hw hB) λe a1 w1 hl=>?_)⟩
 cases e <;> simp only [lift,Exit.inBlock] at hl ⊢
 case exit i =>
  obtain⟨hs,lM,e1,MT,hq⟩:=hl
  simp only [PK] at hq
  split
  ·rename_i hi;rw [if_pos hi] at hq;exact⟨hs,lM,e1,MT,hq⟩
  ·rename_i hi;rw [if_neg hi] at hq;exact⟨hs,lM,e1,MT,hq⟩
 all_goals exact hl

theorem CW.cond{c:Operand}{x y:Code}{b:Bool}(hc:ev env c=some (.bool b))(hx:b=true->CW P n x (PK P n R k) env h)(hy:b=false->CW P n y (PK P n R k) env h) :
  CW P n (.cond c x y) (PK P n R k) env h :=
 ⟨λrd m B a w ha hf hr hw hB=>wpIn_cond_split (ha.ev hc) (λhb=>(hx hb).run rd m B a w ha hf hr hw λh=>hB (by simp [WL,h])) (λhb=>(hy hb).run rd m B a w ha hf hr hw λh=>hB (by simp [WL,h]))⟩
theorem CW.loop{α:Type}{c:Code}(st:α->Env)(I:α->y7->Prop)(μ:α->Nat)(x0:α)(hs:eF (st x0) env)(h0:I x0 h)
  (round:∀x h,I x h->CW P n c (PK P n R (.lp (λe' h'=>∃x',eF (st x') e'/\I x' h'/\μ x' < μ x) :: k)) (st x) h) :
  CW P n (.loop c) (PK P n R k) env h:=by
 refine⟨λrd mm B a0 w0 ha Gm WO hw hB=>?_⟩
 intro b kk cs PV hb hr
 have key:∀m a w x,μ x=m->xf n (st x) a->I x w.heap->yW w0 w->Fr B a.defers w.heap->
   ∃e a' w',lift n B w0 (PK P n R k) e a' w'/\ArrivesIn (Machine.fenced P (wide rd)) P (lone (b.atR a (.code c :: .inLoop c :: kk)) cs w) b kk cs e a' w':=by
  intro m
  induction m using Nat.strongRecOn with
  | _ m ih =>
   intro a w x hm ei hI wO YT
   obtain⟨e,a1,w1,hq,nZ⟩:=(round x w.heap hI).run rd mm B a w ei YT (WO.same wO) rfl hB b (.inLoop c :: kk) cs PV hb hr
   cases e with
   | normal =>
    simp only [lift,PK] at hq
    obtain⟨nP,lM,e1,Lr,x',qm,Bv,xC⟩:=hq
    obtain⟨e2,a2,w2,lJ,VQ⟩:=ih (μ x') (hm▸xC) a1 w1 x' rfl (Lr.sub qm) Bv (wO.trans nP) lM
    exact⟨e2,a2,w2,lJ,.of_steps (StepsIn.trans nZ (.one (fenced_calm hb hr rfl) stepR_inLoop)) VQ⟩
   | exit id=>exact⟨(.exit id),a1,w1,pk wO (.exit id) a1 w1 (show lift n B w (PK P n R k) (.exit id) a1 w1 from hq),.pass (x:= .inLoop c) rfl (λ_ _=> .inl zd) nZ⟩
   | goto l=>exact⟨(.goto l),a1,w1,pk wO (.goto l) a1 w1 (show lift n B w (PK P n R k) (.goto l) a1 w1 from hq),.pass (x:= .inLoop c) rfl (λ_ _=> .inl zd) nZ⟩
   | ret=>exact⟨.ret,a1,w1,pk wO .ret a1 w1 (show lift n B w (PK P n R k) .ret a1 w1 from hq),.pass (x:= .inLoop c) rfl (λ_ _=> .inl zd) nZ⟩
   | panic ch=>exact hq.elim
   | outgrown=>exact hq.elim
 obtain⟨e,a',w',hq,nZ⟩:=key _ a0 w0 x0 rfl (ha.sub hs) (hw▸h0) (yW.refl w0) Gm
 exact⟨e,a',w',hq,.of_steps (.one (fenced_calm hb hr rfl) stepR_loop) nZ⟩

structure OW (P:Program) (n:Nat) (ops:Array Oper) (Q:Exit->Env->y7->Prop) (l:List Oper) (env:Env) (h:y7):Prop where
 run:∀rd m B a w w0,xf n env a->Fr B a.defers w.heap->HK rd w.heap->w.heap=h->yW w0 w->wpListIn (wide rd) m P ops (lift n B w0 Q) l a w

structure RW {γ:Type} [Membership Nat γ] (P:Program) (n:Nat) (fp:γ) (ops:Array Oper) (cl:Nat->xa) (Q:Exit->Env->y7->Prop) (t:Ord) (env:Env) (h:y7):Prop where
 run:∀B a w w0,xf n env a->Fr B a.defers w.heap->w.heap=h->yW w0 w->TW (tc fp) P ops cl (lift n B w0 Q) t a w

theorem CW.region{id:Nat}{l:List Oper}{Q:Exit->Env->y7->Prop}(hr:OW P n l.toArray Q l env h):CW P n (.region id l.toArray false) Q env h :=
 ⟨λrd m B a w ha hf YN hw _=>wpIn_region_lit (hr.run rd m B a w w ha hf YN hw (yW.refl w))⟩

theorem aU{B:Option Nat}{w0:World}{Q:Exit->Env->y7->Prop} :∀c a d v w,lift n B w0 Q (.panic c) (a.put d v) w->lift n B w0 Q (.panic c) a w:=λ_ _ _ _ _ h=>h

theorem CW.l9{id:Nat}{ops:Array Oper}{Q:Exit->Env->y7->Prop}{γ:Type}[Membership Nat γ](fp:γ)(T:Nat->Ord×(Nat->xa))(hm:P.follows .mixedOrders=true)(hn:Region.noSelect ops=true)
  (hc:Oo ops (T id).2 (T id).1 ops.size true (Array.replicate ops.size false)=true) (hr:RW P n fp ops (T id).2 Q (T id).1 env h):CW P n (.region id ops true) Q env h :=
 ⟨λ_ _ B a w ha hf _ hw _=>iD (λh=>tc.refl h) (λ_ _ _=>tc.trans) (T id).1 (T id).2 hm hn hc aU dR (hr.run B a { w with drawn:=w.drawn+1 } w ha hf hw (yW.of_eq rfl))⟩

theorem OW.nil{ops:Array Oper}{Q:Exit->Env->y7->Prop}(hq:Q .normal env h):OW P n ops Q [] env h :=
 ⟨λ_ _ _ _ _ _ ha hf _ hw hs=>⟨hs,hf,env,ha,hw▸hq⟩⟩
theorem RW.done{γ:Type}[Membership Nat γ]{fp:γ}{ops:Array Oper}{cl:Nat->xa}{Q:Exit->Env->y7->Prop}(hq:Q .normal env h):RW P n fp ops cl Q .done env h :=
 ⟨λ_ _ _ _ ha hf hw hs=>⟨hs,hf,env,ha,hw▸hq⟩⟩
theorem RW.none{γ:Type}[Membership Nat γ]{fp:γ}{ops:Array Oper}{cl:Nat->xa}{Q:Exit->Env->y7->Prop}:RW P n fp ops cl Q .none env h:=⟨λ_ _ _ _ _ _ _ _=>trivial⟩

/-! ### One operation -/

def yI(op:Op)(ty:TypeId):Oper:=⟨none,op,ty,"",#[],none⟩

def Pu(P:Program)(n:Nat)(op:Op)(ty:TypeId)(env:Env)(v:Value):Prop:=∀a w,xf n env a->(execOp a.eval (yI op ty)).run P w= .ok (.value v) w
def Rd{γ:Type}[Membership Nat γ](P:Program)(n:Nat)(fp:γ)(op:Op)(ty:TypeId)(env:Env)(h:y7)(v:Value):Prop:=∀a w,xf n env a->tc fp h w.heap->(execOp a.eval (yI op ty)).run P w= .ok (.value v) w
def Ld(P:Program)(n:Nat)(op:Op)(ty:TypeId)(env:Env)(h:y7)(K:Value->y7->Prop):Prop :=
 ∀a w (o:Oper) (next:Act->World->Prop) (Q:Exit->Act->World->Prop),xf n env a->w.heap=h->o.op=op->o.type=ty->
  (∀v w',yW w w'->K v w'.heap->next (a.put o.dst v) w')->o.wp P a w next Q

structure St {γ:Type} [Membership Nat γ] (P:Program) (n:Nat) (fp:γ) (c:xa) (dst:Option Tmp) (op:Op) (ty:TypeId) (env:Env) (h:y7) (N:Env->y7->Prop):Prop where
 pu:c= .pure->∃v,Pu P n op ty env v/\N (rG env dst v) h
 rd:c= .read->∃v,Rd P n fp op ty env h v/\N (rG env dst v) h
 ex:c= .ext->Ld P n op ty env h (λv h'=>tc fp h h'/\N (rG env dst v) h')
 ld:c= .uJ->Ld P n op ty env h (λv h'=>N (rG env dst v) h')

theorem xj(ρ:Operand->Value)(o:Oper):execOp ρ o=execOp ρ (yI o.op o.type):=by
 obtain⟨dst,op,type,pos,after,guard⟩:=o
 cases op <;> rfl

section
variable {γ:Type} [Membership Nat γ] {fp:γ}
theorem Pu.rd{op:Op}{ty:TypeId}{v:Value}(hp:Pu P n op ty env v):Rd P n fp op ty env h v:=λa w ha _=>hp a w ha
theorem Rd.ld{op:Op}{ty:TypeId}{v:Value}{K:Value->y7->Prop}(hp:Rd P n fp op ty env h v)(hk:K v h):Ld P n op ty env h K:=by
 intro a w o next Q ha hw ho ht hn
 unfold Oper.wp
 rw [xj,ho,ht,hp a w ha (hw▸tc.refl _)]
 exact hn v w (yW.refl w) (hw▸hk)
theorem Ld.mono{op:Op}{ty:TypeId}{K K':Value->y7->Prop}(hk:∀v h',K v h'->K' v h')(hp:Ld P n op ty env h K):Ld P n op ty env h K' :=
 λa w o next Q ha hw ho ht hn=>hp a w o next Q ha hw ho ht (λv w' hs h'=>hn v w' hs (hk _ _ h'))

def wT:xa->Bool | .pure=>false|_=>true

theorem St.xH{c:xa}{dst:Option Tmp}{op:Op}{ty:TypeId}{N:Env->y7->Prop}{v:Value}(hp:Pu P n op ty env v)(hk:N (rG env dst v) h):St P n fp c dst op ty env h N :=
 ⟨λ_=>⟨v,hp,hk⟩,λ_=>⟨v,hp.rd,hk⟩,λ_=>(hp.rd (fp:=fp)).ld ⟨tc.refl _,hk⟩,λ_=>(hp.rd (fp:=fp)).ld hk⟩
theorem St.Rm{c:xa}{dst:Option Tmp}{op:Op}{ty:TypeId}{N:Env->y7->Prop}{v:Value}(hc:wT c=true)(hp:Rd P n fp op ty env h v)(hk:N (rG env dst v) h):St P n fp c dst op ty env h N :=
 ⟨λh'=>(by rw [h'] at hc;cases hc),λ_=>⟨v,hp,hk⟩,λ_=>hp.ld ⟨tc.refl _,hk⟩,λ_=>hp.ld hk⟩
theorem St.eI{c:xa}{dst:Option Tmp}{op:Op}{ty:TypeId}{N:Env->y7->Prop}(hc:yP c=true)(hp:Ld P n op ty env h (λv h'=>tc fp h h'/\N (rG env dst v) h')):St P n fp c dst op ty env h N :=
 ⟨λh'=>(by rw [h'] at hc;cases hc),λh'=>(by rw [h'] at hc;cases hc),λ_=>hp,λ_=>hp.mono λ_ _ h'=>h'.2⟩
theorem St.th{c:xa}{dst:Option Tmp}{op:Op}{ty:TypeId}{N:Env->y7->Prop}(hc:yN c=true)(hp:Ld P n op ty env h (λv h'=>N (rG env dst v) h')):St P n fp c dst op ty env h N :=
 ⟨λh'=>(by rw [h'] at hc;cases hc),λh'=>(by rw [h'] at hc;cases hc),λh'=>(by rw [h'] at hc;cases hc),λ_=>hp⟩
end

def gd(ops:Array Oper)(env:Env)(o:Oper)(b:Bool):Prop:=∀n a,xf n env a->Region.wanted o (yielded ops a.tmps)=b

theorem P0{ops:Array Oper}{o:Oper}(hg:o.guard= .none):gd ops env o true:=λ_ _ _=>by simp [Region.wanted,hg]
theorem na{ops:Array Oper}{o:Oper}{j:Nat}{want b:Bool}{d:Tmp}(hg:o.guard=some (j,want))(hd:(ops[j]?).bind (·.dst)=some d)(he:look env d=some (.bool b)) :
  gd ops env o (b == want):=λn a ha=>by
 have:=ha.val d _ he
 simp [Region.wanted,hg,yielded,hd,this]
theorem Tv{ops:Array Oper}{o:Oper}{j:Nat}{want:Bool}{d:Tmp}(hg:o.guard=some (j,want))(hd:(ops[j]?).bind (·.dst)=some d)(he:look env d=some undef) :
  gd ops env o false:=λn a ha=>by
 have:=ha.val d _ he
 simp [Region.wanted,hg,yielded,hd,this,undef]

theorem Ld.QF{op:Op}{ty:TypeId}{K:Value->y7->Prop}(hl:Ld P n op ty env h K){a:Act}{w:World}(ha:xf n env a)(hw:w.heap=h) :∀c,op≠ .defer c:=by
 rintro c rfl
 have h1:=hl a w (yI (.defer c) ty) (λa' _=>a'.defers=a.defers) (λ_ _ _=>False) ha hw rfl rfl (λv w' _ _=>rfl)
 unfold Oper.wp at h1
 have h2:execOp a.eval (yI (.defer c) ty)=(do pure (.defer (<-resolve a.eval c ty))):=rfl
 rw [h2,Sem.run_bind] at h1
 cases hr:(resolve a.eval c ty).run P w with
 | ok d w' =>
  rw [hr] at h1
  simp only [Result.andThen,Sem.run_pure,Oper.upon] at h1
  have h3:d :: a.defers=a.defers:=h1
  have:=congrArg List.length h3
  simp at this
 | halt x w' =>
  rw [hr] at h1
  simp only [Result.andThen] at h1
  cases x <;> exact h1
theorem OW.step{γ:Type}[Membership Nat γ]{fp:γ}{ops:Array Oper}{Q:Exit->Env->y7->Prop}{o:Oper}{l:List Oper}(hg:gd ops env o true)(hd:eB n o.dst=true)
  (hs:St P n fp .uJ o.dst o.op o.type env h (λe h'=>OW P n ops Q l e h')):OW P n ops Q (o :: l) env h:=by
 refine⟨λrd m B a w w0 ha hf hr hw tV=>?_⟩
 unfold wpListIn
 rw [if_pos (hg n a ha)]
 exact Oper.jv ((hs.ld rfl).QF ha hw) dR (λ_ _ h=>h) (hs.ld rfl a w o _ _ ha hw rfl rfl λv w' px hk=>hk.run rd m B _ w' w0 (ha.put hd v) ((hf.same px).put _ _) (hr.same px) rfl (tV.trans px))
theorem OW.pass{ops:Array Oper}{Q:Exit->Env->y7->Prop}{o:Oper}{l:List Oper}(hg:gd ops env o false)(hd:eB n o.dst=true)
  (hs:OW P n ops Q l (rG env o.dst undef) h):OW P n ops Q (o :: l) env h:=by
 refine⟨λrd m B a w w0 ha hf hr hw tV=>?_⟩
 unfold wpListIn
 rw [if_neg (by rw [hg n a ha];exact Bool.false_ne_true)]
 exact⟨λ_ _=>trivial,hs.run rd m B _ w w0 (ha.put hd undef) (hf.put _ _) hr hw tV⟩

theorem RW.step{γ:Type}[Membership Nat γ]{fp:γ}{ops:Array Oper}{cl:Nat->xa}{Q:Exit->Env->y7->Prop}{i:Nat}{r:Ord}{o:Oper}(ho:ops[i]?=some o)(hg:gd ops env o true)(hd:eB n o.dst=true)
  (hs:St P n fp (cl i) o.dst o.op o.type env h (λe h'=>RW P n fp ops cl Q r e h')):RW P n fp ops cl Q (.one i r) env h:=by
 refine⟨λB a w w0 ha hf hw tV=>?_⟩
 simp only [TW,kA]
 split <;> rename_i hc
 ·obtain⟨v,hp,hk⟩:=hs.pu hc
  exact⟨o,v,ho,.inl ⟨hg n a ha,λw _=>by rw [xj];exact hp a w ha⟩,hk.run B _ w w0 (ha.put hd v) (hf.put _ _) hw tV⟩
 ·obtain⟨v,hp,hk⟩:=hs.rd hc
  exact⟨o,v,ho,.inl ⟨hg n a ha,λw' gN=>by rw [xj];exact hp a w' ha (hw▸gN)⟩,hk.run B _ w w0 (ha.put hd v) (hf.put _ _) hw tV⟩
 ·unfold wpOp
  simp only [ho]
  rw [if_pos (hg n a ha)]
  exact .inl (hs.ex hc a w o _ _ ha hw rfl rfl λv w' px hk=>⟨hw▸hk.1,hk.2.run B _ w' w0 (ha.put hd v) ((hf.same px).put _ _) rfl (tV.trans px)⟩)
 ·unfold wpOp
  simp only [ho]
  rw [if_pos (hg n a ha)]
  exact .inl (hs.ld hc a w o _ _ ha hw rfl rfl λv w' px hk=>hk.run B _ w' w0 (ha.put hd v) ((hf.same px).put _ _) rfl (tV.trans px))
theorem RW.pass{γ:Type}[Membership Nat γ]{fp:γ}{ops:Array Oper}{cl:Nat->xa}{Q:Exit->Env->y7->Prop}{i:Nat}{r:Ord}{o:Oper}(ho:ops[i]?=some o)(hg:gd ops env o false)(hd:eB n o.dst=true)
  (hs:RW P n fp ops cl Q r (rG env o.dst undef) h):RW P n fp ops cl Q (.one i r) env h:=by
 refine⟨λB a w w0 ha hf hw tV=>?_⟩
 have hk:=hs.run B _ w w0 (ha.put hd undef) (hf.put _ _) hw tV
 simp only [TW,kA]
 split <;> rename_i hc
 ·exact⟨o,undef,ho,.inr ⟨hg n a ha,rfl⟩,hk⟩
 ·exact⟨o,undef,ho,.inr ⟨hg n a ha,rfl⟩,hk⟩
 all_goals
  unfold wpOp
  simp only [ho]
  rw [if_neg (by rw [hg n a ha];exact Bool.false_ne_true)]
 ·exact⟨tc.refl _,hk⟩
 ·exact hk
theorem RW.alt{γ:Type}[Membership Nat γ]{fp:γ}{ops:Array Oper}{cl:Nat->xa}{Q:Exit->Env->y7->Prop}{i:Nat}{ri m:Ord}
  (hs:RW P n fp ops cl Q (.one i ri) env h) (hm:RW P n fp ops cl Q m env h):RW P n fp ops cl Q (.alt i ri m) env h :=
 ⟨λB a w w0 ha hf hw tV=>⟨hs.run B a w w0 ha hf hw tV,hm.run B a w w0 ha hf hw tV⟩⟩

/-! ### A function -/

def kL:Nat->List Value->Env
 | _,[]=> []
 | i,v :: r=>(i,v) :: kL (i+1) r

theorem mz :∀(l:List Value) (i t:Nat) (v:Value),look (kL i l) t=some v->i<=t/\l[t - i]?=some v
 | [],_,_,_,h=>by simp [kL,look] at h
 | x :: r,i,t,v,h=>by
  simp only [kL,uW] at h
  by_cases Hu:i=t
  ·subst Hu;simp at h;subst h;simp
  ·simp only [Hu,if_false] at h
   obtain⟨h1,h2⟩:=mz r (i+1) t v h
   have:t - i=t - (i+1)+1:=z6
   exact⟨z6,by rw [this];simpa using h2⟩

def uj(P:Program)(n:Nat)(rs:Array ResultVar)(env:Env)(h:y7)(v:Value):Prop :=
 ∀a w (fn:Func),xf n env a->uu 0 h w.heap->fn.results=rs->(results fn a.tmps).run P w= .ok v w

structure wS (P:Program) (f:FuncId) (args:Array Value) (h:y7) (K:Value->y7->Prop):Prop where
 run:∀w,w.heap=h->Calls P f args w (λe w'=>∃v,e= .returned v/\yW w w'/\K v w'.heap)

theorem wS.mono{f:FuncId}{args:Array Value}{K K':Value->y7->Prop}(hc:wS P f args h K)(hk:∀v h',K v h'->K' v h'):wS P f args h K' :=
 ⟨λw hw=>(hc.run w hw).mono λ_ _ ⟨v,h1,h2,h3⟩=>⟨v,h1,h2,hk _ _ h3⟩⟩

theorem nL{fn:Func}{tmps:Array Value}{B:Nat}{R:Ending->World->Prop} :∀(ds:List Deferred) (w:World),Fr (some B) ds w.heap->
  (∀w',w'.os=w.os->w'.tape=w.tape->w'.output=w.output->w'.drawn=w.drawn->w'.heap.size=w.heap.size->uu B w.heap w'.heap->LeavesIn (wide none) 0 P fn tmps R [] .returning w')->LeavesInM (wide none) 0 P fn tmps R ds .returning w
 | [],w,_,h=>h w rfl rfl rfl rfl rfl (uu.refl _ _)
 | d :: ds,w,hf,h=>by
  obtain⟨D,_,rfl,h0,hB,hD⟩:=hf.oK d zd
  cases h0
  have xC:=(zA.1 hD).1
  refine⟨by simp,.inl ⟨D,{ w with heap:=w.heap.setIfInBounds D (.deferred none) },rfl, ?_,nL ds _ ⟨λb hb=>by simpa using hf.le b hb,(List.nodup_cons.1 hf.nd).2,λd' bq=>?_⟩ λw' h1 h2 h3 h4 h5 h6=>h w' h1 h2 h3 h4 (by simpa using h5) ⟨by have:=h6.size;simpa using this,λk hk=>?_⟩⟩⟩
  ·simp [Instr.takeDeferred,Sem.run_bind,getObj,setObj,Sem.run,hD,Result.andThen]
  ·obtain⟨D',_,rfl,h0,hB',Ck⟩:=hf.oK d' (by simp [bq])
   cases h0
   refine⟨D',_,rfl,rfl,hB', ?_⟩
   have vB:D≠D':=λe=>(List.nodup_cons.1 hf.nd).1 (by subst e;exact bq)
   show(w.heap.setIfInBounds D _)[D']?=_
   rw [Array.getElem?_setIfInBounds,if_neg vB];exact Ck
  ·by_cases lK:D=k
   ·subst lK;exact .inr ⟨hB,_,hD,rfl⟩
   ·have h7:=h6.same k (by simpa using hk)
    have h8:(w.heap.setIfInBounds D (.deferred none))[k]?=w.heap[k]?:=by rw [Array.getElem?_setIfInBounds,if_neg lK]
    simp only [h8] at h7
    exact h7

theorem wS.of{f:FuncId}{fn:Func}{c:Code}{l:List Value}{rs:Array ResultVar}{K:Value->y7->Prop}(hf:P.funcs[f]?=some fn)(hb:fn.body=some c)(hn:fn.ntmps=n)(hr:fn.results=rs)
  (hl:Nat.ble l.length n=true) (yL:∀v h1 h2,uu h.size h1 h2->K v h1->K v h2)
  (hc:CW P n c (PK P n (λenv h'=>∃v,uj P n rs env h' v/\K v h') []) (kL 0 l) h):wS P f l.toArray h K:=by
 refine⟨λw hw=>(callsIn_wide (n:=0)).1 (callsIn_of_wp_marks hf hb trivial (wpIn_mono (hc.run none 0 (some w.heap.size) _ w ⟨?_,λt v hv=>?_⟩ ⟨λb hb=>by cases hb;exact Nat.le_refl _,List.nodup_nil,λd hd=>by cases hd⟩ (λl hl=>by cases hl) hw λ_=>rfl) λe a w1 hl=>?_))⟩
 ·have:=zB hl
  simp only [Array.size_append,List.size_toArray,Array.size_replicate,hn]
  omega
 ·obtain⟨_,h2⟩:=mz l 0 t v hv
  have xC:t < l.length:=by
   have:=(zS.1 h2).1
   omega
  rw [Array.getElem?_append_left (by simpa using xC)]
  simpa using h2
 ·have fin:∀env,yW w w1->Fr (some w.heap.size) a.defers w1.heap->xf n env a->(∃v,uj P n rs env w1.heap v/\K v w1.heap)->LeavesInM (wide none) 0 P fn a.tmps (λe w'=>∃v,e= .returned v/\yW w w'/\K v w'.heap) a.defers .returning w1:=by
   rintro env hs YT ha ⟨v,eK,hk⟩
   refine nL a.defers w1 YT λw2 h1 h2 h3 h4 h5 h6=>?_
   refine⟨v,eK a w2 fn ha (h6.mono (zZ _)) hr,v,rfl,⟨h1.trans hs.os,h2.trans hs.tape,h3.trans hs.output,by rw [h4];exact hs.drawn,by rw [h5];exact hs.size,λk o WU lK=>?_⟩,yL v _ _ (hw▸h6) hk⟩
   have xC:=(zA.1 WU).1
   have hk3:=hs.SN k o WU lK
   rcases h6.same k (zA.1 hk3).1 with h7|⟨h7,_⟩
   ·exact h7.trans hk3
   ·omega
  cases e <;> simp only [lift] at hl <;> simp only [bodyPostM]
  case normal =>
   obtain⟨hs,YT,env,ha,hq⟩:=hl
   exact fin env hs YT ha hq
  case ret =>
   obtain⟨hs,YT,env,ha,hq⟩:=hl
   exact fin env hs YT ha hq
  case exit=>exact hl.2.2.elim λ_ hh=>hh.2.elim
  case goto=>exact hl.2.2.elim λ_ hh=>hh.2.elim
end

attribute [irreducible] PK
end Go.CF
namespace Go.CF
open Go

/-! ### z2m -/

structure lN (h:y7) (b:Nat) (T:TypeId) (l:List Value):Prop where
 get:h[b]?=some (.cells l.toArray T (0,0))

structure jZ (h:y7) (a:Addr) (v:Value):Prop where
 get:∀w:World,w.heap=h->w.cell? a=some v

structure et (h:y7) (b:Nat) (T:TypeId) (l:List Value) (h':y7):Prop where
 eb:b=h.size
 eh:h'=h.push (.cells l.toArray T (0,0))

structure ej (h:y7) (b:Nat) (T:TypeId) (l:List Value) (h':y7):Prop where
 lt:b < h.size
 eh:h'=h.setIfInBounds b (.cells l.toArray T (0,0))

section
variable {h h' Co:y7} {b c:Nat} {T S:TypeId} {l m:List Value} {γ:Type} [Membership Nat γ] {fp:γ} {a:Addr} {v:Value} {o:Nat}

theorem lN.lt(hb:lN h b T l):b < h.size:=(zA.1 hb.get).1
theorem lN.heap{w:World}(hb:lN h b T l)(hw:w.heap=h):w.heap[b]?=some (.cells l.toArray T (0,0)):=hw▸hb.get
theorem lN.GD(hb:lN h b T l)(hv:l[o]?=some v):jZ h ⟨b,o,none⟩ v :=
 ⟨λw hw=>by simp only [World.cell?,hw,hb.get];simpa using hv⟩
theorem jZ.lt(hc:jZ h a v):a.block < h.size:=by
 have:=World.block_lt_of_cell? ({ heap:=h,tape:=λ_ _=>0,drawn:=0,os:=default,output:=#[] }:World) a (hc.get _ rfl)
 exact this
theorem jZ.s9{h h':y7}(he:h'[a.block]?=h[a.block]?)(hc:jZ h a v):jZ h' a v:=by
 refine⟨λw hw=>?_⟩
 have h1:=hc.get { heap:=h,tape:=λ_ _=>0,drawn:=0,os:=default,output:=#[] } rfl
 rw [<-h1]
 exact World.cell?_of_block (w:={ heap:=h,tape:=λ_ _=>0,drawn:=0,os:=default,output:=#[] }) (by rw [hw];exact he)

theorem jZ.shut{h h':y7}(hc:jZ h a v)(s:uu 0 h h'):jZ h' a v:=by
 rcases s.same _ hc.lt with h1|⟨_,o,h2,h3⟩
 ·exact jZ.s9 h1 hc
 ·have h4:=hc.get { heap:=h,tape:=λ_ _=>0,drawn:=0,os:=default,output:=#[] } rfl
  simp only [World.cell?,h2] at h4
  cases o <;> simp [mU] at h3 <;> simp at h4
theorem tc.mono{γ':Type}[Membership Nat γ']{Gz:γ'}(x:tc fp h h')(hs:∀b,b∈fp->b∈Gz∨h.size<=b):tc Gz h h' :=
 ⟨x.size,λb hb hn=>x.same b hb (λhm=>(hs b hm).elim hn (λhle=>z6))⟩
theorem tc.nil{γ':Type}[Membership Nat γ']{Gz:γ'}(x:tc ([]:List Nat) h h'):tc Gz h h':=x.mono (λ_ hm=>by cases hm)
theorem tc.GD(x:tc fp h h')(hc:jZ h a v)(hn:a.block ∉ fp):jZ h' a v:=jZ.s9 (x.same _ hc.lt hn) hc
theorem et.rD(x:et h b T l h'):lN h' b T l:=⟨by rw [x.eh,x.eb];simp⟩
theorem et.wm(x:et h b T l h'):tc fp h h' :=
 ⟨by rw [x.eh];simp,λc hc _=>by rw [x.eh,Array.getElem?_push,if_neg z6]⟩
theorem et.size(x:et h b T l h'):h'.size=h.size+1:=by rw [x.eh];simp

theorem ej.rD(x:ej h b T l h'):lN h' b T l:=⟨by rw [x.eh];simp [x.lt]⟩
theorem ej.wm(x:ej h b T l h'):tc [b] h h' :=
 ⟨by rw [x.eh];simp,λc _ hn=>by rw [x.eh,Array.getElem?_setIfInBounds,if_neg (λe=>hn (by simp [e]))]⟩
inductive qq:List Value->Nat->Value->List Value->Prop where
 | z {x v:Value} {r:List Value}:qq (x :: r) 0 v (v :: r)
 | s {x v:Value} {r r':List Value} {k:Nat}:qq r k v r'->qq (x :: r) (k+1) v (x :: r')
theorem qq.eq :∀{l:List Value} {k:Nat} {v:Value} {l':List Value},qq l k v l'->l'=l.set k v/\k < l.length
 | _,_,_,_,.z=>by simp
 | _,_,_,_,.s hs=>by
  obtain⟨h1,h2⟩:=hs.eq
  refine⟨by rw [h1];rfl,by simp;omega⟩

structure tP (h:y7) (a:Addr) (l:List Value):Prop where
 get:∀j v,l[j]?=some v->jZ h (a.add j) v
theorem tP.shut{h h':y7}(hc:tP h a l)(s:uu 0 h h'):tP h' a l:=⟨λj v hv=>(hc.get j v hv).shut s⟩
theorem tP.wm(x:tc fp h h')(hc:tP h a l)(hn:a.block ∉ fp):tP h' a l :=
 ⟨λj v hv=>x.GD (hc.get j v hv) (by unfold Addr.add;split <;> exact hn)⟩
theorem yZ(b o j:Nat):(⟨b,o,none⟩:Addr).add j=⟨b,o+j,none⟩:=by unfold Addr.add;split <;> simp_all
theorem tP.cell(hc:tP h ⟨b,o,none⟩ l){j:Nat}(hv:l[j]?=some v):jZ h ⟨b,o+j,none⟩ v:=by
 have:=hc.get j v hv;rwa [yZ] at this
theorem lN.Vu(hb:lN h b T l)(o n:Nat):tP h ⟨b,o,none⟩ ((l.drop o).take n):=by
 refine⟨λj v hv=>?_⟩
 rw [yZ]
 refine hb.GD ?_
 rw [List.getElem?_take] at hv
 split at hv
 ·simpa using hv
 ·cases hv
theorem lN.z1r(hb:lN h b T l):tP h ⟨b,0,none⟩ l :=
 ⟨λj v hv=>by rw [yZ,Nat.zero_add];exact hb.GD hv⟩
end

/-! ### The table of types -/

inductive TK where
 | int (k:IntKind)|bool|str|ptr (e:Nat)|slice (e:Nat)|map (k e:Nat)|func|iface
 | struct (fs:List (Nat×Nat×Nat))
 | array (len e:Nat)
 | other

structure TI where
 kind:TK
 size:Nat
 bytes:Nat
 zero:Value

def kindOf(P:Program):TypeDesc->TK
 | .int k=> .int k
 | .bool=> .bool
 | .string=> .str
 | .pointer e=> .ptr e
 | .slice e=> .slice e
 | .map k e=> .map k e
 | .func _ _ _=> .func
 | .interface _=> .iface
 | .struct fs=> .struct (fs.toList.map λf=>(f.offset,f.type,P.cellsOf f.type))
 | .array n e=> .array n e
 | _=> .other

def TK.agg:TK->Bool
 | .struct _=>true
 | .array _ _=>true
 | .other=>true
 | _=>false

structure yy (P:Program) (T:TypeId) (ti:TI):Prop where
 ok:∃i d,P.info? T=some i/\P.underlying T=some d/\i.size=ti.size/\i.bytes=ti.bytes/\i.zero=some ti.zero/\kindOf P d=ti.kind

theorem yy.mk'{P:Program}{T:TypeId}{ti:TI}(h1:(P.info? T).map (λi=>(i.size,i.bytes,i.zero))=some (ti.size,ti.bytes,some ti.zero))
  (h2:(P.underlying T).map (kindOf P)=some ti.kind):yy P T ti:=by
 obtain⟨i,hi,he⟩:=Option.map_eq_some_iff.1 h1
 obtain⟨d,hd,hk⟩:=Option.map_eq_some_iff.1 h2
 simp only [Prod.mk.injEq] at he
 exact⟨i,d,hi,hd,he.1,he.2.1,he.2.2,hk⟩

section
variable {P:Program} {T:TypeId} {ti:TI} (ht:yy P T ti) (w:World)
include ht
theorem yy.dI :∃i,(typeInfo T).run P w= .ok i w/\i.size=ti.size/\i.bytes=ti.bytes/\i.zero=some ti.zero:=by
 obtain⟨i,d,hi,_,h1,h2,h3,_⟩:=ht.ok
 exact⟨i,by simp [typeInfo,hi],h1,h2,h3⟩
theorem yy.ua:(sizeOf T).run P w= .ok ti.size w:=by
 obtain⟨i,h,h1,_,_⟩:=ht.dI w
 simp [sizeOf,h,h1]
theorem yy.rj:(zeroValue T).run P w= .ok ti.zero w:=by
 obtain⟨i,h,_,_,h3⟩:=ht.dI w
 simp [zeroValue,h,h3]
theorem yy.fM(ha:ti.kind.agg=false):(isAgg T).run P w= .ok false w:=by
 obtain⟨i,d,hi,hd,_,_,_,hk⟩:=ht.ok
 have hr:=run_underlying hd w
 cases d <;> simp_all [isAgg,kindOf,TK.agg] <;> (rw [<-hk] at ha;simp at ha)
theorem yy.ja{fs:List (Nat×Nat×Nat)}(ha:ti.kind= .struct fs):(isAgg T).run P w= .ok true w:=by
 obtain⟨i,d,hi,hd,_,_,_,hk⟩:=ht.ok
 have hr:=run_underlying hd w
 rw [ha] at hk
 cases d <;> simp [kindOf] at hk
 simp [isAgg,hr]
theorem yy.slice{e:Nat}(hk:ti.kind= .slice e):P.underlying T=some (.slice e):=by
 obtain⟨i,d,hi,hd,_,_,_,qe⟩:=ht.ok
 rw [hk] at qe
 cases d <;> simp [kindOf] at qe
 subst qe;exact hd
theorem yy.array{n e:Nat}(hk:ti.kind= .array n e):P.underlying T=some (.array n e):=by
 obtain⟨i,d,hi,hd,_,_,_,qe⟩:=ht.ok
 rw [hk] at qe
 cases d <;> simp [kindOf] at qe
 obtain⟨rfl,rfl⟩:=qe;exact hd
theorem yy.ptr{e:Nat}(hk:ti.kind= .ptr e):P.underlying T=some (.pointer e):=by
 obtain⟨i,d,hi,hd,_,_,_,qe⟩:=ht.ok
 rw [hk] at qe
 cases d <;> simp [kindOf] at qe
 subst qe;exact hd
theorem yy.int{k:IntKind}(hk:ti.kind= .int k):P.underlying T=some (.int k):=by
 obtain⟨i,d,hi,hd,_,_,_,qe⟩:=ht.ok
 rw [hk] at qe
 cases d <;> simp [kindOf] at qe
 subst qe;exact hd
theorem yy.bool(hk:ti.kind= .bool):P.underlying T=some .bool:=by
 obtain⟨i,d,hi,hd,_,_,_,qe⟩:=ht.ok
 rw [hk] at qe
 cases d <;> simp [kindOf] at qe
 exact hd
theorem yy.struct{fs:List (Nat×Nat×Nat)}(hk:ti.kind= .struct fs) :∃ff:Array Field,P.underlying T=some (.struct ff)/\fs=ff.toList.map λf=>(f.offset,f.type,P.cellsOf f.type):=by
 obtain⟨i,d,hi,hd,_,_,_,qe⟩:=ht.ok
 rw [hk] at qe
 cases d <;> simp [kindOf] at qe
 exact⟨_,hd,qe.symm⟩
end

structure xh (P:Program) (tt:Nat->Option TI) (en:Nat->Bool):Prop where
 ok:∀T ti,tt T=some ti->yy P T ti
 Ms:∀f,en f=true->∀args w,(callFunc f args).run P w= .ok (.enter f args) w
 mix:P.follows .mixedOrders=true

/-! ### The aL that z0B on nothing in memory -/
section
variable {P:Program} {tt:Nat->Option TI} {en:Nat->Bool} {γ:Type} [Membership Nat γ] {fp:γ} {n:Nat} {c:xa} {env:Env} {h:y7} {N:Env->y7->Prop} {d:Tmp} {ty:TypeId} {t u:TypeId} {x y z:Operand} {v:Value}

theorem St.move(hx:ev env x=some v)(k:N ((d,v) :: env) h):St P n fp c (some d) (.move x) ty env h N :=
 .xH (v:=v) (λa w ha=>by simp only [yI,execOp,ha.ev hx];rfl) k
theorem St.assign(hx:ev env x=some v)(k:N ((d,v) :: env) h):St P n fp c (some d) (.assign x) ty env h N :=
 .xH (v:=v) (λa w ha=>by simp only [yI,execOp,ha.ev hx];rfl) k
theorem St.gl{b:Bool}(hx:ev env x=some (.bool b))(hb:b=true)(hy:ev env y=some v)(k:N ((d,v) :: env) h):St P n fp c (some d) (.pick x y z) ty env h N :=
 .xH (v:=v) (λa w ha=>by simp only [yI,execOp,ha.ev hx,ha.ev hy,hb,asBool];rfl) k
theorem St.aK{b:Bool}(hx:ev env x=some (.bool b))(hb:b=false)(hz:ev env z=some v)(k:N ((d,v) :: env) h):St P n fp c (some d) (.pick x y z) ty env h N :=
 .xH (v:=v) (λa w ha=>by simp only [yI,execOp,ha.ev hx,ha.ev hz,hb,asBool];rfl) k
theorem St.nilCheck{p:Addr}(hx:ev env x=some (.pointer (some p)))(k:N ((d,.pointer (some p)) :: env) h):St P n fp c (some d) (.nilCheck x) ty env h N :=
 .xH (v:= .pointer (some p)) (λa w ha=>by simp only [yI,execOp,ha.ev hx];rfl) k
theorem St.not{b:Bool}(hx:ev env x=some (.bool b))(k:N ((d,.bool (!b)) :: env) h):St P n fp c (some d) (.unOp .not t x) ty env h N :=
 .xH (v:= .bool (!b)) (λa w ha=>by simp only [yI,execOp,ha.ev hx];rfl) k
theorem St.QE{p:Prop}[Decidable p](hx:ev env x=some (.bool (decide p)))(k:N ((d,.bool (decide (¬p))) :: env) h):St P n fp c (some d) (.unOp .not t x) ty env h N :=
 .xH (v:= .bool (decide (¬p))) (λa w ha=>by simp only [yI,execOp,ha.ev hx,decide_not];rfl) k
theorem St.extract{l:List Value}{i:Nat}(hx:ev env x=some (.tuple l.toArray))(hi:l[i]?=some v)(k:N ((d,v) :: env) h):St P n fp c (some d) (.extract x i) ty env h N :=
 .xH (v:=v) (λa w ha=>by
  have:(l.toArray)[i]?=some v:=by simpa using hi
  simp only [yI,execOp,ha.ev hx,Instr.extract,this];rfl) k
theorem St.makeFunc{fn:Fn}{f1 f2:Array Operand}{l1 l2:List Value}(h1:vm env f1.toList=some l1)(h2:vm env f2.toList=some l2)(k:N ((d,.func fn l1.toArray l2.toArray) :: env) h) :
  St P n fp c (some d) (.makeFunc fn f1 f2) ty env h N :=
 .xH (v:= .func fn l1.toArray l2.toArray) (λa w ha=>by
  have e1:f1.map a.eval=l1.toArray:=by apply Array.ext';simpa using ha.vm h1
  have e2:f2.map a.eval=l2.toArray:=by apply Array.ext';simpa using ha.vm h2
  simp only [yI,execOp,e1,e2];rfl) k

section ints
variable {k':IntKind} {i j r:Int}
theorem vZ{op:BinOp}{v:Value}(hx:ev env x=some (.int k' i))(hy:ev env y=some (.int k' j))(hr:∀w,(binOp op t (.int k' i) (.int k' j)).run P w= .ok v w):Pu P n (.binOp op t x y u) ty env v :=
 λa w ha=>by simp [yI,execOp,ha.ev hx,ha.ev hy,eqGuard_at_int,hr]
theorem wrap_add(i:Int) :∃q:Int,IntKind.i64.wrap i=i+q * 18446744073709551616:=by
 rw [IntKind.wrap_i64]
 exact⟨-((i+9223372036854775808) / 18446744073709551616),z6⟩
theorem dv(i:Int):-9223372036854775808<=IntKind.i64.wrap i/\IntKind.i64.wrap i<=9223372036854775807:=by
 rw [IntKind.wrap_i64];omega
theorem St.A1(hx:ev env x=some (.int .i64 i))(hy:ev env y=some (.int .i64 j))(k:N ((d,.int .i64 (IntKind.i64.wrap (i - j))) :: env) h) :
  St P n fp c (some d) (.binOp .sub t x y u) ty env h N :=
 .xH (vZ hx hy λw=>by simp [binOp_sub,Op.intArith]) k
theorem St.z0s(hx:ev env x=some (.int .i64 i))(hy:ev env y=some (.int .i64 j))(k:N ((d,.int .i64 (IntKind.i64.wrap (i+j))) :: env) h) :
  St P n fp c (some d) (.binOp .add t x y u) ty env h N :=
 .xH (vZ hx hy λw=>by simp [binOp_add,Op.intArith]) k
theorem St.mul(hx:ev env x=some (.int .i64 i))(hy:ev env y=some (.int .i64 j))(hr: -9223372036854775808<=i * j/\i * j<=9223372036854775807)(k:N ((d,.int .i64 (i * j)) :: env) h) :
  St P n fp c (some d) (.binOp .mul t x y u) ty env h N :=
 .xH (vZ hx hy λw=>by
  simp only [binOp_mul,Op.intArith,IntKind.wrap_i64]
  generalize i * j=m at hr
  show Result.ok (Value.int .i64 _) w=_
  congr 2;omega) k
theorem St.rem(hx:ev env x=some (.int k' i))(hy:ev env y=some (.int k' j))(h0:j≠0)(k:N ((d,.int k' (i.tmod j)) :: env) h):St P n fp c (some d) (.binOp .rem t x y u) ty env h N :=
 .xH (vZ hx hy λw=>by simp [binOp_rem,Op.intDiv,h0]) k
theorem St.quo(hx:ev env x=some (.int k' i))(hy:ev env y=some (.int k' j))(h0:j≠0)(hr:k'.wrap (i.tdiv j)=r)(k:N ((d,.int k' r) :: env) h):St P n fp c (some d) (.binOp .quo t x y u) ty env h N :=
 .xH (vZ hx hy λw=>by simp [binOp_quo,Op.intDiv,h0,hr]) k
theorem St.eql(hx:ev env x=some (.int k' i))(hy:ev env y=some (.int k' j))(k:N ((d,.bool (decide (i=j))) :: env) h):St P n fp c (some d) (.binOp .eql t x y u) ty env h N :=
 .xH (vZ hx hy λw=>by simp only [binOp_eql];show Result.ok (Value.bool (i == j)) w=_;congr 2) k
theorem St.neq(hx:ev env x=some (.int k' i))(hy:ev env y=some (.int k' j))(k:N ((d,.bool (decide (i≠j))) :: env) h):St P n fp c (some d) (.binOp .neq t x y u) ty env h N :=
 .xH (vZ hx hy λw=>by
  simp only [binOp_neq];show Result.ok (Value.bool (i !=j)) w=_
  congr 2;by_cases u5:i=j <;> simp [u5]) k
theorem St.lss(hx:ev env x=some (.int k' i))(hy:ev env y=some (.int k' j))(k:N ((d,.bool (decide (i < j))) :: env) h):St P n fp c (some d) (.binOp .lss t x y u) ty env h N :=
 .xH (vZ hx hy λw=>by simp only [binOp_lss];rfl) k
theorem St.leq(hx:ev env x=some (.int k' i))(hy:ev env y=some (.int k' j))(k:N ((d,.bool (decide (i<=j))) :: env) h):St P n fp c (some d) (.binOp .leq t x y u) ty env h N :=
 .xH (vZ hx hy λw=>by simp only [binOp_leq];rfl) k
theorem St.gtr(hx:ev env x=some (.int k' i))(hy:ev env y=some (.int k' j))(k:N ((d,.bool (decide (j < i))) :: env) h):St P n fp c (some d) (.binOp .gtr t x y u) ty env h N :=
 .xH (vZ hx hy λw=>by simp only [binOp_gtr];rfl) k
theorem St.geq(hx:ev env x=some (.int k' i))(hy:ev env y=some (.int k' j))(k:N ((d,.bool (decide (j<=i))) :: env) h):St P n fp c (some d) (.binOp .geq t x y u) ty env h N :=
 .xH (vZ hx hy λw=>by simp only [binOp_geq];rfl) k
theorem St.neg(hx:ev env x=some (.int .i64 i))(hr: -9223372036854775808<= - i/\ - i<=9223372036854775807)(k:N ((d,.int .i64 (- i)) :: env) h):St P n fp c (some d) (.unOp .neg t x) ty env h N :=
 .xH (v:= .int .i64 (- i)) (λa w ha=>by simp [yI,execOp,ha.ev hx,unary_neg,Op.intArith,IntKind.wrap_i64];omega) k
theorem St.convert(G:xh P tt en){ks:IntKind}{ti si:TI}{dst:TypeId}(hs:tt t=some si)(hd:tt dst=some ti)(hk:ti.kind= .int k')(hx:ev env x=some (.int ks i))(hr:k'.wrap i=r)(k:N ((d,.int k' r) :: env) h) :
  St P n fp c (some d) (.convert t dst x) ty env h N :=
 .xH (v:= .int k' r) (λa w ha=>by
  obtain⟨_,ds,_,hds,_⟩:=(G.ok _ _ hs).ok
  have hdd:=(G.ok _ _ hd).int hk
  simp [yI,execOp,ha.ev hx,Go.convert,run_underlying hds,run_underlying hdd,Conv.intToInt,hr]) k
end ints

theorem St.z0o(G:xh P tt en){ti:TI}{b1 b2:Bool}(ht:tt t=some ti)(hk:ti.kind= .bool)(hx:ev env x=some (.bool b1))(hy:ev env y=some (.bool b2))(k:N ((d,.bool (decide (b1=b2))) :: env) h) :
  St P n fp c (some d) (.binOp .eql t x y u) ty env h N :=
 .xH (v:= .bool (decide (b1=b2))) (λa w ha=>by
  simp [yI,execOp,ha.ev hx,ha.ev hy,eqGuard_at_bool,run_eql_bool w t b1 b2 ((G.ok _ _ ht).bool hk)]
  cases b1 <;> cases b2 <;> rfl) k
theorem St.z0n(G:xh P tt en){ti:TI}{b1 b2:Bool}(ht:tt t=some ti)(hk:ti.kind= .bool)(hx:ev env x=some (.bool b1))(hy:ev env y=some (.bool b2))(k:N ((d,.bool (decide (b1≠b2))) :: env) h) :
  St P n fp c (some d) (.binOp .neq t x y u) ty env h N :=
 .xH (v:= .bool (decide (b1≠b2))) (λa w ha=>by
  simp [yI,execOp,ha.ev hx,ha.ev hy,eqGuard_at_bool,run_neq_bool w t b1 b2 ((G.ok _ _ ht).bool hk)]
  cases b1 <;> cases b2 <;> rfl) k

theorem St.len(G:xh P tt en){ti:TI}{e len cap:Nat}{p:Option Addr}(ht:tt t=some ti)(hk:ti.kind= .slice e)(hx:ev env x=some (.slice p len cap))(k:N ((d,.int .i64 (len:Int)) :: env) h) :
  St P n fp c (some d) (.call { callee:= .builtin .len,args:=#[x],argTypes:=#[t] }) ty env h N :=
 .xH (v:= .int .i64 (len:Int)) (λa w ha=>by
  simp [yI,execOp,resolve,invoke,builtin,ha.ev hx,Builtin.len_,run_underlying ((G.ok _ _ ht).slice hk),goInt]) k
theorem St.Al{k':IntKind}{i j:Int}(hx:ev env x=some (.int k' i))(hy:ev env y=some (.int k' j))(k:N ((d,.int k' (Min.min i j)) :: env) h){tt:Array TypeId} :
  St P n fp c (some d) (.call { callee:= .builtin .min,args:=#[x,y],argTypes:=tt }) ty env h N :=
 .xH (v:= .int k' (Min.min i j)) (λa w ha=>by
  simp [yI,execOp,resolve,invoke,builtin,ha.ev hx,ha.ev hy,run_min_int2]
  omega) k
theorem St.imax{k':IntKind}{i j:Int}(hx:ev env x=some (.int k' i))(hy:ev env y=some (.int k' j))(k:N ((d,.int k' (Max.max i j)) :: env) h){tt:Array TypeId} :
  St P n fp c (some d) (.call { callee:= .builtin .max,args:=#[x,y],argTypes:=tt }) ty env h N :=
 .xH (v:= .int k' (Max.max i j)) (λa w ha=>by
  simp [yI,execOp,resolve,invoke,builtin,ha.ev hx,ha.ev hy,run_max_int2]
  omega) k

theorem jK{f:Field}{b o:Nat}(w:World)(hz:P.cellsOf f.type≠0):(fieldPlace ⟨b,o,none⟩ f).run P w= .ok ⟨b,o+f.offset,none⟩ w:=by
 unfold Program.cellsOf at hz
 cases hi:P.info? f.type with
 | none=>simp [hi] at hz
 | some i =>
  simp [hi] at hz
  simp [fieldPlace,sizeOf,typeInfo,hi,hz,yZ]

theorem St.fieldAddr(G:xh P tt en){ti:TI}{fs:List (Nat×Nat×Nat)}{b o i off ft sz:Nat}(ht:tt t=some ti)(hk:ti.kind= .struct fs)(hf:fs[i]?=some (off,ft,sz+1))
  (hx:ev env x=some (.pointer (some ⟨b,o,none⟩))) (k:N ((d,.pointer (some ⟨b,o+off,none⟩)) :: env) h):St P n fp c (some d) (.fieldAddr t x i) ty env h N :=
 .xH (v:= .pointer (some ⟨b,o+off,none⟩)) (λa w ha=>by
  obtain⟨ff,hu,rfl⟩:=(G.ok _ _ ht).struct hk
  rw [zG] at hf
  obtain⟨f,lM,Zv⟩:=Option.map_eq_some_iff.1 hf
  simp only [Prod.mk.injEq] at Zv
  have MQ:ff[i]?=some f:=by simpa using lM
  have:=jK (P:=P) (b:=b) (o:=o) w (f:=f) z6
  simp [yI,execOp,ha.ev hx,Instr.fieldAt,run_underlying hu,MQ,Instr.sureAddr,this,Zv.1]) k
theorem St.indexAddr(G:xh P tt en){ti te:TI}{e b o len cap i:Nat}{k':IntKind}{ii:Int}(ht:tt t=some ti)(hk:ti.kind= .slice e)(oL:tt e=some te)(hx:ev env x=some (.slice (some ⟨b,o,none⟩) len cap))(hy:ev env y=some (.int k' ii))
  (bp:ii=(i:Int)) (hi:i < len) (k:N ((d,.pointer (some ⟨b,o+i * te.size,none⟩)) :: env) h):St P n fp c (some d) (.indexAddr t x y) ty env h N :=
 .xH (v:= .pointer (some ⟨b,o+i * te.size,none⟩)) (λa w ha=>by
  subst bp
  have h1:=(G.ok _ _ oL).ua w
  simp [yI,execOp,ha.ev hx,ha.ev hy,Instr.indexAt,asIntOf,run_underlying ((G.ok _ _ ht).slice hk),h1,hi,yZ]) k
theorem St.a_(G:xh P tt en){ti te:TI}{e b o len i:Nat}{k':IntKind}{ii:Int}(ht:tt t=some ti)(hk:ti.kind= .array len e)(oL:tt e=some te)(hx:ev env x=some (.pointer (some ⟨b,o,none⟩)))(hy:ev env y=some (.int k' ii))
  (bp:ii=(i:Int)) (hi:i < len) (k:N ((d,.pointer (some ⟨b,o+i * te.size,none⟩)) :: env) h):St P n fp c (some d) (.indexAddr t x y) ty env h N :=
 .xH (v:= .pointer (some ⟨b,o+i * te.size,none⟩)) (λa w ha=>by
  subst bp
  have h1:=(G.ok _ _ oL).ua w
  simp [yI,execOp,ha.ev hx,ha.ev hy,Instr.indexAt,Instr.sureAddr,asIntOf,run_underlying ((G.ok _ _ ht).array hk),h1,hi,yZ]) k

theorem St.cg(G:xh P tt en){ti:TI}{e:Nat}{p:Option Addr}(ht:tt t=some ti)(hk:ti.kind= .ptr e)(hx:ev env x=some (.pointer p))(hy:ev env y=some (.pointer none))(k:N ((d,.bool p.isNone) :: env) h) :
  St P n fp c (some d) (.binOp .eql t x y u) ty env h N :=
 .xH (v:= .bool p.isNone) (λa w ha=>by
  have hu:=(G.ok _ _ ht).ptr hk
  have hp:P.underlying t=some (.pointer (P.pointee t)):=by rw [hu];simp [Program.pointee,hu]
  simp [yI,execOp,ha.ev hx,ha.ev hy,eqGuard_at_pointer,run_eql_pointer_nil w t p hp]) k
theorem St.TO(G:xh P tt en){ti:TI}{e l1 c1 l2 c2:Nat}{p:Option Addr}(ht:tt t=some ti)(hk:ti.kind= .slice e)(hx:ev env x=some (.slice p l1 c1))(hy:ev env y=some (.slice none l2 c2))(k:N ((d,.bool p.isNone) :: env) h) :
  St P n fp c (some d) (.binOp .eql t x y u) ty env h N :=
 .xH (v:= .bool p.isNone) (λa w ha=>by
  have hu:=(G.ok _ _ ht).slice hk
  simp [yI,execOp,ha.ev hx,ha.ev hy,eqGuard_at_slice,Lib.run_eql_slice_nil w t e p l1 c1 l2 c2 hu]) k

/-! ### PF -/
theorem St.load(G:xh P tt en){ti:TI}{p:Addr}(ht:tt t=some ti)(hk:ti.kind.agg=false)(hx:ev env x=some (.pointer (some p)))(hv:jZ h p v)(hn:p.block ∉ fp)(hc:wT c=true)(k:N ((d,v) :: env) h):St P n fp c (some d) (.load t x) ty env h N :=
 .Rm hc (v:=v) (λa w ha hw=>by
  have h1:=(G.ok _ _ ht).fM w hk
  simp [yI,execOp,ha.ev hx,Instr.loadAt,Instr.sureAddr,loadVar,h1,(hw.GD hv hn).get w rfl]) k
theorem j9{w:World}{a:Addr}{l:List Value}(hc:tP w.heap a l):(loadCells a l.length).run P w= .ok l.toArray w :=
 run_loadCells_list w a l (λj v hv=>(hc.get j v hv).get w rfl)
theorem St.Mf(G:xh P tt en){ti:TI}{fs:List (Nat×Nat×Nat)}{p:Addr}{l:List Value}(ht:tt t=some ti)(hk:ti.kind= .struct fs)(hx:ev env x=some (.pointer (some p)))(hl:tP h p l)(hn:p.block ∉ fp)(hz:ti.size=l.length)(hc:wT c=true)
  (k:N ((d,.agg l.toArray) :: env) h):St P n fp c (some d) (.load t x) ty env h N :=
 .Rm hc (v:= .agg l.toArray) (λa w ha hw=>by
  have h1:=(G.ok _ _ ht).ja w hk
  have h2:=(G.ok _ _ ht).ua w
  have h3:=j9 (P:=P) (w:=w) (a:=p) (l:=l) (hl.wm hw hn)
  simp [yI,execOp,ha.ev hx,Instr.loadAt,Instr.sureAddr,loadVar,h1,h2,hz,h3]) k

/-! ### Cu -/
theorem fG{op:Op}{v:y7->Value}{T:TypeId}{l:List Value}{K:Value->y7->Prop}
  (hr:∀a w,xf n env a->w.heap=h->(execOp a.eval (yI op ty)).run P w= .ok (.value (v h)) (w.alloc (.cells l.toArray T)))
  (hk:K (v h) (h.push (.cells l.toArray T (0,0)))):Ld P n op ty env h (λv h'=>tc fp h h'/\K v h'):=by
 intro a w o next Q ha hw ho ht hn
 unfold Oper.wp
 rw [xj,ho,ht,hr a w ha hw]
 exact hn _ _ (yW.sH rfl) (by simp only [World.alloc,hw];exact⟨(et.mk rfl rfl:et h h.size T l _).wm,hk⟩)

theorem St.alloc(G:xh P tt en){ti:TI}(ht:tt t=some ti)(hc:yP c=true){l:List Value}(hl:ti.zero.cells.toList=l)
  (k:∀b h',et h b t l h'->b=h.size->h'.size=h.size+1->N ((d,.pointer (some ⟨b,0,none⟩)) :: env) h'):St P n fp c (some d) (.alloc t) ty env h N :=
 .eI hc (fG (v:=λh=> .pointer (some ⟨h.size,0,none⟩)) (T:=t) (l:=l) (λa w ha hw=>by
  have h1:=(G.ok _ _ ht).rj w
  subst hl
  simp [yI,execOp,Instr.alloc,h1,newVar,newRow,<-hw]) (k h.size _ ⟨rfl,rfl⟩ rfl zd))
theorem St.box(hx:ev env x=some v)(hc:yP c=true){l:List Value}(hl:v.cells.toList=l)
  (k:∀b h',et h b t l h'->b=h.size->h'.size=h.size+1->N ((d,.pointer (some ⟨b,0,none⟩)) :: env) h'):St P n fp c (some d) (.box t x) ty env h N :=
 .eI hc (fG (v:=λh=> .pointer (some ⟨h.size,0,none⟩)) (T:=t) (l:=l) (λa w ha hw=>by
  subst hl
  simp [yI,execOp,Instr.box,ha.ev hx,newVar,newRow,<-hw]) (k h.size _ ⟨rfl,rfl⟩ rfl zd))

theorem World.nJ{w:World}{b o:Nat}{T:TypeId}{l:List Value}{v:Value}(hb:w.heap[b]?=some (.cells l.toArray T (0,0))) :
  (w.setCell ⟨b,o,none⟩ v).heap=w.heap.setIfInBounds b (.cells (l.set o v).toArray T (0,0)):=by
 have xC:b < w.heap.size:=(zA.1 hb).1
 have hv:w.heap[b]= .cells l.toArray T (0,0):=(zA.1 hb).2
 simp only [World.setCell]
 apply Array.ext
 ·simp
 ·intro k h1 h2
  rw [Array.getElem_modify,Array.getElem_setIfInBounds]
  ·split
   ·rename_i hk;subst hk;simp [hv]
   ·rfl

theorem dU(G:xh P tt en){p:Addr}{b o:Nat}{T:TypeId}{l l':List Value}{K:Value->y7->Prop}{ti:TI}(ht:tt t=some ti)(h1:ti.size=1)(hp:p=⟨b,o,none⟩)(hx:ev env x=some (.pointer (some p)))(hy:ev env y=some v)(hv:v.oneCell'=true)
  (hb:lN h b T l) (hs:l'=l.set o v) (ho:o < l.length) (k:K undef (h.setIfInBounds b (.cells l'.toArray T (0,0)))):Ld P n (.store t x y) ty env h K:=by
 intro a w oo next Q ha hw nU pv hn
 subst hp
 unfold Oper.wp
 have hh:=hb.heap hw
 have yS:w.cell? ⟨b,o,none⟩=some l[o]:=by simp [World.cell?,hh,ho]
 have AO:w.frozen? ⟨b,o,none⟩=false:=by simp [World.frozen?,hh]
 have yL:=run_store P w ⟨b,o,none⟩ v .plain hv
 rw [yS] at yL
 simp only [AO,Bool.false_eq_true,if_false] at yL
 have u4:=(G.ok _ _ ht).ua w
 have rY:v.cells=#[v]:=by cases v <;> first|rfl|(simp [Value.oneCell'] at hv)
 have wq:(execOp a.eval (yI (.store t x y) ty)).run P w= .ok .skip (w.setCell ⟨b,o,none⟩ v):=by
  simp [yI,execOp,ha.ev hx,ha.ev hy,Instr.storeAt,Instr.sureAddr,storeVar,u4,h1,rY,storeCells,yL,yZ]
 rw [xj,nU,pv,wq]
 refine hn _ _ (yW.rM hh rfl (World.nJ hh)) ?_
 rw [World.nJ hh,hw,<-hs]
 exact k

theorem St.store(G:xh P tt en){b o:Nat}{T:TypeId}{l l':List Value}{ti:TI}(ht:tt t=some ti)(h1:ti.size=1)(hx:ev env x=some (.pointer (some ⟨b,o,none⟩)))(hy:ev env y=some v)(hv:v.oneCell'=true)
  (hb:lN h b T l) (hs:qq l o v l') (hc:yN c=true∨yP c=true/\b∈fp) (k:∀h',ej h b T l' h'->h'.size=h.size->N env h'):St P n fp c none (.store t x y) ty env h N :=
 hc.elim (λhc=> .th hc (dU G ht h1 rfl hx hy hv hb hs.eq.1 hs.eq.2 (k _ ⟨hb.lt,rfl⟩ zd)))
  (λhc=> .eI hc.1 (dU G ht h1 rfl hx hy hv hb hs.eq.1 hs.eq.2 ⟨(ej.wm (T:=T) (l:=l') ⟨hb.lt,rfl⟩).mono λb' sA=> .inl (by rw [zH.1 sA];exact hc.2),k _ ⟨hb.lt,rfl⟩ zd⟩))

/-! ### Calls -/
theorem fQ(G:xh P tt en){f:FuncId}{K:Value->y7->Prop}{ca:Call}{l:List Value}{first cap:Array Value}{fo:Operand}(SK:ca.callee= .value fo)(hf:ev env fo=some (.func (.func f) first cap))(hl:vm env ca.args.toList=some l)(he:en f=true)
  (hk:wS P f (first ++ l.toArray ++ cap) h K):Ld P n (.call ca) ty env h K:=by
 intro a w oo next Q ha hw nU pv hn
 unfold Oper.wp
 have e1:ca.args.map a.eval=l.toArray:=by apply Array.ext';simpa using ha.vm hl
 have wq:(execOp a.eval (yI (.call ca) ty)).run P w= .ok (.enter f (first ++ l.toArray ++ cap)) w:=by
  simp [yI,execOp,resolve,SK,e1,ha.ev hf,Deferred.ofValue,invoke,G.Ms f he]
 rw [xj,nU,pv,wq]
 refine Calls.mono (hk.run w hw) λe w' ⟨v,he,hs,hk⟩=>?_
 subst he
 exact hn v w' hs hk

theorem St.call(G:xh P tt en){f:FuncId}{args:Array Operand}{at':Array TypeId}{l:List Value}(hl:vm env args.toList=some l)(he:en f=true)(hc:yN c=true)
  (hk:wS P f l.toArray h (λv h'=>N ((d,v) :: env) h')):St P n fp c (some d) (.call { callee:= .value (.func f),args:=args,argTypes:=at' }) ty env h N :=
 .th hc (fQ G (first:=#[]) (cap:=#[]) rfl rfl hl he (by simpa [rG] using hk))
theorem St.Dr(G:xh P tt en){f:FuncId}{args:Array Operand}{at':Array TypeId}{l:List Value}(hl:vm env args.toList=some l)(he:en f=true)(hc:yP c=true)
  (hk:wS P f l.toArray h (λv h'=>tc fp h h'/\N ((d,v) :: env) h')):St P n fp c (some d) (.call { callee:= .value (.func f),args:=args,argTypes:=at' }) ty env h N :=
 .eI hc (fQ G (first:=#[]) (cap:=#[]) rfl rfl hl he (by simpa [rG] using hk))
theorem St.Mt(G:xh P tt en){f:FuncId}{args:Array Operand}{at':Array TypeId}{l:List Value}{first cap:List Value}(hf:ev env x=some (.func (.func f) first.toArray cap.toArray))(hl:vm env args.toList=some l)(he:en f=true)(hc:yN c=true)
  (hk:wS P f (first ++ l ++ cap).toArray h (λv h'=>N ((d,v) :: env) h')):St P n fp c (some d) (.call { callee:= .value x,args:=args,argTypes:=at' }) ty env h N :=
 .th hc (fQ G rfl hf hl he (by simpa [rG] using hk))

/-! ### Cw -/
theorem uj.zero:uj P n #[] env h (.tuple #[]):=λ_ _ _ _ _ hr=>results_none hr _ _ _
theorem uj.one{t1:Tmp}(h1:look env t1=some v):uj P n #[.tmp t1] env h v:=λa w fn ha _ hr=>by
 rw [results_tmp hr];simp [ha.val _ _ h1]
theorem uj.two{t1 t2:Tmp}{v1 v2:Value}(h1:look env t1=some v1)(h2:look env t2=some v2):uj P n #[.tmp t1,.tmp t2] env h (.tuple #[v1,v2]):=λa w fn ha _ hr=>by
 rw [results_tmp2 hr];simp [ha.val _ _ h1,ha.val _ _ h2]
theorem uj.three{t1 t2 t3:Tmp}{v1 v2 v3:Value}(h1:look env t1=some v1)(h2:look env t2=some v2)(h3:look env t3=some v3):uj P n #[.tmp t1,.tmp t2,.tmp t3] env h (.tuple #[v1,v2,v3]):=λa w fn ha _ hr=>by
 rw [results_tmp3 hr];simp [ha.val _ _ h1,ha.val _ _ h2,ha.val _ _ h3]
end
def iO:List (Nat×TI)->Nat->Option TI
 | [],_=>none
 | (k,v) :: r,t=>bif Nat.beq k t then some v else iO r t
theorem gw :∀{l:List (Nat×TI)} {T:Nat} {ti:TI},iO l T=some ti->(T,ti)∈l
 | [],_,_,h=>by simp [iO] at h
 | (k,v) :: r,T,ti,h=>by
  simp only [iO] at h
  cases hb:Nat.beq k T with
  | true =>
   simp only [hb,cond_true,Option.some.injEq] at h
   have:=Nat.eq_of_beq_eq_true hb
   subst this;subst h;simp
  | false =>
   simp only [hb,cond_false] at h
   exact List.mem_cons_of_mem _ (gw h)
theorem Tb{P:Program}{l:List (Nat×TI)}(hl:∀p∈l,yy P p.1 p.2) :∀T ti,iO l T=some ti->yy P T ti:=λ_ _ h=>hl _ (gw h)
def Lw(P:Program)(f:Nat):Bool:=match P.funcs[f]? with
 | some fn=>fn.body.isSome && !(fn.name == "runtime.NumGoroutine")
 | none=>false
theorem P9{P:Program}{f:Nat}(h:Lw P f=true) :∀args w,(callFunc f args).run P w= .ok (.enter f args) w:=by
 intro args w
 unfold Lw at h
 cases hf:P.funcs[f]? with
 | none=>simp [hf] at h
 | some fn =>
  simp only [hf,Bool.and_eq_true,Bool.not_eq_true'] at h
  have h2:fn.body.isNone=false:=by cases hb:fn.body <;> simp_all
  simp only [callFunc,Sem.run_bind,run_program,Result.andThen_ok,hf,h.2,h2,Bool.false_eq_true,if_false]
  rfl
def Xj(l:List xa)(i:Nat):xa:=l.getD i .uJ
section
variable {P:Program} {n:Nat} {γ:Type} [Membership Nat γ] {fp:γ} {env:Env} {h:y7} {ops:Array Oper} {cl:Nat->xa} {Q:Exit->Env->y7->Prop} {o:Oper} {l:List Oper} {j:Nat} {want b:Bool} {d:Tmp} {i:Nat} {r:Ord}
theorem IC(hg:o.guard=some (j,want))(hd:(ops[j]?).bind (·.dst)=some d)(he:look env d=some (.bool b))(hb:b=want):gd ops env o true:=by
 have:=na (ops:=ops) hg hd he
 subst hb;simpa using this
theorem Dj(hg:o.guard=some (j,want))(hd:(ops[j]?).bind (·.dst)=some d)(he:look env d=some (.bool b))(hb:b= !want):gd ops env o false:=by
 have:=na (ops:=ops) hg hd he
 subst hb;cases want <;> simpa using this
end

/-! ### z0D that are put together -/

inductive qC:List Value->Nat->List Value->List Value->Prop where
 | z {l:List Value} {k:Nat}:qC l k [] l
 | c {l l1 l2 r:List Value} {k:Nat} {v:Value}:qq l k v l1->qC l1 (k+1) r l2->qC l k (v :: r) l2

inductive iz (place:Nat->Option (Nat×Nat)):List Value->List (Nat×Value)->List Value->Prop where
 | nil {l:List Value}:iz place l [] l
 | one {l l1 l2:List Value} {i off:Nat} {v:Value} {r:List (Nat×Value)}:place i=some (off,1)->v.cells=#[v]->qq l off v l1->iz place l1 r l2->iz place l ((i,v) :: r) l2
 | agg {l l1 l2 m:List Value} {i off n:Nat} {r:List (Nat×Value)}:place i=some (off,n+1)->m.length=n+1->qC l off m l1->iz place l1 r l2->iz place l ((i,.agg m.toArray) :: r) l2

theorem qq.arr{l l':List Value}{k:Nat}{v:Value}(h:qq l k v l'):l.toArray.setIfInBounds k v=l'.toArray:=by
 rw [h.eq.1];simp
theorem qq.length{l l':List Value}{k:Nat}{v:Value}(h:qq l k v l'):l'.length=l.length:=by rw [h.eq.1];simp

theorem qC.bound :∀{l:List Value} {k:Nat} {m l':List Value},qC l k m l'->m≠ []->k+m.length<=l.length/\l'.length=l.length
 | _,_,_,_,.z,hn=>absurd rfl hn
 | _,_,_,_,.c h1 .z,_=>by have:=h1.eq.2;have:=h1.length;simp;omega
 | _,_,_,_,.c h1 (.c h2 h3),_=>by
  have:=qC.bound (.c h2 h3) zd
  have:=h1.length
  simp at *;omega

theorem qC.fold :∀{l:List Value} {k:Nat} {m l':List Value} (j:Nat),qC l (k+j) m l'->(m.zipIdx j).foldl (fun(cs:Array Value) x=>cs.setIfInBounds (k+x.2) x.1) l.toArray=l'.toArray
 | _,_,_,_,_,.z=>by simp
 | l,k,_,_,j,.c h1 h2=>by
  simp only [List.zipIdx_cons,List.foldl_cons,h1.arr]
  exact qC.fold (k:=k) (j+1) h2

theorem _root_.Go.CF.zk {p:Prop}(h:p:=by simp;omega):p:=h
theorem kf{place:Nat->Option (Nat×Nat)} :∀{l:List Value} {ps:List (Nat×Value)} {l':List Value},iz place l ps l'->Instr.fill place l.toArray ps=some l'.toArray
 | _,_,_,.nil=>rfl
 | l,_,_,.one (v:=v) (off:=off) hp hc hs hr=>by
  have:=hs.eq.2
  simp only [Instr.fill,hp,hc]
  have e1:(#[v].zipIdx.foldl (λcs x=>match x with|(c,j)=>cs.setIfInBounds (off+j) c) l.toArray)=l.toArray.setIfInBounds off v:=by simp
  rw [e1,hs.arr]
  simp only [List.size_toArray,List.length_singleton]
  rw [if_neg zk]
  exact kf hr
 | l,_,_,.agg (m:=m) (off:=off) (l1:=l1) hp hm hs hr=>by
  have hb:=(hs.bound (by intro h;simp [h] at hm)).1
  simp only [Instr.fill,hp,Value.cells,List.size_toArray,hm]
  have e1:=qC.fold (k:=off) 0 (by simpa using hs)
  rw [if_neg zk]
  have e2:(Array.foldl (fun(cs:Array Value) x=>cs.setIfInBounds (off+x.2) x.1) l.toArray m.toArray.zipIdx)=l1.toArray:=by
   rw [<-Array.foldl_toList,Array.toList_zipIdx]
   exact e1
  rw [e2]
  exact kf hr

theorem m_{P:Program}(w:World) :∀(fs:List Field),(∀f∈fs,P.cellsOf f.type≠0)->
  (fs.mapM λf=>Prod.mk f.offset <$> sizeOf f.type).run P w= .ok (fs.map λf=>(f.offset,P.cellsOf f.type)) w
 | [],_=>by simp
 | f :: fs,h=>by
  have h1:=h f zd
  have ih:=m_ w fs (λg hg=>h g (by simp [hg]))
  unfold Program.cellsOf at h1
  cases hi:P.info? f.type with
  | none=>simp [hi] at h1
  | some i =>
   have hs:(sizeOf f.type).run P w= .ok i.size w:=by simp [sizeOf,typeInfo,hi]
   simp [List.mapM_cons,hs,ih,Program.cellsOf,hi]

def WX(e:Env):List (Nat×Operand)->Option (List (Nat×Value))
 | []=>some []
 | (i,x) :: r=>match ev e x,WX e r with
  | some v,some l=>some ((i,v) :: l)
  | _,_=>none
theorem xf.WX{n:Nat}{e:Env}{a:Act}(h:xf n e a) :∀{xs:List (Nat×Operand)} {vs:List (Nat×Value)},CF.WX e xs=some vs->(xs.map λp=>(p.1,a.eval p.2))=vs
 | [],vs,hx=>by simp only [CF.WX,Option.some.injEq] at hx;simp [hx]
 | (i,x) :: r,vs,hx=>by
  simp only [CF.WX] at hx
  split at hx
  ·rename_i v l h1 h2
   simp only [Option.some.injEq] at hx
   subst hx
   simp [h.ev h1,h.WX h2]
  ·cases hx

def mo:List (Nat×Nat×Nat)->Bool
 | []=>true
 | (_,_,s) :: r=>Nat.blt 0 s && mo r
theorem lq :∀{l:List (Nat×Nat×Nat)},mo l=true->∀x∈l,x.2.2≠0
 | [],_,_,hx=>by cases hx
 | (a,b,s) :: r,h,x,hx=>by
  simp only [mo,Bool.and_eq_true,Nat.blt_eq] at h
  rcases List.mem_cons.1 hx with rfl|hx
  ·simp;omega
  ·exact lq h.2 x hx

def DT(fs:List (Nat×Nat×Nat))(i:Nat):Option (Nat×Nat):=match fs[i]? with
 | some (o,_,s)=>some (o,s)
 | none=>none

section
variable {P:Program} {tt:Nat->Option TI} {en:Nat->Bool} {γ:Type} [Membership Nat γ] {fp:γ} {n:Nat} {c:xa} {env:Env} {h:y7} {N:Env->y7->Prop} {d:Tmp} {ty:TypeId} {t u:TypeId} {x y z:Operand} {v:Value}

theorem St.build(G:xh P tt en){ti:TI}{fs:List (Nat×Nat×Nat)}{zl l:List Value}{parts:Array (Nat×Operand)}{ps:List (Nat×Value)}(ht:tt t=some ti)(hk:ti.kind= .struct fs)(hz:ti.zero= .agg zl.toArray)(sR:mo fs=true)
  (hp:WX env parts.toList=some ps) (hf:iz (DT fs) zl ps l) (k:N ((d,.agg l.toArray) :: env) h):St P n fp c (some d) (.build t parts) ty env h N :=
 .xH (v:= .agg l.toArray) (λa w ha=>by
  obtain⟨ff,hu,rfl⟩:=(G.ok _ _ ht).struct hk
  have SX:=(G.ok _ _ ht).rj w
  have kq:=m_ (P:=P) w ff.toList (λf hf=>lq sR (f.offset,f.type,P.cellsOf f.type) (List.mem_map.2 ⟨f,hf,rfl⟩))
  have qz:=kf hf
  have e1:(parts.map λp=>(p.1,a.eval p.2)).toList=ps:=by simpa using ha.WX hp
  have e2:(fun(i:Nat)=>(ff.toList.map λf=>(f.offset,P.cellsOf f.type)).toArray[i]?)=DT (ff.toList.map λf=>(f.offset,f.type,P.cellsOf f.type)):=by
   funext i
   simp only [DT,zG,List.getElem?_toArray]
   cases ff.toList[i]? <;> rfl
  have e3:(parts.map λx=>(x.1,a.eval x.2)).toList=ps:=e1
  simp only [yI,execOp,Instr.build,Sem.run_bind,SX,Result.andThen_ok,hz,run_underlying hu,Array.mapM_eq_mapM_toList]
  simp only [Sem.run_map,Sem.run_pure,bind_pure_comp,kq,Result.andThen_ok,Value.cells]
  rw [show(Instr.fill (λi=>(ff.toList.map λf=>(f.offset,P.cellsOf f.type)).toArray[i]?) zl.toArray (parts.map λx=>(x.1,a.eval x.2)).toList)=some l.toArray by rw [e2,e3];exact qz]
  rfl) k

def plA(sz i:Nat):Option (Nat×Nat):=some (i * sz,sz)

def uh(z:List Value):Nat->List Value
 | 0=> []
 | k+1=>z ++ uh z k
theorem uE(z:List Value) :∀k,(uh z k).length=k * z.length
 | 0=>by simp [uh]
 | k+1=>by simp [uh,uE z k,Nat.add_mul];omega
theorem iV(z:List Value) :∀(k i:Nat),i < k * z.length->(uh z k)[i]?=z[i % z.length]?
 | 0,i,h=>by simp at h
 | k+1,i,h=>by
  by_cases hz:i < z.length
  ·simp [uh,zI hz,Nat.mod_eq_of_lt hz]
  ·rw [uh,zJ z6,iV z k (i - z.length) (by rw [Nat.add_mul] at h;omega)]
   congr 1
   have:i=(i - z.length)+z.length:=z6
   rw [this,Nat.add_sub_cancel,Nat.add_mod_right]

theorem iW{z:Value}{zl:List Value}(hz:z.cells.toList=zl)(k m:Nat)(hm:m=k * zl.length) :
  ((Array.range m).map λi=>z.cells[i % z.cells.size]!)=(uh zl k).toArray:=by
 subst hm
 apply Array.ext'
 apply List.ext_getElem?
 intro i
 simp only [Array.toList_map,Array.toList_range,zG]
 have hl:z.cells.size=zl.length:=by rw [<-hz];simp
 by_cases hi:i < k * zl.length
 ·rw [List.getElem?_range hi,iV zl k i hi]
  have sR:0 < zl.length:=by
   rcases Nat.eq_zero_or_pos zl.length with h0|h0
   ·rw [h0] at hi;simp at hi
   ·exact h0
  have xC:=Nat.mod_lt i sR
  simp only [Option.map_some,hl]
  rw [<-hz] at xC ⊢
  simp only [Array.length_toList] at xC ⊢
  rw [Array.getElem?_toList,Array.getElem?_eq_getElem xC,getElem!_pos z.cells _ xC]
 ·rw [zX zk,zX (by rw [uE];omega)]
  rfl

theorem St.buildSlice(G:xh P tt en){ti te:TI}{e len:Nat}{zl l:List Value}{parts:Array (Nat×Operand)}{ps:List (Nat×Value)}(ht:tt t=some ti)(hk:ti.kind= .slice e)(oL:tt e=some te)(hz:te.zero.cells.toList=zl)(bC:te.size=zl.length)
  (hb:Nat.ble (len * te.size) 16777216=true) (hp:WX env parts.toList=some ps) (hf:iz (plA te.size) (uh zl len) ps l) (hc:yP c=true)
  (k:∀b h',et h b e l h'->b=h.size->h'.size=h.size+1->N ((d,.slice (some ⟨b,0,none⟩) len len) :: env) h'):St P n fp c (some d) (.buildSlice t len parts) ty env h N :=
 .eI hc (fG (v:=λh=> .slice (some ⟨h.size,0,none⟩) len len) (T:=e) (l:=l) (λa w ha hw=>by
  have h1:=(G.ok _ _ ht).slice hk
  have h2:=(G.ok _ _ oL).ua w
  have h3:=(G.ok _ _ oL).rj w
  have qz:=kf hf
  have sA:=zB hb
  have e1:(parts.map λp=>(p.1,a.eval p.2)).toList=ps:=by simpa using ha.WX hp
  have e2:=iW (z:=te.zero) hz len (len * te.size) (by rw [bC])
  simp only [yI,execOp,Instr.buildSlice,Sem.run_bind,run_underlying h1,Result.andThen_ok,h2]
  rw [if_neg z6]
  by_cases h0:len * te.size=0
  ·have eg:uh zl len= []:=by
    apply zQ
    rw [uE,<-bC];exact h0
   rw [eg] at qz
   simp only [h0,if_true,Sem.run_bind,Sem.run_pure,Result.andThen_ok,Array.range_zero',Array.map_empty]
   rw [show(Instr.fill (λi=>some (i * te.size,te.size)) #[] (parts.map λx=>(x.1,a.eval x.2)).toList)=some l.toArray by rw [show(parts.map λx=>(x.1,a.eval x.2)).toList=ps from e1];exact qz]
   simp [newRow,<-hw]
  ·simp only [h0,if_false,Sem.run_bind,h3,Sem.run_pure,Result.andThen_ok]
   rw [e2,show(Instr.fill (λi=>some (i * te.size,te.size)) (uh zl len).toArray (parts.map λx=>(x.1,a.eval x.2)).toList)=some l.toArray by rw [show(parts.map λx=>(x.1,a.eval x.2)).toList=ps from e1];exact qz]
   simp [newRow,<-hw]) (k h.size _ ⟨rfl,rfl⟩ rfl zd))

theorem St.makeSlice(G:xh P tt en){ti te:TI}{e:Nat}{zl:List Value}{m cp:Nat}{k1 k2:IntKind}{mi ci:Int}(ht:tt t=some ti)(hk:ti.kind= .slice e)(oL:tt e=some te)(hz:te.zero.cells.toList=zl)(bC:te.size=zl.length)
  (hx:ev env x=some (.int k1 mi)) (hy:ev env y=some (.int k2 ci)) (Hp:mi=(m:Int)) (Hy:ci=(cp:Int)) (B5:m<=cp) (hb:te.bytes * cp<=281474976710656) (rC:cp<=9223372036854775807) (hc:yP c=true)
  (k:∀b h',et h b e (uh zl cp) h'->b=h.size->h'.size=h.size+1->N ((d,.slice (some ⟨b,0,none⟩) m cp) :: env) h'):St P n fp c (some d) (.makeSlice t x y) ty env h N :=
 .eI hc (fG (v:=λh=> .slice (some ⟨h.size,0,none⟩) m cp) (T:=e) (l:=uh zl cp) (λa w ha hw=>by
  subst Hp;subst Hy
  obtain⟨i,d,hi,hd,h1,h2,h3,_⟩:=(G.ok _ _ oL).ok
  have sA:(i.bytes:Int) * (cp:Int)<=281474976710656:=by
   have h6:((i.bytes * cp:Nat):Int)<=281474976710656:=by rw [h2];omega
   rwa [Int.natCast_mul] at h6
  have hr:=run_make (P:=P) w t e i te.zero ((G.ok _ _ ht).slice hk) hi h3 k1 k2 m cp z6 z6 sA z6
  have e2:=iW (z:=te.zero) hz cp (cp * te.size) (by rw [bC])
  simp only [Int.toNat_natCast,madeCells,h1] at hr
  rw [e2] at hr
  simp [yI,execOp,ha.ev hx,ha.ev hy,hr,<-hw]) (k h.size _ ⟨rfl,rfl⟩ rfl zd))

/-! ### Slices -/
def vd(p:Option Addr)(sz l m:Nat):Option Addr:=if m=l then p else p.map (·.add (l * sz))

theorem jc(G:xh P tt en){ti te:TI}{e len cap l h m:Nat}{p:Option Addr}{lo hi mx:Option Value}(ht:tt t=some ti)(hk:ti.kind= .slice e)(oL:tt e=some te)
  (hb:∀w,(Instr.sliceBounds true len cap lo hi mx).run P w= .ok (l,h,m) w) (w:World):(Instr.sliceAt t (.slice p len cap) lo hi mx).run P w= .ok (.slice (vd p te.size l m) (h - l) (m - l)) w:=by
 have h1:=(G.ok _ _ ht).slice hk
 have he:P.elem t=e:=by simp [Program.elem,h1]
 have h2:=(G.ok _ _ oL).ua w
 have Zz:P.underlying t=some (.slice (P.elem t)):=by rw [he];exact h1
 rw [run_sliceAt_slice w t _ _ _ _ Zz,run_slice_any w t p len cap Zz,hb w]
 simp [he,h2,sliced,vd]

section sl
variable {ti te:TI} {e len cap:Nat} {p:Option Addr} {k1 k2 k3:IntKind} {l' m' m2:Nat} {li hi mi:Int}
theorem St.Jb(G:xh P tt en)(ht:tt t=some ti)(hk:ti.kind= .slice e)(oL:tt e=some te)(hx:ev env x=some (.slice p len cap))(hl:ev env y=some (.int k1 li))(Gf:li=(l':Int))(hle:l'<=len)
  (k:N ((d,.slice (vd p te.size l' cap) (len - l') (cap - l')) :: env) h):St P n fp c (some d) (.slice t x (some y) none none) ty env h N :=
 .xH (v:= .slice (vd p te.size l' cap) (len - l') (cap - l')) (λa w ha=>by
  subst Gf
  have:=jc G ht hk oL (p:=p) (lo:=some (.int k1 (l':Int))) (hi:=none) (mx:=none) (len:=len) (cap:=cap) (l:=l') (h:=len) (m:=cap) (λw=>by simp [Instr.sliceBounds,run_sliceBound,hle]) w
  simp [yI,execOp,ha.ev hx,ha.ev hl,this]) k
theorem St.U3(G:xh P tt en)(ht:tt t=some ti)(hk:ti.kind= .slice e)(oL:tt e=some te)(hx:ev env x=some (.slice p len cap))(hh:ev env z=some (.int k2 hi))(Zs:hi=(m':Int))(hle:m'<=cap)
  (k:N ((d,.slice (vd p te.size 0 cap) m' cap) :: env) h):St P n fp c (some d) (.slice t x none (some z) none) ty env h N :=
 .xH (v:= .slice (vd p te.size 0 cap) m' cap) (λa w ha=>by
  subst Zs
  have:=jc G ht hk oL (p:=p) (lo:=none) (hi:=some (.int k2 (m':Int))) (mx:=none) (len:=len) (cap:=cap) (l:=0) (h:=m') (m:=cap) (λw=>by simp [Instr.sliceBounds,run_sliceBound,hle]) w
  simp [yI,execOp,ha.ev hx,ha.ev hh,this]) k
theorem St.Q9(G:xh P tt en)(ht:tt t=some ti)(hk:ti.kind= .slice e)(oL:tt e=some te)(hx:ev env x=some (.slice p len cap))(hl:ev env y=some (.int k1 li))(hh:ev env z=some (.int k2 hi))(Gf:li=(l':Int))(Zs:hi=(m':Int))(hlh:l'<=m')(hle:m'<=cap)
  (k:N ((d,.slice (vd p te.size l' cap) (m' - l') (cap - l')) :: env) h):St P n fp c (some d) (.slice t x (some y) (some z) none) ty env h N :=
 .xH (v:= .slice (vd p te.size l' cap) (m' - l') (cap - l')) (λa w ha=>by
  subst Gf;subst Zs
  have:=jc G ht hk oL (p:=p) (lo:=some (.int k1 (l':Int))) (hi:=some (.int k2 (m':Int))) (mx:=none) (len:=len) (cap:=cap) (l:=l') (h:=m') (m:=cap) (λw=>by simp [Instr.sliceBounds,run_sliceBound,hle,hlh]) w
  simp [yI,execOp,ha.ev hx,ha.ev hl,ha.ev hh,this]) k
end sl

/-! ### RG a slice holds;a slice that is z2g own -/

def xz:Value->List Nat
 | .slice (some a) _ _=> [a.block]
 | _=> []

def X7:Value->List Nat
 | .slice (some a) (_+1) _=> [a.block]
 | _=> []
structure Sl (h:y7) (v:Value) (len:Nat) (vs:List Value):Prop where
 ok:(∃p cap,v= .slice p 0 cap/\len=0/\vs= [])∨∃b o cap,v= .slice (some ⟨b,o,none⟩) len cap/\0 < len/\len<=cap/\b < h.size/\tP h ⟨b,o,none⟩ vs

structure Own (h:y7) (v:Value) (T sz len:Nat) (vs:List Value):Prop where
 v_:vs.length=len * sz
 ok:(v= .slice none 0 0/\len=0)∨∃b o cap l,v= .slice (some ⟨b,o,none⟩) len cap/\lN h b T l/\o+cap * sz<=l.length/\len<=cap/\(l.drop o).take (len * sz)=vs

theorem Sl.wm{γ:Type}[Membership Nat γ]{fp:γ}{h h':y7}{v:Value}{len:Nat}{vs:List Value}(x:tc fp h h')(hs:Sl h v len vs)(hn:∀b∈X7 v,b ∉ fp):Sl h' v len vs:=by
 rcases hs.ok with h1|⟨b,o,cap,rfl,sR,hle,xC,hc⟩
 ·exact⟨.inl h1⟩
 ·obtain⟨k,rfl⟩:∃k,len=k+1:=⟨len - 1,z6⟩
  exact⟨.inr ⟨b,o,cap,rfl,sR,hle,Nat.lt_of_lt_of_le xC x.size,hc.wm x (hn b (by simp [X7]))⟩⟩
theorem Own.sl{h:y7}{v:Value}{T sz len:Nat}{vs:List Value}(hs:Own h v T sz len vs):Sl h v len vs:=by
 have hl:=hs.v_
 rcases hs.ok with⟨rfl,rfl⟩|⟨b,o,cap,l,rfl,hb,h1,h2,h3⟩
 ·exact⟨.inl ⟨_,_,rfl,rfl,zQ (by simpa using hl)⟩⟩
 ·rcases Nat.eq_zero_or_pos len with rfl|sR
  ·exact⟨.inl ⟨_,_,rfl,rfl,zQ (by simpa using hl)⟩⟩
  ·exact⟨.inr ⟨b,o,cap,rfl,sR,h2,hb.lt,h3▸hb.Vu o (len * sz)⟩⟩
theorem Own.lt{h:y7}{v:Value}{T sz len:Nat}{vs:List Value}(hs:Own h v T sz len vs) :∀b∈xz v,b < h.size:=by
 rcases hs.ok with⟨rfl,_⟩|⟨b,o,cap,l,rfl,hb,_⟩
 ·intro b hb;simp [xz] at hb
 ·intro b' sA;simp [xz] at sA;subst sA;exact hb.lt
theorem Sl.lt{h:y7}{v:Value}{len:Nat}{vs:List Value}(hs:Sl h v len vs) :∀b∈X7 v,b < h.size:=by
 rcases hs.ok with⟨p,cap,rfl,_,_⟩|⟨b,o,cap,rfl,sR,_,xC,_⟩
 ·intro b hb;simp [X7] at hb
 ·obtain⟨k,rfl⟩:∃k,len=k+1:=⟨len - 1,z6⟩
  intro b' hb;simp [X7] at hb;subst hb;exact xC
theorem Own.nil{h:y7}{T sz:Nat}:Own h (.slice none 0 0) T sz 0 []:=⟨by simp,.inl ⟨rfl,rfl⟩⟩
theorem Sl.shape{h:y7}{v:Value}{len:Nat}{vs:List Value}(hs:Sl h v len vs) :∃p cap,v= .slice p len cap:=by
 rcases hs.ok with⟨p,cap,rfl,rfl,_⟩|⟨b,o,cap,rfl,_,hle,_,_⟩
 ·exact⟨p,cap,rfl⟩
 ·exact⟨_,cap,rfl⟩
theorem Own.ET{h:y7}{b T sz len:Nat}{l:List Value}(hb:lN h b T l)(hl:l.length=len * sz):Own h (.slice (some ⟨b,0,none⟩) len len) T sz len l :=
 ⟨hl,.inr ⟨b,0,len,l,rfl,hb,z6,Nat.le_refl _,by rw [List.drop_zero,<-hl,zL]⟩⟩

structure App (h h':y7) (v v':Value) (T sz len:Nat) (vs:List Value):Prop where
 own:Own h' v' T sz len vs
 wm:tc (xz v) h h'
 rD:xz v'=xz v∨∀b∈xz v',h.size<=b
 room:∀a l0 cap,v= .slice (some a) l0 cap->len<=cap->v'= .slice (some a) len cap

theorem World.xF{w:World}{g:Nat}{cs uq:Array Value}{T:TypeId}(hb:w.heap[g]?=some (.cells cs T (0,0))) :
  (w.setRow g uq).heap=w.heap.setIfInBounds g (.cells uq T (0,0)):=by
 have xC:g < w.heap.size:=(zA.1 hb).1
 have hv:w.heap[g]= .cells cs T (0,0):=(zA.1 hb).2
 simp only [World.setRow]
 apply Array.ext
 ·simp
 ·intro k h1 h2
  rw [Array.getElem_modify,Array.getElem_setIfInBounds]
  ·split
   ·rename_i hk;subst hk;simp [hv]
   ·rfl

theorem W9(G:xh P tt en){ti te:TI}{e len m:Nat}{vs news:List Value}{sv xv:Value}{K:Value->y7->Prop}(ht:tt t=some ti)(hk:ti.kind= .slice e)(oL:tt e=some te)(hz:te.zero.cells.size=te.size)
  (hx:ev env x=some sv) (hy:ev env y=some xv) (ho:Own h sv e te.size len vs) (hs:Sl h xv m news) (hm:news.length=m * te.size) (h1:∀u∈news,u.oneCell'=true) (hb:(len+m) * te.bytes<=140737488355328) (rC:len+m<=9223372036854775807)
  (k:∀v' h',App h h' sv v' e te.size (len+m) (vs ++ news)->K v' h'):Ld P n (.call { callee:= .builtin .append,args:=#[x,y],argTypes:=#[t,t] }) ty env h K:=by
 intro a w oo next Q ha hw nU pv hn
 obtain⟨i,dd,hi,hd,nV,pU,Hv,_⟩:=(G.ok _ _ oL).ok
 have hu:=(G.ok _ _ ht).slice hk
 have YR:=ho.v_
 have hlen:(vs ++ news).length=(len+m) * te.size:=by rw [zP,YR,hm,Nat.add_mul]
 unfold Oper.wp
 have fin:∀v' w',(Builtin.append_ #[t,t] ty #[sv,xv]).run P w= .ok v' w'->yW w w'->App h w'.heap sv v' e te.size (len+m) (vs ++ news)->oo.upon P a next Q ((execOp a.eval oo).run P w):=by
  intro v' w' hr tV bR
  have wq:(execOp a.eval (yI (.call { callee:= .builtin .append,args:=#[x,y],argTypes:=#[t,t] }) ty)).run P w= .ok (.value v') w':=by
   simp [yI,execOp,resolve,invoke,builtin,ha.ev hx,ha.ev hy,hr]
  rw [xj,nU,pv,wq]
  exact hn v' w' tV (k v' w'.heap bR)
 -- a new row
 have grown:∀wR w1,(∀a l0 cap,sv= .slice (some a) l0 cap->¬len+m<=cap)->len+m<=wR->w1.heap=h->yW w w1->(Builtin.append_ #[t,t] ty #[sv,xv]).run P w= .ok (.slice (some ⟨w.heap.size,0,none⟩) (len+m) wR) (w1.alloc (.cells (vs.toArray ++ news.toArray ++ Builtin.zeroCells te.zero.cells (wR - (len+m))) e))->
   oo.upon P a next Q ((execOp a.eval oo).run P w):=by
  intro wR w1 Hm oP Sw tV hr
  have vV:et h h.size e (vs ++ news ++ (Builtin.zeroCells te.zero.cells (wR - (len+m))).toList) (w1.alloc (.cells (vs.toArray ++ news.toArray ++ Builtin.zeroCells te.zero.cells (wR - (len+m))) e)).heap:=by
   refine⟨rfl, ?_⟩
   simp only [World.alloc,Sw]
   congr 2
   apply Array.ext'
   simp
  refine fin _ _ hr (tV.trans (yW.sH rfl)) ⟨⟨hlen,.inr ⟨h.size,0,wR,_,by rw [hw],vV.rD, ?_,oP, ?_⟩⟩,vV.wm,.inr (λb hb=>?_),λa l0 cap he hle=>absurd hle (Hm a l0 cap he)⟩
  ·simp only [zP,Array.length_toList,size_zeroCells,hz]
   rw [zP] at hlen
   rw [hlen,<-Nat.add_mul]
   have:len+m+(wR - (len+m))=wR:=z6
   rw [this];omega
  ·rw [List.drop_zero,<-hlen];exact List.take_left
  ·simp [xz,hw] at hb;omega
 have hxa:∃ad mc,(xv= .slice (some ad) m mc/\∀j u,news[j]?=some u->w.cell? (ad.add j)=some u)∨(∃CH,xv= .slice none 0 CH/\m=0/\news= []):=by
  rcases hs.ok with⟨p,cap,h1,h2,h3⟩|⟨b,o,cap,h1,_,_,_,hc⟩
  ·cases p with
   | none=>exact⟨⟨0,0,none⟩,0,.inr ⟨cap,h1,h2,h3⟩⟩
   | some ad=>exact⟨ad,cap,.inl ⟨h2▸h1,λj u hu=>by rw [h3] at hu;simp at hu⟩⟩
  ·exact⟨⟨b,o,none⟩,cap,.inl ⟨h1,λj u hu=>(hc.get j u hu).get w hw⟩⟩
 obtain⟨ad,mc,⟨rfl,VK⟩|⟨CH,rfl,rfl,rfl⟩⟩:=hxa
 ·rcases ho.ok with⟨rfl,rfl⟩|⟨b,o,cap,l,rfl,oN,wU,gS,ba⟩
  ·have hv0:vs= []:=zQ (by simpa using YR)
   subst hv0
   by_cases V7:m=0
   ·subst V7
    have C5:news= []:=zQ (by simpa using hm)
    subst C5
    refine fin (.slice none 0 0) w ?_ (yW.refl w) ⟨by simpa using Own.nil,hw▸tc.refl _,.inl rfl,λa l0 cap he=>by cases he⟩
    simp [Builtin.append_,run_underlying hu,sizeOf,typeInfo,hi,Builtin.lenOf,Builtin.firstCells,loadCells,loadCellsFrom]
   ·have hr:=run_append_nil (P:=P) w t ty e i te.zero hu hi Hv ad m mc news (by rw [nV];exact hm) VK z6 z6 (by rw [pU];simp at hb;omega)
    have WV:=grownCap_ge w m 0 e
    refine grown (grownCap w m 0 e) w.drew (λa l0 cap he=>by cases he) z6 hw (yW.of_eq rfl) ?_
    simpa using hr
  ·by_cases ZK:len+m<=cap
   ·have hg:w.heap[b]?=some (.cells l.toArray e (0,0)):=oN.heap hw
    have hmul:len * te.size+m * te.size<=cap * te.size:=by rw [<-Nat.add_mul];exact zU _ ZK
    have Ul:=run_firstCells_some (P:=P) w i.size m ad m mc news (by rw [nV];exact hm) VK
    have yL:=run_storeCells_at P b (o+len * te.size) e news 0 l.toArray w hg zk h1
    have hr:(Builtin.append_ #[t,t] ty #[.slice (some ⟨b,o,none⟩) len cap,.slice (some ad) m mc]).run P w= .ok (.slice (some ⟨b,o,none⟩) (len+m) cap)
      (w.setRow b (l.take (o+len * te.size) ++ news ++ l.drop (o+len * te.size+news.length)).toArray):=by
     simp only [Nat.add_zero] at yL
     simp only [nV] at Ul
     simp [Builtin.append_,run_underlying hu,sizeOf,typeInfo,hi,Builtin.lenOf,ZK,nV,Ul,yZ,yL]
    refine fin _ _ hr (yW.rM hg rfl (World.xF hg)) ?_
    have mM:ej h b e (l.take (o+len * te.size) ++ news ++ l.drop (o+len * te.size+news.length)) (w.setRow b (l.take (o+len * te.size) ++ news ++ l.drop (o+len * te.size+news.length)).toArray).heap :=
     ⟨oN.lt,by rw [World.xF hg,hw]⟩
    refine⟨⟨hlen,.inr ⟨b,o,cap,_,rfl,mM.rD, ?_,ZK, ?_⟩⟩,mM.wm,.inl rfl,λa l0 z0m he _=>by cases he;rfl⟩
    ·simp only [zP,zN,List.length_drop];omega
    ·have e1:List.drop o (List.take (o+len * te.size) l ++ news ++ List.drop (o+len * te.size+news.length) l)=vs ++ news ++ List.drop (o+len * te.size+news.length) l:=by
      have C3:o<=(List.take (o+len * te.size) l).length:=by simp only [zN];omega
      rw [List.append_assoc,List.drop_append_of_le_length C3,<-List.append_assoc,List.drop_take]
      congr 2
      rw [Nat.add_sub_cancel_left];exact ba
     rw [e1,<-hlen];exact List.take_left
   ·have ue:∀j v,vs[j]?=some v->w.cell? ((⟨b,o,none⟩:Addr).add j)=some v:=λj v hv=>by
     have:=(oN.Vu o (len * te.size)).get j v (by rw [ba];exact hv)
     exact this.get w hw
    have hr:=run_append_grow (P:=P) w t ty e i te.zero hu hi Hv ⟨b,o,none⟩ len cap vs (by rw [nV];exact YR) ue ad m mc news (by rw [nV];exact hm) VK z6 z6 (by rw [pU];exact growslice_fits z6 hb)
    have WV:=grownCap_ge w (len+m) cap e
    exact grown (grownCap w (len+m) cap e) w.drew (λa l0 z0m he=>by cases he;exact ZK) WV hw (yW.of_eq rfl) hr
 ·-- nothing to append
  have hr:(Builtin.append_ #[t,t] ty #[sv,.slice none 0 CH]).run P w= .ok sv w:=by
   rcases ho.ok with⟨rfl,rfl⟩|⟨b,o,cap,l,rfl,oN,wU,gS,ba⟩
   ·simp [Builtin.append_,run_underlying hu,sizeOf,typeInfo,hi,Builtin.lenOf,Builtin.firstCells]
   ·simp [Builtin.append_,run_underlying hu,sizeOf,typeInfo,hi,Builtin.lenOf,Builtin.firstCells,gS,storeCells]
  refine fin _ _ hr (yW.refl w) ⟨by rw [hw];simpa using ho,hw▸tc.refl _,.inl rfl,λa l0 cap he _=>?_⟩
  rcases ho.ok with⟨rfl,rfl⟩|⟨b,o,wR,l,rfl,oN,wU,gS,ba⟩
  ·cases he
  ·cases he;rfl

theorem St.append(G:xh P tt en){ti te:TI}{e len m:Nat}{vs news:List Value}{sv xv:Value}(ht:tt t=some ti)(hk:ti.kind= .slice e)(oL:tt e=some te)(hz:te.zero.cells.size=te.size)
  (hx:ev env x=some sv) (hy:ev env y=some xv) (ho:Own h sv e te.size len vs) (hs:Sl h xv m news) (hm:news.length=m * te.size) (h1:∀u∈news,u.oneCell'=true) (hb:(len+m) * te.bytes<=140737488355328) (rC:len+m<=9223372036854775807) (hc:yN c=true)
  (k:∀v' h',App h h' sv v' e te.size (len+m) (vs ++ news)->N ((d,v') :: env) h'):St P n fp c (some d) (.call { callee:= .builtin .append,args:=#[x,y],argTypes:=#[t,t] }) ty env h N :=
 .th hc (W9 G ht hk oL hz hx hy ho hs hm h1 hb rC k)
end

structure z0t (h:y7) (b:Nat) (kk:IntKind) (kvs:List (Int×Value)):Prop where
 ok:∃es clock,h[b]?=some (.map es clock)/\es.toList.map (λe=>(e.key,e.val))=kvs.map (λp=>(Value.int kk p.1,p.2))

section
variable {γ:Type} [Membership Nat γ] {fp:γ} {h h':y7} {b:Nat} {kk:IntKind} {kvs:List (Int×Value)}
end

theorem yy.map{P:Program}{T:TypeId}{ti:TI}(ht:yy P T ti){k e:Nat}(hk:ti.kind= .map k e):P.underlying T=some (.map k e):=by
 obtain⟨i,d,hi,hd,_,_,_,qe⟩:=ht.ok
 rw [hk] at qe
 cases d <;> simp [kindOf] at qe
 obtain⟨rfl,rfl⟩:=qe;exact hd

section
variable {P:Program} {tt:Nat->Option TI} {en:Nat->Bool} {γ:Type} [Membership Nat γ] {fp:γ} {n:Nat} {c:xa} {env:Env} {h:y7} {N:Env->y7->Prop} {d:Tmp} {ty:TypeId} {t u:TypeId} {x y z:Operand} {v:Value}

theorem St.makeMap(hc:yP c=true)(kk:IntKind)(k:∀b h',z0t h' b kk []->tc ([]:List Nat) h h'->b=h.size->h'.size=h.size+1->N ((d,.map (some b)) :: env) h'):St P n fp c (some d) (.makeMap t none) ty env h N :=
 .eI hc (λa w o next Q ha hw ho ht hn=>by
  have wq:(execOp a.eval (yI (.makeMap t none) ty)).run P w= .ok (.value (.map (some w.heap.size))) (w.alloc (.map #[] 0)):=by
   simp [yI,execOp,Instr.makeMap]
  unfold Oper.wp
  rw [xj,ho,ht,wq]
  have hs:∀{γ:Type} [Membership Nat γ] (f:γ),tc f h (h.push (Obj.map #[] 0)):=λf=>⟨by simp,λc hc _=>by rw [Array.getElem?_push,if_neg z6]⟩
  refine hn _ _ (yW.sH rfl) ?_
  simp only [World.alloc,hw]
  exact⟨hs fp,k h.size _ ⟨#[],0,by simp,rfl⟩ (hs []) rfl zd⟩)

/-! ### A struct that is stored -/
theorem gA(G:xh P tt en){b o:Nat}{T:TypeId}{l l' m:List Value}{K:Value->y7->Prop}{ti:TI}(ht:tt t=some ti)(nP:ti.size=m.length)(V7:m≠ [])(hx:ev env x=some (.pointer (some ⟨b,o,none⟩)))(hy:ev env y=some (.agg m.toArray))(hv:∀u∈m,u.oneCell'=true)
  (hb:lN h b T l) (hs:qC l o m l') (k:K undef (h.setIfInBounds b (.cells l'.toArray T (0,0)))):Ld P n (.store t x y) ty env h K:=by
 intro a w oo next Q ha hw nU pv hn
 have hh:=hb.heap hw
 have Oi:=(hs.bound V7).1
 have u4:=(G.ok _ _ ht).ua w
 have yL:=run_storeCells_at P b o T m 0 l.toArray w hh (by simpa using Oi) hv
 have e1:(l.take o ++ m ++ l.drop (o+m.length))=l':=by
  have gen:∀(l:List Value) (o:Nat) (m l':List Value),qC l o m l'->l.take o ++ m ++ l.drop (o+m.length)=l':=by
   intro l o m l' YK
   induction YK with
   | z=>simp
   | @c l l1 l2 r k v h1 h2 ih =>
    obtain⟨h3,h4⟩:=h1.eq
    rw [<-ih,h3]
    have:=list_seg_step l k v r (by
     cases r with
     | nil=>simp;omega
     | cons x r =>
      have:=(h2.bound zd).1
      rw [h3] at this
      simp at this ⊢;omega)
    rw [this]
    simp
  exact gen l o m l' hs
 have wq:(execOp a.eval (yI (.store t x y) ty)).run P w= .ok .skip (w.setRow b l'.toArray):=by
  simp only [Nat.add_zero] at yL
  have e2:(l.take o ++ m ++ l.drop (o+m.length)).toArray=l'.toArray:=by rw [e1]
  have fg:(storeCells ⟨b,o,none⟩ m).run P w= .ok () (w.setRow b l'.toArray):=by rw [yL,<-e2]
  simp [yI,execOp,ha.ev hx,ha.ev hy,Instr.storeAt,Instr.sureAddr,storeVar,u4,nP,Value.cells,fg]
 unfold Oper.wp
 rw [xj,nU,pv,wq]
 refine hn _ _ (yW.rM hh rfl (World.xF hh)) ?_
 rw [World.xF hh,hw]
 exact k
theorem St.J6(G:xh P tt en){b o:Nat}{T:TypeId}{l l' m:List Value}{ti:TI}(ht:tt t=some ti)(hx:ev env x=some (.pointer (some ⟨b,o,none⟩)))(hy:ev env y=some (.agg m.toArray))(nP:ti.size=m.length)(V7:m≠ [])(hv:∀u∈m,u.oneCell'=true)
  (hb:lN h b T l) (hs:qC l o m l') (hc:yN c=true∨yP c=true/\b∈fp) (k:∀h',ej h b T l' h'->h'.size=h.size->N env h'):St P n fp c none (.store t x y) ty env h N :=
 hc.elim (λhc=> .th hc (gA G ht nP V7 hx hy hv hb hs (k _ ⟨hb.lt,rfl⟩ zd)))
  (λhc=> .eI hc.1 (gA G ht nP V7 hx hy hv hb hs ⟨(ej.wm (T:=T) (l:=l') ⟨hb.lt,rfl⟩).mono λb' sA=> .inl (by rw [zH.1 sA];exact hc.2),k _ ⟨hb.lt,rfl⟩ zd⟩))

end
section
variable {γ:Type} [Membership Nat γ] {fp:γ} {γ':Type} [Membership Nat γ'] {Gz:γ'} {h0 h h':y7} {b:Nat} {T:TypeId} {l:List Value}
end

/-! ### Slices of integers -/
structure D (k:Nat) (p:Prop):Prop where
 out:p
theorem wrap_u8{i:Int}(h:0<=i/\i<=255):IntKind.u8.wrap i=i:=by
 simp [IntKind.wrap,IntKind.signed,IntKind.bits];omega
theorem wrap_i64{i:Int}(h: -9223372036854775808<=i/\i<=9223372036854775807):IntKind.i64.wrap i=i:=by
 rw [IntKind.wrap_i64];omega
section
variable {P:Program} {tt:Nat->Option TI} {en:Nat->Bool} {γ:Type} [Membership Nat γ] {fp:γ} {n:Nat} {c:xa} {env:Env} {h:y7} {N:Env->y7->Prop} {d:Tmp} {ty:TypeId} {t u:TypeId} {x y:Operand} {k':IntKind} {i j:Int}
theorem St.A7(hx:ev env x=some (.int k' i))(hy:ev env y=some (.int k' j))(h0:0 < j)(h1:0<=i)(k:N ((d,.int k' (i % j)) :: env) h):St P n fp c (some d) (.binOp .rem t x y u) ty env h N :=
 St.rem hx hy z6 (by rw [Int.tmod_eq_emod_of_nonneg h1];exact k)
theorem IH{i j:Int}(h0:0 < j)(h1:0<=i):0<=i / j/\i / j<=i:=⟨Int.ediv_nonneg h1 z6,Int.ediv_le_self _ h1⟩
theorem St.Ab(hx:ev env x=some (.int .i64 i))(hy:ev env y=some (.int .i64 j))(h0:0 < j)(h1:0<=i/\i<=9223372036854775807)(k:N ((d,.int .i64 (i / j)) :: env) h):St P n fp c (some d) (.binOp .quo t x y u) ty env h N :=
 St.quo hx hy z6 (r:=i / j) (by rw [Int.tdiv_eq_ediv_of_nonneg h1.1];have:=IH h0 h1.1;exact wrap_i64 z6) k
end
section
variable {P:Program} {tt:Nat->Option TI} {en:Nat->Bool} {γ:Type} [Membership Nat γ] {fp:γ} {n:Nat} {c:xa} {env:Env} {h:y7} {N:Env->y7->Prop} {d:Tmp} {ty:TypeId} {t:TypeId} {x y:Operand}
theorem _root_.Go.CF.zf {p:Prop}(h:p:=by decide):p:=h
theorem St.E_(G:xh P tt en){ti te:TI}{e:Nat}{zl:List Value}{m cp:Nat}{k1 k2:IntKind}{mi ci:Int}(ht:tt t=some ti)(hk:ti.kind= .slice e)(oL:tt e=some te)(hz:te.zero.cells.toList=zl)(bC:te.size=zl.length)(hB:Nat.ble te.bytes 100000=true)
  (hx:ev env x=some (.int k1 mi)) (hy:ev env y=some (.int k2 ci)) (Hp:mi=(m:Int)) (Hy:ci=(cp:Int)) (B5:m<=cp) (hb:cp<=1000000000) (hc:yP c=true)
  (k:∀b h',et h b e (uh zl cp) h'->b=h.size->h'.size=h.size+1->N ((d,.slice (some ⟨b,0,none⟩) m cp) :: env) h'):St P n fp c (some d) (.makeSlice t x y) ty env h N :=
 St.makeSlice G ht hk oL hz bC hx hy Hp Hy B5 (Nat.le_trans (Nat.mul_le_mul (zB hB) hb) zf) z6 hc k
end
end Go.CF
