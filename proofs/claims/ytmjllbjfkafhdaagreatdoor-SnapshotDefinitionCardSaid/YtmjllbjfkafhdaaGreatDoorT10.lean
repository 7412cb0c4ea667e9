/- Part 10 of the ground of this proof: what its texts say of the model, the program and the plain data; conditions: those that are named. -/
import Derived.RangeFuncSeq
import Derived.Test.YtmjllbjfkafhdaaGreatDoorT09
namespace Go.CF
open Go

structure Sm (w w':World):Prop where
 os:w'.os=w.os
 tape:w'.tape=w.tape
 output:w'.output=w.output
 drawn:w.drawn<=w'.drawn
 size:w.heap.size<=w'.heap.size
theorem Sm.trans{a b c:World}(h:Sm a b)(k:Sm b c):Sm a c:=⟨k.os.trans h.os,k.tape.trans h.tape,k.output.trans h.output,Nat.le_trans h.drawn k.drawn,Nat.le_trans h.size k.size⟩
theorem yW.sm{w w':World}(h:yW w w'):Sm w w':=⟨h.os,h.tape,h.output,h.drawn,h.size⟩
theorem Sm.put(w:World)(l:Nat)(o:Obj):Sm w (w.putObj l o):=⟨rfl,rfl,rfl,Nat.le_refl _,by simp⟩

structure MA (st:Bool) (P:Program) (gf:FuncId) (lb:List Value) (X:Nat->List Value->Prop) (N:Nat) (C:y7->Prop):Prop where
 run:∀(l:Nat) (J Jx:Nat->y7->Prop) (w:World),(∀i h,J i h->C h)->(∀i h1 h2,J i h1->tc ([]:List Nat) h1 h2->J i h2)->(st=true->∀h,¬J N h)->
  (∀i x w1,X i x->J i w1.heap->Sm w w1->YieldAt Fence.wide 0 P l x.toArray w1 λe w'=>Sm w1 w'/\((e= .returned (.bool true)/\J (i+1) w'.heap)∨(e= .returned (.bool false)/\Jx (i+1) w'.heap)))->
  J 0 w.heap->Calls P gf ((.func (.yield l) #[] #[]) :: lb).toArray w λe w'=>(∃v,e= .returned v)/\Sm w w'/\(J N w'.heap∨∃i,i<=N/\Jx i w'.heap)
def lB:List Tmp->List Value->Env->Env
 | p :: ps,v :: vs,e=>lB ps vs ((p,v) :: e)
 | _,_,e=>e
theorem xf.par{n:Nat}{ds:List Deferred} :∀(ps:List Tmp) (vs:List Value) (e:Env) (t:Array Value),(∀p∈ps,p < n)->xf n e { tmps:=t,defers:=ds }->
  xf n (lB ps vs e) { tmps:=(ps.zip vs).foldl (λt p=>t.setIfInBounds p.1 p.2) t,defers:=ds }
 | [],_,_,_,_,h=>by simpa [lB] using h
 | _ :: _,[],_,_,_,h=>by simpa [lB] using h
 | p :: ps,v :: vs,e,t,hp,h=>by
  simp only [lB,List.zip_cons_cons,List.foldl_cons]
  refine xf.par ps vs _ _ (λq hq=>hp q (by simp [hq])) ?_
  exact h.put (d:=some p) (by simpa [eB] using hp p zd) v

theorem XM{P:Program}{rd:Option Nat}{B:Option Nat}{ds:List Deferred}{w:World}(hB:B.isSome=true)(hr:HK rd w.heap)(hf:Fr B ds w.heap)(fn:FuncId)(tmps:Array Value)(ps:Array Tmp)(assign body:Code) :
  ∃l mark W1 D,(Instr.enterLoop fn tmps ps assign body rd).run P w= .ok (l,mark) W1/\w.heap.size<=l/\W1.heap[l]?=some (.loop { state:= .ready,pending:=none,fn:=fn,tmps:=tmps,params:=ps,assign:=assign,body:=body,defers:=D })/\
   yW w W1/\(∀k,k < w.heap.size->W1.heap[k]?=w.heap[k]?)/\Fr B (mark ++ ds) W1.heap:=by
 cases rd with
 | none =>
  have hs:yW w ((w.alloc (.deferred (some []))).alloc (.loop { state:= .ready,pending:=none,fn,tmps,params:=ps,assign,body,defers:=w.heap.size })):=(yW.sH (w':=w.alloc (.deferred (some []))) rfl).trans (yW.sH rfl)
  have hold:∀k,k < w.heap.size->((w.heap.push (.deferred (some []))).push (.loop { state:= .ready,pending:=none,fn,tmps,params:=ps,assign,body,defers:=w.heap.size }))[k]?=w.heap[k]?:=λk hk=>by
   rw [Array.getElem?_push,if_neg zk,Array.getElem?_push,if_neg z6]
  have hd:((w.heap.push (.deferred (some []))).push (.loop { state:= .ready,pending:=none,fn,tmps,params:=ps,assign,body,defers:=w.heap.size }))[w.heap.size]?=some (.deferred (some [])):=by
   rw [Array.getElem?_push,if_neg zd,Array.getElem?_push,if_pos rfl]
  refine⟨_,_,_,w.heap.size,run_enterLoop_outer fn tmps ps assign body,z6, ?_,hs,hold,⟨λb hb=>Nat.le_trans (hf.le b hb) hs.size, ?_,λd hm=>?_⟩⟩
  ·show((w.heap.push _).push _)[w.heap.size+1]?=_
   rw [Array.getElem?_push,if_pos zd]
  ·refine List.nodup_cons.2 ⟨λhm=>?_,hf.nd⟩
   obtain⟨D,_,h1,_,_,h3⟩:=hf.oK _ hm
   have hD:=(zA.1 h3).1
   simp only [Deferred.mk.injEq,Target.collected.injEq] at h1
   omega
  ·rcases List.mem_cons.1 hm with rfl|hm
   ·obtain⟨b,rfl⟩:=Option.isSome_iff_exists.1 hB
    exact⟨_,b,rfl,rfl,hf.le b rfl,hd⟩
   ·obtain⟨D,b,h1,h0,h2,h3⟩:=hf.oK _ hm
    exact⟨D,b,h1,h0,h2,(hold D (zA.1 h3).1).trans h3⟩
 | some l0 =>
  obtain⟨r,hr⟩:=hr l0 rfl
  have hs:yW w (w.alloc (.loop { state:= .ready,pending:=none,fn,tmps,params:=ps,assign,body,defers:=r.defers })):=yW.sH rfl
  refine⟨w.heap.size,[],w.alloc (.loop { state:= .ready,pending:=none,fn,tmps,params:=ps,assign,body,defers:=r.defers }),r.defers, ?_,Nat.le_refl _,World.alloc_heap_new w _,hs,λk hk=>?_,⟨λb hb=>Nat.le_trans (hf.le b hb) hs.size,hf.nd,λd hm=>?_⟩⟩
  ·unfold Instr.enterLoop
   simp only [Sem.run_bind,run_getLoop hr,run_newObj_alloc,Result.andThen,Sem.run_pure]
  ·show(w.heap.push _)[k]?=_
   rw [Array.getElem?_push,if_neg z6]
  ·obtain⟨D,b,h1,h0,h2,h3⟩:=hf.oK _ hm
   exact⟨D,b,h1,h0,h2,hs.SN D _ h3 rfl⟩

section
variable {P:Program} {n:Nat} {R:Env->y7->Prop} {k:List KI} {env:Env} {h:y7}

def aj(I:y7->Prop)(E:Exit->y7->Prop):Exit->Env->y7->Prop
 | .normal,_,h=>I h
 | x,_,h=>E x h
def Ml(E:Exit->y7->Prop):Code->y7->Prop
 | .ret,h=>E .ret h
 | .exit i,h=>E (.exit i) h
 | .goto i,h=>E (.goto i) h
 | _,_=>False

theorem uu.put{B l:Nat}{w:World}{o o':Obj}(hl:w.heap[l]?=some o)(ho:mU o=true)(hb:B<=l):uu B w.heap (w.putObj l o').heap :=
 ⟨by simp,λk _=>by
  by_cases hk:k=l
  ·subst hk;exact .inr ⟨hb,o,hl,ho⟩
  ·exact .inl (World.putObj_heap_other hk)⟩

theorem CW.rangeFunc{st:Bool}{g:Operand}{ps:Array Tmp}{SO body:Code}{gf:FuncId}{lb:List Value}{X:Nat->List Value->Prop}{N:Nat}{C:y7->Prop}(hg:ev env g=some (.func (.func gf) #[] lb.toArray))(he:∀args w,(callFunc gf args).run P w= .ok (.enter gf args) w)
    (Hu:MA st P gf lb X N C) (Zn:∀i x,X i x->x.length=ps.size) (C_:∀p∈ps.toList,p < n) (I:Nat->y7->Prop) (E:Exit->y7->Prop)
    (hI:∀i h1 h2,uu h.size h1 h2->I i h1->I i h2) (hE:∀x h1 h2,uu h.size h1 h2->E x h1->E x h2) (hC:∀i h',I i h'->C h') (hI2:∀i h1 h2,I i h1->tc ([]:List Nat) h1 h2->I i h2) (yL:st=true->∀h',¬I N h') (h0:I 0 h)
    (Df:∀i x h',X i x->I i h'->CW P n SO (λe fk h1=>e= .normal/\∀h2,uu h.size h1 h2->CW P n body (aj (I (i+1)) E) fk h2) (lB ps.toList x env) h')
    (Dc:∀h',I N h'->PK P n R k .normal env h') (Vk:∀h',E .ret h'->PK P n R k .ret env h') (hex:∀i h',E (.exit i) h'->PK P n R k (.exit i) env h') (vu:∀i h',¬E (.goto i) h') :
    CW P n (.rangeFunc g ps SO body) (PK P n R k) env h:=by
  refine⟨λrd m B a w ha hf hr hw hB=>wpIn_rangeFunc λfn hfn=>?_⟩
  subst hw
  obtain⟨l,mark,W1,D,AU,hl,MV,nP,hold,lM⟩:=XM (P:=P) (hB rfl) hr hf fn a.tmps ps SO body
  have Ax:uu w.heap.size w.heap W1.heap:=⟨nP.size,λk hk=> .inl (hold k hk)⟩
  refine⟨l,mark,W1,{ target:= .fn (.func gf) lb.toArray,args:=#[.func (.yield l) #[] #[]] },W1,gf,((.func (.yield l) #[] #[]) :: lb).toArray,W1,AU, ?_,λ_ _=>trivial, ?_,λh=>(by cases h), ?_⟩
  · simp only [resolve,ha.ev hg]
    simp [go_sem]
  · simp [invoke,go_sem,he]
  · -- what stands through the rounds: the Ii record, and all else that loops yB
    let sP:LoopState->Option Code->Loop:=λst pe=>{ state:=st,pending:=pe,fn:=fn,tmps:=a.tmps,params:=ps,assign:=SO,body:=body,defers:=D }
    let Kp:y7->Prop:=λh'=>W1.heap.size<=h'.size/\∀q o,q≠l->W1.heap[q]?=some o->mU o=true->h'[q]?=some o
    have ZN:∀(W:World) (o:Obj),Kp W.heap->Kp (W.putObj l o).heap:=λW o hk=>⟨by simpa using hk.1,λq o' hq h1 h2=>(World.putObj_heap_other hq).trans (hk.2 q o' hq h1 h2)⟩
    have Un:∀W W':World,yW W W'->Kp W.heap->Kp W'.heap:=λW W' hs hk=>⟨Nat.le_trans hk.1 hs.size,λq o hq h1 h2=>hs.SN q o (hk.2 q o hq h1 h2) h2⟩
    have Vo:∀(W:World),Sm W1 W->Kp W.heap->yW w W/\Fr B (mark ++ a.defers) W.heap:=λW hs hk =>
      ⟨⟨hs.os.trans nP.os,hs.tape.trans nP.tape,hs.output.trans nP.output,Nat.le_trans nP.drawn hs.drawn,Nat.le_trans nP.size hk.1,λq o h1 h2=>hk.2 q o (by have:=(zA.1 h1).1;omega) (nP.SN q o h1 h2) h2⟩,
       ⟨λb hb=>Nat.le_trans (lM.le b hb) hk.1,lM.nd,λd hd=>by
          obtain⟨D',b,h1,h0,h2,h3⟩:=lM.oK d hd
          exact⟨D',b,h1,h0,h2,hk.2 D' _ (λe=>by subst e;rw [MV] at h3;cases h3) h3 rfl⟩⟩⟩
    have ei:xf n env { a with defers:=mark ++ a.defers }:=⟨ha.size,ha.val⟩
    have De:=Hu.run l (λi h'=>h'[l]?=some (.loop (sP .ready none))/\Kp h'/\I i h') (λ_ h'=>∃c,h'[l]?=some (.loop (sP .done (some c)))/\Kp h'/\Ml E c h') W1 (λi h' hj=>hC i h' hj.2.2)
      (λi h1 h2 ⟨j1,j2,j3⟩ hs=>by
        have Rv:∀(k:Nat) (o:Obj),h1[k]?=some o->h2[k]?=some o:=λk o hk=>(hs.same k (zA.1 hk).1 zd).trans hk
        exact⟨Rv _ _ j1,⟨Nat.le_trans j2.1 hs.size,λq o hq g1 g2=>Rv _ _ (j2.2 q o hq g1 g2)⟩,hI2 i h1 h2 j3 hs⟩)
      (λh9 h' hj=>yL h9 h' hj.2.2) ?_
      ⟨MV,⟨Nat.le_refl _,λ_ _ _ h _=>h⟩,hI 0 _ _ Ax h0⟩
    · have h2:CallsIn (wide rd) (m - 1) P gf ((.func (.yield l) #[] #[]) :: lb).toArray W1 _:=(callsIn_wide (n:=m - 1)).2 (De.mono (R':=rangePost (wide rd) m P l (lift n B w (PK P n R k)) { a with defers:=mark ++ a.defers }) ?_)
      · exact h2
      rintro e W2 ⟨⟨v,rfl⟩,bf,(⟨ku,lK,pU⟩|⟨i,hi,c,ku,lK,pU⟩)⟩
      · have gO:uu w.heap.size W2.heap (W2.putObj l (.loop { sP .ready none with state:= .exhausted })).heap:=uu.put ku rfl hl
        obtain⟨g1,g2⟩:=Vo _ (bf.trans (Sm.put W2 l (.loop { sP .ready none with state:= .exhausted }))) (ZN W2 _ lK)
        exact⟨none,_,run_endLoop (P:=P) ku (by simp [sP]),g1,g2,env,ei,Dc _ (hI _ _ _ gO pU)⟩
      · have gO:uu w.heap.size W2.heap (W2.putObj l (.loop { sP .done (some c) with state:= .exhausted })).heap:=uu.put ku rfl hl
        obtain⟨g1,g2⟩:=Vo _ (bf.trans (Sm.put W2 l (.loop { sP .done (some c) with state:= .exhausted }))) (ZN W2 _ lK)
        refine⟨some c,_,run_endLoop (P:=P) ku (by simp [sP]), ?_⟩
        show c.wpIn (wide rd) m P _ _ _
        cases c <;> simp only [Ml] at pU
        case ret=>exact wpIn_ret ⟨g1,g2,env,ei,Vk _ (hE _ _ _ gO pU)⟩
        case exit i=>exact wpIn_exit ⟨g1,g2,env,ei,hex i _ (hE _ _ _ gO pU)⟩
        case goto i=>exact absurd pU (vu i _)
    · -- one round
      rintro i x w1 hx ⟨ku,lK,pU⟩ tV
      have hlen:x.toArray.size=(sP .ready none).params.size:=by simpa [sP] using Zn i x hx
      have z09:xf n (lB ps.toList x env) { tmps:=(ps.zip x.toArray).foldl (λt p=>t.setIfInBounds p.1 p.2) a.tmps,defers:= [] }:=by
        have:=xf.par (ds:= []) ps.toList x env a.tmps C_ ⟨ha.size,ha.val⟩
        have e9:(ps.zip x.toArray).foldl (λt p=>t.setIfInBounds p.1 p.2) a.tmps=(ps.toList.zip x).foldl (λt p=>t.setIfInBounds p.1 p.2) a.tmps:=by cases ps;simp
        rw [e9];exact this
      have AP:∀H:y7,Fr (some 0) [] H:=λH=>⟨λb hb=>by cases hb;exact zZ _,List.nodup_nil,λd hd=>by cases hd⟩
      refine⟨fn,_,SO,body,run_yield (P:=P) ku hlen,roundIn_of_wpIn trivial (wpIn_mono ((Df i x _ hx pU).run (some l) 0 (some 0) _ w1 z09 (AP _) (λl' Gh=>by cases Gh;exact⟨_,ku⟩) rfl λ_=>rfl) λea aa wa WS=>?_)⟩
      have AJ:ea= .normal/\yW w1 wa/\Fr (some 0) aa.defers wa.heap/\∃fk,xf n fk aa/\∀h2,uu w.heap.size wa.heap h2->CW P n body (aj (I (i+1)) E) fk h2:=by
        cases ea <;> simp only [lift] at WS
        case normal=>obtain⟨q1,q2,e1,q3,_,q4⟩:=WS;exact⟨rfl,q1,q2,e1,q3,q4⟩
        all_goals(obtain⟨_,_,_,_,q,_⟩:=WS;cases q)
      obtain⟨rfl,jO,Bf,fk,z08,hbo⟩:=AJ
      have Ru:=jO.SN l _ ku rfl
      have bn:=Un _ _ jO lK
      refine⟨_,run_beginRound Ru rfl, ?_⟩
      have xC:=(zA.1 Ru).1
      have Hr:(wa.putObj l (.loop { sP .ready none with state:= .busy })).heap[l]?=some (.loop { sP .ready none with state:= .busy }):=World.putObj_heap_same xC
      have wq:=(hbo _ (uu.put (o':= .loop { sP .ready none with state:= .busy }) Ru rfl hl)).run (some l) 0 (some 0) aa (wa.putObj l (.loop { sP .ready none with state:= .busy })) z08 ⟨λb hb=>by cases hb;exact zZ _,Bf.nd,λd hd=>by
          obtain⟨D',b,r1,r0,r2,r3⟩:=Bf.oK d hd
          exact⟨D',b,r1,r0,r2,(World.putObj_heap_other (λe=>by subst e;rw [Ru] at r3;cases r3)).trans r3⟩⟩ (λl' Gh=>by cases Gh;exact⟨_,Hr⟩) rfl λ_=>rfl
      refine wpIn_mono wq λe a2 w2 SE=>?_
      have fin:∀(jump:Option Code),yW (wa.putObj l (.loop { sP .ready none with state:= .busy })) w2->
          (Instr.endRound l jump).run P w2= .ok (.bool jump.isNone) (w2.putObj l (.loop (sP (if jump.isNone then .ready else .done) jump)))/\uu w.heap.size w2.heap (w2.putObj l (.loop (sP (if jump.isNone then .ready else .done) jump))).heap/\
          (w2.putObj l (.loop (sP (if jump.isNone then .ready else .done) jump))).heap[l]?=some (.loop (sP (if jump.isNone then .ready else .done) jump))/\Kp (w2.putObj l (.loop (sP (if jump.isNone then .ready else .done) jump))).heap/\
          Sm w1 (w2.putObj l (.loop (sP (if jump.isNone then .ready else .done) jump))):=λjump hs=>by
        have h9:=hs.SN l _ Hr rfl
        exact⟨run_endRound (P:=P) jump h9,uu.put h9 rfl hl,World.putObj_heap_same (zA.1 h9).1,ZN _ _ (Un _ _ hs (ZN _ _ bn)),jO.sm.trans ((Sm.put _ _ _).trans (hs.sm.trans (Sm.put _ _ _)))⟩
      cases e with
      | normal =>
        obtain⟨hs,_,_,_,hq⟩:=SE
        obtain⟨g1,g2,g3,g4,g5⟩:=fin none hs
        exact⟨_,_,g1,g5,.inl ⟨rfl,g3,g4,hI _ _ _ g2 hq⟩⟩
      | ret =>
        obtain⟨hs,_,_,_,hq⟩:=SE
        obtain⟨g1,g2,g3,g4,g5⟩:=fin (some .ret) hs
        exact⟨_,_,g1,g5,.inr ⟨rfl,_,g3,g4,hE _ _ _ g2 hq⟩⟩
      | exit q =>
        obtain⟨hs,_,_,_,hq⟩:=SE
        obtain⟨g1,g2,g3,g4,g5⟩:=fin (some (.exit q)) hs
        exact⟨_,_,g1,g5,.inr ⟨rfl,_,g3,g4,hE _ _ _ g2 hq⟩⟩
      | goto q =>
        obtain⟨hs,_,_,_,hq⟩:=SE
        exact absurd hq (vu q _)
      | panic c=>exact SE.elim
      | outgrown=>exact SE.elim
end

structure ItG (st:Bool) (P:Program) (gf:FuncId) (caps:List AV) (X:Nat->List AV->Prop) (N:Nat):Prop where
 run:∀h G vs,(∀b,G b->b < h.size)->xb h G vs caps->MA st P gf vs (λi y=>∃x,X i x/\xb h G y x) N (λh'=>uo G h h')
def X8:List Tmp->List AV->EA->EA
 | p :: ps,v :: vs,e=>X8 ps vs ((p,v) :: e)
 | _,_,e=>e
theorem dP{h:y7}{G:Nat->Prop} :∀(ps:List Tmp) (vs:List Value) (yM:List AV) (e:EA) (env:Env),xb h G vs yM->(∀t a,xd e t=some a->∃v,look env t=some v/\a.R h G v)->∀t a,xd (X8 ps yM e) t=some a->∃v,look (lB ps vs env) t=some v/\a.R h G v
 | [],_,_,_,_,_,he=>by simpa [X8,lB] using he
 | _ :: _,[],[],_,_,_,he=>by simpa [X8,lB] using he
 | p :: ps,v :: vs,a :: yM,e,env,⟨h1,h2⟩,he=>by
  simp only [X8,lB]
  refine dP ps vs yM _ _ h2 λt b hb=>?_
  rw [vJ] at hb
  rw [uW]
  by_cases hk:p=t
  ·rw [if_pos hk] at hb ⊢;cases hb;exact⟨v,rfl,h1⟩
  ·rw [if_neg hk] at hb ⊢;exact he t b hb
theorem yF.grow{h0:y7}{G0 O0:Nat->Prop}{own:List yh}{h h2:y7}{G:Nat->Prop}{Os:List (Nat->Prop)}(c:yF h0 G0 O0 own h G Os)(s:tc ([]:List Nat) h h2):yF h0 G0 O0 own h2 G Os:=by
 have hx:∀S,uo S h h2:=λS=>⟨s.size,λb _ hb=>s.same b hb zd⟩
 have h1:=c.fp.size
 have h3:=s.size
 refine⟨xy.wm (λO _=>hx _) c.own,λb hb=>⟨by have:=(c.g b hb).1;omega,(c.g b hb).2.imp id λq=>⟨q.1,q.2.eq (s.same b (c.g b hb).1 zd)⟩⟩,c.g0,λO hO b hb=>⟨by have:=(c.o O hO b hb).1;omega,(c.o O hO b hb).2⟩,c.d,⟨z6,λb hb hl=>?_⟩⟩
 rw [s.same b z6 zd]
 exact c.fp.same b hb hl
def DS(h0:y7)(G0 O0:Nat->Prop)(M:Exit->List yh->Prop):Exit->Env->y7->Prop:=λx _ h=>∃own G Os,M x own/\yF h0 G0 O0 own h G Os
section
variable {Γ:Cx} {k:List KI} {e:EA} {o:List yh}
theorem PA.rd{x:Exit}{M:Exit->List yh->Prop}(o':List yh)(hs:lF o o')(hm:M x o'):PA Γ (.rd (DS Γ.h0 Γ.G0 Γ.O0 M) :: k) x e o :=
 ⟨λ_ _ G _ cn=>PK.rd (let ⟨yz,c,_⟩:=cn.hp.sub hs;⟨o',G,yz,hm,c⟩)⟩
theorem PA.brk(Oj:∀b,Γ.G0 b->b < Γ.h0.size)(bH:Γ.fp.n=none)(h:PA Γ k .normal e o):PA Γ (.brk Γ.h0.size :: k) .normal e o :=
 ⟨λenv _hh G Os cn=>PK.brk λh' hs=>h.h env h' G Os ⟨cn.hp.shut Oj hs,λt a ha=>let ⟨v,h1,h2⟩:=cn.env t a ha;⟨v,h1,a.wm (cn.hp.ZF Oj hs) h2⟩,l7.none bH⟩⟩
def CE(J:List yh->Prop)(E:Exit->List yh->Prop):Exit->List yh->Prop
 | .normal,o=>J o
 | x,o=>E x o
theorem CA.Jo{st:Bool}{P:Program}{tt:Nat->Option TI}{en:Nat->Bool}{ok:xh P tt en}{T:Nat->Ord×(Nat->xa)}{n:Nat}{rs:Array ResultVar}{K:AV->List yh->Prop}{h0:y7}{G0 O0:Nat->Prop}{g:Operand}{ps:Array Tmp}{SO body:Code}{gf:FuncId}{caps:List AV}{X:Nat->List AV->Prop}{N:Nat}
  (hg:xr e g=some (.fn gf caps)) (he:en gf=true) (Hu:ItG st P gf caps X N) (Zn:∀i x,X i x->x.length=ps.size) (C_:(ps.toList.all (Nat.blt · n))=true) (J:Nat->List yh->Prop) (E:Exit->List yh->Prop) (yL:st=true->∀o',¬J N o') (hj:J 0 o)
  (hb:∀i x o',X i x->J i o'->∀h0 G0 O0,(∀b,G0 b->b < h0.size)->CA ⟨P,tt,en,ok,T,n,rs,K,h0,G0,O0,⟨none⟩⟩ [.brk h0.size,.code body,.rd (DS h0 G0 O0 (CE (J (i+1)) E))] SO (X8 ps.toList x e) o')
  (hd:∀o',J N o'->PA ⟨P,tt,en,ok,T,n,rs,K,h0,G0,O0,⟨none⟩⟩ k .normal e o') (Vk:∀o',E .ret o'->PA ⟨P,tt,en,ok,T,n,rs,K,h0,G0,O0,⟨none⟩⟩ k .ret e o') (hex:∀i o',E (.exit i) o'->PA ⟨P,tt,en,ok,T,n,rs,K,h0,G0,O0,⟨none⟩⟩ k (.exit i) e o') (vu:∀i o',¬E (.goto i) o') :
  CA ⟨P,tt,en,ok,T,n,rs,K,h0,G0,O0,⟨none⟩⟩ k (.rangeFunc g ps SO body) e o:=by
 refine⟨λenv h G Os cn=>?_⟩
 obtain⟨v,g1,vs,rfl,g2⟩:=cn.get hg
 have AM:=Hu.run h G vs (λb hb=>(cn.hp.g b hb).1) g2
 have hp0:yF h0 G0 O0 (o ++ []) h G (Os ++ []):=by simpa using cn.hp
 have Bw:∀b,G b->b < h.size:=λb hb=>(cn.hp.g b hb).1
 have hGU:∀b,G b->¬U Os b:=λb hb ⟨O,hO,ho⟩=>(cn.hp.o O hO b ho).2.2 hb
 have inn:yF h G (U Os) o h G Os:=hp0.inner cn.hp.own
 have back:∀h' o' G' yz,yF h G (U Os) o' h' G' yz->vM ⟨P,tt,en,ok,T,n,rs,K,h0,G0,O0,⟨none⟩⟩ ⟨e,o'⟩ env h' G' yz:=λh' o' G' yz c'=>by
  obtain⟨k1,k2,k3⟩:=hp0.call (r2:= []) (o2:= []) trivial c'
  refine⟨by simpa using k1,λt a ha=>?_,l7.none rfl⟩
  obtain⟨u,h1,h2⟩:=cn.env t a ha
  exact⟨u,h1,a.mono k3 (a.wm k2 h2)⟩
 refine CW.rangeFunc g1 (λargs w=>ok.Ms gf he args w) AM (λi y ⟨x,hx,hr⟩=>by rw [hr.len];exact Zn i x hx) (λp hp=>by simpa using List.all_eq_true.1 C_ p hp)
  (λi h'=>∃o' G' yz,J i o'/\yF h G (U Os) o' h' G' yz) (λx h'=>∃o' G' yz,E x o'/\yF h G (U Os) o' h' G' yz)
  (λi h1 h2 hs ⟨o',G',yz,a1,a2⟩=>⟨o',G',yz,a1,a2.shut Bw hs⟩) (λi h1 h2 hs ⟨o',G',yz,a1,a2⟩=>⟨o',G',yz,a1,a2.shut Bw hs⟩)
  (λi h' ⟨o',G',yz,a1,a2⟩=>a2.fp.mono hGU) (λi h1 h2 ⟨o',G',yz,a1,a2⟩ hs=>⟨o',G',yz,a1,a2.grow hs⟩) (λh9 h' ⟨o',G',yz,a1,a2⟩=>yL h9 o' a1) ⟨o,G,Os,hj,inn⟩ ?_ ?_ ?_ ?_ ?_
 ·rintro i y h' ⟨x,hx,Ss⟩ ⟨o',G',yz,a1,a2⟩
  have hc:=back h' o' G' yz a2
  have hr:xb h' G' y x:=(Ss.wm (a2.fp.mono hGU)).mono a2.g0
  have yd:yF h G (U Os) o' h' G' yz:=a2
  have YN:∀x' e' h2,PK P n (fm ⟨P,tt,en,ok,T,n,rs,K,h,G,U Os,⟨none⟩⟩) [.rd (DS h G (U Os) (CE (J (i+1)) E))] x' e' h2->aj (λh'=>∃o' G' yz,J (i+1) o'/\yF h G (U Os) o' h' G' yz) (λx h'=>∃o' G' yz,E x o'/\yF h G (U Os) o' h' G' yz) x' e' h2:=λx' e' h2 hq=>by
   have hq:DS h G (U Os) (CE (J (i+1)) E) x' e' h2:=by
    unfold PK at hq;cases x' <;> exact hq
   obtain⟨o2,G2,qi,b1,b2⟩:=hq
   cases x' <;> exact⟨o2,G2,qi,b1,b2⟩
  refine CW.mono (λx' e' h2 hq=>?_) ((hb i x o' hx a1 h G (U Os) Bw).h (lB ps.toList y env) h' G' yz ⟨yd,dP ps.toList y x e env hr hc.env,l7.none rfl⟩)
  unfold PK at hq
  cases x' <;> simp only at hq
  case normal =>
   refine⟨rfl,λh3 hs=>?_⟩
   have:=hq h3 hs
   unfold PK at this
   exact CW.mono YN this
 ·rintro h' ⟨o',G',yz,a1,a2⟩
  exact(hd o' a1).h env h' G' yz (back h' o' G' yz a2)
 ·rintro h' ⟨o',G',yz,a1,a2⟩
  exact(Vk o' a1).h env h' G' yz (back h' o' G' yz a2)
 ·rintro i h' ⟨o',G',yz,a1,a2⟩
  exact(hex i o' a1).h env h' G' yz (back h' o' G' yz a2)
 ·rintro i h' ⟨o',G',yz,a1,a2⟩
  exact vu i o' a1
theorem CA.QH{α:Type}{y:Code}{b i:Nat}{T:TypeId}{cs:List AV}{rest:List yh}(tk:Take o (yr b T cs) rest)(hi:cs[i]?=some (.val (.slice none 0 0)))(T' sz:Nat)(f:α->List AV)
  (h:∀v,CA Γ k y e (yr b T (cs.set i (.ow v)) :: yb v T' sz [] f :: rest)):CA Γ k y e o:=by
 refine⟨λenv hh G Os cn=>?_⟩
 obtain⟨O,yz,yT⟩:=cn.take tk
 have hp:yF Γ.h0 Γ.G0 Γ.O0 (yb (.slice none 0 0) T' sz [] f :: yr b T cs :: rest) hh G ((λ_=>False) :: O :: yz):=yF.Rn yT.hp T' sz f
 obtain⟨h1,⟨ho,vs,hb,hr⟩,h2⟩:=hp.own
 obtain⟨u,hu,CR⟩:=hr.t.get hi
 have CR:u= .slice none 0 0:=CR
 subst CR
 have pC:vs.set i (.slice none 0 0)=vs:=by
  apply List.ext_getElem?
  intro j
  rw [List.getElem?_set]
  by_cases u5:i=j
  ·subst u5;rw [if_pos rfl,if_pos (zS.1 hu).1,hu]
  ·rw [if_neg u5]
 have bj:=hr.t.set i (v:= .slice none 0 0) (a:= .ow (.slice none 0 0)) ⟨rfl,none,0,0,rfl⟩
 rw [pC] at bj
 have kr:yF Γ.h0 Γ.G0 Γ.O0 (yr b T (cs.set i (.ow (.slice none 0 0))) :: yb (.slice none 0 0) T' sz [] f :: rest) hh G (O :: (λ_=>False) :: yz):=hp.perm ⟨⟨ho,vs,hb,bj,hr.one⟩,h1,h2⟩ (List.Perm.swap _ _ _)
 exact(h (.slice none 0 0)).h env hh G _ ⟨kr,cn.env,cn.nf⟩
end
end Go.CF
set_option maxRecDepth 100000
set_option maxHeartbeats 80000000
namespace Go.CF
open Go
def yl(n:Nat)(Q:Exit->Env->World->Prop):Exit->Act->World->Prop
 | .panic _,_,_=>False
 | .outgrown,_,_=>False
 | .normal,a,w=>a.defers= []/\∃env,xf n env a/\Q .normal env w
 | .ret,a,w=>a.defers= []/\∃env,xf n env a/\Q .ret env w
 | .exit i,a,w=>a.defers= []/\∃env,xf n env a/\Q (.exit i) env w
 | .goto i,a,w=>a.defers= []/\∃env,xf n env a/\Q (.goto i) env w
structure YC (P:Program) (n:Nat) (c:Code) (Q:Exit->Env->World->Prop) (env:Env) (w:World):Prop where
 run:∀a,xf n env a->a.defers= []->c.wpIn (wide none) 0 P (yl n Q) a w
structure YO (P:Program) (n:Nat) (ops:Array Oper) (Q:Exit->Env->World->Prop) (l:List Oper) (env:Env) (w:World):Prop where
 run:∀a,xf n env a->a.defers= []->wpListIn (wide none) 0 P ops (yl n Q) l a w
def DO(K:Env->World->Prop)(Q:Exit->Env->World->Prop):Exit->Env->World->Prop
 | .normal,e,w=>K e w
 | x,e,w=>Q x e w
def FD(id:Nat)(Q:Exit->Env->World->Prop):Exit->Env->World->Prop
 | .exit i,e,w=>if i=id then Q .normal e w else Q (.exit i) e w
 | x,e,w=>Q x e w
section
variable {P:Program} {n:Nat} {Q:Exit->Env->World->Prop} {env:Env} {w:World} {ops:Array Oper} {l:List Oper}
theorem YC.seq{x y:Code}(hx:YC P n x (DO (λe w=>YC P n y Q e w) Q) env w):YC P n (.seq x y) Q env w:=by
 refine⟨λa ha hd=>wpIn_seq (wpIn_mono (hx.run a ha hd) λe a1 w1 hl=>?_)⟩
 cases e <;> simp only [yl,DO,Exit.then] at hl ⊢
 case normal=>obtain⟨h1,e1,h2,h3⟩:=hl;exact h3.run a1 h2 h1
 all_goals exact hl
theorem YC.ret(hk:Q .ret env w):YC P n .ret Q env w:=⟨λ_ ha hd=>wpIn_ret ⟨hd,env,ha,hk⟩⟩
theorem YC.cond{c:Operand}{x y:Code}{b:Bool}(hc:ev env c=some (.bool b))(hx:b=true->YC P n x Q env w)(hy:b=false->YC P n y Q env w):YC P n (.cond c x y) Q env w :=
 ⟨λa ha hd=>wpIn_cond_split (ha.ev hc) (λhb=>(hx hb).run a ha hd) (λhb=>(hy hb).run a ha hd)⟩
theorem YC.block{id:Nat}{c:Code}(hc:YC P n c (FD id Q) env w):YC P n (.block id c) Q env w:=by
 refine⟨λa ha hd=>wpIn_block (wpIn_mono (hc.run a ha hd) λe a1 w1 hl=>?_)⟩
 cases e <;> simp only [yl,FD,Exit.inBlock] at hl ⊢
 case exit i =>
  obtain⟨h1,e1,h2,h3⟩:=hl
  split
  ·rename_i hi;rw [if_pos hi] at h3;exact⟨h1,e1,h2,h3⟩
  ·rename_i hi;rw [if_neg hi] at h3;exact⟨h1,e1,h2,h3⟩
 all_goals exact hl
theorem YC.loop{c:Code}(I:Nat->Env->World->Prop)(m0:Nat)(h0:I m0 env w)(round:∀m e w,I m e w->YC P n c (DO (λe' w'=>∃m',m' < m/\I m' e' w') Q) e w):YC P n (.loop c) Q env w:=by
 refine⟨λa0 Gs Bm b kk cs PV hb hr=>?_⟩
 have key:∀m e a w,I m e w->xf n e a->a.defers= []->
   ∃e a' w',yl n Q e a' w'/\ArrivesIn (Machine.fenced P (wide none)) P (lone (b.atR a (.code c :: .inLoop c :: kk)) cs w) b kk cs e a' w':=by
  intro m
  induction m using Nat.strongRecOn with
  | _ m ih =>
   intro e a w hI ei SJ
   obtain⟨x,a1,w1,hq,nZ⟩:=(round m e w hI).run a ei SJ b (.inLoop c :: kk) cs PV hb hr
   cases x with
   | normal =>
    simp only [yl,DO] at hq
    obtain⟨Og,e1,Lr,m',xC,Bv⟩:=hq
    obtain⟨e2,a2,w2,lJ,VQ⟩:=ih m' xC e1 a1 w1 Bv Lr Og
    exact⟨e2,a2,w2,lJ,.of_steps (StepsIn.trans nZ (.one (fenced_calm hb hr rfl) stepR_inLoop)) VQ⟩
   | exit id=>exact⟨(.exit id),a1,w1,(show yl n Q (.exit id) a1 w1 from hq),.pass (x:= .inLoop c) rfl (λ_ _=> .inl zd) nZ⟩
   | goto l=>exact⟨(.goto l),a1,w1,(show yl n Q (.goto l) a1 w1 from hq),.pass (x:= .inLoop c) rfl (λ_ _=> .inl zd) nZ⟩
   | ret=>exact⟨.ret,a1,w1,(show yl n Q .ret a1 w1 from hq),.pass (x:= .inLoop c) rfl (λ_ _=> .inl zd) nZ⟩
   | panic ch=>exact hq.elim
   | outgrown=>exact hq.elim
 obtain⟨e,a',w',hq,nZ⟩:=key m0 env a0 w h0 Gs Bm
 exact⟨e,a',w',hq,.of_steps (.one (fenced_calm hb hr rfl) stepR_loop) nZ⟩
theorem YC.region{id:Nat}(hr:YO P n l.toArray Q l env w):YC P n (.region id l.toArray false) Q env w:=⟨λa ha hd=>wpIn_region_lit (hr.run a ha hd)⟩
theorem YO.nil(hq:Q .normal env w):YO P n ops Q [] env w:=⟨λ_ ha hd=>⟨hd,env,ha,hq⟩⟩
theorem YO.step{o:Oper}(hg:o.guard=none)(hd:eB n o.dst=true)(hn:∀c,o.op≠ .defer c)(hs:St P n ([]:List Nat) .read o.dst o.op o.type env w.heap (λe _=>YO P n ops Q l e w)):YO P n ops Q (o :: l) env w:=by
 obtain⟨v,h1,h2⟩:=hs.rd rfl
 refine⟨λa ha SJ=>wpListIn_plain hg λK hK=>⟨λ_ _=>trivial, ?_⟩⟩
 rw [Oper.semAt_eq _ _ _ hn,xj,h1 a w ha (tc.refl _)]
 exact hK _ _ (h2.run _ (ha.put hd v) (by rw [lV];exact SJ))
theorem YO.yield{o:Oper}{lp:Nat}{x:Operand}{args:Array Operand}{at':Array TypeId}{vs:List Value}(ho:o.op= .call { callee:= .value x,args:=args,argTypes:=at' })(hg:o.guard=none)(hd:eB n o.dst=true)(hx:ev env x=some (.func (.yield lp) #[] #[]))(hv:vm env args.toList=some vs)
  (hy:YieldAt Fence.wide 0 P lp vs.toArray w λe w'=>∃v,e= .returned v/\YO P n ops Q l (rG env o.dst v) w'):YO P n ops Q (o :: l) env w:=by
 obtain⟨fn,tmps,assign,body,wq,Iy⟩:=hy
 refine⟨λa ha SJ=>wpListIn_plain hg λK hK=>⟨λ_ _=>trivial, ?_⟩⟩
 have ZM:args.map a.eval=vs.toArray:=by
  apply Array.ext'
  rw [Array.toList_map]
  exact ha.vm hv
 have h2:(execOp a.eval (yI o.op o.type)).run P w= .ok (.round lp fn tmps assign body) w:=by
  rw [ho]
  simp [yI,execOp,resolve,invoke,ha.ev hx,ZM,wq,Deferred.ofValue]
 rw [Oper.semAt_eq _ _ _ (λc h=>by rw [ho] at h;cases h),xj,h2]
 refine⟨λh=>(by cases h),RoundIn.mono (show RoundIn (wide none) (0 - 1) P lp fn tmps assign body w _ from Iy) λe w' ⟨v,he,hk⟩=>?_⟩
 subst he
 exact hK _ _ (hk.run _ (ha.put hd v) (by rw [lV];exact SJ))
theorem YC.calls{f:FuncId}{fn:Func}{c:Code}{vs:List Value}{R:World->Prop}(hf:P.funcs[f]?=some fn)(hb:fn.body=some c)(hn:fn.ntmps=n)(hr:fn.results=#[])(hl:Nat.ble vs.length n=true)
  (hc:YC P n c (λe _ w'=>(e= .normal∨e= .ret)/\R w') (kL 0 vs) w):Calls P f vs.toArray w λe w'=>(∃v,e= .returned v)/\R w':=by
 refine calls_of_wp hf hb ((wpIn_wide (n:=0)).1 (wpIn_mono (hc.run _ ⟨?_,λt v hv=>?_⟩ rfl) λe a w1 hl=>?_))
 ·have:=zB hl
  simp only [Array.size_append,List.size_toArray,Array.size_replicate,hn]
  omega
 ·obtain⟨_,h2⟩:=mz vs 0 t v hv
  have xC:t < vs.length:=by
   have:=(zS.1 h2).1
   omega
  rw [Array.getElem?_append_left (by simpa using xC)]
  simpa using h2
 ·cases e <;> simp only [yl] at hl <;> simp only [bodyPost]
  case normal=>obtain⟨hd,env,ha,_,hq⟩:=hl;exact⟨hd,_,results_none hr _ _ _,⟨_,rfl⟩,hq⟩
  case ret=>obtain⟨hd,env,ha,_,hq⟩:=hl;exact⟨hd,_,results_none hr _ _ _,⟨_,rfl⟩,hq⟩
  case exit=>obtain⟨_,_,_,h,_⟩:=hl;rcases h with h|h <;> cases h
  case goto=>obtain⟨_,_,_,h,_⟩:=hl;rcases h with h|h <;> cases h
theorem YC.bP{Γ:Cx}{c:Code}{e:EA}{o:List yh}{env:Env}{w:World}{G:Nat->Prop}{Os:List (Nat->Prop)}{Q:Exit->Env->World->Prop}{α:Type}(st:α->AS)(J:α->Prop)(hr:WL c=false)(hK:Γ.K=λ_ _=>False)
  (hc:CA Γ [.lp (HS Γ st J)] c e o) (cn:vM Γ ⟨e,o⟩ env w.heap G Os) (hk:∀x rH w' G' yz,J x->yW w w'->vM Γ (st x) rH w'.heap G' yz->Q .normal rH w'):YC Γ.P Γ.n c Q env w:=by
 refine⟨λa ha hd=>wpIn_mono ((hc.h env w.heap G Os cn).run none 0 none a w ha ⟨λb hb=>(by cases hb),by rw [hd];exact List.nodup_nil,λd hm=>(by rw [hd] at hm;cases hm)⟩ (λl hl=>by cases hl) rfl λh=>(by rw [hr] at h;cases h)) λx a' w' hl=>?_⟩
 have Vk:∀e h,¬PK Γ.P Γ.n (fm Γ) [.lp (HS Γ st J)] .ret e h:=λe h hp=>by
  unfold PK at hp;unfold PK at hp
  obtain⟨v,r,wE,G',yz,-,h1,-⟩:=hp
  rw [hK] at h1;exact h1
 cases x <;> simp only [lift,yl] at hl ⊢
 case normal =>
  obtain⟨hs,hf,e1,ei,hp⟩:=hl
  unfold PK at hp
  obtain⟨p,qm,⟨G',yz,cn'⟩,hj⟩:=hp
  exact⟨hf.nil,p.2,ei.sub qm,hk p.1 p.2 w' G' yz hj hs cn'⟩
 case ret=>obtain⟨_,_,e1,_,hp⟩:=hl;exact(Vk _ _ hp).elim
 case exit=>obtain⟨_,_,e1,_,hp⟩:=hl;unfold PK at hp;unfold PK at hp;exact hp.elim
 case goto=>obtain⟨_,_,e1,_,hp⟩:=hl;unfold PK at hp;unfold PK at hp;exact hp.elim
theorem YO.pass{o:Oper}(hg:gd ops env o false)(hd:eB n o.dst=true)(hs:YO P n ops Q l (rG env o.dst undef) w):YO P n ops Q (o :: l) env w:=by
 refine⟨λa ha SJ=>?_⟩
 unfold wpListIn
 rw [if_neg (by rw [hg n a ha];exact Bool.false_ne_true)]
 exact⟨λ_ _=>trivial,hs.run _ (ha.put hd undef) (by rw [lV];exact SJ)⟩
end
end Go.CF
namespace Go.Proofs.YtmjllbjfkafhdaaGreatDoor
open Go Go.CF
structure Xm (s:ByteArray) (k:Int) (j n:Nat):Prop where
 sk:sy s 0 j
 nm:k=1↔(j < s.size/\yH (yf s j)/\¬kR cZ (s.extract j (j+n)))
 w:j < s.size->yH (yf s j)->j+n<=s.size/\ob s j (j+n)/\(j+n < s.size->¬isWord (yf s (j+n)))
theorem sy.le'{s:ByteArray}{j:Nat}(h:sy s 0 j):j<=s.size:=(h.le (zZ _)).2.1
def Zi(k:Int)(j e:Int):List AV:= [it k,it 0,it j,it e]
abbrev yv (lp:Nat):AV:= .val (.func (.yield lp) #[] #[])
theorem LI(s:ByteArray)(hs:s.size<=4096):ItG true Tryz.prog 281 [.ad [sv s] 0,.ad [.rs cZ] 0] (λi x=>i=0/\∃(k:Int) (j n:Nat),x= [.agg (Zi k j ((j:Int)+n))]/\Xm s k j n) 1:=by
 obtain⟨j,hj⟩:=sy.ex s _ 0 rfl
 have lL:=hj.le'
 have SC:y6 Tryz.prog 282 [sv (s.extract 0 s.size)] (it j):=by rw [sK];exact Qa z6 hj
 have DZ:=ub s j
 have D8:en 285=true:=rfl
 have AX:en 286=true:=rfl
 have SZ:∀(k:Int) (n:Nat),(j < s.size->yH (yf s j)->False)->k≠1->Xm s k j n:=λk n h1 h2=>⟨hj,⟨λh=>absurd h h2,λh=>(h1 h.1 h.2.1).elim⟩,λh3 h4=>(h1 h3 h4).elim⟩
 obtain⟨L,hL⟩:∃L,L=cZ:=⟨_,rfl⟩
 have hkw:∀(q:ByteArray),kR cZ q↔q∈L:=λq=>by rw [hL];exact Tt
 rw [<-hL]
 refine⟨λh G vs hg hr=>?_⟩
 match vs,hr with
 | [v1,v2],⟨r1,r2,_⟩ =>
 refine⟨λlp J Jq w hC hgr yL hY hJ=>?_⟩
 have bH:=hC 0 _ hJ
 refine YC.calls (vs:= [.func (.yield lp) #[] #[],v1,v2]) (R:=λw'=>Sm w w'/\(J 1 w'.heap∨∃i,i<=1/\Jq i w'.heap)) Tryz.func281 rfl Tryz.ntmps281 Tryz.results281 rfl ?_
 obtain⟨Γ,hΓ⟩:∃Γ:Cx,Γ=⟨Tryz.prog,tt,en,pg,U8,93,#[],λ_ _=>False,w.heap,G,λ_=>False,⟨none⟩⟩:=⟨_,rfl⟩
 have cn0:vM ⟨Tryz.prog,tt,en,pg,U8,93,#[],λ_ _=>False,w.heap,G,λ_=>False,⟨none⟩⟩ ⟨bZ 0 [yv lp,.ad [sv s] 0,.ad [.rs L] 0],[]⟩ (kL 0 [.func (.yield lp) #[] #[],v1,v2]) w.heap G [] :=
  ⟨⟨trivial,λb hb=>⟨Nat.lt_of_lt_of_le (hg b hb) bH.size,.inl hb⟩,λ_ h=>h,λO hO=>(by cases hO),List.Pairwise.nil,uo.refl _⟩,pj _ _ 0 ⟨rfl,AV.wm _ bH r1,AV.wm _ bH r2,trivial⟩,l7.none rfl⟩
 refine YC.seq (YC.bP (α:=Unit) (λ_=>⟨[(0,yv lp),(1,.ad [sv s] 0),(2,.ad [.rs L] 0),(4,it (0:Nat))],[]⟩) (λ_=>True) rfl rfl ?_ cn0 ?_)
 ·repeat'(first|apply Sp.h|refine Lk.r rfl ?_|refine Rf.mk rfl ?_|fail)
  exact PA.lp () xE trivial
 rintro _ fk w1 G1 Os1 _ nP cn1
 refine YC.block (YC.loop (λ_ e w'=>e=fk/\w'=w1) 0 ⟨rfl,rfl⟩ ?_)
 rintro m e w' ⟨rfl,rfl⟩
 -- region 1: the token z0C
 refine YC.block (YC.seq (YC.bP (α:=Nat) (λb=>⟨[(0,yv lp),(1,.ad [sv s] 0),(2,.ad [.rs L] 0),(5,pm b)],[yr b 272 (Zi 0 j 0)]⟩) (λ_=>True) rfl rfl ?_ cn1 ?_))
 ·repeat'(first|apply Sp.h|refine Lk.r rfl ?_|refine Rf.mk rfl ?_|refine yc.mk λ_=>?_|refine xT ?_|(apply y4.r;focus repeat' constructor)|(apply Fk.r;focus repeat' first|infer_instance|constructor)|refine xN ?_|(apply Jx.r;{exact zj};{exact zb})|refine xO ?_|(apply Cl.p (SC);focus repeat' constructor))
  rw [show((0:Nat):Int)+(j:Int)=(j:Int) by omega]
  rename_i b
  exact PA.lp b xE trivial
 rintro b z4z w2 G2 qi _ bf yT
 refine YC.seq (YC.bP (α:=Unit) (λ_=>⟨[(0,yv lp),(1,.ad [sv s] 0),(2,.ad [.rs L] 0),(5,pm b),(6,sv (s.extract j s.size))],[yr b 272 (Zi 0 j 0)]⟩) (λ_=>True) rfl rfl ?_ yT ?_)
 ·unfold Zi
  repeat'(first|apply Sp.h|refine Lk.r rfl ?_|refine Rf.mk rfl ?_|refine xT ?_|(apply Jx.r;{exact zj};{exact zb})|fail)
  exact PA.lp () xE trivial
 rintro _ z4y w3 G3 L6 _ hs3 On
 refine YC.seq (YC.bP (α:=Unit) (λ_=>⟨[(0,yv lp),(2,.ad [.rs L] 0),(5,pm b),(6,sv (s.extract j s.size)),(7,it (0:Nat))],[yr b 272 (Zi 0 j 0)]⟩) (λ_=>True) rfl rfl ?_ On ?_)
 ·repeat'(first|apply Sp.h|refine Lk.r rfl ?_|refine Rf.mk rfl ?_|fail)
  exact PA.lp () xE trivial
 rintro _ z4x w4 G4 Os4 _ hs4 cn4
 -- the kind of the token, and its length
 refine YC.seq (YC.bP (α:=Int×Nat) (λx=>⟨[(0,yv lp),(5,pm b),(7,it x.2)],[yr b 272 (Zi x.1 j 0)]⟩) (λx=>Xm s x.1 j x.2/\x.2<=4096) rfl rfl ?_ cn4 ?_)
 ·clear hY hC hgr yL cn0 cn1 yT On cn4
  have Hh:∀i,j+i < s.size->yf (s.extract j s.size) i=yf s (j+i):=λi hi=>se s j s.size i (Nat.le_refl _) hi
  have hue:∀n,j+n<=s.size->(s.extract j s.size).extract 0 n=s.extract j (j+n):=λn hn=>by rw [P8 s j s.size 0 n hn,Nat.add_zero]
  have Oe:=mH (s.extract j s.size)
  generalize s.extract j s.size=u at DZ Hh hue Oe ⊢
  have PU:u.size<=1000000000:=z6
  unfold Zi
  by_cases hz:u.size=0
  ·have HW:=Oe.2 hz
   repeat'(first|apply Sp.h|refine Lk.r rfl ?_|refine Rf.mk rfl ?_|refine xA ?_|fail)
   exact PA.lp ((0:Int),(0:Nat)) xE ⟨SZ 0 0 (λh=>z6) z6,by simp only;omega⟩
  have HW:¬u.toList=(⟨#[]⟩:ByteArray).toList:=λh=>hz (Oe.1 h)
  have qg:=Hh 0 z6
  rw [Nat.add_zero] at qg
  by_cases hl:yH (yf u 0)
  ·obtain⟨n,hn⟩:=ab.ex isWord u
   have wq:=VB D8 Ju PU hn
   have Zo:=hn.le
   have hw:j+n<=s.size/\ob s j (j+n)/\(j+n < s.size->¬isWord (yf s (j+n))):=by
    refine⟨z6,λi h1 h2=>?_,λh=>?_⟩
    ·have:=hn.a (i - j) z6
     rw [Hh _ z6] at this
     rwa [show i=j+(i - j) by omega]
    ·have:=hn.b z6
     rwa [Hh _ z6] at this
   have hx:=hue n hw.1
   have bm:yH (yf s j):=by rw [<-qg];exact hl
   repeat'(first|apply Sp.h|refine Lk.r rfl ?_|refine Rf.mk rfl ?_|refine xA ?_|refine xB ?_|(refine Bd.mk ?_ ?_ <;> intro _)|refine yu.r rfl ?_|refine xT ?_|refine xV ?_|(apply Jx.r;{exact zj};{exact zb})|refine xD ?_|(apply Sx.r;{exact zj};{exact zc})|(apply Cl.p (vQ _);focus repeat' constructor)|(apply Cl.p (wq);focus repeat' constructor))
   all_goals rename_i hm
   ·rw [hx] at hm
    exact PA.lp ((2:Int),n) xE ⟨⟨hj,⟨λh=>z6,λh=>(h.2.2 ((hkw _).2 hm)).elim⟩,λ_ _=>hw⟩,by simp only;omega⟩
   ·rw [hx] at hm
    exact PA.lp ((1:Int),n) xE ⟨⟨hj,⟨λ_=>⟨z6,bm,λh=>hm ((hkw _).1 h)⟩,λ_=>rfl⟩,λ_ _=>hw⟩,by simp only;omega⟩
  have Zo:∀(k:Int) (n:Nat),k≠1->Xm s k j n:=λk n hk=>SZ k n (λ_ h=>hl (by rw [qg];exact h)) hk
  by_cases hd:isDigit (yf u 0)
  ·obtain⟨n,hn⟩:=ab.ex isDigit u
   have wq:=VB AX uD PU hn
   have:=hn.le
   repeat'(first|apply Sp.h|refine Lk.r rfl ?_|refine Rf.mk rfl ?_|refine xA ?_|refine xB ?_|refine xT ?_|refine xV ?_|(apply Sx.r;{exact zj};{exact zc})|(apply Cl.p (vQ _);focus(repeat' constructor);done)|(apply Cl.p (uD _);focus(repeat' constructor);done)|(apply Cl.p (wq);focus(repeat' constructor);done))
   exact PA.lp ((3:Int),n) xE ⟨Zo _ _ z6,by simp only;omega⟩
  repeat'(first|apply Sp.h|refine Lk.r rfl ?_|refine Rf.mk rfl ?_|refine xB ?_|(apply Sx.r;{exact zj};{exact zc})|(apply Cl.p (vQ _);focus repeat' constructor)|(apply Cl.p (uD _);focus repeat' constructor))
  refine xW (mr u PU) ?_
  rintro _ _ ⟨n1,rfl,rfl,C4⟩
  by_cases hp:0 < n1
  ·repeat'(first|apply Sp.h|refine Lk.r rfl ?_|refine Rf.mk rfl ?_|refine xA ?_|fail)
   refine xW (mr u PU) ?_
   rintro _ _ ⟨n2,rfl,rfl,B3⟩
   repeat'(first|apply Sp.h|refine Lk.r rfl ?_|refine Rf.mk rfl ?_|refine xT ?_|refine xV ?_|fail)
   exact PA.lp ((4:Int),n2) xE ⟨Zo _ _ z6,by simp only;omega⟩
  repeat'(first|apply Sp.h|refine Lk.r rfl ?_|refine Rf.mk rfl ?_|refine xB ?_|refine xT ?_|refine xV ?_|fail)
  refine CA.loop (λn:Nat=>⟨[(0,yv lp),(5,pm b),(6,sv u),(7,it n)],[yr b 272 (Zi 5 j 0)]⟩) (λn=>1<=n/\n<=u.size) (λn=>u.size - n) 1 xE ⟨Nat.le_refl _,z6⟩ ?_
  rintro n ⟨C4,B3⟩
  by_cases yd:n < u.size
  ·have hbg:=WA (u.extract n u.size) (by rw [ub];omega) (by rw [ub];omega)
   repeat'(first|apply Sp.h|refine Lk.r rfl ?_|refine Rf.mk rfl ?_|refine xA ?_|refine xB ?_|(refine Bd.mk ?_ ?_ <;> intro _)|(apply Jx.r;{exact zj};{exact zb})|(apply Sx.r;{exact zj};{exact zc})|(apply Cl.p (re _);focus repeat' constructor))
   all_goals try exact PA.lp ((5:Int),n) xE ⟨Zo _ _ z6,by simp only;omega⟩
   refine xW (hbg) ?_
   rintro _ _ ⟨bb,rfl,rfl⟩
   cases bb
   ·repeat'(first|apply Sp.h|refine Lk.r rfl ?_|refine Rf.mk rfl ?_|refine xB ?_|refine xO ?_|fail)
    exact PA.lp (n+1) xE ⟨⟨z6,yd⟩,z6⟩
   ·repeat'(first|apply Sp.h|refine Lk.r rfl ?_|refine xA ?_|refine xB ?_|fail)
    exact PA.lp ((5:Int),n) xE ⟨Zo _ _ z6,by simp only;omega⟩
  ·repeat'(first|apply Sp.h|refine Lk.r rfl ?_|refine Rf.mk rfl ?_|refine xB ?_|(apply Cl.p (re _);(focus repeat'(first|fail))))
   exact PA.lp ((5:Int),n) xE ⟨Zo _ _ z6,by simp only;omega⟩
 rintro⟨k,n⟩ z4w w5 G5 Os5 ⟨hT,hn9⟩ hs5 cn5
 simp only at hT hn9 cn5
 refine YC.seq (YC.bP (α:=Unit) (λ_=>⟨[(0,yv lp),(5,pm b)],[yr b 272 (Zi k j ((j:Int)+n))]⟩) (λ_=>True) rfl rfl ?_ cn5 ?_)
 ·unfold Zi
  repeat'(first|apply Sp.h|refine Lk.r rfl ?_|refine Rf.mk rfl ?_|refine xT ?_|refine xV ?_|refine xO ?_|fail)
  exact PA.lp () xE trivial
 rintro _ z4v w6 G6 Os6 _ hs6 cn6
 refine YC.seq (YC.bP (α:=Unit) (λ_=>⟨[(0,yv lp),(5,pm b)],[yr b 272 (Zi k j ((j:Int)+n))]⟩) (λ_=>True) rfl rfl ?_ cn6 ?_)
 ·unfold Zi
  repeat'(first|apply Sp.h|refine Lk.r rfl ?_|refine Rf.mk rfl ?_|refine xT ?_|fail)
  exact PA.lp () xE trivial
 rintro _ z4u w7 G7 Os7 _ hs7 GC
 -- the Ii body is called
 have tV:Sm w w7:=(nP.trans (bf.trans (hs3.trans (hs4.trans (hs5.trans (hs6.trans hs7)))))).sm
 have Au:tc ([]:List Nat) w.heap w7.heap:=⟨GC.hp.fp.size,λb hb _=>GC.hp.fp.same b (λh=>h) hb⟩
 obtain⟨y0,k0,rfl⟩:=GC.env 0 _ rfl
 obtain⟨y5,k5,rfl⟩:=GC.env 5 _ rfl
 obtain⟨O,Os8,cn8⟩:=GC.take .here
 obtain⟨⟨_,cs,hb,bg⟩,_⟩:=cn8.hp.own
 have rY:cs= [.int .i64 k,.int .i64 0,.int .i64 j,.int .i64 ((j:Int)+n)]:=nA (r:= [.int .i64 k,.int .i64 0,.int .i64 j,.int .i64 ((j:Int)+n)]) bg.t
 subst rY
 have Rq:xb h G [.agg [Value.int .i64 k,.int .i64 0,.int .i64 j,.int .i64 ((j:Int)+n)].toArray] [.agg (Zi k j ((j:Int)+n))]:=⟨⟨_,rfl,⟨pd [Value.int .i64 k,.int .i64 0,.int .i64 j,.int .i64 ((j:Int)+n)],λu hu=>by simp at hu;rcases hu with rfl|rfl|rfl|rfl <;> rfl⟩⟩,trivial⟩
 refine YC.seq (YC.region ?_)
 refine YO.step rfl rfl (by intro c h;cases h) (St.move k0 ?_)
 refine YO.step rfl rfl (by intro c h;cases h) (St.Mf pg (ti:=VA) rfl rfl k5 hb.z1r zd rfl rfl ?_)
 refine YO.yield rfl rfl rfl rfl rfl ?_
 obtain⟨fn,tm,SO,bd,y1,y2⟩:=hY 0 _ w7 ⟨_,⟨rfl,k,j,n,rfl,hT⟩,Rq⟩ (hgr 0 _ _ hJ Au) tV
 refine⟨fn,tm,SO,bd,y1,y2.mono λe' WJ ⟨q1,q2⟩=>?_⟩
 rcases q2 with⟨rfl,q2⟩|⟨rfl,q2⟩
 ·exact(yL rfl _ q2).elim
 refine⟨_,rfl, ?_⟩
 refine YO.step rfl rfl (by intro c h;cases h) (St.not rfl ?_)
 refine YO.step rfl rfl (by intro c h;cases h) (St.move rfl ?_)
 refine YO.pass (show gd _ _ _ (true == false) from na (b:=true) (want:=false) rfl rfl rfl) rfl ?_
 refine YO.pass (show gd _ _ _ (true == false) from na (b:=true) (want:=false) rfl rfl rfl) rfl ?_
 refine YO.pass (show gd _ _ _ (true == false) from na (b:=true) (want:=false) rfl rfl rfl) rfl ?_
 refine YO.step rfl rfl (by intro c h;cases h) (St.gl rfl rfl rfl ?_)
 refine YO.nil ?_
 refine YC.cond (b:=true) rfl (λ_=>YC.ret ?_) (λhb=>by cases hb)
 exact⟨.inr rfl,tV.trans q1,.inr ⟨1,Nat.le_refl _,q2⟩⟩
theorem XA{s:ByteArray}{k:Int}{n:Nat}(hT:Xm s k 0 n)(hn:n=s.size):k=1↔Rh s:=by
 have hx:s.extract 0 (0+n)=s:=by rw [Nat.zero_add,hn,sK]
 constructor
 ·intro h
  obtain⟨h1,h2,h3⟩:=hT.nm.1 h
  rw [hx] at h3
  obtain⟨-,h4,-⟩:=hT.w h1 h2
  rw [Nat.zero_add,hn] at h4
  exact⟨h1,h2,h4,h3⟩
 ·rintro⟨h1,h2,h3,h4⟩
  exact hT.nm.2 ⟨h1,h2,by rw [hx];exact h4⟩
theorem UM{s:ByteArray}{k:Int}{j n:Nat}(hT:Xm s k j n)(hn:¬(j=0/\j+n=s.size)) :¬Rh s:=by
 rintro⟨h1,h2,h3,h4⟩
 have hj:=hT.sk.fst h2
 subst hj
 obtain⟨w1,w2,w3⟩:=hT.w h1 h2
 by_cases xC:0+n < s.size
 ·exact w3 xC (h3 _ (zZ _) xC)
 ·exact hn ⟨rfl,z6⟩
theorem QT(s:ByteArray):yJ Tryz.prog 220 [sv s] [] λr own=>∃k:Int,r=it k/\own= []/\(s.size<=4096->(k=1↔Rh s)):=by
 have ba:=UL s
 have Oe:=mH s
 refine yJ.of pg ye Tryz.func220 rfl Tryz.ntmps220 Tryz.results220 rfl λh0 G0 O0 ga=>?_
 by_cases hz:s.size=0
 ·have HW:=Oe.2 hz
  repeat'(first|(apply sV.ZO;{exact zu};{exact z1};{exact zu};{exact zu})|apply Sp.h|refine Lk.r rfl ?_|refine Rf.mk rfl ?_|refine xA ?_|apply yc.mk|refine xT ?_|refine xV ?_|refine xN ?_|intro _)
  exact⟨_,_,.one (.same (.z)),0,rfl,rfl,λ_=>⟨λh=>z6,λh=>by have:=h.1;omega⟩⟩
 have HW:¬s.toList=(⟨#[]⟩:ByteArray).toList:=λh=>hz (Oe.1 h)
 by_cases hs:s.size<=4096
 rotate_left
 ·repeat'(first|(apply sV.ZO;{exact zu};{exact z1};{exact zu};{exact zu})|apply Sp.h|refine Lk.r rfl ?_|refine Rf.mk rfl ?_|refine xA ?_|refine xB ?_|apply yc.mk|refine xT ?_|refine xV ?_|refine xN ?_|intro _)
  exact⟨_,_,.one (.same (.z)),0,rfl,rfl,λh=>absurd h hs⟩
 (repeat'(first|(show CA _ _ (Code.block 0 _) _ _;apply z_.out)|apply Sp.h|refine Lk.r rfl ?_|refine Rf.mk rfl ?_|refine xB ?_|refine yc.mk λ_=>?_|refine xT ?_|refine xN ?_|(apply Cl.pG (ba);{exact ga};focus(repeat' constructor);done)));any_goals apply z_.mk
 rename_i b1 b2
 apply Sp.h
 refine CA.Jo rfl rfl (LI s hs) (λi x hx=>by obtain⟨-,k,j,n,rfl,-⟩:=hx;rfl) rfl
  (λi o'=>i=0/\o'= [yr b2 3 [it 0],yr b1 9 [sv s]])
  (λx o'=>(x= .exit 0/\¬Rh s/\o'= [yr b2 3 [it 0],yr b1 9 [sv s]])∨(x= .ret/\∃k:Int,(k=1↔Rh s)/\o'= [yr b2 3 [it k],yr b1 9 [sv s]]))
  (λ_ o' h=>by have:=h.1;omega) ⟨rfl,rfl⟩ ?_ ?_ ?_ ?_ ?_
 ·rintro i x o' ⟨hi,k,j,n,rfl,hT⟩ ⟨-,rfl⟩ h0' G0' O0' Oj
  have SC:=hT.sk.le'
  unfold Zi
  repeat'(first|apply Sp.h|refine Lk.r rfl ?_|refine Rf.mk rfl ?_|apply yc.mk|refine xT ?_|(apply y4.r;focus repeat' constructor)|refine xN ?_|intro _)
  apply PA.brk Oj rfl
  by_cases hc:j=0/\j+n=s.size
  ·obtain⟨nQ,tE⟩:=hc
   subst nQ
   have hk:=XA hT z6
   repeat'(first|apply Sp.h|refine Lk.r rfl ?_|refine Rf.mk rfl ?_|refine xA ?_|refine xT ?_|refine xV ?_|fail)
   all_goals try exact(by omega:False).elim
   exact PA.rd [yr b2 3 [it k],yr b1 9 [sv s]] (by(repeat first|exact .nil|refine .cons z1 ?_)) (.inr ⟨rfl,k,hk,rfl⟩)
  ·have yD:=UM hT hc
   repeat'(first|apply Sp.h|refine Lk.r rfl ?_|refine Rf.mk rfl ?_|refine xA ?_|refine xB ?_|apply Bd.mk|refine xT ?_|intro _)
   all_goals first
    | exact PA.rd [yr b2 3 [it 0],yr b1 9 [sv s]] (by(repeat first|exact .nil|refine .cons z1 ?_)) (.inl ⟨rfl,yD,rfl⟩)
    | exact(hc ⟨z6,z6⟩).elim
 ·rintro o' ⟨h,-⟩;omega
 ·rintro o' (⟨h,-⟩|⟨-,k,hk,rfl⟩)
  ·cases h
  ·repeat'(first|(apply sV.ZO;{exact zu};{exact z1};{exact zu};{exact zu})|apply Sp.h|refine xN ?_|fail)
   exact⟨_,_,.one (.same (.z)),k,rfl,rfl,λ_=>hk⟩
 ·rintro i o' (⟨h,yD,rfl⟩|⟨h,-⟩)
  ·cases h
   repeat'(first|(apply sV.ZO;{exact zu};{exact z1};{exact zu};{exact zu})|apply Sp.h|refine Lk.r rfl ?_|refine Rf.mk rfl ?_|refine xT ?_|refine xV ?_|refine xN ?_|fail)
   exact⟨_,_,.one (.same (.z)),0,rfl,rfl,λ_=>⟨λh=>z6,λh=>absurd h yD⟩⟩
  ·cases h
 ·rintro i o' (⟨h,-⟩|⟨h,-⟩) <;> cases h
theorem Yj(s:ByteArray):yV Tryz.prog 175 [sv s] (.val (.bool (decide (o4 s)))):=by
 have hk:=QT s
 refine yJ.of pg ye Tryz.func175 rfl Tryz.ntmps175 Tryz.results175 rfl λh0 G0 O0 ga=>?_
 by_cases hs:s.size<=16
 ·repeat'(first|apply Sp.h|refine Lk.r rfl ?_|refine Rf.mk rfl ?_|refine xA ?_|fail)
  (apply Cl.Ve (hk);{exact ga};{exact zo};{exact zo};focus rfl)
  rintro _ _ ⟨k,rfl,rfl,hk⟩
  have hk:=hk z6
  repeat'(first|apply Sp.h|refine Lk.r rfl ?_|refine xA ?_|refine xN ?_|fail)
  refine Fin.p rfl (vb (zD.2 ?_))
  exact⟨λh=>⟨hk.1 h,hs⟩,λh=>hk.2 h.1⟩
 ·repeat'(first|apply Sp.h|refine Lk.r rfl ?_|refine Rf.mk rfl ?_|refine xB ?_|refine xN ?_|fail)
  exact Fin.p rfl (vb (zF λh:o4 s=>hs h.2).symm)
theorem H4(a b c:Prop)[Decidable a][Decidable b][Decidable c]:y6 Tryz.prog 173 [q8 [decide a,decide b,decide c]] (.val (.bool (decide (a/\b/\c)))):=by
 have h:=Mw [decide a,decide b,decide c]
 rwa [show [decide a,decide b,decide c].all id=decide (a/\b/\c) by simp] at h
theorem H3(a b c d e:Prop)[Decidable a][Decidable b][Decidable c][Decidable d][Decidable e]:y6 Tryz.prog 173 [q8 [decide a,decide b,decide c,decide d,decide e]] (.val (.bool (decide (a/\b/\c/\d/\e)))):=by
 have h:=Mw [decide a,decide b,decide c,decide d,decide e]
 rwa [show [decide a,decide b,decide c,decide d,decide e].all id=decide (a/\b/\c/\d/\e) by simp] at h
theorem oh{l:List ym}{i:Nat}{t:ym} :¬t.name∈(l.take i).map ym.name↔∀j u,j < i->l[j]?=some u->u.name.toList≠t.name.toList:=by
 constructor
 ·intro h j u hj hu he
  exact h (List.mem_map.2 ⟨u,zM (i:=j) (by rw [List.getElem?_take,if_pos hj,hu]),aw he⟩)
 ·intro h hm
  obtain⟨u,hu,he⟩:=List.mem_map.1 hm
  obtain⟨j,hj⟩:=zO hu
  rw [List.getElem?_take] at hj
  split at hj
  ·rename_i py
   exact h j u py hj (by rw [he])
  ·cases hj
abbrev Mx (sizes:List Int) (l:List ym) (i:Nat) (t:ym):Prop:=o4 t.name/\(¬t.name∈(l.take i).map ym.name)/\(0<=t.kind/\t.kind<=5)/\RQ sizes t.ya/\eV t
theorem Q0{sizes:List Int}{l:List ym}{i:Nat}{t:ym}(hs:Sound sizes):b_ sizes l i t↔Mx sizes l i t/\t.first=xZ sizes (decide (yi t.kind)) (l.take i):=by
 constructor
 ·rintro⟨h1,h2,⟨⟨h3,-,h4⟩,h5,h6,h7,h8,h9⟩,Y_,SM⟩
  refine⟨⟨h1,oh.2 h2,⟨h5,h6⟩,⟨h3,h4⟩, ?_⟩,SM⟩
  by_cases hk:t.kind=1∨t.kind=4∨t.kind=5
  ·exact(kX hk).2 ⟨h8,h7,h9⟩
  ·exact(mj hk).2 (Y_ z6)
 ·rintro⟨⟨h1,h2,⟨h5,h6⟩,⟨h3,h4⟩,h7⟩,SM⟩
  by_cases hk:t.kind=1∨t.kind=4∨t.kind=5
  ·have h8:=(kX hk).1 h7
   exact⟨h1,oh.1 h2,⟨⟨h3,hs,h4⟩,h5,h6,h8.2.1,h8.1,h8.2.2⟩,λh=>z6,SM⟩
  ·have h8:=(mj hk).1 h7
   exact⟨h1,oh.1 h2,⟨⟨h3,hs,h4⟩,h5,h6,z6,z6,z6⟩,λ_=>h8,SM⟩
theorem _root_.Go.CF.zr {p:Prop}(h:p:=by ((repeat'(first|fail)));first|done|fail):p:=h
theorem nD(sizes:List Int)(l:List ym):yV Tryz.prog 125 [ints sizes,xG l] (.val (.bool (decide (vh sizes l)))):=by
  have u4:=Qb sizes
  have Gr:=H4 ((sizes.length:Int)<=4) ((l.length:Int)<=12) (Sound sizes)
  refine yJ.of pg I0 Tryz.func125 rfl Tryz.ntmps125 Tryz.results125 rfl λh0 G0 O0 ga=>?_
  by_cases h0:(sizes.length:Int)<=4/\(l.length:Int)<=12/\Sound sizes
  rotate_left
  · have hn:¬vh sizes l:=λh=>h0 ⟨by have:=h.sz;omega,by have:=h.tl;omega,h.so⟩
    (repeat'(first|apply Sp.h|refine Lk.r rfl ?_|refine Rf.mk rfl ?_|refine xB ?_|refine Im.mk λ_=>?_|refine yc.mk λ_=>?_|(apply Fk.r;focus repeat' first|infer_instance|constructor)|refine xN ?_|refine Rf.mk ⟨rfl,rfl,rfl⟩ ?_|(apply Cl.p (u4);focus(repeat' constructor);done)|(apply Cl.yY (Gr);(focus((repeat'(first|exact y3.nil|(apply y3.yX;{exact z1};{exact zu};{exact za})|fail));done)))))
    exact Fin.p rfl (vb (zF hn).symm)
  have hs:=h0.2.2
  have V8:=h0.2.1
  (repeat'(first|apply Sp.h|refine Lk.r rfl ?_|refine Rf.mk rfl ?_|refine xA ?_|refine Im.mk λ_=>?_|refine yc.mk λ_=>?_|(apply Fk.r;focus repeat' first|infer_instance|constructor)|refine Rf.mk ⟨rfl,rfl,rfl⟩ ?_|(apply Cl.p (u4);focus(repeat' constructor);done)|(apply Cl.yY (Gr);(focus((repeat'(first|exact y3.nil|(apply y3.yX;{exact z1};{exact zu};{exact za})|fail));done)))))
  refine X2.r (λx:AV=>x) ?_
  refine⟨λb=>?_⟩
  (repeat'(first|(show CA _ _ (Code.region 4 _ _) _ _;apply z_.out)|apply Sp.h|refine Lk.r rfl ?_|fail));any_goals apply z_.mk
  refine CA.own (OX.set z1) ?_
  repeat'(first|apply Sp.h|refine Lk.r rfl ?_|refine Rf.mk rfl ?_|apply Im.mk|apply yc.mk|refine xT ?_|refine xV ?_|refine xN ?_|intro _)
  rename_i b6 b7 hl9
  refine CA.loop (λi:Nat=>⟨[(0,ints sizes),(5,.val (.map (some b))),(6,pm b6),(7,pm b7),(23,xG l),(24,it (l.length:Nat)),(25,it i)],[ib b ((l.take i).map ym.name),yr b6 3 [it (xZ sizes true (l.take i))],yr b7 3 [it (xZ sizes false (l.take i))]]⟩) (λi=>i<=l.length/\∀j t,j < i->l[j]?=some t->b_ sizes l j t) (λi=>l.length - i) 0 xE ⟨zZ _,λj t h=>z6⟩ ?_
  rintro i ⟨hi,ht⟩
  by_cases yd:i < l.length
  · obtain⟨t,ew⟩:=zz yd
    have yD:¬b_ sizes l i t->¬vh sizes l:=λh h2=>h (h2.t i t ew)
    have xe:=vO (sizes:=sizes) (s:=true) ew
    have ee:=vO (sizes:=sizes) (s:=false) ew
    have C8:=rQ (sizes:=sizes) (s:=true) (l:=l) i
    have YR:=rQ (sizes:=sizes) (s:=false) (l:=l) i
    have Gc:=rN sizes t.ya
    have vE:=Q0 (sizes:=sizes) (l:=l) (i:=i) (t:=t) hs
    have Bq:=H3 (o4 t.name) (¬t.name∈(l.take i).map ym.name) (0<=t.kind/\t.kind<=5) (RQ sizes t.ya) (eV t)
    have jQ:=Yj t.name
    have PR:=dw t.kind 0 5
    have YU:=Za sizes t.ya
    have nT:=UZ t
    by_cases hT:Mx sizes l i t
    rotate_left
    · repeat'(first|apply Sp.h|refine Lk.r rfl ?_|refine Rf.mk rfl ?_|refine xA ?_|refine xB ?_|refine yu.r rfl ?_|refine yc.mk λ_=>?_|refine xT ?_|refine xI ?_|refine Ch.l ⟨rfl,rfl⟩ ?_|(apply y4.r;focus repeat' constructor)|(apply Fk.r;focus repeat' first|infer_instance|constructor)|refine xN ?_|refine Rf.mk ⟨rfl,rfl,rfl⟩ ?_|refine xD ?_|(apply bz.r;{exact z1})|(apply Cl.pG (jQ);{exact ga};focus(repeat' constructor);done)|(apply Cl.p (PR);focus(repeat' constructor);done)|(apply Cl.p (YU);focus(repeat' constructor);done)|(apply Cl.p (nT);focus(repeat' constructor);done)|(apply Cl.yY (nT);{exact zr})|(apply Cl.yY (Bq);(focus((repeat'(first|exact y3.nil|(apply y3.yX;{exact z1};{exact zu};{exact za})|fail));done))))
      all_goals exact Fin.p rfl (vb (zF (yD λh=>hT (vE.1 h).1)).symm)
    have fg:=ot t
    have Fu:uO sizes t.ya:=⟨hT.2.2.2.1.1,hs,hT.2.2.2.1.2⟩
    have V4:=fI sizes t.ya Fu
    have B2:wF sizes t.ya=wD sizes t.ya:=by rw [wF,if_pos Fu]
    have bE:(l.take (i+1)).map ym.name=(l.take i).map ym.name ++ [t.name]:=by rw [zK,ew];simp
    rw [B2] at Gc xe ee
    by_cases yL:yi t.kind
    · rw [zT yL] at xe ee vE
      rw [if_pos rfl] at xe
      rw [if_neg zd] at ee
      repeat'(first|apply Sp.h|refine Lk.r rfl ?_|refine Rf.mk rfl ?_|refine xA ?_|(refine Bd.mk ?_ ?_ <;> intro _)|refine yu.r rfl ?_|refine yc.mk λ_=>?_|refine xT ?_|refine xI ?_|refine Ch.l ⟨rfl,rfl⟩ ?_|refine xV ?_|(apply y4.r;focus repeat' constructor)|(apply Fk.r;focus repeat' first|infer_instance|constructor)|refine xN ?_|refine Rf.mk ⟨rfl,rfl,rfl⟩ ?_|refine xD ?_|refine xO ?_|(apply bz.r;{exact z1})|(apply Cl.pG (jQ);{exact ga};focus(repeat' constructor);done)|(apply Cl.p (PR);focus(repeat' constructor);done)|(apply Cl.p (YU);focus(repeat' constructor);done)|(apply Cl.p (nT);focus(repeat' constructor);done)|(apply Cl.p (fg);focus(repeat' constructor);done)|(apply Cl.p (V4);focus(repeat' constructor);done)|(apply Cl.yY (nT);{exact zr})|(apply Cl.yY (Bq);(focus((repeat'(first|exact y3.nil|(apply y3.yX;{exact z1};{exact zu};{exact za})|fail));done))))
      all_goals first
        | (rw [<-xe,<-bE]
           rw [show xZ sizes false (l.take i)=xZ sizes false (l.take (i+1)) by omega]
           exact PA.lp (i+1) xE ⟨⟨yd,yg ew ht (vE.2 ⟨hT,by assumption⟩)⟩,z6⟩)
        | exact Fin.p rfl (vb (zF (yD λh=>absurd (vE.1 h).2 z8)).symm)
    · rw [zF yL] at xe ee vE
      rw [if_neg zd] at xe
      rw [if_pos rfl] at ee
      repeat'(first|apply Sp.h|refine Lk.r rfl ?_|refine Rf.mk rfl ?_|refine xA ?_|refine xB ?_|(refine Bd.mk ?_ ?_ <;> intro _)|refine yu.r rfl ?_|refine yc.mk λ_=>?_|refine xT ?_|refine xI ?_|refine Ch.l ⟨rfl,rfl⟩ ?_|refine xV ?_|(apply y4.r;focus repeat' constructor)|(apply Fk.r;focus repeat' first|infer_instance|constructor)|refine xN ?_|refine Rf.mk ⟨rfl,rfl,rfl⟩ ?_|refine xD ?_|refine xO ?_|(apply bz.r;{exact z1})|(apply Cl.pG (jQ);{exact ga};focus(repeat' constructor);done)|(apply Cl.p (PR);focus(repeat' constructor);done)|(apply Cl.p (YU);focus(repeat' constructor);done)|(apply Cl.p (nT);focus(repeat' constructor);done)|(apply Cl.p (fg);focus(repeat' constructor);done)|(apply Cl.p (V4);focus(repeat' constructor);done)|(apply Cl.yY (nT);{exact zr})|(apply Cl.yY (Bq);(focus((repeat'(first|exact y3.nil|(apply y3.yX;{exact z1};{exact zu};{exact za})|fail));done))))
      all_goals first
        | (rw [<-ee,<-bE]
           rw [show xZ sizes true (l.take i)=xZ sizes true (l.take (i+1)) by omega]
           exact PA.lp (i+1) xE ⟨⟨yd,yg ew ht (vE.2 ⟨hT,by assumption⟩)⟩,z6⟩)
        | exact Fin.p rfl (vb (zF (yD λh=>absurd (vE.1 h).2 z8)).symm)
  · have:i=l.length:=z6
    subst this
    rw [zL]
    have ht:=xc ht
    repeat'(first|apply Sp.h|refine Lk.r rfl ?_|refine Rf.mk rfl ?_|refine xA ?_|refine xB ?_|apply Bd.mk|refine xT ?_|refine xN ?_|intro _)
    · rename_i h
      refine Fin.p rfl (vb ?_)
      by_cases h9:xZ sizes false l<=64
      · rw [zT h9,zT (show vh sizes l from⟨z6,hs,z6,ht,z6,h9⟩)]
      · rw [zF h9,zF (λh8:vh sizes l=>h9 h8.m)]
    · rename_i h
      exact Fin.p rfl (vb (zF λh8=>h h8.s).symm)
theorem QY{l:List ByteArray}{s:ByteArray}:kR l s↔s∈l :=
 ⟨λ⟨q,hq,he⟩=>by rw [<-aw he];exact hq,λh=>⟨s,h,rfl⟩⟩
theorem lf(l:List ByteArray):yV Tryz.prog 126 [.sl 1 l ur] (.val (.bool (decide (o6 l)))):=by
 refine yJ.of pg ye Tryz.func126 rfl Tryz.ntmps126 Tryz.results126 rfl λh0 G0 O0 ga=>?_
 repeat'(first|apply Sp.h|refine Lk.r rfl ?_|refine Rf.mk rfl ?_|fail)
 refine X2.r (λx:AV=>x) ?_
 refine⟨λb=>?_⟩
 (repeat'(first|(show CA _ _ (Code.region 2 _ _) _ _;apply z_.out)|apply Sp.h|refine Lk.r rfl ?_|fail));any_goals apply z_.mk
 refine CA.own (OX.set z1) ?_
 repeat'(first|apply Sp.h|refine Lk.r rfl ?_|refine Rf.mk rfl ?_|apply Im.mk|intro _)
 refine CA.loop (λi:Nat=>⟨[(3,.val (.map (some b))),(7,.sl 1 l ur),(8,it (l.length:Nat)),(9,it i)],[ib b (l.take i)]⟩) (λi=>i<=l.length/\∀j s,j < i->l[j]?=some s->o4 s/\∀k q,k < j->l[k]?=some q->q.toList≠s.toList) (λi=>l.length - i) 0 xE ⟨zZ _,λj s h=>z6⟩ ?_
 rintro i ⟨hi,ha⟩
 by_cases yd:i < l.length
 ·obtain⟨s,hs⟩:=zz yd
  have Hw:=d_ (l:=l) (s:=s) hi
  rw [QY] at Hw
  have hn:=Yj s
  have bE:l.take (i+1)=l.take i ++ [s]:=by rw [zK,hs];rfl
  repeat'(first|apply Sp.h|refine Lk.r rfl ?_|refine Rf.mk rfl ?_|refine xA ?_|refine xB ?_|(refine Bd.mk ?_ ?_ <;> intro _)|refine xI ?_|refine xN ?_|refine xO ?_|(apply bz.r;{exact z1})|(apply Cl.pG (hn);{exact ga};focus(repeat' constructor);done))
  all_goals first
   | (rw [<-bE];exact PA.lp (i+1) xE ⟨⟨yd,yg hs ha ⟨by assumption,Hw.1 z8⟩⟩,z6⟩)
   | exact Fin.p rfl (vb (zF λh:o6 l=>absurd (h i s hs).1 z8).symm)
   | exact Fin.p rfl (vb (zF λh:o6 l=>absurd z8 (Hw.2 (h i s hs).2)).symm)
 ·have:i=l.length:=z6
  subst this
  repeat'(first|apply Sp.h|refine Lk.r rfl ?_|refine Rf.mk rfl ?_|refine xB ?_|refine xN ?_|fail)
  exact Fin.p rfl (vb (zT (show o6 l from xc ha)).symm)
theorem cj(sizes:List Int)(l:List ym)(s:Bool)(cell:Int)(jW:cell<=9223372036854775807):yV Tryz.prog 196 [ints sizes,xG l,.val (.bool s),it cell] (X6 (uS sizes l s cell)):=by
 have hv:=nD sizes l
 refine yJ.of pg JP Tryz.func196 rfl Tryz.ntmps196 Tryz.results196 rfl λh0 G0 O0 ga=>?_
 by_cases hx:vh sizes l/\0<=cell
 rotate_left
 ·rw [uS,if_neg hx]
  repeat'(first|apply Sp.h|refine Lk.r rfl ?_|refine Rf.mk rfl ?_|refine xA ?_|refine xB ?_|(refine Bd.mk ?_ ?_ <;> intro _)|refine Im.mk λ_=>?_|refine xN ?_|(apply Cl.pG (hv);{exact ga};focus(repeat' constructor);done))
  all_goals first
   | exact⟨_,_,.yE (.same (.ic (.same (.z)))),rfl,rfl⟩
   | exact(hx ⟨by assumption,z6⟩).elim
 have hc:=hx.2
 have hx:=hx.1
 have V8:=hx.tl
 have qY:=hx.so
 repeat'(first|apply Sp.h|refine Lk.r rfl ?_|refine Rf.mk rfl ?_|refine xA ?_|refine xB ?_|refine Im.mk λ_=>?_|(apply Cl.pG (hv);{exact ga};focus(repeat' constructor);done))
 refine CA.loop (λi:Nat=>⟨[(0,ints sizes),(2,.val (.bool s)),(3,it cell),(25,xG l),(26,it (l.length:Nat)),(27,it i)],[]⟩) (λi=>i<=l.length/\∀j t,j < i->l[j]?=some t->¬oX sizes s cell t) (λi=>l.length - i) 0 xE ⟨zZ _,λj t h=>z6⟩ ?_
 rintro i ⟨hi,yD⟩
 by_cases yd:i < l.length
 ·obtain⟨t,ht⟩:=zz yd
  have hT:=(hx.t i t ht).ok
  have pD:=hT.1
  have ue:=pD.1
  have hf:=hx.first ht
  have yL:=ot t
  have V4:=fI sizes t.ya pD
  have bQ:wF sizes t.ya=wD sizes t.ya:=by rw [wF,if_pos pD]
  have kq:=rN sizes t.ya
  rw [bQ] at kq
  by_cases uU:oX sizes s cell t
  ·have eK:=fJ hx hc ht uU yD
   rw [eK]
   obtain⟨g1,g2,g3⟩:=uU
   rw [bQ] at g3
   repeat'(first|apply Sp.h|refine Lk.r rfl ?_|refine Rf.mk rfl ?_|refine xA ?_|refine xB ?_|refine Im.mk λ_=>?_|refine yc.mk λ_=>?_|refine xU ?_|refine xT ?_|refine xI ?_|refine Ch.l ⟨rfl,rfl⟩ ?_|(apply y4.r;focus repeat' constructor)|refine xN ?_|refine Rf.mk ⟨rfl,rfl,rfl⟩ ?_|(apply Jx.r;{exact zj};{exact zb})|refine yC.r xL 0 rfl ?_|refine xO ?_|(apply Cl.p (yL);focus(repeat' constructor);done)|(apply Cl.p (V4);focus(repeat' constructor);done)|(apply Cl.yY (yL);{exact zr})|(apply Cl.yY (V4);{exact zr}))
   all_goals try exact(by omega:False).elim
   all_goals try exact absurd g1 z8
   rename_i b12 _ v
   refine CA.loop (λi':Nat=>⟨[(0,ints sizes),(11,it i),(12,pm b12),(13,it (wM sizes (t.ya.drop i') (cell - t.first)).2),(14,.ow v),(15,it ((i':Int) - 1))],[yr b12 150 (v8 t),yb v 3 1 (List.replicate i' 0 ++ (wM sizes (t.ya.drop i') (cell - t.first)).1) xL]⟩) (λi'=>i'<=t.ya.length) (λi'=>i') t.ya.length ?_ (Nat.le_refl _) ?_
   ·rw [List.drop_length]
    simp only [wM,List.append_nil,zR]
    exact xE
   intro i' Gk
   cases i' with
   | zero =>
    rw [List.drop_zero]
    repeat'(first|apply Sp.h|refine Lk.r rfl ?_|refine Rf.mk rfl ?_|refine xB ?_|refine xN ?_|fail)
    exact⟨_,_,.yE (.same (.fz z1 (by simp [qN];omega) (.same (.z)))),rfl,rfl⟩
   | succ i' =>
    obtain⟨x,CO⟩:=zz (l:=t.ya) (i:=i') z6
    obtain⟨j,rfl,y,hy,PQ,DX⟩:=ni pD CO
    have hle:=Yg qY g2 (t.ya.drop (i'+1))
    have hlen:=qN sizes (cell - t.first) (t.ya.drop (i'+1))
    obtain⟨q,hq⟩:∃q,wM sizes (t.ya.drop (i'+1)) (cell - t.first)=q:=⟨_,rfl⟩
    have hd:wM sizes (t.ya.drop i') (cell - t.first)=(q.2 % y :: q.1,q.2 / y):=by
     rw [List.drop_eq_getElem_cons z6,(zS.1 CO).2]
     simp only [wM,hq,Int.toNat_natCast,hy,Option.getD_some]
    have hz:(List.replicate (i'+1) (0:Int) ++ q.1)[i']?=some 0:=by
     rw [zI zd,List.getElem?_replicate,if_pos z6]
    rw [hq] at hle hlen ⊢
    obtain⟨q1,q2⟩:=q
    simp only at hle hlen hd hz ⊢
    have e:(((i'+1:Nat):Int) - 1)=(i':Int):=z6
    rw [e]
    repeat'(first|apply Sp.h|refine Lk.r rfl ?_|refine Rf.mk rfl ?_|refine xA ?_|refine yu.r rfl ?_|refine xP ?_|refine xU ?_|refine xT ?_|refine xI ?_|refine xJ ?_|refine xV ?_|refine Up.r rfl ?_|refine xD ?_|refine xO ?_|fail)
    all_goals
     rw [dE]
     refine PA.lp i' ?_ ⟨z6,z6⟩
     rw [hd]
     exact xE
  ·have vu:=yg ht yD uU
   repeat'(first|apply Sp.h|refine Lk.r rfl ?_|refine Rf.mk rfl ?_|refine xA ?_|refine xB ?_|(refine Bd.mk ?_ ?_ <;> intro _)|refine Im.mk λ_=>?_|refine yc.mk λ_=>?_|refine xU ?_|refine xT ?_|refine xI ?_|refine Ch.l ⟨rfl,rfl⟩ ?_|(apply y4.r;focus repeat' constructor)|refine xN ?_|refine Rf.mk ⟨rfl,rfl,rfl⟩ ?_|(apply Jx.r;{exact zj};{exact zb})|refine yC.r xL 0 rfl ?_|refine xO ?_|(apply Cl.p (yL);focus(repeat' constructor);done)|(apply Cl.p (V4);focus(repeat' constructor);done)|(apply Cl.yY (yL);{exact zr})|(apply Cl.yY (V4);{exact zr}))
   all_goals first
    | exact PA.lp (i+1) xE ⟨⟨yd,vu⟩,z6⟩
    | exact(uU ⟨by assumption,z6,by rw [bQ];omega⟩).elim
 ·have:i=l.length:=z6
  subst this
  rw [ZY λ_ j y hy=>yD j y (zS.1 hy).1 hy]
  repeat'(first|apply Sp.h|refine Lk.r rfl ?_|refine Rf.mk rfl ?_|refine xB ?_|refine xN ?_|fail)
  exact⟨_,_,.yE (.same (.ic (.same (.z)))),rfl,rfl⟩
end Go.Proofs.YtmjllbjfkafhdaaGreatDoor
namespace Go.CF
open Go
section
variable {Γ:Cx} {k:List KI} {e:EA} {o:List yh} {N:NA} {c:xa} {d:Tmp} {ty:TypeId} {x y z:Operand} {t u:TypeId} {i j:Int}
theorem wrap_u64{i:Int}(h:0<=i/\i<=18446744073709551615):IntKind.u64.wrap i=i:=by
 simp [IntKind.wrap,IntKind.signed,IntKind.bits];omega
theorem Pz{i:Int}(h:0<=i/\i<=4294967295):bits .and .u64 i 4294967295=i:=by
 obtain⟨n,rfl⟩:=Int.eq_ofNat_of_zero_le h.1
 have:=bits_and_u64_nat n 4294967295 z6 z6
 rw [show(4294967295:Int)=((4294967295:Nat):Int) from rfl,this]
 congr 1
 have h2:=Nat.and_two_pow_sub_one_eq_mod n 32
 rw [show(2:Nat) ^ 32 - 1=4294967295 from rfl] at h2
 rw [h2]
 omega
instance (priority:=1100):Sp (tZ Γ c d (.binOp .and t x y u) ty e o N x (.val (.int .u64 i)) y (.val (.int .u64 4294967295))) (Om (0<=i/\i<=4294967295) (N ((d,.val (.int .u64 i)) :: e) o)):=⟨λhn=>uT hn.k λ_ _ _ h h' k=> .xH (vZ h h' λw=>by rw [binOp_and];show Result.ok (Value.int .u64 (bits .and .u64 i 4294967295)) w=_;rw [Pz hn.p]) k⟩
instance (priority:=1100) {k2:IntKind}:Sp (tZ Γ c d (.binOp .shr t x y u) ty e o N x (.val (.int .u64 i)) y (.val (.int k2 32))) (Om (0<=i/\i<=4294967295) (N ((d,.val (.int .u64 0)) :: e) o)):=⟨λhn=>uT hn.k λ_ _ _ h h' k=>St.F9 h h' (m:=32) rfl zf (by rw [show i / (2:Int) ^ 32=0 from by have:=hn.p;rw [show(2:Int) ^ 32=4294967296 from rfl];omega];exact k)⟩
instance:Sp (tZ Γ c d (.binOp .mul t x y u) ty e o N x (.val (.int .u64 i)) y (.val (.int .u64 j))) (Om (0<=i * j/\i * j<=18446744073709551615) (N ((d,.val (.int .u64 (i * j))) :: e) o)):=⟨λhn=>uT hn.k λ_ _ _ h h' k=> .xH (vZ h h' λw=>by
 simp only [binOp_mul,Op.intArith]
 show Result.ok (Value.int .u64 _) w=_
 rw [wrap_u64 hn.p]) k⟩
instance:Sp (tZ Γ c d (.binOp .add t x y u) ty e o N x (.val (.int .u64 i)) y (.val (.int .u64 j))) (Om (0<=i+j/\i+j<=18446744073709551615) (N ((d,.val (.int .u64 (i+j))) :: e) o)):=⟨λhn=>uT hn.k λ_ _ _ h h' k=> .xH (vZ h h' λw=>by
 simp only [binOp_add,Op.intArith]
 show Result.ok (Value.int .u64 _) w=_
 rw [wrap_u64 hn.p]) k⟩
end
end Go.CF
namespace Go.Proofs.YtmjllbjfkafhdaaGreatDoor
open Go Go.CF
abbrev u6 (x:Int):AV:= .val (.int .u64 x)
theorem QK(a b:Int)(ha:0<=a/\a<=65535)(hb:0<=b/\b<=65535):y6 Tryz.prog 260 [u6 a,u6 b] (.yE [u6 0,u6 (a * b)]):=by
 have h1:0<=a * b:=Int.mul_nonneg ha.1 hb.1
 have h2:a * b<=65535 * 65535:=Int.mul_le_mul ha.2 hb.2 hb.1 z6
 refine zy.of pg ye Tryz.func260 rfl Tryz.ntmps260 Tryz.results260 rfl λh0 G0 O0=>?_
 repeat'(first|apply Sp.h|refine Lk.r rfl ?_|refine Rf.mk rfl ?_|refine xP ?_|refine xN ?_|fail)
 simp only [Int.mul_zero,Int.add_zero]
 exact⟨_,_,.yE (.same (.same (.z))),rfl,rfl⟩
theorem EZ(a b:Int)(ha:0<=a/\a<=65535)(hb:0<=b/\b<=65535):y6 Tryz.prog 222 [u6 a,u6 b] (.yE [u6 0,u6 (a * b)]):=by
 have h:=QK a b ha hb
 refine zy.of pg ye Tryz.func222 rfl Tryz.ntmps222 Tryz.results222 rfl λh0 G0 O0=>?_
 repeat'(first|apply Sp.h|refine Lk.r rfl ?_|refine Rf.mk rfl ?_|refine xN ?_|(apply Cl.p (h);focus repeat' constructor))
 exact⟨_,_,.yE (.same (.same (.z))),rfl,rfl⟩
end Go.Proofs.YtmjllbjfkafhdaaGreatDoor
namespace Go.CF
open Go
section
variable {Γ:Cx} {k:List KI} {e:EA} {o:List yh} {N:NA} {c:xa} {d:Tmp} {ty:TypeId} {x y z:Operand} {t u:TypeId} {kk:IntKind} {i:Int}
instance {v:Value} {b:AV}:Sp (GG Γ c d t u x y ty e o N (.ow v) b) (Lk (nN Γ.tt t) λp=>Src o b p.2.size λq g=>gU o v λT sz l f rest=>Rf (T=p.1/\sz=p.2.size) (Mp q g f λq' =>
  N ((d,.val (.int .i64 (min q'.length l.length:Nat))) :: e) (yb v T sz (q'.take (min q'.length l.length) ++ l.drop (min q'.length l.length)) f :: rest))):=⟨λ⟨p,hp,β,q,g,⟨α,T,sz,l,f,rest,tk,⟨hT,hz⟩,q',PX,hn⟩,kG⟩=>⟨λha hb hc=>⟨λenv hh G Os cn=>by
 obtain⟨w,g1,hwv,-⟩:=cn.get ha
 rw [hwv] at g1
 clear hwv
 obtain⟨w2,g2,r2⟩:=cn.get hb
 obtain⟨wg,qZ,YK⟩:=kG cn.hp r2
 have gP:q'.length=q.length:=by have:=congrArg List.length PX;simpa using this
 have Xc:=YK.map PX
 subst hT;subst hz
 obtain⟨ti,t1,t2,t3⟩:=xg hp
 obtain⟨O,yz,yT⟩:=cn.take tk
 obtain⟨⟨ho,rows,hw,hr⟩,xq⟩:=yT.hp.own
 by_cases h0:min q'.length l.length=0
 ·obtain⟨dl,dc,pp,hv,hm⟩:∃dl dc pp,v= .slice pp dl dc/\dl=l.length:=by
   rcases hw.ok with⟨e1,e2⟩|⟨b,of,wR,L,e1,-⟩
   ·exact⟨_,_,_,e1,z6⟩
   ·exact⟨_,_,_,e1,rfl⟩
  subst hm
  rw [hv] at g1
  refine .th hc (rp Γ.ok t1 t2 t3 g1 g2 qZ (by rw [<-gP];exact h0) ?_)
  rw [h0,List.take_zero,List.nil_append,List.drop_zero] at hn
  exact CN.mk (yT.put d (a:= .val (.int .i64 (0:Nat))) rfl) hn
 ·rcases hw.ok with⟨e1,e2⟩|⟨b,of,wR,L,e1,oN,h1,h2,h3⟩
  ·omega
  ·subst e1
   have hlen:=hw.v_
   have Lh:=YK.sz
   have Vi:wg.flatten.length=q.length * p.2.size:=by rw [YK.pE]
   have Ln:min q'.length l.length * p.2.size<=q.length * p.2.size:=zU _ z6
   have O7:min q'.length l.length * p.2.size<=l.length * p.2.size:=zU _ z6
   have ey:l.length * p.2.size<=wR * p.2.size:=zU _ h2
   refine .th hc (k9 Γ.ok t1 t2 t3 g1 g2 oN qZ Vi (λv hv=>YK.one v (zW hv)) (by rw [<-gP];omega) λh' u4 hu=>?_)
   rw [<-gP] at hu ⊢
   have WR:O b:=(ho b).2 (by simp [xz])
   have hX:(wg.flatten.take (min q'.length l.length * p.2.size)).length=min q'.length l.length * p.2.size:=by rw [zN];omega
   have hu':ej hh b p.1 (L.take (of+0 * p.2.size) ++ wg.flatten.take (min q'.length l.length * p.2.size) ++ L.drop (of+0 * p.2.size+min q'.length l.length * p.2.size)) h':=by rw [Nat.zero_mul,Nat.add_zero];exact hu
   have oO:=lW (j:=0) hw hX z6 hu' h1 h2 h3
   rw [Nat.zero_mul,List.take_zero,List.nil_append,Nat.zero_add] at oO
   have VL:(q'.take (min q'.length l.length) ++ l.drop (min q'.length l.length)).length=l.length:=by simp;omega
   have qz:(wg.take (min q'.length l.length) ++ rows.drop (min q'.length l.length)).flatten=wg.flatten.take (min q'.length l.length * p.2.size) ++ rows.flatten.drop (min q'.length l.length * p.2.size):=by
    rw [List.flatten_append,xX wg _ Lh,pq rows _ hr.sz]
   have c3:=nh (R':=yb (.slice (some ⟨b,of,none⟩) l.length wR) p.1 p.2.size (q'.take (min q'.length l.length) ++ l.drop (min q'.length l.length)) f) yT hu WR (λhg=>⟨ho,wg.take (min q'.length l.length) ++ rows.drop (min q'.length l.length),by rw [VL,qz];exact oO,((Xc.take _).app (hr.drop _)).wm hg⟩)
   exact CN.mk (c3.put d (a:= .val _) rfl) hn⟩⟩⟩
end
end Go.CF
namespace Go.Proofs.YtmjllbjfkafhdaaGreatDoor
open Go Go.CF
theorem _root_.Go.CF.zm {p:Prop}(h:p:=by (repeat constructor);first|done|fail):p:=h
theorem UW(r:Int×Int)(n:Nat)(hn:1<=n/\n<=216):zy Tryz.prog 181 [.sl 2 [r] vT,it (n:Int)] [] λq own=>∃v,q= .ow v/\own= [yb v 148 2 (List.replicate n r) vT]:=by
 have hm:=EZ 1 (n:Int) z6 z6
 have C4:=hn.1
 have B3:=hn.2
 refine zy.of pg JR Tryz.func181 rfl Tryz.ntmps181 Tryz.results181 rfl λh0 G0 O0=>?_
 (repeat'(first|(show CA _ _ (Code.region 7 _ _) _ _;apply z_.out)|apply Sp.h|refine Lk.r rfl ?_|refine Rf.mk rfl ?_|refine xB ?_|refine Im.mk λ_=>?_|refine xN ?_|refine Rf.mk ⟨rfl,rfl,rfl⟩ ?_|(apply Jx.r;{exact zj};{exact zb})|(apply r_.i64;{exact zu};{exact z6})|(apply r_.u64;{exact zu};{exact z6})|(apply Cl.p (hm);focus(repeat' constructor);done)))
 refine yC.r vT ((0:Int),(0:Int)) rfl ?_
 refine⟨λv=>?_⟩
 repeat'(first|apply Sp.h|refine Lk.r rfl ?_|refine Rf.mk rfl ?_|refine xU ?_|refine Rf.mk ⟨rfl,rfl⟩ ?_|refine Mp.same ?_|fail)
 have e1:min [r].length (List.replicate n ((0:Int),(0:Int))).length=1:=by simp;omega
 have e2:List.take 1 [r] ++ (List.replicate n ((0:Int),(0:Int))).drop 1=List.replicate 1 r ++ List.replicate (n - 1) (0,0):=by simp
 rw [Nat.one_mul,e1,e2]
 refine CA.loop (λm:Nat=>⟨[(7,.ow v),(8,it m)],[yb v 148 2 (List.replicate m r ++ List.replicate (n - m) (0,0)) vT]⟩) (λm=>1<=m/\m<=n) (λm=>n - m) 1 xE ⟨Nat.le_refl _,C4⟩ ?_
 rintro m ⟨Hq,C7⟩
 have hl:(List.replicate m r ++ List.replicate (n - m) ((0:Int),(0:Int))).length=n:=by simp;omega
 by_cases hmn:m < n
 ·repeat'(first|apply Sp.h|refine Lk.r rfl ?_|refine Rf.mk rfl ?_|refine xA ?_|refine yu.r rfl ?_|refine xU ?_|refine Rf.mk ⟨rfl,rfl⟩ ?_|refine Rf.mk ⟨rfl,rfl,rfl⟩ ?_|(apply Jx.r;{exact zj};{exact zb})|refine Mp.same ?_|refine xD ?_|refine xO ?_|(apply nX.all;{exact zm})|fail)
  have q1:List.take (m - 0) (List.drop 0 (List.replicate m r ++ List.replicate (n - m) ((0:Int),(0:Int))))=List.replicate m r:=by simp
  have q2:List.take m (List.replicate m r ++ List.replicate (n - m) ((0:Int),(0:Int)))=List.replicate m r:=by simp
  have q3:∀k,k<=m->m+k<=n->List.replicate m r ++ List.take k (List.replicate m r) ++ List.drop (m+k) (List.replicate m r ++ List.replicate (n - m) ((0:Int),(0:Int)))=List.replicate (m+k) r ++ List.replicate (n - (m+k)) (0,0):=by
   intro k WU lK
   rw [List.take_replicate,Nat.min_eq_left WU,List.replicate_append_replicate,List.drop_append,zR,List.drop_eq_nil_of_le zd,List.nil_append,List.drop_replicate]
   congr 2
   omega
  rw [q1,q2,hl,zR]
  obtain⟨k,hk⟩:∃k,min m (n - m)=k:=⟨_,rfl⟩
  rw [hk,q3 k z6 z6]
  exact PA.lp (m+k) xE ⟨⟨z6,z6⟩,z6⟩
 ·have:m=n:=z6
  subst this
  rw [Nat.sub_self,List.replicate_zero,List.append_nil] at hl ⊢
  repeat'(first|apply Sp.h|refine Lk.r rfl ?_|refine Rf.mk rfl ?_|refine xB ?_|refine xU ?_|refine xN ?_|fail)
  exact⟨_,_,.one (.same (.z)),_,rfl,rfl⟩
theorem P4{r:AV}{own:List yh}{L:List (Int×Int)}(h:∃v,r= .ow v/\own= [yb v 148 2 L vT]):s7 r/\∀R∈own,vS R:=by
 obtain⟨v,rfl,rfl⟩:=h
 refine⟨.ow _,λR hR=>?_⟩
 rw [zH.1 hR]
 exact vS.arr λ_ _=> .cons (.val _) (.cons (.val _) .nil)
theorem mJ(sizes:List Int)(l:List ym)(s:Bool):yV Tryz.prog 127 [ints sizes,xG l,.val (.bool s)] (.sl 2 (sr sizes s l) vT):=by
 have hv:=nD sizes l
 refine yJ.of pg J_ Tryz.func127 rfl Tryz.ntmps127 Tryz.results127 rfl λh0 G0 O0 ga=>?_
 by_cases bm:vh sizes l
 rotate_left
 ·rw [sr,if_neg bm]
  repeat'(first|apply Sp.h|refine Lk.r rfl ?_|refine Rf.mk rfl ?_|refine xB ?_|refine xN ?_|(apply Cl.pG (hv);{exact ga};focus(repeat' constructor);done))
  exact⟨_,_,.one (.ic (.z)),rfl,rfl⟩
 have hlen:=tu (sizes:=sizes) (l:=l) (s:=s)
 rw [sr,if_pos bm] at hlen ⊢
 have V8:=bm.tl
 have qY:=bm.so
 repeat'(first|apply Sp.h|refine Lk.r rfl ?_|refine Rf.mk rfl ?_|refine xA ?_|refine Im.mk λ_=>?_|(apply Cl.pG (hv);{exact ga};focus(repeat' constructor);done))
 refine CA.uV 7 148 2 vT rfl λv=>?_
 refine CA.loop (λx:Nat×Value=>⟨[(0,ints sizes),(2,.val (.bool s)),(7,.ow x.2),(14,xG l),(15,it (l.length:Nat)),(16,it x.1)],[yb x.2 148 2 (pX sizes s (l.take x.1)) vT]⟩) (λx=>x.1<=l.length) (λx=>l.length - x.1) (0,v) xE (zZ _) ?_
 rintro⟨i,v⟩ hi
 simp only at hi
 simp only
 have Gf:((pX sizes s (l.take i)).length:Int)<=216 * i:=by rw [qM];exact(rQ i).2
 by_cases yd:i < l.length
 ·obtain⟨t,ht⟩:=zz yd
  have pD:=((bm.t i t ht).ok).1
  have fg:=ot t
  have V4:=fI sizes t.ya pD
  have bQ:wF sizes t.ya=wD sizes t.ya:=by rw [wF,if_pos pD]
  have kq:=rN sizes t.ya
  have hpo:=(sG qY t.ya).1
  rw [bQ] at kq
  obtain⟨w,hw⟩:∃w:Nat,wD sizes t.ya=(w:Int):=⟨_,(Int.toNat_of_nonneg kq.1).symm⟩
  have CX:=UW (t.lo,t.hi) w z6
  rw [hw] at V4 kq hpo
  have xe:=gh (sizes:=sizes) (s:=s) ht
  by_cases yL:decide (yi t.kind)=s
  ·rw [if_pos yL,bQ,hw,Int.toNat_natCast] at xe
   repeat'(first|apply Sp.h|refine Lk.r rfl ?_|refine Rf.mk rfl ?_|refine xA ?_|refine yu.r rfl ?_|refine xP ?_|refine yc.mk λ_=>?_|refine xU ?_|refine xT ?_|refine xI ?_|refine Ce.r ?_|refine Ch.l ⟨rfl,rfl⟩ ?_|refine Ch.r ?_|(apply y4.r;focus repeat' constructor)|(apply Fk.r;focus repeat' first|infer_instance|constructor)|refine xN ?_|refine Rf.mk ⟨rfl,rfl⟩ ?_|refine Rf.mk ⟨rfl,rfl,rfl⟩ ?_|refine Mp.same ?_|refine xD ?_|exact trivial|apply vn.both|refine xO ?_|(apply Cl.p (fg);focus(repeat' constructor);done)|(apply Cl.p (V4);focus(repeat' constructor);done)|(apply Cl.yY (fg);{exact zr})|(apply Cl.yY (V4);{exact zr})|(apply Cl.Mg CX;(focus((repeat'(first|exact y3.nil|apply y3.yB|(apply y3.yX;{exact z1};{exact zu};{exact za})|fail));done));{exact λ_ _=>P4};(rintro _ _ ⟨v2,rfl,rfl⟩)))
   all_goals first
    | (rw [<-xe];exact PA.lp (i+1,_) xE ⟨yd,by simp only;omega⟩)
    | exact absurd yL z8
  ·rw [if_neg yL,List.append_nil] at xe
   repeat'(first|apply Sp.h|refine Lk.r rfl ?_|refine Rf.mk rfl ?_|refine xA ?_|refine xB ?_|refine yc.mk λ_=>?_|refine xT ?_|refine xI ?_|refine Ch.l ⟨rfl,rfl⟩ ?_|(apply y4.r;focus repeat' constructor)|refine xN ?_|refine xO ?_|(apply Cl.p (fg);focus(repeat' constructor);done)|(apply Cl.yY (fg);{exact zr}))
   all_goals first
    | (rw [<-xe];exact PA.lp (i+1,v) xE ⟨yd,by simp only;omega⟩)
    | exact absurd z8 yL
 ·have:i=l.length:=z6
  subst this
  rw [zL]
  repeat'(first|apply Sp.h|refine Lk.r rfl ?_|refine Rf.mk rfl ?_|refine xB ?_|refine xN ?_|fail)
  exact⟨_,_,.one (.fz z1 z6 (.z)),rfl,rfl⟩
def tp(m:y8)(R:List (Int×Int)):List AV:= [ints m.y9,xG m.tables,.sl 1 m.xm ur,.sl 6 m.cons lE,.sl 3 m.ops PM,.sl 5 m.yP iq,.sl 3 m.yp tL,.sl 2 R vT]
theorem rl(i n:Int):y6 Tryz.prog 182 [it i,it n] (.val (.bool (decide (0<=i/\i < n)))):=by
 refine zy.of pg ye Tryz.func182 rfl Tryz.ntmps182 Tryz.results182 rfl λh0 G0 O0=>?_
 repeat'(first|apply Sp.h|refine Lk.r rfl ?_|refine Rf.mk rfl ?_|refine xA ?_|refine xB ?_|apply Bd.mk|refine xN ?_|intro _)
 all_goals exact Fin.p rfl (vb (by first|exact(zT z6).symm|exact(zF z6).symm|exact zD.2 z6))
theorem nF(x m:Int)(hm:0<=m/\m<=9223372036854775807):y6 Tryz.prog 187 [it x,it m] (.val (.bool (decide (-m<=x/\x<=m)))):=by
 refine zy.of pg ye Tryz.func187 rfl Tryz.ntmps187 Tryz.results187 rfl λh0 G0 O0=>?_
 repeat'(first|apply Sp.h|refine Lk.r rfl ?_|refine Rf.mk rfl ?_|refine xA ?_|refine xB ?_|apply Bd.mk|refine xP ?_|refine xN ?_|intro _)
 all_goals exact Fin.p rfl (vb (by first|exact(zT z6).symm|exact(zF z6).symm|exact zD.2 z6))
theorem Uf(m:y8)(R:List (Int×Int))(r:sU):y6 Tryz.prog 183 [.agg (tp m R),.agg (pA r)] (.val (.bool (decide (rJ R.length r)))):=by
 have q_:=nF r.bound 1000000000 z6
 refine zy.of pg ye Tryz.func183 rfl Tryz.ntmps183 Tryz.results183 rfl λh0 G0 O0=>?_
 repeat'(first|apply Sp.h|refine Lk.r rfl ?_|refine Rf.mk rfl ?_|apply Im.mk|apply yc.mk|refine xT ?_|intro _)
 rename_i b2 b3 _
 refine CA.loop (λx:Nat×Int=>⟨[(2,pm b2),(3,pm b3),(5,it x.2),(9,yO r.yO),(10,it (r.yO.length:Nat)),(11,it x.1)],[yr b3 170 (pA r),yr b2 196 (tp m R)]⟩) (λx=>x.1<=r.yO.length/\(∀j p,j < x.1->r.yO[j]?=some p->Xl R.length r.yO j p)/\ -1<=x.2/\(x.1=0->x.2= -1)/\∀q,0 < x.1->r.yO[x.1 - 1]?=some q->q.1=x.2) (λx=>r.yO.length - x.1) (0,-1) xE ⟨zZ _,λj p h=>(by simp only at h;omega),by simp,λ_=>rfl,λq h=>(by simp only at h;omega)⟩ ?_
 rintro⟨i,c⟩ ⟨hi,ha,nQ,tE,bI⟩
 simp only at hi ha nQ tE bI
 simp only
 by_cases yd:i < r.yO.length
 ·obtain⟨p,hp⟩:=zz yd
  have bt:=nF p.2 1000 z6
  have vE:Xl R.length r.yO i p↔c < p.1/\p.1 < R.length/\p.2≠0/\ -1000<=p.2/\p.2<=1000:=by
   constructor
   ·rintro⟨g1,g2,g3,g4,g5⟩
    refine⟨?_,g2,g3,g4⟩
    rcases Nat.eq_zero_or_pos i with h0|h0
    ·have:=tE h0;omega
    ·obtain⟨q,hq⟩:=zz (l:=r.yO) (i:=i - 1) z6
     have:=bI q h0 hq
     have:=g5 q h0 hq
     omega
   ·rintro⟨g1,g2,g3,g4⟩
    exact⟨z6,g2,g3,g4,λq h0 hq=>by have:=bI q h0 hq;omega⟩
  by_cases hT:Xl R.length r.yO i p
  ·have Ra:=vE.1 hT
   obtain⟨g1,g2,g3,g4,g5⟩:=Ra
   repeat'(first|apply Sp.h|refine Lk.r rfl ?_|refine Rf.mk rfl ?_|refine xA ?_|refine xB ?_|refine Im.mk λ_=>?_|refine yc.mk λ_=>?_|refine xT ?_|refine xI ?_|refine Ch.l ⟨rfl,rfl⟩ ?_|(apply y4.r;focus repeat' constructor)|refine xN ?_|refine xO ?_|(apply Cl.p (bt);focus repeat' constructor))
   all_goals first
    | exact PA.lp (i+1,p.1) xE ⟨⟨yd,yg hp ha hT,by simp only;omega,λh=>(by simp only at h;omega),λq _ hq=>(by simp only [Nat.add_sub_cancel] at hq;rw [hp] at hq;cases hq;rfl)⟩,by simp only;omega⟩
    | (exfalso;omega)
  ·have yD:¬rJ R.length r:=λh=>hT (h.t i p hp)
   have Ra:=λh=>hT (vE.2 h)
   repeat'(first|apply Sp.h|refine Lk.r rfl ?_|refine Rf.mk rfl ?_|refine xA ?_|refine xB ?_|(refine Bd.mk ?_ ?_ <;> intro _)|refine Im.mk λ_=>?_|refine yc.mk λ_=>?_|refine xT ?_|refine xI ?_|refine Ch.l ⟨rfl,rfl⟩ ?_|(apply y4.r;focus repeat' constructor)|refine xN ?_|refine xO ?_|(apply Cl.p (bt);focus repeat' constructor))
   all_goals first
    | exact Fin.p rfl (vb (zF yD).symm)
    | exact(Ra ⟨z6,z6,z6,z6,z6⟩).elim
 ·have:i=r.yO.length:=z6
  subst this
  repeat'(first|apply Sp.h|refine Lk.r rfl ?_|refine Rf.mk rfl ?_|refine xB ?_|refine xT ?_|refine xN ?_|(apply Cl.p (q_);focus repeat' constructor))
  refine Fin.p rfl (vb ?_)
  by_cases h9: -1000000000<=r.bound/\r.bound<=1000000000
  ·rw [zT h9,zT (show rJ R.length r from⟨xc ha,h9⟩)]
  ·rw [zF h9,zF (λh8:rJ R.length r=>h9 h8.b)]
theorem TN(a b:List (Int×Int)):y6 Tryz.prog 225 [yO a,yO b] (.val (.bool (decide (a=b)))):=by
 refine zy.of pg JI Tryz.func225 rfl Tryz.ntmps225 Tryz.results225 rfl λh0 G0 O0=>?_
 by_cases hl:a.length=b.length
 ·repeat'(first|apply Sp.h|refine Lk.r rfl ?_|refine Rf.mk rfl ?_|refine xA ?_|apply Im.mk|intro _)
  refine CA.loop (λi:Nat=>⟨[(0,yO a),(1,yO b),(11,yO a),(12,it (a.length:Nat)),(13,it i)],[]⟩) (λi=>i<=a.length/\a.take i=b.take i) (λi=>a.length - i) 0 xE ⟨zZ _,rfl⟩ ?_
  rintro i ⟨hi,he⟩
  by_cases yd:i < a.length
  ·obtain⟨p,hp⟩:=zz yd
   obtain⟨q,hq⟩:=zz (l:=b) (i:=i) z6
   by_cases V6:p=q
   ·subst V6
    repeat'(first|apply Sp.h|refine Lk.r rfl ?_|refine Rf.mk rfl ?_|refine xA ?_|refine yu.r rfl ?_|refine xI ?_|refine Ch.l ⟨rfl,rfl⟩ ?_|refine xK ?_|(apply Kf.mk;{exact z7})|refine xD ?_|refine xO ?_|fail)
    all_goals first
     | exact PA.lp (i+1) xE ⟨⟨yd,by rw [zK,zK,he,hp,hq]⟩,z6⟩
     | exact absurd rfl z8
   ·have vB:a≠b:=λh=>V6 (by rw [h,hq] at hp;cases hp;rfl)
    repeat'(first|apply Sp.h|refine Lk.r rfl ?_|refine Rf.mk rfl ?_|refine xA ?_|apply Bd.mk|refine yu.r rfl ?_|refine xI ?_|refine Ch.l ⟨rfl,rfl⟩ ?_|refine xN ?_|refine xK ?_|(apply Kf.mk;{exact z7})|refine xD ?_|refine xO ?_|intro _)
    all_goals first
     | exact Fin.p rfl (vb (zF vB).symm)
     | (rename_i h9;injection h9 with h8 h9;injection h9 with h9;exact(V6 (Prod.ext h8 h9)).elim)
  ·have:i=a.length:=z6
   rw [List.take_of_length_le z6,List.take_of_length_le z6] at he
   repeat'(first|apply Sp.h|refine Lk.r rfl ?_|refine Rf.mk rfl ?_|refine xB ?_|refine xN ?_|fail)
   exact Fin.p rfl (vb (zT he).symm)
 ·have vB:a≠b:=λh=>hl (by rw [h])
  repeat'(first|apply Sp.h|refine Lk.r rfl ?_|refine Rf.mk rfl ?_|refine xB ?_|apply Im.mk|refine xN ?_|intro _)
  all_goals exact Fin.p rfl (vb (zF vB).symm)
theorem gu(r:sU)(a b c:Int):y6 Tryz.prog 185 [.agg (pA r),it a,it b,it c] (.val (.bool (decide (r.yO= [(a,b)]/\r.bound=c)))):=by
 have he:=TN r.yO [(a,b)]
 refine zy.of pg ye Tryz.func185 rfl Tryz.ntmps185 Tryz.results185 rfl λh0 G0 O0=>?_
 by_cases ht:r.yO= [(a,b)]
 ·repeat'(first|apply Sp.h|refine Lk.r rfl ?_|refine Rf.mk rfl ?_|refine xA ?_|refine yc.mk λ_=>?_|refine xT ?_|(apply Fk.r;focus repeat' first|infer_instance|constructor)|refine xN ?_|refine Rf.mk ⟨rfl,rfl,rfl⟩ ?_|(apply Cl.yY (he);(focus((repeat'(first|exact y3.nil|apply y3.yB|(apply y3.yX;{exact z1};{exact zu};{exact za})|fail));done))))
  all_goals first
   | exact Fin.p rfl (vb (zD.2 ⟨λh=>⟨ht,h⟩,λh=>h.2⟩))
   | exact absurd ht z8
 ·repeat'(first|apply Sp.h|refine Lk.r rfl ?_|refine Rf.mk rfl ?_|refine xB ?_|refine yc.mk λ_=>?_|refine xT ?_|(apply Fk.r;focus repeat' first|infer_instance|constructor)|refine xN ?_|refine Rf.mk ⟨rfl,rfl,rfl⟩ ?_|(apply Cl.yY (he);(focus((repeat'(first|exact y3.nil|apply y3.yB|(apply y3.yX;{exact z1};{exact zu};{exact za})|fail));done))))
  all_goals first
   | exact Fin.p rfl (vb (zF λh=>ht h.1).symm)
   | exact absurd z8 ht
/-! ### cA in tables -/
theorem Wh{g:FuncId}{caps:List AV}{p:ym->Bool}{l:List ym}(hg:∀t∈l,y6 Tryz.prog g (.agg (v8 t) :: caps) (.val (.bool (p t))))(he:en g=true) :
  y6 Tryz.prog 261 [xG l,.fn g caps] (it (wW p l)):=by
 refine zy.of pg ye Tryz.func261 rfl Tryz.ntmps261 Tryz.results261 rfl λh0 G0 O0=>?_
 repeat'(first|apply Sp.h|refine Lk.r rfl ?_|refine Rf.mk rfl ?_|apply Im.mk|intro _)
 refine CA.loop (λi:Nat=>⟨[(0,xG l),(1,.fn g caps),(7,it (l.length:Nat)),(8,it i)],[]⟩)
  (λi=>i<=l.length/\∀j y,j < i->l[j]?=some y->p y=false) (λi=>l.length - i) 0 xE ⟨zZ _,λj y h=>z6⟩ ?_
 rintro i ⟨hi,hj⟩
 by_cases yd:i < l.length
 ·obtain⟨e,hx⟩:=zz yd
  have WV:=hg e (zM hx)
  repeat'(first|apply Sp.h|refine Lk.r rfl ?_|refine Rf.mk rfl ?_|refine xA ?_|(refine Bd.mk ?_ ?_ <;> intro _)|refine xI ?_|refine Ch.l ⟨rfl,rfl⟩ ?_|refine xN ?_|(apply Rf.mk;{exact z8})|refine xO ?_|(apply Cl.p (WV);(focus repeat'(first|apply y3.yB|fail))))
  ·exact pa _
  ·rename_i hp
   exact Fin.p rfl (by rw [wW,uA hx hp hj,if_pos yd])
  ·rename_i hp
   exact PA.lp (i+1) xE ⟨⟨yd,yg hx hj (by simpa using hp)⟩,z6⟩
 ·repeat'(first|apply Sp.h|refine Lk.r rfl ?_|refine Rf.mk rfl ?_|refine xB ?_|refine xN ?_|fail)
  exact Fin.p rfl (by rw [wW,wL (λx hx=>by obtain⟨j,hx⟩:=zO hx;exact hj j x (by have:=(zS.1 hx).1;omega) hx),if_neg z6])
theorem f_{g:FuncId}{caps:List AV}{p:ym->Bool}{l:List ym}(hg:∀t∈l,y6 Tryz.prog g (.agg (v8 t) :: caps) (.val (.bool (p t))))(he:en g=true) :
  y6 Tryz.prog 223 [xG l,.fn g caps] (.val (.bool (decide (∃t∈l,p t=true)))):=by
 have hi:=Wh hg he
 refine zy.of pg ye Tryz.func223 rfl Tryz.ntmps223 Tryz.results223 rfl λh0 G0 O0=>?_
 repeat'(first|apply Sp.h|refine Lk.r rfl ?_|refine Rf.mk rfl ?_|refine xN ?_|(apply Cl.p (hi);focus repeat' constructor))
 refine Fin.p rfl (vb (zD.2 ?_))
 rw [<-tT]
 unfold wW
 split <;> omega
noncomputable instance (y9:List Int) (c:mh) (t:ym):Decidable (iy y9 c t):=zC _
theorem Tu(m:y8)(R:List (Int×Int))(c:mh)(t:ym)(h:uO m.y9 t.ya):y6 Tryz.prog 224 [.agg (v8 t),.ad (lE c) 0,.ad (tp m R) 0] (.val (.bool (decide (iy m.y9 c t)))):=by
 obtain⟨g1,g2,g3⟩:=h
 refine zy.of pg JJ Tryz.func224 rfl Tryz.ntmps224 Tryz.results224 rfl λh0 G0 O0=>?_
 by_cases hl:t.ya.length=2
 ·obtain⟨x,hx⟩:=zz (l:=t.ya) (i:=0) z6
  obtain⟨y,hy⟩:=zz (l:=t.ya) (i:=1) z6
  have rY:t.ya= [x,y]:=by
   match hc:t.ya,hl with
   | [u,v],_=>rw [hc] at hx hy;cases hx;cases hy;rfl
  obtain⟨lx,Zl⟩:=g3 x (zM hx)
  obtain⟨k,rfl⟩:=Int.eq_ofNat_of_zero_le lx
  obtain⟨z,hz⟩:=zz (l:=m.y9) (i:=k) z6
  by_cases hT:iy m.y9 c t
  ·have Ra:=hT
   obtain⟨h1,h2,w,h3,h4⟩:=Ra
   rw [rY] at h3
   injection h3 with e1 h3
   injection h3 with e2 h3
   subst e2
   obtain rfl:k=w:=z6
   rw [hz] at h4
   injection h4 with h4
   repeat'(first|apply Sp.h|refine Lk.r rfl ?_|refine Rf.mk rfl ?_|refine xA ?_|refine yu.r rfl ?_|apply Im.mk|apply yc.mk|refine xT ?_|refine xI ?_|refine xN ?_|refine xD ?_|intro _)
   all_goals first
    | exact Fin.p rfl (vb (by rw [zT hT];first|exact zT h4|exact zT z6))
    | exact absurd z8 z8
    | exact(by omega:False).elim
  ·have yD:¬(t.kind=0/\t.first=c.first/\(k:Int)=y/\z=c.size):=λ⟨h1,h2,h3,h4⟩=>hT ⟨h1,h2,k,by rw [rY,h3],by rw [hz,h4]⟩
   repeat'(first|apply Sp.h|refine Lk.r rfl ?_|refine Rf.mk rfl ?_|refine xA ?_|refine xB ?_|apply Bd.mk|refine yu.r rfl ?_|apply Im.mk|apply yc.mk|refine xT ?_|refine xI ?_|refine xN ?_|refine xD ?_|intro _)
   all_goals first
    | exact Fin.p rfl (vb (zF hT).symm)
    | exact Fin.p rfl (vb (by rw [zF hT];exact zF (λh9=>yD ⟨z6,z6,z6,z6⟩)))
 ·have hT:¬iy m.y9 c t:=by
   rintro⟨-,-,x,h,-⟩
   exact hl (by rw [h];rfl)
  repeat'(first|apply Sp.h|refine Lk.r rfl ?_|refine Rf.mk rfl ?_|refine xA ?_|refine xB ?_|apply Bd.mk|refine yu.r rfl ?_|apply Im.mk|apply yc.mk|refine xT ?_|refine xN ?_|refine xD ?_|intro _)
  all_goals exact Fin.p rfl (vb (zF hT).symm)
theorem T8(m:y8)(R:List (Int×Int))(c:mh)(hm:xS m.y9 m.tables):y6 Tryz.prog 184 [.agg (tp m R),.agg (lE c)] (.val (.bool (decide (eX m c)))):=by
 have hc:=f_ (g:=224) (caps:= [.ad (lE c) 0,.ad (tp m R) 0]) (p:=λt=>decide (iy m.y9 c t)) (l:=m.tables) (λt ht=>Tu m R c t (hm.2.2.2 t ht).1) rfl
 have vE:eX m c↔c.row.yO.length=0/\c.row.bound=0/\∃t∈m.tables,decide (iy m.y9 c t)=true:=by
  constructor
  ·rintro⟨h1,h2,i,t,ht,h3⟩
   exact⟨by rw [h1];rfl,h2,t,zM ht,zT h3⟩
  ·rintro⟨h1,h2,t,ht,h3⟩
   obtain⟨i,hi⟩:=zO ht
   exact⟨List.length_eq_zero_iff.1 h1,h2,i,t,hi,of_decide_eq_true h3⟩
 refine zy.of pg ye Tryz.func184 rfl Tryz.ntmps184 Tryz.results184 rfl λh0 G0 O0=>?_
 (repeat'(first|(show CA _ _ (Code.region 1 _ _) _ _;apply z_.out)|apply Sp.h|refine Lk.r rfl ?_|refine Rf.mk rfl ?_|apply yc.mk|intro _));any_goals apply z_.mk
 refine CA.xt 2 rfl z1 ?_
 refine CA.xt 3 rfl z1 ?_
 by_cases h0:c.row.yO.length=0/\c.row.bound=0
 ·obtain⟨h1,h2⟩:=h0
  repeat'(first|apply Sp.h|refine Lk.r rfl ?_|refine Rf.mk rfl ?_|refine xA ?_|refine Im.mk λ_=>?_|refine xN ?_|(apply Cl.p (hc);focus repeat' constructor))
  all_goals first
   | exact Fin.p rfl (vb (zD.2 ⟨λh=>vE.2 ⟨h1,h2,h⟩,λh=>(vE.1 h).2.2⟩))
   | (exfalso;omega)
 ·have yD:¬eX m c:=λh=>h0 ⟨(vE.1 h).1,(vE.1 h).2.1⟩
  repeat'(first|apply Sp.h|refine Lk.r rfl ?_|refine Rf.mk rfl ?_|refine xA ?_|refine xB ?_|(refine Bd.mk ?_ ?_ <;> intro _)|refine Im.mk λ_=>?_|refine xN ?_|(apply Cl.p (hc);(focus repeat'(first|fail))))
  all_goals first
   | exact Fin.p rfl (vb (zF yD).symm)
   | exact(h0 ⟨z6,z6⟩).elim
theorem jJ(m:y8)(hm:xS m.y9 m.tables):y6 Tryz.prog 128 [.agg (tp m (wA m))] (.val (.bool (decide (qu m)))):=by
 have R0:=tu (sizes:=m.y9) (s:=true) (l:=m.tables)
 have bj:=Y7 (sizes:=m.y9) (s:=true) (l:=m.tables)
 change (wA m).length<=128 at R0
 change LC (wA m) at bj
 have wQ:qu m↔2 * (wA m).length<=m.cons.length/\m.cons.length<=512/\∀i c,m.cons[i]?=some c->iB (wA m) i c/\fA m (wA m).length i c:=⟨λh=>⟨h.a,h.b,h.c⟩,λh=>⟨h.1,h.2.1,h.2.2⟩⟩
 obtain⟨rs,YM⟩:∃rs,rs=wA m:=⟨_,rfl⟩
 rw [<-YM] at R0 bj wQ ⊢
 refine zy.of pg JZ Tryz.func128 rfl Tryz.ntmps128 Tryz.results128 rfl λh0 G0 O0=>?_
 by_cases h0:2 * rs.length<=m.cons.length/\m.cons.length<=512
 rotate_left
 ·have yD:¬qu m:=λh=>h0 ⟨(wQ.1 h).1,(wQ.1 h).2.1⟩
  repeat'(first|apply Sp.h|refine Lk.r rfl ?_|refine Rf.mk rfl ?_|refine xA ?_|refine xB ?_|apply Bd.mk|refine xP ?_|apply Im.mk|apply yc.mk|refine xT ?_|refine xN ?_|intro _)
  all_goals first
   | exact Fin.p rfl (vb (zF yD).symm)
   | exact(h0 ⟨z6,z6⟩).elim
 obtain⟨nQ,ue⟩:=h0
 repeat'(first|apply Sp.h|refine Lk.r rfl ?_|refine Rf.mk rfl ?_|refine xB ?_|refine xP ?_|apply Im.mk|apply yc.mk|refine xT ?_|intro _)
 all_goals try exact(by omega:False).elim
 rename_i b1 _ _ _ _
 refine CA.loop (λi:Nat=>⟨[(1,pm b1),(26,.sl 6 m.cons lE),(27,it (m.cons.length:Nat)),(28,it i)],[yr b1 196 (tp m rs)]⟩) (λi=>i<=m.cons.length/\∀j c,j < i->m.cons[j]?=some c->iB rs j c/\fA m rs.length j c) (λi=>m.cons.length - i) 0 xE ⟨zZ _,λj c h=>z6⟩ ?_
 rintro i ⟨hi,ha⟩
 by_cases yd:i < m.cons.length
 ·obtain⟨c,hc⟩:=zz yd
  have bo:=rl c.family (m.xm.length:Nat)
  have hg:=T8 m rs c hm
  have tN:=Uf m rs c.row
  by_cases uU:i / 2 < rs.length
  ·obtain⟨p,hp⟩:=zz uU
   obtain⟨p1,p2,p3⟩:=bj p (zM hp)
   have Hk:rs[((i:Int) / 2).toNat]?=some p:=by rw [show((i:Int) / 2).toNat=i / 2 by omega];exact hp
   have hz:0<=(i:Int) / 2:=z6
   have bC:(i:Int) / 2 < rs.length:=z6
   have MK:=gu c.row ((i:Int) / 2) (-1) (-p.1)
   have nP:=gu c.row ((i:Int) / 2) 1 p.2
   have Mo:((i / 2:Nat):Int)=(i:Int) / 2:=z6
   have hB:iB rs i c↔c.row.yO= [((i:Int) / 2,if i % 2=0 then -1 else 1)]/\c.row.bound=if i % 2=0 then -p.1 else p.2:=by
    constructor
    ·intro h
     have:=h p hp
     rwa [Mo] at this
    ·intro h q hq
     rw [hp] at hq
     cases hq
     rw [Mo]
     exact h
   by_cases Rs:i % 2=0
   ·rw [if_pos Rs,if_pos Rs] at hB
    have D9:(i:Int) % 2=0:=z6
    by_cases hC:iB rs i c/\fA m rs.length i c
    ·have vu:=yg hc ha hC
     obtain⟨hb,⟨lM,Zv⟩,hk⟩:=hC
     have hb:=hB.1 hb
     rcases hk with⟨k1,k2,k3,k4⟩|⟨k1,k2,k3⟩
     ·repeat'(first|apply Sp.h|refine Lk.r rfl ?_|refine Rf.mk rfl ?_|refine xA ?_|refine yu.r rfl ?_|refine xP ?_|refine Im.mk λ_=>?_|refine yc.mk λ_=>?_|refine xT ?_|refine xI ?_|refine Ch.l ⟨rfl,rfl⟩ ?_|refine Ch.r ?_|(apply y4.r;focus repeat' constructor)|refine xN ?_|refine xD ?_|refine xO ?_|(apply Cl.p (bo);focus(repeat' constructor);done)|(apply Cl.p (tN);focus(repeat' constructor);done)|(apply Cl.p (hg);focus(repeat' constructor);done)|(apply Cl.p (MK);focus(repeat' constructor);done))
      all_goals first
       | exact PA.lp (i+1) xE ⟨⟨yd,vu⟩,z6⟩
       | exact absurd hb z8
       | exact absurd k4 z8
       | exact(by omega:False).elim
     ·omega
    ·have yD:¬qu m:=λh=>hC ((wQ.1 h).2.2 i c hc)
     repeat'(first|apply Sp.h|refine Lk.r rfl ?_|refine Rf.mk rfl ?_|refine xA ?_|refine xB ?_|(refine Bd.mk ?_ ?_ <;> intro _)|refine yu.r rfl ?_|refine xP ?_|refine Im.mk λ_=>?_|refine yc.mk λ_=>?_|refine xT ?_|refine xI ?_|refine Ch.l ⟨rfl,rfl⟩ ?_|refine Ch.r ?_|(apply y4.r;focus repeat' constructor)|refine xN ?_|refine xD ?_|refine xO ?_|(apply Cl.p (bo);focus(repeat' constructor);done)|(apply Cl.p (tN);focus(repeat' constructor);done)|(apply Cl.p (hg);focus(repeat' constructor);done)|(apply Cl.p (MK);focus(repeat' constructor);done))
     all_goals first
      | exact Fin.p rfl (vb (zF yD).symm)
      | exact(hC ⟨hB.2 z8,⟨z6,z6⟩,.inl ⟨z6,z6,z6,by assumption⟩⟩).elim
      | exact(by omega:False).elim
   ·rw [if_neg Rs,if_neg Rs] at hB
    have D9:¬(i:Int) % 2=0:=z6
    by_cases hC:iB rs i c/\fA m rs.length i c
    ·have vu:=yg hc ha hC
     obtain⟨hb,⟨lM,Zv⟩,hk⟩:=hC
     have hb:=hB.1 hb
     rcases hk with⟨k1,k2,k3,k4⟩|⟨k1,k2,k3⟩
     ·repeat'(first|apply Sp.h|refine Lk.r rfl ?_|refine Rf.mk rfl ?_|refine xA ?_|refine xB ?_|refine xP ?_|refine Im.mk λ_=>?_|refine yc.mk λ_=>?_|refine xT ?_|refine xI ?_|refine Ch.l ⟨rfl,rfl⟩ ?_|refine Ch.r ?_|(apply y4.r;focus repeat' constructor)|refine xN ?_|refine xO ?_|(apply Cl.p (bo);focus(repeat' constructor);done)|(apply Cl.p (tN);focus(repeat' constructor);done)|(apply Cl.p (hg);focus(repeat' constructor);done)|(apply Cl.p (nP);focus(repeat' constructor);done))
      all_goals first
       | exact PA.lp (i+1) xE ⟨⟨yd,vu⟩,z6⟩
       | exact absurd hb z8
       | exact absurd k4 z8
       | exact(by omega:False).elim
     ·omega
    ·have yD:¬qu m:=λh=>hC ((wQ.1 h).2.2 i c hc)
     repeat'(first|apply Sp.h|refine Lk.r rfl ?_|refine Rf.mk rfl ?_|refine xA ?_|refine xB ?_|(refine Bd.mk ?_ ?_ <;> intro _)|refine xP ?_|refine Im.mk λ_=>?_|refine yc.mk λ_=>?_|refine xT ?_|refine xI ?_|refine Ch.l ⟨rfl,rfl⟩ ?_|refine Ch.r ?_|(apply y4.r;focus repeat' constructor)|refine xN ?_|refine xO ?_|(apply Cl.p (bo);focus(repeat' constructor);done)|(apply Cl.p (tN);focus(repeat' constructor);done)|(apply Cl.p (hg);focus(repeat' constructor);done)|(apply Cl.p (nP);focus(repeat' constructor);done))
     all_goals first
      | exact Fin.p rfl (vb (zF yD).symm)
      | exact(hC ⟨hB.2 z8,⟨z6,z6⟩,.inl ⟨z6,z6,z6,by assumption⟩⟩).elim
      | exact(by omega:False).elim
  ·have YX:iB rs i c:=λp hp=>absurd (zS.1 hp).1 uU
   have bC:¬(i:Int) / 2 < rs.length:=z6
   by_cases hC:fA m rs.length i c
   ·have vu:=yg hc ha ⟨YX,hC⟩
    obtain⟨⟨lM,Zv⟩,hk⟩:=hC
    rcases hk with⟨k1,k2,k3,k4⟩|⟨k1,k2,k3⟩
    ·repeat'(first|apply Sp.h|refine Lk.r rfl ?_|refine Rf.mk rfl ?_|refine xA ?_|refine xB ?_|refine xP ?_|refine Im.mk λ_=>?_|refine yc.mk λ_=>?_|refine xT ?_|refine xI ?_|refine Ch.l ⟨rfl,rfl⟩ ?_|refine Ch.r ?_|(apply y4.r;focus repeat' constructor)|refine xN ?_|refine xO ?_|(apply Cl.p (bo);focus(repeat' constructor);done)|(apply Cl.p (tN);focus(repeat' constructor);done)|(apply Cl.p (hg);focus(repeat' constructor);done))
     all_goals first
      | exact PA.lp (i+1) xE ⟨⟨yd,vu⟩,z6⟩
      | exact absurd k4 z8
      | exact(by omega:False).elim
    ·repeat'(first|apply Sp.h|refine Lk.r rfl ?_|refine Rf.mk rfl ?_|refine xA ?_|refine xB ?_|refine xP ?_|refine Im.mk λ_=>?_|refine yc.mk λ_=>?_|refine xT ?_|refine xI ?_|refine Ch.l ⟨rfl,rfl⟩ ?_|(apply y4.r;focus repeat' constructor)|refine xN ?_|refine xO ?_|(apply Cl.p (bo);focus(repeat' constructor);done)|(apply Cl.p (tN);focus(repeat' constructor);done)|(apply Cl.p (hg);focus(repeat' constructor);done))
     all_goals first
      | exact PA.lp (i+1) xE ⟨⟨yd,vu⟩,z6⟩
      | exact absurd k3 z8
      | exact(by omega:False).elim
   ·have yD:¬qu m:=λh=>hC ((wQ.1 h).2.2 i c hc).2
    repeat'(first|apply Sp.h|refine Lk.r rfl ?_|refine Rf.mk rfl ?_|refine xA ?_|refine xB ?_|(refine Bd.mk ?_ ?_ <;> intro _)|refine xP ?_|refine Im.mk λ_=>?_|refine yc.mk λ_=>?_|refine xT ?_|refine xI ?_|refine Ch.l ⟨rfl,rfl⟩ ?_|refine Ch.r ?_|(apply y4.r;focus repeat' constructor)|refine xN ?_|refine xO ?_|(apply Cl.p (bo);focus(repeat' constructor);done)|(apply Cl.p (tN);focus(repeat' constructor);done)|(apply Cl.p (hg);focus(repeat' constructor);done))
    all_goals first
     | exact Fin.p rfl (vb (zF yD).symm)
     | exact(hC ⟨⟨z6,z6⟩,.inl ⟨z6,z6,z6,by assumption⟩⟩).elim
     | exact(hC ⟨⟨z6,z6⟩,.inr ⟨z6,z6,by assumption⟩⟩).elim
     | exact(by omega:False).elim
 ·have:i=m.cons.length:=z6
  subst this
  repeat'(first|apply Sp.h|refine Lk.r rfl ?_|refine Rf.mk rfl ?_|refine xB ?_|refine xN ?_|fail)
  exact Fin.p rfl (vb (zT (wQ.2 ⟨nQ,ue,xc ha⟩)).symm)
noncomputable instance (m:y8):Decidable (lG m):=zC _
theorem Ia(m:y8)(R:List (Int×Int))(x:Int):y6 Tryz.prog 186 [it x,.ad (tp m R) 0] (.val (.bool (!decide (-1<=x/\x < m.y9.length)))):=by
 refine zy.of pg ye Tryz.func186 rfl Tryz.ntmps186 Tryz.results186 rfl λh0 G0 O0=>?_
 repeat'(first|apply Sp.h|refine Lk.r rfl ?_|refine Rf.mk rfl ?_|refine xA ?_|refine xB ?_|apply Bd.mk|apply Im.mk|refine xN ?_|intro _)
 all_goals
  refine Fin.p rfl (vb ?_)
  by_cases hc: -1<=x/\x < m.y9.length
  ·rw [zT hc]
   first
    | exact zF z6
    | (exfalso;omega)
  ·rw [zF hc]
   first
    | exact zT z6
    | rfl
    | (exfalso;omega)
theorem iF(m:y8)(R:List (Int×Int))(wU:m.ops.length<=1000000000):yV Tryz.prog 129 [.agg (tp m R)] (.val (.bool (decide (lG m)))):=by
 have hd:=lf (m.ops.map mQ.name)
 refine yJ.of pg ye Tryz.func129 rfl Tryz.ntmps129 Tryz.results129 rfl λh0 G0 O0 ga=>?_
 (repeat'(first|(show CA _ _ (Code.region 1 _ _) _ _;apply z_.out)|apply Sp.h|refine Lk.r rfl ?_|refine Rf.mk rfl ?_|apply yc.mk|intro _));any_goals apply z_.mk
 refine CA.xt 1 rfl z1 ?_
 repeat'(first|apply Sp.h|refine Lk.r rfl ?_|refine Rf.mk rfl ?_|apply Im.mk|intro _)
 refine CA.uV 3 9 1 ur rfl λv=>?_
 refine CA.loop (λx:Nat×Value=>⟨[(1,.ad (tp m R) 0),(3,.ow x.2),(8,.sl 3 m.ops PM),(9,it (m.ops.length:Nat)),(10,it x.1)],[yb x.2 9 1 ((m.ops.take x.1).map mQ.name) ur]⟩) (λx=>x.1<=m.ops.length/\∀j o,j < x.1->m.ops[j]?=some o->RM m o/\o.y9.length<=3) (λx=>m.ops.length - x.1) (0,v) xE ⟨zZ _,λj o h=>by simp at h⟩ ?_
 rintro⟨i,v⟩ ⟨hi,qY⟩
 simp only at hi qY
 simp only
 have jQ:((m.ops.take i).map mQ.name).length=i:=by rw [List.length_map,zN];omega
 by_cases yd:i < m.ops.length
 ·obtain⟨o,ho⟩:=zz yd
  have bE:(m.ops.take (i+1)).map mQ.name=(m.ops.take i).map mQ.name ++ [o.name]:=by rw [zK,ho,List.map_append];rfl
  generalize hgn:(m.ops.take i).map mQ.name=names at jQ bE ⊢
  have YU:=qS (Ia m R) rfl o.y9
  have hq:¬xw (λx:Int=> !decide (-1<=x/\x < m.y9.length)) o.y9 < o.y9.length↔RM m o:=by
   rw [tT]
   constructor
   ·intro h k s hs
    exact Classical.byContradiction λh9=>h ⟨s,zM hs,by rw [zF h9];rfl⟩
   ·rintro h ⟨x,hx,h9⟩
    obtain⟨k,hk⟩:=zO hx
    rw [zT (h k x hk)] at h9
    cases h9
  repeat'(first|apply Sp.h|refine Lk.r rfl ?_|refine Rf.mk rfl ?_|refine xA ?_|refine xB ?_|(refine Bd.mk ?_ ?_ <;> intro _)|refine xP ?_|refine Im.mk λ_=>?_|refine yc.mk λ_=>?_|refine xU ?_|refine xT ?_|refine xI ?_|refine Ce.r ?_|refine Ch.l ⟨rfl,rfl⟩ ?_|(apply y4.r;focus repeat' constructor)|(apply Fk.r;focus repeat' first|infer_instance|constructor)|refine xN ?_|refine Rf.mk ⟨rfl,rfl⟩ ?_|refine Rf.mk ⟨rfl,rfl,rfl⟩ ?_|(apply Mp.lit;(focus repeat(first|exact yK.nil|(apply yK.cons;{exact zu})|(apply yK.inv;{exact z1};{exact zh}))))|refine xO ?_|(apply Cl.p (YU);focus repeat' constructor))
  ·exact Fin.p rfl (vb (zF λh:lG m=>by have:=(h.s i o ho).2;omega).symm)
  ·exact Fin.p rfl (vb (zF λh:lG m=>absurd z8 (hq.2 (h.s i o ho).1)).symm)
  ·rename_i v2 _ h3 h4
   refine PA.lp (i+1,v2) ?_ ⟨⟨yd,yg ho qY ⟨hq.1 h4,z6⟩⟩,by simp only;omega⟩
   simp only
   rw [bE]
   exact xE
 have vk:i=m.ops.length:=z6
 subst vk
 have qY:=xc qY
 rw [zL]
 rw [zL] at jQ
 by_cases Gg:m.ops.length<=8
 ·have vE:lG m↔o6 (m.ops.map mQ.name):=⟨λh=>h.d,λh=>⟨qY,Gg,h⟩⟩
  generalize m.ops.map mQ.name=names at hd jQ vE ⊢
  repeat'(first|apply Sp.h|refine Lk.r rfl ?_|refine Rf.mk rfl ?_|refine xA ?_|refine xB ?_|refine xU ?_|refine xN ?_|(apply Cl.dh (hd);{exact ga};(focus((repeat'(first|exact y3.nil|(apply y3.yY;{exact z1};{exact zc})|fail));done))))
  all_goals first
   | exact Fin.p rfl (vb (zD.2 vE.symm))
   | (exfalso;omega)
 ·have yD:¬lG m:=λh=>Gg h.l
  generalize m.ops.map mQ.name=names at hd jQ ⊢
  repeat'(first|apply Sp.h|refine Lk.r rfl ?_|refine Rf.mk rfl ?_|refine xB ?_|refine xU ?_|refine xN ?_|(apply Cl.dh (hd);{exact ga};{exact zr}))
  all_goals first
   | exact Fin.p rfl (vb (zF yD).symm)
   | (exfalso;omega)
def kM(m:y8)(u:Int×Int×Int):Prop:=∃ti q t,uS m.y9 m.tables false u.2.1=some (ti,q)/\m.tables[ti]?=some t/\eS t u.1 u.2.2
noncomputable instance (m:y8) (u:Int×Int×Int):Decidable (kM m u):=zC _
theorem _root_.Go.CF.zg {p:Prop}(h:p:=by first|omega|(simp <;> omega)):p:=h
theorem XZ(m:y8)(R:List (Int×Int))(u:Int×Int×Int)(hu:u.2.1<=9223372036854775807):yV Tryz.prog 227 [.agg (tp m R),.agg (tL u)] (.val (.bool (decide (kM m u)))):=by
 have ht:=cj m.y9 m.tables false u.2.1 hu
 have wQ:kM m u↔∃ti q t,uS m.y9 m.tables false u.2.1=some (ti,q)/\m.tables[ti]?=some t/\eS t u.1 u.2.2:=Iff.rfl
 have xC:=@ZZ m.y9 m.tables false u.2.1
 obtain⟨k,ce,v⟩:=u
 simp only at ht wQ xC
 generalize uS m.y9 m.tables false ce=tf at ht wQ xC
 refine yJ.of pg ye Tryz.func227 rfl Tryz.ntmps227 Tryz.results227 rfl λh0 G0 O0 ga=>?_
 cases tf with
 | none =>
  have yD:¬kM m (k,ce,v):=λh=>by obtain⟨_,_,_,h1,-⟩:=wQ.1 h;cases h1
  unfold X6 at ht
  repeat'(first|apply Sp.h|refine Lk.r rfl ?_|refine Rf.mk rfl ?_|refine xA ?_|refine xB ?_|(refine Bd.mk ?_ ?_ <;> intro _)|refine yu.r rfl ?_|refine xP ?_|refine Im.mk λ_=>?_|refine yc.mk λ_=>?_|refine xU ?_|refine xT ?_|refine xI ?_|(apply Ix.r;{exact z8};{exact z6})|refine xJ ?_|refine Ce.l rfl ?_|refine Ce.r ?_|refine Ch.l ⟨rfl,rfl⟩ ?_|refine Ch.r ?_|refine xV ?_|(apply y4.r;focus repeat' constructor)|(apply Fk.r;focus repeat' first|infer_instance|constructor)|refine xN ?_|refine Rf.mk ⟨rfl,rfl⟩ ?_|refine Rf.mk ⟨rfl,rfl,rfl⟩ ?_|(apply Jx.r;{exact zj};{exact zb})|refine Up.r rfl ?_|(apply Up.inv;{exact z1};{exact zh})|refine xK ?_|(apply Kf.mk;{exact z7})|refine xM ?_|refine eo.r rfl ?_|(apply Zx.agg;{exact zu};{exact zu};{exact z1})|(apply Zx.b;{exact zu})|(apply Zx.i;{exact zu})|apply Zx.one|(apply sf.s;{exact zi})|(apply sf.n;{exact zi})|(apply Rf.mk;{exact z8})|refine yC.r xL 0 rfl ?_|refine Mp.same ?_|(apply Mp.lit;(focus repeat(first|exact yK.nil|(apply yK.cons;{exact zu})|(apply yK.inv;{exact z1};{exact zh}))))|refine xD ?_|exact trivial|(apply Lk.r;{exact z8})|(apply Sx.r;{exact zj};{exact zc})|(apply CA.sB;{exact zu};{exact z7};{exact z7};{exact zo};{exact zu};intro X1 tr)|(apply mS.nr;{exact zu})|(apply mS.lt;(focus first|assumption|omega|(apply tr;repeat constructor)))|(apply ZB.nr;{exact zu})|apply vn.both|refine xO ?_|(apply nX.part;{exact zm})|(apply nX.all;{exact zm})|(apply ep.r;{exact z1})|(apply kB.short;{exact zu};{exact zg};{exact zg})|(apply kB.g_;{exact zu};{exact zg};{exact zg})|(apply ZA.mk';{exact z1};{exact z1};{exact zf})|(apply r_.i64;{exact zu};{exact z6})|(apply r_.u64;{exact zu};{exact z6})|(apply r_.u8;{exact zu};{exact z6})|refine Rf.mk ⟨rfl,by decide⟩ ?_|(apply Rf.mk;{exact⟨by decide,rfl⟩})|(apply Sx.r;{exact z8};{exact zc})|(apply Ix.q;{exact z8};{exact z8})|(apply Vd.r;{exact z1})|(apply Rc.r;{exact z1})|(apply Rg.mk)|(apply Ix.q;{exact z8};{exact z8})|(apply bz.r;{exact z1})|(apply Ix.q;{exact z8};{exact z8})|(apply Cl.pG (ht);{exact ga};(focus((repeat'(first|exact y3.nil|apply y3.yB|apply y3.vC|(apply y3.mp;{exact zu})|(apply y3.yY;{exact z1};{exact zc})|(apply y3.yX;{exact z1};{exact zu};{exact za})|(apply y3.cell;{exact z1})|refine y3.fn ?_ ?_|apply y3.agg));done))))
  all_goals exact Fin.p rfl (vb (zF yD).symm)
 | some r =>
  obtain⟨ti,q⟩:=r
  obtain⟨t,ew⟩:=xC rfl
  have vE:kM m (k,ce,v)↔eS t k v:=by
   rw [wQ]
   constructor
   ·rintro⟨ti',q',t',h1,h2,h3⟩
    cases h1
    rw [ew] at h2
    cases h2
    exact h3
   ·exact λh=>⟨ti,q,t,rfl,ew,h⟩
  have hU:eS t k v↔(t.kind=2∨t.kind=3->(k=0∨k=1)/\v=0)/\(¬(t.kind=2∨t.kind=3)->k=2/\t.lo<=v/\v<=t.hi):=Iff.rfl
  unfold X6 at ht
  by_cases hs:t.kind=2∨t.kind=3
  ·have MU:kM m (k,ce,v)↔(k=0∨k=1)/\v=0:=vE.trans (hU.trans ⟨λh=>h.1 hs,λh=>⟨λ_=>h,λh9=>absurd hs h9⟩⟩)
   repeat'(first|apply Sp.h|refine Lk.r rfl ?_|refine Rf.mk rfl ?_|refine xA ?_|refine xB ?_|(refine Bd.mk ?_ ?_ <;> intro _)|refine yu.r rfl ?_|refine xP ?_|refine Im.mk λ_=>?_|refine yc.mk λ_=>?_|refine xU ?_|refine xT ?_|refine xI ?_|(apply Ix.r;{exact z8};{exact z6})|refine xJ ?_|refine Ce.l rfl ?_|refine Ce.r ?_|refine Ch.l ⟨rfl,rfl⟩ ?_|refine Ch.r ?_|refine xV ?_|(apply y4.r;focus repeat' constructor)|(apply Fk.r;focus repeat' first|infer_instance|constructor)|refine xN ?_|refine Rf.mk ⟨rfl,rfl⟩ ?_|refine Rf.mk ⟨rfl,rfl,rfl⟩ ?_|(apply Jx.r;{exact zj};{exact zb})|refine Up.r rfl ?_|(apply Up.inv;{exact z1};{exact zh})|refine xK ?_|(apply Kf.mk;{exact z7})|refine xM ?_|refine eo.r rfl ?_|(apply Zx.agg;{exact zu};{exact zu};{exact z1})|(apply Zx.b;{exact zu})|(apply Zx.i;{exact zu})|apply Zx.one|(apply sf.s;{exact zi})|(apply sf.n;{exact zi})|(apply Rf.mk;{exact z8})|refine yC.r xL 0 rfl ?_|refine Mp.same ?_|(apply Mp.lit;(focus repeat(first|exact yK.nil|(apply yK.cons;{exact zu})|(apply yK.inv;{exact z1};{exact zh}))))|refine xD ?_|exact trivial|(apply Lk.r;{exact z8})|(apply Sx.r;{exact zj};{exact zc})|(apply CA.sB;{exact zu};{exact z7};{exact z7};{exact zo};{exact zu};intro X1 tr)|(apply mS.nr;{exact zu})|(apply mS.lt;(focus first|assumption|omega|(apply tr;repeat constructor)))|(apply ZB.nr;{exact zu})|apply vn.both|refine xO ?_|(apply nX.part;{exact zm})|(apply nX.all;{exact zm})|(apply ep.r;{exact z1})|(apply kB.short;{exact zu};{exact zg};{exact zg})|(apply kB.g_;{exact zu};{exact zg};{exact zg})|(apply ZA.mk';{exact z1};{exact z1};{exact zf})|(apply r_.i64;{exact zu};{exact z6})|(apply r_.u64;{exact zu};{exact z6})|(apply r_.u8;{exact zu};{exact z6})|refine Rf.mk ⟨rfl,by decide⟩ ?_|(apply Rf.mk;{exact⟨by decide,rfl⟩})|(apply Sx.r;{exact z8};{exact zc})|(apply Ix.q;{exact z8};{exact z8})|(apply Vd.r;{exact z1})|(apply Rc.r;{exact z1})|(apply Rg.mk)|(apply Ix.q;{exact z8};{exact z8})|(apply bz.r;{exact z1})|(apply Ix.q;{exact z8};{exact z8})|(apply Cl.pG (ht);{exact ga};(focus((repeat'(first|exact y3.nil|apply y3.yB|apply y3.vC|(apply y3.mp;{exact zu})|(apply y3.yY;{exact z1};{exact zc})|(apply y3.yX;{exact z1};{exact zu};{exact za})|(apply y3.cell;{exact z1})|refine y3.fn ?_ ?_|apply y3.agg));done))))
   all_goals first
    | (exfalso;omega)
    | exact Fin.p rfl (vb (by first|exact zD.2 (by rw [MU];omega)|exact(zT (MU.2 z6)).symm|exact(zF (λh=>by have:=MU.1 h;omega)).symm))
  ·have MU:kM m (k,ce,v)↔k=2/\t.lo<=v/\v<=t.hi:=vE.trans (hU.trans ⟨λh=>h.2 hs,λh=>⟨λh9=>absurd h9 hs,λ_=>h⟩⟩)
   repeat'(first|apply Sp.h|refine Lk.r rfl ?_|refine Rf.mk rfl ?_|refine xA ?_|refine xB ?_|(refine Bd.mk ?_ ?_ <;> intro _)|refine yu.r rfl ?_|refine xP ?_|refine Im.mk λ_=>?_|refine yc.mk λ_=>?_|refine xU ?_|refine xT ?_|refine xI ?_|(apply Ix.r;{exact z8};{exact z6})|refine xJ ?_|refine Ce.l rfl ?_|refine Ce.r ?_|refine Ch.l ⟨rfl,rfl⟩ ?_|refine Ch.r ?_|refine xV ?_|(apply y4.r;focus repeat' constructor)|(apply Fk.r;focus repeat' first|infer_instance|constructor)|refine xN ?_|refine Rf.mk ⟨rfl,rfl⟩ ?_|refine Rf.mk ⟨rfl,rfl,rfl⟩ ?_|(apply Jx.r;{exact zj};{exact zb})|refine Up.r rfl ?_|(apply Up.inv;{exact z1};{exact zh})|refine xK ?_|(apply Kf.mk;{exact z7})|refine xM ?_|refine eo.r rfl ?_|(apply Zx.agg;{exact zu};{exact zu};{exact z1})|(apply Zx.b;{exact zu})|(apply Zx.i;{exact zu})|apply Zx.one|(apply sf.s;{exact zi})|(apply sf.n;{exact zi})|(apply Rf.mk;{exact z8})|refine yC.r xL 0 rfl ?_|refine Mp.same ?_|(apply Mp.lit;(focus repeat(first|exact yK.nil|(apply yK.cons;{exact zu})|(apply yK.inv;{exact z1};{exact zh}))))|refine xD ?_|exact trivial|(apply Lk.r;{exact z8})|(apply Sx.r;{exact zj};{exact zc})|(apply CA.sB;{exact zu};{exact z7};{exact z7};{exact zo};{exact zu};intro X1 tr)|(apply mS.nr;{exact zu})|(apply mS.lt;(focus first|assumption|omega|(apply tr;repeat constructor)))|(apply ZB.nr;{exact zu})|apply vn.both|refine xO ?_|(apply nX.part;{exact zm})|(apply nX.all;{exact zm})|(apply ep.r;{exact z1})|(apply kB.short;{exact zu};{exact zg};{exact zg})|(apply kB.g_;{exact zu};{exact zg};{exact zg})|(apply ZA.mk';{exact z1};{exact z1};{exact zf})|(apply r_.i64;{exact zu};{exact z6})|(apply r_.u64;{exact zu};{exact z6})|(apply r_.u8;{exact zu};{exact z6})|refine Rf.mk ⟨rfl,by decide⟩ ?_|(apply Rf.mk;{exact⟨by decide,rfl⟩})|(apply Sx.r;{exact z8};{exact zc})|(apply Ix.q;{exact z8};{exact z8})|(apply Vd.r;{exact z1})|(apply Rc.r;{exact z1})|(apply Rg.mk)|(apply Ix.q;{exact z8};{exact z8})|(apply bz.r;{exact z1})|(apply Ix.q;{exact z8};{exact z8})|(apply Cl.pG (ht);{exact ga};(focus((repeat'(first|exact y3.nil|apply y3.yB|apply y3.vC|(apply y3.mp;{exact zu})|(apply y3.yY;{exact z1};{exact zc})|(apply y3.yX;{exact z1};{exact zu};{exact za})|(apply y3.cell;{exact z1})|refine y3.fn ?_ ?_|apply y3.agg));done))))
   all_goals first
    | (exfalso;omega)
    | exact Fin.p rfl (vb (by first|exact zD.2 (by rw [MU];omega)|exact(zT (MU.2 z6)).symm|exact(zF (λh=>by have:=MU.1 h;omega)).symm))
end Go.Proofs.YtmjllbjfkafhdaaGreatDoor
