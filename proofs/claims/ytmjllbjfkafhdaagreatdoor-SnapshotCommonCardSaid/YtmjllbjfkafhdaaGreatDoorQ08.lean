/- Part 8 of the ground of this proof: what its texts say of the model, the program and the plain data; conditions: those that are named. -/
import Derived.RangeFuncSeq
import Derived.Test.YtmjllbjfkafhdaaGreatDoorQ07
namespace Go.Proofs.YtmjllbjfkafhdaaGreatDoor
open Go Go.CF
def kwS : ByteArray:=⟨#[115,111,114,116,32,114,101,108,97,116,105,111,110,32,99,111,117,110,116,101,114,32,115,101,116,32,114,101,103,105,115,116,101,114,32,105,110,118,97,114,105,97,110,116,32,111,112,101,114,97,116,105,111,110,32,107,101,121,32,114,101,102,101,114,101,110,99,101,32,116,111,32,99,111,117,110,116,32,97,99,121,99,108,105,99,32,97,108,108,32,115,117,109,32,105,110,32,97,100,100,119,105,110,115,32,114,101,109,111,118,101,119,105,110,115,32,108,97,115,116,32,109,117,108,116,105,32,104,105,100,101,32,111,114,100,101,114,101,100,32,114,101,113,117,105,114,101,32,104,111,108,100,32,105,110,115,101,114,116,32,100,101,108,101,116,101,32,97,100,100,32,102,114,111,109,32,112,117,116,32,100,114,111,112,32,97,115,115,105,103,110,32,102,111,114,32,119,104,101,114,101,32,97,110,100,32,111,114,32,110,111,116]⟩
def kwO : List (Nat×Nat):=fldC kwS 300 0 0
theorem kw_size : kwS.size=212:=by kernel_rfl
theorem kw_lt :∀i,i < kwS.size→byteAt kwS i < 128:=fun i hi=>by
 have h:(List.range kwS.size).all (fun i=>decide (byteAt kwS i < 128))=true:=by kernel_rfl
 exact of_decide_eq_true (List.all_eq_true.1 h i (List.mem_range.2 hi))
theorem kw_sk : SkS kwS 0 0:=⟨⟨Nat.le_refl _,zZ _⟩,fun i h1 h2=>by omega,fun _=>by kernel_rfl⟩
theorem kw_fld : Fld kwS 0 0 kwO:=fldC_ok 300 0 0 (by rw [kw_size];omega) (zZ _)
theorem kw_cnt : cntW kwS kwS.size=kwO.length:=by kernel_rfl
theorem kw_wrd : wrdF kwS kwO=kwL:=by kernel_rfl
theorem kw_len : kwL.length=35:=rfl
theorem keywords_s : CallG Tryz.prog 280 [] [] fun r own=>∃b,r= .val (.map (some b))∧own= [setS b kwL]:=by
 have hf:=fields_a kwS 0 kwO kw_lt (by rw [kw_size];omega) kw_sk kw_fld kw_cnt
 rw [kw_wrd] at hf
 have hlen:=kw_len
 generalize kwL=L at hf hlen ⊢
 refine CallG.of pg ordZ Tryz.func280 rfl Tryz.ntmps280 Tryz.results280 rfl fun h0 G0 O0 ga=>?_
 repeat'(first|apply Sp.h|refine Lk.r rfl ?_|refine Rf.mk rfl ?_|fail)
 refine MkM.r (fun x:AV=>x) ?_
 refine⟨fun b=>?_⟩
 (repeat'(first|(show CA _ _ (Code.region 2 _ _) _ _;apply Stopped.out)|apply Sp.h|refine Lk.r rfl ?_|fail));any_goals apply Stopped.mk
 refine CA.own (OX.set (by repeat constructor)) ?_
 repeat'(first|apply Sp.h|refine Lk.r rfl ?_|refine Rf.mk rfl ?_|fail)
 (apply Cl.useG (hf);(focus exact ga);(focus repeat' constructor);(focus repeat' constructor);focus rfl)
 rintro _ _ ⟨v,rfl,rfl⟩
 repeat'(first|apply Sp.h|refine Lk.r rfl ?_|refine xU ?_|fail)
 refine CA.loop (fun i:Nat=>⟨[(1, .val (.map (some b))),(5, .ow v),(6,it (L.length:Nat)),(7,it i)],[setS b (L.take i),arrR v 9 1 L strC]⟩) (fun i=>i≤L.length) (fun i=>L.length - i) 0 xE (zZ _) ?_
 intro i hi
 by_cases hin:i < L.length
 ·obtain⟨q,hq⟩:=get_of hin
  have hs:L.take (i+1)=L.take i ++ [q]:=by rw [zK,hq];rfl
  repeat'(first|apply Sp.h|refine Lk.r rfl ?_|refine Rf.mk rfl ?_|refine xA ?_|refine xU ?_|refine xI ?_|refine xJ ?_|refine xO ?_|(apply TkS.r;(focus repeat constructor))|fail)
  rw [←hs]
  exact PA.lp (i+1) xE ⟨hin,by omega⟩
 ·have:i=L.length:=by omega
  subst this
  rw [zL]
  repeat'(first|apply Sp.h|refine Lk.r rfl ?_|refine Rf.mk rfl ?_|refine xB ?_|refine xN ?_|fail)
  exact⟨_,_, .one (.same (.z)),_,rfl,rfl⟩
theorem keywords_g : CallGP Tryz.prog 280 [] (.rs kwL):=CallG.fzS keywords_s
theorem tokens_g(s:ByteArray) : CallGP Tryz.prog 258 [sv s] (.fn 281 [.ad [sv s] 0, .ad [.rs kwL] 0]):=by
 have hk:=keywords_g
 generalize kwL=L at hk ⊢
 refine CallG.of pg ordZ Tryz.func258 rfl Tryz.ntmps258 Tryz.results258 rfl fun h0 G0 O0 ga=>?_
 (repeat'(first|(show CA _ _ (Code.region 2 _ _) _ _;apply Stopped.out)|apply Sp.h|refine Lk.r rfl ?_|refine Rf.mk rfl ?_|refine All.mk fun _=>?_|refine xT ?_|refine xV ?_|refine xN ?_|(apply Cl.pG (hk);(focus exact ga);(focus((repeat'(first|exact Lend.nil|fail));done)))));any_goals apply Stopped.mk
 refine CA.freezeB 1 rfl (by repeat constructor) ?_
 refine CA.freezeB 3 rfl (by repeat constructor) ?_
 repeat'(first|apply Sp.h|refine Lk.r rfl ?_|refine Rf.mk rfl ?_|refine xN ?_|fail)
 exact Fin.p rfl rfl
/-! ### Symbols -/
theorem idxF : ExtF Tryz.prog 318 Extern.BytealgIndexByte.indexByte :=
 ⟨_,Tryz.func318,by kernel_rfl,by kernel_rfl,by kernel_rfl,by kernel_rfl⟩
instance (priority:=2000) {T:Nat→Ord×(Nat→Cls)} {n:Nat} {rs:Array ResultVar} {K:AV→List Res→Prop} {h0:Heap} {G0 O0:Nat→Prop} {d:Tmp} {x y:Operand} {tys:Array TypeId} {ty:TypeId} {e:EA} {o:List Res} {N:NA} :
  Sp (SA ⟨Tryz.prog,tt,en,pg,T,n,rs,K,h0,G0,O0,⟨none⟩⟩ .loud (some d) (.call { callee:= .value (.func 318),args:=#[x,y],argTypes:=tys }) ty e o N)
   (Lk (evA e x) fun a=>Lk (evA e y) fun b=>IxB a b fun r=>N ((d, .val (.int .i64 r)) :: e) o):=⟨fun h=>SA.idxb idxF rfl h⟩
theorem idx1_c(s:ByteArray)(x:Int) : CallA Tryz.prog 315 [sv s, .val (.int .u8 x)] [] fun r own=>∃i:Int,r=it i∧own= []:=by
 refine CallA.of pg ordZ Tryz.func315 rfl Tryz.ntmps315 Tryz.results315 rfl fun h0 G0 O0=>?_
 repeat'(first|apply Sp.h|refine Lk.r rfl ?_|refine Rf.mk rfl ?_|refine xN ?_|fail)
 exact⟨_,_, .one (.same (.z)),_,rfl,rfl⟩
theorem idx_c(s:ByteArray)(x:Int) : CallA Tryz.prog 305 [sv s, .val (.int .u8 x)] [] fun r own=>∃i:Int,r=it i∧own= []:=by
 refine CallA.of pg ordZ Tryz.func305 rfl Tryz.ntmps305 Tryz.results305 rfl fun h0 G0 O0=>?_
 repeat'(first|apply Sp.h|refine Lk.r rfl ?_|refine Rf.mk rfl ?_|fail)
 refine xW (idx1_c s x) ?_
 rintro _ _ ⟨i,rfl,rfl⟩
 repeat'(first|apply Sp.h|refine Lk.r rfl ?_|refine xN ?_|fail)
 exact⟨_,_, .one (.same (.z)),_,rfl,rfl⟩
theorem pre1_c(s q:ByteArray) : CallB Tryz.prog 314 [sv s,sv q]:=by
 refine CallA.of pg ordZ Tryz.func314 rfl Tryz.ntmps314 Tryz.results314 rfl fun h0 G0 O0=>?_
 by_cases h:q.size≤s.size
 ·repeat'(first|apply Sp.h|refine Lk.r rfl ?_|refine Rf.mk rfl ?_|refine xA ?_|refine xN ?_|(apply Jx.r;(focus exact rfl);(focus first|omega|(simp;done)|(simp;omega)))|fail)
  all_goals exact⟨_,_, .one (.same (.z)),_,rfl,rfl⟩
 ·repeat'(first|apply Sp.h|refine Lk.r rfl ?_|refine Rf.mk rfl ?_|refine xB ?_|refine xN ?_|fail)
  all_goals exact⟨_,_, .one (.same (.z)),_,rfl,rfl⟩
theorem pre_c(s q:ByteArray) : CallB Tryz.prog 304 [sv s,sv q]:=by
 refine CallA.of pg ordZ Tryz.func304 rfl Tryz.ntmps304 Tryz.results304 rfl fun h0 G0 O0=>?_
 repeat'(first|apply Sp.h|refine Lk.r rfl ?_|refine Rf.mk rfl ?_|fail)
 refine xW (pre1_c s q) ?_
 rintro _ _ ⟨b,rfl,rfl⟩
 repeat'(first|apply Sp.h|refine Lk.r rfl ?_|refine xN ?_|fail)
 exact⟨_,_, .one (.same (.z)),_,rfl,rfl⟩
end Go.Proofs.YtmjllbjfkafhdaaGreatDoor
set_option maxRecDepth 100000
set_option maxHeartbeats 80000000
namespace Go.Proofs.YtmjllbjfkafhdaaGreatDoor
open Go Go.CF
def sy2 : List ByteArray:= [⟨#[61,61]⟩,⟨#[33,61]⟩,⟨#[60,61]⟩,⟨#[62,61]⟩,⟨#[46,46]⟩]
theorem empty_iff(s:ByteArray) : s.toList=(⟨#[]⟩:ByteArray).toList↔s.size=0:=by
 rw [ByteArray.toList_eq,ByteArray.toList_eq]
 show s.data.toList= []↔s.data.size=0
 rw [←Array.length_toList,List.length_eq_zero_iff]
theorem symbol8_c(s:ByteArray)(hs:s.size≤1000000000) : CallA Tryz.prog 287 [sv s] [] fun r own=>∃n:Nat,r=it n∧own= []∧n≤2:=by
 obtain⟨L,hL⟩:∃L,L=sy2:=⟨_,rfl⟩
 have hne:=empty_iff s
 refine CallA.of pg ordZ Tryz.func287 rfl Tryz.ntmps287 Tryz.results287 rfl fun h0 G0 O0=>?_
 (repeat'(first|(show CA _ _ (Code.region 1 _ _) _ _;apply Stopped.out)|apply Sp.h|refine Lk.r rfl ?_|refine Rf.mk rfl ?_|fail));any_goals apply Stopped.mk
 (repeat'(first|(show CA _ _ (Code.block 0 _) _ _;apply Stopped.out)|apply Sp.h|refine Lk.r rfl ?_|refine Rf.mk rfl ?_|apply All.mk|refine xU ?_|(apply Fk.r;focus repeat' first|infer_instance|constructor)|refine Rf.mk ⟨rfl,rfl,rfl⟩ ?_|intro _));any_goals apply Stopped.mk
 rename_i v
 apply CA.retype (m:=sy2) (g:=strC)
 focus(repeat constructor)
 focus rfl
 rw [←hL]
 have hlen:L.length=5:=by rw [hL];rfl
 apply Sp.h
 refine CA.loop (fun i:Nat=>⟨[(0,sv s),(5, .ow v),(6,it (5:Int)),(7,it i)],[arrR v 9 1 L strC]⟩) (fun i=>i≤L.length) (fun i=>L.length - i) 0 xE (zZ _) ?_
 intro i hi
 by_cases hin:i < L.length
 ·obtain⟨q,hq⟩:=get_of hin
  repeat'(first|apply Sp.h|refine Lk.r rfl ?_|refine Rf.mk rfl ?_|refine xA ?_|refine xU ?_|refine xI ?_|refine xJ ?_|fail)
  refine xW (pre_c s q) ?_
  rintro _ _ ⟨b,rfl,rfl⟩
  cases b
  ·repeat'(first|apply Sp.h|refine Lk.r rfl ?_|refine Rf.mk rfl ?_|refine xO ?_|fail)
   exact PA.lp (i+1) xE ⟨hin,by omega⟩
  ·repeat'(first|apply Sp.h|refine Lk.r rfl ?_|refine Rf.mk rfl ?_|refine xN ?_|fail)
   exact⟨_,_, .one (.same (.z)),2,rfl,rfl,by omega⟩
 ·by_cases hz:s.size=0
  ·have hz':=hne.2 hz
   repeat'(first|apply Sp.h|refine Lk.r rfl ?_|refine Rf.mk rfl ?_|refine xA ?_|refine xB ?_|refine xN ?_|fail)
   exact⟨_,_, .one (.same (.z)),0,rfl,rfl,by omega⟩
  ·have hz':¬s.toList=(⟨#[]⟩:ByteArray).toList:=fun h=>hz (hne.1 h)
   repeat'(first|apply Sp.h|refine Lk.r rfl ?_|refine Rf.mk rfl ?_|refine xB ?_|(apply Sx.r;(focus exact rfl);(focus first|omega|(simp;omega)))|fail)
   refine xW (idx_c _ _) ?_
   rintro _ _ ⟨j,rfl,rfl⟩
   repeat'(first|apply Sp.h|refine Lk.r rfl ?_|refine Rf.mk rfl ?_|refine xB ?_|apply Bd.mk|refine xN ?_|intro _)
   ·exact⟨_,_, .one (.same (.z)),1,rfl,rfl,by omega⟩
   ·exact⟨_,_, .one (.same (.z)),0,rfl,rfl,by omega⟩
theorem begins8_c(s:ByteArray)(h0:0 < s.size)(hs:s.size≤1000000000) : CallB Tryz.prog 289 [sv s]:=by
 have hsy:=symbol8_c s hs
 refine CallA.of pg ordZ Tryz.func289 rfl Tryz.ntmps289 Tryz.results289 rfl fun h0 G0 O0=>?_
 by_cases hl:isLetter (byteAt s 0)
 ·repeat'(first|apply Sp.h|refine Lk.r rfl ?_|refine Rf.mk rfl ?_|refine xA ?_|refine xN ?_|(apply Sx.r;(focus exact rfl);(focus first|omega|(simp;omega)))|(apply Cl.p (letter8_p _);focus repeat' constructor)|(apply Cl.p (digit8_p _);focus repeat' constructor))
  exact⟨_,_, .one (.same (.z)),_,rfl,rfl⟩
 ·by_cases hd:isDigit (byteAt s 0)
  ·repeat'(first|apply Sp.h|refine Lk.r rfl ?_|refine Rf.mk rfl ?_|refine xA ?_|refine xB ?_|refine xN ?_|(apply Sx.r;(focus exact rfl);(focus first|omega|(simp;omega)))|(apply Cl.p (letter8_p _);focus repeat' constructor)|(apply Cl.p (digit8_p _);focus repeat' constructor))
   exact⟨_,_, .one (.same (.z)),_,rfl,rfl⟩
  ·repeat'(first|apply Sp.h|refine Lk.r rfl ?_|refine Rf.mk rfl ?_|refine xB ?_|(apply Sx.r;(focus exact rfl);(focus first|omega|(simp;omega)))|(apply Cl.p (letter8_p _);focus repeat' constructor)|(apply Cl.p (digit8_p _);focus repeat' constructor))
   refine xW (hsy) ?_
   rintro _ _ ⟨n,rfl,rfl,hn⟩
   repeat'(first|apply Sp.h|refine Lk.r rfl ?_|refine xB ?_|refine xN ?_|fail)
   exact⟨_,_, .one (.same (.z)),_,rfl,rfl⟩
end Go.Proofs.YtmjllbjfkafhdaaGreatDoor
namespace Go.CF
open Go

structure Sm (w w':World):Prop where
 os:w'.os=w.os
 tape:w'.tape=w.tape
 output:w'.output=w.output
 drawn:w.drawn≤w'.drawn
 size:w.heap.size≤w'.heap.size
theorem Sm.trans{a b c:World}(h:Sm a b)(k:Sm b c) : Sm a c:=⟨k.os.trans h.os,k.tape.trans h.tape,k.output.trans h.output,Nat.le_trans h.drawn k.drawn,Nat.le_trans h.size k.size⟩
theorem Same.sm{w w':World}(h:Same w w') : Sm w w':=⟨h.os,h.tape,h.output,h.drawn,h.size⟩
theorem Sm.put(w:World)(l:Nat)(o:Obj) : Sm w (w.putObj l o):=⟨rfl,rfl,rfl,Nat.le_refl _,by simp⟩

structure IterG (st:Bool) (P:Program) (gf:FuncId) (lb:List Value) (X:Nat→List Value→Prop) (N:Nat) (C:Heap→Prop):Prop where
 run:∀(l:Nat) (J Jx:Nat→Heap→Prop) (w:World),(∀i h,J i h→C h)→(∀i h1 h2,J i h1→Stp ([]:List Nat) h1 h2→J i h2)→(st=true→∀h,¬J N h)→
  (∀i x w1,X i x→J i w1.heap→Sm w w1→YieldAt Fence.wide 0 P l x.toArray w1 fun e w'=>Sm w1 w'∧((e= .returned (.bool true)∧J (i+1) w'.heap)∨(e= .returned (.bool false)∧Jx (i+1) w'.heap)))→
  J 0 w.heap→Calls P gf ((.func (.yield l) #[] #[]) :: lb).toArray w fun e w'=>(∃v,e= .returned v)∧Sm w w'∧(J N w'.heap∨∃i,i≤N∧Jx i w'.heap)
def parE : List Tmp→List Value→Env→Env
 | p :: ps,v :: vs,e=>parE ps vs ((p,v) :: e)
 | _,_,e=>e
theorem Agree.par{n:Nat}{ds:List Deferred} :∀(ps:List Tmp) (vs:List Value) (e:Env) (t:Array Value),(∀p∈ps,p < n)→Agree n e { tmps:=t,defers:=ds }→
  Agree n (parE ps vs e) { tmps:=(ps.zip vs).foldl (fun t p=>t.setIfInBounds p.1 p.2) t,defers:=ds }
 | [],_,_,_,_,h=>by simpa [parE] using h
 | _ :: _,[],_,_,_,h=>by simpa [parE] using h
 | p :: ps,v :: vs,e,t,hp,h=>by
  simp only [parE,List.zip_cons_cons,List.foldl_cons]
  refine Agree.par ps vs _ _ (fun q hq=>hp q (by simp [hq])) ?_
  exact h.put (d:=some p) (by simpa [dOK] using hp p (by simp)) v

theorem run_enter{P:Program}{rd:Option Nat}{B:Option Nat}{ds:List Deferred}{w:World}(hB:B.isSome=true)(hr:Rnd rd w.heap)(hf:Fr B ds w.heap)(fn:FuncId)(tmps:Array Value)(ps:Array Tmp)(assign body:Code) :
  ∃l mark W1 D,(Instr.enterLoop fn tmps ps assign body rd).run P w= .ok (l,mark) W1∧w.heap.size≤l∧W1.heap[l]?=some (.loop { state:= .ready,pending:=none,fn:=fn,tmps:=tmps,params:=ps,assign:=assign,body:=body,defers:=D })∧
   Same w W1∧(∀k,k < w.heap.size→W1.heap[k]?=w.heap[k]?)∧Fr B (mark ++ ds) W1.heap:=by
 cases rd with
 | none =>
  have hs:Same w ((w.alloc (.deferred (some []))).alloc (.loop { state:= .ready,pending:=none,fn,tmps,params:=ps,assign,body,defers:=w.heap.size })):=(Same.of_push (w':=w.alloc (.deferred (some []))) rfl).trans (Same.of_push rfl)
  have hold:∀k,k < w.heap.size→((w.heap.push (.deferred (some []))).push (.loop { state:= .ready,pending:=none,fn,tmps,params:=ps,assign,body,defers:=w.heap.size }))[k]?=w.heap[k]?:=fun k hk=>by
   rw [Array.getElem?_push,if_neg (by simp;omega),Array.getElem?_push,if_neg (by omega)]
  have hd:((w.heap.push (.deferred (some []))).push (.loop { state:= .ready,pending:=none,fn,tmps,params:=ps,assign,body,defers:=w.heap.size }))[w.heap.size]?=some (.deferred (some [])):=by
   rw [Array.getElem?_push,if_neg (by simp),Array.getElem?_push,if_pos rfl]
  refine⟨_,_,_,w.heap.size,run_enterLoop_outer fn tmps ps assign body,by omega, ?_,hs,hold,⟨fun b hb=>Nat.le_trans (hf.le b hb) hs.size, ?_,fun d hm=>?_⟩⟩
  ·show((w.heap.push _).push _)[w.heap.size+1]?=_
   rw [Array.getElem?_push,if_pos (by simp)]
  ·refine List.nodup_cons.2 ⟨fun hm=>?_,hf.nd⟩
   obtain⟨D,_,h1,_,_,h3⟩:=hf.mks _ hm
   have hD:=(zA.1 h3).1
   simp only [Deferred.mk.injEq,Target.collected.injEq] at h1
   omega
  ·rcases List.mem_cons.1 hm with rfl|hm
   ·obtain⟨b,rfl⟩:=Option.isSome_iff_exists.1 hB
    exact⟨_,b,rfl,rfl,hf.le b rfl,hd⟩
   ·obtain⟨D,b,h1,h0,h2,h3⟩:=hf.mks _ hm
    exact⟨D,b,h1,h0,h2,(hold D (zA.1 h3).1).trans h3⟩
 | some l0 =>
  obtain⟨r,hr⟩:=hr l0 rfl
  have hs:Same w (w.alloc (.loop { state:= .ready,pending:=none,fn,tmps,params:=ps,assign,body,defers:=r.defers })):=Same.of_push rfl
  refine⟨w.heap.size,[],w.alloc (.loop { state:= .ready,pending:=none,fn,tmps,params:=ps,assign,body,defers:=r.defers }),r.defers, ?_,Nat.le_refl _,World.alloc_heap_new w _,hs,fun k hk=>?_,⟨fun b hb=>Nat.le_trans (hf.le b hb) hs.size,hf.nd,fun d hm=>?_⟩⟩
  ·unfold Instr.enterLoop
   simp only [Sem.run_bind,run_getLoop hr,run_newObj_alloc,Result.andThen,Sem.run_pure]
  ·show(w.heap.push _)[k]?=_
   rw [Array.getElem?_push,if_neg (by omega)]
  ·obtain⟨D,b,h1,h0,h2,h3⟩:=hf.mks _ hm
   exact⟨D,b,h1,h0,h2,hs.ctl D _ h3 rfl⟩

section
variable {P:Program} {n:Nat} {R:Env→Heap→Prop} {k:List KI} {env:Env} {h:Heap}

def roundQ(I:Heap→Prop)(E:Exit→Heap→Prop) : Exit→Env→Heap→Prop
 | .normal,_,h=>I h
 | x,_,h=>E x h
def jumpQ(E:Exit→Heap→Prop) : Code→Heap→Prop
 | .ret,h=>E .ret h
 | .exit i,h=>E (.exit i) h
 | .goto i,h=>E (.goto i) h
 | _,_=>False

theorem Shut.put{B l:Nat}{w:World}{o o':Obj}(hl:w.heap[l]?=some o)(ho:isCtl o=true)(hb:B≤l) : Shut B w.heap (w.putObj l o').heap :=
 ⟨by simp,fun k _=>by
  by_cases hk:k=l
  ·subst hk;exact .inr ⟨hb,o,hl,ho⟩
  ·exact .inl (World.putObj_heap_other hk)⟩

theorem CW.rangeFunc{st:Bool}{g:Operand}{ps:Array Tmp}{asg body:Code}{gf:FuncId}{lb:List Value}{X:Nat→List Value→Prop}{N:Nat}{C:Heap→Prop}(hg:ev env g=some (.func (.func gf) #[] lb.toArray))(he:∀args w,(callFunc gf args).run P w= .ok (.enter gf args) w)
    (hit:IterG st P gf lb X N C) (hps:∀i x,X i x→x.length=ps.size) (hpn:∀p∈ps.toList,p < n) (I:Nat→Heap→Prop) (E:Exit→Heap→Prop)
    (hI:∀i h1 h2,Shut h.size h1 h2→I i h1→I i h2) (hE:∀x h1 h2,Shut h.size h1 h2→E x h1→E x h2) (hC:∀i h',I i h'→C h') (hI2:∀i h1 h2,I i h1→Stp ([]:List Nat) h1 h2→I i h2) (hst:st=true→∀h',¬I N h') (h0:I 0 h)
    (hbody:∀i x h',X i x→I i h'→CW P n asg (fun e env1 h1=>e= .normal∧∀h2,Shut h.size h1 h2→CW P n body (roundQ (I (i+1)) E) env1 h2) (parE ps.toList x env) h')
    (hdone:∀h',I N h'→PK P n R k .normal env h') (hret:∀h',E .ret h'→PK P n R k .ret env h') (hex:∀i h',E (.exit i) h'→PK P n R k (.exit i) env h') (hgo:∀i h',¬E (.goto i) h') :
    CW P n (.rangeFunc g ps asg body) (PK P n R k) env h:=by
  refine⟨fun rd m B a w ha hf hr hw hB=>wpIn_rangeFunc fun fn hfn=>?_⟩
  subst hw
  obtain⟨l,mark,W1,D,hent,hl,hL1,hs1,hold,hf1⟩:=run_enter (P:=P) (hB rfl) hr hf fn a.tmps ps asg body
  have hsh1:Shut w.heap.size w.heap W1.heap:=⟨hs1.size,fun k hk=> .inl (hold k hk)⟩
  refine⟨l,mark,W1,{ target:= .fn (.func gf) lb.toArray,args:=#[.func (.yield l) #[] #[]] },W1,gf,((.func (.yield l) #[] #[]) :: lb).toArray,W1,hent, ?_,fun _ _=>trivial, ?_,fun h=>(by cases h), ?_⟩
  · simp only [resolve,ha.ev hg]
    simp [go_sem]
  · simp [invoke,go_sem,he]
  · -- what stands through the rounds: the loop's record, and all else that loops keep
    let rec_:LoopState→Option Code→Loop:=fun st pe=>{ state:=st,pending:=pe,fn:=fn,tmps:=a.tmps,params:=ps,assign:=asg,body:=body,defers:=D }
    let Kp:Heap→Prop:=fun h'=>W1.heap.size≤h'.size∧∀q o,q≠l→W1.heap[q]?=some o→isCtl o=true→h'[q]?=some o
    have hKput:∀(W:World) (o:Obj),Kp W.heap→Kp (W.putObj l o).heap:=fun W o hk=>⟨by simpa using hk.1,fun q o' hq h1 h2=>(World.putObj_heap_other hq).trans (hk.2 q o' hq h1 h2)⟩
    have hKsame:∀W W':World,Same W W'→Kp W.heap→Kp W'.heap:=fun W W' hs hk=>⟨Nat.le_trans hk.1 hs.size,fun q o hq h1 h2=>hs.ctl q o (hk.2 q o hq h1 h2) h2⟩
    have hfin:∀(W:World),Sm W1 W→Kp W.heap→Same w W∧Fr B (mark ++ a.defers) W.heap:=fun W hs hk =>
      ⟨⟨hs.os.trans hs1.os,hs.tape.trans hs1.tape,hs.output.trans hs1.output,Nat.le_trans hs1.drawn hs.drawn,Nat.le_trans hs1.size hk.1,fun q o h1 h2=>hk.2 q o (by have:=(zA.1 h1).1;omega) (hs1.ctl q o h1 h2) h2⟩,
       ⟨fun b hb=>Nat.le_trans (hf1.le b hb) hk.1,hf1.nd,fun d hd=>by
          obtain⟨D',b,h1,h0,h2,h3⟩:=hf1.mks d hd
          exact⟨D',b,h1,h0,h2,hk.2 D' _ (fun e=>by subst e;rw [hL1] at h3;cases h3) h3 rfl⟩⟩⟩
    have hag:Agree n env { a with defers:=mark ++ a.defers }:=⟨ha.size,ha.val⟩
    have hcall:=hit.run l (fun i h'=>h'[l]?=some (.loop (rec_ .ready none))∧Kp h'∧I i h') (fun _ h'=>∃c,h'[l]?=some (.loop (rec_ .done (some c)))∧Kp h'∧jumpQ E c h') W1 (fun i h' hj=>hC i h' hj.2.2)
      (fun i h1 h2 ⟨j1,j2,j3⟩ hs=>by
        have hget:∀(k:Nat) (o:Obj),h1[k]?=some o→h2[k]?=some o:=fun k o hk=>(hs.same k (zA.1 hk).1 (by simp)).trans hk
        exact⟨hget _ _ j1,⟨Nat.le_trans j2.1 hs.size,fun q o hq g1 g2=>hget _ _ (j2.2 q o hq g1 g2)⟩,hI2 i h1 h2 j3 hs⟩)
      (fun h9 h' hj=>hst h9 h' hj.2.2) ?_
      ⟨hL1,⟨Nat.le_refl _,fun _ _ _ h _=>h⟩,hI 0 _ _ hsh1 h0⟩
    · have h2:CallsIn (wide rd) (m - 1) P gf ((.func (.yield l) #[] #[]) :: lb).toArray W1 _:=(callsIn_wide (n:=m - 1)).2 (hcall.mono (R':=rangePost (wide rd) m P l (lift n B w (PK P n R k)) { a with defers:=mark ++ a.defers }) ?_)
      · exact h2
      rintro e W2 ⟨⟨v,rfl⟩,hs2,(⟨hl2,hk2,hi2⟩|⟨i,hi,c,hl2,hk2,hi2⟩)⟩
      · have hsh:Shut w.heap.size W2.heap (W2.putObj l (.loop { rec_ .ready none with state:= .exhausted })).heap:=Shut.put hl2 rfl hl
        obtain⟨g1,g2⟩:=hfin _ (hs2.trans (Sm.put W2 l (.loop { rec_ .ready none with state:= .exhausted }))) (hKput W2 _ hk2)
        exact⟨none,_,run_endLoop (P:=P) hl2 (by simp [rec_]),g1,g2,env,hag,hdone _ (hI _ _ _ hsh hi2)⟩
      · have hsh:Shut w.heap.size W2.heap (W2.putObj l (.loop { rec_ .done (some c) with state:= .exhausted })).heap:=Shut.put hl2 rfl hl
        obtain⟨g1,g2⟩:=hfin _ (hs2.trans (Sm.put W2 l (.loop { rec_ .done (some c) with state:= .exhausted }))) (hKput W2 _ hk2)
        refine⟨some c,_,run_endLoop (P:=P) hl2 (by simp [rec_]), ?_⟩
        show c.wpIn (wide rd) m P _ _ _
        cases c <;> simp only [jumpQ] at hi2
        case ret=>exact wpIn_ret ⟨g1,g2,env,hag,hret _ (hE _ _ _ hsh hi2)⟩
        case exit i=>exact wpIn_exit ⟨g1,g2,env,hag,hex i _ (hE _ _ _ hsh hi2)⟩
        case goto i=>exact absurd hi2 (hgo i _)
    · -- one round
      rintro i x w1 hx ⟨hl2,hk2,hi2⟩ hsm
      have hlen:x.toArray.size=(rec_ .ready none).params.size:=by simpa [rec_] using hps i x hx
      have hag2:Agree n (parE ps.toList x env) { tmps:=(ps.zip x.toArray).foldl (fun t p=>t.setIfInBounds p.1 p.2) a.tmps,defers:= [] }:=by
        have:=Agree.par (ds:= []) ps.toList x env a.tmps hpn ⟨ha.size,ha.val⟩
        have e9:(ps.zip x.toArray).foldl (fun t p=>t.setIfInBounds p.1 p.2) a.tmps=(ps.toList.zip x).foldl (fun t p=>t.setIfInBounds p.1 p.2) a.tmps:=by cases ps;simp
        rw [e9];exact this
      have hfr0:∀H:Heap,Fr (some 0) [] H:=fun H=>⟨fun b hb=>by cases hb;exact zZ _,List.nodup_nil,fun d hd=>by cases hd⟩
      refine⟨fn,_,asg,body,run_yield (P:=P) hl2 hlen,roundIn_of_wpIn trivial (wpIn_mono ((hbody i x _ hx hi2).run (some l) 0 (some 0) _ w1 hag2 (hfr0 _) (fun l' hl'=>by cases hl';exact⟨_,hl2⟩) rfl fun _=>rfl) fun ea aa wa hla=>?_)⟩
      have hla2:ea= .normal∧Same w1 wa∧Fr (some 0) aa.defers wa.heap∧∃env1,Agree n env1 aa∧∀h2,Shut w.heap.size wa.heap h2→CW P n body (roundQ (I (i+1)) E) env1 h2:=by
        cases ea <;> simp only [lift] at hla
        case normal=>obtain⟨q1,q2,e1,q3,_,q4⟩:=hla;exact⟨rfl,q1,q2,e1,q3,q4⟩
        all_goals(obtain⟨_,_,_,_,q,_⟩:=hla;cases q)
      obtain⟨rfl,hsa,hfa,env1,haga,hbo⟩:=hla2
      have hla3:=hsa.ctl l _ hl2 rfl
      have hka:=hKsame _ _ hsa hk2
      refine⟨_,run_beginRound hla3 rfl, ?_⟩
      have hlt:=(zA.1 hla3).1
      have hl3:(wa.putObj l (.loop { rec_ .ready none with state:= .busy })).heap[l]?=some (.loop { rec_ .ready none with state:= .busy }):=World.putObj_heap_same hlt
      have hrun:=(hbo _ (Shut.put (o':= .loop { rec_ .ready none with state:= .busy }) hla3 rfl hl)).run (some l) 0 (some 0) aa (wa.putObj l (.loop { rec_ .ready none with state:= .busy })) haga ⟨fun b hb=>by cases hb;exact zZ _,hfa.nd,fun d hd=>by
          obtain⟨D',b,r1,r0,r2,r3⟩:=hfa.mks d hd
          exact⟨D',b,r1,r0,r2,(World.putObj_heap_other (fun e=>by subst e;rw [hla3] at r3;cases r3)).trans r3⟩⟩ (fun l' hl'=>by cases hl';exact⟨_,hl3⟩) rfl fun _=>rfl
      refine wpIn_mono hrun fun e a2 w2 hl4=>?_
      have fin:∀(jump:Option Code),Same (wa.putObj l (.loop { rec_ .ready none with state:= .busy })) w2→
          (Instr.endRound l jump).run P w2= .ok (.bool jump.isNone) (w2.putObj l (.loop (rec_ (if jump.isNone then .ready else .done) jump)))∧Shut w.heap.size w2.heap (w2.putObj l (.loop (rec_ (if jump.isNone then .ready else .done) jump))).heap∧
          (w2.putObj l (.loop (rec_ (if jump.isNone then .ready else .done) jump))).heap[l]?=some (.loop (rec_ (if jump.isNone then .ready else .done) jump))∧Kp (w2.putObj l (.loop (rec_ (if jump.isNone then .ready else .done) jump))).heap∧
          Sm w1 (w2.putObj l (.loop (rec_ (if jump.isNone then .ready else .done) jump))):=fun jump hs=>by
        have h9:=hs.ctl l _ hl3 rfl
        exact⟨run_endRound (P:=P) jump h9,Shut.put h9 rfl hl,World.putObj_heap_same (zA.1 h9).1,hKput _ _ (hKsame _ _ hs (hKput _ _ hka)),hsa.sm.trans ((Sm.put _ _ _).trans (hs.sm.trans (Sm.put _ _ _)))⟩
      cases e with
      | normal =>
        obtain⟨hs,_,_,_,hq⟩:=hl4
        obtain⟨g1,g2,g3,g4,g5⟩:=fin none hs
        exact⟨_,_,g1,g5, .inl ⟨rfl,g3,g4,hI _ _ _ g2 hq⟩⟩
      | ret =>
        obtain⟨hs,_,_,_,hq⟩:=hl4
        obtain⟨g1,g2,g3,g4,g5⟩:=fin (some .ret) hs
        exact⟨_,_,g1,g5, .inr ⟨rfl,_,g3,g4,hE _ _ _ g2 hq⟩⟩
      | exit q =>
        obtain⟨hs,_,_,_,hq⟩:=hl4
        obtain⟨g1,g2,g3,g4,g5⟩:=fin (some (.exit q)) hs
        exact⟨_,_,g1,g5, .inr ⟨rfl,_,g3,g4,hE _ _ _ g2 hq⟩⟩
      | goto q =>
        obtain⟨hs,_,_,_,hq⟩:=hl4
        exact absurd hq (hgo q _)
      | panic c=>exact hl4.elim
      | outgrown=>exact hl4.elim
end

structure ItG (st:Bool) (P:Program) (gf:FuncId) (caps:List AV) (X:Nat→List AV→Prop) (N:Nat):Prop where
 run:∀h G vs,(∀b,G b→b < h.size)→RepT h G vs caps→IterG st P gf vs (fun i y=>∃x,X i x∧RepT h G y x) N (fun h'=>FPx G h h')
def parA : List Tmp→List AV→EA→EA
 | p :: ps,v :: vs,e=>parA ps vs ((p,v) :: e)
 | _,_,e=>e
theorem look_par{h:Heap}{G:Nat→Prop} :∀(ps:List Tmp) (vs:List Value) (asx:List AV) (e:EA) (env:Env),RepT h G vs asx→(∀t a,lookA e t=some a→∃v,look env t=some v∧a.R h G v)→∀t a,lookA (parA ps asx e) t=some a→∃v,look (parE ps vs env) t=some v∧a.R h G v
 | [],_,_,_,_,_,he=>by simpa [parA,parE] using he
 | _ :: _,[],[],_,_,_,he=>by simpa [parA,parE] using he
 | p :: ps,v :: vs,a :: asx,e,env,⟨h1,h2⟩,he=>by
  simp only [parA,parE]
  refine look_par ps vs asx _ _ h2 fun t b hb=>?_
  rw [lookA_cons] at hb
  rw [look_cons]
  by_cases hk:p=t
  ·rw [if_pos hk] at hb ⊢;cases hb;exact⟨v,rfl,h1⟩
  ·rw [if_neg hk] at hb ⊢;exact he t b hb
theorem HpOK.grow{h0:Heap}{G0 O0:Nat→Prop}{own:List Res}{h h2:Heap}{G:Nat→Prop}{Os:List (Nat→Prop)}(c:HpOK h0 G0 O0 own h G Os)(s:Stp ([]:List Nat) h h2) : HpOK h0 G0 O0 own h2 G Os:=by
 have hx:∀S,FPx S h h2:=fun S=>⟨s.size,fun b _ hb=>s.same b hb (by simp)⟩
 have h1:=c.fp.size
 have h3:=s.size
 refine⟨OwnL.stp (fun O _=>hx _) c.own,fun b hb=>⟨by have:=(c.g b hb).1;omega,(c.g b hb).2.imp id fun q=>⟨q.1,q.2.eq (s.same b (c.g b hb).1 (by simp))⟩⟩,c.g0,fun O hO b hb=>⟨by have:=(c.o O hO b hb).1;omega,(c.o O hO b hb).2⟩,c.d,⟨by omega,fun b hb hl=>?_⟩⟩
 rw [s.same b (by omega) (by simp)]
 exact c.fp.same b hb hl
def rdI(h0:Heap)(G0 O0:Nat→Prop)(M:Exit→List Res→Prop) : Exit→Env→Heap→Prop:=fun x _ h=>∃own G Os,M x own∧HpOK h0 G0 O0 own h G Os
section
variable {Γ:Cx} {k:List KI} {e:EA} {o:List Res}
theorem PA.rd{x:Exit}{M:Exit→List Res→Prop}(o':List Res)(hs:Subl o o')(hm:M x o') : PA Γ (.rd (rdI Γ.h0 Γ.G0 Γ.O0 M) :: k) x e o :=
 ⟨fun _ _ G _ cn=>PK.rd (let ⟨Os',c,_⟩:=cn.hp.sub hs;⟨o',G,Os',hm,c⟩)⟩
theorem PA.brk(h0g:∀b,Γ.G0 b→b < Γ.h0.size)(hfp:Γ.fp.n=none)(h:PA Γ k .normal e o) : PA Γ (.brk Γ.h0.size :: k) .normal e o :=
 ⟨fun env _hh G Os cn=>PK.brk fun h' hs=>h.h env h' G Os ⟨cn.hp.shut h0g hs,fun t a ha=>let ⟨v,h1,h2⟩:=cn.env t a ha;⟨v,h1,a.stp (cn.hp.shutF h0g hs) h2⟩,FpOK.none hfp⟩⟩
def rdM(J:List Res→Prop)(E:Exit→List Res→Prop) : Exit→List Res→Prop
 | .normal,o=>J o
 | x,o=>E x o
theorem CA.rangeG{st:Bool}{P:Program}{tt:Nat→Option TI}{en:Nat→Bool}{ok:PgOK P tt en}{T:Nat→Ord×(Nat→Cls)}{n:Nat}{rs:Array ResultVar}{K:AV→List Res→Prop}{h0:Heap}{G0 O0:Nat→Prop}{g:Operand}{ps:Array Tmp}{asg body:Code}{gf:FuncId}{caps:List AV}{X:Nat→List AV→Prop}{N:Nat}
  (hg:evA e g=some (.fn gf caps)) (he:en gf=true) (hit:ItG st P gf caps X N) (hps:∀i x,X i x→x.length=ps.size) (hpn:(ps.toList.all (Nat.blt · n))=true) (J:Nat→List Res→Prop) (E:Exit→List Res→Prop) (hst:st=true→∀o',¬J N o') (hj:J 0 o)
  (hb:∀i x o',X i x→J i o'→∀h0 G0 O0,(∀b,G0 b→b < h0.size)→CA ⟨P,tt,en,ok,T,n,rs,K,h0,G0,O0,⟨none⟩⟩ [.brk h0.size, .code body, .rd (rdI h0 G0 O0 (rdM (J (i+1)) E))] asg (parA ps.toList x e) o')
  (hd:∀o',J N o'→PA ⟨P,tt,en,ok,T,n,rs,K,h0,G0,O0,⟨none⟩⟩ k .normal e o') (hret:∀o',E .ret o'→PA ⟨P,tt,en,ok,T,n,rs,K,h0,G0,O0,⟨none⟩⟩ k .ret e o') (hex:∀i o',E (.exit i) o'→PA ⟨P,tt,en,ok,T,n,rs,K,h0,G0,O0,⟨none⟩⟩ k (.exit i) e o') (hgo:∀i o',¬E (.goto i) o') :
  CA ⟨P,tt,en,ok,T,n,rs,K,h0,G0,O0,⟨none⟩⟩ k (.rangeFunc g ps asg body) e o:=by
 refine⟨fun env h G Os cn=>?_⟩
 obtain⟨v,g1,vs,rfl,g2⟩:=cn.get hg
 have hit2:=hit.run h G vs (fun b hb=>(cn.hp.g b hb).1) g2
 have hp0:HpOK h0 G0 O0 (o ++ []) h G (Os ++ []):=by simpa using cn.hp
 have hGl:∀b,G b→b < h.size:=fun b hb=>(cn.hp.g b hb).1
 have hGU:∀b,G b→¬U Os b:=fun b hb ⟨O,hO,ho⟩=>(cn.hp.o O hO b ho).2.2 hb
 have inn:HpOK h G (U Os) o h G Os:=hp0.inner cn.hp.own
 have back:∀h' o' G' Os',HpOK h G (U Os) o' h' G' Os'→Con ⟨P,tt,en,ok,T,n,rs,K,h0,G0,O0,⟨none⟩⟩ ⟨e,o'⟩ env h' G' Os':=fun h' o' G' Os' c'=>by
  obtain⟨k1,k2,k3⟩:=hp0.call (r2:= []) (o2:= []) trivial c'
  refine⟨by simpa using k1,fun t a ha=>?_,FpOK.none rfl⟩
  obtain⟨u,h1,h2⟩:=cn.env t a ha
  exact⟨u,h1,a.mono k3 (a.stp k2 h2)⟩
 refine CW.rangeFunc g1 (fun args w=>ok.entOK gf he args w) hit2 (fun i y ⟨x,hx,hr⟩=>by rw [hr.len];exact hps i x hx) (fun p hp=>by simpa using List.all_eq_true.1 hpn p hp)
  (fun i h'=>∃o' G' Os',J i o'∧HpOK h G (U Os) o' h' G' Os') (fun x h'=>∃o' G' Os',E x o'∧HpOK h G (U Os) o' h' G' Os')
  (fun i h1 h2 hs ⟨o',G',Os',a1,a2⟩=>⟨o',G',Os',a1,a2.shut hGl hs⟩) (fun i h1 h2 hs ⟨o',G',Os',a1,a2⟩=>⟨o',G',Os',a1,a2.shut hGl hs⟩)
  (fun i h' ⟨o',G',Os',a1,a2⟩=>a2.fp.mono hGU) (fun i h1 h2 ⟨o',G',Os',a1,a2⟩ hs=>⟨o',G',Os',a1,a2.grow hs⟩) (fun h9 h' ⟨o',G',Os',a1,a2⟩=>hst h9 o' a1) ⟨o,G,Os,hj,inn⟩ ?_ ?_ ?_ ?_ ?_
 ·rintro i y h' ⟨x,hx,hyx⟩ ⟨o',G',Os',a1,a2⟩
  have hc:=back h' o' G' Os' a2
  have hr:RepT h' G' y x:=(hyx.stp (a2.fp.mono hGU)).mono a2.g0
  have hin:HpOK h G (U Os) o' h' G' Os':=a2
  have hrd:∀x' e' h2,PK P n (endR ⟨P,tt,en,ok,T,n,rs,K,h,G,U Os,⟨none⟩⟩) [.rd (rdI h G (U Os) (rdM (J (i+1)) E))] x' e' h2→roundQ (fun h'=>∃o' G' Os',J (i+1) o'∧HpOK h G (U Os) o' h' G' Os') (fun x h'=>∃o' G' Os',E x o'∧HpOK h G (U Os) o' h' G' Os') x' e' h2:=fun x' e' h2 hq=>by
   have hq:rdI h G (U Os) (rdM (J (i+1)) E) x' e' h2:=by
    unfold PK at hq;cases x' <;> exact hq
   obtain⟨o2,G2,Os2,b1,b2⟩:=hq
   cases x' <;> exact⟨o2,G2,Os2,b1,b2⟩
  refine CW.mono (fun x' e' h2 hq=>?_) ((hb i x o' hx a1 h G (U Os) hGl).h (parE ps.toList y env) h' G' Os' ⟨hin,look_par ps.toList y x e env hr hc.env,FpOK.none rfl⟩)
  unfold PK at hq
  cases x' <;> simp only at hq
  case normal =>
   refine⟨rfl,fun h3 hs=>?_⟩
   have:=hq h3 hs
   unfold PK at this
   exact CW.mono hrd this
 ·rintro h' ⟨o',G',Os',a1,a2⟩
  exact(hd o' a1).h env h' G' Os' (back h' o' G' Os' a2)
 ·rintro h' ⟨o',G',Os',a1,a2⟩
  exact(hret o' a1).h env h' G' Os' (back h' o' G' Os' a2)
 ·rintro i h' ⟨o',G',Os',a1,a2⟩
  exact(hex i o' a1).h env h' G' Os' (back h' o' G' Os' a2)
 ·rintro i h' ⟨o',G',Os',a1,a2⟩
  exact hgo i o' a1
theorem CA.nilCell{α:Type}{y:Code}{b i:Nat}{T:TypeId}{cs:List AV}{rest:List Res}(tk:Take o (blkR b T cs) rest)(hi:cs[i]?=some (.val (.slice none 0 0)))(T' sz:Nat)(f:α→List AV)
  (h:∀v,CA Γ k y e (blkR b T (cs.set i (.ow v)) :: arrR v T' sz [] f :: rest)):CA Γ k y e o:=by
 refine⟨fun env hh G Os cn=>?_⟩
 obtain⟨O,Os',cn2⟩:=cn.take tk
 have hp:HpOK Γ.h0 Γ.G0 Γ.O0 (arrR (.slice none 0 0) T' sz [] f :: blkR b T cs :: rest) hh G ((fun _=>False) :: O :: Os'):=HpOK.nilA cn2.hp T' sz f
 obtain⟨h1,⟨ho,vs,hb,hr⟩,h2⟩:=hp.own
 obtain⟨u,hu,hu2⟩:=hr.t.get hi
 have hu2:u= .slice none 0 0:=hu2
 subst hu2
 have hset:vs.set i (.slice none 0 0)=vs:=by
  apply List.ext_getElem?
  intro j
  rw [List.getElem?_set]
  by_cases hij:i=j
  ·subst hij;rw [if_pos rfl,if_pos (zS.1 hu).1,hu]
  ·rw [if_neg hij]
 have hr2:=hr.t.set i (v:= .slice none 0 0) (a:= .ow (.slice none 0 0)) ⟨rfl,none,0,0,rfl⟩
 rw [hset] at hr2
 have hp2:HpOK Γ.h0 Γ.G0 Γ.O0 (blkR b T (cs.set i (.ow (.slice none 0 0))) :: arrR (.slice none 0 0) T' sz [] f :: rest) hh G (O :: (fun _=>False) :: Os'):=hp.perm ⟨⟨ho,vs,hb,hr2,hr.one⟩,h1,h2⟩ (List.Perm.swap _ _ _)
 exact(h (.slice none 0 0)).h env hh G _ ⟨hp2,cn.env,cn.nf⟩
end
def yl(n:Nat)(Q:Exit→Env→World→Prop) : Exit→Act→World→Prop
 | .panic _,_,_=>False
 | .outgrown,_,_=>False
 | .normal,a,w=>a.defers= []∧∃env,Agree n env a∧Q .normal env w
 | .ret,a,w=>a.defers= []∧∃env,Agree n env a∧Q .ret env w
 | .exit i,a,w=>a.defers= []∧∃env,Agree n env a∧Q (.exit i) env w
 | .goto i,a,w=>a.defers= []∧∃env,Agree n env a∧Q (.goto i) env w
structure YC (P:Program) (n:Nat) (c:Code) (Q:Exit→Env→World→Prop) (env:Env) (w:World):Prop where
 run:∀a,Agree n env a→a.defers= []→c.wpIn (wide none) 0 P (yl n Q) a w
structure YO (P:Program) (n:Nat) (ops:Array Oper) (Q:Exit→Env→World→Prop) (l:List Oper) (env:Env) (w:World):Prop where
 run:∀a,Agree n env a→a.defers= []→wpListIn (wide none) 0 P ops (yl n Q) l a w
def thn(K:Env→World→Prop)(Q:Exit→Env→World→Prop) : Exit→Env→World→Prop
 | .normal,e,w=>K e w
 | x,e,w=>Q x e w
def blkY(id:Nat)(Q:Exit→Env→World→Prop) : Exit→Env→World→Prop
 | .exit i,e,w=>if i=id then Q .normal e w else Q (.exit i) e w
 | x,e,w=>Q x e w
section
variable {P:Program} {n:Nat} {Q:Exit→Env→World→Prop} {env:Env} {w:World} {ops:Array Oper} {l:List Oper}
theorem YC.seq{x y:Code}(hx:YC P n x (thn (fun e w=>YC P n y Q e w) Q) env w) : YC P n (.seq x y) Q env w:=by
 refine⟨fun a ha hd=>wpIn_seq (wpIn_mono (hx.run a ha hd) fun e a1 w1 hl=>?_)⟩
 cases e <;> simp only [yl,thn,Exit.then] at hl ⊢
 case normal=>obtain⟨h1,e1,h2,h3⟩:=hl;exact h3.run a1 h2 h1
 all_goals exact hl
theorem YC.ret(hk:Q .ret env w) : YC P n .ret Q env w:=⟨fun _ ha hd=>wpIn_ret ⟨hd,env,ha,hk⟩⟩
theorem YC.cond{c:Operand}{x y:Code}{b:Bool}(hc:ev env c=some (.bool b))(hx:b=true→YC P n x Q env w)(hy:b=false→YC P n y Q env w) : YC P n (.cond c x y) Q env w :=
 ⟨fun a ha hd=>wpIn_cond_split (ha.ev hc) (fun hb=>(hx hb).run a ha hd) (fun hb=>(hy hb).run a ha hd)⟩
theorem YC.block{id:Nat}{c:Code}(hc:YC P n c (blkY id Q) env w) : YC P n (.block id c) Q env w:=by
 refine⟨fun a ha hd=>wpIn_block (wpIn_mono (hc.run a ha hd) fun e a1 w1 hl=>?_)⟩
 cases e <;> simp only [yl,blkY,Exit.inBlock] at hl ⊢
 case exit i =>
  obtain⟨h1,e1,h2,h3⟩:=hl
  split
  ·rename_i hi;rw [if_pos hi] at h3;exact⟨h1,e1,h2,h3⟩
  ·rename_i hi;rw [if_neg hi] at h3;exact⟨h1,e1,h2,h3⟩
 all_goals exact hl
theorem YC.loop{c:Code}(I:Nat→Env→World→Prop)(m0:Nat)(h0:I m0 env w)(round:∀m e w,I m e w→YC P n c (thn (fun e' w'=>∃m',m' < m∧I m' e' w') Q) e w) : YC P n (.loop c) Q env w:=by
 refine⟨fun a0 ha0 hd0 b kk cs hro hb hr=>?_⟩
 have key:∀m e a w,I m e w→Agree n e a→a.defers= []→
   ∃e a' w',yl n Q e a' w'∧ArrivesIn (Machine.fenced P (wide none)) P (lone (b.atR a (.code c :: .inLoop c :: kk)) cs w) b kk cs e a' w':=by
  intro m
  induction m using Nat.strongRecOn with
  | _ m ih =>
   intro e a w hI hag hdf
   obtain⟨x,a1,w1,hq,harr⟩:=(round m e w hI).run a hag hdf b (.inLoop c :: kk) cs hro hb hr
   cases x with
   | normal =>
    simp only [yl,thn] at hq
    obtain⟨hd1,e1,hag1,m',hlt,hI'⟩:=hq
    obtain⟨e2,a2,w2,hq2,harr2⟩:=ih m' hlt e1 a1 w1 hI' hag1 hd1
    exact⟨e2,a2,w2,hq2, .of_steps (StepsIn.trans harr (.one (fenced_calm hb hr rfl) stepR_inLoop)) harr2⟩
   | exit id=>exact⟨(.exit id),a1,w1,(show yl n Q (.exit id) a1 w1 from hq), .pass (x:= .inLoop c) rfl (fun _ _=> .inl (by simp)) harr⟩
   | goto l=>exact⟨(.goto l),a1,w1,(show yl n Q (.goto l) a1 w1 from hq), .pass (x:= .inLoop c) rfl (fun _ _=> .inl (by simp)) harr⟩
   | ret=>exact⟨.ret,a1,w1,(show yl n Q .ret a1 w1 from hq), .pass (x:= .inLoop c) rfl (fun _ _=> .inl (by simp)) harr⟩
   | panic ch=>exact hq.elim
   | outgrown=>exact hq.elim
 obtain⟨e,a',w',hq,harr⟩:=key m0 env a0 w h0 ha0 hd0
 exact⟨e,a',w',hq, .of_steps (.one (fenced_calm hb hr rfl) stepR_loop) harr⟩
theorem YC.region{id:Nat}(hr:YO P n l.toArray Q l env w) : YC P n (.region id l.toArray false) Q env w:=⟨fun a ha hd=>wpIn_region_lit (hr.run a ha hd)⟩
theorem YO.nil(hq:Q .normal env w) : YO P n ops Q [] env w:=⟨fun _ ha hd=>⟨hd,env,ha,hq⟩⟩
theorem YO.step{o:Oper}(hg:o.guard=none)(hd:dOK n o.dst=true)(hn:∀c,o.op≠ .defer c)(hs:St P n ([]:List Nat) .read o.dst o.op o.type env w.heap (fun e _=>YO P n ops Q l e w)) : YO P n ops Q (o :: l) env w:=by
 obtain⟨v,h1,h2⟩:=hs.rd rfl
 refine⟨fun a ha hdf=>wpListIn_plain hg fun K hK=>⟨fun _ _=>trivial, ?_⟩⟩
 rw [Oper.semAt_eq _ _ _ hn,exec_mk,h1 a w ha (Stp.refl _)]
 exact hK _ _ (h2.run _ (ha.put hd v) (by rw [put_dfr];exact hdf))
theorem YO.yield{o:Oper}{lp:Nat}{x:Operand}{args:Array Operand}{at':Array TypeId}{vs:List Value}(ho:o.op= .call { callee:= .value x,args:=args,argTypes:=at' })(hg:o.guard=none)(hd:dOK n o.dst=true)(hx:ev env x=some (.func (.yield lp) #[] #[]))(hv:evs env args.toList=some vs)
  (hy:YieldAt Fence.wide 0 P lp vs.toArray w fun e w'=>∃v,e= .returned v∧YO P n ops Q l (putE env o.dst v) w'):YO P n ops Q (o :: l) env w:=by
 obtain⟨fn,tmps,assign,body,hrun,hround⟩:=hy
 refine⟨fun a ha hdf=>wpListIn_plain hg fun K hK=>⟨fun _ _=>trivial, ?_⟩⟩
 have hargs:args.map a.eval=vs.toArray:=by
  apply Array.ext'
  rw [Array.toList_map]
  exact ha.evs hv
 have h2:(execOp a.eval (mkOp o.op o.type)).run P w= .ok (.round lp fn tmps assign body) w:=by
  rw [ho]
  simp [mkOp,execOp,resolve,invoke,ha.ev hx,hargs,hrun,Deferred.ofValue]
 rw [Oper.semAt_eq _ _ _ (fun c h=>by rw [ho] at h;cases h),exec_mk,h2]
 refine⟨fun h=>(by cases h),RoundIn.mono (show RoundIn (wide none) (0 - 1) P lp fn tmps assign body w _ from hround) fun e w' ⟨v,he,hk⟩=>?_⟩
 subst he
 exact hK _ _ (hk.run _ (ha.put hd v) (by rw [put_dfr];exact hdf))
theorem YC.calls{f:FuncId}{fn:Func}{c:Code}{vs:List Value}{R:World→Prop}(hf:P.funcs[f]?=some fn)(hb:fn.body=some c)(hn:fn.ntmps=n)(hr:fn.results=#[])(hl:Nat.ble vs.length n=true)
  (hc:YC P n c (fun e _ w'=>(e= .normal∨e= .ret)∧R w') (argE 0 vs) w):Calls P f vs.toArray w fun e w'=>(∃v,e= .returned v)∧R w':=by
 refine calls_of_wp hf hb ((wpIn_wide (n:=0)).1 (wpIn_mono (hc.run _ ⟨?_,fun t v hv=>?_⟩ rfl) fun e a w1 hl=>?_))
 ·have:=zB hl
  simp only [Array.size_append,List.size_toArray,Array.size_replicate,hn]
  omega
 ·obtain⟨_,h2⟩:=look_argE vs 0 t v hv
  have hlt:t < vs.length:=by
   have:=(zS.1 h2).1
   omega
  rw [Array.getElem?_append_left (by simpa using hlt)]
  simpa using h2
 ·cases e <;> simp only [yl] at hl <;> simp only [bodyPost]
  case normal=>obtain⟨hd,env,ha,_,hq⟩:=hl;exact⟨hd,_,results_none hr _ _ _,⟨_,rfl⟩,hq⟩
  case ret=>obtain⟨hd,env,ha,_,hq⟩:=hl;exact⟨hd,_,results_none hr _ _ _,⟨_,rfl⟩,hq⟩
  case exit=>obtain⟨_,_,_,h,_⟩:=hl;rcases h with h|h <;> cases h
  case goto=>obtain⟨_,_,_,h,_⟩:=hl;rcases h with h|h <;> cases h
theorem YC.ofCA{Γ:Cx}{c:Code}{e:EA}{o:List Res}{env:Env}{w:World}{G:Nat→Prop}{Os:List (Nat→Prop)}{Q:Exit→Env→World→Prop}{α:Type}(st:α→AS)(J:α→Prop)(hr:rfC c=false)(hK:Γ.K=fun _ _=>False)
  (hc:CA Γ [.lp (lpI Γ st J)] c e o) (cn:Con Γ ⟨e,o⟩ env w.heap G Os) (hk:∀x env' w' G' Os',J x→Same w w'→Con Γ (st x) env' w'.heap G' Os'→Q .normal env' w'):YC Γ.P Γ.n c Q env w:=by
 refine⟨fun a ha hd=>wpIn_mono ((hc.h env w.heap G Os cn).run none 0 none a w ha ⟨fun b hb=>(by cases hb),by rw [hd];exact List.nodup_nil,fun d hm=>(by rw [hd] at hm;cases hm)⟩ (fun l hl=>by cases hl) rfl fun h=>(by rw [hr] at h;cases h)) fun x a' w' hl=>?_⟩
 have hret:∀e h,¬PK Γ.P Γ.n (endR Γ) [.lp (lpI Γ st J)] .ret e h:=fun e h hp=>by
  unfold PK at hp;unfold PK at hp
  obtain⟨v,r,own',G',Os',-,h1,-⟩:=hp
  rw [hK] at h1;exact h1
 cases x <;> simp only [lift,yl] at hl ⊢
 case normal =>
  obtain⟨hs,hf,e1,hag,hp⟩:=hl
  unfold PK at hp
  obtain⟨p,hsub,⟨G',Os',cn'⟩,hj⟩:=hp
  exact⟨hf.nil,p.2,hag.sub hsub,hk p.1 p.2 w' G' Os' hj hs cn'⟩
 case ret=>obtain⟨_,_,e1,_,hp⟩:=hl;exact(hret _ _ hp).elim
 case exit=>obtain⟨_,_,e1,_,hp⟩:=hl;unfold PK at hp;unfold PK at hp;exact hp.elim
 case goto=>obtain⟨_,_,e1,_,hp⟩:=hl;unfold PK at hp;unfold PK at hp;exact hp.elim
theorem YO.pass{o:Oper}(hg:gd ops env o false)(hd:dOK n o.dst=true)(hs:YO P n ops Q l (putE env o.dst undef) w) : YO P n ops Q (o :: l) env w:=by
 refine⟨fun a ha hdf=>?_⟩
 unfold wpListIn
 rw [if_neg (by rw [hg n a ha];exact Bool.false_ne_true)]
 exact⟨fun _ _=>trivial,hs.run _ (ha.put hd undef) (by rw [put_dfr];exact hdf)⟩
end
end Go.CF
namespace Go.Proofs.YtmjllbjfkafhdaaGreatDoor
open Go Go.CF
structure TokF (s:ByteArray) (k:Int) (j n:Nat):Prop where
 sk:Skip s 0 j
 nm:k=1↔(j < s.size∧isLetter (byteAt s j)∧¬HasS kwL (s.extract j (j+n)))
 w:j < s.size→isLetter (byteAt s j)→j+n≤s.size∧WordTo s j (j+n)∧(j+n < s.size→¬isWord (byteAt s (j+n)))
theorem Skip.le'{s:ByteArray}{j:Nat}(h:Skip s 0 j) : j≤s.size:=(h.le (zZ _)).2.1
def tkC(k:Int)(j e:Int) : List AV:= [it k,it 0,it j,it e]
abbrev yv (lp:Nat):AV:= .val (.func (.yield lp) #[] #[])
theorem tok_it(s:ByteArray)(hs:s.size≤4096) : ItG true Tryz.prog 281 [.ad [sv s] 0, .ad [.rs kwL] 0] (fun i x=>i=0∧∃(k:Int) (j n:Nat),x= [.agg (tkC k j ((j:Int)+n))]∧TokF s k j n) 1:=by
 obtain⟨j,hj⟩:=Skip.ex s _ 0 rfl
 have hjl:=hj.le'
 have hsk:CallP Tryz.prog 282 [sv (s.extract 0 s.size)] (it j):=by rw [extract_all];exact skip8_p (by omega) hj
 have hu0:=ext_size s j
 have hpart:en 285=true:=rfl
 have hdig:en 286=true:=rfl
 have htf:∀(k:Int) (n:Nat),(j < s.size→isLetter (byteAt s j)→False)→k≠1→TokF s k j n:=fun k n h1 h2=>⟨hj,⟨fun h=>absurd h h2,fun h=>(h1 h.1 h.2.1).elim⟩,fun h3 h4=>(h1 h3 h4).elim⟩
 obtain⟨L,hL⟩:∃L,L=kwL:=⟨_,rfl⟩
 have hkw:∀(q:ByteArray),HasS kwL q↔q∈L:=fun q=>by rw [hL];exact hasS_mem
 rw [←hL]
 refine⟨fun h G vs hg hr=>?_⟩
 match vs,hr with
 | [v1,v2],⟨r1,r2,_⟩ =>
 refine⟨fun lp J Jq w hC hgr hst hY hJ=>?_⟩
 have hfp:=hC 0 _ hJ
 refine YC.calls (vs:= [.func (.yield lp) #[] #[],v1,v2]) (R:=fun w'=>Sm w w'∧(J 1 w'.heap∨∃i,i≤1∧Jq i w'.heap)) Tryz.func281 rfl Tryz.ntmps281 Tryz.results281 rfl ?_
 obtain⟨Γ,hΓ⟩:∃Γ:Cx,Γ=⟨Tryz.prog,tt,en,pg,ord281,93,#[],fun _ _=>False,w.heap,G,fun _=>False,⟨none⟩⟩:=⟨_,rfl⟩
 have cn0:Con ⟨Tryz.prog,tt,en,pg,ord281,93,#[],fun _ _=>False,w.heap,G,fun _=>False,⟨none⟩⟩ ⟨argA 0 [yv lp, .ad [sv s] 0, .ad [.rs L] 0],[]⟩ (argE 0 [.func (.yield lp) #[] #[],v1,v2]) w.heap G [] :=
  ⟨⟨trivial,fun b hb=>⟨Nat.lt_of_lt_of_le (hg b hb) hfp.size, .inl hb⟩,fun _ h=>h,fun O hO=>(by cases hO),List.Pairwise.nil,FPx.refl _⟩,look_argA _ _ 0 ⟨rfl,AV.stp _ hfp r1,AV.stp _ hfp r2,trivial⟩,FpOK.none rfl⟩
 refine YC.seq (YC.ofCA (α:=Unit) (fun _=>⟨[(0,yv lp),(1, .ad [sv s] 0),(2, .ad [.rs L] 0),(4,it (0:Nat))],[]⟩) (fun _=>True) rfl rfl ?_ cn0 ?_)
 ·repeat'(first|apply Sp.h|refine Lk.r rfl ?_|refine Rf.mk rfl ?_|fail)
  exact PA.lp () xE trivial
 rintro _ env1 w1 G1 Os1 _ hs1 cn1
 refine YC.block (YC.loop (fun _ e w'=>e=env1∧w'=w1) 0 ⟨rfl,rfl⟩ ?_)
 rintro m e w' ⟨rfl,rfl⟩
 -- region 1: the token begins
 refine YC.block (YC.seq (YC.ofCA (α:=Nat) (fun b=>⟨[(0,yv lp),(1, .ad [sv s] 0),(2, .ad [.rs L] 0),(5,pm b)],[blkR b 272 (tkC 0 j 0)]⟩) (fun _=>True) rfl rfl ?_ cn1 ?_))
 ·repeat'(first|apply Sp.h|refine Lk.r rfl ?_|refine Rf.mk rfl ?_|refine All.mk fun _=>?_|refine xT ?_|(apply SetAsk.r;focus repeat' constructor)|(apply Fk.r;focus repeat' first|infer_instance|constructor)|refine xN ?_|(apply Jx.r;(focus exact rfl);(focus first|omega|(simp;done)|(simp;omega)))|refine xO ?_|(apply Cl.p (hsk);focus repeat' constructor))
  rw [show((0:Nat):Int)+(j:Int)=(j:Int) by omega]
  rename_i b
  exact PA.lp b xE trivial
 rintro b env2 w2 G2 Os2 _ hs2 cn2
 refine YC.seq (YC.ofCA (α:=Unit) (fun _=>⟨[(0,yv lp),(1, .ad [sv s] 0),(2, .ad [.rs L] 0),(5,pm b),(6,sv (s.extract j s.size))],[blkR b 272 (tkC 0 j 0)]⟩) (fun _=>True) rfl rfl ?_ cn2 ?_)
 ·unfold tkC
  repeat'(first|apply Sp.h|refine Lk.r rfl ?_|refine Rf.mk rfl ?_|refine xT ?_|(apply Jx.r;(focus exact rfl);(focus first|omega|(simp;done)|(simp;omega)))|fail)
  exact PA.lp () xE trivial
 rintro _ env3 w3 G3 Os3 _ hs3 cn3
 refine YC.seq (YC.ofCA (α:=Unit) (fun _=>⟨[(0,yv lp),(2, .ad [.rs L] 0),(5,pm b),(6,sv (s.extract j s.size)),(7,it (0:Nat))],[blkR b 272 (tkC 0 j 0)]⟩) (fun _=>True) rfl rfl ?_ cn3 ?_)
 ·repeat'(first|apply Sp.h|refine Lk.r rfl ?_|refine Rf.mk rfl ?_|fail)
  exact PA.lp () xE trivial
 rintro _ env4 w4 G4 Os4 _ hs4 cn4
 -- the kind of the token, and its length
 refine YC.seq (YC.ofCA (α:=Int×Nat) (fun x=>⟨[(0,yv lp),(5,pm b),(7,it x.2)],[blkR b 272 (tkC x.1 j 0)]⟩) (fun x=>TokF s x.1 j x.2∧x.2≤4096) rfl rfl ?_ cn4 ?_)
 ·clear hY hC hgr hst cn0 cn1 cn2 cn3 cn4
  have hub:∀i,j+i < s.size→byteAt (s.extract j s.size) i=byteAt s (j+i):=fun i hi=>byteAt_ext s j s.size i (Nat.le_refl _) hi
  have hue:∀n,j+n≤s.size→(s.extract j s.size).extract 0 n=s.extract j (j+n):=fun n hn=>by rw [ext_ext s j s.size 0 n hn,Nat.add_zero]
  have hem:=empty_iff (s.extract j s.size)
  generalize s.extract j s.size=u at hu0 hub hue hem ⊢
  have hus:u.size≤1000000000:=by omega
  unfold tkC
  by_cases hz:u.size=0
  ·have hz':=hem.2 hz
   repeat'(first|apply Sp.h|refine Lk.r rfl ?_|refine Rf.mk rfl ?_|refine xA ?_|fail)
   exact PA.lp ((0:Int),(0:Nat)) xE ⟨htf 0 0 (fun h=>by omega) (by omega),by simp only;omega⟩
  have hz':¬u.toList=(⟨#[]⟩:ByteArray).toList:=fun h=>hz (hem.1 h)
  have hb0:=hub 0 (by omega)
  rw [Nat.add_zero] at hb0
  by_cases hl:isLetter (byteAt u 0)
  ·obtain⟨n,hn⟩:=RunN.ex isWord u
   have hrun:=run_p hpart part_p hus hn
   have hnl:=hn.le
   have hw:j+n≤s.size∧WordTo s j (j+n)∧(j+n < s.size→¬isWord (byteAt s (j+n))):=by
    refine⟨by omega,fun i h1 h2=>?_,fun h=>?_⟩
    ·have:=hn.a (i - j) (by omega)
     rw [hub _ (by omega)] at this
     rwa [show i=j+(i - j) by omega]
    ·have:=hn.b (by omega)
     rwa [hub _ (by omega)] at this
   have hx:=hue n hw.1
   have hlx:isLetter (byteAt s j):=by rw [←hb0];exact hl
   repeat'(first|apply Sp.h|refine Lk.r rfl ?_|refine Rf.mk rfl ?_|refine xA ?_|refine xB ?_|(refine Bd.mk ?_ ?_ <;> intro _)|refine OpK.r rfl ?_|refine xT ?_|refine xV ?_|(apply Jx.r;(focus exact rfl);(focus first|omega|(simp;done)|(simp;omega)))|refine xD ?_|(apply Sx.r;(focus exact rfl);(focus first|omega|(simp;omega)))|(apply Cl.p (letter8_p _);focus repeat' constructor)|(apply Cl.p (hrun);focus repeat' constructor))
   all_goals rename_i hm
   ·rw [hx] at hm
    exact PA.lp ((2:Int),n) xE ⟨⟨hj,⟨fun h=>by omega,fun h=>(h.2.2 ((hkw _).2 hm)).elim⟩,fun _ _=>hw⟩,by simp only;omega⟩
   ·rw [hx] at hm
    exact PA.lp ((1:Int),n) xE ⟨⟨hj,⟨fun _=>⟨by omega,hlx,fun h=>hm ((hkw _).1 h)⟩,fun _=>rfl⟩,fun _ _=>hw⟩,by simp only;omega⟩
  have hnl:∀(k:Int) (n:Nat),k≠1→TokF s k j n:=fun k n hk=>htf k n (fun _ h=>hl (by rw [hb0];exact h)) hk
  by_cases hd:isDigit (byteAt u 0)
  ·obtain⟨n,hn⟩:=RunN.ex isDigit u
   have hrun:=run_p hdig digit8_p hus hn
   have:=hn.le
   repeat'(first|apply Sp.h|refine Lk.r rfl ?_|refine Rf.mk rfl ?_|refine xA ?_|refine xB ?_|refine xT ?_|refine xV ?_|(apply Sx.r;(focus exact rfl);(focus first|omega|(simp;omega)))|(apply Cl.p (letter8_p _);focus(repeat' constructor);done)|(apply Cl.p (digit8_p _);focus(repeat' constructor);done)|(apply Cl.p (hrun);focus(repeat' constructor);done))
   exact PA.lp ((3:Int),n) xE ⟨hnl _ _ (by omega),by simp only;omega⟩
  repeat'(first|apply Sp.h|refine Lk.r rfl ?_|refine Rf.mk rfl ?_|refine xB ?_|(apply Sx.r;(focus exact rfl);(focus first|omega|(simp;omega)))|(apply Cl.p (letter8_p _);focus repeat' constructor)|(apply Cl.p (digit8_p _);focus repeat' constructor))
  refine xW (symbol8_c u hus) ?_
  rintro _ _ ⟨n1,rfl,rfl,hn1⟩
  by_cases hp:0 < n1
  ·repeat'(first|apply Sp.h|refine Lk.r rfl ?_|refine Rf.mk rfl ?_|refine xA ?_|fail)
   refine xW (symbol8_c u hus) ?_
   rintro _ _ ⟨n2,rfl,rfl,hn2⟩
   repeat'(first|apply Sp.h|refine Lk.r rfl ?_|refine Rf.mk rfl ?_|refine xT ?_|refine xV ?_|fail)
   exact PA.lp ((4:Int),n2) xE ⟨hnl _ _ (by omega),by simp only;omega⟩
  repeat'(first|apply Sp.h|refine Lk.r rfl ?_|refine Rf.mk rfl ?_|refine xB ?_|refine xT ?_|refine xV ?_|fail)
  refine CA.loop (fun n:Nat=>⟨[(0,yv lp),(5,pm b),(6,sv u),(7,it n)],[blkR b 272 (tkC 5 j 0)]⟩) (fun n=>1≤n∧n≤u.size) (fun n=>u.size - n) 1 xE ⟨Nat.le_refl _,by omega⟩ ?_
  rintro n ⟨hn1,hn2⟩
  by_cases hin:n < u.size
  ·have hbg:=begins8_c (u.extract n u.size) (by rw [ext_size];omega) (by rw [ext_size];omega)
   repeat'(first|apply Sp.h|refine Lk.r rfl ?_|refine Rf.mk rfl ?_|refine xA ?_|refine xB ?_|(refine Bd.mk ?_ ?_ <;> intro _)|(apply Jx.r;(focus exact rfl);(focus first|omega|(simp;done)|(simp;omega)))|(apply Sx.r;(focus exact rfl);(focus first|omega|(simp;omega)))|(apply Cl.p (white8_p _);focus repeat' constructor))
   all_goals try exact PA.lp ((5:Int),n) xE ⟨hnl _ _ (by omega),by simp only;omega⟩
   refine xW (hbg) ?_
   rintro _ _ ⟨bb,rfl,rfl⟩
   cases bb
   ·repeat'(first|apply Sp.h|refine Lk.r rfl ?_|refine Rf.mk rfl ?_|refine xB ?_|refine xO ?_|fail)
    exact PA.lp (n+1) xE ⟨⟨by omega,hin⟩,by omega⟩
   ·repeat'(first|apply Sp.h|refine Lk.r rfl ?_|refine xA ?_|refine xB ?_|fail)
    exact PA.lp ((5:Int),n) xE ⟨hnl _ _ (by omega),by simp only;omega⟩
  ·repeat'(first|apply Sp.h|refine Lk.r rfl ?_|refine Rf.mk rfl ?_|refine xB ?_|(apply Cl.p (white8_p _);(focus repeat'(first|fail))))
   exact PA.lp ((5:Int),n) xE ⟨hnl _ _ (by omega),by simp only;omega⟩
 rintro⟨k,n⟩ env5 w5 G5 Os5 ⟨hT,hn9⟩ hs5 cn5
 simp only at hT hn9 cn5
 refine YC.seq (YC.ofCA (α:=Unit) (fun _=>⟨[(0,yv lp),(5,pm b)],[blkR b 272 (tkC k j ((j:Int)+n))]⟩) (fun _=>True) rfl rfl ?_ cn5 ?_)
 ·unfold tkC
  repeat'(first|apply Sp.h|refine Lk.r rfl ?_|refine Rf.mk rfl ?_|refine xT ?_|refine xV ?_|refine xO ?_|fail)
  exact PA.lp () xE trivial
 rintro _ env6 w6 G6 Os6 _ hs6 cn6
 refine YC.seq (YC.ofCA (α:=Unit) (fun _=>⟨[(0,yv lp),(5,pm b)],[blkR b 272 (tkC k j ((j:Int)+n))]⟩) (fun _=>True) rfl rfl ?_ cn6 ?_)
 ·unfold tkC
  repeat'(first|apply Sp.h|refine Lk.r rfl ?_|refine Rf.mk rfl ?_|refine xT ?_|fail)
  exact PA.lp () xE trivial
 rintro _ env7 w7 G7 Os7 _ hs7 cn7
 -- the loop's body is called
 have hsm:Sm w w7:=(hs1.trans (hs2.trans (hs3.trans (hs4.trans (hs5.trans (hs6.trans hs7)))))).sm
 have hst7:Stp ([]:List Nat) w.heap w7.heap:=⟨cn7.hp.fp.size,fun b hb _=>cn7.hp.fp.same b (fun h=>h) hb⟩
 obtain⟨y0,k0,rfl⟩:=cn7.env 0 _ rfl
 obtain⟨y5,k5,rfl⟩:=cn7.env 5 _ rfl
 obtain⟨O,Os8,cn8⟩:=cn7.take .here
 obtain⟨⟨_,cs,hb,hrl⟩,_⟩:=cn8.hp.own
 have hcs:cs= [.int .i64 k, .int .i64 0, .int .i64 j, .int .i64 ((j:Int)+n)]:=repT_val (r:= [.int .i64 k, .int .i64 0, .int .i64 j, .int .i64 ((j:Int)+n)]) hrl.t
 subst hcs
 have hrep:RepT h G [.agg [Value.int .i64 k, .int .i64 0, .int .i64 j, .int .i64 ((j:Int)+n)].toArray] [.agg (tkC k j ((j:Int)+n))]:=⟨⟨_,rfl,⟨repT_val' [Value.int .i64 k, .int .i64 0, .int .i64 j, .int .i64 ((j:Int)+n)],fun u hu=>by simp at hu;rcases hu with rfl|rfl|rfl|rfl <;> rfl⟩⟩,trivial⟩
 refine YC.seq (YC.region ?_)
 refine YO.step rfl rfl (by intro c h;cases h) (St.move k0 ?_)
 refine YO.step rfl rfl (by intro c h;cases h) (St.loadS pg (ti:=ti272) rfl rfl k5 hb.cels0 (by simp) rfl rfl ?_)
 refine YO.yield rfl rfl rfl rfl rfl ?_
 obtain⟨fn,tm,asg,bd,y1,y2⟩:=hY 0 _ w7 ⟨_,⟨rfl,k,j,n,rfl,hT⟩,hrep⟩ (hgr 0 _ _ hJ hst7) hsm
 refine⟨fn,tm,asg,bd,y1,y2.mono fun e' w'' ⟨q1,q2⟩=>?_⟩
 rcases q2 with⟨rfl,q2⟩|⟨rfl,q2⟩
 ·exact(hst rfl _ q2).elim
 refine⟨_,rfl, ?_⟩
 refine YO.step rfl rfl (by intro c h;cases h) (St.not rfl ?_)
 refine YO.step rfl rfl (by intro c h;cases h) (St.move rfl ?_)
 refine YO.pass (show gd _ _ _ (true == false) from gd_bool (b:=true) (want:=false) rfl rfl rfl) rfl ?_
 refine YO.pass (show gd _ _ _ (true == false) from gd_bool (b:=true) (want:=false) rfl rfl rfl) rfl ?_
 refine YO.pass (show gd _ _ _ (true == false) from gd_bool (b:=true) (want:=false) rfl rfl rfl) rfl ?_
 refine YO.step rfl rfl (by intro c h;cases h) (St.pick_true rfl rfl rfl ?_)
 refine YO.nil ?_
 refine YC.cond (b:=true) rfl (fun _=>YC.ret ?_) (fun hb=>by cases hb)
 exact⟨.inr rfl,hsm.trans q1, .inr ⟨1,Nat.le_refl _,q2⟩⟩
theorem tokF_name{s:ByteArray}{k:Int}{n:Nat}(hT:TokF s k 0 n)(hn:n=s.size) : k=1↔NmW s:=by
 have hx:s.extract 0 (0+n)=s:=by rw [Nat.zero_add,hn,extract_all]
 constructor
 ·intro h
  obtain⟨h1,h2,h3⟩:=hT.nm.1 h
  rw [hx] at h3
  obtain⟨-,h4,-⟩:=hT.w h1 h2
  rw [Nat.zero_add,hn] at h4
  exact⟨h1,h2,h4,h3⟩
 ·rintro⟨h1,h2,h3,h4⟩
  exact hT.nm.2 ⟨h1,h2,by rw [hx];exact h4⟩
theorem tokF_not{s:ByteArray}{k:Int}{j n:Nat}(hT:TokF s k j n)(hn:¬(j=0∧j+n=s.size)) :¬NmW s:=by
 rintro⟨h1,h2,h3,h4⟩
 have hj:=hT.sk.fst h2
 subst hj
 obtain⟨w1,w2,w3⟩:=hT.w h1 h2
 by_cases hlt:0+n < s.size
 ·exact w3 hlt (h3 _ (zZ _) hlt)
 ·exact hn ⟨rfl,by omega⟩
theorem kind8_g(s:ByteArray) : CallG Tryz.prog 220 [sv s] [] fun r own=>∃k:Int,r=it k∧own= []∧(s.size≤4096→(k=1↔NmW s)):=by
 have htk:=tokens_g s
 have hem:=empty_iff s
 refine CallG.of pg ordZ Tryz.func220 rfl Tryz.ntmps220 Tryz.results220 rfl fun h0 G0 O0 ga=>?_
 by_cases hz:s.size=0
 ·have hz':=hem.2 hz
  repeat'(first|(apply ResX.cellI;(focus rfl);(focus repeat constructor);(focus rfl);(focus rfl))|apply Sp.h|refine Lk.r rfl ?_|refine Rf.mk rfl ?_|refine xA ?_|apply All.mk|refine xT ?_|refine xV ?_|refine xN ?_|intro _)
  exact⟨_,_, .one (.same (.z)),0,rfl,rfl,fun _=>⟨fun h=>by omega,fun h=>by have:=h.1;omega⟩⟩
 have hz':¬s.toList=(⟨#[]⟩:ByteArray).toList:=fun h=>hz (hem.1 h)
 by_cases hs:s.size≤4096
 rotate_left
 ·repeat'(first|(apply ResX.cellI;(focus rfl);(focus repeat constructor);(focus rfl);(focus rfl))|apply Sp.h|refine Lk.r rfl ?_|refine Rf.mk rfl ?_|refine xA ?_|refine xB ?_|apply All.mk|refine xT ?_|refine xV ?_|refine xN ?_|intro _)
  exact⟨_,_, .one (.same (.z)),0,rfl,rfl,fun h=>absurd h hs⟩
 (repeat'(first|(show CA _ _ (Code.block 0 _) _ _;apply Stopped.out)|apply Sp.h|refine Lk.r rfl ?_|refine Rf.mk rfl ?_|refine xB ?_|refine All.mk fun _=>?_|refine xT ?_|refine xN ?_|(apply Cl.pG (htk);(focus exact ga);focus(repeat' constructor);done)));any_goals apply Stopped.mk
 rename_i b1 b2
 apply Sp.h
 refine CA.rangeG rfl rfl (tok_it s hs) (fun i x hx=>by obtain⟨-,k,j,n,rfl,-⟩:=hx;rfl) rfl
  (fun i o'=>i=0∧o'= [blkR b2 3 [it 0],blkR b1 9 [sv s]])
  (fun x o'=>(x= .exit 0∧¬NmW s∧o'= [blkR b2 3 [it 0],blkR b1 9 [sv s]])∨(x= .ret∧∃k:Int,(k=1↔NmW s)∧o'= [blkR b2 3 [it k],blkR b1 9 [sv s]]))
  (fun _ o' h=>by have:=h.1;omega) ⟨rfl,rfl⟩ ?_ ?_ ?_ ?_ ?_
 ·rintro i x o' ⟨hi,k,j,n,rfl,hT⟩ ⟨-,rfl⟩ h0' G0' O0' h0g
  have hsk:=hT.sk.le'
  unfold tkC
  repeat'(first|apply Sp.h|refine Lk.r rfl ?_|refine Rf.mk rfl ?_|apply All.mk|refine xT ?_|(apply SetAsk.r;focus repeat' constructor)|refine xN ?_|intro _)
  apply PA.brk h0g rfl
  by_cases hc:j=0∧j+n=s.size
  ·obtain⟨hc1,hc2⟩:=hc
   subst hc1
   have hk:=tokF_name hT (by omega)
   repeat'(first|apply Sp.h|refine Lk.r rfl ?_|refine Rf.mk rfl ?_|refine xA ?_|refine xT ?_|refine xV ?_|fail)
   all_goals try exact(by omega:False).elim
   exact PA.rd [blkR b2 3 [it k],blkR b1 9 [sv s]] (by(repeat first|exact .nil|refine .cons (by repeat constructor) ?_)) (.inr ⟨rfl,k,hk,rfl⟩)
  ·have hno:=tokF_not hT hc
   repeat'(first|apply Sp.h|refine Lk.r rfl ?_|refine Rf.mk rfl ?_|refine xA ?_|refine xB ?_|apply Bd.mk|refine xT ?_|intro _)
   all_goals first
    | exact PA.rd [blkR b2 3 [it 0],blkR b1 9 [sv s]] (by(repeat first|exact .nil|refine .cons (by repeat constructor) ?_)) (.inl ⟨rfl,hno,rfl⟩)
    | exact(hc ⟨by omega,by omega⟩).elim
 ·rintro o' ⟨h,-⟩;omega
 ·rintro o' (⟨h,-⟩|⟨-,k,hk,rfl⟩)
  ·cases h
  ·repeat'(first|(apply ResX.cellI;(focus rfl);(focus repeat constructor);(focus rfl);(focus rfl))|apply Sp.h|refine xN ?_|fail)
   exact⟨_,_, .one (.same (.z)),k,rfl,rfl,fun _=>hk⟩
 ·rintro i o' (⟨h,hno,rfl⟩|⟨h,-⟩)
  ·cases h
   repeat'(first|(apply ResX.cellI;(focus rfl);(focus repeat constructor);(focus rfl);(focus rfl))|apply Sp.h|refine Lk.r rfl ?_|refine Rf.mk rfl ?_|refine xT ?_|refine xV ?_|refine xN ?_|fail)
   exact⟨_,_, .one (.same (.z)),0,rfl,rfl,fun _=>⟨fun h=>by omega,fun h=>absurd h hno⟩⟩
  ·cases h
 ·rintro i o' (⟨h,-⟩|⟨h,-⟩) <;> cases h
theorem name8_g(s:ByteArray) : CallGP Tryz.prog 175 [sv s] (.val (.bool (decide (NmOK s)))):=by
 have hk:=kind8_g s
 refine CallG.of pg ordZ Tryz.func175 rfl Tryz.ntmps175 Tryz.results175 rfl fun h0 G0 O0 ga=>?_
 by_cases hs:s.size≤16
 ·repeat'(first|apply Sp.h|refine Lk.r rfl ?_|refine Rf.mk rfl ?_|refine xA ?_|fail)
  (apply Cl.useG (hk);(focus exact ga);(focus repeat' constructor);(focus repeat' constructor);focus rfl)
  rintro _ _ ⟨k,rfl,rfl,hk⟩
  have hk:=hk (by omega)
  repeat'(first|apply Sp.h|refine Lk.r rfl ?_|refine xA ?_|refine xN ?_|fail)
  refine Fin.p rfl (vb (zD.2 ?_))
  exact⟨fun h=>⟨hk.1 h,hs⟩,fun h=>hk.2 h.1⟩
 ·repeat'(first|apply Sp.h|refine Lk.r rfl ?_|refine Rf.mk rfl ?_|refine xB ?_|refine xN ?_|fail)
  exact Fin.p rfl (vb (zF fun h:NmOK s=>hs h.2).symm)
theorem all3_d(a b c:Prop)[Decidable a][Decidable b][Decidable c] : CallP Tryz.prog 173 [bools [decide a,decide b,decide c]] (.val (.bool (decide (a∧b∧c)))):=by
 have h:=all_p [decide a,decide b,decide c]
 rwa [show [decide a,decide b,decide c].all id=decide (a∧b∧c) by simp] at h
theorem all5_d(a b c d e:Prop)[Decidable a][Decidable b][Decidable c][Decidable d][Decidable e] : CallP Tryz.prog 173 [bools [decide a,decide b,decide c,decide d,decide e]] (.val (.bool (decide (a∧b∧c∧d∧e)))):=by
 have h:=all_p [decide a,decide b,decide c,decide d,decide e]
 rwa [show [decide a,decide b,decide c,decide d,decide e].all id=decide (a∧b∧c∧d∧e) by simp] at h
theorem name_fresh{l:List TblS}{i:Nat}{t:TblS} :¬t.name∈(l.take i).map TblS.name↔∀j u,j < i→l[j]?=some u→u.name.toList≠t.name.toList:=by
 constructor
 ·intro h j u hj hu he
  exact h (List.mem_map.2 ⟨u,zM (i:=j) (by rw [List.getElem?_take,if_pos hj,hu]),ba_ext he⟩)
 ·intro h hm
  obtain⟨u,hu,he⟩:=List.mem_map.1 hm
  obtain⟨j,hj⟩:=zO hu
  rw [List.getElem?_take] at hj
  split at hj
  ·rename_i hji
   exact h j u hji hj (by rw [he])
  ·cases hj
abbrev TestT (sizes:List Int) (l:List TblS) (i:Nat) (t:TblS):Prop:=NmOK t.name∧(¬t.name∈(l.take i).map TblS.name)∧(0≤t.kind∧t.kind≤5)∧ColC sizes t.cols∧RngT t
theorem tab_iff{sizes:List Int}{l:List TblS}{i:Nat}{t:TblS}(hs:Sound sizes) : TabX sizes l i t↔TestT sizes l i t∧t.first=sumK sizes (decide (isStrict t.kind)) (l.take i):=by
 constructor
 ·rintro⟨h1,h2,⟨⟨h3,-,h4⟩,h5,h6,h7,h8,h9⟩,h10,h11⟩
  refine⟨⟨h1,name_fresh.2 h2,⟨h5,h6⟩,⟨h3,h4⟩, ?_⟩,h11⟩
  by_cases hk:t.kind=1∨t.kind=4∨t.kind=5
  ·exact(rngT_1 hk).2 ⟨h8,h7,h9⟩
  ·exact(rngT_0 hk).2 (h10 (by omega))
 ·rintro⟨⟨h1,h2,⟨h5,h6⟩,⟨h3,h4⟩,h7⟩,h11⟩
  by_cases hk:t.kind=1∨t.kind=4∨t.kind=5
  ·have h8:=(rngT_1 hk).1 h7
   exact⟨h1,name_fresh.1 h2,⟨⟨h3,hs,h4⟩,h5,h6,h8.2.1,h8.1,h8.2.2⟩,fun h=>by omega,h11⟩
  ·have h8:=(rngT_0 hk).1 h7
   exact⟨h1,name_fresh.1 h2,⟨⟨h3,hs,h4⟩,h5,h6,by omega,by omega,by omega⟩,fun _=>h8,h11⟩
theorem cvalid_g(sizes:List Int)(l:List TblS) : CallGP Tryz.prog 125 [ints sizes,tbls l] (.val (.bool (decide (LayX sizes l)))):=by
  have hsz:=sized_p sizes
  have ha3:=all3_d ((sizes.length:Int)≤4) ((l.length:Int)≤12) (Sound sizes)
  refine CallG.of pg ord125 Tryz.func125 rfl Tryz.ntmps125 Tryz.results125 rfl fun h0 G0 O0 ga=>?_
  by_cases h0:(sizes.length:Int)≤4∧(l.length:Int)≤12∧Sound sizes
  rotate_left
  · have hn:¬LayX sizes l:=fun h=>h0 ⟨by have:=h.sz;omega,by have:=h.tl;omega,h.so⟩
    (repeat'(first|apply Sp.h|refine Lk.r rfl ?_|refine Rf.mk rfl ?_|refine xB ?_|refine Im.mk fun _=>?_|refine All.mk fun _=>?_|(apply Fk.r;focus repeat' first|infer_instance|constructor)|refine xN ?_|refine Rf.mk ⟨rfl,rfl,rfl⟩ ?_|(apply Cl.p (hsz);focus(repeat' constructor);done)|(apply Cl.lend (ha3);(focus((repeat'(first|exact Lend.nil|(apply Lend.lendm;(focus repeat constructor);(focus rfl);(focus first|omega|decide|(simp;omega)|exact zB rfl))|fail));done)))))
    exact Fin.p rfl (vb (zF hn).symm)
  have hs:=h0.2.2
  have hll:=h0.2.1
  (repeat'(first|apply Sp.h|refine Lk.r rfl ?_|refine Rf.mk rfl ?_|refine xA ?_|refine Im.mk fun _=>?_|refine All.mk fun _=>?_|(apply Fk.r;focus repeat' first|infer_instance|constructor)|refine Rf.mk ⟨rfl,rfl,rfl⟩ ?_|(apply Cl.p (hsz);focus(repeat' constructor);done)|(apply Cl.lend (ha3);(focus((repeat'(first|exact Lend.nil|(apply Lend.lendm;(focus repeat constructor);(focus rfl);(focus first|omega|decide|(simp;omega)|exact zB rfl))|fail));done)))))
  refine MkM.r (fun x:AV=>x) ?_
  refine⟨fun b=>?_⟩
  (repeat'(first|(show CA _ _ (Code.region 4 _ _) _ _;apply Stopped.out)|apply Sp.h|refine Lk.r rfl ?_|fail));any_goals apply Stopped.mk
  refine CA.own (OX.set (by repeat constructor)) ?_
  repeat'(first|apply Sp.h|refine Lk.r rfl ?_|refine Rf.mk rfl ?_|apply Im.mk|apply All.mk|refine xT ?_|refine xV ?_|refine xN ?_|intro _)
  rename_i b6 b7 hl9
  refine CA.loop (fun i:Nat=>⟨[(0,ints sizes),(5, .val (.map (some b))),(6,pm b6),(7,pm b7),(23,tbls l),(24,it (l.length:Nat)),(25,it i)],[setS b ((l.take i).map TblS.name),blkR b6 3 [it (sumK sizes true (l.take i))],blkR b7 3 [it (sumK sizes false (l.take i))]]⟩) (fun i=>i≤l.length∧∀j t,j < i→l[j]?=some t→TabX sizes l j t) (fun i=>l.length - i) 0 xE ⟨zZ _,fun j t h=>by omega⟩ ?_
  rintro i ⟨hi,ht⟩
  by_cases hin:i < l.length
  · obtain⟨t,hti⟩:=get_of hin
    have hno:¬TabX sizes l i t→¬LayX sizes l:=fun h h2=>h (h2.t i t hti)
    have hsu:=sumK_succ (sizes:=sizes) (s:=true) hti
    have hsv:=sumK_succ (sizes:=sizes) (s:=false) hti
    have hlu:=sumK_le (sizes:=sizes) (s:=true) (l:=l) i
    have hlv:=sumK_le (sizes:=sizes) (s:=false) (l:=l) i
    have hnu:=num_le sizes t.cols
    have hiff:=tab_iff (sizes:=sizes) (l:=l) (i:=i) (t:=t) hs
    have ha5:=all5_d (NmOK t.name) (¬t.name∈(l.take i).map TblS.name) (0≤t.kind∧t.kind≤5) (ColC sizes t.cols) (RngT t)
    have hnm:=name8_g t.name
    have hwi:=within_c t.kind 0 5
    have hco:=columned_p sizes t.cols
    have hra:=ranged_p t
    by_cases hT:TestT sizes l i t
    rotate_left
    · repeat'(first|apply Sp.h|refine Lk.r rfl ?_|refine Rf.mk rfl ?_|refine xA ?_|refine xB ?_|refine OpK.r rfl ?_|refine All.mk fun _=>?_|refine xT ?_|refine xI ?_|refine Ch.l ⟨rfl,rfl⟩ ?_|(apply SetAsk.r;focus repeat' constructor)|(apply Fk.r;focus repeat' first|infer_instance|constructor)|refine xN ?_|refine Rf.mk ⟨rfl,rfl,rfl⟩ ?_|refine xD ?_|(apply TkS.r;(focus repeat constructor))|(apply Cl.pG (hnm);(focus exact ga);focus(repeat' constructor);done)|(apply Cl.p (hwi);focus(repeat' constructor);done)|(apply Cl.p (hco);focus(repeat' constructor);done)|(apply Cl.p (hra);focus(repeat' constructor);done)|(apply Cl.lend (hra);(focus((repeat'(first|fail));done)))|(apply Cl.lend (ha5);(focus((repeat'(first|exact Lend.nil|(apply Lend.lendm;(focus repeat constructor);(focus rfl);(focus first|omega|decide|(simp;omega)|exact zB rfl))|fail));done))))
      all_goals exact Fin.p rfl (vb (zF (hno fun h=>hT (hiff.1 h).1)).symm)
    have hst':=isStrict_p t
    have hcok:ColOK sizes t.cols:=⟨hT.2.2.2.1.1,hs,hT.2.2.2.1.2⟩
    have hwd:=width_p sizes t.cols hcok
    have hnp:numF sizes t.cols=prodF sizes t.cols:=by rw [numF,if_pos hcok]
    have hns:(l.take (i+1)).map TblS.name=(l.take i).map TblS.name ++ [t.name]:=by rw [zK,hti];simp
    rw [hnp] at hnu hsu hsv
    by_cases hst:isStrict t.kind
    · rw [zT hst] at hsu hsv hiff
      rw [if_pos rfl] at hsu
      rw [if_neg (by simp)] at hsv
      repeat'(first|apply Sp.h|refine Lk.r rfl ?_|refine Rf.mk rfl ?_|refine xA ?_|(refine Bd.mk ?_ ?_ <;> intro _)|refine OpK.r rfl ?_|refine All.mk fun _=>?_|refine xT ?_|refine xI ?_|refine Ch.l ⟨rfl,rfl⟩ ?_|refine xV ?_|(apply SetAsk.r;focus repeat' constructor)|(apply Fk.r;focus repeat' first|infer_instance|constructor)|refine xN ?_|refine Rf.mk ⟨rfl,rfl,rfl⟩ ?_|refine xD ?_|refine xO ?_|(apply TkS.r;(focus repeat constructor))|(apply Cl.pG (hnm);(focus exact ga);focus(repeat' constructor);done)|(apply Cl.p (hwi);focus(repeat' constructor);done)|(apply Cl.p (hco);focus(repeat' constructor);done)|(apply Cl.p (hra);focus(repeat' constructor);done)|(apply Cl.p (hst');focus(repeat' constructor);done)|(apply Cl.p (hwd);focus(repeat' constructor);done)|(apply Cl.lend (hra);(focus((repeat'(first|fail));done)))|(apply Cl.lend (ha5);(focus((repeat'(first|exact Lend.nil|(apply Lend.lendm;(focus repeat constructor);(focus rfl);(focus first|omega|decide|(simp;omega)|exact zB rfl))|fail));done))))
      all_goals first
        | (rw [←hsu,←hns]
           rw [show sumK sizes false (l.take i)=sumK sizes false (l.take (i+1)) by omega]
           exact PA.lp (i+1) xE ⟨⟨hin,alli_succ hti ht (hiff.2 ⟨hT,by assumption⟩)⟩,by omega⟩)
        | exact Fin.p rfl (vb (zF (hno fun h=>absurd (hiff.1 h).2 (by assumption))).symm)
    · rw [zF hst] at hsu hsv hiff
      rw [if_neg (by simp)] at hsu
      rw [if_pos rfl] at hsv
      repeat'(first|apply Sp.h|refine Lk.r rfl ?_|refine Rf.mk rfl ?_|refine xA ?_|refine xB ?_|(refine Bd.mk ?_ ?_ <;> intro _)|refine OpK.r rfl ?_|refine All.mk fun _=>?_|refine xT ?_|refine xI ?_|refine Ch.l ⟨rfl,rfl⟩ ?_|refine xV ?_|(apply SetAsk.r;focus repeat' constructor)|(apply Fk.r;focus repeat' first|infer_instance|constructor)|refine xN ?_|refine Rf.mk ⟨rfl,rfl,rfl⟩ ?_|refine xD ?_|refine xO ?_|(apply TkS.r;(focus repeat constructor))|(apply Cl.pG (hnm);(focus exact ga);focus(repeat' constructor);done)|(apply Cl.p (hwi);focus(repeat' constructor);done)|(apply Cl.p (hco);focus(repeat' constructor);done)|(apply Cl.p (hra);focus(repeat' constructor);done)|(apply Cl.p (hst');focus(repeat' constructor);done)|(apply Cl.p (hwd);focus(repeat' constructor);done)|(apply Cl.lend (hra);(focus((repeat'(first|fail));done)))|(apply Cl.lend (ha5);(focus((repeat'(first|exact Lend.nil|(apply Lend.lendm;(focus repeat constructor);(focus rfl);(focus first|omega|decide|(simp;omega)|exact zB rfl))|fail));done))))
      all_goals first
        | (rw [←hsv,←hns]
           rw [show sumK sizes true (l.take i)=sumK sizes true (l.take (i+1)) by omega]
           exact PA.lp (i+1) xE ⟨⟨hin,alli_succ hti ht (hiff.2 ⟨hT,by assumption⟩)⟩,by omega⟩)
        | exact Fin.p rfl (vb (zF (hno fun h=>absurd (hiff.1 h).2 (by assumption))).symm)
  · have:i=l.length:=by omega
    subst this
    rw [zL]
    have ht:=alli_all ht
    repeat'(first|apply Sp.h|refine Lk.r rfl ?_|refine Rf.mk rfl ?_|refine xA ?_|refine xB ?_|apply Bd.mk|refine xT ?_|refine xN ?_|intro _)
    · rename_i h
      refine Fin.p rfl (vb ?_)
      by_cases h9:sumK sizes false l≤64
      · rw [zT h9,zT (show LayX sizes l from⟨by omega,hs,by omega,ht,by omega,h9⟩)]
      · rw [zF h9,zF (fun h8:LayX sizes l=>h9 h8.m)]
    · rename_i h
      exact Fin.p rfl (vb (zF fun h8=>h h8.s).symm)
def DisX(l:List ByteArray) : Prop:=∀(i:Nat) (s:ByteArray),l[i]?=some s→NmOK s∧∀(j:Nat) (q:ByteArray),j < i→l[j]?=some q→q.toList≠s.toList
noncomputable instance (l:List ByteArray):Decidable (DisX l):=zC _
theorem has_take{l:List ByteArray}{i:Nat}{s:ByteArray}(hi:i≤l.length) :¬HasS (l.take i) s↔∀(j:Nat) (q:ByteArray),j < i→l[j]?=some q→q.toList≠s.toList:=by
 constructor
 ·intro h j q hj hq he
  exact h ⟨q,zM (i:=j) (by rw [List.getElem?_take_of_lt hj];exact hq),he⟩
 ·rintro h ⟨q,hq,he⟩
  obtain⟨j,hj⟩:=zO hq
  have hlt:=(zS.1 hj).1
  rw [zN] at hlt
  rw [List.getElem?_take_of_lt (by omega)] at hj
  exact h j q (by omega) hj he
theorem distinct_e(l:List ByteArray) : CallP Tryz.prog 52 [.sl 1 l strC] (.val (.bool (decide (DisX l)))):=by
 refine CallA.of pg ord52 Tryz.func52 rfl Tryz.ntmps52 Tryz.results52 rfl fun h0 G0 O0=>?_
 repeat'(first|apply Sp.h|refine Lk.r rfl ?_|refine Rf.mk rfl ?_|fail)
 refine CA.loop (fun i:Nat=>⟨[(0, .sl 1 l strC),(3,it i)],[]⟩) (fun i=>i≤l.length∧∀j s,j < i→l[j]?=some s→NmOK s∧∀k q,k < j→l[k]?=some q→q.toList≠s.toList) (fun i=>l.length - i) 0 xE ⟨zZ _,fun j s h=>by omega⟩ ?_
 rintro i ⟨hi,ha⟩
 by_cases hin:i < l.length
 ·obtain⟨s,hs⟩:=get_of hin
  have hht:=has_take (l:=l) (s:=s) hi
  have hhp:=has_p (l.take i) s
  repeat'(first|apply Sp.h|refine Lk.r rfl ?_|refine Rf.mk rfl ?_|refine xA ?_|refine xB ?_|(refine Bd.mk ?_ ?_ <;> intro _)|refine OpK.r rfl ?_|refine Im.mk fun _=>?_|refine xI ?_|refine xN ?_|(apply Jx.r;(focus exact rfl);(focus first|omega|(simp;done)|(simp;omega)))|refine xD ?_|refine xO ?_|(apply Cl.p (name_e s);focus repeat' constructor)|(apply Cl.p (hhp);focus repeat' constructor))
  all_goals first
   | exact PA.lp (i+1) xE ⟨⟨hin,alli_succ hs ha ⟨by assumption,hht.1 (by assumption)⟩⟩,by omega⟩
   | exact Fin.p rfl (vb (zF fun h:DisX l=>absurd (h i s hs).1 (by assumption)).symm)
   | exact Fin.p rfl (vb (zF fun h:DisX l=>absurd (by assumption) (hht.2 (h i s hs).2)).symm)
 ·have:i=l.length:=by omega
  subst this
  repeat'(first|apply Sp.h|refine Lk.r rfl ?_|refine Rf.mk rfl ?_|refine xB ?_|apply Im.mk|refine xN ?_|intro _)
  exact Fin.p rfl (vb (zT (show DisX l from alli_all ha)).symm)
structure TrmX (n:Int) (l:List (Int×Int)) (i:Nat) (p:Int×Int):Prop where
 a:0≤p.1
 b:p.1 < n
 c:p.2≠0
 d: -1000≤p.2∧p.2≤1000
 e:∀q,0 < i→l[i - 1]?=some q→q.1 < p.1
structure RowX (n:Int) (r:RowS):Prop where
 t:∀i p,r.terms[i]?=some p→TrmX n r.terms i p
 b: -1000000000≤r.bound∧r.bound≤1000000000
noncomputable instance (n:Int) (r:RowS):Decidable (RowX n r):=zC _
theorem row_e(r:RowS)(n:Int) : CallP Tryz.prog 119 [.agg (rowC r),it n] (.val (.bool (decide (RowX n r)))):=by
 have hb1:=between13_p r.bound 1000000000 (by omega)
 refine CallA.of pg ord119 Tryz.func119 rfl Tryz.ntmps119 Tryz.results119 rfl fun h0 G0 O0=>?_
 repeat'(first|apply Sp.h|refine Lk.r rfl ?_|refine Rf.mk rfl ?_|apply All.mk|intro _)
 rename_i b2
 refine CA.loop (fun i:Nat=>⟨[(1,it n),(2, .val (.pointer (some ⟨b2,0,none⟩))),(5,it i)],[blkR b2 170 (rowC r)]⟩) (fun i=>i≤r.terms.length∧∀j p,j < i→r.terms[j]?=some p→TrmX n r.terms j p) (fun i=>r.terms.length - i) 0 xE ⟨zZ _,fun j p h=>by omega⟩ ?_
 rintro i ⟨hi,ha⟩
 by_cases hin:i < r.terms.length
 ·obtain⟨p,hp⟩:=get_of hin
  have hbp:=between13_p p.2 1000 (by omega)
  by_cases hT:TrmX n r.terms i p
  ·obtain⟨g1,g2,g3,g4,g5⟩:=hT
   rcases Nat.eq_zero_or_pos i with h0|h0
   ·subst h0
    repeat'(first|apply Sp.h|refine Lk.r rfl ?_|refine Rf.mk rfl ?_|refine xA ?_|refine xB ?_|refine OpK.r rfl ?_|refine Im.mk fun _=>?_|refine All.mk fun _=>?_|refine xT ?_|refine xI ?_|refine Ch.l ⟨rfl,rfl⟩ ?_|(apply SetAsk.r;focus repeat' constructor)|refine xN ?_|refine xD ?_|refine xO ?_|(apply Cl.p (hbp);focus repeat' constructor))
    exact PA.lp 1 xE ⟨⟨hin,alli_succ hp ha ⟨g1,g2,g3,g4,g5⟩⟩,by omega⟩
   ·obtain⟨k,rfl⟩:∃k,i=k+1:=⟨i - 1,by omega⟩
    obtain⟨q,hq⟩:=get_of (l:=r.terms) (i:=k) (by omega)
    have hqp:=g5 q h0 hq
    repeat'(first|apply Sp.h|refine Lk.r rfl ?_|refine Rf.mk rfl ?_|refine xA ?_|refine xB ?_|refine OpK.r rfl ?_|refine Im.mk fun _=>?_|refine All.mk fun _=>?_|refine xT ?_|refine xI ?_|(apply Ix.r;(focus assumption);(focus omega))|refine Ch.l ⟨rfl,rfl⟩ ?_|(apply SetAsk.r;focus repeat' constructor)|refine xN ?_|refine xD ?_|refine xO ?_|(apply Cl.p (hbp);focus repeat' constructor))
    exact PA.lp (k+1+1) xE ⟨⟨hin,alli_succ hp ha ⟨g1,g2,g3,g4,g5⟩⟩,by omega⟩
  ·have hno:¬RowX n r:=fun h=>hT (h.t i p hp)
   rcases Nat.eq_zero_or_pos i with h0|h0
   ·subst h0
    repeat'(first|apply Sp.h|refine Lk.r rfl ?_|refine Rf.mk rfl ?_|refine xA ?_|refine xB ?_|(refine Bd.mk ?_ ?_ <;> intro _)|refine OpK.r rfl ?_|refine Im.mk fun _=>?_|refine All.mk fun _=>?_|refine xT ?_|refine xI ?_|refine Ch.l ⟨rfl,rfl⟩ ?_|(apply SetAsk.r;focus repeat' constructor)|refine xN ?_|refine xD ?_|refine xO ?_|(apply Cl.p (hbp);focus repeat' constructor))
    all_goals first
     | exact Fin.p rfl (vb (zF hno).symm)
     | exact(hT ⟨by omega,by omega,by omega,by omega,fun q h=>by omega⟩).elim
   ·obtain⟨k,rfl⟩:∃k,i=k+1:=⟨i - 1,by omega⟩
    obtain⟨q,hq⟩:=get_of (l:=r.terms) (i:=k) (by omega)
    repeat'(first|apply Sp.h|refine Lk.r rfl ?_|refine Rf.mk rfl ?_|refine xA ?_|refine xB ?_|(refine Bd.mk ?_ ?_ <;> intro _)|refine OpK.r rfl ?_|refine Im.mk fun _=>?_|refine All.mk fun _=>?_|refine xT ?_|refine xI ?_|(apply Ix.r;(focus assumption);(focus omega))|refine Ch.l ⟨rfl,rfl⟩ ?_|(apply SetAsk.r;focus repeat' constructor)|refine xN ?_|refine xD ?_|refine xO ?_|(apply Cl.p (hbp);focus repeat' constructor))
    all_goals first
     | exact Fin.p rfl (vb (zF hno).symm)
     | exact(hT ⟨by omega,by omega,by omega,by omega,fun q' _ h=>by rw [show k+1 - 1=k by omega,hq] at h;cases h;omega⟩).elim
 ·have:i=r.terms.length:=by omega
  subst this
  repeat'(first|apply Sp.h|refine Lk.r rfl ?_|refine Rf.mk rfl ?_|refine xB ?_|refine Im.mk fun _=>?_|refine xT ?_|refine xN ?_|(apply Cl.p (hb1);focus repeat' constructor))
  refine Fin.p rfl (vb ?_)
  by_cases h9: -1000000000≤r.bound∧r.bound≤1000000000
  ·rw [zT h9,zT (show RowX n r from⟨alli_all ha,h9⟩)]
  ·rw [zF h9,zF (fun h8:RowX n r=>h9 h8.b)]
theorem sameTerms_e(a b:List (Int×Int)) : CallP Tryz.prog 170 [terms a,terms b] (.val (.bool (decide (a=b)))):=by
 refine CallA.of pg ord170 Tryz.func170 rfl Tryz.ntmps170 Tryz.results170 rfl fun h0 G0 O0=>?_
 by_cases hl:a.length=b.length
 ·repeat'(first|apply Sp.h|refine Lk.r rfl ?_|refine Rf.mk rfl ?_|refine xA ?_|apply Im.mk|intro _)
  refine CA.loop (fun i:Nat=>⟨[(0,terms a),(1,terms b),(5,it i)],[]⟩) (fun i=>i≤a.length∧a.take i=b.take i) (fun i=>a.length - i) 0 xE ⟨zZ _,rfl⟩ ?_
  rintro i ⟨hi,he⟩
  by_cases hin:i < a.length
  ·obtain⟨p,hp⟩:=get_of hin
   obtain⟨q,hq⟩:=get_of (l:=b) (i:=i) (by omega)
   by_cases hpq:p=q
   ·subst hpq
    repeat'(first|apply Sp.h|refine Lk.r rfl ?_|refine Rf.mk rfl ?_|refine xA ?_|refine OpK.r rfl ?_|apply Im.mk|refine xI ?_|refine Ch.l ⟨rfl,rfl⟩ ?_|refine xK ?_|(apply Kf.mk;(focus kernel_rfl))|refine xD ?_|refine xO ?_|intro _)
    all_goals first
     | exact PA.lp (i+1) xE ⟨⟨hin,by rw [zK,zK,he,hp,hq]⟩,by omega⟩
     | exact absurd rfl (by assumption)
   ·have hne:a≠b:=fun h=>hpq (by rw [h,hq] at hp;cases hp;rfl)
    repeat'(first|apply Sp.h|refine Lk.r rfl ?_|refine Rf.mk rfl ?_|refine xA ?_|apply Bd.mk|refine OpK.r rfl ?_|apply Im.mk|refine xI ?_|refine Ch.l ⟨rfl,rfl⟩ ?_|refine xN ?_|refine xK ?_|(apply Kf.mk;(focus kernel_rfl))|refine xD ?_|refine xO ?_|intro _)
    all_goals first
     | exact Fin.p rfl (vb (zF hne).symm)
     | (rename_i h9;injection h9 with h8 h9;injection h9 with h9;exact(hpq (Prod.ext h8 h9)).elim)
  ·have:i=a.length:=by omega
   rw [List.take_of_length_le (by omega),List.take_of_length_le (by omega)] at he
   repeat'(first|apply Sp.h|refine Lk.r rfl ?_|refine Rf.mk rfl ?_|refine xB ?_|apply Im.mk|refine xN ?_|intro _)
   exact Fin.p rfl (vb (zT he).symm)
 ·have hne:a≠b:=fun h=>hl (by rw [h])
  repeat'(first|apply Sp.h|refine Lk.r rfl ?_|refine Rf.mk rfl ?_|refine xB ?_|apply Im.mk|refine xN ?_|intro _)
  all_goals exact Fin.p rfl (vb (zF hne).symm)
theorem sameRow_e(a b:RowS) : CallP Tryz.prog 118 [.agg (rowC a), .agg (rowC b)] (.val (.bool (decide (a.terms=b.terms∧a.bound=b.bound)))):=by
 refine CallA.of pg ordZ Tryz.func118 rfl Tryz.ntmps118 Tryz.results118 rfl fun h0 G0 O0=>?_
 by_cases hb:a.bound=b.bound
 ·repeat'(first|apply Sp.h|refine Lk.r rfl ?_|refine Rf.mk rfl ?_|refine xA ?_|refine All.mk fun _=>?_|refine xT ?_|refine xN ?_|(apply Cl.p (sameTerms_e _ _);focus repeat' constructor))
  refine Fin.p rfl (vb ?_)
  exact zD.2 ⟨fun h=>⟨h,hb⟩,fun h=>h.1⟩
 ·repeat'(first|apply Sp.h|refine Lk.r rfl ?_|refine Rf.mk rfl ?_|refine xB ?_|refine All.mk fun _=>?_|refine xT ?_|refine xN ?_|(apply Cl.p (sameTerms_e _ _);(focus repeat'(first|fail))))
  exact Fin.p rfl (vb (zF fun h=>hb h.2).symm)
def GrfT(sorts:List Int)(c:CnsS)(t:TblS) : Prop:=t.kind=0∧t.first=c.first∧∃x:Nat,t.cols= [(x:Int),(x:Int)]∧sorts[x]?=some c.size
def GrfX(m:ModS)(c:CnsS) : Prop:=c.row.terms= []∧c.row.bound=0∧∃(i:Nat) (t:TblS),m.tables[i]?=some t∧GrfT m.sorts c t
noncomputable instance (m:ModS) (c:CnsS):Decidable (GrfX m c):=zC _
theorem graph_e(m:ModS)(c:CnsS)(hm:LayOK m.sorts m.tables) : CallP Tryz.prog 120 [mdl m, .agg (cnsC c)] (.val (.bool (decide (GrfX m c)))):=by
 refine CallA.of pg ord120 Tryz.func120 rfl Tryz.ntmps120 Tryz.results120 rfl fun h0 G0 O0=>?_
 by_cases h0:c.row.terms.length=0∧c.row.bound=0
 rotate_left
 ·have hno:¬GrfX m c:=fun h=>h0 ⟨by rw [h.1];rfl,h.2.1⟩
  repeat'(first|apply Sp.h|refine Lk.r rfl ?_|refine Rf.mk rfl ?_|refine xA ?_|refine xB ?_|apply Bd.mk|apply Im.mk|apply All.mk|refine xT ?_|refine xN ?_|intro _)
  all_goals first
   | exact Fin.p rfl (vb (zF hno).symm)
   | exact(h0 ⟨by omega,by assumption⟩).elim
 obtain⟨hl0,hb0⟩:=h0
 repeat'(first|apply Sp.h|refine Lk.r rfl ?_|refine Rf.mk rfl ?_|refine xA ?_|refine xB ?_|apply Im.mk|apply All.mk|refine xT ?_|intro _)
 rename_i b2 b3 _
 refine CA.loop (fun i:Nat=>⟨[(2, .val (.pointer (some ⟨b2,0,none⟩))),(3, .val (.pointer (some ⟨b3,0,none⟩))),(5,it i)],[blkR b3 172 (cnsC c),blkR b2 30 (modC m)]⟩) (fun i=>i≤m.tables.length∧∀j t,j < i→m.tables[j]?=some t→¬GrfT m.sorts c t) (fun i=>m.tables.length - i) 0 xE ⟨zZ _,fun j t h=>by omega⟩ ?_
 rintro i ⟨hi,hno⟩
 by_cases hin:i < m.tables.length
 ·obtain⟨t,ht⟩:=get_of hin
  obtain⟨⟨g1,g2,g3⟩,-⟩:=hm.2.2.2 t (zM ht)
  by_cases hl:t.cols.length=2
  ·obtain⟨x,hx⟩:=get_of (l:=t.cols) (i:=0) (by omega)
   obtain⟨y,hy⟩:=get_of (l:=t.cols) (i:=1) (by omega)
   have hcs:t.cols= [x,y]:=by
    match hc:t.cols,hl with
    | [u,v],_=>rw [hc] at hx hy;cases hx;cases hy;rfl
   obtain⟨hx1,hx2⟩:=g3 x (zM hx)
   obtain⟨k,rfl⟩:=Int.eq_ofNat_of_zero_le hx1
   obtain⟨z,hz⟩:=get_of (l:=m.sorts) (i:=k) (by omega)
   by_cases hT:GrfT m.sorts c t
   ·have hyes:GrfX m c:=⟨List.length_eq_zero_iff.1 hl0,hb0,i,t,ht,hT⟩
    obtain⟨h1,h2,w,h3,h4⟩:=hT
    rw [hcs] at h3
    injection h3 with e1 h3
    injection h3 with e2 h3
    subst e2
    obtain rfl:k=w:=by omega
    rw [hz] at h4
    injection h4 with h4
    repeat'(first|apply Sp.h|refine Lk.r rfl ?_|refine Rf.mk rfl ?_|refine xA ?_|refine OpK.r rfl ?_|apply Im.mk|apply All.mk|refine xT ?_|refine xI ?_|refine Ch.l ⟨rfl,rfl⟩ ?_|(apply SetAsk.r;focus repeat' constructor)|refine xN ?_|refine xD ?_|intro _)
    all_goals first
     | exact Fin.p rfl (vb (zT hyes).symm)
     | exact absurd (by assumption) (by assumption)
     | exact(by omega:False).elim
   ·have hgo:=alli_succ ht hno hT
    repeat'(first|apply Sp.h|refine Lk.r rfl ?_|refine Rf.mk rfl ?_|refine xA ?_|refine xB ?_|apply Bd.mk|refine OpK.r rfl ?_|apply Im.mk|apply All.mk|refine xT ?_|refine xI ?_|refine Ch.l ⟨rfl,rfl⟩ ?_|(apply SetAsk.r;focus repeat' constructor)|refine xN ?_|refine xD ?_|refine xO ?_|intro _)
    all_goals first
     | exact PA.lp (i+1) xE ⟨⟨hin,hgo⟩,by omega⟩
     | exact(hT ⟨by omega,by omega,k,by rw [hcs,show y=(k:Int) by omega],by rw [hz,show z=c.size by omega]⟩).elim
  ·have hT:¬GrfT m.sorts c t:=by
    rintro⟨-,-,x,h,-⟩
    exact hl (by rw [h];rfl)
   have hgo:=alli_succ ht hno hT
   repeat'(first|apply Sp.h|refine Lk.r rfl ?_|refine Rf.mk rfl ?_|refine xA ?_|refine xB ?_|apply Bd.mk|refine OpK.r rfl ?_|apply Im.mk|apply All.mk|refine xT ?_|refine xI ?_|refine Ch.l ⟨rfl,rfl⟩ ?_|(apply SetAsk.r;focus repeat' constructor)|refine xN ?_|refine xD ?_|refine xO ?_|intro _)
   all_goals exact PA.lp (i+1) xE ⟨⟨hin,hgo⟩,by omega⟩
 ·have:i=m.tables.length:=by omega
  subst this
  repeat'(first|apply Sp.h|refine Lk.r rfl ?_|refine Rf.mk rfl ?_|refine xB ?_|apply Im.mk|refine xT ?_|refine xN ?_|intro _)
  refine Fin.p rfl (vb (zF ?_).symm)
  rintro⟨-,-,j,t,ht,h⟩
  exact hno j t (zS.1 ht).1 ht h
theorem has_mem{l:List ByteArray}{s:ByteArray} : HasS l s↔s∈l :=
 ⟨fun⟨q,hq,he⟩=>by rw [←ba_ext he];exact hq,fun h=>⟨s,h,rfl⟩⟩
theorem mdistinct_g(l:List ByteArray) : CallGP Tryz.prog 126 [.sl 1 l strC] (.val (.bool (decide (DisX l)))):=by
 refine CallG.of pg ordZ Tryz.func126 rfl Tryz.ntmps126 Tryz.results126 rfl fun h0 G0 O0 ga=>?_
 repeat'(first|apply Sp.h|refine Lk.r rfl ?_|refine Rf.mk rfl ?_|fail)
 refine MkM.r (fun x:AV=>x) ?_
 refine⟨fun b=>?_⟩
 (repeat'(first|(show CA _ _ (Code.region 2 _ _) _ _;apply Stopped.out)|apply Sp.h|refine Lk.r rfl ?_|fail));any_goals apply Stopped.mk
 refine CA.own (OX.set (by repeat constructor)) ?_
 repeat'(first|apply Sp.h|refine Lk.r rfl ?_|refine Rf.mk rfl ?_|apply Im.mk|intro _)
 refine CA.loop (fun i:Nat=>⟨[(3, .val (.map (some b))),(7, .sl 1 l strC),(8,it (l.length:Nat)),(9,it i)],[setS b (l.take i)]⟩) (fun i=>i≤l.length∧∀j s,j < i→l[j]?=some s→NmOK s∧∀k q,k < j→l[k]?=some q→q.toList≠s.toList) (fun i=>l.length - i) 0 xE ⟨zZ _,fun j s h=>by omega⟩ ?_
 rintro i ⟨hi,ha⟩
 by_cases hin:i < l.length
 ·obtain⟨s,hs⟩:=get_of hin
  have hht:=has_take (l:=l) (s:=s) hi
  rw [has_mem] at hht
  have hn:=name8_g s
  have hns:l.take (i+1)=l.take i ++ [s]:=by rw [zK,hs];rfl
  repeat'(first|apply Sp.h|refine Lk.r rfl ?_|refine Rf.mk rfl ?_|refine xA ?_|refine xB ?_|(refine Bd.mk ?_ ?_ <;> intro _)|refine xI ?_|refine xN ?_|refine xO ?_|(apply TkS.r;(focus repeat constructor))|(apply Cl.pG (hn);(focus exact ga);focus(repeat' constructor);done))
  all_goals first
   | (rw [←hns];exact PA.lp (i+1) xE ⟨⟨hin,alli_succ hs ha ⟨by assumption,hht.1 (by assumption)⟩⟩,by omega⟩)
   | exact Fin.p rfl (vb (zF fun h:DisX l=>absurd (h i s hs).1 (by assumption)).symm)
   | exact Fin.p rfl (vb (zF fun h:DisX l=>absurd (by assumption) (hht.2 (h i s hs).2)).symm)
 ·have:i=l.length:=by omega
  subst this
  repeat'(first|apply Sp.h|refine Lk.r rfl ?_|refine Rf.mk rfl ?_|refine xB ?_|refine xN ?_|fail)
  exact Fin.p rfl (vb (zT (show DisX l from alli_all ha)).symm)
theorem ctuple_g(sizes:List Int)(l:List TblS)(s:Bool)(cell:Int)(hce:cell≤9223372036854775807) : CallGP Tryz.prog 196 [ints sizes,tbls l, .val (.bool s),it cell] (tupA (tupF sizes l s cell)):=by
 have hv:=cvalid_g sizes l
 refine CallG.of pg ord196 Tryz.func196 rfl Tryz.ntmps196 Tryz.results196 rfl fun h0 G0 O0 ga=>?_
 by_cases hx:LayX sizes l∧0≤cell
 rotate_left
 ·rw [tupF,if_neg hx]
  repeat'(first|apply Sp.h|refine Lk.r rfl ?_|refine Rf.mk rfl ?_|refine xA ?_|refine xB ?_|(refine Bd.mk ?_ ?_ <;> intro _)|refine Im.mk fun _=>?_|refine xN ?_|(apply Cl.pG (hv);(focus exact ga);focus(repeat' constructor);done))
  all_goals first
   | exact⟨_,_, .tup (.same (.nilr (.same (.z)))),rfl,rfl⟩
   | exact(hx ⟨by assumption,by omega⟩).elim
 have hc:=hx.2
 have hx:=hx.1
 have hll:=hx.tl
 have hso:=hx.so
 repeat'(first|apply Sp.h|refine Lk.r rfl ?_|refine Rf.mk rfl ?_|refine xA ?_|refine xB ?_|refine Im.mk fun _=>?_|(apply Cl.pG (hv);(focus exact ga);focus(repeat' constructor);done))
 refine CA.loop (fun i:Nat=>⟨[(0,ints sizes),(2, .val (.bool s)),(3,it cell),(25,tbls l),(26,it (l.length:Nat)),(27,it i)],[]⟩) (fun i=>i≤l.length∧∀j t,j < i→l[j]?=some t→¬CelIn sizes s cell t) (fun i=>l.length - i) 0 xE ⟨zZ _,fun j t h=>by omega⟩ ?_
 rintro i ⟨hi,hno⟩
 by_cases hin:i < l.length
 ·obtain⟨t,ht⟩:=get_of hin
  have hT:=(hx.t i t ht).ok
  have hcol:=hT.1
  have hcl:=hcol.1
  have hf:=hx.first ht
  have hst:=isStrict_p t
  have hwd:=width_p sizes t.cols hcol
  have hnum:numF sizes t.cols=prodF sizes t.cols:=by rw [numF,if_pos hcol]
  have hpl:=num_le sizes t.cols
  rw [hnum] at hpl
  by_cases hin2:CelIn sizes s cell t
  ·have hres:=tupF_at hx hc ht hin2 hno
   rw [hres]
   obtain⟨g1,g2,g3⟩:=hin2
   rw [hnum] at g3
   repeat'(first|apply Sp.h|refine Lk.r rfl ?_|refine Rf.mk rfl ?_|refine xA ?_|refine xB ?_|refine Im.mk fun _=>?_|refine All.mk fun _=>?_|refine xU ?_|refine xT ?_|refine xI ?_|refine Ch.l ⟨rfl,rfl⟩ ?_|(apply SetAsk.r;focus repeat' constructor)|refine xN ?_|refine Rf.mk ⟨rfl,rfl,rfl⟩ ?_|(apply Jx.r;(focus exact rfl);(focus first|omega|(simp;done)|(simp;omega)))|refine MkS.r intC 0 rfl ?_|refine xO ?_|(apply Cl.p (hst);focus(repeat' constructor);done)|(apply Cl.p (hwd);focus(repeat' constructor);done)|(apply Cl.lend (hst);(focus((repeat'(first|fail));done)))|(apply Cl.lend (hwd);(focus((repeat'(first|fail));done))))
   all_goals try exact(by omega:False).elim
   all_goals try exact absurd g1 (by assumption)
   rename_i b12 _ v
   refine CA.loop (fun i':Nat=>⟨[(0,ints sizes),(11,it i),(12,pm b12),(13,it (nthF sizes (t.cols.drop i') (cell - t.first)).2),(14, .ow v),(15,it ((i':Int) - 1))],[blkR b12 150 (tblC t),arrR v 3 1 (List.replicate i' 0 ++ (nthF sizes (t.cols.drop i') (cell - t.first)).1) intC]⟩) (fun i'=>i'≤t.cols.length) (fun i'=>i') t.cols.length ?_ (Nat.le_refl _) ?_
   ·rw [List.drop_length]
    simp only [nthF,List.append_nil,zR]
    exact xE
   intro i' hi'
   cases i' with
   | zero =>
    rw [List.drop_zero]
    repeat'(first|apply Sp.h|refine Lk.r rfl ?_|refine Rf.mk rfl ?_|refine xB ?_|refine xN ?_|fail)
    exact⟨_,_, .tup (.same (.fz (by repeat constructor) (by simp [nthF_len];omega) (.same (.z)))),rfl,rfl⟩
   | succ i' =>
    obtain⟨x,hxc⟩:=get_of (l:=t.cols) (i:=i') (by omega)
    obtain⟨j,rfl,y,hy,hy1,hy2⟩:=col_get hcol hxc
    have hle:=nthF_le hso g2 (t.cols.drop (i'+1))
    have hlen:=nthF_len sizes (cell - t.first) (t.cols.drop (i'+1))
    obtain⟨q,hq⟩:∃q,nthF sizes (t.cols.drop (i'+1)) (cell - t.first)=q:=⟨_,rfl⟩
    have hd:nthF sizes (t.cols.drop i') (cell - t.first)=(q.2 % y :: q.1,q.2 / y):=by
     rw [List.drop_eq_getElem_cons (by omega),(zS.1 hxc).2]
     simp only [nthF,hq,Int.toNat_natCast,hy,Option.getD_some]
    have hz:(List.replicate (i'+1) (0:Int) ++ q.1)[i']?=some 0:=by
     rw [zI (by simp),List.getElem?_replicate,if_pos (by omega)]
    rw [hq] at hle hlen ⊢
    obtain⟨q1,q2⟩:=q
    simp only at hle hlen hd hz ⊢
    have e:(((i'+1:Nat):Int) - 1)=(i':Int):=by omega
    rw [e]
    repeat'(first|apply Sp.h|refine Lk.r rfl ?_|refine Rf.mk rfl ?_|refine xA ?_|refine OpK.r rfl ?_|refine xP ?_|refine xU ?_|refine xT ?_|refine xI ?_|refine xJ ?_|refine xV ?_|refine Up.r rfl ?_|refine xD ?_|refine xO ?_|fail)
    all_goals
     rw [set_repl]
     refine PA.lp i' ?_ ⟨by omega,by omega⟩
     rw [hd]
     exact xE
  ·have hgo:=alli_succ ht hno hin2
   repeat'(first|apply Sp.h|refine Lk.r rfl ?_|refine Rf.mk rfl ?_|refine xA ?_|refine xB ?_|(refine Bd.mk ?_ ?_ <;> intro _)|refine Im.mk fun _=>?_|refine All.mk fun _=>?_|refine xU ?_|refine xT ?_|refine xI ?_|refine Ch.l ⟨rfl,rfl⟩ ?_|(apply SetAsk.r;focus repeat' constructor)|refine xN ?_|refine Rf.mk ⟨rfl,rfl,rfl⟩ ?_|(apply Jx.r;(focus exact rfl);(focus first|omega|(simp;done)|(simp;omega)))|refine MkS.r intC 0 rfl ?_|refine xO ?_|(apply Cl.p (hst);focus(repeat' constructor);done)|(apply Cl.p (hwd);focus(repeat' constructor);done)|(apply Cl.lend (hst);(focus((repeat'(first|fail));done)))|(apply Cl.lend (hwd);(focus((repeat'(first|fail));done))))
   all_goals first
    | exact PA.lp (i+1) xE ⟨⟨hin,hgo⟩,by omega⟩
    | exact(hin2 ⟨by assumption,by omega,by rw [hnum];omega⟩).elim
 ·have:i=l.length:=by omega
  subst this
  rw [tupF_no fun _ j y hy=>hno j y (zS.1 hy).1 hy]
  repeat'(first|apply Sp.h|refine Lk.r rfl ?_|refine Rf.mk rfl ?_|refine xB ?_|refine xN ?_|fail)
  exact⟨_,_, .tup (.same (.nilr (.same (.z)))),rfl,rfl⟩
end Go.Proofs.YtmjllbjfkafhdaaGreatDoor
namespace Go.CF
open Go
section
variable {Γ:Cx} {k:List KI} {e:EA} {o:List Res} {N:NA} {c:Cls} {d:Tmp} {ty:TypeId} {x y z:Operand} {t u:TypeId} {i j:Int}
theorem wrap_u64{i:Int}(h:0≤i∧i≤18446744073709551615) : IntKind.u64.wrap i=i:=by
 simp [IntKind.wrap,IntKind.signed,IntKind.bits];omega
theorem and_u64{i:Int}(h:0≤i∧i≤4294967295) : bits .and .u64 i 4294967295=i:=by
 obtain⟨n,rfl⟩:=Int.eq_ofNat_of_zero_le h.1
 have:=bits_and_u64_nat n 4294967295 (by omega) (by omega)
 rw [show(4294967295:Int)=((4294967295:Nat):Int) from rfl,this]
 congr 1
 have h2:=Nat.and_two_pow_sub_one_eq_mod n 32
 rw [show(2:Nat) ^ 32 - 1=4294967295 from rfl] at h2
 rw [h2]
 omega
instance (priority:=1100):Sp (Ap2 Γ c d (.binOp .and t x y u) ty e o N x (.val (.int .u64 i)) y (.val (.int .u64 4294967295))) (Om (0≤i∧i≤4294967295) (N ((d, .val (.int .u64 i)) :: e) o)):=⟨fun hn=>puv2 hn.k fun _ _ _ h h' k=> .ofPu (pu_int h h' fun w=>by rw [binOp_and];show Result.ok (Value.int .u64 (bits .and .u64 i 4294967295)) w=_;rw [and_u64 hn.p]) k⟩
instance (priority:=1100) {k2:IntKind} : Sp (Ap2 Γ c d (.binOp .shr t x y u) ty e o N x (.val (.int .u64 i)) y (.val (.int k2 32))) (Om (0≤i∧i≤4294967295) (N ((d, .val (.int .u64 0)) :: e) o)):=⟨fun hn=>puv2 hn.k fun _ _ _ h h' k=>St.shrN h h' (m:=32) rfl (by decide) (by rw [show i / (2:Int) ^ 32=0 from by have:=hn.p;rw [show(2:Int) ^ 32=4294967296 from rfl];omega];exact k)⟩
instance : Sp (Ap2 Γ c d (.binOp .mul t x y u) ty e o N x (.val (.int .u64 i)) y (.val (.int .u64 j))) (Om (0≤i * j∧i * j≤18446744073709551615) (N ((d, .val (.int .u64 (i * j))) :: e) o)):=⟨fun hn=>puv2 hn.k fun _ _ _ h h' k=> .ofPu (pu_int h h' fun w=>by
 simp only [binOp_mul,Op.intArith]
 show Result.ok (Value.int .u64 _) w=_
 rw [wrap_u64 hn.p]) k⟩
instance : Sp (Ap2 Γ c d (.binOp .add t x y u) ty e o N x (.val (.int .u64 i)) y (.val (.int .u64 j))) (Om (0≤i+j∧i+j≤18446744073709551615) (N ((d, .val (.int .u64 (i+j))) :: e) o)):=⟨fun hn=>puv2 hn.k fun _ _ _ h h' k=> .ofPu (pu_int h h' fun w=>by
 simp only [binOp_add,Op.intArith]
 show Result.ok (Value.int .u64 _) w=_
 rw [wrap_u64 hn.p]) k⟩
end
end Go.CF
namespace Go.Proofs.YtmjllbjfkafhdaaGreatDoor
open Go Go.CF
abbrev u6 (x:Int):AV:= .val (.int .u64 x)
theorem mul64_p(a b:Int)(ha:0≤a∧a≤65535)(hb:0≤b∧b≤65535) : CallP Tryz.prog 260 [u6 a,u6 b] (.tup [u6 0,u6 (a * b)]):=by
 have h1:0≤a * b:=Int.mul_nonneg ha.1 hb.1
 have h2:a * b≤65535 * 65535:=Int.mul_le_mul ha.2 hb.2 hb.1 (by omega)
 refine CallA.of pg ordZ Tryz.func260 rfl Tryz.ntmps260 Tryz.results260 rfl fun h0 G0 O0=>?_
 repeat'(first|apply Sp.h|refine Lk.r rfl ?_|refine Rf.mk rfl ?_|refine xP ?_|refine xN ?_|fail)
 simp only [Int.mul_zero,Int.add_zero]
 exact⟨_,_, .tup (.same (.same (.z))),rfl,rfl⟩
theorem mul_p(a b:Int)(ha:0≤a∧a≤65535)(hb:0≤b∧b≤65535) : CallP Tryz.prog 222 [u6 a,u6 b] (.tup [u6 0,u6 (a * b)]):=by
 have h:=mul64_p a b ha hb
 refine CallA.of pg ordZ Tryz.func222 rfl Tryz.ntmps222 Tryz.results222 rfl fun h0 G0 O0=>?_
 repeat'(first|apply Sp.h|refine Lk.r rfl ?_|refine Rf.mk rfl ?_|refine xN ?_|(apply Cl.p (h);focus repeat' constructor))
 exact⟨_,_, .tup (.same (.same (.z))),rfl,rfl⟩
end Go.Proofs.YtmjllbjfkafhdaaGreatDoor
namespace Go.CF
open Go
section
variable {Γ:Cx} {k:List KI} {e:EA} {o:List Res} {N:NA} {c:Cls} {d:Tmp} {ty:TypeId} {x y z:Operand} {t u:TypeId} {kk:IntKind} {i:Int}
instance {v:Value} {b:AV} : Sp (Cpy Γ c d t u x y ty e o N (.ow v) b) (Lk (slE Γ.tt t) fun p=>Src o b p.2.size fun q g=>TkA o v fun T sz l f rest=>Rf (T=p.1∧sz=p.2.size) (Mp q g f fun q' =>
  N ((d, .val (.int .i64 (min q'.length l.length:Nat))) :: e) (arrR v T sz (q'.take (min q'.length l.length) ++ l.drop (min q'.length l.length)) f :: rest))):=⟨fun⟨p,hp,β,q,g,⟨α,T,sz,l,f,rest,tk,⟨hT,hz⟩,q',hq',hn⟩,hsrc⟩=>⟨fun ha hb hc=>⟨fun env hh G Os cn=>by
 obtain⟨w,g1,hwv,-⟩:=cn.get ha
 rw [hwv] at g1
 clear hwv
 obtain⟨w2,g2,r2⟩:=cn.get hb
 obtain⟨srows,hsl,hsr⟩:=hsrc cn.hp r2
 have hql:q'.length=q.length:=by have:=congrArg List.length hq';simpa using this
 have hsr':=hsr.map hq'
 subst hT;subst hz
 obtain⟨ti,t1,t2,t3⟩:=slE_spec hp
 obtain⟨O,Os',cn2⟩:=cn.take tk
 obtain⟨⟨ho,rows,hw,hr⟩,hrest⟩:=cn2.hp.own
 by_cases h0:min q'.length l.length=0
 ·obtain⟨dl,dc,pp,hv,hm⟩:∃dl dc pp,v= .slice pp dl dc∧dl=l.length:=by
   rcases hw.ok with⟨e1,e2⟩|⟨b,of,cap',L,e1,-⟩
   ·exact⟨_,_,_,e1,by omega⟩
   ·exact⟨_,_,_,e1,rfl⟩
  subst hm
  rw [hv] at g1
  refine .ofLd hc (ld_copy0 Γ.ok t1 t2 t3 g1 g2 hsl (by rw [←hql];exact h0) ?_)
  rw [h0,List.take_zero,List.nil_append,List.drop_zero] at hn
  exact CN.mk (cn2.put d (a:= .val (.int .i64 (0:Nat))) rfl) hn
 ·rcases hw.ok with⟨e1,e2⟩|⟨b,of,cap',L,e1,hbk,h1,h2,h3⟩
  ·omega
  ·subst e1
   have hlen:=hw.len_vs
   have hssz:=hsr.sz
   have hsfl:srows.flatten.length=q.length * p.2.size:=by rw [hsr.flen]
   have hmin:min q'.length l.length * p.2.size≤q.length * p.2.size:=zU _ (by omega)
   have hjs:min q'.length l.length * p.2.size≤l.length * p.2.size:=zU _ (by omega)
   have hls:l.length * p.2.size≤cap' * p.2.size:=zU _ h2
   refine .ofLd hc (ld_copy Γ.ok t1 t2 t3 g1 g2 hbk hsl hsfl (fun v hv=>hsr.one v (zW hv)) (by rw [←hql];omega) fun h' hsz hu=>?_)
   rw [←hql] at hu ⊢
   have hob:O b:=(ho b).2 (by simp [blkOf])
   have hX:(srows.flatten.take (min q'.length l.length * p.2.size)).length=min q'.length l.length * p.2.size:=by rw [zN];omega
   have hu':Upd hh b p.1 (L.take (of+0 * p.2.size) ++ srows.flatten.take (min q'.length l.length * p.2.size) ++ L.drop (of+0 * p.2.size+min q'.length l.length * p.2.size)) h':=by rw [Nat.zero_mul,Nat.add_zero];exact hu
   have hown:=own_seg (j:=0) hw hX (by omega) hu' h1 h2 h3
   rw [Nat.zero_mul,List.take_zero,List.nil_append,Nat.zero_add] at hown
   have hlen2:(q'.take (min q'.length l.length) ++ l.drop (min q'.length l.length)).length=l.length:=by simp;omega
   have hfl:(srows.take (min q'.length l.length) ++ rows.drop (min q'.length l.length)).flatten=srows.flatten.take (min q'.length l.length * p.2.size) ++ rows.flatten.drop (min q'.length l.length * p.2.size):=by
    rw [List.flatten_append,flat_take srows _ hssz,flat_drop rows _ hr.sz]
   have c3:=con_seg (R':=arrR (.slice (some ⟨b,of,none⟩) l.length cap') p.1 p.2.size (q'.take (min q'.length l.length) ++ l.drop (min q'.length l.length)) f) cn2 hu hob (fun hg=>⟨ho,srows.take (min q'.length l.length) ++ rows.drop (min q'.length l.length),by rw [hlen2,hfl];exact hown,((hsr'.take _).app (hr.drop _)).stp hg⟩)
   exact CN.mk (c3.put d (a:= .val _) rfl) hn⟩⟩⟩
end
end Go.CF
namespace Go.Proofs.YtmjllbjfkafhdaaGreatDoor
open Go Go.CF
theorem repeat_a(r:Int×Int)(n:Nat)(hn:1≤n∧n≤216) : CallA Tryz.prog 181 [.sl 2 [r] rngC,it (n:Int)] [] fun q own=>∃v,q= .ow v∧own= [arrR v 148 2 (List.replicate n r) rngC]:=by
 have hm:=mul_p 1 (n:Int) (by omega) (by omega)
 have hn1:=hn.1
 have hn2:=hn.2
 refine CallA.of pg ord181 Tryz.func181 rfl Tryz.ntmps181 Tryz.results181 rfl fun h0 G0 O0=>?_
 (repeat'(first|(show CA _ _ (Code.region 7 _ _) _ _;apply Stopped.out)|apply Sp.h|refine Lk.r rfl ?_|refine Rf.mk rfl ?_|refine xB ?_|refine Im.mk fun _=>?_|refine xN ?_|refine Rf.mk ⟨rfl,rfl,rfl⟩ ?_|(apply Jx.r;(focus exact rfl);(focus first|omega|(simp;done)|(simp;omega)))|(apply Cvk.i64;(focus rfl);(focus omega))|(apply Cvk.u64;(focus rfl);(focus omega))|(apply Cl.p (hm);focus(repeat' constructor);done)))
 refine MkS.r rngC ((0:Int),(0:Int)) rfl ?_
 refine⟨fun v=>?_⟩
 repeat'(first|apply Sp.h|refine Lk.r rfl ?_|refine Rf.mk rfl ?_|refine xU ?_|refine Rf.mk ⟨rfl,rfl⟩ ?_|refine Mp.same ?_|fail)
 have e1:min [r].length (List.replicate n ((0:Int),(0:Int))).length=1:=by simp;omega
 have e2:List.take 1 [r] ++ (List.replicate n ((0:Int),(0:Int))).drop 1=List.replicate 1 r ++ List.replicate (n - 1) (0,0):=by simp
 rw [Nat.one_mul,e1,e2]
 refine CA.loop (fun m:Nat=>⟨[(7, .ow v),(8,it m)],[arrR v 148 2 (List.replicate m r ++ List.replicate (n - m) (0,0)) rngC]⟩) (fun m=>1≤m∧m≤n) (fun m=>n - m) 1 xE ⟨Nat.le_refl _,hn1⟩ ?_
 rintro m ⟨hm1,hm2⟩
 have hl:(List.replicate m r ++ List.replicate (n - m) ((0:Int),(0:Int))).length=n:=by simp;omega
 by_cases hmn:m < n
 ·repeat'(first|apply Sp.h|refine Lk.r rfl ?_|refine Rf.mk rfl ?_|refine xA ?_|refine OpK.r rfl ?_|refine xU ?_|refine Rf.mk ⟨rfl,rfl⟩ ?_|refine Rf.mk ⟨rfl,rfl,rfl⟩ ?_|(apply Jx.r;(focus exact rfl);(focus first|omega|(simp;done)|(simp;omega)))|refine Mp.same ?_|refine xD ?_|refine xO ?_|(apply CpS.all;(focus(repeat constructor;done)))|fail)
  have q1:List.take (m - 0) (List.drop 0 (List.replicate m r ++ List.replicate (n - m) ((0:Int),(0:Int))))=List.replicate m r:=by simp
  have q2:List.take m (List.replicate m r ++ List.replicate (n - m) ((0:Int),(0:Int)))=List.replicate m r:=by simp
  have q3:∀k,k≤m→m+k≤n→List.replicate m r ++ List.take k (List.replicate m r) ++ List.drop (m+k) (List.replicate m r ++ List.replicate (n - m) ((0:Int),(0:Int)))=List.replicate (m+k) r ++ List.replicate (n - (m+k)) (0,0):=by
   intro k hk1 hk2
   rw [List.take_replicate,Nat.min_eq_left hk1,List.replicate_append_replicate,List.drop_append,zR,List.drop_eq_nil_of_le (by simp),List.nil_append,List.drop_replicate]
   congr 2
   omega
  rw [q1,q2,hl,zR]
  obtain⟨k,hk⟩:∃k,min m (n - m)=k:=⟨_,rfl⟩
  rw [hk,q3 k (by omega) (by omega)]
  exact PA.lp (m+k) xE ⟨⟨by omega,by omega⟩,by omega⟩
 ·have:m=n:=by omega
  subst this
  rw [Nat.sub_self,List.replicate_zero,List.append_nil] at hl ⊢
  repeat'(first|apply Sp.h|refine Lk.r rfl ?_|refine Rf.mk rfl ?_|refine xB ?_|refine xU ?_|refine xN ?_|fail)
  exact⟨_,_, .one (.same (.z)),_,rfl,rfl⟩
theorem flat_rp{r:AV}{own:List Res}{L:List (Int×Int)}(h:∃v,r= .ow v∧own= [arrR v 148 2 L rngC]) : FlatV r∧∀R∈own,FlatR R:=by
 obtain⟨v,rfl,rfl⟩:=h
 refine⟨.ow _,fun R hR=>?_⟩
 rw [zH.1 hR]
 exact FlatR.arr fun _ _=> .cons (.val _) (.cons (.val _) .nil)
theorem cranges_g(sizes:List Int)(l:List TblS)(s:Bool) : CallGP Tryz.prog 127 [ints sizes,tbls l, .val (.bool s)] (.sl 2 (rngF sizes s l) rngC):=by
 have hv:=cvalid_g sizes l
 refine CallG.of pg ord127 Tryz.func127 rfl Tryz.ntmps127 Tryz.results127 rfl fun h0 G0 O0 ga=>?_
 by_cases hlx:LayX sizes l
 rotate_left
 ·rw [rngF,if_neg hlx]
  repeat'(first|apply Sp.h|refine Lk.r rfl ?_|refine Rf.mk rfl ?_|refine xB ?_|refine xN ?_|(apply Cl.pG (hv);(focus exact ga);focus(repeat' constructor);done))
  exact⟨_,_, .one (.nilr (.z)),rfl,rfl⟩
 have hlen:=rngF_len (sizes:=sizes) (l:=l) (s:=s)
 rw [rngF,if_pos hlx] at hlen ⊢
 have hll:=hlx.tl
 have hso:=hlx.so
 repeat'(first|apply Sp.h|refine Lk.r rfl ?_|refine Rf.mk rfl ?_|refine xA ?_|refine Im.mk fun _=>?_|(apply Cl.pG (hv);(focus exact ga);focus(repeat' constructor);done))
 refine CA.nilOwn 7 148 2 rngC rfl fun v=>?_
 refine CA.loop (fun x:Nat×Value=>⟨[(0,ints sizes),(2, .val (.bool s)),(7, .ow x.2),(14,tbls l),(15,it (l.length:Nat)),(16,it x.1)],[arrR x.2 148 2 (rngL sizes s (l.take x.1)) rngC]⟩) (fun x=>x.1≤l.length) (fun x=>l.length - x.1) (0,v) xE (zZ _) ?_
 rintro⟨i,v⟩ hi
 simp only at hi
 simp only
 have hli:((rngL sizes s (l.take i)).length:Int)≤216 * i:=by rw [rngL_len];exact(sumK_le i).2
 by_cases hin:i < l.length
 ·obtain⟨t,ht⟩:=get_of hin
  have hcol:=((hlx.t i t ht).ok).1
  have hst':=isStrict_p t
  have hwd:=width_p sizes t.cols hcol
  have hnum:numF sizes t.cols=prodF sizes t.cols:=by rw [numF,if_pos hcol]
  have hpl:=num_le sizes t.cols
  have hpo:=(prod_le hso t.cols).1
  rw [hnum] at hpl
  obtain⟨w,hw⟩:∃w:Nat,prodF sizes t.cols=(w:Int):=⟨_,(Int.toNat_of_nonneg hpl.1).symm⟩
  have hrp:=repeat_a (t.lo,t.hi) w (by omega)
  rw [hw] at hwd hpl hpo
  have hsu:=rngL_succ (sizes:=sizes) (s:=s) ht
  by_cases hst:decide (isStrict t.kind)=s
  ·rw [if_pos hst,hnum,hw,Int.toNat_natCast] at hsu
   repeat'(first|apply Sp.h|refine Lk.r rfl ?_|refine Rf.mk rfl ?_|refine xA ?_|refine OpK.r rfl ?_|refine xP ?_|refine All.mk fun _=>?_|refine xU ?_|refine xT ?_|refine xI ?_|refine Ce.r ?_|refine Ch.l ⟨rfl,rfl⟩ ?_|refine Ch.r ?_|(apply SetAsk.r;focus repeat' constructor)|(apply Fk.r;focus repeat' first|infer_instance|constructor)|refine xN ?_|refine Rf.mk ⟨rfl,rfl⟩ ?_|refine Rf.mk ⟨rfl,rfl,rfl⟩ ?_|refine Mp.same ?_|refine xD ?_|exact trivial|apply RA'.both|refine xO ?_|(apply Cl.p (hst');focus(repeat' constructor);done)|(apply Cl.p (hwd);focus(repeat' constructor);done)|(apply Cl.lend (hst');(focus((repeat'(first|fail));done)))|(apply Cl.lend (hwd);(focus((repeat'(first|fail));done)))|(apply Cl.lendO hrp;(focus((repeat'(first|exact Lend.nil|apply Lend.keep|(apply Lend.lendm;(focus repeat constructor);(focus rfl);(focus first|omega|decide|(simp;omega)|exact zB rfl))|fail));done));(focus exact fun _ _=>flat_rp);(rintro _ _ ⟨v2,rfl,rfl⟩)))
   all_goals first
    | (rw [←hsu];exact PA.lp (i+1,_) xE ⟨hin,by simp only;omega⟩)
    | exact absurd hst (by assumption)
  ·rw [if_neg hst,List.append_nil] at hsu
   repeat'(first|apply Sp.h|refine Lk.r rfl ?_|refine Rf.mk rfl ?_|refine xA ?_|refine xB ?_|refine All.mk fun _=>?_|refine xT ?_|refine xI ?_|refine Ch.l ⟨rfl,rfl⟩ ?_|(apply SetAsk.r;focus repeat' constructor)|refine xN ?_|refine xO ?_|(apply Cl.p (hst');focus(repeat' constructor);done)|(apply Cl.lend (hst');(focus((repeat'(first|fail));done))))
   all_goals first
    | (rw [←hsu];exact PA.lp (i+1,v) xE ⟨hin,by simp only;omega⟩)
    | exact absurd (by assumption) hst
 ·have:i=l.length:=by omega
  subst this
  rw [zL]
  repeat'(first|apply Sp.h|refine Lk.r rfl ?_|refine Rf.mk rfl ?_|refine xB ?_|refine xN ?_|fail)
  exact⟨_,_, .one (.fz (by repeat constructor) (by omega) (.z)),rfl,rfl⟩
def jdgC(m:ModS)(R:List (Int×Int)) : List AV:= [ints m.sorts,tbls m.tables, .sl 1 m.families strC, .sl 6 m.cons cnsC, .sl 3 m.ops opC, .sl 5 m.acts actC, .sl 3 m.hides updC, .sl 2 R rngC]
theorem mindex_p(i n:Int) : CallP Tryz.prog 182 [it i,it n] (.val (.bool (decide (0≤i∧i < n)))):=by
 refine CallA.of pg ordZ Tryz.func182 rfl Tryz.ntmps182 Tryz.results182 rfl fun h0 G0 O0=>?_
 repeat'(first|apply Sp.h|refine Lk.r rfl ?_|refine Rf.mk rfl ?_|refine xA ?_|refine xB ?_|apply Bd.mk|refine xN ?_|intro _)
 all_goals exact Fin.p rfl (vb (by first|exact(zT (by omega)).symm|exact(zF (by omega)).symm|exact zD.2 (by omega)))
theorem around_p(x m:Int)(hm:0≤m∧m≤9223372036854775807) : CallP Tryz.prog 187 [it x,it m] (.val (.bool (decide (-m≤x∧x≤m)))):=by
 refine CallA.of pg ordZ Tryz.func187 rfl Tryz.ntmps187 Tryz.results187 rfl fun h0 G0 O0=>?_
 repeat'(first|apply Sp.h|refine Lk.r rfl ?_|refine Rf.mk rfl ?_|refine xA ?_|refine xB ?_|apply Bd.mk|refine xP ?_|refine xN ?_|intro _)
 all_goals exact Fin.p rfl (vb (by first|exact(zT (by omega)).symm|exact(zF (by omega)).symm|exact zD.2 (by omega)))
theorem mrow_p(m:ModS)(R:List (Int×Int))(r:RowS) : CallP Tryz.prog 183 [.agg (jdgC m R), .agg (rowC r)] (.val (.bool (decide (RowX R.length r)))):=by
 have hb1:=around_p r.bound 1000000000 (by omega)
 refine CallA.of pg ordZ Tryz.func183 rfl Tryz.ntmps183 Tryz.results183 rfl fun h0 G0 O0=>?_
 repeat'(first|apply Sp.h|refine Lk.r rfl ?_|refine Rf.mk rfl ?_|apply Im.mk|apply All.mk|refine xT ?_|intro _)
 rename_i b2 b3 _
 refine CA.loop (fun x:Nat×Int=>⟨[(2,pm b2),(3,pm b3),(5,it x.2),(9,terms r.terms),(10,it (r.terms.length:Nat)),(11,it x.1)],[blkR b3 170 (rowC r),blkR b2 196 (jdgC m R)]⟩) (fun x=>x.1≤r.terms.length∧(∀j p,j < x.1→r.terms[j]?=some p→TrmX R.length r.terms j p)∧ -1≤x.2∧(x.1=0→x.2= -1)∧∀q,0 < x.1→r.terms[x.1 - 1]?=some q→q.1=x.2) (fun x=>r.terms.length - x.1) (0,-1) xE ⟨zZ _,fun j p h=>(by simp only at h;omega),by simp,fun _=>rfl,fun q h=>(by simp only at h;omega)⟩ ?_
 rintro⟨i,c⟩ ⟨hi,ha,hc1,hc2,hc3⟩
 simp only at hi ha hc1 hc2 hc3
 simp only
 by_cases hin:i < r.terms.length
 ·obtain⟨p,hp⟩:=get_of hin
  have hbp:=around_p p.2 1000 (by omega)
  have hiff:TrmX R.length r.terms i p↔c < p.1∧p.1 < R.length∧p.2≠0∧ -1000≤p.2∧p.2≤1000:=by
   constructor
   ·rintro⟨g1,g2,g3,g4,g5⟩
    refine⟨?_,g2,g3,g4⟩
    rcases Nat.eq_zero_or_pos i with h0|h0
    ·have:=hc2 h0;omega
    ·obtain⟨q,hq⟩:=get_of (l:=r.terms) (i:=i - 1) (by omega)
     have:=hc3 q h0 hq
     have:=g5 q h0 hq
     omega
   ·rintro⟨g1,g2,g3,g4⟩
    exact⟨by omega,g2,g3,g4,fun q h0 hq=>by have:=hc3 q h0 hq;omega⟩
  by_cases hT:TrmX R.length r.terms i p
  ·have hTT:=hiff.1 hT
   obtain⟨g1,g2,g3,g4,g5⟩:=hTT
   repeat'(first|apply Sp.h|refine Lk.r rfl ?_|refine Rf.mk rfl ?_|refine xA ?_|refine xB ?_|refine Im.mk fun _=>?_|refine All.mk fun _=>?_|refine xT ?_|refine xI ?_|refine Ch.l ⟨rfl,rfl⟩ ?_|(apply SetAsk.r;focus repeat' constructor)|refine xN ?_|refine xO ?_|(apply Cl.p (hbp);focus repeat' constructor))
   all_goals first
    | exact PA.lp (i+1,p.1) xE ⟨⟨hin,alli_succ hp ha hT,by simp only;omega,fun h=>(by simp only at h;omega),fun q _ hq=>(by simp only [Nat.add_sub_cancel] at hq;rw [hp] at hq;cases hq;rfl)⟩,by simp only;omega⟩
    | (exfalso;omega)
  ·have hno:¬RowX R.length r:=fun h=>hT (h.t i p hp)
   have hTT:=fun h=>hT (hiff.2 h)
   repeat'(first|apply Sp.h|refine Lk.r rfl ?_|refine Rf.mk rfl ?_|refine xA ?_|refine xB ?_|(refine Bd.mk ?_ ?_ <;> intro _)|refine Im.mk fun _=>?_|refine All.mk fun _=>?_|refine xT ?_|refine xI ?_|refine Ch.l ⟨rfl,rfl⟩ ?_|(apply SetAsk.r;focus repeat' constructor)|refine xN ?_|refine xO ?_|(apply Cl.p (hbp);focus repeat' constructor))
   all_goals first
    | exact Fin.p rfl (vb (zF hno).symm)
    | exact(hTT ⟨by omega,by omega,by omega,by omega,by omega⟩).elim
 ·have:i=r.terms.length:=by omega
  subst this
  repeat'(first|apply Sp.h|refine Lk.r rfl ?_|refine Rf.mk rfl ?_|refine xB ?_|refine xT ?_|refine xN ?_|(apply Cl.p (hb1);focus repeat' constructor))
  refine Fin.p rfl (vb ?_)
  by_cases h9: -1000000000≤r.bound∧r.bound≤1000000000
  ·rw [zT h9,zT (show RowX R.length r from⟨alli_all ha,h9⟩)]
  ·rw [zF h9,zF (fun h8:RowX R.length r=>h9 h8.b)]
theorem equalT_p(a b:List (Int×Int)) : CallP Tryz.prog 225 [terms a,terms b] (.val (.bool (decide (a=b)))):=by
 refine CallA.of pg ord225 Tryz.func225 rfl Tryz.ntmps225 Tryz.results225 rfl fun h0 G0 O0=>?_
 by_cases hl:a.length=b.length
 ·repeat'(first|apply Sp.h|refine Lk.r rfl ?_|refine Rf.mk rfl ?_|refine xA ?_|apply Im.mk|intro _)
  refine CA.loop (fun i:Nat=>⟨[(0,terms a),(1,terms b),(11,terms a),(12,it (a.length:Nat)),(13,it i)],[]⟩) (fun i=>i≤a.length∧a.take i=b.take i) (fun i=>a.length - i) 0 xE ⟨zZ _,rfl⟩ ?_
  rintro i ⟨hi,he⟩
  by_cases hin:i < a.length
  ·obtain⟨p,hp⟩:=get_of hin
   obtain⟨q,hq⟩:=get_of (l:=b) (i:=i) (by omega)
   by_cases hpq:p=q
   ·subst hpq
    repeat'(first|apply Sp.h|refine Lk.r rfl ?_|refine Rf.mk rfl ?_|refine xA ?_|refine OpK.r rfl ?_|refine xI ?_|refine Ch.l ⟨rfl,rfl⟩ ?_|refine xK ?_|(apply Kf.mk;(focus kernel_rfl))|refine xD ?_|refine xO ?_|fail)
    all_goals first
     | exact PA.lp (i+1) xE ⟨⟨hin,by rw [zK,zK,he,hp,hq]⟩,by omega⟩
     | exact absurd rfl (by assumption)
   ·have hne:a≠b:=fun h=>hpq (by rw [h,hq] at hp;cases hp;rfl)
    repeat'(first|apply Sp.h|refine Lk.r rfl ?_|refine Rf.mk rfl ?_|refine xA ?_|apply Bd.mk|refine OpK.r rfl ?_|refine xI ?_|refine Ch.l ⟨rfl,rfl⟩ ?_|refine xN ?_|refine xK ?_|(apply Kf.mk;(focus kernel_rfl))|refine xD ?_|refine xO ?_|intro _)
    all_goals first
     | exact Fin.p rfl (vb (zF hne).symm)
     | (rename_i h9;injection h9 with h8 h9;injection h9 with h9;exact(hpq (Prod.ext h8 h9)).elim)
  ·have:i=a.length:=by omega
   rw [List.take_of_length_le (by omega),List.take_of_length_le (by omega)] at he
   repeat'(first|apply Sp.h|refine Lk.r rfl ?_|refine Rf.mk rfl ?_|refine xB ?_|refine xN ?_|fail)
   exact Fin.p rfl (vb (zT he).symm)
 ·have hne:a≠b:=fun h=>hl (by rw [h])
  repeat'(first|apply Sp.h|refine Lk.r rfl ?_|refine Rf.mk rfl ?_|refine xB ?_|apply Im.mk|refine xN ?_|intro _)
  all_goals exact Fin.p rfl (vb (zF hne).symm)
theorem msingle_p(r:RowS)(a b c:Int) : CallP Tryz.prog 185 [.agg (rowC r),it a,it b,it c] (.val (.bool (decide (r.terms= [(a,b)]∧r.bound=c)))):=by
 have he:=equalT_p r.terms [(a,b)]
 refine CallA.of pg ordZ Tryz.func185 rfl Tryz.ntmps185 Tryz.results185 rfl fun h0 G0 O0=>?_
 by_cases ht:r.terms= [(a,b)]
 ·repeat'(first|apply Sp.h|refine Lk.r rfl ?_|refine Rf.mk rfl ?_|refine xA ?_|refine All.mk fun _=>?_|refine xT ?_|(apply Fk.r;focus repeat' first|infer_instance|constructor)|refine xN ?_|refine Rf.mk ⟨rfl,rfl,rfl⟩ ?_|(apply Cl.lend (he);(focus((repeat'(first|exact Lend.nil|apply Lend.keep|(apply Lend.lendm;(focus repeat constructor);(focus rfl);(focus first|omega|decide|(simp;omega)|exact zB rfl))|fail));done))))
  all_goals first
   | exact Fin.p rfl (vb (zD.2 ⟨fun h=>⟨ht,h⟩,fun h=>h.2⟩))
   | exact absurd ht (by assumption)
 ·repeat'(first|apply Sp.h|refine Lk.r rfl ?_|refine Rf.mk rfl ?_|refine xB ?_|refine All.mk fun _=>?_|refine xT ?_|(apply Fk.r;focus repeat' first|infer_instance|constructor)|refine xN ?_|refine Rf.mk ⟨rfl,rfl,rfl⟩ ?_|(apply Cl.lend (he);(focus((repeat'(first|exact Lend.nil|apply Lend.keep|(apply Lend.lendm;(focus repeat constructor);(focus rfl);(focus first|omega|decide|(simp;omega)|exact zB rfl))|fail));done))))
  all_goals first
   | exact Fin.p rfl (vb (zF fun h=>ht h.1).symm)
   | exact absurd (by assumption) ht
/-! ### Searches in tables -/
theorem indexTb_p{g:FuncId}{caps:List AV}{p:TblS→Bool}{l:List TblS}(hg:∀t∈l,CallP Tryz.prog g (.agg (tblC t) :: caps) (.val (.bool (p t))))(he:en g=true) :
  CallP Tryz.prog 261 [tbls l, .fn g caps] (it (idxI p l)):=by
 refine CallA.of pg ordZ Tryz.func261 rfl Tryz.ntmps261 Tryz.results261 rfl fun h0 G0 O0=>?_
 repeat'(first|apply Sp.h|refine Lk.r rfl ?_|refine Rf.mk rfl ?_|apply Im.mk|intro _)
 refine CA.loop (fun i:Nat=>⟨[(0,tbls l),(1, .fn g caps),(7,it (l.length:Nat)),(8,it i)],[]⟩)
  (fun i=>i≤l.length∧∀j y,j < i→l[j]?=some y→p y=false) (fun i=>l.length - i) 0 xE ⟨zZ _,fun j y h=>by omega⟩ ?_
 rintro i ⟨hi,hj⟩
 by_cases hin:i < l.length
 ·obtain⟨e,hx⟩:=get_of hin
  have hge:=hg e (zM hx)
  repeat'(first|apply Sp.h|refine Lk.r rfl ?_|refine Rf.mk rfl ?_|refine xA ?_|(refine Bd.mk ?_ ?_ <;> intro _)|refine xI ?_|refine Ch.l ⟨rfl,rfl⟩ ?_|refine xN ?_|(apply Rf.mk;(focus assumption))|refine xO ?_|(apply Cl.p (hge);(focus repeat'(first|apply Lend.keep|fail))))
  ·exact lendAll _
  ·rename_i hp
   exact Fin.p rfl (by rw [idxI,idxN_of hx hp hj,if_pos hin])
  ·rename_i hp
   exact PA.lp (i+1) xE ⟨⟨hin,alli_succ hx hj (by simpa using hp)⟩,by omega⟩
 ·repeat'(first|apply Sp.h|refine Lk.r rfl ?_|refine Rf.mk rfl ?_|refine xB ?_|refine xN ?_|fail)
  exact Fin.p rfl (by rw [idxI,idxN_none (fun x hx=>by obtain⟨j,hx⟩:=zO hx;exact hj j x (by have:=(zS.1 hx).1;omega) hx),if_neg (by omega)])
theorem containsTb_p{g:FuncId}{caps:List AV}{p:TblS→Bool}{l:List TblS}(hg:∀t∈l,CallP Tryz.prog g (.agg (tblC t) :: caps) (.val (.bool (p t))))(he:en g=true) :
  CallP Tryz.prog 223 [tbls l, .fn g caps] (.val (.bool (decide (∃t∈l,p t=true)))):=by
 have hi:=indexTb_p hg he
 refine CallA.of pg ordZ Tryz.func223 rfl Tryz.ntmps223 Tryz.results223 rfl fun h0 G0 O0=>?_
 repeat'(first|apply Sp.h|refine Lk.r rfl ?_|refine Rf.mk rfl ?_|refine xN ?_|(apply Cl.p (hi);focus repeat' constructor))
 refine Fin.p rfl (vb (zD.2 ?_))
 rw [←idxB_lt]
 unfold idxI
 split <;> omega
noncomputable instance (sorts:List Int) (c:CnsS) (t:TblS):Decidable (GrfT sorts c t):=zC _
theorem graph1_p(m:ModS)(R:List (Int×Int))(c:CnsS)(t:TblS)(h:ColOK m.sorts t.cols) : CallP Tryz.prog 224 [.agg (tblC t), .ad (cnsC c) 0, .ad (jdgC m R) 0] (.val (.bool (decide (GrfT m.sorts c t)))):=by
 obtain⟨g1,g2,g3⟩:=h
 refine CallA.of pg ord224 Tryz.func224 rfl Tryz.ntmps224 Tryz.results224 rfl fun h0 G0 O0=>?_
 by_cases hl:t.cols.length=2
 ·obtain⟨x,hx⟩:=get_of (l:=t.cols) (i:=0) (by omega)
  obtain⟨y,hy⟩:=get_of (l:=t.cols) (i:=1) (by omega)
  have hcs:t.cols= [x,y]:=by
   match hc:t.cols,hl with
   | [u,v],_=>rw [hc] at hx hy;cases hx;cases hy;rfl
  obtain⟨hx1,hx2⟩:=g3 x (zM hx)
  obtain⟨k,rfl⟩:=Int.eq_ofNat_of_zero_le hx1
  obtain⟨z,hz⟩:=get_of (l:=m.sorts) (i:=k) (by omega)
  by_cases hT:GrfT m.sorts c t
  ·have hTT:=hT
   obtain⟨h1,h2,w,h3,h4⟩:=hTT
   rw [hcs] at h3
   injection h3 with e1 h3
   injection h3 with e2 h3
   subst e2
   obtain rfl:k=w:=by omega
   rw [hz] at h4
   injection h4 with h4
   repeat'(first|apply Sp.h|refine Lk.r rfl ?_|refine Rf.mk rfl ?_|refine xA ?_|refine OpK.r rfl ?_|apply Im.mk|apply All.mk|refine xT ?_|refine xI ?_|refine xN ?_|refine xD ?_|intro _)
   all_goals first
    | exact Fin.p rfl (vb (by rw [zT hT];first|exact zT h4|exact zT (by omega)))
    | exact absurd (by assumption) (by assumption)
    | exact(by omega:False).elim
  ·have hno:¬(t.kind=0∧t.first=c.first∧(k:Int)=y∧z=c.size):=fun⟨h1,h2,h3,h4⟩=>hT ⟨h1,h2,k,by rw [hcs,h3],by rw [hz,h4]⟩
   repeat'(first|apply Sp.h|refine Lk.r rfl ?_|refine Rf.mk rfl ?_|refine xA ?_|refine xB ?_|apply Bd.mk|refine OpK.r rfl ?_|apply Im.mk|apply All.mk|refine xT ?_|refine xI ?_|refine xN ?_|refine xD ?_|intro _)
   all_goals first
    | exact Fin.p rfl (vb (zF hT).symm)
    | exact Fin.p rfl (vb (by rw [zF hT];exact zF (fun h9=>hno ⟨by omega,by omega,by omega,by omega⟩)))
 ·have hT:¬GrfT m.sorts c t:=by
   rintro⟨-,-,x,h,-⟩
   exact hl (by rw [h];rfl)
  repeat'(first|apply Sp.h|refine Lk.r rfl ?_|refine Rf.mk rfl ?_|refine xA ?_|refine xB ?_|apply Bd.mk|refine OpK.r rfl ?_|apply Im.mk|apply All.mk|refine xT ?_|refine xN ?_|refine xD ?_|intro _)
  all_goals exact Fin.p rfl (vb (zF hT).symm)
theorem mgraph_p(m:ModS)(R:List (Int×Int))(c:CnsS)(hm:LayOK m.sorts m.tables) : CallP Tryz.prog 184 [.agg (jdgC m R), .agg (cnsC c)] (.val (.bool (decide (GrfX m c)))):=by
 have hc:=containsTb_p (g:=224) (caps:= [.ad (cnsC c) 0, .ad (jdgC m R) 0]) (p:=fun t=>decide (GrfT m.sorts c t)) (l:=m.tables) (fun t ht=>graph1_p m R c t (hm.2.2.2 t ht).1) rfl
 have hiff:GrfX m c↔c.row.terms.length=0∧c.row.bound=0∧∃t∈m.tables,decide (GrfT m.sorts c t)=true:=by
  constructor
  ·rintro⟨h1,h2,i,t,ht,h3⟩
   exact⟨by rw [h1];rfl,h2,t,zM ht,zT h3⟩
  ·rintro⟨h1,h2,t,ht,h3⟩
   obtain⟨i,hi⟩:=zO ht
   exact⟨List.length_eq_zero_iff.1 h1,h2,i,t,hi,of_decide_eq_true h3⟩
 refine CallA.of pg ordZ Tryz.func184 rfl Tryz.ntmps184 Tryz.results184 rfl fun h0 G0 O0=>?_
 (repeat'(first|(show CA _ _ (Code.region 1 _ _) _ _;apply Stopped.out)|apply Sp.h|refine Lk.r rfl ?_|refine Rf.mk rfl ?_|apply All.mk|intro _));any_goals apply Stopped.mk
 refine CA.freezeB 2 rfl (by repeat constructor) ?_
 refine CA.freezeB 3 rfl (by repeat constructor) ?_
 by_cases h0:c.row.terms.length=0∧c.row.bound=0
 ·obtain⟨h1,h2⟩:=h0
  repeat'(first|apply Sp.h|refine Lk.r rfl ?_|refine Rf.mk rfl ?_|refine xA ?_|refine Im.mk fun _=>?_|refine xN ?_|(apply Cl.p (hc);focus repeat' constructor))
  all_goals first
   | exact Fin.p rfl (vb (zD.2 ⟨fun h=>hiff.2 ⟨h1,h2,h⟩,fun h=>(hiff.1 h).2.2⟩))
   | (exfalso;omega)
 ·have hno:¬GrfX m c:=fun h=>h0 ⟨(hiff.1 h).1,(hiff.1 h).2.1⟩
  repeat'(first|apply Sp.h|refine Lk.r rfl ?_|refine Rf.mk rfl ?_|refine xA ?_|refine xB ?_|(refine Bd.mk ?_ ?_ <;> intro _)|refine Im.mk fun _=>?_|refine xN ?_|(apply Cl.p (hc);(focus repeat'(first|fail))))
  all_goals first
   | exact Fin.p rfl (vb (zF hno).symm)
   | exact(h0 ⟨by omega,by omega⟩).elim
end Go.Proofs.YtmjllbjfkafhdaaGreatDoor
