/- Part 14 of the ground of this proof: what its texts say of the model, the program and the plain data; conditions: those that are named. -/
import Derived.Test.YtmjllbjfkafhdaaGreatDoorQ13
namespace Go.Proofs.YtmjllbjfkafhdaaGreatDoor
open Go Go.CF
def iniT(t:TblS) : Int:=min (max 0 t.lo) t.hi
noncomputable def srtD(l:List Int) : List Int:=dd (srtI l)
theorem srtI_len(l:List Int) : (srtI l).length=l.length:=by simp [srtI]
theorem srtD_len(l:List Int) : (srtD l).length≤l.length:=by
 have:=ddN_len (l:=srtI l) (srtI l).length
 rw [srtI_len] at this
 rw [srtD,dd,srtI_len];exact this
def SI(l s:List Int) : Prop:=s.Pairwise (· < ·)∧∀x,x∈s↔x∈l
theorem SI.uniq{l s t:List Int}(g1:SI l s)(g2:SI l t) : s=t:=by
 have key:∀s t:List Int,s.Pairwise (· < ·)→t.Pairwise (· < ·)→(∀x,x∈s↔x∈t)→s=t:=by
  intro s
  induction s with
  | nil =>
   intro t _ _ h
   cases t with
   | nil=>rfl
   | cons b t=>exact absurd ((h b).2 (by simp)) (by simp)
  | cons a s ih =>
   intro t hs ht h
   cases t with
   | nil=>exact absurd ((h a).1 (by simp)) (by simp)
   | cons b t =>
    obtain⟨h1,h2⟩:=List.pairwise_cons.1 hs
    obtain⟨h3,h4⟩:=List.pairwise_cons.1 ht
    have hab:a=b:=by
     rcases List.mem_cons.1 ((h a).1 (by simp)) with e|e
     ·exact e
     ·rcases List.mem_cons.1 ((h b).2 (by simp)) with e2|e2
      ·exact e2.symm
      ·have:=h1 b e2;have:=h3 a e;omega
    subst hab
    rw [ih t h2 h4 fun x=>?_]
    have:=h x
    simp only [List.mem_cons] at this
    constructor
    ·intro hx
     rcases this.1 (.inr hx) with e|e
     ·subst e;have:=h1 _ hx;omega
     ·exact e
    ·intro hx
     rcases this.2 (.inr hx) with e|e
     ·subst e;have:=h3 _ hx;omega
     ·exact e
 exact key _ _ g1.1 g2.1 fun x=>(g1.2 x).trans (g2.2 x).symm
theorem srtI_sorted(l:List Int) : (srtI l).Pairwise (·≤·):=by
 have:=List.pairwise_mergeSort (le:=fun x y:Int=>decide (x≤y)) (fun a b c h1 h2=>by simp at *;omega) (fun a b=>by simp;omega) l
 exact this.imp fun h=>by simpa using h
theorem srtD_si(l:List Int) : SI l (srtD l):=by
 have hs:=srtI_sorted l
 have hm:∀x,x∈srtI l↔x∈l:=fun x=>List.mem_mergeSort
 suffices key:∀i,i≤(srtI l).length→(ddN (srtI l) i).Pairwise (· < ·)∧(∀x,x∈ddN (srtI l) i↔x∈(srtI l).take i) by
  obtain⟨h1,h2⟩:=key _ (Nat.le_refl _)
  rw [zL] at h2
  exact⟨h1,fun x=>(h2 x).trans (hm x)⟩
 intro i
 induction i with
 | zero=>intro _;exact⟨List.Pairwise.nil,fun x=>by simp [ddN]⟩
 | succ i ih =>
  intro hi
  obtain⟨h1,h2⟩:=ih (by omega)
  obtain⟨x,hx⟩:=get_of (l:=srtI l) (i:=i) (by omega)
  have ht:(srtI l).take (i+1)=(srtI l).take i ++ [x]:=by rw [zK,hx];rfl
  by_cases hc:0 < i∧(srtI l)[i]?=(srtI l)[i - 1]?
  ·rw [ddN_eq hc.1 hc.2,ht]
   refine⟨h1,fun y=>(h2 y).trans ?_⟩
   have hxm:x∈(srtI l).take i:=zM (i:=i - 1) (by rw [List.getElem?_take,if_pos (by omega),←hc.2,hx])
   simp only [zV,zH]
   exact⟨.inl,fun h=>h.elim id fun e=>e▸hxm⟩
  ·rw [ddN_ne hx (fun h0 e=>hc ⟨h0,e⟩),ht]
   refine⟨List.pairwise_append.2 ⟨h1,by simp,fun a ha b hb=>?_⟩,fun y=>by simp [h2]⟩
   have hb:b=x:=by simpa using hb
   subst hb
   have ha:=(h2 a).1 ha
   obtain⟨j,hj⟩:=zO ha
   have hjl:j < i:=by have:=(zS.1 hj).1;simp at this;omega
   rw [List.getElem?_take,if_pos hjl] at hj
   have hle:∀(p q:Nat) (u v:Int),p≤q→(srtI l)[p]?=some u→(srtI l)[q]?=some v→u≤v:=fun p q u v hpq hu hv=>by
    by_cases he:p=q
    ·subst he;rw [hu] at hv;cases hv;omega
    ·obtain⟨p1,rfl⟩:=zS.1 hu
     obtain⟨q1,rfl⟩:=zS.1 hv
     exact List.pairwise_iff_getElem.1 hs p q p1 q1 (by omega)
   obtain⟨z,hz⟩:=get_of (l:=srtI l) (i:=i - 1) (by omega)
   have h3:=hle j (i - 1) a z (by omega) hj hz
   have h4:=hle (i - 1) i z b (by omega) hz hx
   have h5:b≠z:=fun e=>hc ⟨by omega,by rw [hx,hz,e]⟩
   omega
noncomputable def valK(t:TblS)(g:MgS) : List Int:=if t.kind=2∨t.kind=3 then setV t g else if g.marks.length=0 then [iniT t] else srtD (g.marks.map MkS.val)
theorem valK_len(t:TblS)(g:MgS) : (valK t g).length≤g.marks.length+1:=by
 unfold valK
 split
 ·simp [setV]
 ·split
  ·simp
  ·have:=srtD_len (g.marks.map MkS.val);simp at this;omega
theorem valuesR_p(t:TblS)(g:MgS)(hk:¬(t.kind=2∨t.kind=3))(hl:g.marks.length≤100000) : CallP Tryz.prog 193 [.agg (tblC t), .agg (mgC g)] (ints (valK t g)):=by
 have h1:t.kind≠2:=fun h=>hk (.inl h)
 have h2:t.kind≠3:=fun h=>hk (.inr h)
 by_cases h0:g.marks.length=0
 ·have hv:valK t g= [iniT t]:=by rw [valK,if_neg hk,if_pos h0]
  rw [hv]
  refine CallA.fz (T:=3) (by simp) ?_
  refine CallA.of pg ordZ Tryz.func193 rfl Tryz.ntmps193 Tryz.results193 rfl fun h0 G0 O0=>?_
  (repeat'(first|(show CA _ _ Code.ret _ _;apply Stopped.out)|apply Sp.h|refine Lk.r rfl ?_|refine Rf.mk rfl ?_|refine xA ?_|refine xB ?_|apply Im.mk|apply All.mk|refine xT ?_|(apply Fk.r;focus repeat' first|infer_instance|constructor)|refine Rf.mk ⟨rfl,rfl,rfl⟩ ?_|intro _));any_goals apply Stopped.mk
  apply CA.retype (m:= [iniT t]) (g:=i1)
  focus(repeat constructor)
  focus rfl
  repeat'(first|apply Sp.h|refine Lk.r rfl ?_|refine xN ?_|fail)
  exact⟨_,_, .one (.same (.z)),_,rfl,rfl⟩
 ·have hv:valK t g=srtD (g.marks.map MkS.val):=by rw [valK,if_neg hk,if_neg h0]
  have hln:=srtD_len (g.marks.map MkS.val)
  rw [List.length_map] at hln
  rw [hv]
  refine CallA.fz (T:=3) (by omega) ?_
  refine CallA.of pg ordZ Tryz.func193 rfl Tryz.ntmps193 Tryz.results193 rfl fun h0 G0 O0=>?_
  repeat'(first|apply Sp.h|refine Lk.r rfl ?_|refine Rf.mk rfl ?_|refine xB ?_|apply Im.mk|apply All.mk|refine xT ?_|intro _)
  refine CA.nilOwn 5 3 1 i1 rfl fun v=>?_
  refine CA.loop (fun x:Nat×Value=>⟨[(5, .ow x.2),(54,mks g.marks),(55,it (g.marks.length:Nat)),(56,it x.1)],[arrR x.2 3 1 ((g.marks.take x.1).map MkS.val) i1]⟩) (fun x=>x.1≤g.marks.length) (fun x=>g.marks.length - x.1) (0,v) xE (zZ _) ?_
  rintro⟨i,w⟩ hi
  simp only at hi
  simp only
  by_cases hin:i < g.marks.length
  ·obtain⟨x,hx⟩:=get_of hin
   have hsu:(g.marks.take (i+1)).map MkS.val=(g.marks.take i).map MkS.val ++ [x.val]:=by rw [zK,hx];simp
   repeat'(first|apply Sp.h|refine Lk.r rfl ?_|refine Rf.mk rfl ?_|refine xA ?_|refine xP ?_|apply All.mk|refine xU ?_|refine xT ?_|refine xI ?_|refine Ce.r ?_|refine Ch.l ⟨rfl,rfl⟩ ?_|(apply SetAsk.r;focus repeat' constructor)|(apply Fk.r;focus repeat' first|infer_instance|constructor)|refine xN ?_|refine Rf.mk ⟨rfl,rfl⟩ ?_|refine Rf.mk ⟨rfl,rfl,rfl⟩ ?_|(apply Mp.lit;(focus repeat(first|exact MpL.nil|(apply MpL.cons;(focus rfl))|(apply MpL.inv;(focus repeat constructor);(focus infer_instance)))))|refine xO ?_|intro _)
   rw [←hsu]
   exact PA.lp (i+1,_) xE ⟨hin,by simp only;omega⟩
  ·have hie:i=g.marks.length:=by omega
   subst hie
   rw [zL]
   have hso:=sortInt_a w 3 (g.marks.map MkS.val) (by simp;omega)
   have hco:=compactI_a w (srtI (g.marks.map MkS.val)) (by rw [srtI_len];simp;omega)
   repeat'(first|apply Sp.h|refine Lk.r rfl ?_|refine Rf.mk rfl ?_|refine xB ?_|fail)
   refine xW (hso) ?_
   rintro _ _ ⟨rfl,rfl⟩
   repeat'(first|apply Sp.h|refine Lk.r rfl ?_|refine Rf.mk rfl ?_|fail)
   refine xW (hco) ?_
   rintro _ _ ⟨w2,rfl,rfl⟩
   repeat'(first|apply Sp.h|refine Lk.r rfl ?_|refine xN ?_|fail)
   exact⟨_,_, .one (.same (.z)),_,rfl,rfl⟩
theorem values_p(t:TblS)(g:MgS)(hl:g.marks.length≤100000) : CallP Tryz.prog 193 [.agg (tblC t), .agg (mgC g)] (ints (valK t g)):=by
 by_cases h:t.kind=2∨t.kind=3
 ·rw [valK,if_pos h];exact valuesS_p t g h
 ·exact valuesR_p t g h hl
end Go.Proofs.YtmjllbjfkafhdaaGreatDoor
set_option maxRecDepth 100000
set_option maxHeartbeats 80000000
namespace Go.Proofs.YtmjllbjfkafhdaaGreatDoor
open Go Go.CF
theorem si_keep{l s:List Int}{x:Int}(h:SI l s)(hx:x∈s) : SI (l ++ [x]) s :=
 ⟨h.1,fun y=>by
  rw [zV,zH,h.2]
  exact⟨.inl,fun e=>e.elim id fun e=>e▸(h.2 x).1 hx⟩⟩
noncomputable def valsF(ts:List TblS)(l:List MgS) : List (List Int):=(ts.zip l).map fun p=>valK p.1 p.2
theorem valsF_succ{ts:List TblS}{l:List MgS}{i:Nat}{t:TblS}{g:MgS}(ht:ts[i]?=some t)(hg:l[i]?=some g) : valsF (ts.take (i+1)) (l.take (i+1))=valsF (ts.take i) (l.take i) ++ [valK t g]:=by
 have h1:=(zS.1 ht).1
 have h2:=(zS.1 hg).1
 rw [zK,zK,ht,hg,valsF,Option.toList_some,Option.toList_some,List.zip_append (by simp;omega),List.map_append]
 rfl
theorem valsF_len(ts:List TblS)(l:List MgS) : (valsF ts l).length=min ts.length l.length:=by simp [valsF]
theorem valL_len{ts:List TblS}{l:List MgS}(hv:ValL ts l){i:Nat}{t:TblS}{g:MgS}(ht:ts[i]?=some t)(hg:l[i]?=some g) : g.marks.length≤1024:=(hv.2 i t g ht hg).1.2.2.2
theorem valuesM_p(m:ModS)(l:List MgS)(hm:LayOK m.sorts m.tables)(hv:ValL (mrgF m) l)(hl:(mrgF m).length≤1000) :
  CallP Tryz.prog 136 [mdl m,mgs l] (.tup [clks (valsF (mrgF m) l),it 0]):=by
 refine CallA.fzt (T:=22) (by rw [valsF_len];omega) ?_
 have hva:=validM_p m l hm
 have hce:=cells_p m hm
 have hlen:=hv.1
 refine CallA.of pg ord136 Tryz.func136 rfl Tryz.ntmps136 Tryz.results136 rfl fun h0 G0 O0=>?_
 repeat'(first|apply Sp.h|refine Lk.r rfl ?_|refine Rf.mk rfl ?_|refine xA ?_|refine Im.mk fun _=>?_|refine All.mk fun _=>?_|refine xT ?_|refine Ch.l ⟨rfl,rfl⟩ ?_|(apply Cl.p (hva);focus repeat' constructor)|(apply Cl.p (hce);focus repeat' constructor))
 refine CA.nilOwn 6 22 1 clkC rfl fun v=>?_
 refine CA.loop (fun x:Nat×Value=>⟨[(1,mgs l),(6, .ow x.2),(14,tbls (mrgF m)),(15,it ((mrgF m).length:Nat)),(16,it x.1)],[arrR x.2 22 1 (valsF ((mrgF m).take x.1) (l.take x.1)) clkC]⟩) (fun x=>x.1≤(mrgF m).length) (fun x=>(mrgF m).length - x.1) (0,v) xE (zZ _) ?_
 rintro⟨i,w⟩ hi
 simp only at hi
 simp only
 by_cases hin:i < (mrgF m).length
 ·obtain⟨t,ht⟩:=get_of hin
  obtain⟨g,hg⟩:=get_of (l:=l) (i:=i) (by omega)
  have hsu:=valsF_succ ht hg
  have hva:=values_p t g (by have:=valL_len hv ht hg;omega)
  have hln:(valsF ((mrgF m).take i) (l.take i)).length≤1000:=by rw [valsF_len];simp;omega
  repeat'(first|apply Sp.h|refine Lk.r rfl ?_|refine Rf.mk rfl ?_|refine xA ?_|refine OpK.r rfl ?_|refine xP ?_|refine All.mk fun _=>?_|refine xU ?_|refine xT ?_|refine xI ?_|refine Ce.r ?_|refine Ch.l ⟨rfl,rfl⟩ ?_|(apply SetAsk.r;focus repeat' constructor)|(apply Fk.r;focus repeat' first|infer_instance|constructor)|refine xN ?_|refine Rf.mk ⟨rfl,rfl⟩ ?_|refine Rf.mk ⟨rfl,rfl,rfl⟩ ?_|(apply Mp.lit;(focus repeat(first|exact MpL.nil|(apply MpL.cons;(focus rfl))|(apply MpL.inv;(focus repeat constructor);(focus infer_instance)))))|refine xD ?_|refine xO ?_|(apply Cl.p (hva);focus repeat' constructor))
  rw [←hsu]
  exact PA.lp (i+1,_) xE ⟨hin,by simp only;omega⟩
 ·have hie:i=(mrgF m).length:=by omega
  subst hie
  rw [zL,List.take_of_length_le (l:=l) (by omega)]
  repeat'(first|apply Sp.h|refine Lk.r rfl ?_|refine Rf.mk rfl ?_|refine xB ?_|refine xN ?_|fail)
  exact⟨_,_, .tup (.same (.same (.z))),_,rfl,rfl⟩
noncomputable def valuesQ(m:ModS)(l:List MgS) : Int×List (List Int):=@ite _ (ValL (mrgF m) l) (zC _) (0,valsF (mrgF m) l) (1,[])
theorem valuesQ_ok{m:ModS}{l:List MgS}(h:ValL (mrgF m) l) : valuesQ m l=(0,valsF (mrgF m) l):=@if_pos _ (zC _) h _ _ _
theorem valuesQ_bad{m:ModS}{l:List MgS}(h:¬ValL (mrgF m) l) : valuesQ m l=(1,[]):=@if_neg _ (zC _) h _ _ _
abbrev resV (q:Int×List (List Int)):AV:= .tup [clks q.2,it q.1]
theorem valuesQ_p(m:ModS)(l:List MgS)(hm:MOK m) : CallP Tryz.prog 136 [mdl m,mgs l] (resV (valuesQ m l)):=by
 by_cases hv:ValL (mrgF m) l
 ·rw [valuesQ_ok hv];exact valuesM_p m l hm.lay hv (by have:=hm.mrg;omega)
 ·have hva:=validM_p m l hm.lay
  rw [valuesQ_bad hv]
  refine CallA.conv (a:= .tup [.val (.slice none 0 0),it 1]) (.tup (.cons ALe.nil (.cons (ALe.refl _) .nil))) ?_
  refine CallA.of pg ord136 Tryz.func136 rfl Tryz.ntmps136 Tryz.results136 rfl fun h0 G0 O0=>?_
  repeat'(first|apply Sp.h|refine Lk.r rfl ?_|refine Rf.mk rfl ?_|refine xB ?_|refine All.mk fun _=>?_|refine xT ?_|refine Ch.l ⟨rfl,rfl⟩ ?_|refine xN ?_|(apply Cl.p (hva);focus repeat' constructor))
  exact Fin.p rfl rfl
theorem fold_len{op:Int→Int→Int}{l:List (List Int)}(h:AlikeC l) : (foldC op l).length=(l[0]?.getD []).length:=by
 obtain⟨d,r,rfl⟩:=alike_cons h
 have:=foldN_len (op:=op) (d:=d) (r:=r) (fun c hc=>(h.2 c (by simp [hc])).2) r.length
 rw [foldN,zL] at this
 exact this
section
variable (s:Nat) (m:ModS) (b:NowS) (v:Value) (w:NowS)
abbrev stoV (m:ModS) (b:NowS) (l:List EvS) (w:NowS):List AV:= [ints m.sorts,tbls m.tables, .sl 1 m.families strC, .sl 6 m.cons cnsC, .sl 3 m.ops opC, .sl 5 m.acts actC, .sl 3 m.hides updC,ints b.clock,it b.time,ints b.state,mgs b.merged,nl0,nl0,ints b.places,evs l,ints w.clock,it w.time,ints w.state,mgs w.merged,ints w.places]
theorem sevents_r(l:List EvS)(hl:l.length≤1000000)(hm:∀e∈l,e.past.length≤1000000) : CallA Tryz.prog 64 [.ad (stoV m b l w) 0] [] fun r own=>∃u L,r= .ow u∧L.map EvE.e=l∧own=outE u L:=by
 have h:=cloneEs_a l hl hm
 refine CallA.of pg ordZ Tryz.func64 rfl Tryz.ntmps64 Tryz.results64 rfl fun h0 G0 O0=>?_
 repeat'(first|apply Sp.h|refine Lk.r rfl ?_|refine Rf.mk rfl ?_|fail)
 refine xW (h) ?_
 rintro _ _ ⟨u,L,rfl,hL,rfl⟩
 repeat'(first|apply Sp.h|refine Lk.r rfl ?_|refine xN ?_|fail)
 exact⟨_,_, .one (.same (.z)),u,L,rfl,hL,rfl⟩
theorem sclock_r(l:List EvS)(h:w.clock.length≤100000) : CallO Tryz.prog 28 [.ad (stoV m b l w) 0] 3 1 w.clock intC:=by
 have h1:=clone_o w.clock (by omega)
 refine CallA.of pg ordZ Tryz.func28 rfl Tryz.ntmps28 Tryz.results28 rfl fun h0 G0 O0=>?_
 repeat'(first|apply Sp.h|refine Lk.r rfl ?_|refine Rf.mk rfl ?_|fail)
 (refine Cl.use (h1) (by repeat'(first|exact Lend.nil|apply Lend.keep|fail)) .nil rfl ?_;rintro _ _ ⟨_,rfl,rfl⟩)
 repeat'(first|apply Sp.h|refine Lk.r rfl ?_|refine xN ?_|fail)
 exact⟨_,_, .one (.same (.z)),_,rfl,rfl⟩
theorem sevents_z(l:List EvS)(hl:l.length≤1000000)(hm:∀e∈l,e.past.length≤1000000) : CallP Tryz.prog 64 [.ad (stoV m b l w) 0] (evs l):=by
 refine CallA.fx (sevents_r m b w l hl hm) ?_
 rintro _ _ ⟨u,L,rfl,hL,rfl⟩
 have h:=outE_fx (v:=u) (L:=L) (o:= []) (by have:=congrArg List.length hL;simp at this;omega) (fun x hx=>hm x.e (by rw [←hL];exact List.mem_map_of_mem hx)) .nil
 rw [hL] at h
 simpa using h
theorem sclock_z(l:List EvS)(h:w.clock.length≤100000) : CallP Tryz.prog 28 [.ad (stoV m b l w) 0] (ints w.clock):=CallA.fz (by omega) (sclock_r m b w l h)
theorem sbase_r(l:List EvS)(h:SzN b) : CallP Tryz.prog 63 [.ad (stoV m b l w) 0] (basA b):=by
 have h1:=cloneBase_p b nl0 nl0 h
 refine CallA.of pg ordZ Tryz.func63 rfl Tryz.ntmps63 Tryz.results63 rfl fun h0 G0 O0=>?_
 repeat'(first|apply Sp.h|refine Lk.r rfl ?_|refine Rf.mk rfl ?_|refine All.mk fun _=>?_|refine xT ?_|refine Ch.r ?_|(apply SetAsk.r;focus repeat' constructor)|refine xN ?_|(apply Cl.p (h1);focus repeat' constructor))
 exact Fin.p rfl rfl
end
theorem flat_ints{u:Value}{l:List Int} : FlatR (arrR u 3 1 l intC):=FlatR.arr fun _ _=> .cons (.val _) .nil
end Go.Proofs.YtmjllbjfkafhdaaGreatDoor
namespace Go.CF
open Go
section
variable {Γ:Cx} {k:List KI} {e:EA} {o:List Res} {N:NA} {c:Cls} {d:Tmp} {ty:TypeId} {x y:Operand} {t u:TypeId}
instance {cs:List AV} {j:Nat} : Sp (Ap2 Γ c d (.binOp .eql t x y u) ty e o N x (.ad cs j) y (.val (.pointer none))) (Lk (Γ.tt t) fun ti=>Lk (match ti.kind with | .ptr e=>some e|_=>none) fun q=>Rf (ti.kind= .ptr q) (N ((d, .val (.bool false)) :: e) o)):=⟨fun⟨_,h1,_,_,hn⟩=>pu2 fun env h G v w g1 g2 r1 r2=>by
 obtain⟨b,off,vs,rfl,_⟩:=r1
 have r2:w= .pointer none:=r2
 subst r2
 exact⟨.val (.bool false), .bool false,rfl,hn.k,fun N' k=>St.eql_pnil Γ.ok h1 hn.p g1 g2 k⟩⟩
end
def fldE(tt:Nat→Option TI)(t i:Nat) : Option (Nat×Nat×TI):=match tt t with
 | some ti=>match ti.kind with
  | .struct fs=>match fs[i]? with
   | some (off,ft,_)=>match tt ft with
    | some te=>if te.kind.agg=false then some (off,ft,te) else none
    | none=>none
   | none=>none
  | _=>none
 | none=>none
theorem fldE_spec{tt:Nat→Option TI}{t i:Nat}{p:Nat×Nat×TI}(h:fldE tt t i=some p) :∃ti fs sz,tt t=some ti∧ti.kind= .struct fs∧fs[i]?=some (p.1,p.2.1,sz)∧tt p.2.1=some p.2.2∧p.2.2.kind.agg=false:=by
 unfold fldE at h
 split at h
 ·rename_i ti h1
  split at h
  ·rename_i fs h2
   split at h
   ·rename_i off ft sz h3
    split at h
    ·rename_i te h4
     split at h
     ·rename_i h5
      cases h
      exact⟨ti,fs,sz,h1,h2,h3,h4,h5⟩
     ·cases h
    ·cases h
   ·cases h
  ·cases h
 ·cases h
section
variable {Γ:Cx} {k:List KI} {e:EA} {o:List Res} {N:NA} {c:Cls} {d:Tmp} {ty:TypeId} {x:Operand} {t:TypeId}
theorem St.field{P:Program}{tt:Nat→Option TI}{en:Nat→Bool}(G:PgOK P tt en){γ:Type}[Membership Nat γ]{fp:γ}{n:Nat}{env:Env}{h:Heap}{N:Env→Heap→Prop}{i:Nat}{p:Nat×Nat×TI}{vs:List Value}{v:Value}(hp:fldE tt t i=some p)
  (hx:ev env x=some (.agg vs.toArray)) (hv:vs[p.1]?=some v) (k:N ((d,v) :: env) h):St P n fp c (some d) (.field t x i) ty env h N :=
 .ofPu (v:=v) (fun a w ha=>by
  obtain⟨ti,fs,sz,h1,h2,h3,h4,h5⟩:=fldE_spec hp
  obtain⟨ff,hu,rfl⟩:=(G.ok _ _ h1).struct h2
  rw [zG] at h3
  obtain⟨f,hf1,hf2⟩:=Option.map_eq_some_iff.1 h3
  simp only [Prod.mk.injEq] at hf2
  have hf3:ff[i]?=some f:=by simpa using hf1
  have hag:=(G.ok _ _ h4).run_agg w h5
  rw [←hf2.2.1] at hag
  have hv2:vs[f.offset]?=some v:=by rw [hf2.1];exact hv
  simp [mkOp,execOp,ha.ev hx,Instr.field,run_underlying hu,hf3,part,hag,asAgg,hv2]) k
instance {i:Nat} : Sp (SA Γ c (some d) (.field t x i) ty e o N) (Lk (evA e x) fun a=>Ap1 Γ c d (.field t x i) ty e o N x a):=⟨fun⟨_,ha,h⟩=>h.h ha⟩
instance {i:Nat} {cs:List AV} : Sp (Ap1 Γ c d (.field t x i) ty e o N x (.agg cs)) (Lk (fldE Γ.tt t i) fun p=>Lk cs[p.1]? fun a=>N ((d,a) :: e) o):=⟨fun⟨p,hp,a,ha,hn⟩=>pu1 fun env h G v h1 h2=>by
 obtain⟨vs,rfl,hr⟩:=h2
 obtain⟨w,h3,h4⟩:=hr.t.get ha
 exact⟨a,w,h4,hn,fun _ k=>St.field Γ.ok hp h1 h3 k⟩⟩
end
end Go.CF
namespace Go.Proofs.YtmjllbjfkafhdaaGreatDoor
open Go Go.CF
structure ShwS (b:NowS) (l:List EvS) (w:NowS):Prop where
 bs:SzN b
 ck:w.clock.length≤100000
 ln:l.length≤1000000
 ps:∀e∈l,e.past.length≤1000000
theorem sbase_z(m:ModS)(b:NowS)(l:List EvS)(w:NowS)(h:SzN b) : CallP Tryz.prog 63 [.ad (stoV m b l w) 0] (basA b):=sbase_r m b w l h
def LooseC(c:List Int)(e:EvS) : Prop:=HasC c e.rep e.num∧¬ConC c e.past
noncomputable instance (c:List Int) (e:EvS):Decidable (LooseC c e):=zC _
noncomputable instance (c:List Int) (l:List EvS):Decidable (∃e∈l,LooseC c e):=zC _
noncomputable def chkF(bc:List Int)(l:List EvS)(wc c:List Int) : Int :=
 if¬(ValC c∧c.length=wc.length) then 1 else if¬ConC c bc then 7 else if¬ConC wc c then 11 else if∃e∈l,LooseC c e then 9 else 0
theorem scheck_p(m:ModS)(b:NowS)(l:List EvS)(w:NowS)(c:List Int)(h:ShwS b l w) : CallP Tryz.prog 14 [.ad (stoV m b l w) 0,ints c] (it (chkF b.clock l w.clock c)):=by
 have hv:=validC_p c
 have hcl:=sclock_z m b w l h.ck
 have hba:=sbase_z m b l w h.bs
 have hev:=sevents_z m b w l h.ln h.ps
 have hc1:=scontains_p c b.clock
 have hc2:=scontains_p w.clock c
 refine CallA.of pg ordZ Tryz.func14 rfl Tryz.ntmps14 Tryz.results14 rfl fun h0 G0 O0=>?_
 by_cases h1:ValC c∧c.length=w.clock.length
 rotate_left
 ·have hF:chkF b.clock l w.clock c=1:=by rw [chkF,if_pos h1]
  rw [hF]
  repeat'(first|apply Sp.h|refine Lk.r rfl ?_|refine Rf.mk rfl ?_|refine xA ?_|refine xB ?_|(refine Bd.mk ?_ ?_ <;> intro _)|refine Im.mk fun _=>?_|refine xN ?_|(apply Cl.p (hv);focus(repeat' constructor);done)|(apply Cl.p (hcl);focus(repeat' constructor);done)|(apply Cl.p (hba);focus(repeat' constructor);done)|(apply Cl.p (hc1);focus(repeat' constructor);done)|(apply Cl.p (hc2);focus(repeat' constructor);done))
  all_goals first
   | exact Fin.p rfl rfl
   | exact(h1 ⟨by assumption,by omega⟩).elim
 by_cases h2:ConC c b.clock
 rotate_left
 ·have hF:chkF b.clock l w.clock c=7:=by rw [chkF,if_neg (fun h=>h h1),if_pos h2]
  rw [hF]
  obtain⟨h11,h12⟩:=h1
  repeat'(first|apply Sp.h|refine Lk.r rfl ?_|refine Rf.mk rfl ?_|refine xA ?_|refine xB ?_|refine Im.mk fun _=>?_|refine xN ?_|(apply Cl.p (hv);focus(repeat' constructor);done)|(apply Cl.p (hcl);focus(repeat' constructor);done)|(apply Cl.p (hba);focus(repeat' constructor);done)|(apply Cl.p (hc1);focus(repeat' constructor);done)|(apply Cl.p (hc2);focus(repeat' constructor);done))
  exact Fin.p rfl rfl
 by_cases h3:ConC w.clock c
 rotate_left
 ·have hF:chkF b.clock l w.clock c=11:=by rw [chkF,if_neg (fun h=>h h1),if_neg (fun h=>h h2),if_pos h3]
  rw [hF]
  obtain⟨h11,h12⟩:=h1
  repeat'(first|apply Sp.h|refine Lk.r rfl ?_|refine Rf.mk rfl ?_|refine xA ?_|refine xB ?_|refine Im.mk fun _=>?_|refine xN ?_|(apply Cl.p (hv);focus(repeat' constructor);done)|(apply Cl.p (hcl);focus(repeat' constructor);done)|(apply Cl.p (hba);focus(repeat' constructor);done)|(apply Cl.p (hc1);focus(repeat' constructor);done)|(apply Cl.p (hc2);focus(repeat' constructor);done))
  exact Fin.p rfl rfl
 have hF:chkF b.clock l w.clock c=if∃e∈l,LooseC c e then 9 else 0:=by rw [chkF,if_neg (fun h=>h h1),if_neg (fun h=>h h2),if_neg (fun h=>h h3)]
 rw [hF]
 obtain⟨h11,h12⟩:=h1
 repeat'(first|apply Sp.h|refine Lk.r rfl ?_|refine Rf.mk rfl ?_|refine xA ?_|refine Im.mk fun _=>?_|(apply Cl.p (hv);focus(repeat' constructor);done)|(apply Cl.p (hcl);focus(repeat' constructor);done)|(apply Cl.p (hba);focus(repeat' constructor);done)|(apply Cl.p (hc1);focus(repeat' constructor);done)|(apply Cl.p (hc2);focus(repeat' constructor);done)|(apply Cl.p (hev);focus(repeat' constructor);done))
 refine CA.loop (fun i:Nat=>⟨[(1,ints c),(37,evs l),(38,it (l.length:Nat)),(39,it i)],[]⟩) (fun i=>i≤l.length∧∀j e,j < i→l[j]?=some e→¬LooseC c e) (fun i=>l.length - i) 0 xE ⟨zZ _,fun j e h=>by omega⟩ ?_
 rintro i ⟨hi,hno⟩
 by_cases hin:i < l.length
 ·obtain⟨e,he⟩:=get_of hin
  have hi1:=sinside_p c e
  have hi2:=scontains_p c e.past
  by_cases hL:LooseC c e
  ·rw [if_pos ⟨e,zM he,hL⟩]
   obtain⟨hL1,hL2⟩:=hL
   repeat'(first|apply Sp.h|refine Lk.r rfl ?_|refine Rf.mk rfl ?_|refine xA ?_|refine xB ?_|refine All.mk fun _=>?_|refine xT ?_|refine xI ?_|refine Ch.l ⟨rfl,rfl⟩ ?_|(apply SetAsk.r;focus repeat' constructor)|refine xN ?_|(apply Cl.p (hi1);focus(repeat' constructor);done)|(apply Cl.p (hi2);focus(repeat' constructor);done))
   exact Fin.p rfl rfl
  ·have hgo:=alli_succ he hno hL
   repeat'(first|apply Sp.h|refine Lk.r rfl ?_|refine Rf.mk rfl ?_|refine xA ?_|refine xB ?_|(refine Bd.mk ?_ ?_ <;> intro _)|refine All.mk fun _=>?_|refine xT ?_|refine xI ?_|refine Ch.l ⟨rfl,rfl⟩ ?_|(apply SetAsk.r;focus repeat' constructor)|refine xN ?_|refine xO ?_|(apply Cl.p (hi1);focus(repeat' constructor);done)|(apply Cl.p (hi2);focus(repeat' constructor);done))
   all_goals first
    | exact PA.lp (i+1) xE ⟨⟨hin,hgo⟩,by omega⟩
    | exact(hL ⟨by assumption,by assumption⟩).elim
 ·rw [if_neg fun⟨e,he,hL⟩=>by
   obtain⟨j,hj⟩:=zO he
   exact hno j e (by have:=(zS.1 hj).1;omega) hj hL]
  repeat'(first|apply Sp.h|refine Lk.r rfl ?_|refine Rf.mk rfl ?_|refine xB ?_|refine xN ?_|fail)
  exact Fin.p rfl rfl
def LtE(a b:EvS) : Prop:=a.time < b.time∨a.time=b.time∧(a.rep < b.rep∨a.rep=b.rep∧a.num < b.num)
noncomputable instance (a b:EvS):Decidable (LtE a b):=zC _
abbrev SrtE (l:List EvS):Prop:=l.Pairwise fun a b=>¬LtE b a
theorem ne_snoc{α:Type}{l:List α}(h:l≠ []) :∃m y,l=m ++ [y]:=⟨l.dropLast,l.getLast h,(List.dropLast_concat_getLast h).symm⟩
theorem srt_ins{S1 S2:List EvS}{x:EvS}(h:SrtE (S1 ++ S2))(h2:∀s∈S2,LtE x s)(h1:∀m y,S1=m ++ [y]→¬LtE x y) : SrtE (S1 ++ x :: S2):=by
 obtain⟨a1,a2,a3⟩:=List.pairwise_append.1 h
 refine List.pairwise_append.2 ⟨a1,List.pairwise_cons.2 ⟨fun s hs h9=>?_,a2⟩,fun s hs t ht=>?_⟩
 ·have:=h2 s hs;unfold LtE at *;omega
 ·rcases List.mem_cons.1 ht with e|ht
  ·subst e
   by_cases hn:S1= []
   ·subst hn;cases hs
   ·obtain⟨m,y,rfl⟩:=ne_snoc hn
    have hy:=h1 m y rfl
    rcases zV.1 hs with hs|hs
    ·have:=(List.pairwise_append.1 a1).2.2 s hs y (by simp)
     unfold LtE at *;omega
    ·rw [zH.1 hs];exact hy
  ·exact a3 s hs t ht
theorem LtE.asymm{a b:EvS}(h:LtE a b) :¬LtE b a:=by unfold LtE at *;omega
theorem pw_uniq{α:Type}{R:α→α→Prop}(has:∀a b,R a b→¬R b a) :∀s t:List α,s.Pairwise R→t.Pairwise R→(∀x,x∈s↔x∈t)→s=t:=by
 intro s
 induction s with
 | nil =>
  intro t _ _ h
  cases t with
  | nil=>rfl
  | cons b t=>exact absurd ((h b).2 (by simp)) (by simp)
 | cons a s ih =>
  intro t hs ht h
  cases t with
  | nil=>exact absurd ((h a).1 (by simp)) (by simp)
  | cons b t =>
   obtain⟨h1,h2⟩:=List.pairwise_cons.1 hs
   obtain⟨h3,h4⟩:=List.pairwise_cons.1 ht
   have hab:a=b:=by
    rcases List.mem_cons.1 ((h a).1 (by simp)) with e|e
    ·exact e
    ·rcases List.mem_cons.1 ((h b).2 (by simp)) with e2|e2
     ·exact e2.symm
     ·exact absurd (h3 a e) (has _ _ (h1 b e2))
   subst hab
   rw [ih t h2 h4 fun x=>?_]
   have:=h x
   simp only [List.mem_cons] at this
   constructor
   ·intro hx
    rcases this.1 (.inr hx) with e|e
    ·subst e;exact absurd (h1 _ hx) (fun h9=>has _ _ h9 h9)
    ·exact e
   ·intro hx
    rcases this.2 (.inr hx) with e|e
    ·subst e;exact absurd (h3 _ hx) (fun h9=>has _ _ h9 h9)
    ·exact e
theorem LtK_asymm(a b:MkS) : LtK a b→¬LtK b a:=by unfold LtK;omega
noncomputable def ordE(l:List EvS) : List EvS:=l.mergeSort fun a b=>decide (¬LtE b a)
theorem ordE_perm(l:List EvS) : l.Perm (ordE l):=(List.mergeSort_perm _ _).symm
theorem ordE_srt(l:List EvS) : SrtE (ordE l):=by
 have:=List.pairwise_mergeSort (le:=fun a b:EvS=>decide (¬LtE b a)) (fun a b c h1 h2=>by simp [LtE] at *;omega) (fun a b=>by simp [LtE];omega) l
 exact this.imp fun h=>by simpa using h
theorem srt_lt{l:List EvS}(hu:Uniq l){S:List EvS}(hp:l.Perm S)(hs:SrtE S) : S.Pairwise LtE:=by
 have hu1:l.Pairwise fun a b=>nm a≠nm b:=by
  rw [List.pairwise_iff_getElem]
  intro i j hi hj hij h
  have:=hu i j _ _ (zE hi) (zE hj) h
  omega
 have hu2:S.Pairwise fun a b=>nm a≠nm b:=hp.pairwise hu1 (fun h=>h.symm)
 refine(hs.and hu2).imp fun⟨h1,h2⟩=>?_
 simp only [nm,ne_eq,List.cons.injEq,and_true] at h2
 unfold LtE at *
 omega
theorem ordE_uniq{l S:List EvS}(hu:Uniq l)(hp:l.Perm S)(hs:SrtE S) : S=ordE l :=
 pw_uniq (fun _ _=>LtE.asymm) _ _ (srt_lt hu hp hs) (srt_lt hu (ordE_perm l) (ordE_srt l)) fun _=>(hp.mem_iff).symm.trans (ordE_perm l).mem_iff
def updE(m:ModS)(e:EvS)(i:Nat) : Option UpS:=if e.kind=0 then updF (usF m e) i else none
noncomputable def mkE(t:TblS)(e:EvS)(u:UpS) : MkS:=⟨e.rep,e.num,e.time,if isReg t.kind then u.2.2 else 0⟩
def bK(k:Int) : Int:=if k=2 then 0 else if k=3 then 1 else 2
def kK(k:Int) : Int:=if k=2 then 1 else if k=3 then 0 else 2
def Asg(m:ModS)(t:TblS)(i:Nat)(P:List EvS)(x:MkS) : Prop:=∃e∈P,∃u,updE m e i=some u∧u.1=bK t.kind∧x=mkE t e u
def Liv(m:ModS)(t:TblS)(i:Nat)(P:List EvS)(x:MkS) : Prop:=∃e∈P,∃u,updE m e i=some u∧u.1=bK t.kind∧x=mkE t e u∧∀d∈P,∀w,updE m d i=some w→w.1=kK t.kind→¬HasC d.past e.rep e.num
def PutP(m:ModS)(t:TblS)(i:Nat)(P:List EvS) : Prop:=t.kind=3∧∃e∈P,∃u,updE m e i=some u∧u.1=0
def Kn4(m:ModS)(t:TblS)(i:Nat)(P:List EvS)(l:List MkS) : Prop:=(l= []∧∀x,¬Asg m t i P x)∨∃x,l= [x]∧Asg m t i P x∧∀y,Asg m t i P y→¬LtK x y
structure Kn (m:ModS) (t:TblS) (i:Nat) (P:List EvS) (g:MgS):Prop where
 put:g.put=true↔PutP m t i P
 drop:g.drop=false
 srt:g.marks.Pairwise LtK
 four:t.kind=4→Kn4 m t i P g.marks
 liv:t.kind≠4→∀x,x∈g.marks↔Liv m t i P x
def UniqP(P:List EvS) : Prop:=∀a∈P,∀b∈P,a.rep=b.rep→a.num=b.num→a=b
theorem asg_nm{m:ModS}{t:TblS}{i:Nat}{P:List EvS}(hu:UniqP P){x y:MkS}(hx:Asg m t i P x)(hy:Asg m t i P y)(hn:Nm x y) : x=y:=by
 obtain⟨e,he,u,h1,_,rfl⟩:=hx
 obtain⟨d,hd,w,h3,_,rfl⟩:=hy
 have:=hu e he d hd hn.1 hn.2
 subst this
 rw [h1] at h3;cases h3;rfl
theorem liv_asg{m:ModS}{t:TblS}{i:Nat}{P:List EvS}{x:MkS}(h:Liv m t i P x) : Asg m t i P x:=by
 obtain⟨e,he,u,h1,h2,h3,_⟩:=h
 exact⟨e,he,u,h1,h2,h3⟩
theorem Kn.mem{m:ModS}{t:TblS}{i:Nat}{P:List EvS}{g:MgS}(h:Kn m t i P g){x:MkS}(hx:x∈g.marks) : Asg m t i P x:=by
 by_cases k4:t.kind=4
 ·rcases h.four k4 with⟨h1,_⟩|⟨y,h1,h2,_⟩
  ·rw [h1] at hx;cases hx
  ·rw [h1,zH] at hx;subst hx;exact h2
 ·exact liv_asg ((h.liv k4 x).1 hx)
structure Nxt (P:List EvS) (e:EvS):Prop where
 nm:∀p∈P,¬(p.rep=e.rep∧p.num=e.num)
 past:∀p∈P,¬HasC p.past e.rep e.num
 tm:∀p∈P,¬(p.time=e.time∧p.rep=e.rep)
 self:¬HasC e.past e.rep e.num
theorem asg_snoc{m:ModS}{t:TblS}{i:Nat}{P:List EvS}{e:EvS}{x:MkS} : Asg m t i (P ++ [e]) x↔Asg m t i P x∨∃u,updE m e i=some u∧u.1=bK t.kind∧x=mkE t e u:=by
 unfold Asg
 simp only [zV,zH]
 constructor
 ·rintro⟨d,hd|rfl,h⟩
  ·exact .inl ⟨d,hd,h⟩
  ·exact .inr h
 ·rintro(⟨d,hd,h⟩|h)
  ·exact⟨d, .inl hd,h⟩
  ·exact⟨e, .inr rfl,h⟩
theorem putP_snoc{m:ModS}{t:TblS}{i:Nat}{P:List EvS}{e:EvS} : PutP m t i (P ++ [e])↔PutP m t i P∨t.kind=3∧∃u,updE m e i=some u∧u.1=0:=by
 unfold PutP
 simp only [zV,zH]
 constructor
 ·rintro⟨hk,d,hd|rfl,h⟩
  ·exact .inl ⟨hk,d,hd,h⟩
  ·exact .inr ⟨hk,h⟩
 ·rintro(⟨hk,d,hd,h⟩|⟨hk,h⟩)
  ·exact⟨hk,d, .inl hd,h⟩
  ·exact⟨hk,e, .inr rfl,h⟩
theorem liv_snoc{m:ModS}{t:TblS}{i:Nat}{P:List EvS}{e:EvS}(hn:Nxt P e){x:MkS} :
  Liv m t i (P ++ [e]) x↔(Liv m t i P x∧∀u,updE m e i=some u→u.1=kK t.kind→¬HasC e.past x.rep x.num)∨∃u,updE m e i=some u∧u.1=bK t.kind∧x=mkE t e u:=by
 constructor
 ·rintro⟨d,hd,u,h1,h2,h3,h4⟩
  rcases zV.1 hd with hd|hd
  ·refine .inl ⟨⟨d,hd,u,h1,h2,h3,fun d' hd'=>h4 d' (zV.2 (.inl hd'))⟩,fun w hw hk=>?_⟩
   rw [h3];exact h4 e (by simp) w hw hk
  ·rw [zH.1 hd] at h1 h3
   exact .inr ⟨u,h1,h2,h3⟩
 ·rintro(⟨⟨d,hd,u,h1,h2,h3,h4⟩,h5⟩|⟨u,h1,h2,h3⟩)
  ·refine⟨d,zV.2 (.inl hd),u,h1,h2,h3,fun d' hd' w hw hk=>?_⟩
   rcases zV.1 hd' with hd' | hd'
   ·exact h4 d' hd' w hw hk
   ·rw [zH.1 hd'] at hw ⊢
    have:=h5 w hw hk
    rw [h3] at this;exact this
  ·refine⟨e,by simp,u,h1,h2,h3,fun d' hd' w hw hk=>?_⟩
   rcases zV.1 hd' with hd' | hd'
   ·exact hn.past d' hd'
   ·rw [zH.1 hd'];exact hn.self
theorem ins_lt{l:List MkS}{x:MkS}(hs:l.Pairwise LtK)(hn:¬HasNm l x) : (insK l x).Pairwise LtK∧∀y,y∈insK l x↔y∈l∨y=x:=by
 have hsK:SrtK l:=hs.imp fun h=>LtK_asymm _ _ h
 have hm:=hsK.mono x
 have hlt:∀y∈l,LtK x y∨LtK y x:=fun y hy=>by
  have h:¬Nm y x:=fun h=>hn ⟨y,hy,h⟩
  unfold Nm at h;unfold LtK;omega
 have h1:∀y∈l.take (posK l x),LtK y x:=fun y hy=>by
  obtain⟨j,hj⟩:=zO hy
  have hjl:j < posK l x:=by have:=(zS.1 hj).1;simp at this;omega
  rw [List.getElem?_take,if_pos hjl] at hj
  by_cases h9:LtK y x
  ·exact h9
  ·have:idxN (fun y=>decide (¬LtK y x)) l≤j:=by
    rcases Nat.lt_or_ge j (idxN (fun y=>decide (¬LtK y x)) l) with hlt9|h
    ·exfalso
     have hle:=idxN_le (fun y=>decide (¬LtK y x)) l
     by_cases hlen:idxN (fun y=>decide (¬LtK y x)) l < l.length
     ·obtain⟨z,_,_,hz3⟩:=idxN_at hlen
      have:=hz3 j y hlt9 hj
      simp at this;exact h9 this
     ·have hnone:∀z∈l,LtK z x:=fun z hz=>Classical.byContradiction fun h=>hlen (idxN_lt.2 ⟨z,hz,by simpa using h⟩)
      exact h9 (hnone y (zM hj))
    ·exact h
   unfold posK at hjl;omega
 have h2:∀y∈l.drop (posK l x),LtK x y:=fun y hy=>by
  obtain⟨j,hj⟩:=zO hy
  rw [List.getElem?_drop] at hj
  have hym:=zM hj
  refine(hlt y hym).resolve_right fun h9=>?_
  have hp:posK l x < l.length:=by have:=(zS.1 hj).1;omega
  obtain⟨z,hz,hz2,_⟩:=idxN_at (p:=fun y=>decide (¬LtK y x)) (l:=l) hp
  have hz2:¬LtK z x:=by simpa using hz2
  exact hz2 (hm _ _ z y (Nat.le_add_right (posK l x) j) hz hj h9)
 have htd:=List.take_append_drop (posK l x) l
 have hs':=hs
 rw [←htd] at hs'
 obtain⟨s1,s2,s3⟩:=List.pairwise_append.1 hs'
 refine⟨List.pairwise_append.2 ⟨s1,List.pairwise_cons.2 ⟨h2,s2⟩,fun a ha b hb=>?_⟩,fun y=>?_⟩
 ·rcases List.mem_cons.1 hb with rfl|hb
  ·exact h1 a ha
  ·exact s3 a ha b hb
 ·rw [insK,zV,List.mem_cons]
  constructor
  ·rintro(h|rfl|h)
   ·exact .inl (zW h)
   ·exact .inr rfl
   ·exact .inl (List.mem_of_mem_drop h)
  ·rintro(h|rfl)
   ·rw [←htd,zV] at h
    exact h.elim .inl fun h=> .inr (.inr h)
   ·exact .inr (.inl rfl)
theorem cmp2_neg{a b:MkS} : cmp2 a b < 0↔a.time < b.time∨a.time=b.time∧a.rep < b.rep:=by
 unfold cmp2 orI cmpI
 by_cases h1:a.time < b.time
 ·simp [h1]
 by_cases h2:b.time < a.time
 ·simp [h1,h2];omega
 have h3:a.time=b.time:=by omega
 by_cases h4:a.rep < b.rep
 ·simp [h3,h4]
 by_cases h5:b.rep < a.rep
 ·simp [h3,h4,h5]
 have h6:a.rep=b.rep:=by omega
 simp [h3,h6]
def Kd(t:TblS) : Prop:=t.kind=2∨t.kind=3∨t.kind=4∨t.kind=5
theorem cell_step{m:ModS}{t:TblS}{i:Nat}{P:List EvS}{g:MgS}{e:EvS}(hk:Kd t)(h:Kn m t i P g)(hl:g.marks.length < 1024)(hn:Nxt P e) :
  ∃g',cellF e t (updE m e i) g=(0,g')∧Kn m t i (P ++ [e]) g'∧g'.marks.length≤g.marks.length+1:=by
 cases hu:updE m e i with
 | none =>
  refine⟨g,rfl,⟨?_,h.drop,h.srt,fun k4=>?_,fun k4 x=>?_⟩,by omega⟩
  ·rw [putP_snoc,hu];simp [h.put]
  ·have he:∀x,Asg m t i (P ++ [e]) x↔Asg m t i P x:=fun x=>by rw [asg_snoc,hu];simp
   rcases h.four k4 with⟨h1,h2⟩|⟨x,h1,h2,h3⟩
   ·exact .inl ⟨h1,fun x hx=>h2 x ((he x).1 hx)⟩
   ·exact .inr ⟨x,h1,(he x).2 h2,fun y hy=>h3 y ((he y).1 hy)⟩
  ·rw [liv_snoc hn,hu];simp [h.liv k4]
 | some u =>
  have hno:¬HasNm g.marks (mkE t e u):=fun⟨x,hx,hxn⟩=>by
   obtain⟨p,hp,w,_,_,rfl⟩:=h.mem hx
   exact hn.nm p hp hxn
  have hadd:addF g.marks (mkE t e u)=(0,insK g.marks (mkE t e u)):=by rw [addF,if_neg hno,if_neg (by omega)]
  have hil:∀(l:List MkS) x,(insK l x).length=l.length+1:=fun l x=>by
   have:=posK_le l x
   simp [insK];omega
  obtain⟨i1,i2⟩:=ins_lt h.srt hno
  have hfl:∀c,(fgK c g.marks).length≤g.marks.length:=fun c=>List.length_filter_le _ _
  have hfm:∀c x,x∈fgK c g.marks↔x∈g.marks∧¬HasC c x.rep x.num:=fun c x=>by simp [fgK,List.mem_filter]
  have hput:t.kind≠3→g.put=false:=fun h3=>by
   have:=h.put
   cases hp:g.put
   ·rfl
   ·exact absurd (this.1 hp).1 h3
  have hmk:mkE t e u=⟨e.rep,e.num,e.time,if isReg t.kind then u.2.2 else 0⟩:=rfl
  have hlv:∀x,Liv m t i (P ++ [e]) x↔(Liv m t i P x∧(u.1=kK t.kind→¬HasC e.past x.rep x.num))∨(u.1=bK t.kind∧x=mkE t e u):=fun x=>by
   rw [liv_snoc hn,hu];simp
  have hpt:PutP m t i (P ++ [e])↔PutP m t i P∨t.kind=3∧u.1=0:=by rw [putP_snoc,hu];simp
  have hsame:cellF e t (some u) g=(0,g)→(t.kind≠4→u.1≠bK t.kind∧u.1≠kK t.kind)→(t.kind=4→u.1≠2)→(t.kind=3→u.1≠0)→∃g',cellF e t (some u) g=(0,g')∧Kn m t i (P ++ [e]) g'∧g'.marks.length≤g.marks.length+1:=fun h1 h2 h3 h4=>by
   refine⟨g,h1,⟨?_,h.drop,h.srt,fun k4=>?_,fun k4 x=>?_⟩,by omega⟩
   ·rw [hpt,h.put];exact⟨.inl,fun h=>h.elim id fun h=>absurd h.2 (h4 h.1)⟩
   ·have hb:bK t.kind=2:=by rw [k4];rfl
    have he:∀x,Asg m t i (P ++ [e]) x↔Asg m t i P x:=fun x=>by
     rw [asg_snoc,hu]
     refine⟨fun h=>h.elim id fun⟨w,hw,hw2,_⟩=>?_, .inl⟩
     cases hw
     exact absurd (hw2.trans hb) (h3 k4)
    rcases h.four k4 with⟨h1,h2⟩|⟨x,h1,h2,h3⟩
    ·exact .inl ⟨h1,fun x hx=>h2 x ((he x).1 hx)⟩
    ·exact .inr ⟨x,h1,(he x).2 h2,fun y hy=>h3 y ((he y).1 hy)⟩
   ·rw [hlv,h.liv k4]
    exact⟨fun h9=> .inl ⟨h9,fun h=>absurd h (h2 k4).2⟩,fun h9=>h9.elim (·.1) fun h=>absurd h.1 (h2 k4).1⟩
  rcases hk with k|k|k|k
  ·have nb:bK t.kind=0:=by rw [k];rfl
   have nk:kK t.kind=1:=by rw [k];rfl
   by_cases u0:u.1=0
   ·refine⟨⟨g.put,g.drop,insK g.marks (mkE t e u)⟩, ?_,⟨?_,h.drop,i1,fun k4=>by omega,fun _ x=>?_⟩,by simp [hil]⟩
    ·simp only [cellF,k,u0,true_and,true_or,if_true]
     rw [←k,←hmk,hadd]
    ·rw [hpt,h.put];exact⟨.inl,fun h=>h.elim id fun h=>by omega⟩
    ·rw [hlv]
     show x∈insK g.marks (mkE t e u)↔_
     rw [i2,h.liv (by omega)]
     exact⟨fun h9=>h9.elim (fun h9=> .inl ⟨h9,fun h=>by omega⟩) fun h9=> .inr ⟨by omega,h9⟩,fun h9=>h9.elim (fun h9=> .inl h9.1) fun h9=> .inr h9.2⟩
   by_cases u1:u.1=1
   ·refine⟨⟨false,g.drop,fgK e.past g.marks⟩, ?_,⟨?_,h.drop,h.srt.filter _,fun k4=>by omega,fun _ x=>?_⟩,by simp only;have:=hfl e.past;omega⟩
    ·simp [cellF,k,u1]
    ·rw [hpt,←h.put,hput (by omega)]
     simp only [Bool.false_eq_true,false_or,false_iff]
     omega
    ·rw [hlv]
     show x∈fgK e.past g.marks↔_
     rw [hfm,h.liv (by omega)]
     exact⟨fun h9=> .inl ⟨h9.1,fun _=>h9.2⟩,fun h9=>h9.elim (fun h9=>⟨h9.1,h9.2 (by omega)⟩) fun h9=>by omega⟩
   ·exact hsame (by simp [cellF,k,u0,u1]) (fun _=>⟨by omega,by omega⟩) (fun h=>by omega) (fun h=>by omega)
  ·have nb:bK t.kind=1:=by rw [k];rfl
   have nk:kK t.kind=0:=by rw [k];rfl
   by_cases u1:u.1=1
   ·refine⟨⟨g.put,g.drop,insK g.marks (mkE t e u)⟩, ?_,⟨?_,h.drop,i1,fun k4=>by omega,fun _ x=>?_⟩,by simp [hil]⟩
    ·simp only [cellF,k,u1,true_and,or_true,if_true]
     rw [←k,←hmk,hadd]
    ·rw [hpt,h.put];exact⟨.inl,fun h=>h.elim id fun h=>by omega⟩
    ·rw [hlv]
     show x∈insK g.marks (mkE t e u)↔_
     rw [i2,h.liv (by omega)]
     exact⟨fun h9=>h9.elim (fun h9=> .inl ⟨h9,fun h=>by omega⟩) fun h9=> .inr ⟨by omega,h9⟩,fun h9=>h9.elim (fun h9=> .inl h9.1) fun h9=> .inr h9.2⟩
   by_cases u0:u.1=0
   ·refine⟨⟨true,false,fgK e.past g.marks⟩, ?_,⟨?_,rfl,h.srt.filter _,fun k4=>by omega,fun _ x=>?_⟩,by simp only;have:=hfl e.past;omega⟩
    ·simp [cellF,k,u0]
    ·rw [hpt];simp [k,u0]
    ·rw [hlv]
     show x∈fgK e.past g.marks↔_
     rw [hfm,h.liv (by omega)]
     exact⟨fun h9=> .inl ⟨h9.1,fun _=>h9.2⟩,fun h9=>h9.elim (fun h9=>⟨h9.1,h9.2 (by omega)⟩) fun h9=>by omega⟩
   ·exact hsame (by simp [cellF,k,u0,u1]) (fun _=>⟨by omega,by omega⟩) (fun h=>by omega) (fun _=>u0)
  ·have nb:bK t.kind=2:=by rw [k];rfl
   by_cases u2:u.1=2
   ·have hc:∀q,lastF g.marks (mkE t e u)=(0,q)→cellF e t (some u) g=(0,⟨g.put,g.drop,q⟩):=fun q hq=>by
     simp only [cellF,k,u2]
     rw [←k,←hmk,hq];simp [k]
    have hx:∀x,Asg m t i (P ++ [e]) x↔Asg m t i P x∨x=mkE t e u:=fun x=>by rw [asg_snoc,hu];simp [nb,u2]
    have hpp:g.put=true↔PutP m t i (P ++ [e]):=by rw [hpt,h.put];exact⟨.inl,fun h=>h.elim id fun h=>by omega⟩
    rcases h.four k with⟨h1,h2⟩|⟨x,h1,h2,h3⟩
    ·refine⟨⟨g.put,g.drop,[mkE t e u]⟩,hc _ ?_,⟨hpp,h.drop,by simp,fun _=> .inr ⟨_,rfl,(hx _).2 (.inr rfl),fun y hy=>?_⟩,fun h=>absurd k h⟩,by simp⟩
     ·rw [h1] at hadd ⊢
      rw [lastF,hadd]
      simp [insK,posK,idxN]
     ·rcases(hx y).1 hy with hy|rfl
      ·exact absurd hy (h2 y)
      ·exact fun h=>LtK_asymm _ _ h h
    ·by_cases hc2:cmp2 x (mkE t e u) < 0
     ·have hlt:LtK x (mkE t e u):=by have:=cmp2_neg.1 hc2;unfold LtK;omega
      refine⟨⟨g.put,g.drop,[mkE t e u]⟩,hc _ (by rw [h1,lastF,if_pos hc2]),⟨hpp,h.drop,by simp,fun _=> .inr ⟨_,rfl,(hx _).2 (.inr rfl),fun y hy h9=>?_⟩,fun h=>absurd k h⟩,by simp⟩
      rcases(hx y).1 hy with hy|rfl
      ·exact h3 y hy (hlt.trans h9)
      ·exact LtK_asymm _ _ h9 h9
     ·refine⟨⟨g.put,g.drop,[x]⟩,hc _ (by rw [h1,lastF,if_neg hc2]),⟨hpp,h.drop,by simp,fun _=> .inr ⟨x,rfl,(hx _).2 (.inl h2),fun y hy h9=>?_⟩,fun h=>absurd k h⟩,by simp⟩
      rcases(hx y).1 hy with hy|rfl
      ·exact h3 y hy h9
      ·obtain⟨p,hp,w,_,_,rfl⟩:=h2
       have a1:=hn.tm p hp
       rw [cmp2_neg] at hc2
       unfold LtK at h9
       simp only [mkE] at hc2 h9
       omega
   ·exact hsame (by simp [cellF,k,u2]) (fun h=>absurd k h) (fun _=>u2) (fun h=>by omega)
  ·have nb:bK t.kind=2:=by rw [k];rfl
   have nk:kK t.kind=2:=by rw [k];rfl
   by_cases u2:u.1=2
   ·have hno2:¬HasNm (fgK e.past g.marks) (mkE t e u):=fun⟨x,hx,hxn⟩=>hno ⟨x,((hfm _ _).1 hx).1,hxn⟩
    have hfl2:=hfl e.past
    have hadd2:addF (fgK e.past g.marks) (mkE t e u)=(0,insK (fgK e.past g.marks) (mkE t e u)):=by rw [addF,if_neg hno2,if_neg (by omega)]
    obtain⟨j1,j2⟩:=ins_lt (l:=fgK e.past g.marks) (h.srt.filter _) hno2
    refine⟨⟨g.put,g.drop,insK (fgK e.past g.marks) (mkE t e u)⟩, ?_,⟨?_,h.drop,j1,fun k4=>by omega,fun _ x=>?_⟩,by simp only [hil];omega⟩
    ·simp only [cellF,k,u2]
     rw [←k,←hmk,hadd2];simp [k]
    ·rw [hpt,h.put];exact⟨.inl,fun h=>h.elim id fun h=>by omega⟩
    ·rw [hlv]
     show x∈insK (fgK e.past g.marks) (mkE t e u)↔_
     rw [show x∈insK (fgK e.past g.marks) (mkE t e u)↔x∈fgK e.past g.marks∨x=mkE t e u from j2 x,hfm,h.liv (by omega)]
     exact⟨fun h9=>h9.elim (fun h9=> .inl ⟨h9.1,fun _=>h9.2⟩) fun h9=> .inr ⟨by omega,h9⟩,fun h9=>h9.elim (fun h9=> .inl ⟨h9.1,h9.2 (by omega)⟩) fun h9=> .inr h9.2⟩
   ·exact hsame (by simp [cellF,k,u2]) (fun _=>⟨by omega,by omega⟩) (fun h=>by omega) (fun h=>by omega)
def isSt(k:Int) : Prop:=k=2∨k=3
def FitU(m:ModS) : Prop:=∀a∈m.acts,∀u∈a.eff.updates,∀(i:Nat) t,u.2.1=i→(mrgF m)[i]?=some t→(isSt t.kind↔u.1=0∨u.1=1)∧(¬isSt t.kind→t.lo≤u.2.2∧u.2.2≤t.hi)
structure KnL (m:ModS) (P:List EvS) (l:List MgS):Prop where
 len:l.length=(mrgF m).length
 kn:∀(i:Nat) t g,(mrgF m)[i]?=some t→l[i]?=some g→Kn m t i P g∧g.marks.length≤P.length
theorem kd_of{m:ModS}(hm:LayOK m.sorts m.tables){i:Nat}{t:TblS}(ht:(mrgF m)[i]?=some t) : Kd t:=by
 have:=kindM hm t (zM ht)
 unfold Kd;omega
theorem updE_mem{m:ModS}{e:EvS}{i:Nat}{u:UpS}(h:updE m e i=some u) :∃a∈m.acts,u∈a.eff.updates∧u.2.1=i:=by
 unfold updE at h
 split at h
 ·have h1:=List.mem_of_find?_eq_some h
  have h2:=List.find?_some h
  have h2:u.2.1=(i:Int):=by simpa using h2
  rw [List.mem_reverse] at h1
  unfold usF at h1
  cases ha:m.acts[e.action.toNat]? with
  | none=>rw [ha] at h1;cases h1
  | some a=>rw [ha] at h1;exact⟨a,zM ha,h1,h2⟩
 ·cases h
theorem Kn.valG{m:ModS}{t:TblS}{i:Nat}{P:List EvS}{g:MgS}(hf:FitU m)(ht:(mrgF m)[i]?=some t)(_hk:Kd t)(hu:UniqP P)(hP:∀e∈P,FormedE e)(h:Kn m t i P g)(hl:g.marks.length≤1024) : ValG t g:=by
 refine⟨⟨fun h9=>?_,fun h9=>?_,fun h9=>?_,hl⟩,fun j x hj hx=>⟨?_,fun q y hq hy hn=>?_,fun y hq hy h9=>?_⟩⟩
 ·rw [h.drop] at h9;cases h9
 ·have:=(h.put.1 h9.1).1
  have:=h9.2
  unfold isReg at this;omega
 ·rcases h.four h9.1 with⟨h1,_⟩|⟨x,h1,_⟩
  ·rw [h1] at h9;simp at h9
  ·rw [h1] at h9;simp at h9
 ·obtain⟨e,he,u,h1,h2,rfl⟩:=h.mem (zM hx)
  obtain⟨f1,f2,⟨y,f3,f4⟩,f5,f6,f7⟩:=hP e he
  have hlen:=(zS.1 f3).1
  have:=f1.1 y (zM f3)
  have:=f1.2
  unfold rngK at *
  unfold Btw at f6
  obtain⟨a,ha,hua,hui⟩:=updE_mem h1
  have hfit:=hf a ha u hua i t hui ht
  refine⟨by simp only [mkE];omega,by simp only [mkE];omega,by simp only [mkE];omega, ?_⟩
  simp only [mkE,lowT,highT]
  by_cases hr:isReg t.kind
  ·rw [if_pos hr,if_pos hr,if_pos hr]
   exact hfit.2 (by unfold isReg at hr;unfold isSt;omega)
  ·rw [if_neg hr,if_neg hr,if_neg hr];omega
 ·have h1:=h.mem (zM hx)
  have h2:=h.mem (zM hy)
  have:=asg_nm hu h2 h1 hn
  subst this
  obtain⟨j1,rfl⟩:=zS.1 hx
  obtain⟨q1,hq2⟩:=zS.1 hy
  have:=List.pairwise_iff_getElem.1 h.srt q j q1 j1 hq
  rw [hq2] at this
  exact LtK_asymm _ _ this this
 ·obtain⟨j1,rfl⟩:=zS.1 hx
  obtain⟨q1,rfl⟩:=zS.1 hy
  exact LtK_asymm _ _ h9 (List.pairwise_iff_getElem.1 h.srt (j - 1) j q1 j1 (by omega))
theorem KnL.valL{m:ModS}{P:List EvS}{l:List MgS}(hm:LayOK m.sorts m.tables)(hf:FitU m)(hu:UniqP P)(hP:∀e∈P,FormedE e)(hl:P.length≤1024)(h:KnL m P l) : ValL (mrgF m) l :=
 ⟨h.len.symm,fun i t g ht hg=>(h.kn i t g ht hg).1.valG hf ht (kd_of hm ht) hu hP (by have:=(h.kn i t g ht hg).2;omega)⟩
theorem KnL.nil(m:ModS) : KnL m [] (List.replicate (mrgF m).length mg0):=by
 refine⟨by simp,fun i t g _ hg=>?_⟩
 have:g=mg0:=(List.mem_replicate.1 (zM hg)).2
 subst this
 exact⟨⟨by simp [mg0,PutP],rfl, .nil,fun _=> .inl ⟨rfl,fun x ⟨e,he,_⟩=>by cases he⟩,fun _ x=>by simp [mg0,Liv]⟩,by simp [mg0]⟩
theorem apply_step{m:ModS}{P:List EvS}{l:List MgS}{e:EvS}(hm:LayOK m.sorts m.tables)(hv:ValL (mrgF m) l)(hl:P.length < 1024)(h:KnL m P l)(he:EvV m (e.past.length:Nat) e)(hn:Nxt P e) :
  ∃l',applyF m l e=(0,l')∧KnL m (P ++ [e]) l'∧∀(i:Nat) t g,(mrgF m)[i]?=some t→l[i]?=some g→l'[i]?=some (cellF e t (updE m e i) g).2:=by
 have hstep:∀(i:Nat) t g,(mrgF m)[i]?=some t→l[i]?=some g→∃g',cellF e t (updE m e i) g=(0,g')∧Kn m t i (P ++ [e]) g'∧g'.marks.length≤g.marks.length+1:=fun i t g ht hg =>
  cell_step (kd_of hm ht) (h.kn i t g ht hg).1 (by have:=(h.kn i t g ht hg).2;omega) hn
 by_cases hk:e.kind=0
 ·have hup:∀i:Nat,updE m e i=updF (usF m e) i:=fun i=>if_pos hk
  have hat:∀(i:Nat) t g,(mrgF m)[i]?=some t→l[i]?=some g→(cellsF (mrgF m) l (usF m e) e)[i]?=some (cellF e t (updE m e i) g):=fun i t g ht hg=>by rw [hup];exact cellsF_at ht hg
  have hall:∀p∈cellsF (mrgF m) l (usF m e) e,p.1=0:=fun p hp=>by
   obtain⟨i,hi⟩:=zO hp
   have hil:=(zS.1 hi).1
   rw [cellsF_len] at hil
   obtain⟨g,hg⟩:=get_of hil
   obtain⟨t,ht⟩:=get_of (l:=mrgF m) (i:=i) (by rw [←h.len];exact hil)
   obtain⟨g',h1,_⟩:=hstep i t g ht hg
   rw [hat i t g ht hg,h1] at hi
   cases hi;rfl
  refine⟨(cellsF (mrgF m) l (usF m e) e).map (·.2), ?_,⟨by rw [List.length_map,cellsF_len,h.len],fun i t g' ht hg'=>?_⟩,fun i t g ht hg=>by rw [zG,hat i t g ht hg];rfl⟩
  ·rw [applyF,if_neg (fun h9=>h9 ⟨hv,he⟩),if_neg (fun h9=>h9 hk),gather_end (fun p hp=> .inl (hall p hp)),if_neg]
   rintro⟨p,hp,h8⟩
   rw [hall p hp] at h8;cases h8
  ·obtain⟨g,hg⟩:=get_of (l:=l) (i:=i) (by rw [h.len];exact(zS.1 ht).1)
   obtain⟨g2,h1,h2,h3⟩:=hstep i t g ht hg
   rw [zG,hat i t g ht hg,h1] at hg'
   cases hg'
   have:=(h.kn i t g ht hg).2
   exact⟨h2,by simp;omega⟩
 ·have hup:∀i:Nat,updE m e i=none:=fun i=>if_neg hk
  refine⟨l,by rw [applyF,if_neg (fun h9=>h9 ⟨hv,he⟩),if_pos hk],⟨h.len,fun i t g ht hg=>?_⟩,fun i t g ht hg=>by rw [hup];exact hg⟩
  obtain⟨g2,h1,h2,h3⟩:=hstep i t g ht hg
  rw [hup] at h1
  have e1:g=g2:=congrArg Prod.snd h1
  subst e1
  have:=(h.kn i t g ht hg).2
  exact⟨h2,by simp;omega⟩
/-! ### Closed lists -/
theorem uniqP_of{l:List EvS}(h:Uniq l) : UniqP l:=fun a ha b hb h1 h2=>h.eq ha hb (by rw [nm,nm,h1,h2])
theorem has_self{e:EvS}(h:FormedE e) :¬HasC e.past e.rep e.num:=by
 obtain⟨_,_,⟨x,h1,h2⟩,_⟩:=h
 rintro⟨_,_,_,y,h3,h4⟩
 rw [h1] at h3;cases h3;omega
theorem closed_past{l:List EvS}(h:ClosedE l){e d:EvS}(hd:d∈l)(he:e∈l)(hh:HasC d.past e.rep e.num) : e.time < d.time∧Cont e.past d.past:=by
 obtain⟨h1,h2,h3,x,h4,h5⟩:=hh
 obtain⟨y,hy,g1,g2,g3,g4⟩:=h.2.2.2 d hd e.rep.toNat x h4 e.num h3 h5
 have:y=e:=uniqP_of h.2.1 y hy e he (by omega) g2
 subst this
 exact⟨g4,g3⟩
theorem has_of_lt{l:List EvS}(h:ClosedE l){e d:EvS}(hd:d∈l)(he:e∈l)(hr:e.rep=d.rep)(hn:e.num < d.num) : HasC d.past e.rep e.num:=by
 obtain⟨f1,f2,⟨x,f3,f4⟩,_⟩:=(h.2.2.1 d hd).1
 obtain⟨g1,g2,⟨y,g3,g4⟩,_⟩:=(h.2.2.1 e he).1
 have:=g1.1 y (zM g3)
 unfold rngK at this
 exact⟨f1,by omega,by omega,x,by rw [hr];exact f3,by omega⟩
theorem zipC_at{op:Int→Int→Int}{a b:List Int}(_h:a.length=b.length){i:Nat}{z:Int} : (zipC op a b)[i]?=some z↔∃x y,a[i]?=some x∧b[i]?=some y∧z=op x y:=by
 unfold zipC
 rw [List.getElem?_zipWith]
 constructor
 ·intro h9
  cases ha:a[i]? with
  | none=>rw [ha] at h9;simp at h9
  | some x =>
   cases hb:b[i]? with
   | none=>rw [ha,hb] at h9;simp at h9
   | some y=>rw [ha,hb] at h9;simp at h9;exact⟨x,y,rfl,rfl,h9.symm⟩
 ·rintro⟨x,y,ha,hb,rfl⟩
  rw [ha,hb]
theorem zipC_val{op:Int→Int→Int}{a b:List Int}(ha:ValC a)(hb:ValC b)(h:a.length=b.length)(hop:∀x y,rngK x→rngK y→rngK (op x y)) : ValC (zipC op a b):=by
 refine⟨fun z hz=>?_, ?_⟩
 ·obtain⟨i,hi⟩:=zO hz
  obtain⟨x,y,h1,h2,rfl⟩:=(zipC_at h).1 hi
  exact hop x y (ha.1 x (zM h1)) (hb.1 y (zM h2))
 ·rw [zipC_len h];exact ha.2
theorem rng_max(x y:Int)(hx:rngK x)(hy:rngK y) : rngK (max x y):=by unfold rngK at *;omega
theorem clkE_val{n:Nat}(hn:1≤n∧n≤5){l:List EvS}(hl:∀e∈l,rngK e.num) : ValC (clkE n l):=by
 have key:∀(l:List EvS) (c:List Int),(∀e∈l,rngK e.num)→(∀x∈c,rngK x)→∀x∈l.foldl (fun c e=>c.set e.rep.toNat (max (c[e.rep.toNat]?.getD 0) e.num)) c,rngK x:=by
  intro l
  induction l with
  | nil=>exact fun c _ h=>h
  | cons e l ih =>
   intro c h1 h2
   rw [List.foldl_cons]
   refine ih _ (fun d hd=>h1 d (List.mem_cons_of_mem _ hd)) fun x hx=>?_
   rcases List.mem_or_eq_of_mem_set hx with h|rfl
   ·exact h2 x h
   ·have h3:=h1 e (by simp)
    have h4:rngK (c[e.rep.toNat]?.getD 0):=by
     cases hc:c[e.rep.toNat]? with
     | none=>simp [rngK]
     | some y=>exact h2 y (zM hc)
    exact rng_max _ _ h4 h3
 refine⟨key l _ hl fun x hx=>?_,by rw [clkE_len];omega⟩
 rw [(List.mem_replicate.1 hx).2];simp [rngK]
theorem formed_num{e:EvS}(h:FormedE e) : rngK e.num:=by
 obtain⟨f1,_,⟨x,f3,f4⟩,f5,_⟩:=h
 have:=f1.1 x (zM f3)
 unfold rngK at *;omega
theorem has_ins{a b:List Int}(hb:ValC b)(h:Ins a b)(hl:a.length≤b.length){r n:Int}(hh:HasC a r n) : HasC b r n:=by
 obtain⟨_,h2,h3,x,hx,h5⟩:=hh
 obtain⟨y,hy⟩:=get_of (l:=b) (i:=r.toNat) (by have:=(zS.1 hx).1;omega)
 exact⟨hb,h2,h3,y,hy,by have:=h _ x y hx hy;omega⟩
def SuitE(m:ModS)(l:List EvS) : Prop:=MOK m∧FewV l∧ClosedE l∧FitU m∧∀e∈l,EvV m (n0 l:Nat) e
theorem ordE_len(l:List EvS) : (ordE l).length=l.length:=(ordE_perm l).length_eq.symm
theorem uniqP_sub{l X:List EvS}(h:UniqP l)(hX:∀e∈X,e∈l) : UniqP X:=fun a ha b hb=>h a (hX a ha) b (hX b hb)
/-! ### The clock of events -/
theorem clk_key{n:Nat} :∀(A:List EvS) (c:List Int),c.length=n→(∀x∈c,0≤x)→(∀a∈A,a.rep.toNat < n∧0≤a.num)→∀q,q < n→
  ∃y,(A.foldl (fun c e=>c.set e.rep.toNat (max (c[e.rep.toNat]?.getD 0) e.num)) c)[q]?=some y∧0≤y∧∀k,1≤k→(k≤y↔(∃z,c[q]?=some z∧k≤z)∨∃a∈A,a.rep.toNat=q∧k≤a.num):=by
 intro A
 induction A with
 | nil =>
  intro c hc h0 _ q hq
  obtain⟨z,hz⟩:=get_of (l:=c) (i:=q) (by omega)
  exact⟨z,hz,h0 z (zM hz),fun k _=>by simp [hz]⟩
 | cons a A ih =>
  intro c hc h0 hA q hq
  obtain⟨h1,h2⟩:=hA a (by simp)
  obtain⟨u,hu⟩:=get_of (l:=c) (i:=a.rep.toNat) (by omega)
  have hu0:=h0 u (zM hu)
  rw [List.foldl_cons]
  obtain⟨y,e1,e2,e3⟩:=ih (c.set a.rep.toNat (max (c[a.rep.toNat]?.getD 0) a.num)) (by rw [zY];exact hc) (fun x hx=>by
   rcases List.mem_or_eq_of_mem_set hx with h|h
   ·exact h0 x h
   ·rw [h,hu,Option.getD_some];omega) (fun b hb=>hA b (List.mem_cons_of_mem _ hb)) q hq
  refine⟨y,e1,e2,fun k hk=>(e3 k hk).trans ?_⟩
  rw [List.getElem?_set]
  by_cases hqa:a.rep.toNat=q
  ·subst hqa
   rw [if_pos rfl,if_pos (by omega),hu,Option.getD_some]
   constructor
   ·rintro(⟨z,hz,hkz⟩|⟨b,hb,hb1,hb2⟩)
    ·cases hz
     by_cases hku:k≤u
     ·exact .inl ⟨u,rfl,hku⟩
     ·exact .inr ⟨a,by simp,rfl,by omega⟩
    ·exact .inr ⟨b,List.mem_cons_of_mem _ hb,hb1,hb2⟩
   ·rintro(⟨z,hz,hkz⟩|⟨b,hb,hb1,hb2⟩)
    ·cases hz;exact .inl ⟨_,rfl,by omega⟩
    ·rcases List.mem_cons.1 hb with rfl|hb
     ·exact .inl ⟨_,rfl,by omega⟩
     ·exact .inr ⟨b,hb,hb1,hb2⟩
  ·rw [if_neg hqa]
   constructor
   ·rintro(h|⟨b,hb,hb1,hb2⟩)
    ·exact .inl h
    ·exact .inr ⟨b,List.mem_cons_of_mem _ hb,hb1,hb2⟩
   ·rintro(h|⟨b,hb,hb1,hb2⟩)
    ·exact .inl h
    ·rcases List.mem_cons.1 hb with rfl|hb
     ·exact absurd hb1 hqa
     ·exact .inr ⟨b,hb,hb1,hb2⟩
structure Cau (l A:List EvS):Prop where
 sub:∀a∈A,a∈l
 cls:∀a∈A,∀d∈l,HasC a.past d.rep d.num→d∈A
theorem formed_rep{e:EvS}(h:FormedE e) : 0≤e.rep∧e.rep.toNat < e.past.length∧1≤e.num:=by
 obtain⟨f1,f2,⟨x,f3,f4⟩,_⟩:=h
 have:=f1.1 x (zM f3)
 unfold rngK at this
 exact⟨f2,(zS.1 f3).1,by omega⟩
theorem n0_rng{l:List EvS}(hc:ClosedE l){e:EvS}(he:e∈l) : 1≤n0 l∧n0 l≤5:=by
 have h:=hc.2.2.1 e he
 rw [←h.2];exact h.1.1.2
theorem clkE_at{l A:List EvS}(hc:ClosedE l)(hA:∀a∈A,a∈l){q:Nat}(hq:q < n0 l) :∃y,(clkE (n0 l) A)[q]?=some y∧0≤y∧∀k,1≤k→(k≤y↔∃a∈A,a.rep.toNat=q∧k≤a.num):=by
 obtain⟨y,h1,h2,h3⟩:=clk_key (n:=n0 l) A (List.replicate (n0 l) 0) (by simp) (fun x hx=>by rw [(List.mem_replicate.1 hx).2];exact Int.le_refl 0) (fun a ha=>by
  have hf:=hc.2.2.1 a (hA a ha)
  have:=formed_rep hf.1
  rw [hf.2] at this
  exact⟨this.2.1,by omega⟩) q hq
 refine⟨y,h1,h2,fun k hk=>(h3 k hk).trans ⟨fun h=>h.elim (fun⟨z,hz,hkz⟩=>?_) id, .inr⟩⟩
 rw [List.getElem?_replicate,if_pos hq] at hz
 cases hz;omega
theorem clk_valC{l A:List EvS}(hc:ClosedE l)(hA:∀a∈A,a∈l)(hn:1≤n0 l∧n0 l≤5) : ValC (clkE (n0 l) A):=clkE_val hn fun e he=>formed_num (hc.2.2.1 e (hA e he)).1
theorem clk_has{l A:List EvS}(hc:ClosedE l)(hA:Cau l A){e:EvS}(he:e∈l) : HasC (clkE (n0 l) A) e.rep e.num↔e∈A:=by
 have hf:=hc.2.2.1 e he
 have hr:=formed_rep hf.1
 rw [hf.2] at hr
 obtain⟨y,h1,h2,h3⟩:=clkE_at hc hA.sub hr.2.1
 constructor
 ·rintro⟨_,_,_,x,hx,hnx⟩
  rw [h1] at hx;cases hx
  obtain⟨a,ha,ha1,ha2⟩:=(h3 e.num hr.2.2).1 hnx
  have hfa:=formed_rep (hc.2.2.1 a (hA.sub a ha)).1
  have har:e.rep=a.rep:=by omega
  by_cases hlt:e.num < a.num
  ·exact hA.cls a ha e he (has_of_lt hc (hA.sub a ha) he har hlt)
  ·have:=uniqP_of hc.2.1 e he a (hA.sub a ha) har (by omega)
   rw [this];exact ha
 ·intro h
  exact⟨clk_valC hc hA.sub (n0_rng hc he),hr.1,hr.2.2,y,h1,(h3 e.num hr.2.2).2 ⟨e,h,rfl,Int.le_refl _⟩⟩
theorem clk_ins{l A:List EvS}(hc:ClosedE l)(hA:Cau l A){e:EvS}(he:e∈l)(hp:∀d∈l,HasC e.past d.rep d.num→d∈A) : Ins e.past (clkE (n0 l) A):=fun i x y hx hy=>by
 have hf:=hc.2.2.1 e he
 have hil:=(zS.1 hx).1
 obtain⟨z,h1,h2,h3⟩:=clkE_at hc hA.sub (q:=i) (by rw [←hf.2];exact hil)
 rw [hy] at h1;cases h1
 by_cases hx1:1≤x
 ·obtain⟨d,hd,g1,g2,_,_⟩:=hc.2.2.2 e he i x hx x hx1 (Int.le_refl _)
  have hdA:=hp d hd ⟨hf.1.1,by omega,by omega,x,by rw [g1];simpa using hx,by omega⟩
  exact(h3 x hx1).2 ⟨d,hdA,by omega,by omega⟩
 ·omega
/-! ### States -/
theorem add1_len(s:List Int)(p:Int×Int) : (add1 s p).length=s.length:=by simp [add1]
theorem addD_len(d:List (Int×Int)) :∀s:List Int,(addD s d).length=s.length:=by
 induction d with
 | nil=>intro s;rfl
 | cons p d ih=>intro s;rw [addD,List.foldl_cons];exact(ih _).trans (add1_len s p)
theorem addE_len(m:ModS)(s:List Int)(e:EvS) : (addE m s e).length=s.length:=by
 unfold addE;split
 ·exact addD_len _ s
 ·rfl
theorem wrap_id{x:Int}(h: -9223372036854775808≤x∧x≤9223372036854775807) : IntKind.i64.wrap x=x:=by rw [IntKind.wrap_i64];omega
theorem addD_bnd(d:List (Int×Int)) :∀(s:List Int) (B:Int),0≤B→B+1000 * d.length≤1000000000→(∀x∈s,-B≤x∧x≤B)→(∀p∈d,-1000≤p.2∧p.2≤1000)→∀x∈addD s d,-(B+1000 * d.length)≤x∧x≤B+1000 * d.length:=by
 induction d with
 | nil=>intro s B _ _ h _ x hx;have:=h x hx;simp only [List.length_nil];omega
 | cons p d ih =>
  intro s B hB hb h hd x hx
  simp only [List.length_cons] at hb ⊢
  have hp:=hd p (by simp)
  have h1:∀x∈add1 s p,-(B+1000)≤x∧x≤B+1000:=fun x hx=>by
   rcases List.mem_or_eq_of_mem_set hx with h9|h9
   ·have:=h x h9;omega
   ·have h0: -B≤s[p.1.toNat]?.getD 0∧s[p.1.toNat]?.getD 0≤B:=by
     cases hs:s[p.1.toNat]? with
     | none=>simp only [Option.getD_none];omega
     | some z=>exact h z (zM hs)
    rw [h9,wrap_id (by omega)]
    omega
  have:=ih (add1 s p) (B+1000) (by omega) (by omega) h1 (fun q hq=>hd q (List.mem_cons_of_mem _ hq)) x hx
  omega
def SmD(m:ModS) : Prop:=∀a∈m.acts,a.eff.delta.length≤128∧∀p∈a.eff.delta,-1000≤p.2∧p.2≤1000
theorem dlt_sm{m:ModS}(h:SmD m)(e:EvS) : (dltF m e).length≤128∧∀p∈dltF m e,-1000≤p.2∧p.2≤1000:=by
 unfold dltF
 cases ha:m.acts[e.action.toNat]? with
 | none=>simp
 | some a=>exact h a (zM ha)
theorem addE_bnd{m:ModS}(h:SmD m)(e:EvS){s:List Int}{k:Nat}(hk:k≤1000)(hs:∀x∈s,-(1000+128000 * (k:Int))≤x∧x≤1000+128000 * (k:Int)) :∀x∈addE m s e,-(1000+128000 * ((k+1:Nat):Int))≤x∧x≤1000+128000 * ((k+1:Nat):Int):=by
 intro x hx
 unfold addE at hx
 split at hx
 ·obtain⟨d1,d2⟩:=dlt_sm h e
  have:=addD_bnd (dltF m e) s (1000+128000 * (k:Int)) (by omega) (by omega) hs d2 x hx
  omega
 ·have:=hs x hx;omega
structure StoA (m:ModS) (l:List EvS) (ld:List Int) (A:List EvS) (w:NowS):Prop where
 clock:w.clock=clkE (n0 l) A
 time:w.time=A.foldl (fun t e=>max t e.time) 0
 state:w.state=A.foldl (addE m) ld
 merged:KnL m A w.merged
 places:w.places=A.foldl plE []
theorem sto_bnd{m:ModS}(h:SmD m){ld:List Int}(hl:∀x∈ld,-1000≤x∧x≤1000) :∀(A:List EvS),A.length≤1000→∀x∈A.foldl (addE m) ld,-(1000+128000 * (A.length:Int))≤x∧x≤1000+128000 * (A.length:Int):=by
 have key:∀(A:List EvS),A.reverse.length≤1000→∀x∈A.reverse.foldl (addE m) ld,-(1000+128000 * (A.reverse.length:Int))≤x∧x≤1000+128000 * (A.reverse.length:Int):=by
  intro A
  induction A with
  | nil=>intro _ x hx;have:=hl x hx;simp;omega
  | cons e A ih =>
   intro hA x hx
   rw [List.reverse_cons,List.foldl_append] at hx
   rw [List.length_reverse,List.length_cons] at hA
   have h2:=addE_bnd h e (k:=A.reverse.length) (by simp;omega) (ih (by simp;omega)) x hx
   simpa using h2
 intro A hA
 have:=key A.reverse (by simpa using hA)
 simpa using this
theorem nxt_cau{l A:List EvS}(hc:ClosedE l)(hA:Cau l A){e:EvS}(he:e∈l)(hn:e ∉ A) : Nxt A e:=by
 have hu:=uniqP_of hc.2.1
 refine⟨fun p hp ⟨h1,h2⟩=>hn ?_,fun p hp hh=>hn (hA.cls p hp e he hh),fun p hp ⟨h1,h2⟩=>?_,has_self (hc.2.2.1 e he).1⟩
 ·rw [←hu p (hA.sub p hp) e he h1 h2];exact hp
 ·rcases Int.lt_trichotomy p.num e.num with h|h|h
  ·have:=(closed_past hc he (hA.sub p hp) (has_of_lt hc he (hA.sub p hp) h2 h)).1
   omega
  ·exact hn (by rw [←hu p (hA.sub p hp) e he h2 h];exact hp)
  ·exact hn (hA.cls p hp e he (has_of_lt hc (hA.sub p hp) he h2.symm h))
theorem deliver_ok{m:ModS}{l A:List EvS}{ld:List Int}{w:NowS}{e:EvS}(hs:SuitE m l)(_hl:l.length≤100)(hd:SmD m)(hld:∀x∈ld,-1000≤x∧x≤1000)(hw:StoA m l ld A w)(hAl:A.length≤100)(hA:Cau l A)(he:e∈l)(hn:e ∉ A)(hp:∀d∈l,HasC e.past d.rep d.num→d∈A) :
  ∃w',deliverF m A w e=(0,w')∧StoA m l ld (A ++ [e]) w':=by
 obtain⟨hm,hfw,hc,hf,hv⟩:=hs
 have hnx:=nxt_cau hc hA he hn
 have hu:UniqP A:=uniqP_sub (uniqP_of hc.2.1) hA.sub
 have hval:=hw.merged.valL hm.lay hf hu (fun x hx=>(hc.2.2.1 x (hA.sub x hx)).1) (by omega)
 have hpl:e.past.length=n0 l:=(hc.2.2.1 e he).2
 have hev:EvV m (e.past.length:Nat) e:=by rw [hpl];exact hv e he
 obtain⟨k',a1,a2,-⟩:=apply_step hm.lay hval (by omega) hw.merged hev hnx
 have hclen:w.clock.length=n0 l:=by rw [hw.clock,clkE_len]
 have hb:=addE_bnd hd e (k:=A.length) (by omega) (sto_bnd hd hld A (by omega))
 have h1:EvV m (w.clock.length:Nat) e:=by rw [hclen];exact hv e he
 have h2:¬HasC w.clock e.rep e.num:=by rw [hw.clock];exact fun h=>hn ((clk_has hc hA he).1 h)
 have h3:Ins e.past w.clock:=by rw [hw.clock];exact clk_ins hc hA he hp
 have h4:¬LateE A e:=fun⟨x,hx,hh,ht⟩=>by
  have:=(closed_past hc he (hA.sub x hx) hh).1
  omega
 have h5:¬(e.kind=0∧¬insS (addE m w.state e)):=fun⟨_,h⟩=>h fun x hx=>by
  rw [hw.state] at hx
  have:=hb x hx
  omega
 have h6:¬(applyF m w.merged e).1≠0:=by rw [a1];exact fun h=>h rfl
 refine⟨⟨cntF w.clock e,max w.time e.time,addE m w.state e,k',plE w.places e⟩, ?_,⟨?_, ?_, ?_,a2, ?_⟩⟩
 ·rw [deliverF,if_neg (fun h=>h h1),if_neg h2,if_neg (fun h=>h h3),if_neg h4,if_neg h5,if_neg h6,a1]
 ·simp only [hw.clock,clkE,List.foldl_append,cntF];rfl
 ·simp only [hw.time,List.foldl_append];rfl
 ·simp only [hw.state,List.foldl_append];rfl
 ·simp only [hw.places,List.foldl_append];rfl
structure ExtO (l X:List EvS):Prop where
 sub:∀e∈X,e∈l
 nxt:∀(i:Nat) e,X[i]?=some e→e ∉ X.take i∧∀d∈l,HasC e.past d.rep d.num→d∈X.take i
theorem ExtO.nil(l:List EvS) : ExtO l []:=⟨fun e h=>(by cases h),fun i e h=>by simp at h⟩
theorem ExtO.snoc{l X:List EvS}{e:EvS}(h:ExtO l X)(he:e∈l)(hn:e ∉ X)(hp:∀d∈l,HasC e.past d.rep d.num→d∈X) : ExtO l (X ++ [e]):=by
 refine⟨fun a ha=>(zV.1 ha).elim (h.sub a) fun ha=>by rw [zH.1 ha];exact he,fun i a ha=>?_⟩
 have hi:=(zS.1 ha).1
 rw [zP,List.length_singleton] at hi
 by_cases hx:i < X.length
 ·rw [zI hx] at ha
  rw [List.take_append_of_le_length (by omega)]
  exact h.nxt i a ha
 ·have:i=X.length:=by omega
  subst this
  rw [zJ (Nat.le_refl _),Nat.sub_self] at ha
  cases ha
  rw [List.take_left]
  exact⟨hn,hp⟩
theorem ExtO.cau{l X:List EvS}(h:ExtO l X)(i:Nat) : Cau l (X.take i):=by
 refine⟨fun a ha=>h.sub a (zW ha),fun a ha d hd hh=>?_⟩
 obtain⟨j,hj⟩:=zO ha
 rw [List.getElem?_take] at hj
 split at hj
 ·rename_i hji
  have:=(h.nxt j a hj).2 d hd hh
  rw [show X.take j=(X.take i).take j by rw [List.take_take,Nat.min_eq_left (by omega)]] at this
  exact zW this
 ·cases hj
theorem ExtO.all{l X:List EvS}(h:ExtO l X) : Cau l X:=by
 have:=h.cau X.length
 rwa [zL] at this
theorem sto0(m:ModS)(l:List EvS)(ld:List Int) : StoA m l ld [] ⟨List.replicate (n0 l) 0,0,ld,List.replicate (mrgF m).length mg0,[]⟩:=⟨rfl,rfl,rfl,KnL.nil m,rfl⟩
theorem wrap_add{x p q:Int} : IntKind.i64.wrap (IntKind.i64.wrap (x+p)+q)=IntKind.i64.wrap (IntKind.i64.wrap (x+q)+p):=by
 simp only [IntKind.wrap_i64];omega
/-! ### Places -/
noncomputable def plL(l:List EvS) : List Int:=(l.filter fun e=>decide (0 < e.place)).map (·.place)
theorem withP_si{l s:List Int}{n:Int}(h:SI l s) : SI (l ++ [n]) (withP s n):=by
 unfold withP
 split
 ·rename_i hn;exact si_keep h hn
 ·rename_i hn
  refine⟨List.pairwise_append.2 ⟨h.1.filter _,List.pairwise_cons.2 ⟨fun y hy=>by simpa using(List.mem_filter.1 hy).2,h.1.filter _⟩,fun a ha b hb=>?_⟩,fun y=>?_⟩
  ·have ha:a < n:=by simpa using(List.mem_filter.1 ha).2
   rcases List.mem_cons.1 hb with rfl|hb
   ·exact ha
   ·have hb:n < b:=by simpa using(List.mem_filter.1 hb).2
    omega
  ·constructor
   ·intro h9
    rcases zV.1 h9 with h9|h9
    ·exact zV.2 (.inl ((h.2 y).1 (List.mem_filter.1 h9).1))
    ·rcases List.mem_cons.1 h9 with rfl|h9
     ·simp
     ·exact zV.2 (.inl ((h.2 y).1 (List.mem_filter.1 h9).1))
   ·intro h9
    rcases zV.1 h9 with h9|h9
    ·have hy:=(h.2 y).2 h9
     have hne:y≠n:=fun e=>hn (e▸hy)
     by_cases hlt:y < n
     ·exact zV.2 (.inl (List.mem_filter.2 ⟨hy,by simpa using hlt⟩))
     ·exact zV.2 (.inr (List.mem_cons.2 (.inr (List.mem_filter.2 ⟨hy,by simp only [decide_eq_true_eq];omega⟩))))
    ·rw [zH.1 h9];simp
theorem plE_si{l:List EvS} :∀{P:List Int} {s:List Int},SI P s→SI (P ++ plL l) (l.foldl plE s):=by
 induction l with
 | nil=>intro P s h;simpa [plL] using h
 | cons e l ih =>
  intro P s h
  rw [List.foldl_cons]
  by_cases he:0 < e.place
  ·have h1:=ih (withP_si (n:=e.place) h)
   rw [show plE s e=withP s e.place from if_pos he]
   rw [show P ++ plL (e :: l)=P ++ [e.place] ++ plL l by simp [plL,he]]
   exact h1
  ·rw [show plE s e=s from if_neg he]
   rw [show P ++ plL (e :: l)=P ++ plL l by simp [plL,he]]
   exact ih h
theorem places_srt(l:List EvS) : l.foldl plE []=srtD (plL l):=by
 have h:SI ([] ++ plL l) (l.foldl plE []):=plE_si ⟨List.Pairwise.nil,by simp⟩
 rw [List.nil_append] at h
 exact h.uniq (srtD_si _)
/-! ### What is made -/
/-! ### Closed parts -/
/-! ### Compaction -/
structure StoS where
 base:NowS
 evs:List EvS
 now:NowS
noncomputable def inL(c:List Int)(l:List EvS) : List EvS:=l.filter fun e=>decide (HasC c e.rep e.num)
noncomputable def outL(c:List Int)(l:List EvS) : List EvS:=l.filter fun e=>decide (¬HasC c e.rep e.num)
noncomputable def mrg1(m:ModS)(k:List MgS)(e:EvS) : List MgS:=(applyF m k e).2
noncomputable def cmp1(m:ModS)(b:NowS)(e:EvS) : NowS:=⟨b.clock,max b.time e.time,addE m b.state e,mrg1 m b.merged e,plE b.places e⟩
noncomputable def cmpB(m:ModS)(b:NowS)(c:List Int)(l:List EvS) : NowS:={ (inL c l).foldl (cmp1 m) b with clock:=c }
noncomputable def compactF(m:ModS)(s:StoS)(c:List Int) : Int×StoS :=
 @ite _ (¬(ValC c∧c.length=s.now.clock.length)) (zC _) (1,s)
  (@ite _ (¬(Ins s.base.clock c∧Ins c s.now.clock∧∀e∈s.evs,HasC c e.rep e.num→Ins e.past c)) (zC _) (9,s)
   (0,⟨cmpB m s.base c s.evs,outL c s.evs,{ s.now with merged:=(outL c s.evs).foldl (mrg1 m) (cmpB m s.base c s.evs).merged }⟩))
def BefE(a b:EvS) : Prop:=FormedE a∧FormedE b∧HasC b.past a.rep a.num
noncomputable instance (a b:EvS):Decidable (BefE a b):=zC _
theorem uniq_nodup{l:List EvS}(h:Uniq l) : l.Nodup:=by
 rw [List.nodup_iff_pairwise_ne,List.pairwise_iff_getElem]
 intro i j hi hj hij he
 have:=h i j _ _ (zE hi) (zE hj) (by rw [he])
 omega
theorem less32_p(a b:EvS) : CallP Tryz.prog 100 [evA' a,evA' b] (bl (decide (LtE a b))):=by
 refine CallA.of pg ordZ Tryz.func100 rfl Tryz.ntmps100 Tryz.results100 rfl fun h0 G0 O0=>?_
 repeat'(first|apply Sp.h|refine Lk.r rfl ?_|refine Rf.mk rfl ?_|apply Bd.mk|apply All.mk|refine xT ?_|refine xN ?_|intro _)
 all_goals exact Fin.p rfl (vb (by first|exact(zT (by unfold LtE;omega)).symm|exact(zF (by unfold LtE;omega)).symm|exact zD.2 (by unfold LtE;omega)))
theorem before32_p(a b:EvS) : CallP Tryz.prog 74 [evA' a,evA' b] (bl (decide (BefE a b))):=by
 have h1:=formedR_p a
 have h2:=formedR_p b
 have h3:=nameR_p a
 have h4:=hasR_p b.past a.rep a.num
 by_cases k1:FormedE a
 ·by_cases k2:FormedE b
  ·have:decide (BefE a b)=decide (HasC b.past a.rep a.num):=zD.2 ⟨fun h=>h.2.2,fun h=>⟨k1,k2,h⟩⟩
   rw [this]
   refine CallA.of pg ord74 Tryz.func74 rfl Tryz.ntmps74 Tryz.results74 rfl fun h0 G0 O0=>?_
   repeat'(first|apply Sp.h|refine Lk.r rfl ?_|refine Rf.mk rfl ?_|refine xA ?_|refine OpK.r rfl ?_|refine All.mk fun _=>?_|refine xT ?_|refine Ch.l ⟨rfl,rfl⟩ ?_|refine xN ?_|refine xD ?_|(apply Cl.p (h1);(focus((repeat'(first|exact Lend.nil|apply Lend.keep|apply Lend.agg|fail));done)))|(apply Cl.p (h2);(focus((repeat'(first|exact Lend.nil|apply Lend.keep|apply Lend.agg|fail));done)))|(apply Cl.p (h3);(focus((repeat'(first|exact Lend.nil|apply Lend.keep|apply Lend.agg|fail));done)))|(apply Cl.p (h4);(focus((repeat'(first|exact Lend.nil|apply Lend.keep|apply Lend.agg|fail));done))))
   all_goals exact Fin.p rfl rfl
  ·have:decide (BefE a b)=false:=zF fun h=>k2 h.2.1
   rw [this]
   refine CallA.of pg ord74 Tryz.func74 rfl Tryz.ntmps74 Tryz.results74 rfl fun h0 G0 O0=>?_
   repeat'(first|apply Sp.h|refine Lk.r rfl ?_|refine Rf.mk rfl ?_|refine xA ?_|refine xB ?_|refine OpK.r rfl ?_|refine All.mk fun _=>?_|refine xT ?_|refine Ch.l ⟨rfl,rfl⟩ ?_|refine xN ?_|refine xD ?_|(apply Cl.p (h1);(focus((repeat'(first|exact Lend.nil|apply Lend.keep|apply Lend.agg|fail));done)))|(apply Cl.p (h2);(focus((repeat'(first|exact Lend.nil|apply Lend.keep|apply Lend.agg|fail));done)))|(apply Cl.p (h3);(focus((repeat'(first|exact Lend.nil|apply Lend.keep|apply Lend.agg|fail));done)))|(apply Cl.p (h4);(focus((repeat'(first|exact Lend.nil|apply Lend.keep|apply Lend.agg|fail));done))))
   all_goals exact Fin.p rfl rfl
 ·have:decide (BefE a b)=false:=zF fun h=>k1 h.1
  rw [this]
  refine CallA.of pg ord74 Tryz.func74 rfl Tryz.ntmps74 Tryz.results74 rfl fun h0 G0 O0=>?_
  repeat'(first|apply Sp.h|refine Lk.r rfl ?_|refine Rf.mk rfl ?_|refine xB ?_|refine OpK.r rfl ?_|refine All.mk fun _=>?_|refine xT ?_|refine Ch.l ⟨rfl,rfl⟩ ?_|refine xN ?_|refine xD ?_|(apply Cl.p (h1);focus(repeat' constructor);done)|(apply Cl.p (h2);focus(repeat' constructor);done)|(apply Cl.p (h3);focus(repeat' constructor);done)|(apply Cl.p (h4);focus(repeat' constructor);done))
  all_goals exact Fin.p rfl rfl
theorem order32_o(l:List EvS)(hu:Uniq l)(hl:l.length≤100000) : CallO Tryz.prog 38 [evs l] 66 13 (ordE l) evC:=by
 refine CallA.of pg ord38 Tryz.func38 rfl Tryz.ntmps38 Tryz.results38 rfl fun h0 G0 O0=>?_
 repeat'(first|apply Sp.h|refine Lk.r rfl ?_|refine Rf.mk rfl ?_|apply All.mk|(apply Fk.r;focus repeat' first|infer_instance|constructor)|refine Rf.mk ⟨rfl,rfl,rfl⟩ ?_|intro _)
 rename_i v
 apply CA.retype (m:=([]:List EvS)) (g:=evC)
 focus(repeat constructor)
 focus rfl
 refine CA.loop (fun x:Nat×Value×List EvS=>⟨[(0,evs l),(3, .ow x.2.1),(4,it x.1)],[arrR x.2.1 66 13 x.2.2 evC]⟩) (fun x=>x.1≤l.length∧x.2.2.length=x.1∧(l.take x.1).Perm x.2.2∧SrtE x.2.2) (fun x=>l.length - x.1) (0,v,[]) xE ⟨zZ _,rfl,by simp,List.Pairwise.nil⟩ ?_
 rintro⟨i,w,s⟩ ⟨hi,hsl,hp,hs⟩
 simp only at hi hsl hp hs
 simp only
 by_cases hin:i < l.length
 ·obtain⟨x,hx⟩:=get_of hin
  have hsu:l.take (i+1)=l.take i ++ [x]:=by rw [zK,hx];rfl
  repeat'(first|apply Sp.h|refine Lk.r rfl ?_|refine Rf.mk rfl ?_|refine xA ?_|apply Im.mk|refine xU ?_|intro _)
  refine CA.loop (fun j:Nat=>⟨[(0,evs l),(3, .ow w),(4,it i),(5,it j)],[arrR w 66 13 s evC]⟩) (fun j=>j≤s.length∧∀y∈s.drop j,LtE x y) (fun j=>j) s.length ?_ ⟨Nat.le_refl _,by simp⟩ ?_
  ·exact xE
  rintro j ⟨hj,hlt⟩
  have fin:(∀m y,s.take j=m ++ [y]→¬LtE x y)→(l.take (i+1)).Perm (s.take j ++ x :: s.drop j)∧SrtE (s.take j ++ x :: s.drop j):=fun h=>by
   refine⟨?_,srt_ins (by rw [List.take_append_drop];exact hs) hlt h⟩
   rw [hsu]
   refine(hp.append_right [x]).trans ?_
   refine List.perm_append_comm.trans ?_
   rw [List.singleton_append]
   refine(List.Perm.cons x (by rw [List.take_append_drop]:s.Perm (s.take j ++ s.drop j))).trans ?_
   exact List.perm_middle.symm
  have he:s.take (j - 0) ++ [x] ++ ([] ++ (s.drop j).take (s.length - j))=s.take j ++ x :: s.drop j:=by
   rw [List.take_of_length_le (l:=s.drop j) (by simp)];simp
  by_cases hj0:j=0
  ·subst hj0
   obtain⟨f1,f2⟩:=fin (fun m y h=>by simp at h)
   repeat'(first|apply Sp.h|refine Lk.r rfl ?_|refine Rf.mk rfl ?_|refine xB ?_|refine OpK.r rfl ?_|refine xP ?_|apply All.mk|refine xU ?_|refine xI ?_|refine Ce.l rfl ?_|refine Ce.r ?_|refine Ch.l ⟨rfl,rfl⟩ ?_|(apply Fk.r;focus repeat' first|infer_instance|constructor)|refine Rf.mk ⟨rfl,rfl⟩ ?_|refine Rf.mk ⟨rfl,rfl,rfl⟩ ?_|(apply Jx.r;(focus exact rfl);(focus first|omega|(simp;done)|(simp;omega)))|refine Mp.same ?_|(apply Mp.lit;(focus repeat(first|exact MpL.nil|(apply MpL.cons;(focus rfl))|(apply MpL.inv;(focus repeat constructor);(focus infer_instance)))))|refine xD ?_|refine xO ?_|intro _)
   all_goals rw [he]
   all_goals exact PA.lp (i+1,_,s.take 0 ++ x :: s.drop 0) xE ⟨⟨hin,by simp;omega,f1,f2⟩,by simp only;omega⟩
  ·obtain⟨y,hy⟩:=get_of (l:=s) (i:=j - 1) (by omega)
   have hle:=less32_p x y
   have htj:s.take j=s.take (j - 1) ++ [y]:=by
    have:=zK (l:=s) (i:=j - 1)
    rw [show j - 1+1=j by omega,hy] at this
    exact this
   by_cases hxy:LtE x y
   ·repeat'(first|apply Sp.h|refine Lk.r rfl ?_|refine Rf.mk rfl ?_|refine xA ?_|refine OpK.r rfl ?_|refine xU ?_|refine xI ?_|(apply Ix.r;(focus assumption);(focus omega))|refine xJ ?_|refine Ch.l ⟨rfl,rfl⟩ ?_|refine xD ?_|refine xO ?_|(apply Cl.p (hle);focus repeat' constructor))
    rw [show((j:Int) - 1)=((j - 1:Nat):Int) by omega]
    refine PA.lp (j - 1) xE ⟨⟨by omega,fun z hz=>?_⟩,by omega⟩
    have hd:s.drop (j - 1)=y :: s.drop j:=by
     have h9:=List.drop_eq_getElem_cons (l:=s) (i:=j - 1) (by omega)
     rw [(zS.1 hy).2,show j - 1+1=j by omega] at h9
     exact h9
    rw [hd] at hz
    rcases List.mem_cons.1 hz with rfl|hz
    ·exact hxy
    ·exact hlt z hz
   ·obtain⟨f1,f2⟩:=fin (fun m z h=>by
     rw [htj] at h
     have:=List.append_inj_right' h rfl
     cases this;exact hxy)
    repeat'(first|apply Sp.h|refine Lk.r rfl ?_|refine Rf.mk rfl ?_|refine xA ?_|refine xB ?_|refine OpK.r rfl ?_|refine xP ?_|refine All.mk fun _=>?_|refine xU ?_|refine xI ?_|(apply Ix.r;(focus assumption);(focus omega))|refine xJ ?_|refine Ce.l rfl ?_|refine Ce.r ?_|refine Ch.l ⟨rfl,rfl⟩ ?_|(apply Fk.r;focus repeat' first|infer_instance|constructor)|refine Rf.mk ⟨rfl,rfl⟩ ?_|refine Rf.mk ⟨rfl,rfl,rfl⟩ ?_|(apply Jx.r;(focus exact rfl);(focus first|omega|(simp;done)|(simp;omega)))|refine Mp.same ?_|(apply Mp.lit;(focus repeat(first|exact MpL.nil|(apply MpL.cons;(focus rfl))|(apply MpL.inv;(focus repeat constructor);(focus infer_instance)))))|refine xD ?_|refine xO ?_|(apply Cl.p (hle);focus repeat' constructor))
    all_goals rw [he]
    all_goals exact PA.lp (i+1,_,s.take j ++ x :: s.drop j) xE ⟨⟨hin,by simp only [zP,List.length_cons,zN,List.length_drop];omega,f1,f2⟩,by simp only;omega⟩
 ·have hie:i=l.length:=by omega
  subst hie
  rw [zL] at hp
  have he:=ordE_uniq hu hp hs
  subst he
  repeat'(first|apply Sp.h|refine Lk.r rfl ?_|refine Rf.mk rfl ?_|refine xB ?_|apply Im.mk|refine xN ?_|intro _)
  exact⟨_,_, .one (.same (.z)),_,rfl,rfl⟩
theorem order32_p(l:List EvS)(hu:Uniq l)(hl:l.length≤100000) : CallP Tryz.prog 38 [evs l] (evs (ordE l)) :=
 CallA.fz (T:=66) (by rw [ordE_len];omega) (order32_o l hu hl)
abbrev u8s (l:List Int):AV:= .sl 1 l fun x=> [.val (.int .u8 x)]
structure SuitS (m:ModS) (ld:List Int) (l:List EvS):Prop where
 e:SuitE m l
 ne:0 < l.length
 ln:ld.length=strF m
 ld:∀x∈ld,-1000≤x∧x≤1000
 sm:∀a∈m.acts,∀p∈a.eff.delta,-1000≤p.2∧p.2≤1000
theorem SuitS.smd{m:ModS}{ld:List Int}{l:List EvS}(h:SuitS m ld l) : SmD m:=fun a ha=>⟨(h.e.1.eff a ha).dl,h.sm a ha⟩
noncomputable def stN(m:ModS)(n:Nat)(ld:List Int)(X:List EvS) : NowS:=⟨clkE n X,X.foldl (fun t e=>max t e.time) 0,X.foldl (addE m) ld,X.foldl (mrg1 m) (List.replicate (mrgF m).length mg0),X.foldl plE []⟩
theorem deliver_st{m:ModS}{evl:List EvS}{w:NowS}{e:EvS}(h:(deliverF m evl w e).1=0) : (deliverF m evl w e).2=⟨cntF w.clock e,max w.time e.time,addE m w.state e,(applyF m w.merged e).2,plE w.places e⟩:=by
 unfold deliverF at h ⊢
 repeat' split
 all_goals first
  | rfl
  | (exfalso;simp_all;done)
theorem deliver_ok'{m:ModS}{evl:List EvS}{w:NowS}{e:EvS}(h:(deliverF m evl w e).1=0) : ValL (mrgF m) w.merged∧EvV m (w.clock.length:Nat) e∧(applyF m w.merged e).1=0:=by
 have key:EvV m (w.clock.length:Nat) e∧(applyF m w.merged e).1=0:=by
  unfold deliverF at h
  repeat' split at h
  all_goals first
   | (exfalso;simp at h;done)
   | (rename_i h1 _ _ _ _ h6;exact⟨Classical.not_not.1 h1,Classical.not_not.1 h6⟩)
   | (rename_i h6;exact absurd h h6)
 exact⟨(applyF_ok key.2).1,key⟩
theorem stN_snoc(m:ModS)(n:Nat)(ld:List Int)(X:List EvS)(e:EvS) : stN m n ld (X ++ [e])=⟨cntF (stN m n ld X).clock e,max (stN m n ld X).time e.time,addE m (stN m n ld X).state e,(applyF m (stN m n ld X).merged e).2,plE (stN m n ld X).places e⟩:=by
 simp only [stN,clkE,List.foldl_append,List.foldl_cons,List.foldl_nil,cntF,mrg1]
theorem plL_len(l:List EvS) : (plL l).length≤l.length:=by unfold plL;rw [List.length_map];exact List.length_filter_le _ _
theorem foldE_len(m:ModS)(X:List EvS) :∀ld:List Int,(X.foldl (addE m) ld).length=ld.length:=by
 induction X with
 | nil=>exact fun _=>rfl
 | cons e X ih=>intro ld;rw [List.foldl_cons,ih,addE_len]
theorem stN_ok{m:ModS}{l X:List EvS}{ld:List Int}(hs:SuitS m ld l)(hX:∀e∈X,e∈l)(hl:X.length≤1000) : NowOK m (stN m (n0 l) ld X):=by
 obtain⟨e,he⟩:=get_of (l:=l) (i:=0) hs.ne
 have hr:=n0_rng hs.e.2.2.1 (zM he)
 refine⟨clk_valC hs.e.2.2.1 hX hr,by simp only [stN,foldE_len];exact hs.ln, ?_, ?_⟩
 ·simp only [stN,places_srt];exact(srtD_si _).1
 ·simp only [stN,places_srt]
  have:=srtD_len (plL X);have:=plL_len X
  omega
theorem fill_sto{m:ModS}{l X:List EvS}{ld:List Int}(hs:SuitS m ld l)(hl:X.length≤100)(hX:ExtO l X) :∀i,i≤X.length→StoA m l ld (X.take i) (stN m (n0 l) ld (X.take i))∧∀e,X[i]?=some e→deliverF m (X.take i) (stN m (n0 l) ld (X.take i)) e=(0,stN m (n0 l) ld (X.take (i+1))):=by
 have step:∀i e,X[i]?=some e→StoA m l ld (X.take i) (stN m (n0 l) ld (X.take i))→deliverF m (X.take i) (stN m (n0 l) ld (X.take i)) e=(0,stN m (n0 l) ld (X.take (i+1)))∧StoA m l ld (X.take (i+1)) (stN m (n0 l) ld (X.take (i+1))):=by
  intro i e he hst
  have hil:=(zS.1 he).1
  have hel:=hX.sub e (zM he)
  obtain⟨h1,h2⟩:=hX.nxt i e he
  obtain⟨w',d1,d2⟩:=deliver_ok hs.e (by have:=hs.e.2.1.1;omega) hs.smd hs.ld hst (by rw [zN];omega) (hX.cau i) hel h1 h2
  have hsu:X.take (i+1)=X.take i ++ [e]:=by rw [zK,he];rfl
  have hw:w'=stN m (n0 l) ld (X.take (i+1)):=by
   have:=deliver_st (m:=m) (evl:=X.take i) (w:=stN m (n0 l) ld (X.take i)) (e:=e) (by rw [d1])
   rw [d1] at this
   rw [hsu,stN_snoc]
   exact this
  rw [hw] at d1 d2
  rw [←hsu] at d2
  exact⟨d1,d2⟩
 intro i
 induction i with
 | zero =>
  intro _
  have h0:StoA m l ld (X.take 0) (stN m (n0 l) ld (X.take 0)):=sto0 m l ld
  exact⟨h0,fun e he=>(step 0 e he h0).1⟩
 | succ i ih =>
  intro hi
  obtain⟨e,he⟩:=get_of (l:=X) (i:=i) (by omega)
  have h1:=(step i e he (ih (by omega)).1).2
  exact⟨h1,fun d hd=>(step (i+1) d hd h1).1⟩
theorem insS_ld{ld:List Int}(h:∀x∈ld,-1000≤x∧x≤1000) : insS ld:=fun x hx=>by have:=h x hx;omega
def SzM(k:List MgS) : Prop:=k.length≤100000∧∀g∈k,g.marks.length≤1000000
theorem mrg1_sz{m:ModS}{k:List MgS}{e:EvS}(h:SzM k) : SzM (mrg1 m k e):=by
 unfold mrg1
 by_cases h0:(applyF m k e).1=0
 ·obtain⟨_,_,h3,_,h5⟩:=applyF_ok h0
  exact⟨by rw [h3];exact h.1,h5⟩
 ·have h2:(applyF m k e).2= []:=by
   unfold applyF at h0 ⊢
   split
   ·rfl
   ·rename_i h1
    rw [if_neg h1] at h0
    split
    ·rename_i h2;rw [if_pos h2] at h0;exact absurd rfl h0
    ·rename_i h2
     rw [if_neg h2] at h0
     unfold gatherF at h0 ⊢
     split
     ·rfl
     ·rename_i h3
      rw [h3] at h0
      simp only at h0
      split
      ·rfl
      ·rename_i h4;rw [if_neg h4] at h0;exact absurd rfl h0
  rw [h2]
  exact⟨by simp,by simp⟩
structure BasOK (m:ModS) (n:Nat) (b:NowS):Prop where
 clk:ValC b.clock
 len:b.clock.length=n
 st:b.state.length=strF m
 mg:SzM b.merged
 pls:SrtI b.places
 pll:b.places.length≤10000
theorem withP_srt{l:List Int}{n:Int}(h:SrtI l) : SrtI (withP l n):=(withP_si (l:=l) (s:=l) (n:=n) ⟨h,fun _=>Iff.rfl⟩).1
theorem withP_le{l:List Int}{n:Int}(h:SrtI l) : (withP l n).length≤l.length+1:=by
 by_cases hn:n∈l
 ·rw [show withP l n=l from if_pos hn];omega
 ·rw [with_eq h hn];simp;have:=idxN_le (fun y=>decide (¬y < n)) l;unfold posI;omega
theorem plE_srt{l:List Int}{e:EvS}(h:SrtI l) : SrtI (plE l e)∧(plE l e).length≤l.length+1:=by
 unfold plE
 split
 ·exact⟨withP_srt h,withP_le h⟩
 ·exact⟨h,by omega⟩
theorem inL_succ{c:List Int}{l:List EvS}{i:Nat}{e:EvS}(h:l[i]?=some e) : inL c (l.take (i+1))=inL c (l.take i) ++ if HasC c e.rep e.num then [e] else []:=by
 rw [inL,filter_succ h]
 by_cases hh:HasC c e.rep e.num <;> simp [hh,inL]
theorem outL_succ{c:List Int}{l:List EvS}{i:Nat}{e:EvS}(h:l[i]?=some e) : outL c (l.take (i+1))=outL c (l.take i) ++ if HasC c e.rep e.num then [] else [e]:=by
 rw [outL,filter_succ h]
 by_cases hh:HasC c e.rep e.num <;> simp [hh,outL]
structure MidOK (m:ModS) (b x:NowS) (i:Nat):Prop where
 ck:x.clock=b.clock
 st:x.state.length=strF m
 mg:SzM x.merged
 pls:SrtI x.places
 pll:x.places.length≤b.places.length+i
theorem mid_step{m:ModS}{b x:NowS}{i:Nat}{e:EvS}(h:MidOK m b x i) : MidOK m b (cmp1 m x e) (i+1) :=
 ⟨h.ck,by simp only [cmp1,addE_len];exact h.st,mrg1_sz h.mg,(plE_srt h.pls).1,by have:=(plE_srt (e:=e) h.pls).2;have:=h.pll;simp only [cmp1];omega⟩
theorem fits35_p(s:Nat)(m:ModS)(b:NowS)(v:Value)(w:NowS)(c:List Int) :
  CallA Tryz.prog 103 [pm s,ints c] [stoR s m b v w] fun r own=>r=bl (decide (ValC c∧c.length=w.clock.length))∧own= [stoR s m b v w]:=by
 have h:=validC_p c
 by_cases h1:ValC c
 ·rw [zT h1] at h
  refine CallA.of pg ordZ Tryz.func103 rfl Tryz.ntmps103 Tryz.results103 rfl fun h0 G0 O0=>?_
  repeat'(first|apply Sp.h|refine Lk.r rfl ?_|refine Rf.mk rfl ?_|refine Im.mk fun _=>?_|refine xT ?_|refine xN ?_|(apply Cl.p (h);focus repeat' constructor))
  refine⟨_,_, .one (.same (.z)),vb (zD.2 ⟨fun h=>⟨h1,by omega⟩,fun h=>by omega⟩),rfl⟩
 ·rw [zF h1] at h
  rw [zF (fun h9=>h1 h9.1)]
  refine CallA.of pg ordZ Tryz.func103 rfl Tryz.ntmps103 Tryz.results103 rfl fun h0 G0 O0=>?_
  repeat'(first|apply Sp.h|refine Lk.r rfl ?_|refine Rf.mk rfl ?_|refine xN ?_|(apply Cl.p (h);focus repeat' constructor))
  exact⟨_,_, .one (.same (.z)),rfl,rfl⟩
abbrev midC (x:NowS) (u:Value):List AV:= [ints x.clock,it x.time, .ow u,mgs x.merged,nl0,nl0,ints x.places]
theorem compact_a(s:Nat)(m:ModS)(b:NowS)(v:Value)(evl:List EvS)(w:NowS)(c:List Int)(hm:MOK m)(hw:NowOK m w)(hb:BasOK m w.clock.length b)(hl:evl.length≤1000)(hev:∀e∈evl,EvV m (w.clock.length:Nat) e) :
  CallA Tryz.prog 44 [pm s,ints c] [stoR s m b v w,arrR v 66 13 evl evC] fun r own=>r=it (compactF m ⟨b,evl,w⟩ c).1∧∃v',own= [stoR s m (compactF m ⟨b,evl,w⟩ c).2.base v' (compactF m ⟨b,evl,w⟩ c).2.now,arrR v' 66 13 (compactF m ⟨b,evl,w⟩ c).2.evs evC]:=by
 have hfi:=fits35_p s m b v w c
 have hstr:=hm.str
 by_cases h1:ValC c∧c.length=w.clock.length
 rotate_left
 ·have hF:compactF m ⟨b,evl,w⟩ c=(1,⟨b,evl,w⟩):=@if_pos _ (zC _) h1 _ _ _
  rw [hF]
  rw [zF h1] at hfi
  refine CallA.of pg ord44 Tryz.func44 rfl Tryz.ntmps44 Tryz.results44 rfl fun h0 G0 O0=>?_
  repeat'(first|apply Sp.h|refine Lk.r rfl ?_|refine Rf.mk rfl ?_|fail)
  refine xW (hfi) ?_
  rintro _ _ ⟨rfl,rfl⟩
  repeat'(first|apply Sp.h|refine Lk.r rfl ?_|refine Rf.mk rfl ?_|refine xB ?_|refine xN ?_|fail)
  exact⟨_,_, .one (.same (.z)),rfl,v,rfl⟩
 rw [zT h1] at hfi
 have hF9:¬(Ins b.clock c∧Ins c w.clock∧∀e∈evl,HasC c e.rep e.num→Ins e.past c)→compactF m ⟨b,evl,w⟩ c=(9,⟨b,evl,w⟩):=fun h =>
  (@if_neg _ (zC _) (fun h9=>h9 h1) _ _ _).trans (@if_pos _ (zC _) h _ _ _)
 have hm1:=missing_o c b.clock
 have hm2:=missing_o w.clock c
 have hbl:=hb.len
 have hal1:AlikeC [c,b.clock]:=(alike2 _ _).2 ⟨h1.1,hb.clk,by omega⟩
 have hal2:AlikeC [w.clock,c]:=(alike2 _ _).2 ⟨hw.clk,h1.1,by omega⟩
 by_cases h2:Ins b.clock c
 rotate_left
 ·rw [hF9 (fun h=>h2 h.1)]
  refine CallA.of pg ord44 Tryz.func44 rfl Tryz.ntmps44 Tryz.results44 rfl fun h0 G0 O0=>?_
  repeat'(first|apply Sp.h|refine Lk.r rfl ?_|refine Rf.mk rfl ?_|fail)
  refine xW (hfi) ?_
  rintro _ _ ⟨rfl,rfl⟩
  repeat'(first|apply Sp.h|refine Lk.r rfl ?_|refine Rf.mk rfl ?_|refine xA ?_|refine xT ?_|fail)
  refine xW (hm1) ?_
  rintro _ _ ⟨u,l,rfl,rfl,k1,k2⟩
  have k0:0 < l.length:=List.length_pos_iff.2 fun h=>h2 (k1.1 h hal1)
  repeat'(first|apply Sp.h|refine Lk.r rfl ?_|refine Rf.mk rfl ?_|refine xA ?_|refine xU ?_|refine xN ?_|fail)
  exact⟨_,_, .one (.same (.z)),rfl,v,rfl⟩
 by_cases h3:Ins c w.clock
 rotate_left
 ·rw [hF9 (fun h=>h3 h.2.1)]
  refine CallA.of pg ord44 Tryz.func44 rfl Tryz.ntmps44 Tryz.results44 rfl fun h0 G0 O0=>?_
  repeat'(first|apply Sp.h|refine Lk.r rfl ?_|refine Rf.mk rfl ?_|fail)
  refine xW (hfi) ?_
  rintro _ _ ⟨rfl,rfl⟩
  repeat'(first|apply Sp.h|refine Lk.r rfl ?_|refine Rf.mk rfl ?_|refine xA ?_|refine xT ?_|fail)
  refine xW (hm1) ?_
  rintro _ _ ⟨u,l,rfl,rfl,k1,k2⟩
  have k0:l.length=0:=by rw [k1.2 fun _=>h2];rfl
  repeat'(first|apply Sp.h|refine Lk.r rfl ?_|refine Rf.mk rfl ?_|refine xB ?_|refine xU ?_|refine xT ?_|fail)
  refine xW (hm2) ?_
  rintro _ _ ⟨u2,l2,rfl,rfl,j1,j2⟩
  have j0:0 < l2.length:=List.length_pos_iff.2 fun h=>h3 (j1.1 h hal2)
  repeat'(first|apply Sp.h|refine Lk.r rfl ?_|refine Rf.mk rfl ?_|refine xA ?_|refine xB ?_|refine xU ?_|refine xN ?_|fail)
  exact⟨_,_, .one (.same (.z)),rfl,v,rfl⟩
 have hcb:=cloneBase_a b nl0 nl0 ⟨by have:=hb.clk.2.2;omega,by have:=hb.st;omega,hb.mg.1,hb.mg.2,by have:=hb.pll;omega⟩
 have hcc:=clone_o c (by have:=h1.1.2.2;omega)
 refine CallA.of pg ord44 Tryz.func44 rfl Tryz.ntmps44 Tryz.results44 rfl fun h0 G0 O0=>?_
 repeat'(first|apply Sp.h|refine Lk.r rfl ?_|refine Rf.mk rfl ?_|fail)
 refine xW (hfi) ?_
 rintro _ _ ⟨rfl,rfl⟩
 repeat'(first|apply Sp.h|refine Lk.r rfl ?_|refine Rf.mk rfl ?_|refine xA ?_|refine xT ?_|fail)
 refine xW (hm1) ?_
 rintro _ _ ⟨u1,l1,rfl,rfl,k1,k2⟩
 have k0:l1.length=0:=by rw [k1.2 fun _=>h2];rfl
 repeat'(first|apply Sp.h|refine Lk.r rfl ?_|refine Rf.mk rfl ?_|refine xB ?_|refine xU ?_|refine xT ?_|fail)
 refine xW (hm2) ?_
 rintro _ _ ⟨u2,l2,rfl,rfl,j1,j2⟩
 have j0:l2.length=0:=by rw [j1.2 fun _=>h3];rfl
 repeat'(first|apply Sp.h|refine Lk.r rfl ?_|refine Rf.mk rfl ?_|refine xB ?_|refine xU ?_|refine xT ?_|refine Ch.r ?_|fail)
 refine xW (hcb) ?_
 rintro _ _ ⟨v1,v2,v3,L,v4,rfl,hL,rfl⟩
 (repeat'(first|(show CA _ _ (Code.region 6 _ _) _ _;apply Stopped.out)|apply Sp.h|refine Lk.r rfl ?_|refine Rf.mk rfl ?_|apply All.mk|refine xT ?_|(apply SetAsk.r;focus repeat' constructor)|refine xN ?_|intro _));any_goals apply Stopped.mk
 rename_i b5
 have hLl:L.length≤1000000:=by have h8:=congrArg List.length hL;rw [List.length_map] at h8;have:=hb.mg.1;omega
 have hLk:∀x∈L,x.marks.length≤1000000:=fun x hx=>hb.mg.2 x.g (by rw [←hL];exact List.mem_map_of_mem hx)
 have hbc:=hb.clk.2.2
 have hbp:=hb.pll
 have hbs:=hb.st
 apply CA.own
 focus(apply OX.blk (b:=b5);(focus repeat constructor);(focus(apply FX.s1;(focus repeat constructor);(focus omega);apply FX.k;apply FX.k;apply out_fx2;(focus repeat constructor);(focus repeat constructor);(focus exact hLl);(focus exact hLk);apply FX.k;apply FX.k;apply FX.s1;(focus repeat constructor);(focus omega);exact FX.nil));(focus repeat constructor))
 rw [hL]
 repeat'(first|apply Sp.h|refine Lk.r rfl ?_|refine Rf.mk rfl ?_|refine xU ?_|refine xT ?_|fail)
 refine CA.nilOwn 6 66 13 evC rfl fun vr=>?_
 refine CA.loop (fun x:Nat×Value×NowS=>⟨[(0,pm s),(1,ints c),(5,pm b5),(6, .ow x.2.1),(46, .ow v),(47,it (evl.length:Nat)),(48,it x.1)],[stoR s m b v w,arrR v 66 13 evl evC,blkR b5 46 (midC x.2.2 v2),arrR v2 3 1 x.2.2.state intC,arrR x.2.1 66 13 (outL c (evl.take x.1)) evC]⟩)
  (fun x=>x.1≤evl.length∧(∀e∈evl.take x.1,HasC c e.rep e.num→Ins e.past c)∧MidOK m b x.2.2 x.1∧x.2.2=(inL c (evl.take x.1)).foldl (cmp1 m) b) (fun x=>evl.length - x.1) (0,vr,b) xE ⟨zZ _,by simp,⟨rfl,hb.st,hb.mg,hb.pls,by simp⟩,rfl⟩ ?_
 rintro⟨i,vr,y⟩ ⟨hi,hin0,hmid,hy⟩
 simp only at hi hin0 hmid hy
 simp only
 have hyp:=hmid.pll
 have hys:=hmid.st
 by_cases hil:i < evl.length
 ·obtain⟨e,he⟩:=get_of hil
  have heV:=hev e (zM he)
  have hn:=name35_p e
  have hh:=hasC_p c e.rep e.num
  have hsi:=inL_succ (c:=c) he
  have hso:=outL_succ (c:=c) he
  have hol:(outL c (evl.take i)).length≤i:=by
   have:=List.length_filter_le (fun e:EvS=>decide (¬HasC c e.rep e.num)) (evl.take i)
   rw [zN] at this
   unfold outL;omega
  by_cases hhc:HasC c e.rep e.num
  rotate_left
  ·rw [zF hhc] at hh
   rw [if_neg hhc] at hsi hso
   rw [List.append_nil] at hsi
   repeat'(first|apply Sp.h|refine Lk.r rfl ?_|refine Rf.mk rfl ?_|refine xA ?_|refine xB ?_|refine xP ?_|refine All.mk fun _=>?_|refine xU ?_|refine xT ?_|refine xI ?_|refine xJ ?_|refine Ce.r ?_|refine Ch.l ⟨rfl,rfl⟩ ?_|(apply SetAsk.r;focus repeat' constructor)|(apply Fk.r;focus repeat' first|infer_instance|constructor)|refine xN ?_|refine Rf.mk ⟨rfl,rfl⟩ ?_|refine Rf.mk ⟨rfl,rfl,rfl⟩ ?_|(apply Mp.lit;(focus repeat(first|exact MpL.nil|(apply MpL.cons;(focus rfl))|(apply MpL.inv;(focus repeat constructor);(focus infer_instance)))))|refine xO ?_|(apply Cl.p (hn);focus(repeat' constructor);done)|(apply Cl.p (hh);focus(repeat' constructor);done))
   rw [←hso]
   exact PA.lp (i+1,_,y) xE ⟨⟨hil,all_succ he hin0 (fun h=>absurd h hhc),⟨hmid.ck,hmid.st,hmid.mg,hmid.pls,by simp only;omega⟩,by simp only;rw [hsi];exact hy⟩,by simp only;omega⟩
  rw [zT hhc] at hh
  rw [if_pos hhc] at hsi hso
  rw [List.append_nil] at hso
  have hm3:=missing_o c e.past
  have hal3:AlikeC [c,e.past]:=(alike2 _ _).2 ⟨h1.1,heV.1.1,by have:=heV.2.1;omega⟩
  by_cases hie:Ins e.past c
  rotate_left
  ·rw [hF9 (fun h=>hie (h.2.2 e (zM he) hhc))]
   repeat'(first|apply Sp.h|refine Lk.r rfl ?_|refine Rf.mk rfl ?_|refine xA ?_|refine All.mk fun _=>?_|refine xU ?_|refine xT ?_|refine xI ?_|refine xJ ?_|refine Ch.l ⟨rfl,rfl⟩ ?_|(apply SetAsk.r;focus repeat' constructor)|refine xN ?_|(apply Cl.p (hn);focus(repeat' constructor);done)|(apply Cl.p (hh);focus(repeat' constructor);done))
   refine xW (hm3) ?_
   rintro _ _ ⟨u3,l3,rfl,rfl,q1,q2⟩
   have q0:0 < l3.length:=List.length_pos_iff.2 fun h=>hie (q1.1 h hal3)
   repeat'(first|apply Sp.h|refine Lk.r rfl ?_|refine Rf.mk rfl ?_|refine xA ?_|refine xU ?_|refine xN ?_|fail)
   exact⟨_,_, .one (.same (.z)),rfl,v,rfl⟩
  have hap:=applyT_p m y.merged e hm
  have hwi:=with_p y.places e.place hmid.pls (by omega)
  have hst:=mid_step (e:=e) hmid
  have hfd:cmp1 m y e=(inL c (evl.take (i+1))).foldl (cmp1 m) b:=by rw [hsi,List.foldl_append,←hy];rfl
  have hnx:∀d∈evl.take (i+1),HasC c d.rep d.num→Ins d.past c:=all_succ he hin0 (fun _=>hie)
  repeat'(first|apply Sp.h|refine Lk.r rfl ?_|refine Rf.mk rfl ?_|refine xA ?_|refine All.mk fun _=>?_|refine xU ?_|refine xT ?_|refine xI ?_|refine xJ ?_|refine Ch.l ⟨rfl,rfl⟩ ?_|(apply SetAsk.r;focus repeat' constructor)|refine xN ?_|(apply Cl.p (hn);focus(repeat' constructor);done)|(apply Cl.p (hh);focus(repeat' constructor);done))
  refine xW (hm3) ?_
  rintro _ _ ⟨u3,l3,rfl,rfl,q1,q2⟩
  have q0:l3.length=0:=by rw [q1.2 fun _=>hie];rfl
  by_cases hk:e.kind=0
  rotate_left
  ·have hadd:addE m y.state e=y.state:=if_neg hk
   by_cases hpl:0 < e.place
   ·repeat'(first|apply Sp.h|refine Lk.r rfl ?_|refine Rf.mk rfl ?_|refine xA ?_|refine xB ?_|refine OpK.r rfl ?_|refine xU ?_|refine xT ?_|refine Ch.l ⟨rfl,rfl⟩ ?_|refine Ch.r ?_|refine xV ?_|refine xD ?_|refine xO ?_|(apply Cl.p (hap);focus(repeat' constructor);done)|(apply Cl.p (hwi);focus(repeat' constructor);done))
    have hz:(⟨y.clock,max y.time e.time,y.state,(applyF m y.merged e).2,withP y.places e.place⟩:NowS)=cmp1 m y e:=by rw [cmp1,hadd,plE,if_pos hpl];rfl
    all_goals rw [←hso]
    all_goals exact PA.lp (i+1,vr,⟨y.clock,max y.time e.time,y.state,(applyF m y.merged e).2,withP y.places e.place⟩) xE ⟨⟨hil,hnx,by simp only;rw [hz];exact hst,by simp only;rw [hz];exact hfd⟩,by simp only;omega⟩
   ·repeat'(first|apply Sp.h|refine Lk.r rfl ?_|refine Rf.mk rfl ?_|refine xB ?_|refine OpK.r rfl ?_|refine xU ?_|refine xT ?_|refine Ch.l ⟨rfl,rfl⟩ ?_|refine Ch.r ?_|refine xV ?_|refine xD ?_|refine xO ?_|(apply Cl.p (hap);focus(repeat' constructor);done)|(apply Cl.p (hwi);focus(repeat' constructor);done))
    have hz:(⟨y.clock,max y.time e.time,y.state,(applyF m y.merged e).2,y.places⟩:NowS)=cmp1 m y e:=by rw [cmp1,hadd,plE,if_neg hpl];rfl
    all_goals rw [←hso]
    all_goals exact PA.lp (i+1,vr,⟨y.clock,max y.time e.time,y.state,(applyF m y.merged e).2,y.places⟩) xE ⟨⟨hil,hnx,by simp only;rw [hz];exact hst,by simp only;rw [hz];exact hfd⟩,by simp only;omega⟩
  have hact:=act_rng heV.1 hk
  have hact2:=heV.2.2 hk
  obtain⟨a,ha⟩:=get_of (l:=m.acts) (i:=e.action.toNat) (by omega)
  have hd:=dltF_at ha
  have heo:=hm.eff a (zM ha)
  have hadd:addE m y.state e=addD y.state a.eff.delta:=by rw [addE,if_pos hk,hd]
  repeat'(first|apply Sp.h|refine Lk.r rfl ?_|refine Rf.mk rfl ?_|refine xA ?_|refine xB ?_|refine OpK.r rfl ?_|apply Im.mk|refine xU ?_|refine xT ?_|(apply Ix.r;(focus assumption);(focus omega))|refine xV ?_|refine xD ?_|intro _)
  refine CA.loop (fun k:Nat=>⟨[(0,pm s),(1,ints c),(5,pm b5),(6, .ow vr),(8,pm _),(46, .ow v),(47,it (evl.length:Nat)),(48,it i),(86,terms a.eff.delta),(87,it (a.eff.delta.length:Nat)),(88,it k)],[stoR s m b v w,arrR v 66 13 evl evC,blkR b5 46 (midC { y with time:=max y.time e.time } v2),arrR v2 3 1 (addD y.state (a.eff.delta.take k)) intC,arrR vr 66 13 (outL c (evl.take i)) evC,blkR _ 66 (evC e)]⟩) (fun k=>k≤a.eff.delta.length) (fun k=>a.eff.delta.length - k) 0 xE (zZ _) ?_
  intro k hk2
  have hlen:=addD_length (a.eff.delta.take k) y.state
  by_cases hkl:k < a.eff.delta.length
  ·obtain⟨p,hp⟩:=get_of hkl
   obtain⟨p1,p2⟩:=heo.d p (zM hp)
   obtain⟨z,hz⟩:=get_of (l:=addD y.state (a.eff.delta.take k)) (i:=p.1.toNat) (by omega)
   have hsd:=addD_succ (s:=y.state) hp
   rw [show add1 (addD y.state (a.eff.delta.take k)) p=(addD y.state (a.eff.delta.take k)).set p.1.toNat (IntKind.i64.wrap (z+p.2)) by rw [add1,hz];rfl] at hsd
   repeat'(first|apply Sp.h|refine Lk.r rfl ?_|refine Rf.mk rfl ?_|refine xA ?_|refine OpK.r rfl ?_|apply All.mk|refine xU ?_|refine xT ?_|refine xI ?_|(apply Ix.r;(focus assumption);(focus omega))|refine xJ ?_|refine Ch.l ⟨rfl,rfl⟩ ?_|(apply SetAsk.r;focus repeat' constructor)|refine xN ?_|refine xD ?_|intro _)
   refine⟨?_⟩
   repeat'(first|apply Sp.h|refine Lk.r rfl ?_|refine Rf.mk rfl ?_|refine OpK.r rfl ?_|refine xU ?_|(apply Ix.r;(focus assumption);(focus omega))|refine xJ ?_|refine xV ?_|refine Up.r rfl ?_|refine xO ?_|fail)
   rw [←hsd]
   exact PA.lp (k+1) xE ⟨hkl,by omega⟩
  ·have hke:k=a.eff.delta.length:=by omega
   subst hke
   rw [zL]
   by_cases hpl:0 < e.place
   ·repeat'(first|apply Sp.h|refine Lk.r rfl ?_|refine Rf.mk rfl ?_|refine xA ?_|refine xB ?_|refine OpK.r rfl ?_|refine xT ?_|refine Ch.l ⟨rfl,rfl⟩ ?_|refine Ch.r ?_|refine xV ?_|refine xD ?_|refine xO ?_|(apply Cl.p (hap);focus(repeat' constructor);done)|(apply Cl.p (hwi);focus(repeat' constructor);done))
    have hz:(⟨y.clock,max y.time e.time,addD y.state a.eff.delta,(applyF m y.merged e).2,withP y.places e.place⟩:NowS)=cmp1 m y e:=by rw [cmp1,hadd,plE,if_pos hpl];rfl
    all_goals rw [←hso]
    all_goals exact PA.lp (i+1,vr,⟨y.clock,max y.time e.time,addD y.state a.eff.delta,(applyF m y.merged e).2,withP y.places e.place⟩) xE ⟨⟨hil,hnx,by simp only;rw [hz];exact hst,by simp only;rw [hz];exact hfd⟩,by simp only;omega⟩
   ·repeat'(first|apply Sp.h|refine Lk.r rfl ?_|refine Rf.mk rfl ?_|refine xB ?_|refine OpK.r rfl ?_|refine xT ?_|refine Ch.l ⟨rfl,rfl⟩ ?_|refine Ch.r ?_|refine xV ?_|refine xD ?_|refine xO ?_|(apply Cl.p (hap);focus(repeat' constructor);done)|(apply Cl.p (hwi);focus(repeat' constructor);done))
    have hz:(⟨y.clock,max y.time e.time,addD y.state a.eff.delta,(applyF m y.merged e).2,y.places⟩:NowS)=cmp1 m y e:=by rw [cmp1,hadd,plE,if_neg hpl];rfl
    all_goals rw [←hso]
    all_goals exact PA.lp (i+1,vr,⟨y.clock,max y.time e.time,addD y.state a.eff.delta,(applyF m y.merged e).2,y.places⟩) xE ⟨⟨hil,hnx,by simp only;rw [hz];exact hst,by simp only;rw [hz];exact hfd⟩,by simp only;omega⟩
 ·have hie:i=evl.length:=by omega
  subst hie
  rw [zL] at hin0 hy ⊢
  have hcl:=h1.1.2.2
  have hout:(outL c evl).length≤1000:=by
   have:=List.length_filter_le (fun e:EvS=>decide (¬HasC c e.rep e.num)) evl
   unfold outL;omega
  have hF0:compactF m ⟨b,evl,w⟩ c=(0,⟨{ y with clock:=c },outL c evl,{ w with merged:=(outL c evl).foldl (mrg1 m) y.merged }⟩):=by
   refine(@if_neg _ (zC _) (fun h9=>h9 h1) _ _ _).trans ((@if_neg _ (zC _) (fun h9=>h9 ⟨h2,h3,hin0⟩) _ _ _).trans ?_)
   rw [cmpB,←hy]
  rw [hF0]
  repeat'(first|apply Sp.h|refine Lk.r rfl ?_|refine Rf.mk rfl ?_|refine xB ?_|fail)
  (refine Cl.use (hcc) (by repeat'(first|exact Lend.nil|apply Lend.keep|fail)) .nil rfl ?_;rintro _ _ ⟨_,rfl,rfl⟩)
  (repeat'(first|(show CA _ _ (Code.region 26 _ _) _ _;apply Stopped.out)|apply Sp.h|refine Lk.r rfl ?_|refine Rf.mk rfl ?_|refine xT ?_|refine xV ?_|fail));any_goals apply Stopped.mk
  (apply CA.own;(focus(apply OX.blk (b:=b5);(focus repeat constructor);(focus(repeat'(first|exact FX.nil|(apply FX.s1;(focus repeat constructor);(focus first|omega|(simp;done)|(simp;omega)))|apply FX.k)));(focus repeat constructor))))
  repeat'(first|apply Sp.h|refine Lk.r rfl ?_|refine Rf.mk rfl ?_|refine xU ?_|refine xT ?_|fail)
  refine CA.loop (fun x:Nat×List MgS=>⟨[(0,pm s),(5,pm b5),(6, .ow vr),(11,mgs x.2),(130, .ow vr),(131,it ((outL c evl).length:Nat)),(132,it x.1)],[stoR s m b v w,arrR v 66 13 evl evC,blkR b5 46 (basC { y with clock:=c }),arrR vr 66 13 (outL c evl) evC]⟩)
   (fun x=>x.1≤(outL c evl).length∧SzM x.2∧x.2=((outL c evl).take x.1).foldl (mrg1 m) y.merged) (fun x=>(outL c evl).length - x.1) (0,y.merged) xE ⟨zZ _,hmid.mg,rfl⟩ ?_
  rintro⟨j,k⟩ ⟨hj,hkz,hk⟩
  simp only at hj hkz hk
  simp only
  by_cases hjl:j < (outL c evl).length
  ·obtain⟨e,he⟩:=get_of hjl
   have hap:=applyT_p m k e hm
   repeat'(first|apply Sp.h|refine Lk.r rfl ?_|refine Rf.mk rfl ?_|refine xA ?_|refine OpK.r rfl ?_|refine All.mk fun _=>?_|refine xU ?_|refine xT ?_|refine xI ?_|refine xJ ?_|refine Ch.l ⟨rfl,rfl⟩ ?_|refine Ch.r ?_|(apply SetAsk.r;focus repeat' constructor)|refine xN ?_|refine xD ?_|refine xO ?_|(apply Cl.p (hap);focus repeat' constructor))
   all_goals exact PA.lp (j+1,mrg1 m k e) xE ⟨⟨hjl,mrg1_sz hkz,by simp only;rw [zK,he,Option.toList_some,List.foldl_append,←hk];rfl⟩,by simp only;omega⟩
  ·have hje:j=(outL c evl).length:=by omega
   subst hje
   rw [zL] at hk
   have hcm:=cloneM_p k (by have:=hkz.1;omega) hkz.2
   rw [←hk]
   repeat'(first|apply Sp.h|refine Lk.r rfl ?_|refine Rf.mk rfl ?_|refine xB ?_|refine OpK.r rfl ?_|refine xT ?_|refine Ch.l ⟨rfl,rfl⟩ ?_|refine xV ?_|(apply SetAsk.r;focus repeat' constructor)|refine xN ?_|refine xD ?_|(apply Cl.p (hcm);focus repeat' constructor))
   all_goals exact⟨_,_, .one (.same (.z)),rfl,vr,rfl⟩
theorem sapply_p(st:List Int)(d:List (Int×Int))(hl:st.length≤1000000)(hd:∀p∈d,0≤p.1∧p.1 < (st.length:Nat)) : CallP Tryz.prog 135 [ints st,terms d] (ints (addD st d)):=by
 have hc:=clone_o st (by omega)
 refine CallA.of pg ord135 Tryz.func135 rfl Tryz.ntmps135 Tryz.results135 rfl fun h0 G0 O0=>?_
 repeat'(first|apply Sp.h|refine Lk.r rfl ?_|refine Rf.mk rfl ?_|fail)
 (refine Cl.use (hc) (by repeat'(first|exact Lend.nil|apply Lend.keep|fail)) .nil rfl ?_;rintro _ _ ⟨_,rfl,rfl⟩)
 repeat'(first|apply Sp.h|refine Lk.r rfl ?_|refine Rf.mk rfl ?_|apply Im.mk|intro _)
 rename_i u _
 refine CA.loop (fun i:Nat=>⟨[(5, .ow u),(10,terms d),(11,it (d.length:Nat)),(12,it i)],[arrR u 3 1 (addD st (d.take i)) intC]⟩) (fun i=>i≤d.length) (fun i=>d.length - i) 0 xE (zZ _) ?_
 intro i hi
 have hlen:=addD_length (d.take i) st
 by_cases hil:i < d.length
 ·obtain⟨p,hp⟩:=get_of hil
  obtain⟨p1,p2⟩:=hd p (zM hp)
  obtain⟨z,hz⟩:=get_of (l:=addD st (d.take i)) (i:=p.1.toNat) (by omega)
  have hs:=addD_succ (s:=st) hp
  rw [show add1 (addD st (d.take i)) p=(addD st (d.take i)).set p.1.toNat (IntKind.i64.wrap (z+p.2)) by rw [add1,hz];rfl] at hs
  repeat'(first|apply Sp.h|refine Lk.r rfl ?_|refine Rf.mk rfl ?_|refine xA ?_|refine OpK.r rfl ?_|apply All.mk|refine xU ?_|refine xT ?_|refine xI ?_|(apply Ix.r;(focus assumption);(focus omega))|refine xJ ?_|refine Ch.l ⟨rfl,rfl⟩ ?_|(apply SetAsk.r;focus repeat' constructor)|refine xN ?_|refine xD ?_|intro _)
  all_goals try exact(by omega:False).elim
  refine⟨?_⟩
  repeat'(first|apply Sp.h|refine Lk.r rfl ?_|refine Rf.mk rfl ?_|refine OpK.r rfl ?_|refine xU ?_|(apply Ix.r;(focus assumption);(focus omega))|refine xJ ?_|refine xV ?_|refine Up.r rfl ?_|refine xO ?_|fail)
  rw [←hs]
  exact PA.lp (i+1) xE ⟨hil,by omega⟩
 ·have hie:i=d.length:=by omega
  subst hie
  rw [zL] at hlen ⊢
  repeat'(first|apply Sp.h|refine Lk.r rfl ?_|refine Rf.mk rfl ?_|refine xB ?_|refine xN ?_|fail)
  exact⟨_,_, .one (.fz (by repeat constructor) (by omega) (.z)),rfl,rfl⟩
noncomputable def snpS(m:ModS)(b:NowS)(l:List EvS)(c:List Int) : List Int:=(inL c l).foldl (addE m) b.state
noncomputable def snpK(m:ModS)(b:NowS)(l:List EvS)(c:List Int) : List MgS:=(inL c l).foldl (mrg1 m) b.merged
noncomputable def snpV(m:ModS)(b:NowS)(l:List EvS)(c:List Int) : List (List Int):=(valuesQ m (snpK m b l c)).2
theorem addEf_len{m:ModS}(A:List EvS) :∀s:List Int,(A.foldl (addE m) s).length=s.length:=by
 induction A with
 | nil=>exact fun s=>rfl
 | cons e A ih=>intro s;rw [List.foldl_cons,ih,addE_len]
theorem stake_g(m:ModS)(b:NowS)(l:List EvS)(w:NowS)(c:List Int)(h:ShwS b l w)(hm:MOK m)(hx:ValX m)(hol:m.ops.length≤1000000000)(hur:UpdsRg m)(hb:b.state.length=strF m)(hev:∀e∈l,EvV m (w.clock.length:Nat) e) :
  CallGP Tryz.prog 66 [mdl m, .ad (stoV m b l w) 0,ints c] (.agg [ints (snpS m b l c),bools (visL m (snpS m b l c)),clks (snpV m b l c)]):=by
 have hba:=sbase_z m b l w h.bs
 have hes:=sevents_z m b w l h.ln h.ps
 have hvq:=valuesQ_p m (snpK m b l c) hm
 have hsl:(snpS m b l c).length=strF m:=by rw [snpS,addEf_len,hb]
 have hvs:=svisible_g m (snpS m b l c) hx hsl hol hur
 have hstr:=hm.str
 refine CallG.of pg ord66 Tryz.func66 rfl Tryz.ntmps66 Tryz.results66 rfl fun h0 G0 O0 ga=>?_
 repeat'(first|apply Sp.h|refine Lk.r rfl ?_|refine Rf.mk rfl ?_|refine OpK.r rfl ?_|refine Im.mk fun _=>?_|refine All.mk fun _=>?_|refine xT ?_|(apply SetAsk.r;focus repeat' constructor)|refine xN ?_|refine xD ?_|(apply Cl.p (hba);focus(repeat' constructor);done)|(apply Cl.p (hes);focus(repeat' constructor);done))
 rename_i b3 b6 b7 _
 refine CA.loop (fun i:Nat=>⟨[(2,ints c),(3,pm b3),(6,pm b6),(8,ints ((inL c (l.take i)).foldl (addE m) b.state)),(9,mgs ((inL c (l.take i)).foldl (mrg1 m) b.merged)),(21,evs l),(22,it (l.length:Nat)),(23,it i)],[blkR b3 30 (modC m),blkR b6 121 [nl0,nl0,nl0]]⟩) (fun i=>i≤l.length) (fun i=>l.length - i) 0 xE (zZ _) ?_
 intro i hi
 by_cases hin:i < l.length
 ·obtain⟨e,he⟩:=get_of hin
  have hsu:=inL_succ (c:=c) he
  have hi1:=sinside_p c e
  have hE:=hev e (zM he)
  by_cases hH:HasC c e.rep e.num
  ·rw [if_pos hH] at hsu
   have hap:=applyT_p m ((inL c (l.take i)).foldl (mrg1 m) b.merged) e hm
   have hS':(inL c (l.take (i+1))).foldl (addE m) b.state=addE m ((inL c (l.take i)).foldl (addE m) b.state) e:=by rw [hsu,List.foldl_append];rfl
   have hK':(inL c (l.take (i+1))).foldl (mrg1 m) b.merged=(applyF m ((inL c (l.take i)).foldl (mrg1 m) b.merged) e).2:=by rw [hsu,List.foldl_append];rfl
   have hSl:((inL c (l.take i)).foldl (addE m) b.state).length=strF m:=by rw [addEf_len,hb]
   generalize (inL c (l.take i)).foldl (addE m) b.state=S at hS' hSl ⊢
   generalize (inL c (l.take i)).foldl (mrg1 m) b.merged=K at hap hK' ⊢
   by_cases hk:e.kind=0
   ·have h1:=act_rng hE.1 hk
    have h2:=hE.2.2 hk
    obtain⟨a,ha⟩:=get_of (l:=m.acts) (i:=e.action.toNat) (by omega)
    have heo:=hm.eff a (zM ha)
    have hsa:=sapply_p S a.eff.delta (by omega) (fun p hp=>by rw [hSl];exact heo.d p hp)
    rw [addE,if_pos hk,dltF_at ha] at hS'
    repeat'(first|apply Sp.h|refine Lk.r rfl ?_|refine Rf.mk rfl ?_|refine xA ?_|refine Im.mk fun _=>?_|refine All.mk fun _=>?_|refine xT ?_|refine xI ?_|(apply Ix.r;(focus assumption);(focus omega))|refine Ch.l ⟨rfl,rfl⟩ ?_|(apply SetAsk.r;focus repeat' constructor)|refine xN ?_|refine xO ?_|(apply Cl.p (hi1);focus(repeat' constructor);done)|(apply Cl.p (hsa);focus(repeat' constructor);done)|(apply Cl.p (hap);focus(repeat' constructor);done))
    all_goals try exact(by omega:False).elim
    rw [←hS',←hK']
    exact PA.lp (i+1) xE ⟨hin,by omega⟩
   ·rw [addE,if_neg hk] at hS'
    repeat'(first|apply Sp.h|refine Lk.r rfl ?_|refine Rf.mk rfl ?_|refine xA ?_|refine xB ?_|refine All.mk fun _=>?_|refine xT ?_|refine xI ?_|refine Ch.l ⟨rfl,rfl⟩ ?_|(apply SetAsk.r;focus repeat' constructor)|refine xN ?_|refine xO ?_|(apply Cl.p (hi1);focus(repeat' constructor);done)|(apply Cl.p (hap);focus(repeat' constructor);done))
    all_goals try exact(by omega:False).elim
    rw [←hS',←hK']
    exact PA.lp (i+1) xE ⟨hin,by omega⟩
  ·rw [if_neg hH,List.append_nil] at hsu
   rw [←hsu]
   repeat'(first|apply Sp.h|refine Lk.r rfl ?_|refine Rf.mk rfl ?_|refine xA ?_|refine xB ?_|refine All.mk fun _=>?_|refine xT ?_|refine xI ?_|refine Ch.l ⟨rfl,rfl⟩ ?_|(apply SetAsk.r;focus repeat' constructor)|refine xN ?_|refine xO ?_|(apply Cl.p (hi1);focus repeat' constructor))
   exact PA.lp (i+1) xE ⟨hin,by omega⟩
 ·have hie:i=l.length:=by omega
  subst hie
  rw [zL]
  change CA _ _ _ [(2,ints c),(3,pm b3),(6,pm b6),(8,ints (snpS m b l c)),(9,mgs (snpK m b l c)),(21,evs l),(22,it (l.length:Nat)),(23,it (l.length:Nat))] _
  have hV:(valuesQ m (snpK m b l c)).2=snpV m b l c:=rfl
  generalize snpS m b l c=S at hvs ⊢
  generalize snpV m b l c=V at hV ⊢
  repeat'(first|apply Sp.h|refine Lk.r rfl ?_|refine Rf.mk rfl ?_|refine xB ?_|refine xT ?_|refine Ch.l ⟨rfl,rfl⟩ ?_|(apply SetAsk.r;focus repeat' constructor)|(apply Fk.r;focus repeat' first|infer_instance|constructor)|refine xN ?_|(apply Cl.pG (hvs);(focus exact ga);focus(repeat' constructor);done)|(apply Cl.p (hvq);focus(repeat' constructor);done))
  rw [hV]
  exact Fin.p rfl rfl
abbrev snpC (S:List Int) (B:List Bool) (V:List (List Int)):List AV:= [ints S,bools B,clks V]
def valQ(S:List Int)(B:List Bool)(V:List (List Int))(q:QryS) : List Int :=
 if q.1=0 then [S[q.2.toNat]?.getD 0] else if q.1=1 then [if B[q.2.toNat]?.getD false then 1 else 0] else V[q.2.toNat]?.getD []
theorem vals1_o(S:List Int)(B:List Bool)(V:List (List Int))(j:Nat)(x:Int)(hx:S[j]?=some x) : CallO Tryz.prog 138 [it j, .ad (snpC S B V) 0] 3 1 [x] intC:=by
 refine CallA.of pg ordZ Tryz.func138 rfl Tryz.ntmps138 Tryz.results138 rfl fun h0 G0 O0=>?_
 repeat'(first|apply Sp.h|refine Lk.r rfl ?_|refine Rf.mk rfl ?_|apply All.mk|refine xI ?_|(apply Fk.r;focus repeat' first|infer_instance|constructor)|refine xN ?_|refine Rf.mk ⟨rfl,rfl,rfl⟩ ?_|intro _)
 refine⟨_,_, .one (.same (.nil (Subl.cons .here .nil))),_,rfl, ?_⟩
 exact congrArg (fun R=> [R]) (arrR_eq rfl)
theorem vals2_o(S:List Int)(B:List Bool)(V:List (List Int))(j:Nat)(x:Bool)(hx:B[j]?=some x) : CallO Tryz.prog 139 [it j, .ad (snpC S B V) 0] 3 1 [if x then 1 else 0] intC:=by
 cases x
 ·refine CallA.of pg ordZ Tryz.func139 rfl Tryz.ntmps139 Tryz.results139 rfl fun h0 G0 O0=>?_
  repeat'(first|apply Sp.h|refine Lk.r rfl ?_|refine Rf.mk rfl ?_|apply All.mk|refine xI ?_|(apply Fk.r;focus repeat' first|infer_instance|constructor)|refine xN ?_|refine Rf.mk ⟨rfl,rfl,rfl⟩ ?_|intro _)
  refine⟨_,_, .one (.same (.nil (Subl.cons .here .nil))),_,rfl, ?_⟩
  exact congrArg (fun R=> [R]) (arrR_eq rfl)
 ·refine CallA.of pg ordZ Tryz.func139 rfl Tryz.ntmps139 Tryz.results139 rfl fun h0 G0 O0=>?_
  repeat'(first|apply Sp.h|refine Lk.r rfl ?_|refine Rf.mk rfl ?_|apply All.mk|refine xI ?_|(apply Fk.r;focus repeat' first|infer_instance|constructor)|refine xN ?_|refine Rf.mk ⟨rfl,rfl,rfl⟩ ?_|intro _)
  refine⟨_,_, .one (.same (.nil (Subl.cons .here .nil))),_,rfl, ?_⟩
  exact congrArg (fun R=> [R]) (arrR_eq rfl)
theorem vals3_o(S:List Int)(B:List Bool)(V:List (List Int))(j:Nat)(x:List Int)(hx:V[j]?=some x)(hl:x.length≤100000) : CallO Tryz.prog 140 [it j, .ad (snpC S B V) 0] 3 1 x intC:=by
 have hc:=clone_o x (by omega)
 refine CallA.of pg ordZ Tryz.func140 rfl Tryz.ntmps140 Tryz.results140 rfl fun h0 G0 O0=>?_
 repeat'(first|apply Sp.h|refine Lk.r rfl ?_|refine Rf.mk rfl ?_|refine xI ?_|fail)
 (refine Cl.use (hc) (by repeat'(first|exact Lend.nil|apply Lend.keep|fail)) .nil rfl ?_;rintro _ _ ⟨_,rfl,rfl⟩)
 repeat'(first|apply Sp.h|refine Lk.r rfl ?_|refine xN ?_|fail)
 exact⟨_,_, .one (.same (.z)),_,rfl,rfl⟩
structure ValK (S:List Int) (B:List Bool) (V:List (List Int)) (q:QryS):Prop where
 c:0≤q.2
 k:q.1=0∧q.2 < (S.length:Nat)∨q.1=1∧q.2 < (B.length:Nat)∨q.1=2∧q.2 < (V.length:Nat)
 l:∀x∈V,x.length≤100000
def fnQ(S:List Int)(B:List Bool)(V:List (List Int)) : List (List AV):= [[.fn 138 [.ad (snpC S B V) 0]],[.fn 139 [.ad (snpC S B V) 0]],[.fn 140 [.ad (snpC S B V) 0]]]
theorem svalues_o(S:List Int)(B:List Bool)(V:List (List Int))(q:QryS)(h:ValK S B V q) : CallO Tryz.prog 67 [.agg (snpC S B V), .agg (qryC q)] 3 1 (valQ S B V q) intC:=by
 obtain⟨k,c⟩:=q
 obtain⟨hc,hk,hl⟩:=h
 simp only at hc hk
 obtain⟨j,rfl⟩:=Int.eq_ofNat_of_zero_le hc
 rcases hk with⟨rfl,hk⟩|⟨rfl,hk⟩|⟨rfl,hk⟩
 ·obtain⟨x,hx⟩:=get_of (l:=S) (i:=j) (by omega)
  have hv:=vals1_o S B V j x hx
  rw [show valQ S B V (0,(j:Int))= [x] by simp [valQ,hx]]
  have hq:(fnQ S B V)[0]?=some [.fn 138 [.ad (snpC S B V) 0]]:=rfl
  refine CallA.of pg ord67 Tryz.func67 rfl Tryz.ntmps67 Tryz.results67 rfl fun h0 G0 O0=>?_
  (repeat'(first|(show CA _ _ (Code.region 1 _ _) _ _;apply Stopped.out)|apply Sp.h|refine Lk.r rfl ?_|refine Rf.mk rfl ?_|apply All.mk|intro _));any_goals apply Stopped.mk
  refine CA.freezeB 2 rfl (by repeat constructor) ?_
  repeat'(first|apply Sp.h|refine Lk.r rfl ?_|refine Rf.mk rfl ?_|refine OpK.r rfl ?_|apply All.mk|refine xU ?_|refine xT ?_|refine xI ?_|refine xJ ?_|(apply Fk.r;focus repeat' first|infer_instance|constructor)|refine Rf.mk ⟨rfl,rfl,rfl⟩ ?_|refine xD ?_|intro _)
  (refine Cl.use (hv) (by repeat'(first|exact Lend.nil|apply Lend.keep|fail)) .nil rfl ?_;rintro _ _ ⟨_,rfl,rfl⟩)
  repeat'(first|apply Sp.h|refine Lk.r rfl ?_|refine OpK.r rfl ?_|refine xN ?_|fail)
  exact⟨_,_, .one (.same (.z)),_,rfl,rfl⟩
 ·obtain⟨x,hx⟩:=get_of (l:=B) (i:=j) (by omega)
  have hv:=vals2_o S B V j x hx
  rw [show valQ S B V (1,(j:Int))= [if x then 1 else 0] by simp [valQ,hx]]
  have hq:(fnQ S B V)[1]?=some [.fn 139 [.ad (snpC S B V) 0]]:=rfl
  refine CallA.of pg ord67 Tryz.func67 rfl Tryz.ntmps67 Tryz.results67 rfl fun h0 G0 O0=>?_
  (repeat'(first|(show CA _ _ (Code.region 1 _ _) _ _;apply Stopped.out)|apply Sp.h|refine Lk.r rfl ?_|refine Rf.mk rfl ?_|apply All.mk|intro _));any_goals apply Stopped.mk
  refine CA.freezeB 2 rfl (by repeat constructor) ?_
  repeat'(first|apply Sp.h|refine Lk.r rfl ?_|refine Rf.mk rfl ?_|refine OpK.r rfl ?_|apply All.mk|refine xU ?_|refine xT ?_|refine xI ?_|refine xJ ?_|(apply Fk.r;focus repeat' first|infer_instance|constructor)|refine Rf.mk ⟨rfl,rfl,rfl⟩ ?_|refine xD ?_|intro _)
  (refine Cl.use (hv) (by repeat'(first|exact Lend.nil|apply Lend.keep|fail)) .nil rfl ?_;rintro _ _ ⟨_,rfl,rfl⟩)
  repeat'(first|apply Sp.h|refine Lk.r rfl ?_|refine OpK.r rfl ?_|refine xN ?_|fail)
  exact⟨_,_, .one (.same (.z)),_,rfl,rfl⟩
 ·obtain⟨x,hx⟩:=get_of (l:=V) (i:=j) (by omega)
  have hv:=vals3_o S B V j x hx (hl x (zM hx))
  rw [show valQ S B V (2,(j:Int))=x by simp [valQ,hx]]
  have hq:(fnQ S B V)[2]?=some [.fn 140 [.ad (snpC S B V) 0]]:=rfl
  refine CallA.of pg ord67 Tryz.func67 rfl Tryz.ntmps67 Tryz.results67 rfl fun h0 G0 O0=>?_
  (repeat'(first|(show CA _ _ (Code.region 1 _ _) _ _;apply Stopped.out)|apply Sp.h|refine Lk.r rfl ?_|refine Rf.mk rfl ?_|apply All.mk|intro _));any_goals apply Stopped.mk
  refine CA.freezeB 2 rfl (by repeat constructor) ?_
  repeat'(first|apply Sp.h|refine Lk.r rfl ?_|refine Rf.mk rfl ?_|refine OpK.r rfl ?_|apply All.mk|refine xU ?_|refine xT ?_|refine xI ?_|refine xJ ?_|(apply Fk.r;focus repeat' first|infer_instance|constructor)|refine Rf.mk ⟨rfl,rfl,rfl⟩ ?_|refine xD ?_|intro _)
  (refine Cl.use (hv) (by repeat'(first|exact Lend.nil|apply Lend.keep|fail)) .nil rfl ?_;rintro _ _ ⟨_,rfl,rfl⟩)
  repeat'(first|apply Sp.h|refine Lk.r rfl ?_|refine OpK.r rfl ?_|refine xN ?_|fail)
  exact⟨_,_, .one (.same (.z)),_,rfl,rfl⟩
end Go.Proofs.YtmjllbjfkafhdaaGreatDoor
