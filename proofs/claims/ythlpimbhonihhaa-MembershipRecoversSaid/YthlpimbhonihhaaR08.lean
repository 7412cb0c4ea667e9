/- Part 8 of the ground of this proof: what its texts say of the model, the program and the plain data; conditions: those that are named. -/
import Derived.Test.YthlpimbhonihhaaR07
set_option maxRecDepth 100000
set_option maxHeartbeats 80000000
namespace Go.Proofs.Ythlpimbhonihhaa
open Go Go.CF
theorem vot_ge{n:Int}{l:List Int}(h:votB n l=true) :∀j,j < l.length→(j:Int)≤l.getD j 0
 | 0,hj=>by
  have h1:=(Bool.and_eq_true _ _▸h).1
  have h2:=of_decide_eq_true (List.all_eq_true.1 h1 0 (List.mem_range.2 hj))
  exact h2.1
 | j+1,hj=>by
  have h0:=vot_ge h j (by omega)
  have h1:=(Bool.and_eq_true _ _▸h).1
  have h2:=of_decide_eq_true (List.all_eq_true.1 h1 (j+1) (List.mem_range.2 hj))
  have h3:=h2.2.2.resolve_left (by omega)
  rw [Nat.add_sub_cancel] at h3
  omega
theorem vot_len{n:Int}{l:List Int}(h:votB n l=true) : 0 < l.length∧(l.length:Int)≤n:=by
 have h1:=(Bool.and_eq_true _ _▸h)
 have h2:=of_decide_eq_true h1.2
 refine⟨h2, ?_⟩
 have h3:=vot_ge h (l.length - 1) (by omega)
 have h4:=of_decide_eq_true (List.all_eq_true.1 h1.1 (l.length - 1) (List.mem_range.2 (by omega)))
 have:=h4.2.1
 omega
theorem rig_vot{n:Int}{e:EntS}(h:rigB n e=true) : (e.vot.length:Int)≤max n 0∧(e.kind=2→votB n e.vot=true):=by
 unfold rigB at h
 rw [Bool.and_eq_true] at h
 obtain⟨_,h⟩:=h
 split at h
 ·rw [Bool.and_eq_true] at h
  have h3:=of_decide_eq_true h.2
  exact⟨by omega,fun h9=>by omega⟩
 ·split at h
  ·have h3:=of_decide_eq_true h
   exact⟨by omega,fun h9=>by omega⟩
  ·split at h
   ·rw [Bool.and_eq_true] at h
    have:=(vot_len h.2).2
    exact⟨by omega,fun _=>h.2⟩
   ·cases h
theorem val_at{n:Int}{l:List EntS}(h:valB n l=true){k:Nat}{e:EntS}(he:l[k]?=some e) : rigB n e=true:=by
 have h1:=(Bool.and_eq_true _ _▸h).1
 have h2:=List.all_eq_true.1 h1 k (List.mem_range.2 (zS.1 he).1)
 unfold okE at h2
 rw [he] at h2
 exact(Bool.and_eq_true _ _▸h2).1
theorem val_len{n:Int}{l:List EntS}(h:valB n l=true) : l.length≤1024:=of_decide_eq_true (Bool.and_eq_true _ _▸h).2
theorem val_votL{n:Int}{l:List EntS}(h:valB n l=true)(hn:n≤5) : VotL l:=fun e he=>by
 obtain⟨k,hk⟩:=zO he
 have:=(rig_vot (val_at h hk)).1
 omega
theorem las_spec(l:List EntS) :∀k,0 < lasN l k→lasN l k≤k∧∃e,l[lasN l k - 1]?=some e∧e.kind=2
 | 0,h=>by cases h
 | k+1,h=>by
  unfold lasN at h ⊢
  by_cases hk:(l[k]?.map EntS.kind)=some 2
  ·rw [if_pos hk]
   rw [Option.map_eq_some_iff] at hk
   obtain⟨e,he,h2⟩:=hk
   exact⟨Nat.le_refl _,e,he,h2⟩
  ·rw [if_neg hk] at h ⊢
   obtain⟨h1,h2⟩:=las_spec l k h
   exact⟨by omega,h2⟩
theorem lastF_spec{l:List EntS}(h:0 < lastF l) : lastF l≤l.length∧∃e,l[lastF l - 1]?=some e∧e.kind=2∧votA l (lastF l)=e.vot:=by
 obtain⟨h1,e,h2,h3⟩:=las_spec l l.length h
 exact⟨h1,e,h2,h3,by unfold votA lastF;rw [h2];rfl⟩
theorem votA_ne{n:Int}{l:List EntS}(hv:valB n l=true)(h:0 < lastF l) : votB n (votA l (lastF l))=true:=by
 obtain⟨_,e,h2,h3,h4⟩:=lastF_spec h
 rw [h4]
 exact(rig_vot (val_at hv h2)).2 h3
theorem rng_len(n:Int) : (rngI n).length=n.toNat:=by unfold rngI;simp
theorem votF_len{n:Int}{l:List EntS}(hv:valB n l=true)(hn:n≤5) : (votF n l).length≤5:=by
 unfold votF
 split
 ·rw [rng_len];omega
 ·have:=(vot_len (votA_ne hv (by omega))).2
  omega
theorem rng_at{n:Int}{k:Nat}(h:(k:Int) < n) : (rngI n)[k]?=some (k:Int):=by
 unfold rngI
 rw [zG,List.getElem?_range (by omega)];rfl
theorem rng_take{n:Int}{k:Nat}(h:(k:Int) < n) : (rngI n).take (k+1)=(rngI n).take k ++ [(k:Int)]:=by
 rw [zK,rng_at h];rfl
theorem mvoters_o(n:Int)(l:List EntS)(hn:n≤5)(hv:valB n l=true) : CallA Try.prog 35 [it n,entsA l] [] fun r own=>∃v,r= .ow v∧own= [arrR v 3 1 (votF n l) intC]:=by
 have hl:=val_len hv
 have hla:=last_o l (by omega) (val_votL hv hn)
 unfold votF
 by_cases h0:lastF l=0
 ·rw [if_pos h0]
  have hla2:CallA Try.prog 40 [entsA l] [] fun r own=>r= .tup [it 0, .val (.slice none 0 0)]∧own= []:=hla.mono fun r o h=>h.elim (fun h=>h.2) fun h=>by omega
  obtain⟨q,hq⟩:∃q:Nat,(q:Int)=max n 0:=⟨(max n 0).toNat,by omega⟩
  have hnq:n.toNat=q:=by omega
  have hrl:=rng_len n
  refine CallA.of pg ordZ Try.func35 rfl Try.ntmps35 Try.results35 rfl fun h0 G0 O0=>?_
  repeat'(first|apply Sp.h|refine Lk.r rfl ?_|refine Rf.mk rfl ?_|fail)
  refine xW (hla2) ?_
  rintro _ _ ⟨rfl,rfl⟩
  (repeat'(first|(show CA _ _ (Code.block 0 _) _ _;apply Stopped.out)|apply Sp.h|refine Lk.r rfl ?_|refine Rf.mk rfl ?_|refine xA ?_|fail));any_goals apply Stopped.mk
  refine CA.nilOwn 7 3 1 intC rfl fun w0=>?_
  apply Sp.h
  refine CA.loop (fun x:Nat×Value=>⟨[(7, .ow x.2),(18,it (max n 0)),(19,it (x.1:Nat))],[arrR x.2 3 1 ((rngI n).take x.1) intC]⟩) (fun x=>x.1≤q) (fun x=>q - x.1) (0,w0) xE (zZ _) ?_
  rintro⟨i,w⟩ hi
  simp only at hi
  simp only
  have htl:((rngI n).take i).length≤5:=by rw [zN];omega
  by_cases hin:i < q
  ·have hsu:=rng_take (n:=n) (k:=i) (by omega)
   repeat'(first|apply Sp.h|refine Lk.r rfl ?_|refine Rf.mk rfl ?_|refine xA ?_|refine xP ?_|apply All.mk|refine xU ?_|refine Ce.r ?_|(apply Fk.r;focus repeat' first|infer_instance|constructor)|refine Rf.mk ⟨rfl,rfl⟩ ?_|refine Rf.mk ⟨rfl,rfl,rfl⟩ ?_|(apply Mp.lit;(focus repeat(first|exact MpL.nil|(apply MpL.cons;(focus rfl))|(apply MpL.inv;(focus repeat constructor);(focus infer_instance)))))|refine xO ?_|intro _)
   rw [←hsu]
   all_goals first
    | exact PA.lp (i+1,_) xE ⟨by omega,by simp only;omega⟩
    | exact(by omega:False).elim
  ·have:i=n.toNat:=by omega
   subst this
   rw [List.take_of_length_le (by omega)]
   repeat'(first|apply Sp.h|refine Lk.r rfl ?_|refine Rf.mk rfl ?_|refine xB ?_|refine xN ?_|fail)
   all_goals first
    | exact⟨_,_, .one (.same (.z)),_,rfl,rfl⟩
    | exact(by omega:False).elim
 ·rw [if_neg h0]
  have hvl:=vot_len (votA_ne hv (by omega))
  have hla2:CallA Try.prog 40 [entsA l] [] fun r own=>∃v,r= .tup [it (lastF l:Nat), .ow v]∧own= [arrR v 3 1 (votA l (lastF l)) intC]:=hla.mono fun r o h=>h.elim (fun h=>absurd h.1 h0) fun h=>h.2
  generalize votA l (lastF l)=vs at hla2 hvl ⊢
  refine CallA.of pg ordZ Try.func35 rfl Try.ntmps35 Try.results35 rfl fun h0 G0 O0=>?_
  repeat'(first|apply Sp.h|refine Lk.r rfl ?_|refine Rf.mk rfl ?_|fail)
  refine xW (hla2) ?_
  rintro _ _ ⟨v,rfl,rfl⟩
  repeat'(first|apply Sp.h|refine Lk.r rfl ?_|refine Rf.mk rfl ?_|apply Bd.mk|apply Im.mk|apply All.mk|refine xU ?_|refine xN ?_|intro _)
  all_goals first
   | exact⟨_,_, .one (.same (.z)),_,rfl,rfl⟩
   | (rename_i hb1 hb2;exact absurd (hb1 fun h=>by rw [h] at hvl;simp at hvl) hb2)
abbrev nodR (p pe pl:Nat) (ve vl:Value) (s:NodS):List Res:= [blkR p 54 [pm pe,pm pl,it s.g.n,it s.g.i,it s.ticks],blkR pe 93 (eleC s.e ve),arrR ve 3 1 s.e.votes intC,blkR pl 119 (logC s.g vl),arrR vl 89 6 s.g.ents entC]
theorem flat_int{v:Value}{T:TypeId}{l:List Int} : FlatR (arrR v T 1 l intC):=FlatR.arr fun _ _=> .cons (.val _) .nil
section
variable (p pe pl:Nat) (ve vl:Value) (s:NodS)
def nvO : Nat→Ord×(Nat→Cls):=fun id=>bif Nat.beq id 1 then(.one 0 (.one 1 (.one 2 (.one 4 (.one 5 (.one 6 (.one 7 (.alt 3 (.one 8 (.one 9 (.one 10 .done))) (.alt 8 (.one 3 (.one 9 (.one 10 .done))) (.none))))))))),clOf [.pure, .pure, .pure, .ext, .pure, .pure, .pure, .read, .loud, .loud, .pure]) else(.done,clOf [])
theorem nvoters_a(hn:s.g.n≤5)(hv:valB s.g.n s.g.ents=true) : CallA Try.prog 13 [pm p] (nodR p pe pl ve vl s) fun r own=>∃v,r= .ow v∧own=arrR v 3 1 (votN s) intC :: nodR p pe pl ve vl s:=by
 have he:=lentries_a pl vl s.g (by have:=val_len hv;omega) (val_votL hv hn)
 have hm:=mvoters_o s.g.n s.g.ents hn hv
 have hl:=val_len hv
 refine CallA.of pg nvO Try.func13 rfl Try.ntmps13 Try.results13 rfl fun h0 G0 O0=>?_
 repeat'(first|apply Sp.h|refine Lk.r rfl ?_|refine Rf.mk rfl ?_|refine OpK.r rfl ?_|refine xT ?_|refine xD ?_|exact trivial|apply RA'.both|(((apply Cl.use (he);(focus repeat' constructor);(focus repeat' constructor);focus rfl));(rintro _ _ ⟨w,rfl,rfl⟩)))
 all_goals
  (apply Cl.lendO (hm);(focus repeat'(first|exact Lend.nil|apply Lend.keep|(apply Lend.lend;(focus repeat constructor);(focus first|omega|(simp;omega)))|fail)))
  focus(rintro _ _ ⟨u,rfl,rfl⟩;exact⟨FlatV.ow _,fun R hR=>by rw [zH.1 hR];exact flat_int⟩)
  rintro _ _ ⟨u,rfl,rfl⟩
  repeat'(first|apply Sp.h|refine Lk.r rfl ?_|refine OpK.r rfl ?_|refine xN ?_|fail)
  all_goals exact⟨_,_, .one (.same (.z)),_,rfl,rfl⟩
theorem nvoters_f(hn:s.g.n≤5)(hv:valB s.g.n s.g.ents=true) : CallA Try.prog 13 [pm p] (nodR p pe pl ve vl s) fun r own=>r=ints (votN s)∧own=nodR p pe pl ve vl s :=
 CallA.fxr (nvoters_a p pe pl ve vl s hn hv) (by
  rintro _ _ ⟨v,rfl,rfl⟩
  exact⟨ints (votN s),nodR p pe pl ve vl s, .s1 .here (by have:=votF_len hv hn;unfold votN;omega) .nil,rfl,rfl⟩)
theorem nentries_a(hn:s.g.n≤5)(hv:valB s.g.n s.g.ents=true) : CallA Try.prog 23 [pm p,it 1] (nodR p pe pl ve vl s) fun r own=>∃w,r= .ow w∧own=arrR w 89 6 s.g.ents entC :: nodR p pe pl ve vl s:=by
 have he:=lentries_a pl vl s.g (by have:=val_len hv;omega) (val_votL hv hn)
 refine CallA.of pg ordZ Try.func23 rfl Try.ntmps23 Try.results23 rfl fun h0 G0 O0=>?_
 repeat'(first|apply Sp.h|refine Lk.r rfl ?_|refine Rf.mk rfl ?_|refine xT ?_|fail)
 refine xW (he) ?_
 rintro _ _ ⟨w,rfl,rfl⟩
 repeat'(first|apply Sp.h|refine Lk.r rfl ?_|refine xN ?_|fail)
 all_goals exact⟨_,_, .one (.same (.z)),_,rfl,rfl⟩
theorem ncommit_a : CallA Try.prog 24 [pm p] (nodR p pe pl ve vl s) fun r own=>r=it s.g.commit∧own=nodR p pe pl ve vl s:=by
 have he:=lcommit_a pl vl s.g
 refine CallA.of pg ordZ Try.func24 rfl Try.ntmps24 Try.results24 rfl fun h0 G0 O0=>?_
 repeat'(first|apply Sp.h|refine Lk.r rfl ?_|refine Rf.mk rfl ?_|refine xT ?_|fail)
 refine xW (he) ?_
 rintro _ _ ⟨rfl,rfl⟩
 repeat'(first|apply Sp.h|refine Lk.r rfl ?_|refine xN ?_|fail)
 all_goals exact⟨_,_, .one (.same (.z)),rfl,rfl⟩
theorem nleader_a : CallA Try.prog 71 [pm p] (nodR p pe pl ve vl s) fun r own=>r=bl (decide (s.e.role=2))∧own=nodR p pe pl ve vl s:=by
 have he:=erole_a pe ve s.e
 refine CallA.of pg ordZ Try.func71 rfl Try.ntmps71 Try.results71 rfl fun h0 G0 O0=>?_
 repeat'(first|apply Sp.h|refine Lk.r rfl ?_|refine Rf.mk rfl ?_|refine xT ?_|fail)
 refine xW (he) ?_
 rintro _ _ ⟨rfl,rfl⟩
 repeat'(first|apply Sp.h|refine Lk.r rfl ?_|refine Rf.mk rfl ?_|refine xN ?_|fail)
 all_goals exact⟨_,_, .one (.same (.z)),rfl,rfl⟩
theorem nleads_a : CallA Try.prog 41 [pm p] (nodR p pe pl ve vl s) fun r own=>r=bl (ldsB s)∧own=nodR p pe pl ve vl s:=by
 have he:=nleader_a p pe pl ve vl s
 have hl:=lleads_a pl vl s.g
 unfold ldsB
 by_cases h:s.e.role=2
 ·rw [zT h] at he
  refine CallA.of pg ordZ Try.func41 rfl Try.ntmps41 Try.results41 rfl fun h0 G0 O0=>?_
  repeat'(first|apply Sp.h|refine Lk.r rfl ?_|refine Rf.mk rfl ?_|fail)
  refine xW (he) ?_
  rintro _ _ ⟨rfl,rfl⟩
  repeat'(first|apply Sp.h|refine Lk.r rfl ?_|refine Rf.mk rfl ?_|refine xT ?_|fail)
  refine xW (hl) ?_
  rintro _ _ ⟨rfl,rfl⟩
  repeat'(first|apply Sp.h|refine Lk.r rfl ?_|refine xN ?_|fail)
  all_goals exact⟨_,_, .one (.same (.z)),vb (zD.2 (by omega)),rfl⟩
 ·rw [zF h] at he
  refine CallA.of pg ordZ Try.func41 rfl Try.ntmps41 Try.results41 rfl fun h0 G0 O0=>?_
  repeat'(first|apply Sp.h|refine Lk.r rfl ?_|refine Rf.mk rfl ?_|fail)
  refine xW (he) ?_
  rintro _ _ ⟨rfl,rfl⟩
  repeat'(first|apply Sp.h|refine Lk.r rfl ?_|refine xN ?_|fail)
  all_goals exact⟨_,_, .one (.same (.z)),vb (zF (by omega)).symm,rfl⟩
theorem nresign_a(hk:0≤s.e.term∧s.e.term≤1048576) : CallA Try.prog 80 [pm p] (nodR p pe pl ve vl s) fun r own=>r= .tup []∧∃v,own=nodR p pe pl v vl { s with e:=resF s.e }:=by
 have he:=eterm_a pe ve s.e
 have hs:=see_a pe ve s.e (s.e.term+1)
 unfold resF
 generalize seeF s.e (s.e.term+1)=z at hs ⊢
 refine CallA.of pg ordZ Try.func80 rfl Try.ntmps80 Try.results80 rfl fun h0 G0 O0=>?_
 repeat'(first|apply Sp.h|refine Lk.r rfl ?_|refine Rf.mk rfl ?_|refine xT ?_|fail)
 refine xW (he) ?_
 rintro _ _ ⟨rfl,rfl⟩
 repeat'(first|apply Sp.h|refine Lk.r rfl ?_|refine Rf.mk rfl ?_|refine xT ?_|refine xO ?_|fail)
 refine xW (hs) ?_
 rintro _ _ ⟨rfl,v,rfl⟩
 repeat'(first|apply Sp.h|refine xN ?_|fail)
 all_goals exact⟨_,_, .tup (.z),rfl,_,rfl⟩
def allN(g:LogN)(k:Nat) : List MsgS:=if g.leads=0 then [] else(((rngI g.n).take k).filter fun r=>othF g.n g.i r).map (sendM g)
theorem allN_full(g:LogN) : allN g g.n.toNat=allM g:=by
 unfold allN allM
 rw [List.take_of_length_le (by rw [rng_len];omega)]
theorem allN_succ(g:LogN){k:Nat}(h:(k:Int) < g.n) : allN g (k+1)=if(sendF g k).2=0 then allN g k ++ [(sendF g k).1] else allN g k:=by
 unfold allN sendF
 by_cases h1:g.leads=0
 ·simp [h1]
 ·rw [if_neg h1,if_neg h1,if_neg h1,rng_take h,List.filter_append,List.map_append]
  cases h2:othF g.n g.i k <;> simp [h2]
theorem allN_len(g:LogN)(k:Nat) : (allN g k).length≤k:=by
 unfold allN
 split
 ·simp
 ·have h1:=List.length_filter_le (fun r=>othF g.n g.i r) ((rngI g.n).take k)
  rw [zN] at h1
  rw [List.length_map]
  omega
theorem nall_a(hn:1≤s.g.n∧s.g.n≤5)(hv:valB s.g.n s.g.ents=true)(hp:s.g.leads≠0→PrgL s.g) : CallA Try.prog 34 [pm p] (nodR p pe pl ve vl s) fun r own=>∃w,r= .ow w∧own=arrR w 76 18 (allM s.g) msgC :: nodR p pe pl ve vl { s with ticks:=0 }:=by
 have hs:=fun k=>send_a pl vl s.g k (by have:=val_len hv;omega) (val_votL hv hn.2) hn.2 hp
 obtain⟨n,hnn⟩:=Int.eq_ofNat_of_zero_le (show 0≤s.g.n by omega)
 rw [←allN_full]
 have hA0:allN s.g 0= []:=by unfold allN;simp
 have hAs:=fun k=>allN_succ s.g (k:=k)
 have hAl:=allN_len s.g
 generalize allN s.g=A at hA0 hAs hAl ⊢
 refine CallA.of pg ordZ Try.func34 rfl Try.ntmps34 Try.results34 rfl fun h0 G0 O0=>?_
 (repeat'(first|(show CA _ _ (Code.block 0 _) _ _;apply Stopped.out)|apply Sp.h|refine Lk.r rfl ?_|refine Rf.mk rfl ?_|refine xT ?_|fail));any_goals apply Stopped.mk
 refine CA.nilOwn 3 76 18 msgC rfl fun w0=>?_
 apply Sp.h
 refine CA.loop (fun x:Nat×Value=>⟨[(0,pm p),(3, .ow x.2),(10,it s.g.n),(11,it (x.1:Nat))],arrR x.2 76 18 (A x.1) msgC :: nodR p pe pl ve vl s⟩) (fun x=>x.1≤n) (fun x=>n - x.1) (0,w0) (by simp only [hA0];exact xE) (zZ _) ?_
 rintro⟨i,w⟩ hi
 simp only at hi
 simp only
 have hal:=hAl i
 by_cases hin:i < n
 ·have hsu:=hAs i (by omega)
  have hsi:=hs (i:Nat)
  obtain⟨M,c,hq⟩:∃M c,sendF s.g i=(M,c):=⟨_,_,rfl⟩
  rw [hq] at hsi hsu
  simp only at hsi hsu
  by_cases hc:c=0
  ·rw [if_pos hc] at hsu
   repeat'(first|apply Sp.h|refine Lk.r rfl ?_|refine Rf.mk rfl ?_|refine xA ?_|refine xT ?_|fail)
   refine xW (hsi) ?_
   rintro _ _ ⟨rfl,rfl⟩
   repeat'(first|apply Sp.h|refine Lk.r rfl ?_|refine Rf.mk rfl ?_|refine xA ?_|refine xP ?_|apply All.mk|refine xU ?_|refine xT ?_|refine Ce.r ?_|refine Ch.l ⟨rfl,rfl⟩ ?_|(apply SetAsk.r;focus repeat' constructor)|(apply Fk.r;focus repeat' first|infer_instance|constructor)|refine xN ?_|refine Rf.mk ⟨rfl,rfl⟩ ?_|refine Rf.mk ⟨rfl,rfl,rfl⟩ ?_|(apply Mp.lit;(focus repeat(first|exact MpL.nil|(apply MpL.cons;(focus rfl))|(apply MpL.inv;(focus repeat constructor);(focus infer_instance)))))|refine xO ?_|intro _)
   rw [←hsu]
   all_goals exact PA.lp (i+1,_) xE ⟨by omega,by simp only;omega⟩
  ·rw [if_neg hc] at hsu
   repeat'(first|apply Sp.h|refine Lk.r rfl ?_|refine Rf.mk rfl ?_|refine xA ?_|refine xT ?_|fail)
   refine xW (hsi) ?_
   rintro _ _ ⟨rfl,rfl⟩
   repeat'(first|apply Sp.h|refine Lk.r rfl ?_|refine Rf.mk rfl ?_|refine xB ?_|apply All.mk|refine xT ?_|(apply SetAsk.r;focus repeat' constructor)|refine xN ?_|refine xO ?_|intro _)
   rw [←hsu]
   all_goals exact PA.lp (i+1,w) xE ⟨by omega,by simp only;omega⟩
 ·have:i=n:=by omega
  subst this
  rw [show s.g.n.toNat=i by omega]
  repeat'(first|apply Sp.h|refine Lk.r rfl ?_|refine Rf.mk rfl ?_|refine xB ?_|refine xT ?_|refine xV ?_|refine xN ?_|fail)
  all_goals exact⟨_,_, .one (.same (.z)),_,rfl,rfl⟩
end
abbrev MonT (l:List EntS):Prop:=l.Pairwise fun a b=>a.term≤b.term
theorem mon_get{l:List EntS}(h:MonT l){i j:Nat}{a b:EntS}(hij:i≤j)(ha:l[i]?=some a)(hb:l[j]?=some b) : a.term≤b.term:=by
 rcases Nat.lt_or_ge i j with h1|h1
 ·obtain⟨hi,rfl⟩:=zS.1 ha
  obtain⟨hj,rfl⟩:=zS.1 hb
  exact List.pairwise_iff_getElem.1 h i j hi hj h1
 ·have:i=j:=by omega
  subst this
  rw [ha] at hb;cases hb;exact Int.le_refl _
theorem trmE_at{l:List EntS}{j:Nat}{e:EntS}(h:l[j]?=some e) : trmE l j=e.term:=by unfold trmE;rw [h];rfl
theorem trmI_at{l:List EntS}{j:Nat}{e:EntS}(h:l[j]?=some e) : trmI l ((j+1:Nat):Int)=e.term:=by
 unfold trmI
 rw [if_neg (by omega),show(((j+1:Nat):Int) - 1).toNat=j by omega,trmE_at h]
theorem val_iff{n:Int}{l:List EntS} : valB n l=true↔(∀e∈l,rigB n e=true)∧MonT l∧l.length≤1024:=by
 unfold valB
 rw [Bool.and_eq_true,decide_eq_true_iff]
 constructor
 ·rintro⟨h1,h2⟩
  have hok:∀(k:Nat) (e:EntS),l[k]?=some e→rigB n e=true∧(k=0∨trmE l (k - 1)≤e.term):=fun k e he=>by
   have h3:=List.all_eq_true.1 h1 k (List.mem_range.2 (zS.1 he).1)
   unfold okE at h3
   rw [he,Bool.and_eq_true] at h3
   exact⟨h3.1,of_decide_eq_true h3.2⟩
  refine⟨fun e he=>?_, ?_,h2⟩
  ·obtain⟨k,hk⟩:=zO he
   exact(hok k e hk).1
  ·rw [MonT,List.pairwise_iff_getElem]
   intro i j hi hj hij
   induction j with
   | zero=>omega
   | succ j ih =>
    have h3:=((hok (j+1) _ (zE hj)).2).resolve_left (by omega)
    rw [Nat.add_sub_cancel,trmE_at (zE (show j < l.length by omega))] at h3
    by_cases hij2:i=j
    ·subst hij2;exact h3
    ·have:=ih (by omega) (by omega)
     omega
 ·rintro⟨h1,h2,h3⟩
  refine⟨List.all_eq_true.2 fun k hk=>?_,h3⟩
  rw [List.mem_range] at hk
  have he:=zE hk
  unfold okE
  rw [he,Bool.and_eq_true]
  refine⟨h1 _ (List.getElem_mem hk),zT ?_⟩
  by_cases hk0:k=0
  ·exact .inl hk0
  ·have h4:=zE (show k - 1 < l.length by omega)
   rw [trmE_at h4]
   exact .inr (mon_get h2 (by omega) h4 he)
theorem val_snoc{n:Int}{l:List EntS}{e:EntS}(hv:valB n l=true)(hr:rigB n e=true)(ht:trmI l (l.length:Nat)≤e.term)(hl:l.length < 1024) : valB n (l ++ [e])=true:=by
 obtain⟨h1,h2,h3⟩:=val_iff.1 hv
 refine val_iff.2 ⟨fun a ha=>?_, ?_,by simp;omega⟩
 ·rcases zV.1 ha with ha|ha
  ·exact h1 a ha
  ·rw [zH.1 ha];exact hr
 ·rw [MonT,List.pairwise_append]
  refine⟨h2,List.pairwise_singleton _ _,fun a ha b hb=>?_⟩
  rw [zH.1 hb]
  obtain⟨i,hi⟩:=zO ha
  have hil:=(zS.1 hi).1
  obtain⟨k,hk⟩:∃k,l.length=k+1:=⟨l.length - 1,by omega⟩
  have hz:=zE (show k < l.length by omega)
  rw [hk,trmI_at hz] at ht
  have:=mon_get h2 (by omega) hi hz
  omega
theorem rig_ent0{n t:Int}(h:1≤t∧t≤1048576) : rigB n (ent0 t)=true:=by
 unfold rigB ent0 plainB
 simp [h]
theorem trmI_snoc(l:List EntS)(e:EntS) : trmI (l ++ [e]) ((l ++ [e]).length:Nat)=e.term:=by
 rw [zP,List.length_singleton]
 exact trmI_at (by simp)
theorem lead_ok{g:LogN}{t:Int}(hc:(leadF g t).2.2=0) : 1≤t∧t≤1048576∧trmI g.ents (g.ents.length:Nat)≤t∧g.ents.length < 1024∧leadF g t=(begF { g with ents:=g.ents ++ [ent0 t],leads:=t } (g.ents.length+1) 5,((g.ents.length:Nat):Int)+1,(0:Int)):=by
 unfold leadF at hc ⊢
 split at hc
 ·cases hc
 ·split at hc
  ·cases hc
  ·rename_i h1 h2
   rw [if_neg h1,if_neg h2]
   exact⟨by omega,by omega,by omega,by omega,rfl⟩
theorem lead_no{g:LogN}{t:Int}(hc:(leadF g t).2.2≠0) : (leadF g t).1=g:=by
 unfold leadF at hc ⊢
 split
 ·rfl
 ·split
  ·rfl
  ·rename_i h1 h2
   rw [if_neg h1,if_neg h2] at hc
   exact absurd rfl hc
theorem getO_cases(g:LogN)(r:Int) : getO g r=g.o0∨getO g r=g.o1∨getO g r=g.o2∨getO g r=g.o3∨getO g r=g.o4:=by
 unfold getO
 by_cases h0:r=0
 ·rw [if_pos h0];exact .inl rfl
 rw [if_neg h0]
 by_cases h1:r=1
 ·rw [if_pos h1];exact .inr (.inl rfl)
 rw [if_neg h1]
 by_cases h2:r=2
 ·rw [if_pos h2];exact .inr (.inr (.inl rfl))
 rw [if_neg h2]
 by_cases h3:r=3
 ·rw [if_pos h3];exact .inr (.inr (.inr (.inl rfl)))
 rw [if_neg h3]
 exact .inr (.inr (.inr (.inr rfl)))
theorem begF_get(g:LogN)(x:Int)(r:Int) : getO (begF g x 5) r=(x,0):=by
 rcases getO_cases (begF g x 5) r with h|h|h|h|h <;> rw [h] <;> rfl
theorem getO_setO(g:LogN)(a b:Int)(x:Int×Int) : getO (setO g a x) b=x∨getO (setO g a x) b=getO g b:=by
 unfold setO getO
 repeat' split
 all_goals first
  | exact .inl rfl
  | exact .inr rfl
  | (exfalso;omega)
theorem setO_base(g:LogN)(a:Int)(x:Int×Int) : (setO g a x).n=g.n∧(setO g a x).i=g.i∧(setO g a x).ents=g.ents∧(setO g a x).commit=g.commit∧(setO g a x).leads=g.leads:=by
 unfold setO
 repeat' split
 all_goals exact⟨rfl,rfl,rfl,rfl,rfl⟩
structure LogK (g:LogN):Prop where
 n:1≤g.n∧g.n≤5
 i:0≤g.i∧g.i < g.n
 val:valB g.n g.ents=true
 ld:0≤g.leads∧g.leads≤1048576
 lt:g.leads≠0→trmI g.ents (g.ents.length:Nat)≤g.leads
 c:0≤g.commit∧g.commit≤g.ents.length
 pl:g.leads≠0→∀r,1≤(getO g r).1∧(getO g r).1≤g.ents.length+1∧0≤(getO g r).2∧(getO g r).2≤g.ents.length
 ps:∀r,0≤(getO g r).2∧(getO g r).2≤2000∧0≤(getO g r).1∧(getO g r).1≤2001
theorem LogK.len{g:LogN}(h:LogK g) : g.ents.length≤1024:=val_len h.val
theorem LogK.vot{g:LogN}(h:LogK g) : VotL g.ents:=val_votL h.val h.n.2
theorem LogK.prgL{g:LogN}(h:LogK g)(hl:g.leads≠0) : PrgL g:=fun r _ _=>by
 obtain⟨h1,h2,_⟩:=h.pl hl r
 exact⟨((getO g r).1 - 1).toNat,by omega,by omega⟩
theorem LogK.prgS{g:LogN}(h:LogK g) : PrgS g:=fun r=>by
 obtain⟨h1,h2,h3,h4⟩:=h.ps r
 exact⟨⟨h1,by omega⟩,by omega,by omega⟩
theorem LogK.lead{g:LogN}(h:LogK g)(t:Int) : LogK (leadF g t).1:=by
 by_cases hc:(leadF g t).2.2=0
 ·obtain⟨h1,h2,h3,h4,h5⟩:=lead_ok hc
  rw [h5]
  refine⟨h.n,h.i,val_snoc h.val (rig_ent0 ⟨h1,h2⟩) h3 h4,⟨show 0≤t by omega,h2⟩,fun _=>?_,⟨h.c.1, ?_⟩,fun _ r=>?_,fun r=>?_⟩
  ·show trmI (g.ents ++ [ent0 t]) ((g.ents ++ [ent0 t]).length:Nat)≤t
   rw [trmI_snoc];exact Int.le_refl _
  ·show g.commit≤((g.ents ++ [ent0 t]).length:Nat)
   have:=h.c.2
   rw [zP,List.length_singleton];omega
  ·show 1≤(getO (begF _ _ 5) r).1∧(getO (begF _ _ 5) r).1≤((g.ents ++ [ent0 t]).length:Nat)+1∧_
   rw [begF_get,zP,List.length_singleton]
   exact⟨by simp only;omega,by simp only;omega,Int.le_refl _,by simp only;omega⟩
  ·show 0≤(getO (begF _ _ 5) r).2∧_
   rw [begF_get]
   exact⟨Int.le_refl _,by simp only;omega,by simp only;omega,by simp only;omega⟩
 ·rw [lead_no hc];exact h
theorem LogK.stop{g:LogN}(h:LogK g) : LogK (stpF g):=⟨h.n,h.i,h.val,⟨Int.le_refl 0,by show(0:Int)≤1048576;omega⟩,fun h9=>absurd rfl h9,h.c,fun h9=>absurd rfl h9,h.ps⟩
theorem advN_spec(g:LogN)(vs:List Int) :∀x:Nat,(advN g vs x).1=g∨∃c:Nat,(advN g vs x).1= { g with commit:=(c:Int) }∧g.commit < c∧c≤x∧trmI g.ents c=g.leads∧majF vs (havL g c g.n.toNat)=true
 | 0=> .inl rfl
 | x+1=>by
  unfold advN
  split
  ·rename_i h
   split
   ·rename_i hm
    exact .inr ⟨x+1,rfl,h.1,Nat.le_refl _,h.2,hm⟩
   ·rcases advN_spec g vs x with h1|⟨c,h1,h2,h3,h4⟩
    ·exact .inl h1
    ·exact .inr ⟨c,h1,h2,by omega,h4⟩
  ·exact .inl rfl
theorem advF_spec(g:LogN)(vs:List Int) : (advF g vs).1=g∨∃c:Nat,(advF g vs).1= { g with commit:=(c:Int) }∧g.commit < c∧c≤g.ents.length∧trmI g.ents c=g.leads∧majF vs (havL g c g.n.toNat)=true∧g.leads≠0:=by
 unfold advF
 split
 ·exact .inl rfl
 ·rename_i hl
  rcases advN_spec g vs g.ents.length with h1|⟨c,h1,h2,h3,h4,h5⟩
  ·exact .inl h1
  ·exact .inr ⟨c,h1,h2,h3,h4,h5,hl⟩
theorem LogK.adv{g:LogN}(h:LogK g)(vs:List Int) : LogK (advF g vs).1:=by
 rcases advF_spec g vs with h1|⟨c,h1,h2,h3,_⟩
 ·rw [h1];exact h
 ·rw [h1]
  exact⟨h.n,h.i,h.val,h.ld,h.lt,⟨show(0:Int)≤(c:Int) by omega,show(c:Int)≤(g.ents.length:Nat) by omega⟩,h.pl,h.ps⟩
theorem adv_base(g:LogN)(vs:List Int) : (advF g vs).1.n=g.n∧(advF g vs).1.i=g.i∧(advF g vs).1.ents=g.ents∧(advF g vs).1.leads=g.leads:=by
 rcases advF_spec g vs with h1|⟨c,h1,_⟩ <;> rw [h1] <;> exact⟨rfl,rfl,rfl,rfl⟩
theorem LogK.apd{g:LogN}(h:LogK g)(m:MsgS) : LogK (apdF g m):=by
 unfold apdF
 split
 ·exact h
 rename_i hb
 have hl:g.leads≠0:=by
  intro h9
  apply hb
  unfold apdB
  rw [zF (show¬(g.leads≠0∧m.term=g.leads) from fun h=>h.1 h9),Bool.and_false]
 have hlen:=h.len
 have key:∀(x:Int×Int),(1≤x.1∧x.1≤g.ents.length+1∧0≤x.2∧x.2≤g.ents.length)→LogK (setO g m.frm x):=fun x hx=>by
  obtain⟨e1,e2,e3,e4,e5⟩:=setO_base g m.frm x
  refine⟨by rw [e1];exact h.n,by rw [e1,e2];exact h.i,by rw [e1,e3];exact h.val,by rw [e5];exact h.ld,by rw [e3,e5];exact h.lt,by rw [e3,e4];exact h.c,fun _ r=>?_,fun r=>?_⟩
  ·rw [e3]
   rcases getO_setO g m.frm r x with h9|h9 <;> rw [h9]
   ·exact hx
   ·exact h.pl hl r
  ·rcases getO_setO g m.frm r x with h9|h9 <;> rw [h9]
   ·omega
   ·exact h.ps r
 have hp:=h.pl hl m.frm
 split
 ·rename_i hg
  exact key _ ⟨by simp only;omega,by simp only;omega,by simp only;omega,by simp only;omega⟩
 ·split
  ·rename_i hg
   exact key _ ⟨by simp only;omega,by simp only;omega,by simp only;omega,by simp only;omega⟩
  ·exact h
theorem prop_spec(g:LogN)(e:EntS) : ((propF g e).2.2≠0∧(propF g e).1=g)∨((propF g e).2.2=0∧propF g e=({ g with ents:=g.ents ++ [withT e g.leads] },((g.ents.length:Nat):Int)+1,(0:Int))∧g.leads≠0∧e.kind≠0∧rigB g.n (withT e g.leads)=true∧g.ents.length < 1024):=by
 unfold propF
 split
 ·exact .inl ⟨by simp,rfl⟩
 ·rename_i h1
  split
  ·exact .inl ⟨by simp,rfl⟩
  ·rename_i h2
   split
   ·exact .inl ⟨by simp,rfl⟩
   ·rename_i h3
    refine .inr ⟨rfl,rfl,h1,fun h=>h2 (.inl h), ?_,by omega⟩
    cases hb:rigB g.n (withT e g.leads)
    ·exact absurd (.inr hb) h2
    ·rfl
theorem LogK.prop{g:LogN}(h:LogK g)(e:EntS) : LogK (propF g e).1:=by
 rcases prop_spec g e with⟨_,h1⟩|⟨_,h1,h2,h3,h4,h5⟩
 ·rw [h1];exact h
 ·rw [h1]
  refine⟨h.n,h.i,val_snoc h.val h4 (h.lt h2) h5,h.ld,fun _=>?_,⟨h.c.1, ?_⟩,fun _ r=>?_,h.ps⟩
  ·show trmI (g.ents ++ [withT e g.leads]) ((g.ents ++ [withT e g.leads]).length:Nat)≤g.leads
   rw [trmI_snoc];exact Int.le_refl _
  ·show g.commit≤((g.ents ++ [withT e g.leads]).length:Nat)
   have:=h.c.2
   rw [zP,List.length_singleton];omega
  ·show 1≤(getO g r).1∧(getO g r).1≤((g.ents ++ [withT e g.leads]).length:Nat)+1∧0≤(getO g r).2∧(getO g r).2≤((g.ents ++ [withT e g.leads]).length:Nat)
   have:=h.pl h2 r
   rw [zP,List.length_singleton];omega
structure FitP (g:LogN) (m:MsgS):Prop where
 kind:m.kind=7
 to:m.to=g.i
 frm:othF g.n g.i m.frm=true
 term:1≤m.term∧m.term≤1048576
 val:valB g.n m.ents=true
 ents:∀e∈m.ents,m.logt≤e.term∧e.term≤m.term
 commit:0≤m.commit∧m.commit≤1024
 index:0≤m.index∧m.index≤1024
 logt:0≤m.logt∧m.logt≤m.term∧(m.logt=0↔m.index=0)
theorem fit_iff{g:LogN}{m:MsgS} : fitB g m=true↔FitP g m:=by
 simp only [fitB,hedB,endB,inR,Bool.and_eq_true,decide_eq_true_eq,List.all_eq_true,entB]
 constructor
 ·rintro⟨⟨⟨⟨⟨⟨h1,h2⟩,h3⟩,h4⟩,h5⟩,h6⟩,⟨h7,h8⟩,h9⟩
  exact⟨h1,h2,h3,h4,h5,h6,h7,h8,h9⟩
 ·rintro⟨h1,h2,h3,h4,h5,h6,h7,h8,h9⟩
  exact⟨⟨⟨⟨⟨⟨h1,h2⟩,h3⟩,h4⟩,h5⟩,h6⟩,⟨h7,h8⟩,h9⟩
def MatE(g:LogN)(m:MsgS)(k:Nat) : Prop:=∀j,j < k→m.index+1+j≤g.ents.length∧trmI g.ents (m.index+1+j)=trmE m.ents j
inductive AppR (g:LogN) (m:MsgS):LogN×MsgS×Int×Int→Prop where
 | bad (c:Int):c≠0→AppR g m (g,zerM,0,c)
 | no:FitP g m→((g.ents.length:Int) < m.index∨trmI g.ents m.index≠m.logt)→AppR g m (g,msg0 8 g.i m.frm m.term (min (m.index - 1) g.ents.length) 0 false,0,0)
 | same:FitP g m→m.index≤g.ents.length→trmI g.ents m.index=m.logt→MatE g m m.ents.length→AppR g m (cmtF g m,ansM g m,0,0)
 | put (k:Nat):FitP g m→m.index≤g.ents.length→trmI g.ents m.index=m.logt→MatE g m k→k < m.ents.length→g.commit < m.index+1+k→m.index+m.ents.length≤1024→m.index+k≤g.ents.length→((g.ents.length:Int) < m.index+1+k∨trmI g.ents (m.index+1+k)≠trmE m.ents k)→
   AppR g m (cmtF { g with ents:=g.ents.take (m.index+k).toNat ++ m.ents.drop k } m,ansM g m,m.index+1+k,0)
theorem mis_false{g:LogN}{m:MsgS}{l:List EntS}{j:Nat}(h:misM g m l j=false) : m.index+1+j≤g.ents.length∧trmI g.ents (m.index+1+j)=trmE l j:=by
 have h1:=of_decide_eq_false h
 refine⟨Int.not_lt.1 fun h2=>h1 (.inl h2),Classical.byContradiction fun h2=>h1 (.inr h2)⟩
theorem app_spec(g:LogN)(m:MsgS) : AppR g m (appF g m):=by
 unfold appF
 split
 ·exact .bad 1 (by decide)
 rename_i hf
 have hfit:FitP g m:=fit_iff.1 (by cases h:fitB g m;exact absurd h hf;rfl)
 split
 ·exact .bad 9 (by decide)
 split
 ·rename_i h;exact .no hfit h
 rename_i h
 have h1:m.index≤g.ents.length:=Int.not_lt.1 fun h2=>h (.inl h2)
 have h2:trmI g.ents m.index=m.logt:=Classical.byContradiction fun h2=>h (.inr h2)
 cases hfs:fstN g m m.ents with
 | none =>
  unfold takF
  refine .same hfit h1 h2 fun j hj=>?_
  unfold fstN at hfs
  have:=List.find?_eq_none.1 hfs j (List.mem_range.2 hj)
  exact mis_false (by cases h:misM g m m.ents j;rfl;exact absurd h this)
 | some k =>
  unfold fstN at hfs
  rw [List.find?_eq_some_iff_getElem] at hfs
  obtain⟨hk1,i,hi,hik,hk2⟩:=hfs
  rw [List.getElem_range] at hik
  subst hik
  rw [List.length_range] at hi
  have hmat:MatE g m i:=fun j hj=>by
   have:=hk2 j hj
   rw [List.getElem_range] at this
   exact mis_false (by cases h:misM g m m.ents j;rfl;rw [h] at this;cases this)
  have hle:m.index+i≤g.ents.length:=by
   cases i with
   | zero=>omega
   | succ i=>have:=(hmat i (by omega)).1;omega
  show AppR g m (takF g m (some i))
  simp only [takF]
  split
  ·exact .bad 13 (by decide)
  ·split
   ·exact .bad 8 (by decide)
   ·exact .put i hfit h1 h2 hmat hi (by omega) (by omega) hle (of_decide_eq_true hk1)
theorem val_put{g:LogN}{m:MsgS}{k:Nat}(hv:valB g.n g.ents=true)(hf:FitP g m)(h2:trmI g.ents m.index=m.logt)(hm:MatE g m k)(hk:k < m.ents.length)(hl:m.index+m.ents.length≤1024)(hle:m.index+k≤g.ents.length) : valB g.n (g.ents.take (m.index+k).toNat ++ m.ents.drop k)=true:=by
 obtain⟨v1,v2,v3⟩:=val_iff.1 hv
 obtain⟨w1,w2,w3⟩:=val_iff.1 hf.val
 have hx:=hf.index.1
 refine val_iff.2 ⟨fun a ha=>?_, ?_, ?_⟩
 ·rcases zV.1 ha with ha|ha
  ·exact v1 a (zW ha)
  ·exact w1 a (List.mem_of_mem_drop ha)
 ·rw [MonT,List.pairwise_append]
  refine⟨v2.sublist (List.take_sublist _ _),w2.sublist (List.drop_sublist _ _),fun a ha b hb=>?_⟩
  obtain⟨i,hi⟩:=zO ha
  rw [List.getElem?_take] at hi
  split at hi
  ·rename_i hik
   have hbk:∀e,m.ents[k]?=some e→e.term≤b.term:=fun e he=>by
    obtain⟨j,hj⟩:=zO hb
    rw [List.getElem?_drop] at hj
    exact mon_get w2 (by omega) he hj
   have hz:=zE (show(m.index+k).toNat - 1 < g.ents.length by omega)
   have h3:=mon_get v2 (show i≤(m.index+k).toNat - 1 by omega) hi hz
   have h4:=trmI_at hz
   rw [show(((m.index+k).toNat - 1+1:Nat):Int)=m.index+k by omega] at h4
   have hb2:=zE hk
   have h5:=hbk _ hb2
   cases k with
   | zero =>
    have h6:trmI g.ents (m.index+((0:Nat):Int))=m.logt:=by rw [←h2];congr 1;omega
    rw [h6] at h4
    have:=(hf.ents _ (List.getElem_mem hk)).1
    omega
   | succ k =>
    have h6:=(hm k (by omega)).2
    rw [show m.index+1+(k:Int)=m.index+((k+1:Nat):Int) by omega,h4] at h6
    have hb3:=zE (show k < m.ents.length by omega)
    rw [trmE_at hb3] at h6
    have:=mon_get w2 (show k≤k+1 by omega) hb3 hb2
    omega
  ·cases hi
 ·rw [zP,zN,List.length_drop]
  omega
theorem LogK.app{g:LogN}(h:LogK g)(hl:g.leads=0)(m:MsgS) : LogK (appF g m).1:=by
 have hs:=app_spec g m
 generalize appF g m=r at hs
 cases hs with
 | bad c _=>exact h
 | no _ _=>exact h
 | same hf h1 h2 hm =>
  have hc:=h.c
  have hcm:=hf.commit
  refine⟨h.n,h.i,h.val,h.ld,fun h9=>absurd hl h9, ?_,fun h9=>absurd hl h9,h.ps⟩
  show 0≤max g.commit (min m.commit (m.index+m.ents.length))∧max g.commit (min m.commit (m.index+m.ents.length))≤g.ents.length
  have:m.index+m.ents.length≤g.ents.length:=by
   cases hk:m.ents.length with
   | zero=>omega
   | succ k=>have:=(hm k (by omega)).1;omega
  omega
 | put k hf h1 h2 hm hk hcm hle hix _ =>
  have hc:=h.c
  have hcx:=hf.commit
  have hx:=hf.index.1
  refine⟨h.n,h.i,val_put h.val hf h2 hm hk hle hix,h.ld,fun h9=>absurd hl h9, ?_,fun h9=>absurd hl h9,h.ps⟩
  show 0≤max g.commit (min m.commit (m.index+m.ents.length))∧max g.commit (min m.commit (m.index+m.ents.length))≤((g.ents.take (m.index+k).toNat ++ m.ents.drop k).length:Nat)
  rw [zP,zN,List.length_drop]
  omega
theorem app_base(g:LogN)(m:MsgS) : (appF g m).1.n=g.n∧(appF g m).1.i=g.i∧(appF g m).1.leads=g.leads:=by
 have hs:=app_spec g m
 generalize appF g m=r at hs
 cases hs <;> exact⟨rfl,rfl,rfl⟩
theorem apd_base(g:LogN)(m:MsgS) : (apdF g m).n=g.n∧(apdF g m).i=g.i∧(apdF g m).ents=g.ents∧(apdF g m).commit=g.commit∧(apdF g m).leads=g.leads:=by
 unfold apdF
 split
 ·exact⟨rfl,rfl,rfl,rfl,rfl⟩
 ·split
  ·exact setO_base _ _ _
  ·split
   ·exact setO_base _ _ _
   ·exact⟨rfl,rfl,rfl,rfl,rfl⟩
theorem lead_base(g:LogN)(t:Int) : (leadF g t).1.n=g.n∧(leadF g t).1.i=g.i∧(leadF g t).1.commit=g.commit:=by
 by_cases hc:(leadF g t).2.2=0
 ·rw [(lead_ok hc).2.2.2.2];exact⟨rfl,rfl,rfl⟩
 ·rw [lead_no hc];exact⟨rfl,rfl,rfl⟩
theorem prop_base(g:LogN)(e:EntS) : (propF g e).1.n=g.n∧(propF g e).1.i=g.i∧(propF g e).1.commit=g.commit∧(propF g e).1.leads=g.leads:=by
 rcases prop_spec g e with⟨_,h1⟩|⟨_,h1,_⟩ <;> rw [h1] <;> exact⟨rfl,rfl,rfl,rfl⟩
structure EleK (e:EleN):Prop where
 r:ResE e.n e.i e.term e.vote
 sl:0≤e.silent∧e.silent≤100
theorem EleK.ok{e:EleN}(h:EleK e) : EleOK e:=⟨h.r.1,h.r.2.1,h.r.2.2.1,h.sl⟩
theorem see_base(e:EleN)(t:Int) : (seeF e t).n=e.n∧(seeF e t).i=e.i∧(seeF e t).silent=e.silent∧e.term≤(seeF e t).term∧(seeF e t).votes.length≤e.votes.length:=by
 unfold seeF
 split
 ·exact⟨rfl,rfl,rfl,by simp only;omega,zZ _⟩
 ·exact⟨rfl,rfl,rfl,Int.le_refl _,Nat.le_refl _⟩
theorem EleK.see{e:EleN}(h:EleK e)(t:Int) : EleK (seeF e t):=by
 unfold seeF
 split
 ·rename_i ht
  obtain⟨⟨n1,n2,n3,n4,n5⟩,hs⟩:=h
  exact⟨⟨n1,n2,⟨by simp only;omega,ht.2⟩,⟨Int.le_refl _,by simp only;omega⟩,fun _=>rfl⟩,hs⟩
 ·exact h
theorem win_base(e:EleN)(vs:List Int) : (winF e vs).n=e.n∧(winF e vs).i=e.i∧(winF e vs).term=e.term∧(winF e vs).vote=e.vote∧(winF e vs).votes=e.votes∧(winF e vs).silent=e.silent:=by
 unfold winF
 split <;> exact⟨rfl,rfl,rfl,rfl,rfl,rfl⟩
theorem EleK.win{e:EleN}(h:EleK e)(vs:List Int) : EleK (winF e vs):=by
 obtain⟨h1,h2,h3,h4,_,h6⟩:=win_base e vs
 exact⟨by rw [h1,h2,h3,h4];exact h.r,by rw [h6];exact h.sl⟩
theorem EleK.stand{e:EleN}(h:EleK e)(vs:List Int)(ht:e.term < 1048576) : EleK (standF e vs):=by
 refine EleK.win (e:={ e with term:=e.term+1,vote:=e.i,role:=1,leader:= -1,votes:= [e.i],silent:=0 }) ⟨⟨h.r.1,h.r.2.1, ?_, ?_, ?_⟩, ?_⟩ vs
 ·have:=h.r.2.2.1
  exact⟨by simp only;omega,by simp only;omega⟩
 ·have:=h.r.2.1
  exact⟨by simp only;omega,by simp only;omega⟩
 ·have:=h.r.2.2.1
  intro h9
  have h9:e.term+1=0:=h9
  omega
 ·exact⟨Int.le_refl _,by simp only;omega⟩
theorem tick_base(e:EleN)(vs:List Int)(x y:Int) : (tickF e vs x y).1.n=e.n∧(tickF e vs x y).1.i=e.i∧(tickF e vs x y).1.votes.length≤e.votes.length+1:=by
  unfold tickF
  repeat' split
  all_goals first
    | exact⟨rfl,rfl,Nat.le_succ _⟩
    | (obtain⟨h1,h2,_,_,h5,_⟩:=win_base { e with term:=e.term+1,vote:=e.i,role:=1,leader:= -1,votes:= [e.i],silent:=0 } vs
       exact⟨h1,h2,by show(winF _ vs).votes.length≤_;rw [h5];simp⟩)
theorem EleK.tick{e:EleN}(h:EleK e)(vs:List Int)(x y:Int) : EleK (tickF e vs x y).1:=by
 have hi:=h.r.2.1
 have hn:=h.r.1
 have hs:=h.sl
 unfold tickF
 split
 ·exact h
 ·split
  ·exact⟨h.r,⟨by simp only;omega,by simp only;omega⟩⟩
  ·split
   ·exact⟨h.r,⟨Int.le_refl _,by simp only;omega⟩⟩
   ·rename_i h3
    have ht:e.term < 1048576:=Int.not_le.1 fun h9=>h3 (.inr h9)
    split
    ·exact h.stand vs ht
    ·exact h.stand vs ht
theorem oth_iff{n i r:Int} : othF n i r=true↔0≤r∧r < n∧r≠i:=decide_eq_true_iff
theorem EleK.recv{e:EleN}(h:EleK e)(m:MsgS)(vs:List Int)(x y:Int) : EleK (recvF e m vs x y).1:=by
 unfold recvF
 split
 ·exact h
 rename_i hc
 have ho:othF e.n e.i m.frm=true:=by
  cases hb:othF e.n e.i m.frm
  ·exact absurd (.inr (.inr (.inl hb))) hc
  ·rfl
 have ho:=oth_iff.1 ho
 have ht:1≤m.term:=Int.not_lt.1 fun h9=>hc (.inr (.inr (.inr (.inl h9))))
 obtain⟨s1,s2,s3,s4,_⟩:=see_base e m.term
 have hz:=h.see m.term
 generalize seeF e m.term=z at hz s1 s2 s3 s4
 split
 ·show EleK (askedF z m x y).1
  unfold askedF
  split
  ·rename_i hg
   have hg1:=of_decide_eq_true (Bool.and_eq_true _ _▸hg).1
   refine⟨⟨hz.r.1,hz.r.2.1,hz.r.2.2.1,⟨by simp only;omega,by simp only;omega⟩,fun h9=>?_⟩,⟨Int.le_refl _,by simp only;omega⟩⟩
   have h9:z.term=0:=h9
   omega
  ·exact hz
 ·show EleK (votedF z m vs)
  unfold votedF
  split
  ·exact EleK.win (e:={ z with votes:=z.votes ++ [m.frm] }) ⟨hz.r,hz.sl⟩ vs
  ·exact hz
theorem recv_base(e:EleN)(m:MsgS)(vs:List Int)(x y:Int) : (recvF e m vs x y).1.n=e.n∧(recvF e m vs x y).1.i=e.i∧(recvF e m vs x y).1.votes.length≤e.votes.length+1:=by
 unfold recvF
 split
 ·exact⟨rfl,rfl,Nat.le_succ _⟩
 obtain⟨s1,s2,s3,s4,s5⟩:=see_base e m.term
 generalize seeF e m.term=z at s1 s2 s3 s4 s5
 split
 ·show(askedF z m x y).1.n=e.n∧(askedF z m x y).1.i=e.i∧(askedF z m x y).1.votes.length≤e.votes.length+1
  unfold askedF
  split <;> exact⟨s1,s2,by simp only;omega⟩
 ·show(votedF z m vs).n=e.n∧(votedF z m vs).i=e.i∧(votedF z m vs).votes.length≤e.votes.length+1
  unfold votedF
  split
  ·obtain⟨h1,h2,_,_,h5,_⟩:=win_base { z with votes:=z.votes ++ [m.frm] } vs
   exact⟨h1.trans s1,h2.trans s2,by rw [h5,zP,List.length_singleton];omega⟩
  ·exact⟨s1,s2,by omega⟩
theorem EleK.follow{e:EleN}(h:EleK e)(l t:Int) : EleK (followF e l t).1:=by
 unfold followF
 have hz:=h.see t
 split
 ·exact h
 ·split
  ·exact hz
  ·exact⟨hz.r,⟨Int.le_refl _,by simp only;omega⟩⟩
theorem follow_base(e:EleN)(l t:Int) : (followF e l t).1.n=e.n∧(followF e l t).1.i=e.i∧(followF e l t).1.votes.length≤e.votes.length:=by
 obtain⟨s1,s2,_,_,s5⟩:=see_base e t
 unfold followF
 split
 ·exact⟨rfl,rfl,Nat.le_refl _⟩
 ·split <;> exact⟨s1,s2,s5⟩
structure NodK (s:NodS):Prop where
 g:LogK s.g
 e:EleK s.e
 en:s.e.n=s.g.n
 ei:s.e.i=s.g.i
 tk:0≤s.ticks∧s.ticks≤2
theorem NodK.len{s:NodS}(h:NodK s) : s.g.ents.length≤1024:=h.g.len
theorem NodK.kA{s:NodS}(h:NodK s) : NodK (setA s).1:=by
 unfold setA
 split
 ·split
  ·exact⟨h.g,h.e.see _,(see_base _ _).1.trans h.en,(see_base _ _).2.1.trans h.ei,h.tk⟩
  ·exact⟨h.g.lead _,h.e,h.en.trans (lead_base _ _).1.symm,h.ei.trans (lead_base _ _).2.1.symm,⟨Int.le_refl _,by simp only;omega⟩⟩
 ·exact h
theorem NodK.kB{s:NodS}(h:NodK s) : NodK (setB s):=by
 unfold setB
 split
 ·exact h
 ·exact⟨h.g.stop,h.e,h.en,h.ei,h.tk⟩
theorem NodK.kC{s:NodS}(h:NodK s) : NodK (setC s):=by
 have hb:=adv_base s.g (votN s)
 have hg:=h.g.adv (votN s)
 unfold setC
 split
 ·exact h
 ·split
  ·exact⟨hg.stop,h.e.see _,((see_base _ _).1.trans h.en).trans hb.1.symm,((see_base _ _).2.1.trans h.ei).trans hb.2.1.symm,h.tk⟩
  ·exact⟨hg,h.e,h.en.trans hb.1.symm,h.ei.trans hb.2.1.symm,h.tk⟩
theorem NodK.kF{s:NodS}(h:NodK s) : NodK (setF s).1:=h.kA.kB.kC
theorem NodK.kTik{s:NodS}(h:NodK s) : NodK (tikN s).1:=by
 have hb:=tick_base s.e (votN s) s.g.ents.length (lstT s.g)
 have he:=h.e.tick (votN s) s.g.ents.length (lstT s.g)
 have ht:=h.tk
 unfold tikN
 split
 ·split
  ·exact⟨h.g,he,hb.1.trans h.en,hb.2.1.trans h.ei,⟨Int.le_refl _,by simp only;omega⟩⟩
  ·exact⟨h.g,he,hb.1.trans h.en,hb.2.1.trans h.ei,⟨by simp only;omega,by simp only;omega⟩⟩
 ·exact⟨h.g,he,hb.1.trans h.en,hb.2.1.trans h.ei,h.tk⟩
theorem NodK.kRcv{s:NodS}(h:NodK s)(m:MsgS) : NodK (rcvN s m).1:=by
 unfold rcvN
 split
 ·have hb:=recv_base s.e m (votN s) s.g.ents.length (lstT s.g)
  exact⟨h.g,h.e.recv m _ _ _,hb.1.trans h.en,hb.2.1.trans h.ei,h.tk⟩
 split
 ·have hb:=follow_base s.e m.frm m.term
  have he:=h.e.follow m.frm m.term
  unfold appN
  split
  ·exact h
  split
  ·have ha:=app_base (stpF s.g) m
   exact⟨h.g.stop.app rfl m,he,(hb.1.trans h.en).trans ha.1.symm,(hb.2.1.trans h.ei).trans ha.2.1.symm,h.tk⟩
  ·exact⟨h.g,he,hb.1.trans h.en,hb.2.1.trans h.ei,h.tk⟩
 split
 ·have hb:=see_base s.e m.term
  have he:=h.e.see m.term
  unfold apdN
  split
  ·exact h
  split
  ·exact⟨h.g,he,hb.1.trans h.en,hb.2.1.trans h.ei,h.tk⟩
  ·have ha:=apd_base s.g m
   exact⟨h.g.apd m,he,(hb.1.trans h.en).trans ha.1.symm,(hb.2.1.trans h.ei).trans ha.2.1.symm,h.tk⟩
 ·exact h
theorem NodK.kPro{s:NodS}(h:NodK s)(e:EntS) : NodK { s with g:=(propF s.g e).1,ticks:=0 }:=by
 have ha:=prop_base s.g e
 exact⟨h.g.prop e,h.e,h.en.trans ha.1.symm,h.ei.trans ha.2.1.symm,⟨Int.le_refl _,by simp only;omega⟩⟩
section
variable (p pe pl:Nat) (ve vl:Value) (s:NodS)
theorem goneB_iff{n i:Int}{g:LogN} : goneB n i g=decide (0 < lastF g.ents∧(lastF g.ents:Int)≤g.commit∧¬i∈votA g.ents (lastF g.ents)):=rfl
def stO : Nat→Ord×(Nat→Cls):=fun id=>bif Nat.beq id 12 then(.one 0 (.one 1 (.one 2 (.one 4 (.alt 3 (.one 5 (.one 6 .done)) (.alt 5 (.one 3 (.one 6 .done)) (.none)))))),clOf [.pure, .pure, .pure, .ext, .pure, .loud, .loud]) else(.done,clOf [])
theorem settle_a(hk:NodK s) : CallA Try.prog 52 [pm p] (nodR p pe pl ve vl s) fun r own=>∃ve' vl' w,r= .ow w∧own=arrR w 76 18 (setF s).2 msgC :: nodR p pe pl ve' vl' (setF s).1:=by
 have het:=eterm_a pe ve s.e
 have hle:=nleader_a p pe pl ve vl s
 have hll:=lleads_a pl vl s.g
 have hlen:=hk.len
 have hn:=hk.g.n
 have hld:=lead_a pl vl s.g s.e.term (by omega)
 have hA:=hk.kA
 have hB:=hk.kA.kB
 unfold setF
 refine CallA.of pg stO Try.func52 rfl Try.ntmps52 Try.results52 rfl fun h0 G0 O0=>?_
 (repeat'(first|(show CA _ _ (Code.region 2 _ _) _ _;apply Stopped.out)|apply Sp.h|refine Lk.r rfl ?_|refine Rf.mk rfl ?_|fail));any_goals apply Stopped.mk
 refine CA.nilOwn 3 76 18 msgC rfl fun w0=>?_
 repeat'(first|apply Sp.h|refine Lk.r rfl ?_|refine Rf.mk rfl ?_|refine xT ?_|fail)
 refine xW (het) ?_
 rintro _ _ ⟨rfl,rfl⟩
 (repeat'(first|(show CA _ _ (Code.region 3 _ _) _ _;apply Stopped.out)|apply Sp.h|refine Lk.r rfl ?_|fail));any_goals apply Stopped.mk
 refine CA.cut (fun z:Bool=>⟨[(0,pm p),(3, .ow w0),(4,it s.e.term),(28,bl z)],arrR w0 76 18 ([]:List MsgS) msgC :: nodR p pe pl ve vl s⟩) (fun z=>z=decide (s.e.role=2∧s.g.leads≠s.e.term)) ?_ ?_
 ·by_cases h1:s.e.role=2
  ·rw [zT h1] at hle
   repeat'(first|apply Sp.h|refine Lk.r rfl ?_|refine Rf.mk rfl ?_|fail)
   refine xW (hle) ?_
   rintro _ _ ⟨rfl,rfl⟩
   repeat'(first|apply Sp.h|refine Lk.r rfl ?_|refine Rf.mk rfl ?_|refine xT ?_|fail)
   refine xW (hll) ?_
   rintro _ _ ⟨rfl,rfl⟩
   repeat'(first|apply Sp.h|refine Lk.r rfl ?_|fail)
   all_goals exact PA.lp _ xE (zD.2 (by omega))
  ·rw [zF h1] at hle
   repeat'(first|apply Sp.h|refine Lk.r rfl ?_|refine Rf.mk rfl ?_|fail)
   refine xW (hle) ?_
   rintro _ _ ⟨rfl,rfl⟩
   repeat'(first|apply Sp.h|refine Lk.r rfl ?_|fail)
   all_goals exact PA.lp _ xE (zF (fun h=>h1 h.1)).symm
 rintro z hz
 (repeat'(first|(show CA _ _ (Code.cond (Operand.tmp 28) _ _) _ _;apply Stopped.out)|apply Sp.h|fail));any_goals apply Stopped.mk
 refine CA.cut (fun y:Value×Value×Value=>⟨[(0,pm p),(3, .ow y.1)],arrR y.1 76 18 (setA s).2 msgC :: nodR p pe pl y.2.1 y.2.2 (setA s).1⟩) (fun _=>True) ?_ ?_
 ·by_cases hc:s.e.role=2∧s.g.leads≠s.e.term
  ·have hzt:z=true:=hz.trans (zT hc)
   subst hzt
   have hS:setA s=if(leadF s.g s.e.term).2.2≠0 then({ s with e:=resF s.e },[]) else({ s with g:=(leadF s.g s.e.term).1,ticks:=0 },allM (leadF s.g s.e.term).1):=if_pos hc
   rw [hS]
   by_cases hc2:(leadF s.g s.e.term).2.2≠0
   ·rw [if_pos hc2]
    rw [lead_no hc2] at hld
    have hre:=fun v=>nresign_a p pe pl ve v s hk.e.r.2.2.1
    generalize leadF s.g s.e.term=q at hld hc2
    repeat'(first|apply Sp.h|refine Lk.r rfl ?_|refine Rf.mk rfl ?_|refine xT ?_|fail)
    refine xW (hld) ?_
    rintro _ _ ⟨rfl,v1,rfl⟩
    repeat'(first|apply Sp.h|refine Lk.r rfl ?_|refine Rf.mk rfl ?_|refine xB ?_|fail)
    refine xW (hre _) ?_
    rintro _ _ ⟨rfl,v2,rfl⟩
    repeat'(first|apply Sp.h|fail)
    all_goals exact PA.lp (w0,_,_) xE trivial
   ·rw [if_neg hc2]
    have hk1:=hk.g.lead s.e.term
    have hc3:(leadF s.g s.e.term).2.2=0:=Classical.byContradiction hc2
    have hal:=fun v=>nall_a p pe pl ve v { s with g:=(leadF s.g s.e.term).1 } hk1.n hk1.val hk1.prgL
    have hbs:=lead_base s.g s.e.term
    generalize leadF s.g s.e.term=q at hld hc3 hal hbs
    obtain⟨q1,q2,q3⟩:=q
    simp only at hld hc3 hal hbs
    subst hc3
    obtain⟨b1,b2,_⟩:=hbs
    repeat'(first|apply Sp.h|refine Lk.r rfl ?_|refine Rf.mk rfl ?_|refine xT ?_|fail)
    refine xW (hld) ?_
    rintro _ _ ⟨rfl,v1,rfl⟩
    repeat'(first|apply Sp.h|refine Lk.r rfl ?_|refine Rf.mk rfl ?_|refine xA ?_|fail)
    have hal:=hal v1
    rw [show nodR p pe pl ve v1 { s with g:=q1 } = [blkR p 54 [pm pe,pm pl,it s.g.n,it s.g.i,it s.ticks],blkR pe 93 (eleC s.e ve),arrR ve 3 1 s.e.votes intC,blkR pl 119 (logC q1 v1),arrR v1 89 6 q1.ents entC] by rw [nodR,b1,b2]] at hal
    refine xW (hal) ?_
    rintro _ _ ⟨w,rfl,rfl⟩
    repeat'(first|apply Sp.h|refine Lk.r rfl ?_|fail)
    all_goals exact PA.lp (w,_,_) xE trivial
  ·have hzt:z=false:=hz.trans (zF hc)
   subst hzt
   rw [show setA s=(s,[]) from if_neg hc]
   repeat'(first|apply Sp.h|refine Lk.r rfl ?_|fail)
   all_goals exact PA.lp (w0,_,_) xE trivial
 clear hz hle hll hld
 rintro⟨w,ve1,vl1⟩ -
 generalize setA s=s1 at hA hB ⊢
 obtain⟨s1,M⟩:=s1
 simp only at hA hB ⊢
 have hle:=nleader_a p pe pl ve1 vl1 s1
 have hst:=lstop_a pl vl1 s1.g
 repeat'(first|apply Sp.h|refine Lk.r rfl ?_|refine Rf.mk rfl ?_|fail)
 refine xW (hle) ?_
 rintro _ _ ⟨rfl,rfl⟩
 (repeat'(first|(show CA _ _ (Code.cond (Operand.tmp 46) _ _) _ _;apply Stopped.out)|apply Sp.h|refine Lk.r rfl ?_|fail));any_goals apply Stopped.mk
 refine CA.cut (fun y:Unit=>⟨[(0,pm p),(3, .ow w)],arrR w 76 18 M msgC :: nodR p pe pl ve1 vl1 (setB s1)⟩) (fun _=>True) ?_ ?_
 ·unfold setB
  by_cases h1:s1.e.role=2
  ·rw [if_pos h1]
   repeat'(first|apply Sp.h|refine Lk.r rfl ?_|refine xA ?_|fail)
   all_goals exact PA.lp () xE trivial
  ·rw [if_neg h1]
   repeat'(first|apply Sp.h|refine Lk.r rfl ?_|refine Rf.mk rfl ?_|refine xB ?_|refine xT ?_|fail)
   refine xW (hst) ?_
   rintro _ _ ⟨rfl,rfl⟩
   repeat'(first|apply Sp.h|fail)
   all_goals exact PA.lp () xE trivial
 rintro _ -
 generalize setB s1=t at hB ⊢
 clear hle hst hA hk hlen hn het s1
 have hll:=lleads_a pl vl1 t.g
 have hn:=hB.g.n
 have hlen:=hB.len
 have hvo:=nvoters_f p pe pl ve1 vl1 t hn.2 hB.g.val
 have hvl:=votF_len hB.g.val hn.2
 have had:=advance_a pl vl1 t.g (votN t) (by omega) (by omega) hB.g.c.1 (by unfold votN;omega)
 unfold setC
 by_cases h0:t.g.leads=0
 ·rw [if_pos h0]
  repeat'(first|apply Sp.h|refine Lk.r rfl ?_|refine Rf.mk rfl ?_|refine xT ?_|fail)
  refine xW (hll) ?_
  rintro _ _ ⟨rfl,rfl⟩
  repeat'(first|apply Sp.h|refine Lk.r rfl ?_|refine Rf.mk rfl ?_|refine xA ?_|refine xN ?_|fail)
  all_goals exact⟨_,_, .one (.same (.z)),_,_,_,rfl,rfl⟩
 rw [if_neg h0]
 have hga:=hB.g.adv (votN t)
 have hba:=adv_base t.g (votN t)
 generalize advF t.g (votN t)=a at had hga hba ⊢
 obtain⟨a,b⟩:=a
 simp only at had hga hba ⊢
 obtain⟨b1,b2,b3,b4⟩:=hba
 have hnr:∀s2:NodS,s2.g=a→s2.e=t.e→s2.ticks=t.ticks→nodR p pe pl ve1 vl1 s2= [blkR p 54 [pm pe,pm pl,it t.g.n,it t.g.i,it t.ticks],blkR pe 93 (eleC t.e ve1),arrR ve1 3 1 t.e.votes intC,blkR pl 119 (logC a vl1),arrR vl1 89 6 a.ents entC]:=fun s2 h1 h2 h3=>by rw [nodR,h1,h2,h3,b1,b2]
 have hen:=lentries_a pl vl1 a (by have:=hga.len;omega) hga.vot
 have hla:=last_o a.ents (by have:=hga.len;omega) hga.vot
 have hcm:=lcommit_a pl vl1 a
 have hre:=nresign_a p pe pl ve1 vl1 { t with g:=a } hB.e.r.2.2.1
 rw [hnr { t with g:=a } rfl rfl rfl] at hre
 have hst:=lstop_a pl vl1 a
 have hgl:=hga.len
 have hG:=goneB_iff (n:=t.g.n) (i:=t.g.i) (g:=a)
 by_cases hz:lastF a.ents=0
 ·have hla2:CallA Try.prog 40 [entsA a.ents] [] fun r own=>r= .tup [it 0, .val (.slice none 0 0)]∧own= []:=hla.mono fun r o h=>h.elim (fun h=>h.2) fun h=>by omega
  rw [hG,zF (fun h=>by omega),if_neg Bool.false_ne_true]
  repeat'(first|apply Sp.h|refine Lk.r rfl ?_|refine Rf.mk rfl ?_|refine xB ?_|refine OpK.r rfl ?_|refine xT ?_|refine xD ?_|exact trivial|apply RA'.both|(((apply Cl.use (hll);(focus repeat' constructor);(focus repeat' constructor);focus rfl));(rintro _ _ ⟨rfl,rfl⟩))|(((apply Cl.use (hvo);(focus repeat' constructor);(focus repeat' constructor);focus rfl));(rintro _ _ ⟨rfl,rfl⟩))|(((apply Cl.use (had);(focus repeat' constructor);(focus repeat' constructor);focus rfl));(rintro _ _ ⟨rfl,rfl⟩))|(((apply Cl.use (hen);(focus repeat' constructor);(focus repeat' constructor);focus rfl));(rintro _ _ ⟨w9,rfl,rfl⟩)))
  all_goals
   (apply Cl.lendO (hla2);(focus repeat'(first|exact Lend.nil|(apply Lend.lend;(focus repeat constructor);(focus first|omega|(simp;omega)))|fail)))
   focus(rintro _ _ ⟨rfl,rfl⟩;exact⟨FlatV.tup (.cons (.val _) (.cons (.val _) .nil)),fun R hR=>(nomatch hR)⟩)
   rintro _ _ ⟨rfl,rfl⟩
   repeat'(first|apply Sp.h|refine Lk.r rfl ?_|refine Rf.mk rfl ?_|refine xB ?_|refine xN ?_|fail)
   all_goals exact⟨_,_, .one (.same (.nil (by rw [hnr { t with g:=a } rfl rfl rfl];(repeat first|exact .nil|refine .cons (by repeat constructor) ?_)))),_,_,_,rfl,rfl⟩
 have hla2:CallA Try.prog 40 [entsA a.ents] [] fun r own=>∃v,r= .tup [it (lastF a.ents:Nat), .ow v]∧own= [arrR v 3 1 (votA a.ents (lastF a.ents)) intC]:=hla.mono fun r o h=>h.elim (fun h=>absurd h.1 hz) fun h=>h.2
 have hvv:=(vot_len (votA_ne hga.val (by omega))).2
 have hco:=contains_p (votA a.ents (lastF a.ents)) t.g.i
 have hvn:((votA a.ents (lastF a.ents)).length:Int)≤5:=by omega
 generalize votA a.ents (lastF a.ents)=vs at hla2 hvv hvn hco hG
 obtain⟨k,hk⟩:∃k,k=lastF a.ents:=⟨_,rfl⟩
 rw [←hk] at hla2 hz hG
 clear hla hk
 by_cases hc1:(k:Int)≤a.commit
 rotate_left
 ·rw [hG,zF (fun h=>hc1 h.2.1),if_neg Bool.false_ne_true]
  repeat'(first|apply Sp.h|refine Lk.r rfl ?_|refine Rf.mk rfl ?_|refine xB ?_|refine OpK.r rfl ?_|refine xT ?_|refine xD ?_|exact trivial|apply RA'.both|(((apply Cl.use (hll);(focus repeat' constructor);(focus repeat' constructor);focus rfl));(rintro _ _ ⟨rfl,rfl⟩))|(((apply Cl.use (hvo);(focus repeat' constructor);(focus repeat' constructor);focus rfl));(rintro _ _ ⟨rfl,rfl⟩))|(((apply Cl.use (had);(focus repeat' constructor);(focus repeat' constructor);focus rfl));(rintro _ _ ⟨rfl,rfl⟩))|(((apply Cl.use (hen);(focus repeat' constructor);(focus repeat' constructor);focus rfl));(rintro _ _ ⟨w9,rfl,rfl⟩)))
  all_goals
   (apply Cl.lendO (hla2);(focus repeat'(first|exact Lend.nil|(apply Lend.lend;(focus repeat constructor);(focus first|omega|(simp;omega)))|fail)))
   focus(rintro _ _ ⟨u,rfl,rfl⟩;exact⟨FlatV.tup (.cons (.val _) (.cons (.ow _) .nil)),fun R hR=>by rw [zH.1 hR];exact flat_int⟩)
   rintro _ _ ⟨u,rfl,rfl⟩
   repeat'(first|apply Sp.h|refine Lk.r rfl ?_|refine Rf.mk rfl ?_|refine xA ?_|refine xT ?_|fail)
   refine xW (hcm) ?_
   rintro _ _ ⟨rfl,rfl⟩
   repeat'(first|apply Sp.h|refine Lk.r rfl ?_|refine Rf.mk rfl ?_|refine xA ?_|refine xB ?_|refine xN ?_|fail)
   all_goals exact⟨_,_, .one (.same (.nil (by rw [hnr { t with g:=a } rfl rfl rfl];(repeat first|exact .nil|refine .cons (by repeat constructor) ?_)))),_,_,_,rfl,rfl⟩
 by_cases hc2:t.g.i∈vs
 ·rw [zT hc2] at hco
  rw [hG,zF (fun h=>h.2.2 hc2),if_neg Bool.false_ne_true]
  repeat'(first|apply Sp.h|refine Lk.r rfl ?_|refine Rf.mk rfl ?_|refine xB ?_|refine OpK.r rfl ?_|refine xT ?_|refine xD ?_|exact trivial|apply RA'.both|(((apply Cl.use (hll);(focus repeat' constructor);(focus repeat' constructor);focus rfl));(rintro _ _ ⟨rfl,rfl⟩))|(((apply Cl.use (hvo);(focus repeat' constructor);(focus repeat' constructor);focus rfl));(rintro _ _ ⟨rfl,rfl⟩))|(((apply Cl.use (had);(focus repeat' constructor);(focus repeat' constructor);focus rfl));(rintro _ _ ⟨rfl,rfl⟩))|(((apply Cl.use (hen);(focus repeat' constructor);(focus repeat' constructor);focus rfl));(rintro _ _ ⟨w9,rfl,rfl⟩)))
  all_goals
   (apply Cl.lendO (hla2);(focus repeat'(first|exact Lend.nil|(apply Lend.lend;(focus repeat constructor);(focus first|omega|(simp;omega)))|fail)))
   focus(rintro _ _ ⟨u,rfl,rfl⟩;exact⟨FlatV.tup (.cons (.val _) (.cons (.ow _) .nil)),fun R hR=>by rw [zH.1 hR];exact flat_int⟩)
   rintro _ _ ⟨u,rfl,rfl⟩
   repeat'(first|apply Sp.h|refine Lk.r rfl ?_|refine Rf.mk rfl ?_|refine xA ?_|refine xT ?_|fail)
   refine xW (hcm) ?_
   rintro _ _ ⟨rfl,rfl⟩
   repeat'(first|apply Sp.h|refine Lk.r rfl ?_|refine Rf.mk rfl ?_|refine xA ?_|refine xT ?_|fail)
   (apply Cl.lend (hco);(focus repeat'(first|exact Lend.nil|apply Lend.keep|(apply Lend.lend;(focus repeat constructor);(focus first|omega|(simp;omega)))|fail)))
   repeat'(first|apply Sp.h|refine Lk.r rfl ?_|refine Rf.mk rfl ?_|refine xA ?_|refine xN ?_|fail)
   all_goals exact⟨_,_, .one (.same (.nil (by rw [hnr { t with g:=a } rfl rfl rfl];(repeat first|exact .nil|refine .cons (by repeat constructor) ?_)))),_,_,_,rfl,rfl⟩
 ·rw [zF hc2] at hco
  rw [hG,zT ⟨by omega,hc1,hc2⟩,if_pos rfl]
  repeat'(first|apply Sp.h|refine Lk.r rfl ?_|refine Rf.mk rfl ?_|refine xB ?_|refine OpK.r rfl ?_|refine xT ?_|refine xD ?_|exact trivial|apply RA'.both|(((apply Cl.use (hll);(focus repeat' constructor);(focus repeat' constructor);focus rfl));(rintro _ _ ⟨rfl,rfl⟩))|(((apply Cl.use (hvo);(focus repeat' constructor);(focus repeat' constructor);focus rfl));(rintro _ _ ⟨rfl,rfl⟩))|(((apply Cl.use (had);(focus repeat' constructor);(focus repeat' constructor);focus rfl));(rintro _ _ ⟨rfl,rfl⟩))|(((apply Cl.use (hen);(focus repeat' constructor);(focus repeat' constructor);focus rfl));(rintro _ _ ⟨w9,rfl,rfl⟩)))
  all_goals
   (apply Cl.lendO (hla2);(focus repeat'(first|exact Lend.nil|(apply Lend.lend;(focus repeat constructor);(focus first|omega|(simp;omega)))|fail)))
   focus(rintro _ _ ⟨u,rfl,rfl⟩;exact⟨FlatV.tup (.cons (.val _) (.cons (.ow _) .nil)),fun R hR=>by rw [zH.1 hR];exact flat_int⟩)
   rintro _ _ ⟨u,rfl,rfl⟩
   repeat'(first|apply Sp.h|refine Lk.r rfl ?_|refine Rf.mk rfl ?_|refine xA ?_|refine xT ?_|fail)
   refine xW (hcm) ?_
   rintro _ _ ⟨rfl,rfl⟩
   repeat'(first|apply Sp.h|refine Lk.r rfl ?_|refine Rf.mk rfl ?_|refine xA ?_|refine xT ?_|fail)
   (apply Cl.lend (hco);(focus repeat'(first|exact Lend.nil|apply Lend.keep|(apply Lend.lend;(focus repeat constructor);(focus first|omega|(simp;omega)))|fail)))
   repeat'(first|apply Sp.h|refine Lk.r rfl ?_|refine Rf.mk rfl ?_|refine xA ?_|refine xB ?_|fail)
   refine xW (hre) ?_
   rintro _ _ ⟨rfl,v5,rfl⟩
   repeat'(first|apply Sp.h|refine Lk.r rfl ?_|refine Rf.mk rfl ?_|refine xT ?_|fail)
   refine xW (hst) ?_
   rintro _ _ ⟨rfl,rfl⟩
   repeat'(first|apply Sp.h|refine Lk.r rfl ?_|refine Rf.mk rfl ?_|refine xN ?_|fail)
   all_goals exact⟨_,_, .one (.same (.z)),_,_,_,rfl,rfl⟩
end
theorem msame_p(a b:EntS) : CallP Try.prog 53 [entA a,entA b] (bl (decide (a=b))):=by
 have he:=equal_p a.vot b.vot
 have hx:decide (a=b)=decide (a.term=b.term∧a.kind=b.kind∧a.rep=b.rep∧a.ser=b.ser∧a.act=b.act∧a.vot=b.vot):=by
  refine zD.2 ?_
  obtain⟨a1,a2,a3,a4,a5,a6⟩:=a
  obtain⟨b1,b2,b3,b4,b5,b6⟩:=b
  simp
 rw [hx]
 by_cases h1:a.term=b.term
 rotate_left
 ·rw [zF (fun h=>h1 h.1)]
  refine CallA.of pg ordZ Try.func53 rfl Try.ntmps53 Try.results53 rfl fun h0 G0 O0=>?_
  repeat'(first|apply Sp.h|refine Lk.r rfl ?_|refine Rf.mk rfl ?_|refine xB ?_|apply All.mk|refine xT ?_|refine xN ?_|intro _)
  all_goals exact Fin.p rfl rfl
 by_cases h2:a.kind=b.kind
 rotate_left
 ·rw [zF (fun h=>h2 h.2.1)]
  refine CallA.of pg ordZ Try.func53 rfl Try.ntmps53 Try.results53 rfl fun h0 G0 O0=>?_
  repeat'(first|apply Sp.h|refine Lk.r rfl ?_|refine Rf.mk rfl ?_|refine xA ?_|refine xB ?_|apply All.mk|refine xT ?_|refine xN ?_|intro _)
  all_goals exact Fin.p rfl rfl
 by_cases h3:a.rep=b.rep
 rotate_left
 ·rw [zF (fun h=>h3 h.2.2.1)]
  refine CallA.of pg ordZ Try.func53 rfl Try.ntmps53 Try.results53 rfl fun h0 G0 O0=>?_
  repeat'(first|apply Sp.h|refine Lk.r rfl ?_|refine Rf.mk rfl ?_|refine xA ?_|refine xB ?_|apply All.mk|refine xT ?_|refine xN ?_|intro _)
  all_goals exact Fin.p rfl rfl
 by_cases h4:a.ser=b.ser
 rotate_left
 ·rw [zF (fun h=>h4 h.2.2.2.1)]
  refine CallA.of pg ordZ Try.func53 rfl Try.ntmps53 Try.results53 rfl fun h0 G0 O0=>?_
  repeat'(first|apply Sp.h|refine Lk.r rfl ?_|refine Rf.mk rfl ?_|refine xA ?_|refine xB ?_|apply All.mk|refine xT ?_|refine xN ?_|intro _)
  all_goals exact Fin.p rfl rfl
 by_cases h5:a.act=b.act
 rotate_left
 ·rw [zF (fun h=>h5 h.2.2.2.2.1)]
  refine CallA.of pg ordZ Try.func53 rfl Try.ntmps53 Try.results53 rfl fun h0 G0 O0=>?_
  repeat'(first|apply Sp.h|refine Lk.r rfl ?_|refine Rf.mk rfl ?_|refine xA ?_|refine xB ?_|apply All.mk|refine xT ?_|refine xN ?_|intro _)
  all_goals exact Fin.p rfl rfl
 rw [show decide (a.term=b.term∧a.kind=b.kind∧a.rep=b.rep∧a.ser=b.ser∧a.act=b.act∧a.vot=b.vot)=decide (a.vot=b.vot) from zD.2 ⟨fun h=>h.2.2.2.2.2,fun h=>⟨h1,h2,h3,h4,h5,h⟩⟩]
 refine CallA.of pg ordZ Try.func53 rfl Try.ntmps53 Try.results53 rfl fun h0 G0 O0=>?_
 repeat'(first|apply Sp.h|refine Lk.r rfl ?_|refine Rf.mk rfl ?_|refine xA ?_|refine All.mk fun _=>?_|refine xT ?_|refine xN ?_|(apply Cl.p (he);focus repeat' constructor))
 all_goals exact Fin.p rfl rfl
def recC(r:RecS) : List AV:= [it r.kind, .val (r.j 0), .val (r.j 1), .val (r.j 2), .val (r.j 3), .val (r.j 4), .val (r.j 5), .val (r.j 6), .val (r.j 7), .val (r.j 8), .val (r.j 9), .val (r.j 10), .val (r.j 11), .val (r.j 12), .val (r.j 13), .val (r.j 14), .val (r.j 15), .val (r.j 16), .val (r.j 17), .val (r.j 18), .val (r.j 19),
 it r.term,it r.vote,it r.index,it r.ent.term,it r.ent.kind,it r.ent.rep,it r.ent.ser,it r.ent.act,ints r.ent.vot]
abbrev rcsA (l:List RecS):AV:= .sl 30 l recC
def recQ(x:Bool×RecS) : List AV:= [it x.2.kind, .val (x.2.j 0), .val (x.2.j 1), .val (x.2.j 2), .val (x.2.j 3), .val (x.2.j 4), .val (x.2.j 5), .val (x.2.j 6), .val (x.2.j 7), .val (x.2.j 8), .val (x.2.j 9), .val (x.2.j 10), .val (x.2.j 11), .val (x.2.j 12), .val (x.2.j 13), .val (x.2.j 14), .val (x.2.j 15), .val (x.2.j 16), .val (x.2.j 17), .val (x.2.j 18), .val (x.2.j 19),
 it x.2.term,it x.2.vote,it x.2.index,it x.2.ent.term,it x.2.ent.kind,it x.2.ent.rep,it x.2.ent.ser,it x.2.ent.act,bif x.1 then .val (.slice none 0 0) else ints x.2.ent.vot]
instance {t v:Int} : Inv recQ [it 2,it 0,it 0,it 0, .val (.slice none 0 0),it 0,it 0,it 0,it 0,it 0,it 0,it 0,it 0,it 0, .val (.slice none 0 0),it 0, .val (.slice none 0 0), .val (.slice none 0 0), .val (.slice none 0 0), .val (.slice none 0 0), .val (.slice none 0 0),it t,it v,it 0,it 0,it 0,it 0,it 0,it 0, .val (.slice none 0 0)] (true,recV t v):=⟨rfl⟩
instance {k a b c d e:Int} {v:List Int} : Inv recQ [it 3,it 0,it 0,it 0, .val (.slice none 0 0),it 0,it 0,it 0,it 0,it 0,it 0,it 0,it 0,it 0, .val (.slice none 0 0),it 0, .val (.slice none 0 0), .val (.slice none 0 0), .val (.slice none 0 0), .val (.slice none 0 0), .val (.slice none 0 0),it 0,it 0,it k,it a,it b,it c,it d,it e,ints v] (false,⟨3,jr0,0,0,k,⟨a,b,c,d,e,v⟩⟩):=⟨rfl⟩
theorem recQ_le{x:Bool×RecS}(h:x.1=true→x.2.ent.vot= []) : RLe (recQ x) (recC x.2):=by
 obtain⟨b,r⟩:=x
 unfold recQ recC
 cases b
 ·repeat(first|exact RLe.nil|exact .cons (ALe.refl _) .nil|apply RLe.cons (ALe.refl _))
 ·have h:r.ent.vot= []:=h rfl
  simp only
  rw [h]
  repeat(first|exact RLe.nil|exact .cons ALe.nil .nil|apply RLe.cons (ALe.refl _))
theorem FX.rows{α β:Type}{o:List Res}{f:α→List AV}{g:β→List AV}{φ:α→β} :∀{l:List α},(∀x∈l,RLe (f x) (g (φ x)))→FX o (l.map fun x=> .agg (f x)) ((l.map φ).map fun y=> .agg (g y)) o
 | [],_=> .nil
 | x :: l,h=> .le ⟨fun⟨vs,h1,h2⟩=>⟨vs,h1,⟨(h x (by simp)).rep h2.t,h2.one⟩⟩⟩ (FX.rows fun y hy=>h y (by simp [hy]))
section
variable (p pe pl:Nat) (ve vl:Value) (s:NodS)
theorem allM_len(g:LogN)(hn:g.n≤5) : (allM g).length≤5:=by
 rw [←allN_full]
 have:=allN_len g g.n.toNat
 omega
theorem setF_len(hk:NodK s) : (setF s).2.length≤5:=by
 unfold setF setA
 split
 ·split
  ·simp
  ·exact allM_len _ (by have:=hk.g.n;have:=(lead_base s.g s.e.term).1;omega)
 ·simp
theorem msg_rows{o:List Res}(l:List MsgS) : FX o (l.map fun x=> .agg (msgC x)) (l.map fun x=> .agg (msgC x)) o:=by
 have h:=FX.rows (o:=o) (f:=msgC) (g:=msgC) (φ:=id) (l:=l) fun x _=>by
  have key:∀a:List AV,RLe a a:=fun a=>by
   induction a with
   | nil=>exact .nil
   | cons x a ih=>exact .cons (ALe.refl _) ih
  exact key _
 rwa [List.map_id] at h
theorem settle_f(hk:NodK s) : CallA Try.prog 52 [pm p] (nodR p pe pl ve vl s) fun r own=>∃ve' vl',r=msgs (setF s).2∧own=nodR p pe pl ve' vl' (setF s).1 :=
 CallA.fxr (settle_a p pe pl ve vl s hk) (by
  rintro _ _ ⟨ve',vl',w,rfl,rfl⟩
  exact⟨msgs (setF s).2,nodR p pe pl ve' vl' (setF s).1, .sl .here (by have:=setF_len s hk;omega) (msg_rows _) .nil,_,_,rfl,rfl⟩)
theorem entries_f(hn:s.g.n≤5)(hv:valB s.g.n s.g.ents=true) : CallA Try.prog 23 [pm p,it 1] (nodR p pe pl ve vl s) fun r own=>r=entsA s.g.ents∧own=nodR p pe pl ve vl s :=
 CallA.fxr (nentries_a p pe pl ve vl s hn hv) (by
  rintro _ _ ⟨w,rfl,rfl⟩
  have key:∀a:List AV,RLe a a:=fun a=>by
   induction a with
   | nil=>exact .nil
   | cons x a ih=>exact .cons (ALe.refl _) ih
  have h:=FX.rows (o:=nodR p pe pl ve vl s) (f:=entC) (g:=entC) (φ:=id) (l:=s.g.ents) fun x _=>key _
  rw [List.map_id] at h
  exact⟨entsA s.g.ents,nodR p pe pl ve vl s, .sl .here (by have:=val_len hv;omega) h .nil,rfl,rfl⟩)
theorem dif_spec(a b:List EntS) :∀(f k:Nat),b.length < k+f→k≤b.length→(∀j,j < k→a[j]?=b[j]?)→k≤difN a b k f∧difN a b k f≤b.length∧(∀j,j < difN a b k f→a[j]?=b[j]?)∧(difN a b k f < b.length→a[difN a b k f]?≠b[difN a b k f]?)
 | 0,k,h1,h2,_=>by omega
 | f+1,k,h1,h2,h3=>by
  unfold difN
  by_cases h4:b.length≤k
  ·rw [if_pos h4]
   exact⟨Nat.le_refl _,h2,h3,fun h=>by omega⟩
  ·rw [if_neg h4]
   by_cases h5:a[k]?=b[k]?
   ·rw [if_pos h5]
    obtain⟨g1,g2⟩:=dif_spec a b f (k+1) (by omega) (by omega) fun j hj=>by
     by_cases hjk:j=k
     ·rw [hjk];exact h5
     ·exact h3 j (by omega)
    exact⟨by omega,g2⟩
   ·rw [if_neg h5]
    exact⟨Nat.le_refl _,by omega,h3,fun _=>h5⟩
theorem first_spec(a b:List EntS) : firstD a b≤b.length∧(∀j,j < firstD a b→a[j]?=b[j]?)∧(firstD a b < b.length→a[firstD a b]?≠b[firstD a b]?):=by
 obtain⟨_,h⟩:=dif_spec a b (b.length+1) 0 (by omega) (zZ _) fun j hj=>by omega
 exact h
def recT(b:List EntS)(d i:Nat) : List (Bool×RecS):=((b.zipIdx.take i).drop d).map fun p=>(false,recE (p.2+1) p.1)
theorem recT_succ{b:List EntS}{d i:Nat}{e:EntS}(he:b[i]?=some e) : recT b d (i+1)=if d≤i then recT b d i ++ [(false,recE (i+1) e)] else recT b d i:=by
 unfold recT
 have hz:b.zipIdx[i]?=some (e,i):=by rw [List.getElem?_zipIdx,he];simp
 have hi:=(zS.1 he).1
 rw [zK,hz]
 by_cases h:d≤i
 ·rw [if_pos h,List.drop_append_of_le_length (by simp;omega),List.map_append]
  rfl
 ·rw [if_neg h,List.drop_of_length_le (by simp;omega),List.drop_of_length_le (by simp;omega)]
theorem recT_zero(b:List EntS)(d:Nat) : recT b d 0= []:=by unfold recT;simp
theorem recT_full(b:List EntS)(d:Nat) : (recT b d b.length).map (·.2)=recL b d:=by
 unfold recT recL
 rw [List.take_of_length_le (by simp),List.map_map]
 rfl
theorem recT_len(b:List EntS)(d i:Nat) : (recT b d i).length≤b.length:=by unfold recT;simp;omega
end
abbrev outA (o:OutS):AV:= .agg [rcsA o.recs,msgs o.msgs, .val (.slice none 0 0)]
def votQ(a b:NodS) : List (Bool×RecS):=if a.e.term=b.e.term∧a.e.vote=b.e.vote then [] else [(true,recV b.e.term b.e.vote)]
def clO : Nat→Ord×(Nat→Cls):=fun id=>bif Nat.beq id 5 then(.one 0 (.one 2 (.alt 1 (.one 3 (.one 4 (.one 5 (.one 6 .done)))) (.alt 3 (.one 1 (.one 4 (.one 5 (.one 6 .done)))) (.none)))),clOf [.pure, .ext, .pure, .loud, .loud, .pure, .loud]) else bif Nat.beq id 13 then(.one 0 (.one 1 (.one 2 (.one 3 (.one 4 (.one 5 (.one 6 (.one 7 (.one 8 (.one 9 (.one 10 (.one 11 (.one 12 (.one 13 (.one 14 (.one 15 (.one 16 .done)))))))))))))))),clOf [.pure, .pure, .pure, .pure, .pure, .pure, .pure, .pure, .pure, .pure, .pure, .read, .read, .loud, .pure, .pure, .pure]) else(.done,clOf [])
theorem lend_refl{o:List Res} :∀l:List AV,Lend o l l
 | []=> .nil
 | _ :: l=> .keep (lend_refl l)
section
variable (p pe pl:Nat) (ve vl:Value) (s:NodS)
theorem call_o(f:FuncId)(caps:List AV)(X X':Res)(s1:NodS)(M:List MsgS)(hk:NodK s)(hk1:NodK s1)(hM:M.length≤1000000)(hen:en f=true)
  (hf:CallA Try.prog f caps (X :: nodR p pe pl ve vl s) fun q own=>∃ve' vl' w,q= .ow w∧own=arrR w 76 18 M msgC :: X' :: nodR p pe pl ve' vl' s1) :
  CallA Try.prog 29 [pm p, .fn f caps] (X :: nodR p pe pl ve vl s) fun q own=>∃ve' vl' u w,q= .agg [.ow u, .ow w, .val (.slice none 0 0)]∧own=arrR u 108 30 (votQ s (setF s1).1 ++ recT (setF s1).1.g.ents (firstD s.g.ents (setF s1).1.g.ents) (setF s1).1.g.ents.length) recQ :: arrR w 76 18 (M ++ (setF s1).2) msgC :: X' :: nodR p pe pl ve' vl' (setF s1).1:=by
 have het:=eterm_a pe ve s.e
 have hen1:=entries_f p pe pl ve vl s hk.g.n.2 hk.g.val
 have hse:=fun a b=>settle_f p pe pl a b s1 hk1
 have hk2:=hk1.kF
 have hsl:=setF_len s1 hk1
 have hl1:=hk.len
 generalize setF s1=S at hse hk2 hsl ⊢
 obtain⟨t,M2⟩:=S
 simp only at hse hk2 hsl ⊢
 have hl2:=hk2.len
 refine CallA.of pg clO Try.func29 rfl Try.ntmps29 Try.results29 rfl fun h0 G0 O0=>?_
 repeat'(first|apply Sp.h|refine Lk.r rfl ?_|refine Rf.mk rfl ?_|apply All.mk|refine xT ?_|refine xN ?_|intro _)
 rename_i b4
 refine xW (het) ?_
 rintro _ _ ⟨rfl,rfl⟩
 repeat'(first|apply Sp.h|refine Lk.r rfl ?_|refine Rf.mk rfl ?_|fail)
 refine xW (hen1) ?_
 rintro _ _ ⟨rfl,rfl⟩
 repeat'(first|apply Sp.h|refine Lk.r rfl ?_|refine Rf.mk rfl ?_|apply All.mk|refine xN ?_|(apply Rf.mk;(focus assumption))|intro _)
 rename_i b8
 apply Cl.use hf
 focus(exact lend_refl caps)
 focus(repeat(first|exact Takes.nil|(apply Takes.cons;(focus repeat constructor))))
 focus rfl
 rintro _ _ ⟨ve1,vl1,w1,rfl,rfl⟩
 have hse:=hse ve1 vl1
 (repeat'(first|(show CA _ _ (Code.region 5 _ _) _ _;apply Stopped.out)|apply Sp.h|refine Lk.r rfl ?_|refine Rf.mk rfl ?_|refine xT ?_|refine xV ?_|fail));any_goals apply Stopped.mk
 refine CA.cut (fun x:Value×Value×Value=>⟨[(0,pm p),(4,pm b4),(5,it s.e.term),(6,it s.e.vote),(7,entsA s.g.ents),(8,pm b8)],blkR b8 36 [.val (.slice none 0 0), .ow x.1, .val (.slice none 0 0)] :: arrR x.1 76 18 (M ++ M2) msgC :: X' :: blkR b4 36 [.val (.slice none 0 0), .val (.slice none 0 0), .val (.slice none 0 0)] :: nodR p pe pl x.2.1 x.2.2 t⟩) (fun _=>True) ?_ ?_
 ·repeat'(first|apply Sp.h|refine Lk.r rfl ?_|refine Rf.mk rfl ?_|refine OpK.r rfl ?_|refine xP ?_|refine All.mk fun _=>?_|refine xU ?_|refine xT ?_|refine Ce.r ?_|refine xV ?_|refine Rf.mk ⟨rfl,rfl⟩ ?_|refine Mp.same ?_|refine xD ?_|exact trivial|apply RA'.both|(((apply Cl.use (hse);(focus repeat' constructor);(focus repeat' constructor);focus rfl));(rintro _ _ ⟨ve2,vl2,rfl,rfl⟩)))
  all_goals
   rename_i w3
   exact PA.lp (w3,_,_) xE trivial
 rintro⟨w3,ve2,vl2⟩ -
 simp only
 have het2:=eterm_a pe ve2 t.e
 repeat'(first|apply Sp.h|refine Lk.r rfl ?_|refine Rf.mk rfl ?_|refine xT ?_|fail)
 refine xW (het2) ?_
 rintro _ _ ⟨rfl,rfl⟩
 (repeat'(first|(show CA _ _ (Code.region 7 _ _) _ _;apply Stopped.out)|apply Sp.h|refine Lk.r rfl ?_|fail));any_goals apply Stopped.mk
 let own0:=fun(u:Value) (L:List (Bool×RecS))=>arrR u 108 30 L recQ :: blkR b8 36 [.ow u, .ow w3, .val (.slice none 0 0)] :: arrR w3 76 18 (M ++ M2) msgC :: X' :: blkR b4 36 [.val (.slice none 0 0), .val (.slice none 0 0), .val (.slice none 0 0)] :: nodR p pe pl ve2 vl2 t
 refine CA.nilCell (b:=b8) (i:=0) (by repeat constructor) rfl 108 30 recQ fun u0=>?_
 obtain⟨L0,hL0⟩:∃L0:List (Bool×RecS),L0= []:=⟨_,rfl⟩
 apply CA.retype (v:=u0) (m:=L0) (g:=recQ)
 focus(repeat constructor)
 focus rw [hL0]
 refine CA.cut (fun z:Bool=>⟨[(0,pm p),(4,pm b4),(5,it s.e.term),(6,it s.e.vote),(7,entsA s.g.ents),(8,pm b8),(9,it t.e.term),(10,it t.e.vote),(48,bl z)],own0 u0 L0⟩) (fun z=>z=decide (¬(s.e.term=t.e.term∧s.e.vote=t.e.vote))) ?_ ?_
 ·by_cases h1:t.e.term=s.e.term
  ·repeat'(first|apply Sp.h|refine Lk.r rfl ?_|refine Rf.mk rfl ?_|refine xA ?_|fail)
   all_goals exact PA.lp _ xE (zD.2 (by omega))
  ·repeat'(first|apply Sp.h|refine Lk.r rfl ?_|refine Rf.mk rfl ?_|refine xB ?_|fail)
   all_goals exact PA.lp _ xE (zT (by omega)).symm
 rintro z hz
 (repeat'(first|(show CA _ _ (Code.cond (Operand.tmp 48) _ _) _ _;apply Stopped.out)|apply Sp.h|fail));any_goals apply Stopped.mk
 refine CA.cut (fun u:Value=>⟨[(0,pm p),(4,pm b4),(7,entsA s.g.ents),(8,pm b8)],own0 u (votQ s t)⟩) (fun _=>True) ?_ ?_
 ·unfold votQ
  by_cases h1:s.e.term=t.e.term∧s.e.vote=t.e.vote
  ·rw [hz.trans (zF (fun h=>h h1)),if_pos h1,←hL0]
   repeat'(first|apply Sp.h|refine Lk.r rfl ?_|fail)
   all_goals exact PA.lp u0 xE trivial
  ·rw [hz.trans (zT h1),if_neg h1,show [(true,recV t.e.term t.e.vote)]=L0 ++ [(true,recV t.e.term t.e.vote)] by rw [hL0];rfl]
   have hll:L0.length=0:=by rw [hL0];rfl
   clear hL0
   repeat'(first|apply Sp.h|refine Lk.r rfl ?_|refine Rf.mk rfl ?_|refine xP ?_|apply All.mk|refine xU ?_|refine xT ?_|refine Ce.r ?_|refine xV ?_|(apply Fk.r;focus repeat' first|infer_instance|constructor)|refine Rf.mk ⟨rfl,rfl⟩ ?_|refine Rf.mk ⟨rfl,rfl,rfl⟩ ?_|(apply Mp.lit;(focus repeat(first|exact MpL.nil|(apply MpL.cons;(focus rfl))|(apply MpL.inv;(focus repeat constructor);(focus infer_instance)))))|intro _)
   rename_i u2
   exact PA.lp u2 xE trivial
 rintro u1 -
 have hen2:=entries_f p pe pl ve2 vl2 t hk2.g.n.2 hk2.g.val
 repeat'(first|apply Sp.h|refine Lk.r rfl ?_|refine Rf.mk rfl ?_|fail)
 refine xW (hen2) ?_
 rintro _ _ ⟨rfl,rfl⟩
 obtain⟨d1,d2,d3⟩:=first_spec s.g.ents t.g.ents
 obtain⟨d,hd⟩:∃d,d=firstD s.g.ents t.g.ents:=⟨_,rfl⟩
 rw [←hd] at d1 d2 d3
 have hT0:=recT_zero t.g.ents d
 have hTs:=fun i e=>recT_succ (b:=t.g.ents) (d:=d) (i:=i) (e:=e)
 have hTl:=recT_len t.g.ents d
 rw [←hd]
 have hvl:(votQ s t).length≤1:=by unfold votQ;split <;> simp
 generalize votQ s t=VQ at hvl ⊢
 obtain⟨A,hA⟩:∃A:Nat→List (Bool×RecS),A=recT t.g.ents d:=⟨_,rfl⟩
 rw [←hA] at hT0 hTs hTl ⊢
 clear hA hd
 (repeat'(first|(show CA _ _ (Code.block 0 _) _ _;apply Stopped.out)|apply Sp.h|refine Lk.r rfl ?_|apply Im.mk|intro _));any_goals apply Stopped.mk
 apply Sp.h
 refine CA.loop (fun x:Nat×Value=>⟨[(0,pm p),(4,pm b4),(7,entsA s.g.ents),(8,pm b8),(11,bl (decide (d < x.1))),(58,entsA t.g.ents),(59,it (t.g.ents.length:Nat)),(60,it (x.1:Nat))],own0 x.2 (VQ ++ A x.1)⟩) (fun x=>x.1≤t.g.ents.length) (fun x=>t.g.ents.length - x.1) (0,u1) ?_ (zZ _) ?_
 ·simp only [hT0,List.append_nil]
  rw [show decide (d < 0)=false from rfl]
  exact xE
 rintro⟨i,u⟩ hi
 simp only at hi
 simp only
 have hal:=hTl i
 by_cases hin:i < t.g.ents.length
 ·obtain⟨e,he⟩:=get_of hin
  have hsu:=hTs i e he
  have e1:((i:Nat):Int)+1=((i+1:Nat):Int):=by omega
  by_cases hd:d≤i
  ·have hsu2:VQ ++ A (i+1)=VQ ++ A i ++ [(false,⟨3,jr0,0,0,(i:Int)+1,⟨e.term,e.kind,e.rep,e.ser,e.act,e.vot⟩⟩)]:=by
    rw [hsu,if_pos hd,List.append_assoc,e1];rfl
   have hd1:decide (d < i+1)=true:=zT (by omega)
   by_cases hd2:d < i
   ·rw [zT hd2]
    repeat'(first|apply Sp.h|refine Lk.r rfl ?_|refine Rf.mk rfl ?_|refine xA ?_|refine OpK.r rfl ?_|refine xP ?_|apply All.mk|refine xU ?_|refine xT ?_|refine xI ?_|refine Ce.r ?_|refine Ch.l ⟨rfl,rfl⟩ ?_|refine xV ?_|(apply SetAsk.r;focus repeat' constructor)|(apply Fk.r;focus repeat' first|infer_instance|constructor)|refine xN ?_|refine Rf.mk ⟨rfl,rfl⟩ ?_|refine Rf.mk ⟨rfl,rfl,rfl⟩ ?_|(apply Mp.lit;(focus repeat(first|exact MpL.nil|(apply MpL.cons;(focus rfl))|(apply MpL.inv;(focus repeat constructor);(focus infer_instance)))))|refine xD ?_|refine xO ?_|intro _)
    rename_i u2
    refine PA.lp (i+1,u2) ?_ ⟨hin,by simp only;omega⟩
    simp only [hsu2,hd1]
    exact xE
   ·have hdi:d=i:=by omega
    rw [zF hd2]
    have hne:s.g.ents[i]?≠some e:=by rw [←he,←hdi];exact d3 (by omega)
    by_cases hl:i < s.g.ents.length
    ·obtain⟨a,ha⟩:=get_of hl
     have hsm:=msame_p a e
     rw [zF (fun h=>hne (by rw [ha,h]))] at hsm
     repeat'(first|apply Sp.h|refine Lk.r rfl ?_|refine Rf.mk rfl ?_|refine xA ?_|refine xB ?_|refine OpK.r rfl ?_|refine xP ?_|refine Im.mk fun _=>?_|refine All.mk fun _=>?_|refine xU ?_|refine xT ?_|refine xI ?_|refine Ce.r ?_|refine Ch.l ⟨rfl,rfl⟩ ?_|refine xV ?_|(apply SetAsk.r;focus repeat' constructor)|(apply Fk.r;focus repeat' first|infer_instance|constructor)|refine xN ?_|refine Rf.mk ⟨rfl,rfl⟩ ?_|refine Rf.mk ⟨rfl,rfl,rfl⟩ ?_|(apply Mp.lit;(focus repeat(first|exact MpL.nil|(apply MpL.cons;(focus rfl))|(apply MpL.inv;(focus repeat constructor);(focus infer_instance)))))|refine xD ?_|refine xO ?_|(apply Cl.p (hsm);focus repeat' constructor))
     rename_i u2
     refine PA.lp (i+1,u2) ?_ ⟨hin,by simp only;omega⟩
     simp only [hsu2,hd1]
     exact xE
    ·repeat'(first|apply Sp.h|refine Lk.r rfl ?_|refine Rf.mk rfl ?_|refine xA ?_|refine OpK.r rfl ?_|refine xP ?_|apply Im.mk|apply All.mk|refine xU ?_|refine xT ?_|refine xI ?_|refine Ce.r ?_|refine Ch.l ⟨rfl,rfl⟩ ?_|refine xV ?_|(apply SetAsk.r;focus repeat' constructor)|(apply Fk.r;focus repeat' first|infer_instance|constructor)|refine xN ?_|refine Rf.mk ⟨rfl,rfl⟩ ?_|refine Rf.mk ⟨rfl,rfl,rfl⟩ ?_|(apply Mp.lit;(focus repeat(first|exact MpL.nil|(apply MpL.cons;(focus rfl))|(apply MpL.inv;(focus repeat constructor);(focus infer_instance)))))|refine xD ?_|refine xO ?_|intro _)
     rename_i u2
     refine PA.lp (i+1,u2) ?_ ⟨hin,by simp only;omega⟩
     simp only [hsu2,hd1]
     exact xE
  ·rw [if_neg hd] at hsu
   have hd1:decide (d < i+1)=false:=zF (by omega)
   have ha:=d2 i (by omega)
   rw [he] at ha
   have hl:=(zS.1 ha).1
   have hsm:=msame_p e e
   rw [zT rfl] at hsm
   rw [zF (show¬d < i by omega)]
   repeat'(first|apply Sp.h|refine Lk.r rfl ?_|refine Rf.mk rfl ?_|refine xA ?_|refine xB ?_|refine OpK.r rfl ?_|refine Im.mk fun _=>?_|refine All.mk fun _=>?_|refine xT ?_|refine xI ?_|refine Ch.l ⟨rfl,rfl⟩ ?_|(apply SetAsk.r;focus repeat' constructor)|refine xN ?_|refine xD ?_|refine xO ?_|(apply Cl.p (hsm);focus repeat' constructor))
   refine PA.lp (i+1,u) ?_ ⟨hin,by simp only;omega⟩
   simp only [hsu,hd1]
   exact xE
 ·have:i=t.g.ents.length:=by omega
  subst this
  repeat'(first|apply Sp.h|refine Lk.r rfl ?_|refine Rf.mk rfl ?_|refine xB ?_|refine xT ?_|refine Ch.l ⟨rfl,rfl⟩ ?_|(apply SetAsk.r;focus repeat' constructor)|refine xN ?_|fail)
  all_goals exact⟨_,_, .one (.same (.z)),_,_,_,_,rfl,rfl⟩
end
theorem votQ_map(a b:NodS) : (votQ a b ++ recT b.g.ents (firstD a.g.ents b.g.ents) b.g.ents.length).map (·.2)=recsF a b:=by
 rw [List.map_append,recT_full]
 unfold votQ recsF
 split <;> rfl
theorem votQ_nil{a b:NodS} :∀x∈votQ a b ++ recT b.g.ents (firstD a.g.ents b.g.ents) b.g.ents.length,x.1=true→x.2.ent.vot= []:=fun x hx=>by
 rcases zV.1 hx with hx|hx
 ·unfold votQ at hx
  split at hx
  ·cases hx
  ·rw [zH.1 hx];exact fun _=>rfl
 ·unfold recT at hx
  obtain⟨y,_,rfl⟩:=List.mem_map.1 hx
  intro h;cases h
section
variable (p pe pl:Nat) (ve vl:Value) (s:NodS)
theorem call_a(f:FuncId)(caps:List AV)(X X':Res)(s1:NodS)(M:List MsgS)(hk:NodK s)(hk1:NodK s1)(hM:M.length≤1000000)(hen:en f=true)
  (hf:CallA Try.prog f caps (X :: nodR p pe pl ve vl s) fun q own=>∃ve' vl' w,q= .ow w∧own=arrR w 76 18 M msgC :: X' :: nodR p pe pl ve' vl' s1) :
  CallA Try.prog 29 [pm p, .fn f caps] (X :: nodR p pe pl ve vl s) fun q own=>∃ve' vl',q=outA (calF s (s1,M)).2∧own=X' :: nodR p pe pl ve' vl' (calF s (s1,M)).1 :=
 CallA.fxr (call_o p pe pl ve vl s f caps X X' s1 M hk hk1 hM hen hf) (by
  rintro _ _ ⟨ve',vl',u,w,rfl,rfl⟩
  have h1:=FX.rows (o:=arrR w 76 18 (M ++ (setF s1).2) msgC :: X' :: nodR p pe pl ve' vl' (setF s1).1) (f:=recQ) (g:=recC) (φ:=(·.2)) (l:=votQ s (setF s1).1 ++ recT (setF s1).1.g.ents (firstD s.g.ents (setF s1).1.g.ents) (setF s1).1.g.ents.length) fun x hx=>recQ_le (votQ_nil x hx)
  rw [votQ_map] at h1
  have hl1:=recT_len (setF s1).1.g.ents (firstD s.g.ents (setF s1).1.g.ents) (setF s1).1.g.ents.length
  have hl2:=hk1.kF.len
  have hl3:=setF_len s1 hk1
  have hvl:(votQ s (setF s1).1).length≤1:=by unfold votQ;split <;> simp
  exact⟨outA (calF s (s1,M)).2,X' :: nodR p pe pl ve' vl' (setF s1).1, .agg (.sl .here (by rw [zP];omega) h1 (.sl .here (by rw [zP];omega) (msg_rows _) (.le (ALe.refl _) .nil))) .nil,_,_,rfl,rfl⟩)
def tkO : Nat→Ord×(Nat→Cls):=fun id=>bif Nat.beq id 2 then(.one 4 (.one 6 (.one 7 (.alt 0 (.one 1 (.one 2 (.alt 3 (.one 5 (.one 8 (.one 9 .done))) (.alt 5 (.one 3 (.one 8 (.one 9 .done))) (.none))))) (.alt 5 (.one 0 (.one 1 (.one 2 (.one 3 (.one 8 (.one 9 .done)))))) (.none))))),clOf [.ext, .pure, .pure, .ext, .read, .loud, .pure, .pure, .loud, .pure]) else(.done,clOf [])
theorem tickF_len(e:EleN)(vs:List Int)(x y:Int) : (tickF e vs x y).2.length≤vs.length:=by
  unfold tickF
  repeat' split
  all_goals first
    | exact zZ _
    | (show(askF _ vs x y).length≤_
       unfold askF
       rw [List.length_map]
       exact List.length_filter_le _ _)
theorem nall_f(hn:1≤s.g.n∧s.g.n≤5)(hv:valB s.g.n s.g.ents=true)(hp:s.g.leads≠0→PrgL s.g) : CallA Try.prog 34 [pm p] (nodR p pe pl ve vl s) fun r own=>r=msgs (allM s.g)∧own=nodR p pe pl ve vl { s with ticks:=0 } :=
 CallA.fxr (nall_a p pe pl ve vl s hn hv hp) (by
  rintro _ _ ⟨w,rfl,rfl⟩
  exact⟨msgs (allM s.g),nodR p pe pl ve vl { s with ticks:=0 }, .sl .here (by have:=allM_len s.g hn.2;omega) (msg_rows _) .nil,rfl,rfl⟩)
theorem tik_a(b:Nat)(hk:NodK s) : CallA Try.prog 30 [pm b] (blkR b 31 [pm p] :: nodR p pe pl ve vl s) fun r own=>∃ve' vl' w,r= .ow w∧own=arrR w 76 18 (tikN s).2 msgC :: blkR b 31 [pm p] :: nodR p pe pl ve' vl' (tikN s).1:=by
 have hla:=llast_a pl vl s.g (by have:=hk.len;omega)
 have hvo:=nvoters_f p pe pl ve vl s hk.g.n.2 hk.g.val
 have hvl:=votF_len hk.g.val hk.g.n.2
 have het:=etick_a pe ve s.e (votN s) s.g.ents.length (lstT s.g) hk.e.ok (by unfold votN;omega)
 have htl:=tickF_len s.e (votN s) s.g.ents.length (lstT s.g)
 have htl2:(tickF s.e (votN s) s.g.ents.length (lstT s.g)).2.length≤5:=by unfold votN at htl ⊢;omega
 have hll:=lleads_a pl vl s.g
 have hb:=tick_base s.e (votN s) s.g.ents.length (lstT s.g)
 have hal:=fun a e t=>nall_f p pe pl a vl ⟨e,s.g,t⟩ hk.g.n hk.g.val hk.g.prgL
 have hml:=allM_len s.g hk.g.n.2
 unfold tikN
 generalize tickF s.e (votN s) s.g.ents.length (lstT s.g)=T at het htl2 hb ⊢
 obtain⟨e2,M⟩:=T
 simp only at het htl2 hb ⊢
 have htk:=hk.tk
 refine CallA.of pg tkO Try.func30 rfl Try.ntmps30 Try.results30 rfl fun h0 G0 O0=>?_
 repeat'(first|apply Sp.h|refine Lk.r rfl ?_|refine Rf.mk rfl ?_|refine xT ?_|fail)
 refine xW (hla) ?_
 rintro _ _ ⟨rfl,rfl⟩
 (repeat'(first|(show CA _ _ (Code.region 2 _ _) _ _;apply Stopped.out)|apply Sp.h|refine Lk.r rfl ?_|fail));any_goals apply Stopped.mk
 refine CA.cut (fun x:Value×Value=>⟨[(0,pm b),(4, .ow x.2)],arrR x.2 76 18 M msgC :: blkR b 31 [pm p] :: nodR p pe pl x.1 vl { s with e:=e2 }⟩) (fun _=>True) ?_ ?_
 ·repeat'(first|apply Sp.h|refine Lk.r rfl ?_|refine Rf.mk rfl ?_|refine OpK.r rfl ?_|refine xT ?_|refine xD ?_|exact trivial|apply RA'.both|(((apply Cl.use (hvo);(focus repeat' constructor);(focus repeat' constructor);focus rfl));(rintro _ _ ⟨rfl,rfl⟩))|(((apply Cl.use (het);(focus repeat' constructor);(focus repeat' constructor);focus rfl));(rintro _ _ ⟨ve2,w2,rfl,rfl⟩)))
  all_goals exact PA.lp (_,_) xE trivial
 rintro⟨ve2,w2⟩ -
 simp only
 by_cases h1:0 < s.g.leads
 rotate_left
 ·rw [if_neg h1]
  repeat'(first|apply Sp.h|refine Lk.r rfl ?_|refine Rf.mk rfl ?_|refine xT ?_|fail)
  refine xW (hll) ?_
  rintro _ _ ⟨rfl,rfl⟩
  repeat'(first|apply Sp.h|refine Lk.r rfl ?_|refine Rf.mk rfl ?_|refine xB ?_|refine xN ?_|fail)
  all_goals exact⟨_,_, .one (.same (.z)),_,_,_,rfl,rfl⟩
 rw [if_pos h1]
 have hal:=hal ve2 e2 (s.ticks+1)
 by_cases h2:s.ticks+1=3
 ·rw [if_pos h2]
  repeat'(first|apply Sp.h|refine Lk.r rfl ?_|refine Rf.mk rfl ?_|refine xT ?_|fail)
  refine xW (hll) ?_
  rintro _ _ ⟨rfl,rfl⟩
  repeat'(first|apply Sp.h|refine Lk.r rfl ?_|refine Rf.mk rfl ?_|refine xA ?_|refine xT ?_|refine xV ?_|refine xO ?_|fail)
  refine xW (hal) ?_
  rintro _ _ ⟨rfl,rfl⟩
  repeat'(first|apply Sp.h|refine Lk.r rfl ?_|refine Rf.mk rfl ?_|refine xP ?_|apply All.mk|refine xU ?_|refine Ce.r ?_|refine xN ?_|refine Rf.mk ⟨rfl,rfl⟩ ?_|refine Mp.same ?_|intro _)
  all_goals exact⟨_,_, .one (.same (.z)),_,_,_,rfl,rfl⟩
 ·rw [if_neg h2]
  repeat'(first|apply Sp.h|refine Lk.r rfl ?_|refine Rf.mk rfl ?_|refine xT ?_|fail)
  refine xW (hll) ?_
  rintro _ _ ⟨rfl,rfl⟩
  repeat'(first|apply Sp.h|refine Lk.r rfl ?_|refine Rf.mk rfl ?_|refine xA ?_|refine xB ?_|refine xT ?_|refine xV ?_|refine xN ?_|refine xO ?_|fail)
  all_goals exact⟨_,_, .one (.same (.z)),_,_,_,rfl,rfl⟩
theorem tick_a(hk:NodK s) : CallA Try.prog 10 [pm p] (nodR p pe pl ve vl s) fun r own=>∃ve' vl',r=outA (tickN s).2∧own=nodR p pe pl ve' vl' (tickN s).1:=by
 have htl:=tickF_len s.e (votN s) s.g.ents.length (lstT s.g)
 have hvl:=votF_len hk.g.val hk.g.n.2
 have hml:=allM_len s.g hk.g.n.2
 have hM:(tikN s).2.length≤1000000:=by
  unfold tikN votN at *
  split
  ·split
   ·simp only [zP];omega
   ·simp only;omega
  ·simp only;omega
 have hc:=fun b=>call_a p pe pl ve vl s _ _ _ _ (tikN s).1 (tikN s).2 hk hk.kTik hM rfl (tik_a p pe pl ve vl s b hk)
 unfold tickN
 obtain⟨Q,hQ⟩:∃Q,Q=calF s (tikN s):=⟨_,rfl⟩
 have hc2:∀b,CallA Try.prog 29 [pm p, .fn 30 [pm b]] (blkR b 31 [pm p] :: nodR p pe pl ve vl s) fun q own=>∃ve' vl',q=outA Q.2∧own=blkR b 31 [pm p] :: nodR p pe pl ve' vl' Q.1:=fun b=>by rw [hQ];exact hc b
 rw [←hQ]
 clear hc hQ htl hvl hml hM
 refine CallA.of pg ordZ Try.func10 rfl Try.ntmps10 Try.results10 rfl fun h0 G0 O0=>?_
 repeat'(first|apply Sp.h|refine Lk.r rfl ?_|refine Rf.mk rfl ?_|apply All.mk|refine xT ?_|refine xN ?_|intro _)
 refine xW (hc2 _) ?_
 rintro _ _ ⟨ve2,vl2,rfl,rfl⟩
 repeat'(first|apply Sp.h|refine Lk.r rfl ?_|refine Rf.mk rfl ?_|refine xT ?_|(apply SetAsk.r;focus repeat' constructor)|refine xN ?_|fail)
 all_goals exact⟨_,_, .one (.same (.z)),_,_,rfl,rfl⟩
end
def MsgK(m:MsgS) : Prop:=m.kind=7→∃l,m.es=some l∧l.length≤100000∧VotL l
theorem append_c(p:Nat)(v:Value)(g:LogN)(m:MsgS)(hg:LogK g)(hm:∃l,m.es=some l∧l.length≤100000∧VotL l) : CallA Try.prog 101 [pm p,msgA m] (logR p v g) fun r own=>r= .tup [msgA (appF g m).2.1,it (appF g m).2.2.1,it (appF g m).2.2.2]∧∃v',own=logR p v' (appF g m).1:=by
 obtain⟨l,h1,h2,h3⟩:=hm
 have hl:=hg.len
 by_cases hn:fitB g m=false∨0 < g.leads∨(g.ents.length:Int) < m.index∨trmI g.ents m.index≠m.logt
 ·exact(append_no p v g m l h1 (by omega) hn).mono fun r o ⟨a,b⟩=>⟨a,v,b⟩
 ·have hb:fitB g m=true:=by
   cases h:fitB g m
   ·exact absurd (.inl h) hn
   ·rfl
  exact append_yes p v g m l h1 (by omega) h2 h3 hg.c.1 hb (fun h=>hn (.inr (.inl h))) (Int.not_lt.1 fun h=>hn (.inr (.inr (.inl h)))) (Classical.byContradiction fun h=>hn (.inr (.inr (.inr h))))
def naO : Nat→Ord×(Nat→Cls):=fun id=>bif Nat.beq id 3 then(.one 0 (.one 1 (.one 2 (.one 3 (.one 4 (.one 5 (.one 6 (.one 7 (.one 8 .done)))))))),clOf [.pure, .pure, .pure, .read, .pure, .read, .pure, .read, .loud]) else bif Nat.beq id 5 then(.one 0 (.one 1 (.one 2 (.one 3 (.one 4 (.alt 5 (.one 6 (.one 7 (.one 8 (.one 9 (.one 10 (.one 11 (.one 12 (.one 13 .done)))))))) (.alt 10 (.one 5 (.one 6 (.one 7 (.one 8 (.one 9 (.one 11 (.one 12 (.one 13 .done)))))))) (.none))))))),clOf [.pure, .pure, .pure, .read, .read, .loud, .pure, .pure, .pure, .pure, .ext, .loud, .pure, .pure]) else bif Nat.beq id 11 then(.one 0 (.one 1 (.one 2 (.one 3 (.one 4 (.one 5 (.one 6 (.one 7 (.one 8 (.one 9 .done))))))))),clOf [.pure, .pure, .pure, .read, .pure, .read, .pure, .pure, .ext, .pure]) else(.done,clOf [])
def ndO : Nat→Ord×(Nat→Cls):=fun id=>bif Nat.beq id 3 then(.one 0 (.one 1 (.one 2 (.one 3 (.one 4 (.one 5 (.one 6 .done)))))),clOf [.pure, .pure, .pure, .read, .pure, .read, .loud]) else bif Nat.beq id 4 then(.one 0 (.one 1 (.one 2 (.one 3 (.one 4 (.one 5 (.one 6 (.one 7 (.one 8 (.one 9 (.one 10 (.one 12 (.alt 11 (.one 13 (.one 14 (.one 15 (.one 16 (.one 17 (.one 18 (.one 19 (.one 20 .done)))))))) (.alt 13 (.one 11 (.one 14 (.one 15 (.one 16 (.one 17 (.one 18 (.one 19 (.one 20 .done)))))))) (.none)))))))))))))),clOf [.pure, .pure, .pure, .read, .loud, .pure, .pure, .pure, .pure, .pure, .read, .loud, .pure, .ext, .pure, .pure, .pure, .pure, .loud, .pure, .pure]) else bif Nat.beq id 6 then(.one 0 (.one 1 (.one 2 (.one 3 (.one 4 (.one 5 .done))))),clOf [.pure, .pure, .pure, .read, .read, .loud]) else bif Nat.beq id 7 then(.one 0 (.one 1 (.one 2 (.one 3 (.one 4 (.one 5 (.alt 6 (.one 7 (.one 8 (.one 9 (.one 10 (.one 11 (.one 12 .done)))))) (.alt 10 (.one 6 (.one 7 (.one 8 (.one 9 (.one 11 (.one 12 .done)))))) (.none)))))))),clOf [.pure, .pure, .pure, .read, .pure, .read, .loud, .pure, .pure, .pure, .ext, .loud, .pure]) else(.done,clOf [])
def rvO : Nat→Ord×(Nat→Cls):=fun id=>bif Nat.beq id 5 then(.one 5 (.one 7 (.one 8 (.alt 0 (.one 1 (.one 2 (.alt 3 (.alt 4 (.one 6 (.one 9 (.one 10 .done))) (.alt 6 (.one 4 (.one 9 (.one 10 .done))) (.none))) (.alt 4 (.alt 3 (.one 6 (.one 9 (.one 10 .done))) (.alt 6 (.one 3 (.one 9 (.one 10 .done))) (.none))) (.alt 6 (.alt 3 (.one 4 (.one 9 (.one 10 .done))) (.alt 4 (.one 3 (.one 9 (.one 10 .done))) (.none))) (.none)))))) (.alt 4 (.alt 0 (.one 1 (.one 2 (.alt 3 (.one 6 (.one 9 (.one 10 .done))) (.alt 6 (.one 3 (.one 9 (.one 10 .done))) (.none))))) (.alt 6 (.one 0 (.one 1 (.one 2 (.one 3 (.one 9 (.one 10 .done)))))) (.none))) (.alt 6 (.alt 0 (.one 1 (.one 2 (.alt 3 (.one 4 (.one 9 (.one 10 .done))) (.alt 4 (.one 3 (.one 9 (.one 10 .done))) (.none))))) (.alt 4 (.one 0 (.one 1 (.one 2 (.one 3 (.one 9 (.one 10 .done)))))) (.none))) (.none)))))),clOf [.ext, .pure, .pure, .ext, .ext, .read, .loud, .pure, .pure, .loud, .pure]) else(.done,clOf [])
section
variable (p pe pl:Nat) (ve vl:Value) (s:NodS)
theorem nto_a(m:MsgS)(hk:NodK s) : CallA Try.prog 99 [pm p,msgA m] (nodR p pe pl ve vl s) fun r own=>r=bl (toB s m)∧own=nodR p pe pl ve vl s:=by
 unfold toB othF
 rw [hk.en,hk.ei]
 by_cases h1:m.to=s.g.i
 rotate_left
 ·rw [zF h1,Bool.false_and]
  refine CallA.of pg ord99 Try.func99 rfl Try.ntmps99 Try.results99 rfl fun h0 G0 O0=>?_
  repeat'(first|apply Sp.h|refine Lk.r rfl ?_|refine Rf.mk rfl ?_|refine xB ?_|refine OpK.r rfl ?_|apply All.mk|refine xT ?_|refine xN ?_|refine xD ?_|intro _)
  all_goals exact⟨_,_, .one (.same (.z)),rfl,rfl⟩
 rw [zT h1,Bool.true_and]
 by_cases h2:0≤m.frm
 rotate_left
 ·rw [zF (fun h=>h2 h.1)]
  refine CallA.of pg ord99 Try.func99 rfl Try.ntmps99 Try.results99 rfl fun h0 G0 O0=>?_
  repeat'(first|apply Sp.h|refine Lk.r rfl ?_|refine Rf.mk rfl ?_|refine xA ?_|refine xB ?_|refine OpK.r rfl ?_|apply All.mk|refine xT ?_|refine xN ?_|refine xD ?_|intro _)
  all_goals exact⟨_,_, .one (.same (.z)),rfl,rfl⟩
 by_cases h3:m.frm < s.g.n
 rotate_left
 ·rw [zF (fun h=>h3 h.2.1)]
  refine CallA.of pg ord99 Try.func99 rfl Try.ntmps99 Try.results99 rfl fun h0 G0 O0=>?_
  repeat'(first|apply Sp.h|refine Lk.r rfl ?_|refine Rf.mk rfl ?_|refine xA ?_|refine xB ?_|refine OpK.r rfl ?_|apply All.mk|refine xT ?_|refine xN ?_|refine xD ?_|intro _)
  all_goals exact⟨_,_, .one (.same (.z)),rfl,rfl⟩
 ·refine CallA.of pg ord99 Try.func99 rfl Try.ntmps99 Try.results99 rfl fun h0 G0 O0=>?_
  repeat'(first|apply Sp.h|refine Lk.r rfl ?_|refine Rf.mk rfl ?_|refine xA ?_|refine OpK.r rfl ?_|apply All.mk|refine xT ?_|refine xN ?_|refine xD ?_|intro _)
  all_goals exact⟨_,_, .one (.same (.z)),vb (zD.2 (by omega)),rfl⟩
theorem nappend_a(m:MsgS)(hk:NodK s)(hm:∃l,m.es=some l∧l.length≤100000∧VotL l) : CallA Try.prog 77 [pm p,msgA m] (nodR p pe pl ve vl s) fun r own=>∃ve' vl' w,r= .ow w∧own=arrR w 76 18 (appN s m).2 msgC :: nodR p pe pl ve' vl' (appN s m).1:=by
 have hto:=nto_a p pe pl ve vl s m hk
 have hfo:=follow_a pe ve s.e m.frm m.term
 have hst:=lstop_a pl vl s.g
 have hap:=append_c pl vl (stpF s.g) m hk.g.stop hm
 have hba:=app_base (stpF s.g) m
 unfold appN
 cases hb:toB s m
 ·rw [hb] at hto
  rw [if_pos rfl]
  refine CallA.of pg naO Try.func77 rfl Try.ntmps77 Try.results77 rfl fun h0 G0 O0=>?_
  repeat'(first|apply Sp.h|refine Lk.r rfl ?_|refine Rf.mk rfl ?_|apply All.mk|refine xT ?_|refine Ch.l ⟨rfl,rfl⟩ ?_|intro _)
  refine xW (hto) ?_
  rintro _ _ ⟨rfl,rfl⟩
  repeat'(first|apply Sp.h|refine Lk.r rfl ?_|refine Rf.mk rfl ?_|refine xB ?_|refine xN ?_|fail)
  all_goals exact⟨_,_, .one (.nils (.z)),_,_,_,rfl,rfl⟩
 rw [hb] at hto
 rw [if_neg (fun h=>by cases h)]
 generalize followF s.e m.frm m.term=F at hfo ⊢
 obtain⟨e2,b⟩:=F
 simp only at hfo ⊢
 cases b
 rotate_left
 ·rw [if_pos rfl]
  generalize appF (stpF s.g) m=A at hap hba ⊢
  obtain⟨g2,M,x,c⟩:=A
  simp only at hap hba ⊢
  obtain⟨b1,b2,b3⟩:=hba
  have hnr:∀v1 v2,nodR p pe pl v1 v2 { s with e:=e2,g:=g2 } = [blkR p 54 [pm pe,pm pl,it s.g.n,it s.g.i,it s.ticks],blkR pe 93 (eleC e2 v1),arrR v1 3 1 e2.votes intC,blkR pl 119 (logC g2 v2),arrR v2 89 6 g2.ents entC]:=fun v1 v2=>by rw [nodR];simp only;rw [b1,b2];rfl
  by_cases hc:c=0
  ·rw [if_pos hc]
   refine CallA.of pg naO Try.func77 rfl Try.ntmps77 Try.results77 rfl fun h0 G0 O0=>?_
   repeat'(first|apply Sp.h|refine Lk.r rfl ?_|refine Rf.mk rfl ?_|refine xA ?_|refine OpK.r rfl ?_|refine All.mk fun _=>?_|refine xT ?_|refine Ch.l ⟨rfl,rfl⟩ ?_|(apply SetAsk.r;focus repeat' constructor)|(apply Fk.r;focus repeat' first|infer_instance|constructor)|refine xN ?_|refine Rf.mk ⟨rfl,rfl,rfl⟩ ?_|refine xD ?_|exact trivial|apply RA'.both|(((apply Cl.use (hto);(focus repeat' constructor);(focus repeat' constructor);focus rfl));(rintro _ _ ⟨rfl,rfl⟩))|(((apply Cl.use (hfo);(focus repeat' constructor);(focus repeat' constructor);focus rfl));(rintro _ _ ⟨rfl,v3,rfl⟩))|(((apply Cl.use (hst);(focus repeat' constructor);(focus repeat' constructor);focus rfl));(rintro _ _ ⟨rfl,rfl⟩))|(((apply Cl.use (hap);(focus repeat' constructor);(focus repeat' constructor);focus rfl));(rintro _ _ ⟨rfl,v4,rfl⟩)))
   all_goals exact⟨_,_ :: nodR p pe pl v3 v4 { s with e:=e2,g:=g2 }, .one (.same (.nil (Subl.cons .here (by rw [hnr];(repeat first|exact .nil|refine .cons (by repeat constructor) ?_))))),_,_,_,rfl,congrArg (fun R=>R :: nodR p pe pl v3 v4 { s with e:=e2,g:=g2 }) (arrR_eq rfl)⟩
  ·rw [if_neg hc]
   refine CallA.of pg naO Try.func77 rfl Try.ntmps77 Try.results77 rfl fun h0 G0 O0=>?_
   repeat'(first|apply Sp.h|refine Lk.r rfl ?_|refine Rf.mk rfl ?_|refine xA ?_|refine xB ?_|refine OpK.r rfl ?_|refine All.mk fun _=>?_|refine xT ?_|refine Ch.l ⟨rfl,rfl⟩ ?_|(apply SetAsk.r;focus repeat' constructor)|refine xN ?_|refine xD ?_|exact trivial|apply RA'.both|(((apply Cl.use (hto);(focus repeat' constructor);(focus repeat' constructor);focus rfl));(rintro _ _ ⟨rfl,rfl⟩))|(((apply Cl.use (hfo);(focus repeat' constructor);(focus repeat' constructor);focus rfl));(rintro _ _ ⟨rfl,v3,rfl⟩))|(((apply Cl.use (hst);(focus repeat' constructor);(focus repeat' constructor);focus rfl));(rintro _ _ ⟨rfl,rfl⟩))|(((apply Cl.use (hap);(focus repeat' constructor);(focus repeat' constructor);focus rfl));(rintro _ _ ⟨rfl,v4,rfl⟩)))
   all_goals exact⟨_,_, .one (.nils (.nil (by rw [hnr];(repeat first|exact .nil|refine .cons (by repeat constructor) ?_)))),_,_,_,rfl,rfl⟩
 rw [if_neg Bool.false_ne_true]
 have het:=fun v=>eterm_a pe v e2
 by_cases h1:1≤m.term∧m.term < e2.term
 ·obtain⟨h2,h3⟩:=h1
  rw [if_pos ⟨h2,h3⟩,hk.ei]
  refine CallA.of pg naO Try.func77 rfl Try.ntmps77 Try.results77 rfl fun h0 G0 O0=>?_
  repeat'(first|apply Sp.h|refine Lk.r rfl ?_|refine Rf.mk rfl ?_|refine xA ?_|refine OpK.r rfl ?_|refine All.mk fun _=>?_|refine xT ?_|refine Ch.l ⟨rfl,rfl⟩ ?_|(apply Fk.r;focus repeat' first|infer_instance|constructor)|refine xN ?_|refine Rf.mk ⟨rfl,rfl,rfl⟩ ?_|refine xD ?_|(((apply Cl.use (hto);(focus repeat' constructor);(focus repeat' constructor);focus rfl));(rintro _ _ ⟨rfl,rfl⟩))|(((apply Cl.use (hfo);(focus repeat' constructor);(focus repeat' constructor);focus rfl));(rintro _ _ ⟨rfl,v3,rfl⟩))|(((apply Cl.use (het _);(focus repeat' constructor);(focus repeat' constructor);focus rfl));(rintro _ _ ⟨rfl,rfl⟩)))
  all_goals exact⟨_,_ :: nodR p pe pl v3 vl { s with e:=e2 }, .one (.same (.nil (Subl.cons .here (by(repeat first|exact .nil|refine .cons (by repeat constructor) ?_))))),_,_,_,rfl,congrArg (fun R=>R :: nodR p pe pl v3 vl { s with e:=e2 }) (arrR_eq rfl)⟩
 ·rw [if_neg h1]
  refine CallA.of pg naO Try.func77 rfl Try.ntmps77 Try.results77 rfl fun h0 G0 O0=>?_
  by_cases h2:1≤m.term
  ·have h3:¬m.term < e2.term:=fun h=>h1 ⟨h2,h⟩
   repeat'(first|apply Sp.h|refine Lk.r rfl ?_|refine Rf.mk rfl ?_|refine xA ?_|refine xB ?_|refine OpK.r rfl ?_|refine All.mk fun _=>?_|refine xT ?_|refine Ch.l ⟨rfl,rfl⟩ ?_|refine xN ?_|refine xD ?_|(((apply Cl.use (hto);(focus repeat' constructor);(focus repeat' constructor);focus rfl));(rintro _ _ ⟨rfl,rfl⟩))|(((apply Cl.use (hfo);(focus repeat' constructor);(focus repeat' constructor);focus rfl));(rintro _ _ ⟨rfl,v3,rfl⟩))|(((apply Cl.use (het _);(focus repeat' constructor);(focus repeat' constructor);focus rfl));(rintro _ _ ⟨rfl,rfl⟩)))
   all_goals exact⟨_,_, .one (.nils (.z)),_,_,_,rfl,rfl⟩
  ·repeat'(first|apply Sp.h|refine Lk.r rfl ?_|refine Rf.mk rfl ?_|refine xA ?_|refine xB ?_|refine OpK.r rfl ?_|refine All.mk fun _=>?_|refine xT ?_|refine Ch.l ⟨rfl,rfl⟩ ?_|refine xN ?_|refine xD ?_|(((apply Cl.use (hto);(focus repeat' constructor);(focus repeat' constructor);focus rfl));(rintro _ _ ⟨rfl,rfl⟩))|(((apply Cl.use (hfo);(focus repeat' constructor);(focus repeat' constructor);focus rfl));(rintro _ _ ⟨rfl,v3,rfl⟩))|(((apply Cl.use (het _);(focus repeat' constructor);(focus repeat' constructor);focus rfl));(rintro _ _ ⟨rfl,rfl⟩)))
   all_goals exact⟨_,_, .one (.nils (.z)),_,_,_,rfl,rfl⟩
end
abbrev msgG (m:MsgS) (b:Bool):List AV:= [it m.kind,it m.frm,it m.to, .val m.jk.a, .val m.jk.b, .val m.jk.c, .val m.jk.d, .val m.jk.e, .val m.jk.f, .val m.jk.g, .val m.jk.h, .val m.jk.i,it m.term,it m.index,it m.logt,it m.commit, .val (.bool b),eoA m.es]
section
variable (p pe pl:Nat) (ve vl:Value) (s:NodS)
theorem nappended_a(m:MsgS)(hk:NodK s)(hix: -9223372036854775808≤m.index) : CallA Try.prog 78 [pm p,msgA m] (nodR p pe pl ve vl s) fun r own=>∃ve' vl' w,r= .ow w∧own=arrR w 76 18 (apdN s m).2 msgC :: nodR p pe pl ve' vl' (apdN s m).1:=by
 have hto:=nto_a p pe pl ve vl s m hk
 have hse:=see_a pe ve s.e m.term
 have hll:=lleads_a pl vl s.g
 have hap:=appended_a pl vl s.g m (by have:=hk.len;omega) hk.g.n.2 hk.g.prgS hix
 have hg2:=hk.g.apd m
 have hba:=apd_base s.g m
 have hsd:=send_a pl vl (apdF s.g m) m.frm (by have:=hg2.len;omega) hg2.vot hg2.n.2 hg2.prgL
 unfold apdN
 cases hb:toB s m
 ·rw [hb] at hto
  rw [if_pos rfl]
  refine CallA.of pg ndO Try.func78 rfl Try.ntmps78 Try.results78 rfl fun h0 G0 O0=>?_
  repeat'(first|apply Sp.h|refine Lk.r rfl ?_|refine Rf.mk rfl ?_|apply All.mk|refine xT ?_|refine Ch.l ⟨rfl,rfl⟩ ?_|intro _)
  refine xW (hto) ?_
  rintro _ _ ⟨rfl,rfl⟩
  repeat'(first|apply Sp.h|refine Lk.r rfl ?_|refine Rf.mk rfl ?_|refine xB ?_|refine xN ?_|fail)
  all_goals exact⟨_,_, .one (.nils (.z)),_,_,_,rfl,rfl⟩
 rw [hb] at hto
 rw [if_neg (fun h=>by cases h)]
 generalize seeF s.e m.term=e2 at hse ⊢
 have hle:=fun v=>nleader_a p pe pl v vl { s with e:=e2 }
 refine CallA.of pg ndO Try.func78 rfl Try.ntmps78 Try.results78 rfl fun h0 G0 O0=>?_
 repeat'(first|(show CA _ _ (Code.region 4 _ _) _ _;apply Stopped.out)|apply Sp.h|refine Lk.r rfl ?_|refine Rf.mk rfl ?_|refine xA ?_|refine OpK.r rfl ?_|refine All.mk fun _=>?_|refine xT ?_|refine Ch.l ⟨rfl,rfl⟩ ?_|refine xD ?_|(((apply Cl.use (hto);(focus repeat' constructor);(focus repeat' constructor);focus rfl));(rintro _ _ ⟨rfl,rfl⟩))|(((apply Cl.use (hse);(focus repeat' constructor);(focus repeat' constructor);focus rfl));(rintro _ _ ⟨rfl,v3,rfl⟩)))
 any_goals apply Stopped.mk
 rename_i b3
 refine CA.cut (fun z:Bool=>⟨[(0,pm p),(3,pm b3),(38,bl z)],blkR b3 76 (msgC m) :: nodR p pe pl v3 vl { s with e:=e2 }⟩) (fun z=>z=decide (s.g.leads=0∨s.g.leads≠m.term∨e2.role≠2)) ?_ ?_
 ·by_cases h1:s.g.leads=0
  ·repeat'(first|apply Sp.h|refine Lk.r rfl ?_|refine Rf.mk rfl ?_|refine xA ?_|refine OpK.r rfl ?_|refine xT ?_|refine xD ?_|exact trivial|apply RA'.both|(((apply Cl.use (hll);(focus repeat' constructor);(focus repeat' constructor);focus rfl));(rintro _ _ ⟨rfl,rfl⟩)))
   all_goals exact PA.lp _ xE (zT (.inl h1)).symm
  by_cases h2:s.g.leads=m.term
  rotate_left
  ·repeat'(first|apply Sp.h|refine Lk.r rfl ?_|refine Rf.mk rfl ?_|refine xB ?_|refine OpK.r rfl ?_|refine xT ?_|refine xD ?_|exact trivial|apply RA'.both|(((apply Cl.use (hll);(focus repeat' constructor);(focus repeat' constructor);focus rfl));(rintro _ _ ⟨rfl,rfl⟩)))
   all_goals exact PA.lp _ xE (zT (.inr (.inl h2))).symm
  repeat'(first|apply Sp.h|refine Lk.r rfl ?_|refine Rf.mk rfl ?_|refine xA ?_|refine xB ?_|refine OpK.r rfl ?_|refine xT ?_|refine xD ?_|exact trivial|apply RA'.both|(((apply Cl.use (hll);(focus repeat' constructor);(focus repeat' constructor);focus rfl));(rintro _ _ ⟨rfl,rfl⟩))|(((apply Cl.use (hle _);(focus repeat' constructor);(focus repeat' constructor);focus rfl));(rintro _ _ ⟨rfl,rfl⟩)))
  all_goals exact PA.lp _ xE (by
   have h3:decide (s.g.leads=0∨s.g.leads≠m.term∨e2.role≠2)= !decide (e2.role=2):=by rw [←decide_not];exact zD.2 ⟨fun h=>(h.resolve_left h1).resolve_left (fun h=>h h2),fun h=> .inr (.inr h)⟩
   rw [h3];exact decide_not)
 rintro z hz
 by_cases hc:s.g.leads=0∨s.g.leads≠m.term∨e2.role≠2
 ·rw [hz.trans (zT hc),if_pos hc]
  repeat'(first|apply Sp.h|refine Lk.r rfl ?_|refine Rf.mk rfl ?_|refine xN ?_|fail)
  all_goals exact⟨_,_, .one (.nils (.z)),_,_,_,rfl,rfl⟩
 rw [hz.trans (zF hc),if_neg hc]
 have hsm:(sendF (apdF s.g m) m.frm).2=0→∃l,(sendF (apdF s.g m) m.frm).1.es=some l:=fun h=>by
  unfold sendF at h ⊢
  split at h
  ·cases h
  ·split at h
   ·cases h
   ·rename_i q1 q2
    rw [if_neg q1,if_neg q2]
    exact⟨_,rfl⟩
 generalize apdF s.g m=g2 at hap hba hsd hsm ⊢
 obtain⟨b1,b2,_⟩:=hba
 have hnr:∀v1 v2,nodR p pe pl v1 v2 { s with e:=e2,g:=g2 } = [blkR p 54 [pm pe,pm pl,it s.g.n,it s.g.i,it s.ticks],blkR pe 93 (eleC e2 v1),arrR v1 3 1 e2.votes intC,blkR pl 119 (logC g2 v2),arrR v2 89 6 g2.ents entC]:=fun v1 v2=>by rw [nodR];simp only;rw [b1,b2]
 generalize sendF g2 m.frm=S at hsd hsm ⊢
 obtain⟨M,c⟩:=S
 simp only at hsd hsm ⊢
 by_cases hc0:c=0
 rotate_left
 ·rw [if_pos (.inl hc0)]
  repeat'(first|apply Sp.h|refine Lk.r rfl ?_|refine Rf.mk rfl ?_|refine xB ?_|refine OpK.r rfl ?_|refine All.mk fun _=>?_|refine xT ?_|refine Ch.l ⟨rfl,rfl⟩ ?_|(apply SetAsk.r;focus repeat' constructor)|refine xN ?_|refine xD ?_|exact trivial|apply RA'.both|(((apply Cl.use (hap);(focus repeat' constructor);(focus repeat' constructor);focus rfl));(rintro _ _ ⟨rfl,rfl⟩))|(((apply Cl.use (hsd);(focus repeat' constructor);(focus repeat' constructor);focus rfl));(rintro _ _ ⟨rfl,rfl⟩)))
  all_goals exact⟨_,_, .one (.nils (.nil (by rw [hnr];(repeat first|exact .nil|refine .cons (by repeat constructor) ?_)))),_,_,_,rfl,rfl⟩
 obtain⟨l,hes⟩:=hsm hc0
 have hml:M.ents=l:=by rw [MsgS.ents,hes];rfl
 rw [hml]
 have hMl:msgC M=msgL M l:=by rw [msgC,hes,eoA]
 unfold msgA at hsd
 rw [hMl] at hsd
 have hmG:∀b,m.granted=b→msgC m=msgG m b:=fun b hb=>by rw [←hb];rfl
 unfold msgA at hap
 cases hgr:m.granted
 ·rw [if_neg (fun h=>h.elim (fun h=>h hc0) fun h=>by cases h.1)]
  rw [hmG _ hgr] at hap ⊢
  repeat'(first|apply Sp.h|refine Lk.r rfl ?_|refine Rf.mk rfl ?_|refine xA ?_|refine OpK.r rfl ?_|refine All.mk fun _=>?_|refine xT ?_|refine Ch.l ⟨rfl,rfl⟩ ?_|(apply SetAsk.r;focus repeat' constructor)|(apply Fk.r;focus repeat' first|infer_instance|constructor)|refine xN ?_|refine Rf.mk ⟨rfl,rfl,rfl⟩ ?_|refine xD ?_|exact trivial|apply RA'.both|(((apply Cl.use (hap);(focus repeat' constructor);(focus repeat' constructor);focus rfl));(rintro _ _ ⟨rfl,rfl⟩))|(((apply Cl.use (hsd);(focus repeat' constructor);(focus repeat' constructor);focus rfl));(rintro _ _ ⟨rfl,rfl⟩)))
  all_goals exact⟨_,_ :: nodR p pe pl v3 vl { s with e:=e2,g:=g2 }, .one (.same (.nil (Subl.cons .here (by rw [hnr];(repeat first|exact .nil|refine .cons (by repeat constructor) ?_))))),_,_,_,rfl,congrArg (fun R=>R :: nodR p pe pl v3 vl { s with e:=e2,g:=g2 }) (arrR_eq (show [msgL M l].map id= [M].map msgC by rw [List.map_singleton,List.map_singleton,hMl];rfl))⟩
 rw [hmG _ hgr] at hap ⊢
 cases l with
 | nil =>
  rw [if_pos (.inr ⟨rfl,rfl⟩)]
  repeat'(first|apply Sp.h|refine Lk.r rfl ?_|refine Rf.mk rfl ?_|refine xA ?_|refine OpK.r rfl ?_|refine Im.mk fun _=>?_|refine All.mk fun _=>?_|refine xT ?_|refine Ch.l ⟨rfl,rfl⟩ ?_|(apply SetAsk.r;focus repeat' constructor)|refine xN ?_|refine xD ?_|exact trivial|apply RA'.both|(((apply Cl.use (hap);(focus repeat' constructor);(focus repeat' constructor);focus rfl));(rintro _ _ ⟨rfl,rfl⟩))|(((apply Cl.use (hsd);(focus repeat' constructor);(focus repeat' constructor);focus rfl));(rintro _ _ ⟨rfl,rfl⟩)))
  all_goals exact⟨_,_, .one (.nils (.nil (by rw [hnr];(repeat first|exact .nil|refine .cons (by repeat constructor) ?_)))),_,_,_,rfl,rfl⟩
 | cons a l =>
  rw [if_neg (fun h=>h.elim (fun h=>h hc0) fun h=>by cases h.2)]
  generalize hL:a :: l=L at hsd hMl
  have hLl:0 < L.length:=by rw [←hL];simp
  clear hL
  repeat'(first|apply Sp.h|refine Lk.r rfl ?_|refine Rf.mk rfl ?_|refine xA ?_|refine xB ?_|refine OpK.r rfl ?_|refine Im.mk fun _=>?_|refine All.mk fun _=>?_|refine xT ?_|refine Ch.l ⟨rfl,rfl⟩ ?_|(apply SetAsk.r;focus repeat' constructor)|(apply Fk.r;focus repeat' first|infer_instance|constructor)|refine xN ?_|refine Rf.mk ⟨rfl,rfl,rfl⟩ ?_|refine xD ?_|exact trivial|apply RA'.both|(((apply Cl.use (hap);(focus repeat' constructor);(focus repeat' constructor);focus rfl));(rintro _ _ ⟨rfl,rfl⟩))|(((apply Cl.use (hsd);(focus repeat' constructor);(focus repeat' constructor);focus rfl));(rintro _ _ ⟨rfl,rfl⟩)))
  all_goals first
   | exact⟨_,_ :: nodR p pe pl v3 vl { s with e:=e2,g:=g2 }, .one (.same (.nil (Subl.cons .here (by rw [hnr];(repeat first|exact .nil|refine .cons (by repeat constructor) ?_))))),_,_,_,rfl,congrArg (fun R=>R :: nodR p pe pl v3 vl { s with e:=e2,g:=g2 }) (arrR_eq (show [msgL M L].map id= [M].map msgC by rw [List.map_singleton,List.map_singleton,hMl];rfl))⟩
   | exact(by omega:False).elim
end
end Go.Proofs.Ythlpimbhonihhaa
namespace Go.CF
open Go
theorem CallA.bunIn{P:Program}{f:FuncId}{asx:List AV}{rs rest:List Res}{K K':AV→List Res→Prop}(hc:CallA P f asx (rs ++ rest) K)(hK:∀r o,K r o→∃rs' rest',o=rs' ++ rest'∧K' r (bunR rs' :: rest')) : CallA P f asx (bunR rs :: rest) K':=by
 refine⟨fun h G Os vs h1 h2=>?_⟩
 match Os,h2 with
 | O :: Os,h2 =>
  obtain⟨Os1,g1,g2⟩:=HpOK.unbun h2
  have g3:HpOK h G (U (O :: Os)) ((rs ++ rest) ++ []) h G ((Os1 ++ Os) ++ []):=by simpa using g2
  refine(hc.run h G (Os1 ++ Os) vs h1 (g3.inner g2.own)).mono fun v h' ⟨r,own',G',Os',q1,q2,q3⟩=>?_
  obtain⟨k1,_,_⟩:=g3.call (r2:= []) (o2:= []) trivial q3
  rw [List.append_nil,List.append_nil] at k1
  obtain⟨rs',rest',rfl,hk'⟩:=hK r own' q1
  obtain⟨o1,o2,rfl,w1,w2⟩:=OwnL.split k1.own
  exact⟨r,_,G',_,hk',q2,k1.bun w1 w2⟩
 | [],h2=>exact h2.own.elim
theorem CallA.bunIn2{P:Program}{f:FuncId}{asx:List AV}{rs rest:List Res}{K K':AV→List Res→Prop}(hc:CallA P f asx (rs ++ rest) K)(hK:∀r o,K r o→∃R rs' rest',o=R :: (rs' ++ rest')∧K' r (R :: bunR rs' :: rest')) : CallA P f asx (bunR rs :: rest) K':=by
 refine⟨fun h G Os vs h1 h2=>?_⟩
 match Os,h2 with
 | O :: Os,h2 =>
  obtain⟨Os1,g1,g2⟩:=HpOK.unbun h2
  have g3:HpOK h G (U (O :: Os)) ((rs ++ rest) ++ []) h G ((Os1 ++ Os) ++ []):=by simpa using g2
  refine(hc.run h G (Os1 ++ Os) vs h1 (g3.inner g2.own)).mono fun v h' ⟨r,own',G',Os',q1,q2,q3⟩=>?_
  obtain⟨k1,_,_⟩:=g3.call (r2:= []) (o2:= []) trivial q3
  rw [List.append_nil,List.append_nil] at k1
  obtain⟨R,rs',rest',rfl,hk'⟩:=hK r own' q1
  match Os',k1 with
  | X :: Os',k1 =>
   obtain⟨o1,o2,rfl,w1,w2⟩:=OwnL.split k1.own.2
   have k2:HpOK h G (U (O :: Os)) (rs' ++ (R :: rest')) h' G' (o1 ++ (X :: o2)):=k1.perm (w1.app ⟨k1.own.1,w2⟩) (List.perm_middle.symm)
   have k3:=k2.bun w1 ⟨k1.own.1,w2⟩
   exact⟨r,_,G',X :: U o1 :: o2,hk',q2,k3.perm ⟨k1.own.1,k3.own.1,w2⟩ (List.Perm.swap _ _ _)⟩
  | [],k1=>exact k1.own.elim
 | [],h2=>exact h2.own.elim
theorem CallA.bunOut{P:Program}{f:FuncId}{asx:List AV}{rs rest:List Res}{K K':AV→List Res→Prop}(hc:CallA P f asx (bunR rs :: rest) K)(hK:∀r o,K r o→∃rs' rest',o=bunR rs' :: rest'∧K' r (rs' ++ rest')) : CallA P f asx (rs ++ rest) K':=by
 refine⟨fun h G Os vs h1 h2=>?_⟩
 obtain⟨o1,o2,rfl,w1,w2⟩:=OwnL.split h2.own
 have g2:=h2.bun w1 w2
 have g3:HpOK h G (U (o1 ++ o2)) ((bunR rs :: rest) ++ []) h G ((U o1 :: o2) ++ []):=by simpa using g2
 refine(hc.run h G (U o1 :: o2) vs h1 (g3.inner g2.own)).mono fun v h' ⟨r,own',G',Os',q1,q2,q3⟩=>?_
 obtain⟨k1,_,_⟩:=g3.call (r2:= []) (o2:= []) trivial q3
 rw [List.append_nil,List.append_nil] at k1
 obtain⟨rs',rest',rfl,hk'⟩:=hK r own' q1
 match Os',k1 with
 | O :: Os',k1 =>
  obtain⟨Os1,_,k3⟩:=HpOK.unbun k1
  exact⟨r,_,G',_,hk',q2,k3⟩
 | [],k1=>exact k1.own.elim
end Go.CF
namespace Go.Proofs.Ythlpimbhonihhaa
open Go Go.CF
section
variable (p pe pl:Nat) (ve vl:Value) (s:NodS)
theorem call_l(f:FuncId)(caps:List AV)(rs rs':List Res)(s1:NodS)(M:List MsgS)(hk:NodK s)(hk1:NodK s1)(hM:M.length≤1000000)(hen:en f=true)
  (hf:CallA Try.prog f caps (rs ++ nodR p pe pl ve vl s) fun q own=>∃ve' vl' w,q= .ow w∧own=arrR w 76 18 M msgC :: (rs' ++ nodR p pe pl ve' vl' s1)) :
  CallA Try.prog 29 [pm p, .fn f caps] (rs ++ nodR p pe pl ve vl s) fun q own=>∃ve' vl',q=outA (calF s (s1,M)).2∧own=rs' ++ nodR p pe pl ve' vl' (calF s (s1,M)).1:=by
 have h1:CallA Try.prog f caps (bunR rs :: nodR p pe pl ve vl s) fun q own=>∃ve' vl' w,q= .ow w∧own=arrR w 76 18 M msgC :: bunR rs' :: nodR p pe pl ve' vl' s1:=by
  refine CallA.bunIn2 hf ?_
  rintro _ _ ⟨ve',vl',w,rfl,rfl⟩
  exact⟨_,_,_,rfl,ve',vl',w,rfl,rfl⟩
 refine CallA.bunOut (call_a p pe pl ve vl s f caps (bunR rs) (bunR rs') s1 M hk hk1 hM hen h1) ?_
 rintro _ _ ⟨ve',vl',rfl,rfl⟩
 exact⟨_,_,rfl,ve',vl',rfl,rfl⟩
theorem recvF_len(e:EleN)(m:MsgS)(vs:List Int)(x y:Int) : (recvF e m vs x y).2.length≤1:=by
 unfold recvF
 split
 ·simp
 ·split
  ·unfold askedF;simp
  ·simp
theorem rcvN_len(m:MsgS) : (rcvN s m).2.length≤1:=by
 unfold rcvN
 split
 ·exact recvF_len _ _ _ _ _
 ·split
  ·unfold appN
   split
   ·simp
   ·split
    ·simp only;split <;> simp
    ·simp only;split <;> simp
  ·split
   ·unfold apdN
    split
    ·simp
    ·split
     ·simp
     ·simp only;split <;> simp
   ·simp
theorem rcv_a(m:MsgS)(b bm:Nat)(hk:NodK s)(hm:MsgK m)(hix: -9223372036854775808≤m.index)(hv:s.e.votes.length≤50000000000) :
  CallA Try.prog 75 [pm bm,pm b] (blkR b 31 [pm p] :: blkR bm 76 (msgC m) :: nodR p pe pl ve vl s) fun r own=>∃ve' vl' w,r= .ow w∧own=arrR w 76 18 (rcvN s m).2 msgC :: blkR b 31 [pm p] :: blkR bm 76 (msgC m) :: nodR p pe pl ve' vl' (rcvN s m).1:=by
 have hla:=llast_a pl vl s.g (by have:=hk.len;omega)
 have hvo:=nvoters_f p pe pl ve vl s hk.g.n.2 hk.g.val
 have hvl:=votF_len hk.g.val hk.g.n.2
 have hrc:=receive_a pe ve s.e m (votN s) s.g.ents.length (lstT s.g) (by unfold votN;omega) hv
 have hap:=nappend_a p pe pl ve vl s m hk
 have had:=nappended_a p pe pl ve vl s m hk hix
 unfold rcvN
 by_cases h1:m.kind=5∨m.kind=6
 ·rw [if_pos h1]
  generalize recvF s.e m (votN s) s.g.ents.length (lstT s.g)=T at hrc ⊢
  obtain⟨e2,M⟩:=T
  simp only at hrc ⊢
  refine CallA.of pg rvO Try.func75 rfl Try.ntmps75 Try.results75 rfl fun h0 G0 O0=>?_
  by_cases h5:m.kind=5
  ·repeat'(first|apply Sp.h|refine Lk.r rfl ?_|refine Rf.mk rfl ?_|refine xA ?_|refine OpK.r rfl ?_|refine xT ?_|refine Ch.l ⟨rfl,rfl⟩ ?_|refine xN ?_|refine xD ?_|exact trivial|apply RA'.both|(((apply Cl.use (hla);(focus repeat' constructor);(focus repeat' constructor);focus rfl));(rintro _ _ ⟨rfl,rfl⟩))|(((apply Cl.use (hvo);(focus repeat' constructor);(focus repeat' constructor);focus rfl));(rintro _ _ ⟨rfl,rfl⟩))|(((apply Cl.use (hrc);(focus repeat' constructor);(focus repeat' constructor);focus rfl));(rintro _ _ ⟨ve2,w2,rfl,rfl⟩)))
   all_goals exact⟨_,_, .one (.same (.z)),_,vl,_,rfl,rfl⟩
  ·have h6:m.kind=6:=h1.resolve_left h5
   repeat'(first|apply Sp.h|refine Lk.r rfl ?_|refine Rf.mk rfl ?_|refine xA ?_|refine xB ?_|refine OpK.r rfl ?_|refine xT ?_|refine Ch.l ⟨rfl,rfl⟩ ?_|refine xN ?_|refine xD ?_|exact trivial|apply RA'.both|(((apply Cl.use (hla);(focus repeat' constructor);(focus repeat' constructor);focus rfl));(rintro _ _ ⟨rfl,rfl⟩))|(((apply Cl.use (hvo);(focus repeat' constructor);(focus repeat' constructor);focus rfl));(rintro _ _ ⟨rfl,rfl⟩))|(((apply Cl.use (hrc);(focus repeat' constructor);(focus repeat' constructor);focus rfl));(rintro _ _ ⟨ve2,w2,rfl,rfl⟩)))
   all_goals exact⟨_,_, .one (.same (.z)),_,vl,_,rfl,rfl⟩
 rw [if_neg h1]
 have h5:¬m.kind=5:=fun h=>h1 (.inl h)
 have h6:¬m.kind=6:=fun h=>h1 (.inr h)
 by_cases h7:m.kind=7
 ·rw [if_pos h7]
  have hap:=hap (hm h7)
  generalize appN s m=T at hap ⊢
  refine CallA.of pg ord75 Try.func75 rfl Try.ntmps75 Try.results75 rfl fun h0 G0 O0=>?_
  repeat'(first|apply Sp.h|refine Lk.r rfl ?_|refine Rf.mk rfl ?_|refine xA ?_|refine xB ?_|refine xT ?_|refine Ch.l ⟨rfl,rfl⟩ ?_|refine xN ?_|(((apply Cl.use (hap);(focus repeat' constructor);(focus repeat' constructor);focus rfl));(rintro _ _ ⟨ve2,vl2,w2,rfl,rfl⟩)))
  all_goals exact⟨_,_, .one (.same (.z)),_,_,_,rfl,rfl⟩
 rw [if_neg h7]
 by_cases h8:m.kind=8
 ·rw [if_pos h8]
  generalize apdN s m=T at had ⊢
  refine CallA.of pg ord75 Try.func75 rfl Try.ntmps75 Try.results75 rfl fun h0 G0 O0=>?_
  repeat'(first|apply Sp.h|refine Lk.r rfl ?_|refine Rf.mk rfl ?_|refine xA ?_|refine xB ?_|refine xT ?_|refine Ch.l ⟨rfl,rfl⟩ ?_|refine xN ?_|(((apply Cl.use (had);(focus repeat' constructor);(focus repeat' constructor);focus rfl));(rintro _ _ ⟨ve2,vl2,w2,rfl,rfl⟩)))
  all_goals exact⟨_,_, .one (.same (.z)),_,_,_,rfl,rfl⟩
 ·rw [if_neg h8]
  refine CallA.of pg ord75 Try.func75 rfl Try.ntmps75 Try.results75 rfl fun h0 G0 O0=>?_
  repeat'(first|apply Sp.h|refine Lk.r rfl ?_|refine Rf.mk rfl ?_|refine xB ?_|refine xT ?_|refine xN ?_|fail)
  all_goals exact⟨_,_, .one (.nils (.z)),_,_,_,rfl,rfl⟩
theorem recv_a(m:MsgS)(hk:NodK s)(hm:MsgK m)(hix: -9223372036854775808≤m.index)(hv:s.e.votes.length≤50000000000) : CallA Try.prog 51 [pm p,msgA m] (nodR p pe pl ve vl s) fun r own=>∃ve' vl',r=outA (recvN s m).2∧own=nodR p pe pl ve' vl' (recvN s m).1:=by
 have hml:=rcvN_len s m
 have hc:=fun b bm=>call_l p pe pl ve vl s _ _ [blkR b 31 [pm p],blkR bm 76 (msgC m)] [blkR b 31 [pm p],blkR bm 76 (msgC m)] (rcvN s m).1 (rcvN s m).2 hk (hk.kRcv m) (by omega) rfl (rcv_a p pe pl ve vl s m b bm hk hm hix hv)
 unfold recvN
 obtain⟨Q,hQ⟩:∃Q,Q=calF s (rcvN s m):=⟨_,rfl⟩
 have hc2:∀b bm,CallA Try.prog 29 [pm p, .fn 75 [pm bm,pm b]] (blkR b 31 [pm p] :: blkR bm 76 (msgC m) :: nodR p pe pl ve vl s) fun q own=>∃ve' vl',q=outA Q.2∧own=blkR b 31 [pm p] :: blkR bm 76 (msgC m) :: nodR p pe pl ve' vl' Q.1:=fun b bm=>by rw [hQ];exact hc b bm
 rw [←hQ]
 clear hc hQ hml
 refine CallA.of pg ordZ Try.func51 rfl Try.ntmps51 Try.results51 rfl fun h0 G0 O0=>?_
 repeat'(first|apply Sp.h|refine Lk.r rfl ?_|refine Rf.mk rfl ?_|apply All.mk|refine xT ?_|refine xN ?_|intro _)
 refine xW (hc2 _ _) ?_
 rintro _ _ ⟨ve2,vl2,rfl,rfl⟩
 repeat'(first|apply Sp.h|refine Lk.r rfl ?_|refine Rf.mk rfl ?_|refine xT ?_|(apply SetAsk.r;focus repeat' constructor)|refine xN ?_|fail)
 all_goals exact⟨_,_, .one (.same (.z)),_,_,rfl,rfl⟩
end
end Go.Proofs.Ythlpimbhonihhaa
namespace Go.CF
open Go
theorem results_tmp_cell_tmp{fn:Func}{p u u2:Tmp}{ty:TypeId}(h:fn.results=#[.tmp u, .cell p ty, .tmp u2])(tmps:Array Value)(P:Program)(w:World) :
  (results fn tmps).run P w =
   ((asAddr (tmps.getD p undef)).run P w).andThen fun a w₁=>((loadVar ty a).run P w₁).andThen fun v w₂=> .ok (.tuple #[tmps.getD u undef,v,tmps.getD u2 undef]) w₂:=by
 simp only [results,h]
 simp [Sem.run_bind,Result.andThen]
section
variable {Γ:Cx} {k:List KI} {e:EA} {o:List Res} {N:NA} {c:Cls} {d:Tmp} {ty:TypeId}
instance {a b d:Tmp} {ty:TypeId} {k:AV→Prop} : Sp (ResX Γ e o [.tmp b, .cell a ty, .tmp d] k) (Lk (lookA e a) fun x=>Lk (lookA e b) fun y=>Lk (lookA e d) fun z=>CelX Γ e o x ty fun q=>k (.tup [y,q,z])):=⟨fun⟨x,h1,y,hy,z,hz,cs,h2,h3⟩=>⟨.tup [y, .agg cs,z],h2,fun hr env h G Os cn=>by
 obtain⟨v,g1,g2⟩:=cn.env a x h1
 obtain⟨v2,g5,g6⟩:=cn.env b y hy
 obtain⟨v3,g7,g8⟩:=cn.env d z hz
 obtain⟨p,vs,ti,fs,rfl,t1,t2,t3,g3,g4⟩:=h3 env h G Os v cn g2
 have hrs:Γ.rs=#[.tmp b, .cell a ty, .tmp d]:=Array.ext' hr
 refine⟨.tuple #[v2, .agg vs.toArray,v3], ?_,[_,_,_],rfl,g6,⟨vs,rfl,g4⟩,g8,trivial⟩
 rw [hrs]
 intro ac w fn ha hw hr
 rw [results_tmp_cell_tmp hr]
 have k1:=(Γ.ok.ok _ _ t1).run_agg' w t2
 have k2:=(Γ.ok.ok _ _ t1).run_size w
 have k3:=run_cels (P:=Γ.P) (w:=w) (a:=p) (l:=vs) (g3.shut hw)
 simp [ha.val _ _ g1,ha.val _ _ g5,ha.val _ _ g7,asAddr,loadVar,k1,k2,t3,k3]⟩⟩
end
end Go.CF
