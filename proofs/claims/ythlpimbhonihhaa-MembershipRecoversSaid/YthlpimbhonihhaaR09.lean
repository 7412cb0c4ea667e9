/- Part 9 of the ground of this proof: what its texts say of the model, the program and the plain data; conditions: those that are named. -/
import Derived.Test.YthlpimbhonihhaaR08
set_option maxRecDepth 100000
set_option maxHeartbeats 80000000
namespace Go.Proofs.Ythlpimbhonihhaa
open Go Go.CF
def prO : Nat→Ord×(Nat→Cls):=fun id=>bif Nat.beq id 1 then(.one 0 (.one 1 (.one 2 (.one 3 (.one 4 (.one 5 (.one 6 (.one 7 (.one 8 (.one 9 (.one 10 .done)))))))))),clOf [.read, .pure, .pure, .read, .read, .loud, .pure, .pure, .pure, .loud, .loud]) else(.done,clOf [])
def cgO : Nat→Ord×(Nat→Cls):=fun id=>bif Nat.beq id 1 then(.one 0 (.one 1 (.one 2 (.one 3 (.one 5 (.one 6 (.one 7 (.alt 4 (.one 8 (.one 9 (.one 10 (.one 11 .done)))) (.alt 8 (.one 4 (.one 9 (.one 10 (.one 11 .done)))) (.none))))))))),clOf [.pure, .pure, .pure, .read, .loud, .pure, .pure, .pure, .ext, .loud, .pure, .pure]) else bif Nat.beq id 4 then(.one 0 (.one 1 (.one 2 (.one 3 (.one 4 (.one 5 (.one 6 (.one 7 (.one 8 (.one 9 (.one 10 (.one 11 (.one 12 (.one 13 (.one 14 (.one 15 (.one 16 (.one 17 (.one 19 (.one 20 (.one 21 (.one 22 (.alt 18 (.one 23 (.one 24 (.one 25 (.one 26 .done)))) (.alt 23 (.one 18 (.one 24 (.one 25 (.one 26 .done)))) (.none)))))))))))))))))))))))),clOf [.pure, .loud, .pure, .pure, .pure, .pure, .pure, .pure, .pure, .pure, .pure, .pure, .pure, .pure, .pure, .pure, .pure, .pure, .ext, .pure, .pure, .pure, .read, .loud, .pure, .pure, .pure]) else bif Nat.beq id 6 then(.one 0 (.one 1 (.one 2 (.one 3 (.one 4 (.one 5 (.one 6 (.one 7 (.one 8 (.one 9 (.one 10 (.one 11 (.one 12 (.one 13 (.one 14 (.one 15 .done))))))))))))))),clOf [.pure, .pure, .pure, .read, .read, .ext, .loud, .pure, .pure, .pure, .pure, .loud, .loud, .pure, .pure, .pure]) else(.done,clOf [])
def pr1(s:NodS)(e:EntS) : NodS×List MsgS:=if(propF s.g e).2.2≠0 then(s,[]) else({ s with g:=(propF s.g e).1,ticks:=0 },allM (propF s.g e).1)
theorem proN_eq(s:NodS)(e:EntS) : proN s e=((calF s (pr1 s e)).1,if(propF s.g e).2.2≠0 then 0 else(propF s.g e).2.1,if(propF s.g e).2.2≠0 then⟨[],[]⟩ else(calF s (pr1 s e)).2,(propF s.g e).2.2):=by
 unfold proN pr1
 by_cases h:(propF s.g e).2.2≠0
 ·rw [if_pos h,if_pos h,if_pos h,if_pos h]
 ·rw [if_neg h,if_neg h,if_neg h,if_neg h,Classical.byContradiction h]
section
variable (p pe pl:Nat) (ve vl:Value) (s:NodS)
theorem pr1_a(e:EntS)(b be bi bc:Nat)(hk:NodK s)(hv:e.vot.length≤1000000) :
  CallA Try.prog 73 [pm b,pm be,pm bi,pm bc] (blkR b 31 [pm p] :: blkR be 89 (entC e) :: blkR bi 3 [it 0] :: blkR bc 45 [it 0] :: nodR p pe pl ve vl s) fun r own=>∃ve' vl' w,r= .ow w∧own=arrR w 76 18 (pr1 s e).2 msgC :: blkR b 31 [pm p] :: blkR be 89 (entC e) :: blkR bi 3 [it (propF s.g e).2.1] :: blkR bc 45 [it (propF s.g e).2.2] :: nodR p pe pl ve' vl' (pr1 s e).1:=by
 have hpr:=propose_a pl vl s.g e (by have:=hk.len;omega) hv
 have hal:=fun v=>nall_a p pe pl ve v { s with g:=(propF s.g e).1 } (hk.g.prop e).n (hk.g.prop e).val (hk.g.prop e).prgL
 have hb:=prop_base s.g e
 have hn0:(propF s.g e).2.2≠0→(propF s.g e).1=s.g:=fun h=>by
  rcases prop_spec s.g e with⟨_,h1⟩|⟨h1,_⟩
  ·exact h1
  ·exact absurd h1 h
 unfold pr1
 generalize propF s.g e=T at hpr hal hb hn0 ⊢
 obtain⟨g2,x,c⟩:=T
 simp only at hpr hal hb hn0 ⊢
 obtain⟨b1,b2,_⟩:=hb
 refine CallA.of pg prO Try.func73 rfl Try.ntmps73 Try.results73 rfl fun h0 G0 O0=>?_
 by_cases hc:c=0
 rotate_left
 ·rw [if_pos hc]
  have hg:=hn0 hc
  subst hg
  repeat'(first|apply Sp.h|refine Lk.r rfl ?_|refine Rf.mk rfl ?_|refine xB ?_|refine OpK.r rfl ?_|refine xT ?_|refine Ch.l ⟨rfl,rfl⟩ ?_|refine xV ?_|refine xN ?_|refine xD ?_|(((apply Cl.use (hpr);(focus repeat' constructor);(focus repeat' constructor);focus rfl));(rintro _ _ ⟨rfl,v2,rfl⟩)))
  all_goals exact⟨_,_, .one (.nils (.z)),_,_,_,rfl,rfl⟩
 ·rw [if_neg (fun h=>h hc)]
  subst hc
  have hal2:∀v,CallA Try.prog 34 [pm p] [blkR p 54 [pm pe,pm pl,it s.g.n,it s.g.i,it s.ticks],blkR pe 93 (eleC s.e ve),arrR ve 3 1 s.e.votes intC,blkR pl 119 (logC g2 v),arrR v 89 6 g2.ents entC] fun r own=>∃w,r= .ow w∧own=arrR w 76 18 (allM g2) msgC :: nodR p pe pl ve v { s with g:=g2,ticks:=0 }:=fun v=>by
   have h:=hal v
   rw [nodR] at h
   simp only at h
   rw [b1,b2] at h
   exact h
  repeat'(first|apply Sp.h|refine Lk.r rfl ?_|refine Rf.mk rfl ?_|refine xA ?_|refine OpK.r rfl ?_|refine xT ?_|refine Ch.l ⟨rfl,rfl⟩ ?_|refine xV ?_|refine xN ?_|refine xD ?_|(((apply Cl.use (hpr);(focus repeat' constructor);(focus repeat' constructor);focus rfl));(rintro _ _ ⟨rfl,v2,rfl⟩))|(((apply Cl.use (hal2 _);(focus repeat' constructor);(focus repeat' constructor);focus rfl));(rintro _ _ ⟨w,rfl,rfl⟩)))
  all_goals exact⟨_,_, .one (.same (.z)),_,_,_,rfl,rfl⟩
theorem zout_fx{o own:List Res}{l l':List AV}(h:FX o l l' own) : FX o (.agg [.val (.slice none 0 0), .val (.slice none 0 0), .val (.slice none 0 0)] :: l) (outA ⟨[],[]⟩ :: l') own :=
 .agg (.le ALe.nil (.le ALe.nil (.le (ALe.refl _) .nil))) h
theorem npro_a(e:EntS)(hk:NodK s)(hv:e.vot.length≤1000000) : CallA Try.prog 44 [pm p,entA e] (nodR p pe pl ve vl s) fun r own=>∃ve' vl',r= .tup [it (proN s e).2.1,outA (proN s e).2.2.1,it (proN s e).2.2.2]∧own=nodR p pe pl ve' vl' (proN s e).1:=by
 have hml:=allM_len (propF s.g e).1 (hk.g.prop e).n.2
 have hM:(pr1 s e).2.length≤1000000:=by
  unfold pr1
  split
  ·simp
  ·simp only;omega
 have hk1:NodK (pr1 s e).1:=by
  unfold pr1
  split
  ·exact hk
  ·exact hk.kPro e
 have hc:=fun b be bi bc=>call_l p pe pl ve vl s _ _ [blkR b 31 [pm p],blkR be 89 (entC e),blkR bi 3 [it 0],blkR bc 45 [it 0]] [blkR b 31 [pm p],blkR be 89 (entC e),blkR bi 3 [it (propF s.g e).2.1],blkR bc 45 [it (propF s.g e).2.2]] (pr1 s e).1 (pr1 s e).2 hk hk1 hM rfl (pr1_a p pe pl ve vl s e b be bi bc hk hv)
 rw [proN_eq]
 obtain⟨Q,hQ⟩:∃Q,Q=calF s (pr1 s e):=⟨_,rfl⟩
 have hc2:∀b be bi bc,CallA Try.prog 29 [pm p, .fn 73 [pm b,pm be,pm bi,pm bc]] (blkR b 31 [pm p] :: blkR be 89 (entC e) :: blkR bi 3 [it 0] :: blkR bc 45 [it 0] :: nodR p pe pl ve vl s) fun q own=>∃ve' vl',q=outA Q.2∧own=blkR b 31 [pm p] :: blkR be 89 (entC e) :: blkR bi 3 [it (propF s.g e).2.1] :: blkR bc 45 [it (propF s.g e).2.2] :: nodR p pe pl ve' vl' Q.1:=fun b be bi bc=>by rw [hQ];exact hc b be bi bc
 rw [←hQ]
 clear hc hQ hml hM hk1
 generalize propF s.g e=T at hc2 ⊢
 obtain⟨g2,x,c⟩:=T
 obtain⟨s2,o⟩:=Q
 simp only at hc2 ⊢
 by_cases hc0:c=0
 ·subst hc0
  rw [if_neg (fun h=>h rfl),if_neg (fun h=>h rfl)]
  refine CallA.of pg ord44 Try.func44 rfl Try.ntmps44 Try.results44 rfl fun h0 G0 O0=>?_
  repeat'(first|apply Sp.h|refine Lk.r rfl ?_|refine Rf.mk rfl ?_|refine xA ?_|refine OpK.r rfl ?_|refine All.mk fun _=>?_|refine xT ?_|refine Ch.l ⟨rfl,rfl⟩ ?_|refine xV ?_|(apply SetAsk.r;focus repeat' constructor)|refine xN ?_|refine xD ?_|(((apply Cl.use (hc2 _ _ _ _);(focus repeat' constructor);(focus repeat' constructor);focus rfl));(rintro _ _ ⟨ve2,vl2,rfl,rfl⟩)))
  all_goals exact⟨_,_, .tup (.same (.same (.same (.z)))),_,_,rfl,rfl⟩
 ·rw [if_pos hc0,if_pos hc0]
  refine CallA.fxr (K:=fun r own=>∃ve' vl',r= .tup [it 0, .agg [.val (.slice none 0 0), .val (.slice none 0 0), .val (.slice none 0 0)],it c]∧own=nodR p pe pl ve' vl' s2) ?_ ?_
  ·refine CallA.of pg ord44 Try.func44 rfl Try.ntmps44 Try.results44 rfl fun h0 G0 O0=>?_
   repeat'(first|apply Sp.h|refine Lk.r rfl ?_|refine Rf.mk rfl ?_|refine xB ?_|refine OpK.r rfl ?_|refine All.mk fun _=>?_|refine xT ?_|refine xV ?_|(apply SetAsk.r;focus repeat' constructor)|(apply Fk.r;focus repeat' first|infer_instance|constructor)|refine xN ?_|refine xD ?_|exact trivial|apply RA'.both|(((apply Cl.use (hc2 _ _ _ _);(focus repeat' constructor);(focus repeat' constructor);focus rfl));(rintro _ _ ⟨ve2,vl2,rfl,rfl⟩)))
   all_goals exact⟨_,_, .tup (.same (.same (.same (.z)))),_,_,rfl,rfl⟩
  ·rintro _ _ ⟨ve',vl',rfl,rfl⟩
   exact⟨.tup [it 0,outA ⟨[],[]⟩,it c],_, .tup (.le (ALe.refl _) (zout_fx (.le (ALe.refl _) .nil))) .nil,_,_,rfl,rfl⟩
theorem nprop_a(e:EntS)(hk:NodK s)(hv:e.vot.length≤1000000) : CallA Try.prog 46 [pm p,entA e] (nodR p pe pl ve vl s) fun r own=>∃ve' vl',r= .tup [it (propN s e).2.1,outA (propN s e).2.2.1,it (propN s e).2.2.2]∧own=nodR p pe pl ve' vl' (propN s e).1:=by
 have hld:=nleads_a p pe pl ve vl s
 have hpr:=npro_a p pe pl ve vl s e hk hv
 unfold propN
 generalize proN s e=Q at hpr ⊢
 obtain⟨s2,x,o,c⟩:=Q
 simp only at hpr ⊢
 cases hb:ldsB s
 ·rw [hb] at hld
  rw [if_pos rfl]
  refine CallA.fxr (K:=fun r own=>r= .tup [it 0, .agg [.val (.slice none 0 0), .val (.slice none 0 0), .val (.slice none 0 0)],it 9]∧own=nodR p pe pl ve vl s) ?_ ?_
  ·refine CallA.of pg ordZ Try.func46 rfl Try.ntmps46 Try.results46 rfl fun h0 G0 O0=>?_
   repeat'(first|apply Sp.h|refine Lk.r rfl ?_|refine Rf.mk rfl ?_|refine xB ?_|refine All.mk fun _=>?_|refine xT ?_|(apply SetAsk.r;focus repeat' constructor)|(apply Fk.r;focus repeat' first|infer_instance|constructor)|refine xN ?_|(((apply Cl.use (hld);(focus repeat' constructor);(focus repeat' constructor);focus rfl));(rintro _ _ ⟨rfl,rfl⟩)))
   all_goals exact⟨_,_, .tup (.same (.same (.same (.z)))),rfl,rfl⟩
  ·rintro _ _ ⟨rfl,rfl⟩
   exact⟨.tup [it 0,outA ⟨[],[]⟩,it 9],_, .tup (.le (ALe.refl _) (zout_fx (.le (ALe.refl _) .nil))) .nil,_,_,rfl,rfl⟩
 rw [hb] at hld
 rw [if_neg (fun h=>by cases h)]
 by_cases hk1:e.kind≠1
 ·rw [if_pos hk1]
  refine CallA.fxr (K:=fun r own=>r= .tup [it 0, .agg [.val (.slice none 0 0), .val (.slice none 0 0), .val (.slice none 0 0)],it 1]∧own=nodR p pe pl ve vl s) ?_ ?_
  ·refine CallA.of pg ordZ Try.func46 rfl Try.ntmps46 Try.results46 rfl fun h0 G0 O0=>?_
   repeat'(first|apply Sp.h|refine Lk.r rfl ?_|refine Rf.mk rfl ?_|refine xA ?_|refine xB ?_|refine All.mk fun _=>?_|refine xT ?_|(apply SetAsk.r;focus repeat' constructor)|(apply Fk.r;focus repeat' first|infer_instance|constructor)|refine xN ?_|(((apply Cl.use (hld);(focus repeat' constructor);(focus repeat' constructor);focus rfl));(rintro _ _ ⟨rfl,rfl⟩)))
   all_goals first
    | exact⟨_,_, .tup (.same (.same (.same (.z)))),rfl,rfl⟩
    | exact(by omega:False).elim
  ·rintro _ _ ⟨rfl,rfl⟩
   exact⟨.tup [it 0,outA ⟨[],[]⟩,it 1],_, .tup (.le (ALe.refl _) (zout_fx (.le (ALe.refl _) .nil))) .nil,_,_,rfl,rfl⟩
 ·rw [if_neg hk1]
  have hk2:e.kind=1:=Classical.byContradiction hk1
  refine CallA.of pg ordZ Try.func46 rfl Try.ntmps46 Try.results46 rfl fun h0 G0 O0=>?_
  repeat'(first|apply Sp.h|refine Lk.r rfl ?_|refine Rf.mk rfl ?_|refine xA ?_|refine All.mk fun _=>?_|refine xT ?_|refine Ch.l ⟨rfl,rfl⟩ ?_|(apply SetAsk.r;focus repeat' constructor)|refine xN ?_|(((apply Cl.use (hld);(focus repeat' constructor);(focus repeat' constructor);focus rfl));(rintro _ _ ⟨rfl,rfl⟩))|(((apply Cl.use (hpr);(focus repeat' constructor);(focus repeat' constructor);focus rfl));(rintro _ _ ⟨ve2,vl2,rfl,rfl⟩)))
  all_goals first
   | exact⟨_,_, .tup (.same (.same (.same (.z)))),_,_,rfl,rfl⟩
   | exact(by omega:False).elim
end
theorem cntD_take{a b:List Int}{i:Nat}{x:Int}(h:a[i]?=some x) : cntD (a.take (i+1)) b=if x∈b then cntD (a.take i) b else cntD (a.take i) b+1:=by
 unfold cntD
 rw [zK,h,Option.toList_some,List.filter_append]
 by_cases hx:x∈b <;> simp [hx]
theorem cntD_le(a b:List Int)(i:Nat) : cntD (a.take i) b≤i:=by
 unfold cntD
 have:=List.length_filter_le (fun v=>decide (¬v∈b)) (a.take i)
 rw [zN] at this
 omega
theorem one_p(a b:List Int)(ha:a.length≤1000000)(hb:b.length≤1000000) : CallP Try.prog 43 [ints a,ints b] (bl (oneB a b)):=by
 unfold oneB
 refine CallA.of pg ordZ Try.func43 rfl Try.ntmps43 Try.results43 rfl fun h0 G0 O0=>?_
 (repeat'(first|(show CA _ _ (Code.block 0 _) _ _;apply Stopped.out)|apply Sp.h|refine Lk.r rfl ?_|refine Rf.mk rfl ?_|apply Im.mk|intro _));any_goals apply Stopped.mk
 apply Sp.h
 refine CA.loop (fun i:Nat=>⟨[(0,ints a),(1,ints b),(5,it (cntD (a.take i) b:Nat)),(10,ints a),(11,it (a.length:Nat)),(12,it i)],[]⟩) (fun i=>i≤a.length) (fun i=>a.length - i) 0 xE (zZ _) ?_
 intro i hi
 have hcl:=cntD_le a b i
 by_cases hin:i < a.length
 ·obtain⟨x,hx⟩:=get_of hin
  have hc:=contains_p b x
  have hsu:=cntD_take (b:=b) hx
  by_cases h:x∈b
  ·rw [if_pos h] at hsu
   rw [zT h] at hc
   repeat'(first|apply Sp.h|refine Lk.r rfl ?_|refine Rf.mk rfl ?_|refine xA ?_|refine xI ?_|refine xO ?_|(apply Cl.p (hc);focus repeat' constructor))
   rw [←hsu]
   exact PA.lp (i+1) xE ⟨hin,by omega⟩
  ·rw [if_neg h] at hsu
   rw [zF h] at hc
   have hs2:((cntD (a.take i) b:Nat):Int)+1=((cntD (a.take (i+1)) b:Nat):Int):=by omega
   repeat'(first|apply Sp.h|refine Lk.r rfl ?_|refine Rf.mk rfl ?_|refine xA ?_|refine xB ?_|refine xI ?_|refine xO ?_|(apply Cl.p (hc);focus repeat' constructor))
   rw [hs2]
   exact PA.lp (i+1) xE ⟨hin,by omega⟩
 ·have:i=a.length:=by omega
  subst this
  rw [zL] at hcl ⊢
  generalize cntD a b=q at hcl ⊢
  (repeat'(first|(show CA _ _ (Code.block 2 _) _ _;apply Stopped.out)|apply Sp.h|refine Lk.r rfl ?_|refine Rf.mk rfl ?_|refine xB ?_|apply Im.mk|intro _));any_goals apply Stopped.mk
  apply Sp.h
  refine CA.loop (fun i:Nat=>⟨[(0,ints a),(1,ints b),(5,it ((q+cntD (b.take i) a:Nat):Int)),(23,ints b),(24,it (b.length:Nat)),(25,it i)],[]⟩) (fun i=>i≤b.length) (fun i=>b.length - i) 0 xE (zZ _) ?_
  intro i hi
  have hcl2:=cntD_le b a i
  by_cases hin:i < b.length
  ·obtain⟨x,hx⟩:=get_of hin
   have hc:=contains_p a x
   have hsu:=cntD_take (b:=a) hx
   by_cases h:x∈a
   ·rw [if_pos h] at hsu
    rw [zT h] at hc
    repeat'(first|apply Sp.h|refine Lk.r rfl ?_|refine Rf.mk rfl ?_|refine xA ?_|refine xI ?_|refine xO ?_|(apply Cl.p (hc);focus repeat' constructor))
    rw [←hsu]
    exact PA.lp (i+1) xE ⟨hin,by omega⟩
   ·rw [if_neg h] at hsu
    rw [zF h] at hc
    have hs2:((q+cntD (b.take i) a:Nat):Int)+1=((q+cntD (b.take (i+1)) a:Nat):Int):=by omega
    repeat'(first|apply Sp.h|refine Lk.r rfl ?_|refine Rf.mk rfl ?_|refine xA ?_|refine xB ?_|refine xI ?_|refine xO ?_|(apply Cl.p (hc);focus repeat' constructor))
    rw [hs2]
    exact PA.lp (i+1) xE ⟨hin,by omega⟩
  ·have:i=b.length:=by omega
   subst this
   rw [zL] at hcl2 ⊢
   repeat'(first|apply Sp.h|refine Lk.r rfl ?_|refine Rf.mk rfl ?_|refine xB ?_|refine xN ?_|fail)
   all_goals exact Fin.p rfl (vb (zD.2 (by omega)))
theorem lentries_f(p:Nat)(v:Value)(g:LogN)(hl:g.ents.length≤100000)(hv:VotL g.ents) : CallA Try.prog 36 [pm p,it 1] (logR p v g) fun r own=>r=entsA g.ents∧own=logR p v g :=
 CallA.fxr (lentries_a p v g hl hv) (by
  rintro _ _ ⟨w,rfl,rfl⟩
  have key:∀a:List AV,RLe a a:=fun a=>by
   induction a with
   | nil=>exact .nil
   | cons x a ih=>exact .cons (ALe.refl _) ih
  have h:=FX.rows (o:=logR p v g) (f:=entC) (g:=entC) (φ:=id) (l:=g.ents) fun x _=>key _
  rw [List.map_id] at h
  exact⟨entsA g.ents,logR p v g, .sl .here (by omega) h .nil,rfl,rfl⟩)
theorem last_f(l:List EntS)(hl:l.length≤100000)(hv:VotL l) : CallA Try.prog 40 [entsA l] [] fun r own=>∃a,r= .tup [it (lastF l:Nat),a]∧own= [] :=
 CallA.fxr (last_o l hl hv) (by
  rintro _ _ (⟨h0,rfl,rfl⟩|⟨h0,v,rfl,rfl⟩)
  ·rw [h0]
   exact⟨_,[], .tup (.le (ALe.refl _) (.le (ALe.refl _) .nil)) .nil,_,rfl,rfl⟩
  ·exact⟨_,_, .tup (.le (ALe.refl _) (.s1 .here (by
    obtain⟨_,e,h2,_,h4⟩:=lastF_spec h0
    rw [h4];have:=hv e (zM h2);omega) .nil)) .nil,_,rfl,rfl⟩)
section
variable (p pe pl:Nat) (ve vl:Value) (s:NodS)
theorem nchg_a(vs:List Int)(hk:NodK s)(hv:vs.length≤1000000) : CallA Try.prog 17 [pm p,ints vs] (nodR p pe pl ve vl s) fun r own=>∃ve' vl',r= .tup [it (chgN s vs).2.1,outA (chgN s vs).2.2.1,it (chgN s vs).2.2.2]∧own=nodR p pe pl ve' vl' (chgN s vs).1:=by
 have hld:=nleads_a p pe pl ve vl s
 have hll:=lleads_a pl vl s.g
 have hcm:=lcommit_a pl vl s.g
 have hlen:=hk.len
 have hen:=lentries_f pl vl s.g (by omega) hk.g.vot
 have hla:=last_f s.g.ents (by omega) hk.g.vot
 have hva:=rvalid_p s.g.n [chgE s vs]
 have hvo:=nvoters_f p pe pl ve vl s hk.g.n.2 hk.g.val
 have hvl:=votF_len hk.g.val hk.g.n.2
 have hon:=one_p vs (votN s) hv (by unfold votN;omega)
 have hpr:=npro_a p pe pl ve vl s (chgE s vs) hk hv
 have hc:=hk.g.c
 have hmx:=hk.g.ld
 unfold chgN
 generalize proN s (chgE s vs)=Q at hpr ⊢
 obtain⟨s2,x,o,c⟩:=Q
 simp only at hpr ⊢
 obtain⟨k,hk0⟩:∃k,k=lastF s.g.ents:=⟨_,rfl⟩
 rw [←hk0] at hla
 by_cases hcb:chgB s=true
 ·rw [if_pos hcb]
  refine CallA.fxr (K:=fun r own=>r= .tup [it 0, .agg [.val (.slice none 0 0), .val (.slice none 0 0), .val (.slice none 0 0)],it 9]∧own=nodR p pe pl ve vl s) ?_ ?_
  rotate_left
  ·rintro _ _ ⟨rfl,rfl⟩
   exact⟨.tup [it 0,outA ⟨[],[]⟩,it 9],_, .tup (.le (ALe.refl _) (zout_fx (.le (ALe.refl _) .nil))) .nil,_,_,rfl,rfl⟩
  refine CallA.of pg cgO Try.func17 rfl Try.ntmps17 Try.results17 rfl fun h0 G0 O0=>?_
  (repeat'(first|(show CA _ _ (Code.region 1 _ _) _ _;apply Stopped.out)|apply Sp.h|refine Lk.r rfl ?_|refine Rf.mk rfl ?_|apply All.mk|refine xN ?_|intro _));any_goals apply Stopped.mk
  rename_i b5
  refine CA.cut (fun _:Unit=>⟨[(0,pm p),(1,ints vs),(4,it 0),(5,pm b5),(6,it 0),(7,entsA s.g.ents),(8,it s.g.commit)],blkR b5 36 [.val (.slice none 0 0), .val (.slice none 0 0), .val (.slice none 0 0)] :: nodR p pe pl ve vl s⟩) (fun _=>True) ?_ ?_
  ·repeat'(first|apply Sp.h|refine Lk.r rfl ?_|refine Rf.mk rfl ?_|refine OpK.r rfl ?_|refine xT ?_|refine xD ?_|exact trivial|apply RA'.both|(((apply Cl.use (hen);(focus repeat' constructor);(focus repeat' constructor);focus rfl));(rintro _ _ ⟨rfl,rfl⟩))|(((apply Cl.use (hcm);(focus repeat' constructor);(focus repeat' constructor);focus rfl));(rintro _ _ ⟨rfl,rfl⟩)))
   all_goals exact PA.lp () xE trivial
  rintro _ -
  repeat'(first|(show CA _ _ (Code.region 4 _ _) _ _;apply Stopped.out)|apply Sp.h|refine Lk.r rfl ?_|refine Rf.mk rfl ?_|refine All.mk fun _=>?_|refine xT ?_|(apply SetAsk.r;focus repeat' constructor)|(apply Fk.r;focus repeat' first|infer_instance|constructor)|refine xN ?_|(((apply Cl.use (hla);(focus repeat' constructor);(focus repeat' constructor);focus rfl));(rintro _ _ ⟨av,rfl,rfl⟩))|(((apply Cl.use (hll);(focus repeat' constructor);(focus repeat' constructor);focus rfl));(rintro _ _ ⟨rfl,rfl⟩)))
  any_goals apply Stopped.mk
  rename_i b11
  refine CA.cut (fun z:Bool=>⟨[(0,pm p),(1,ints vs),(4,it 0),(5,pm b5),(6,it 0),(11,pm b11),(35,bl z)],blkR b11 89 (entC (chgE s vs)) :: blkR b5 36 [.val (.slice none 0 0), .val (.slice none 0 0), .val (.slice none 0 0)] :: nodR p pe pl ve vl s⟩) (fun z=>z=chgB s) ?_ ?_
  ·unfold chgB
   rw [←hk0]
   cases hlb:ldsB s
   ·rw [hlb] at hld
    repeat'(first|apply Sp.h|refine Lk.r rfl ?_|refine Rf.mk rfl ?_|refine xB ?_|refine OpK.r rfl ?_|refine xD ?_|exact trivial|apply RA'.both|(((apply Cl.use (hld);(focus repeat' constructor);(focus repeat' constructor);focus rfl));(rintro _ _ ⟨rfl,rfl⟩)))
    all_goals exact PA.lp _ xE (zT (.inl rfl)).symm
   rw [hlb] at hld
   by_cases h1:s.g.commit < (k:Int)
   ·repeat'(first|apply Sp.h|refine Lk.r rfl ?_|refine Rf.mk rfl ?_|refine xA ?_|refine OpK.r rfl ?_|refine xD ?_|exact trivial|apply RA'.both|(((apply Cl.use (hld);(focus repeat' constructor);(focus repeat' constructor);focus rfl));(rintro _ _ ⟨rfl,rfl⟩)))
    all_goals exact PA.lp _ xE (zT (.inr (.inl h1))).symm
   by_cases h2:s.g.commit=0
   ·repeat'(first|apply Sp.h|refine Lk.r rfl ?_|refine Rf.mk rfl ?_|refine xA ?_|refine xB ?_|refine OpK.r rfl ?_|refine xD ?_|exact trivial|apply RA'.both|(((apply Cl.use (hld);(focus repeat' constructor);(focus repeat' constructor);focus rfl));(rintro _ _ ⟨rfl,rfl⟩)))
    all_goals exact PA.lp _ xE (zT (.inr (.inr (.inl h2)))).symm
   obtain⟨j,hj⟩:∃j:Nat,s.g.commit - 1=(j:Int):=⟨(s.g.commit - 1).toNat,by omega⟩
   obtain⟨e,he⟩:=get_of (l:=s.g.ents) (i:=j) (by omega)
   have htr:trmI s.g.ents s.g.commit=e.term:=by
    rw [show s.g.commit=((j+1:Nat):Int) by omega]
    exact trmI_at he
   rw [htr]
   repeat'(first|apply Sp.h|refine Lk.r rfl ?_|refine Rf.mk rfl ?_|refine xA ?_|refine xB ?_|refine OpK.r rfl ?_|refine xT ?_|(apply Ix.r;(focus assumption);(focus omega))|refine xD ?_|exact trivial|apply RA'.both|refine xO ?_|(((apply Cl.use (hld);(focus repeat' constructor);(focus repeat' constructor);focus rfl));(rintro _ _ ⟨rfl,rfl⟩))|(((apply Cl.use (hll);(focus repeat' constructor);(focus repeat' constructor);focus rfl));(rintro _ _ ⟨rfl,rfl⟩)))
   all_goals exact PA.lp _ xE (zD.2 ⟨fun h=> .inr (.inr (.inr h)),fun h=>h.elim (fun h=>by cases h) fun h=>h.elim (fun h=>absurd h h1) fun h=>h.elim (fun h=>absurd h h2) id⟩)
  rintro z hz
  rw [hcb] at hz
  subst hz
  repeat'(first|apply Sp.h|refine Lk.r rfl ?_|refine Rf.mk rfl ?_|refine xT ?_|(apply SetAsk.r;focus repeat' constructor)|(apply Fk.r;focus repeat' first|infer_instance|constructor)|refine xN ?_|fail)
  all_goals exact⟨_,_, .tup (.same (.same (.same (.z)))),rfl,rfl⟩
 rw [if_neg hcb]
 have hcf:chgB s=false:=by cases h:chgB s;rfl;exact absurd h hcb
 by_cases hvo1:valB s.g.n [chgE s vs]=false∨oneB vs (votN s)=false
 ·rw [if_pos hvo1]
  refine CallA.fxr (K:=fun r own=>r= .tup [it 0, .agg [.val (.slice none 0 0), .val (.slice none 0 0), .val (.slice none 0 0)],it 1]∧own=nodR p pe pl ve vl s) ?_ ?_
  rotate_left
  ·rintro _ _ ⟨rfl,rfl⟩
   exact⟨.tup [it 0,outA ⟨[],[]⟩,it 1],_, .tup (.le (ALe.refl _) (zout_fx (.le (ALe.refl _) .nil))) .nil,_,_,rfl,rfl⟩
  refine CallA.of pg cgO Try.func17 rfl Try.ntmps17 Try.results17 rfl fun h0 G0 O0=>?_
  (repeat'(first|(show CA _ _ (Code.region 1 _ _) _ _;apply Stopped.out)|apply Sp.h|refine Lk.r rfl ?_|refine Rf.mk rfl ?_|apply All.mk|refine xN ?_|intro _));any_goals apply Stopped.mk
  rename_i b5
  refine CA.cut (fun _:Unit=>⟨[(0,pm p),(1,ints vs),(4,it 0),(5,pm b5),(6,it 0),(7,entsA s.g.ents),(8,it s.g.commit)],blkR b5 36 [.val (.slice none 0 0), .val (.slice none 0 0), .val (.slice none 0 0)] :: nodR p pe pl ve vl s⟩) (fun _=>True) ?_ ?_
  ·repeat'(first|apply Sp.h|refine Lk.r rfl ?_|refine Rf.mk rfl ?_|refine OpK.r rfl ?_|refine xT ?_|refine xD ?_|exact trivial|apply RA'.both|(((apply Cl.use (hen);(focus repeat' constructor);(focus repeat' constructor);focus rfl));(rintro _ _ ⟨rfl,rfl⟩))|(((apply Cl.use (hcm);(focus repeat' constructor);(focus repeat' constructor);focus rfl));(rintro _ _ ⟨rfl,rfl⟩)))
   all_goals exact PA.lp () xE trivial
  rintro _ -
  repeat'(first|(show CA _ _ (Code.region 4 _ _) _ _;apply Stopped.out)|apply Sp.h|refine Lk.r rfl ?_|refine Rf.mk rfl ?_|refine All.mk fun _=>?_|refine xT ?_|(apply SetAsk.r;focus repeat' constructor)|(apply Fk.r;focus repeat' first|infer_instance|constructor)|refine xN ?_|(((apply Cl.use (hla);(focus repeat' constructor);(focus repeat' constructor);focus rfl));(rintro _ _ ⟨av,rfl,rfl⟩))|(((apply Cl.use (hll);(focus repeat' constructor);(focus repeat' constructor);focus rfl));(rintro _ _ ⟨rfl,rfl⟩)))
  any_goals apply Stopped.mk
  rename_i b11
  refine CA.cut (fun z:Bool=>⟨[(0,pm p),(1,ints vs),(4,it 0),(5,pm b5),(6,it 0),(11,pm b11),(35,bl z)],blkR b11 89 (entC (chgE s vs)) :: blkR b5 36 [.val (.slice none 0 0), .val (.slice none 0 0), .val (.slice none 0 0)] :: nodR p pe pl ve vl s⟩) (fun z=>z=chgB s) ?_ ?_
  ·unfold chgB
   rw [←hk0]
   cases hlb:ldsB s
   ·rw [hlb] at hld
    repeat'(first|apply Sp.h|refine Lk.r rfl ?_|refine Rf.mk rfl ?_|refine xB ?_|refine OpK.r rfl ?_|refine xD ?_|exact trivial|apply RA'.both|(((apply Cl.use (hld);(focus repeat' constructor);(focus repeat' constructor);focus rfl));(rintro _ _ ⟨rfl,rfl⟩)))
    all_goals exact PA.lp _ xE (zT (.inl rfl)).symm
   rw [hlb] at hld
   by_cases h1:s.g.commit < (k:Int)
   ·repeat'(first|apply Sp.h|refine Lk.r rfl ?_|refine Rf.mk rfl ?_|refine xA ?_|refine OpK.r rfl ?_|refine xD ?_|exact trivial|apply RA'.both|(((apply Cl.use (hld);(focus repeat' constructor);(focus repeat' constructor);focus rfl));(rintro _ _ ⟨rfl,rfl⟩)))
    all_goals exact PA.lp _ xE (zT (.inr (.inl h1))).symm
   by_cases h2:s.g.commit=0
   ·repeat'(first|apply Sp.h|refine Lk.r rfl ?_|refine Rf.mk rfl ?_|refine xA ?_|refine xB ?_|refine OpK.r rfl ?_|refine xD ?_|exact trivial|apply RA'.both|(((apply Cl.use (hld);(focus repeat' constructor);(focus repeat' constructor);focus rfl));(rintro _ _ ⟨rfl,rfl⟩)))
    all_goals exact PA.lp _ xE (zT (.inr (.inr (.inl h2)))).symm
   obtain⟨j,hj⟩:∃j:Nat,s.g.commit - 1=(j:Int):=⟨(s.g.commit - 1).toNat,by omega⟩
   obtain⟨e,he⟩:=get_of (l:=s.g.ents) (i:=j) (by omega)
   have htr:trmI s.g.ents s.g.commit=e.term:=by
    rw [show s.g.commit=((j+1:Nat):Int) by omega]
    exact trmI_at he
   rw [htr]
   repeat'(first|apply Sp.h|refine Lk.r rfl ?_|refine Rf.mk rfl ?_|refine xA ?_|refine xB ?_|refine OpK.r rfl ?_|refine xT ?_|(apply Ix.r;(focus assumption);(focus omega))|refine xD ?_|exact trivial|apply RA'.both|refine xO ?_|(((apply Cl.use (hld);(focus repeat' constructor);(focus repeat' constructor);focus rfl));(rintro _ _ ⟨rfl,rfl⟩))|(((apply Cl.use (hll);(focus repeat' constructor);(focus repeat' constructor);focus rfl));(rintro _ _ ⟨rfl,rfl⟩)))
   all_goals exact PA.lp _ xE (zD.2 ⟨fun h=> .inr (.inr (.inr h)),fun h=>h.elim (fun h=>by cases h) fun h=>h.elim (fun h=>absurd h h1) fun h=>h.elim (fun h=>absurd h h2) id⟩)
  rintro z hz
  rw [hcf] at hz
  subst hz
  repeat'(first|(show CA _ _ (Code.region 6 _ _) _ _;apply Stopped.out)|apply Sp.h|refine Lk.r rfl ?_|fail)
  any_goals apply Stopped.mk
  refine CA.cut (fun z:Bool=>⟨[(0,pm p),(1,ints vs),(4,it 0),(5,pm b5),(6,it 0),(11,pm b11),(63,bl z)],blkR b11 89 (entC (chgE s vs)) :: blkR b5 36 [.val (.slice none 0 0), .val (.slice none 0 0), .val (.slice none 0 0)] :: nodR p pe pl ve vl s⟩) (fun z=>z=decide (valB s.g.n [chgE s vs]=false∨oneB vs (votN s)=false)) ?_ ?_
  ·cases hq1:valB s.g.n [chgE s vs]
   ·rw [hq1] at hva
    repeat'(first|apply Sp.h|refine Lk.r rfl ?_|refine Rf.mk rfl ?_|refine xB ?_|refine OpK.r rfl ?_|refine All.mk fun _=>?_|refine xT ?_|refine Ch.l ⟨rfl,rfl⟩ ?_|(apply Fk.r;focus repeat' first|infer_instance|constructor)|refine Rf.mk ⟨rfl,rfl,rfl⟩ ?_|refine xD ?_|(apply Cl.lend (hva);(focus((repeat'(first|exact Lend.nil|apply Lend.keep|(apply Lend.lendm;(focus repeat constructor);(focus rfl);(focus first|omega|decide|(simp;omega)|exact zB rfl))|fail));done))))
    all_goals exact PA.lp _ xE (zT (.inl rfl)).symm
   ·rw [hq1] at hva
    generalize oneB vs (votN s)=q2 at hon ⊢
    repeat'(first|apply Sp.h|refine Lk.r rfl ?_|refine Rf.mk rfl ?_|refine xA ?_|refine OpK.r rfl ?_|refine All.mk fun _=>?_|refine xT ?_|refine Ch.l ⟨rfl,rfl⟩ ?_|(apply Fk.r;focus repeat' first|infer_instance|constructor)|refine Rf.mk ⟨rfl,rfl,rfl⟩ ?_|refine xD ?_|(apply Cl.lend (hva);(focus((repeat'(first|exact Lend.nil|apply Lend.keep|(apply Lend.lendm;(focus repeat constructor);(focus rfl);(focus first|omega|decide|(simp;omega)|exact zB rfl))|fail));done)))|(((apply Cl.use (hvo);(focus repeat' constructor);(focus repeat' constructor);focus rfl));(rintro _ _ ⟨rfl,rfl⟩))|(apply Cl.p (hon);focus(repeat' constructor);done))
    all_goals exact PA.lp _ xE (by cases q2 <;> rfl)
  rintro z2 hz2
  have hz3:=hz2.trans (zT hvo1)
  subst hz3
  repeat'(first|apply Sp.h|refine Lk.r rfl ?_|refine Rf.mk rfl ?_|refine xT ?_|(apply SetAsk.r;focus repeat' constructor)|(apply Fk.r;focus repeat' first|infer_instance|constructor)|refine xN ?_|fail)
  all_goals exact⟨_,_, .tup (.same (.same (.same (.z)))),rfl,rfl⟩
 ·rw [if_neg hvo1]
  refine CallA.of pg cgO Try.func17 rfl Try.ntmps17 Try.results17 rfl fun h0 G0 O0=>?_
  (repeat'(first|(show CA _ _ (Code.region 1 _ _) _ _;apply Stopped.out)|apply Sp.h|refine Lk.r rfl ?_|refine Rf.mk rfl ?_|apply All.mk|refine xN ?_|intro _));any_goals apply Stopped.mk
  rename_i b5
  refine CA.cut (fun _:Unit=>⟨[(0,pm p),(1,ints vs),(4,it 0),(5,pm b5),(6,it 0),(7,entsA s.g.ents),(8,it s.g.commit)],blkR b5 36 [.val (.slice none 0 0), .val (.slice none 0 0), .val (.slice none 0 0)] :: nodR p pe pl ve vl s⟩) (fun _=>True) ?_ ?_
  ·repeat'(first|apply Sp.h|refine Lk.r rfl ?_|refine Rf.mk rfl ?_|refine OpK.r rfl ?_|refine xT ?_|refine xD ?_|exact trivial|apply RA'.both|(((apply Cl.use (hen);(focus repeat' constructor);(focus repeat' constructor);focus rfl));(rintro _ _ ⟨rfl,rfl⟩))|(((apply Cl.use (hcm);(focus repeat' constructor);(focus repeat' constructor);focus rfl));(rintro _ _ ⟨rfl,rfl⟩)))
   all_goals exact PA.lp () xE trivial
  rintro _ -
  repeat'(first|(show CA _ _ (Code.region 4 _ _) _ _;apply Stopped.out)|apply Sp.h|refine Lk.r rfl ?_|refine Rf.mk rfl ?_|refine All.mk fun _=>?_|refine xT ?_|(apply SetAsk.r;focus repeat' constructor)|(apply Fk.r;focus repeat' first|infer_instance|constructor)|refine xN ?_|(((apply Cl.use (hla);(focus repeat' constructor);(focus repeat' constructor);focus rfl));(rintro _ _ ⟨av,rfl,rfl⟩))|(((apply Cl.use (hll);(focus repeat' constructor);(focus repeat' constructor);focus rfl));(rintro _ _ ⟨rfl,rfl⟩)))
  any_goals apply Stopped.mk
  rename_i b11
  refine CA.cut (fun z:Bool=>⟨[(0,pm p),(1,ints vs),(4,it 0),(5,pm b5),(6,it 0),(11,pm b11),(35,bl z)],blkR b11 89 (entC (chgE s vs)) :: blkR b5 36 [.val (.slice none 0 0), .val (.slice none 0 0), .val (.slice none 0 0)] :: nodR p pe pl ve vl s⟩) (fun z=>z=chgB s) ?_ ?_
  ·unfold chgB
   rw [←hk0]
   cases hlb:ldsB s
   ·rw [hlb] at hld
    repeat'(first|apply Sp.h|refine Lk.r rfl ?_|refine Rf.mk rfl ?_|refine xB ?_|refine OpK.r rfl ?_|refine xD ?_|exact trivial|apply RA'.both|(((apply Cl.use (hld);(focus repeat' constructor);(focus repeat' constructor);focus rfl));(rintro _ _ ⟨rfl,rfl⟩)))
    all_goals exact PA.lp _ xE (zT (.inl rfl)).symm
   rw [hlb] at hld
   by_cases h1:s.g.commit < (k:Int)
   ·repeat'(first|apply Sp.h|refine Lk.r rfl ?_|refine Rf.mk rfl ?_|refine xA ?_|refine OpK.r rfl ?_|refine xD ?_|exact trivial|apply RA'.both|(((apply Cl.use (hld);(focus repeat' constructor);(focus repeat' constructor);focus rfl));(rintro _ _ ⟨rfl,rfl⟩)))
    all_goals exact PA.lp _ xE (zT (.inr (.inl h1))).symm
   by_cases h2:s.g.commit=0
   ·repeat'(first|apply Sp.h|refine Lk.r rfl ?_|refine Rf.mk rfl ?_|refine xA ?_|refine xB ?_|refine OpK.r rfl ?_|refine xD ?_|exact trivial|apply RA'.both|(((apply Cl.use (hld);(focus repeat' constructor);(focus repeat' constructor);focus rfl));(rintro _ _ ⟨rfl,rfl⟩)))
    all_goals exact PA.lp _ xE (zT (.inr (.inr (.inl h2)))).symm
   obtain⟨j,hj⟩:∃j:Nat,s.g.commit - 1=(j:Int):=⟨(s.g.commit - 1).toNat,by omega⟩
   obtain⟨e,he⟩:=get_of (l:=s.g.ents) (i:=j) (by omega)
   have htr:trmI s.g.ents s.g.commit=e.term:=by
    rw [show s.g.commit=((j+1:Nat):Int) by omega]
    exact trmI_at he
   rw [htr]
   repeat'(first|apply Sp.h|refine Lk.r rfl ?_|refine Rf.mk rfl ?_|refine xA ?_|refine xB ?_|refine OpK.r rfl ?_|refine xT ?_|(apply Ix.r;(focus assumption);(focus omega))|refine xD ?_|exact trivial|apply RA'.both|refine xO ?_|(((apply Cl.use (hld);(focus repeat' constructor);(focus repeat' constructor);focus rfl));(rintro _ _ ⟨rfl,rfl⟩))|(((apply Cl.use (hll);(focus repeat' constructor);(focus repeat' constructor);focus rfl));(rintro _ _ ⟨rfl,rfl⟩)))
   all_goals exact PA.lp _ xE (zD.2 ⟨fun h=> .inr (.inr (.inr h)),fun h=>h.elim (fun h=>by cases h) fun h=>h.elim (fun h=>absurd h h1) fun h=>h.elim (fun h=>absurd h h2) id⟩)
  rintro z hz
  rw [hcf] at hz
  subst hz
  repeat'(first|(show CA _ _ (Code.region 6 _ _) _ _;apply Stopped.out)|apply Sp.h|refine Lk.r rfl ?_|fail)
  any_goals apply Stopped.mk
  refine CA.cut (fun z:Bool=>⟨[(0,pm p),(1,ints vs),(4,it 0),(5,pm b5),(6,it 0),(11,pm b11),(63,bl z)],blkR b11 89 (entC (chgE s vs)) :: blkR b5 36 [.val (.slice none 0 0), .val (.slice none 0 0), .val (.slice none 0 0)] :: nodR p pe pl ve vl s⟩) (fun z=>z=decide (valB s.g.n [chgE s vs]=false∨oneB vs (votN s)=false)) ?_ ?_
  ·cases hq1:valB s.g.n [chgE s vs]
   ·rw [hq1] at hva
    repeat'(first|apply Sp.h|refine Lk.r rfl ?_|refine Rf.mk rfl ?_|refine xB ?_|refine OpK.r rfl ?_|refine All.mk fun _=>?_|refine xT ?_|refine Ch.l ⟨rfl,rfl⟩ ?_|(apply Fk.r;focus repeat' first|infer_instance|constructor)|refine Rf.mk ⟨rfl,rfl,rfl⟩ ?_|refine xD ?_|(apply Cl.lend (hva);(focus((repeat'(first|exact Lend.nil|apply Lend.keep|(apply Lend.lendm;(focus repeat constructor);(focus rfl);(focus first|omega|decide|(simp;omega)|exact zB rfl))|fail));done))))
    all_goals exact PA.lp _ xE (zT (.inl rfl)).symm
   ·rw [hq1] at hva
    generalize oneB vs (votN s)=q2 at hon ⊢
    repeat'(first|apply Sp.h|refine Lk.r rfl ?_|refine Rf.mk rfl ?_|refine xA ?_|refine OpK.r rfl ?_|refine All.mk fun _=>?_|refine xT ?_|refine Ch.l ⟨rfl,rfl⟩ ?_|(apply Fk.r;focus repeat' first|infer_instance|constructor)|refine Rf.mk ⟨rfl,rfl,rfl⟩ ?_|refine xD ?_|(apply Cl.lend (hva);(focus((repeat'(first|exact Lend.nil|apply Lend.keep|(apply Lend.lendm;(focus repeat constructor);(focus rfl);(focus first|omega|decide|(simp;omega)|exact zB rfl))|fail));done)))|(((apply Cl.use (hvo);(focus repeat' constructor);(focus repeat' constructor);focus rfl));(rintro _ _ ⟨rfl,rfl⟩))|(apply Cl.p (hon);focus(repeat' constructor);done))
    all_goals exact PA.lp _ xE (by cases q2 <;> rfl)
  rintro z2 hz2
  have hz3:=hz2.trans (zF hvo1)
  subst hz3
  repeat'(first|apply Sp.h|refine Lk.r rfl ?_|refine Rf.mk rfl ?_|refine xT ?_|refine Ch.l ⟨rfl,rfl⟩ ?_|(apply SetAsk.r;focus repeat' constructor)|refine xN ?_|(((apply Cl.use (hpr);(focus repeat' constructor);(focus repeat' constructor);focus rfl));(rintro _ _ ⟨ve2,vl2,rfl,rfl⟩)))
  all_goals exact⟨_,_, .tup (.same (.same (.same (.z)))),_,_,rfl,rfl⟩
end
def RecV(l:List RecS) : Prop:=∀r∈l,r.ent.vot.length≤1000000

theorem reco_a(n i:Int)(v:Value)(l:List RecS)(hl:l.length≤50000000)(hv:RecV l) : CallA Try.prog 26 [it n,it i, .ow v] [arrR v 108 30 l recC] fun r own=>((recoF n i l).1=1∧r= .tup [.val (.pointer none),it 1]∧own= [arrR v 108 30 l recC])∨((recoF n i l).1=0∧∃p pe pl ve vl,r= .tup [pm p,it 0]∧own=nodR p pe pl ve vl (recoF n i l).2 ++ [arrR v 108 30 l recC]):=by
 have hnw:=enew_a n i
 by_cases hr0:ResE n i 0 (-1)
 rotate_left
 ·rw [show recoF n i l=(1,⟨ele0 n i 0 (-1),log0 n i [],0⟩) from if_pos hr0]
  have hnw2:CallA Try.prog 47 [it n,it i] [] fun r own=>r= .tup [.val (.pointer none),it 1]∧own= []:=hnw.mono fun r o h=>h.elim (fun h=>h.2) fun h=>absurd h.1 hr0
  refine CallA.of pg ord26 Try.func26 rfl Try.ntmps26 Try.results26 rfl fun h0 G0 O0=>?_
  repeat'(first|apply Sp.h|refine Lk.r rfl ?_|refine Rf.mk rfl ?_|refine xB ?_|refine xN ?_|(((apply Cl.use (hnw2);(focus repeat' constructor);(focus repeat' constructor);focus rfl));(rintro _ _ ⟨rfl,rfl⟩)))
  all_goals exact⟨_,_, .tup (.same (.same (.z))), .inl ⟨rfl,rfl,rfl⟩⟩
 have hnw2:CallA Try.prog 47 [it n,it i] [] fun r own=>∃p u,r= .tup [pm p,it 0]∧own=eleR p u (ele0 n i 0 (-1)):=hnw.mono fun r o h=>h.elim (fun h=>absurd hr0 h.1) fun h=>h.2
 have hrF:recoF n i l=if(rcoF n i l (0,-1,[])).1≠0 then(1,⟨ele0 n i 0 (-1),log0 n i [],0⟩) else if¬ResL n i (rcoF n i l (0,-1,[])).2.2.2 then(1,⟨ele0 n i 0 (-1),log0 n i [],0⟩) else(0,⟨ele0 n i (rcoF n i l (0,-1,[])).2.1 (rcoF n i l (0,-1,[])).2.2.1,log0 n i (rcoF n i l (0,-1,[])).2.2.2,0⟩):=if_neg (fun h=>h hr0)
 rw [hrF]
 obtain⟨F,hF⟩:∃F,F=rcoF n i l (0,-1,[]):=⟨_,rfl⟩
 rw [←hF]
 clear hrF hnw
 refine CallA.of pg ord26 Try.func26 rfl Try.ntmps26 Try.results26 rfl fun h0 G0 O0=>?_
 repeat'(first|apply Sp.h|refine Lk.r rfl ?_|refine Rf.mk rfl ?_|fail)
 refine xW (hnw2) ?_
 rintro _ _ ⟨pe0,ve0,rfl,rfl⟩
 (repeat'(first|(show CA _ _ (Code.region 5 _ _) _ _;apply Stopped.out)|apply Sp.h|refine Lk.r rfl ?_|refine Rf.mk rfl ?_|refine xA ?_|fail));any_goals apply Stopped.mk
 refine CA.nilOwn 10 89 6 entC rfl fun w0=>?_
 (repeat'(first|(show CA _ _ (Code.block 0 _) _ _;apply Stopped.out)|apply Sp.h|refine Lk.r rfl ?_|refine Rf.mk rfl ?_|refine xU ?_|fail));any_goals apply Stopped.mk
 apply Sp.h
 obtain⟨L0,hL0⟩:∃L0:List EntS,L0= []:=⟨_,rfl⟩
 apply CA.retype (v:=w0) (m:=L0) (g:=entC)
 focus(repeat constructor)
 focus rw [hL0]
 rw [←hL0] at hF
 have hL1:L0.length=0:=by rw [hL0];rfl
 have hLv:VotL L0:=by rw [hL0];intro e he;cases he
 clear hL0
 refine CA.loop (fun x:Nat×(Int×Int×List EntS)×Nat×Value×Value=>⟨[(0,it n),(1,it i),(8,pm x.2.2.1),(10, .ow x.2.2.2.2),(23, .ow v),(24,it (l.length:Nat)),(25,it (x.1:Nat))],eleR x.2.2.1 x.2.2.2.1 (ele0 n i x.2.1.1 x.2.1.2.1) ++ (arrR x.2.2.2.2 89 6 x.2.1.2.2 entC :: [arrR v 108 30 l recC])⟩) (fun x=>x.1≤l.length∧rcoF n i (l.drop x.1) x.2.1=F∧x.2.1.2.2.length≤x.1∧VotL x.2.1.2.2) (fun x=>l.length - x.1) (0,(0,-1,L0),pe0,ve0,w0) xE ⟨zZ _,hF.symm,by simp only;omega,hLv⟩ ?_
 rintro⟨k,⟨t,v0,es⟩,pe,ve,w⟩ ⟨hk,hkF,hel,hev⟩
 simp only at hk hkF hel hev
 simp only
 by_cases hin:k < l.length
 ·obtain⟨r,hr⟩:=get_of hin
  rw [List.drop_eq_getElem_cons hin,(zS.1 hr).2,rcoF] at hkF
  have hrv:=hv r (zM hr)
  by_cases h2:r.kind=2
  ·rw [if_pos h2] at hkF
   have hre:=erestore_a n i r.term r.vote
   by_cases hR:ResE n i r.term r.vote
   ·rw [if_pos hR] at hkF
    have hre2:CallA Try.prog 48 [it n,it i,it r.term,it r.vote] [] fun x own=>∃p u,x= .tup [pm p,it 0]∧own=eleR p u (ele0 n i r.term r.vote):=hre.mono fun r o h=>h.elim (fun h=>absurd hR h.1) fun h=>h.2
    repeat'(first|apply Sp.h|refine Lk.r rfl ?_|refine Rf.mk rfl ?_|refine xA ?_|refine All.mk fun _=>?_|refine xU ?_|refine xT ?_|refine xI ?_|refine xJ ?_|refine Ch.l ⟨rfl,rfl⟩ ?_|(apply SetAsk.r;focus repeat' constructor)|refine xN ?_|refine xO ?_|(((apply Cl.use (hre2);(focus repeat' constructor);(focus repeat' constructor);focus rfl));(rintro _ _ ⟨pe2,ve2,rfl,rfl⟩)))
    all_goals exact PA.lp (k+1,(r.term,r.vote,es),pe2,ve2,w) xE ⟨⟨hin,hkF,by simp only;omega,hev⟩,by simp only;omega⟩
   ·rw [if_neg hR] at hkF
    have hre2:CallA Try.prog 48 [it n,it i,it r.term,it r.vote] [] fun x own=>x= .tup [.val (.pointer none),it 1]∧own= []:=hre.mono fun r o h=>h.elim (fun h=>h.2) fun h=>absurd h.1 hR
    rw [←hkF,if_pos (show(1:Int)≠0 from by decide)]
    repeat'(first|apply Sp.h|refine Lk.r rfl ?_|refine Rf.mk rfl ?_|refine xA ?_|refine xB ?_|refine All.mk fun _=>?_|refine xU ?_|refine xT ?_|refine xI ?_|refine xJ ?_|refine Ch.l ⟨rfl,rfl⟩ ?_|(apply SetAsk.r;focus repeat' constructor)|refine xN ?_|(((apply Cl.use (hre2);(focus repeat' constructor);(focus repeat' constructor);focus rfl));(rintro _ _ ⟨rfl,rfl⟩)))
    all_goals exact⟨_,_, .tup (.same (.same (.z))), .inl ⟨rfl,rfl,rfl⟩⟩
  rw [if_neg h2] at hkF
  by_cases h3:r.kind=3
  ·rw [if_pos h3] at hkF
   by_cases h4:r.index < 1∨(es.length:Int)+1 < r.index
   ·rw [if_pos h4] at hkF
    rw [←hkF,if_pos (show(1:Int)≠0 from by decide)]
    by_cases h5:r.index < 1
    ·repeat'(first|apply Sp.h|refine Lk.r rfl ?_|refine Rf.mk rfl ?_|refine xA ?_|refine xB ?_|apply All.mk|refine xU ?_|refine xT ?_|refine xI ?_|refine xJ ?_|refine Ch.l ⟨rfl,rfl⟩ ?_|(apply SetAsk.r;focus repeat' constructor)|refine xN ?_|intro _)
     all_goals exact⟨_,_, .tup (.same (.same (.z))), .inl ⟨rfl,rfl,rfl⟩⟩
    ·repeat'(first|apply Sp.h|refine Lk.r rfl ?_|refine Rf.mk rfl ?_|refine xA ?_|refine xB ?_|apply All.mk|refine xU ?_|refine xT ?_|refine xI ?_|refine xJ ?_|refine Ch.l ⟨rfl,rfl⟩ ?_|(apply SetAsk.r;focus repeat' constructor)|refine xN ?_|refine xO ?_|intro _)
     all_goals first
      | exact⟨_,_, .tup (.same (.same (.z))), .inl ⟨rfl,rfl,rfl⟩⟩
      | exact(by omega:False).elim
   ·rw [if_neg h4] at hkF
    have h5:¬r.index < 1:=fun h=>h4 (.inl h)
    have h6:¬(es.length:Int)+1 < r.index:=fun h=>h4 (.inr h)
    obtain⟨j,hj⟩:∃j:Nat,r.index - 1=(j:Int):=⟨(r.index - 1).toNat,by omega⟩
    rw [hj,Int.toNat_natCast] at hkF
    have hjl:(es.take j).length=j:=by rw [zN];omega
    repeat'(first|apply Sp.h|refine Lk.r rfl ?_|refine Rf.mk rfl ?_|refine xA ?_|refine xB ?_|refine OpK.r rfl ?_|refine xP ?_|refine All.mk fun _=>?_|refine xU ?_|refine xT ?_|refine xI ?_|refine xJ ?_|refine Ch.l ⟨rfl,rfl⟩ ?_|refine Ch.r ?_|(apply SetAsk.r;focus repeat' constructor)|(apply Fk.r;focus repeat' first|infer_instance|constructor)|refine xN ?_|refine Rf.mk ⟨rfl,rfl⟩ ?_|refine Rf.mk ⟨rfl,rfl,rfl⟩ ?_|(apply Mp.lit;(focus repeat(first|exact MpL.nil|(apply MpL.cons;(focus rfl))|(apply MpL.inv;(focus repeat constructor);(focus infer_instance)))))|refine xD ?_|refine xO ?_|(apply Jx.r;(focus exact hj);(focus omega)))
    all_goals
     rename_i w2
     exact PA.lp (k+1,(t,v0,es.take j ++ [r.ent]),pe,ve,w2) xE ⟨⟨hin,hkF,by rw [zP,List.length_singleton];simp only;omega,fun e he=>(zV.1 he).elim (fun h=>hev e (zW h)) fun h=>by rw [zH.1 h];exact hrv⟩,by simp only;omega⟩
  ·rw [if_neg h3] at hkF
   repeat'(first|apply Sp.h|refine Lk.r rfl ?_|refine Rf.mk rfl ?_|refine xA ?_|refine xB ?_|apply All.mk|refine xU ?_|refine xT ?_|refine xI ?_|refine xJ ?_|refine Ch.l ⟨rfl,rfl⟩ ?_|(apply SetAsk.r;focus repeat' constructor)|refine xN ?_|refine xO ?_|intro _)
   all_goals exact PA.lp (k+1,(t,v0,es),pe,ve,w) xE ⟨⟨hin,hkF,by simp only;omega,hev⟩,by simp only;omega⟩
 ·have:k=l.length:=by omega
  subst this
  rw [List.drop_length,rcoF] at hkF
  rw [←hkF,if_neg (fun h=>h rfl)]
  simp only
  have hrs:=lrestore_a n i es (by omega) hev
  (repeat'(first|(show CA _ _ (Code.region 18 _ _) _ _;apply Stopped.out)|apply Sp.h|refine Lk.r rfl ?_|refine Rf.mk rfl ?_|refine xB ?_|fail));any_goals apply Stopped.mk
  apply CA.freeze 10 rfl
  focus(repeat constructor)
  focus omega
  by_cases hL:ResL n i es
  ·rw [if_neg (fun h=>h hL)]
   have hrs2:CallA Try.prog 49 [it n,it i,entsA es] [] fun r own=>∃p v,r= .tup [pm p,it 0]∧own=logR p v (log0 n i es):=hrs.mono fun r o h=>h.elim (fun h=>absurd hL h.1) fun h=>h.2
   repeat'(first|apply Sp.h|refine Lk.r rfl ?_|refine Rf.mk rfl ?_|refine xA ?_|refine All.mk fun _=>?_|(apply Fk.r;focus repeat' first|infer_instance|constructor)|refine xN ?_|(((apply Cl.use (hrs2);(focus repeat' constructor);(focus repeat' constructor);focus rfl));(rintro _ _ ⟨pl,vl,rfl,rfl⟩)))
   all_goals exact⟨_,_, .tup (.same (.same (.z))), .inr ⟨rfl,_,_,_,_,_,rfl,rfl⟩⟩
  ·rw [if_pos hL]
   have hrs2:CallA Try.prog 49 [it n,it i,entsA es] [] fun r own=>r= .tup [.val (.pointer none),it 1]∧own= []:=hrs.mono fun r o h=>h.elim (fun h=>h.2) fun h=>absurd h.1 hL
   repeat'(first|apply Sp.h|refine Lk.r rfl ?_|refine Rf.mk rfl ?_|refine xB ?_|refine xN ?_|(((apply Cl.use (hrs2);(focus repeat' constructor);(focus repeat' constructor);focus rfl));(rintro _ _ ⟨rfl,rfl⟩)))
   all_goals exact⟨_,_, .tup (.same (.same (.z))), .inl ⟨rfl,rfl,rfl⟩⟩

theorem reco_p(n i:Int)(l:List RecS)(hl:l.length≤50000000)(hv:RecV l) : CallA Try.prog 26 [it n,it i,rcsA l] [] fun r own=>((recoF n i l).1=1∧r= .tup [.val (.pointer none),it 1]∧own= [])∨((recoF n i l).1=0∧∃p pe pl ve vl,r= .tup [pm p,it 0]∧own=nodR p pe pl ve vl (recoF n i l).2 ++ []):=by
 have hnw:=enew_a n i
 by_cases hr0:ResE n i 0 (-1)
 rotate_left
 ·rw [show recoF n i l=(1,⟨ele0 n i 0 (-1),log0 n i [],0⟩) from if_pos hr0]
  have hnw2:CallA Try.prog 47 [it n,it i] [] fun r own=>r= .tup [.val (.pointer none),it 1]∧own= []:=hnw.mono fun r o h=>h.elim (fun h=>h.2) fun h=>absurd h.1 hr0
  refine CallA.of pg ord26 Try.func26 rfl Try.ntmps26 Try.results26 rfl fun h0 G0 O0=>?_
  repeat'(first|apply Sp.h|refine Lk.r rfl ?_|refine Rf.mk rfl ?_|refine xB ?_|refine xN ?_|(((apply Cl.use (hnw2);(focus repeat' constructor);(focus repeat' constructor);focus rfl));(rintro _ _ ⟨rfl,rfl⟩)))
  all_goals exact⟨_,_, .tup (.same (.same (.z))), .inl ⟨rfl,rfl,rfl⟩⟩
 have hnw2:CallA Try.prog 47 [it n,it i] [] fun r own=>∃p u,r= .tup [pm p,it 0]∧own=eleR p u (ele0 n i 0 (-1)):=hnw.mono fun r o h=>h.elim (fun h=>absurd hr0 h.1) fun h=>h.2
 have hrF:recoF n i l=if(rcoF n i l (0,-1,[])).1≠0 then(1,⟨ele0 n i 0 (-1),log0 n i [],0⟩) else if¬ResL n i (rcoF n i l (0,-1,[])).2.2.2 then(1,⟨ele0 n i 0 (-1),log0 n i [],0⟩) else(0,⟨ele0 n i (rcoF n i l (0,-1,[])).2.1 (rcoF n i l (0,-1,[])).2.2.1,log0 n i (rcoF n i l (0,-1,[])).2.2.2,0⟩):=if_neg (fun h=>h hr0)
 rw [hrF]
 obtain⟨F,hF⟩:∃F,F=rcoF n i l (0,-1,[]):=⟨_,rfl⟩
 rw [←hF]
 clear hrF hnw
 refine CallA.of pg ord26 Try.func26 rfl Try.ntmps26 Try.results26 rfl fun h0 G0 O0=>?_
 repeat'(first|apply Sp.h|refine Lk.r rfl ?_|refine Rf.mk rfl ?_|fail)
 refine xW (hnw2) ?_
 rintro _ _ ⟨pe0,ve0,rfl,rfl⟩
 (repeat'(first|(show CA _ _ (Code.region 5 _ _) _ _;apply Stopped.out)|apply Sp.h|refine Lk.r rfl ?_|refine Rf.mk rfl ?_|refine xA ?_|fail));any_goals apply Stopped.mk
 refine CA.nilOwn 10 89 6 entC rfl fun w0=>?_
 (repeat'(first|(show CA _ _ (Code.block 0 _) _ _;apply Stopped.out)|apply Sp.h|refine Lk.r rfl ?_|refine Rf.mk rfl ?_|apply Im.mk|intro _));any_goals apply Stopped.mk
 apply Sp.h
 obtain⟨L0,hL0⟩:∃L0:List EntS,L0= []:=⟨_,rfl⟩
 apply CA.retype (v:=w0) (m:=L0) (g:=entC)
 focus(repeat constructor)
 focus rw [hL0]
 rw [←hL0] at hF
 have hL1:L0.length=0:=by rw [hL0];rfl
 have hLv:VotL L0:=by rw [hL0];intro e he;cases he
 clear hL0
 refine CA.loop (fun x:Nat×(Int×Int×List EntS)×Nat×Value×Value=>⟨[(0,it n),(1,it i),(8,pm x.2.2.1),(10, .ow x.2.2.2.2),(23,rcsA l),(24,it (l.length:Nat)),(25,it (x.1:Nat))],eleR x.2.2.1 x.2.2.2.1 (ele0 n i x.2.1.1 x.2.1.2.1) ++ (arrR x.2.2.2.2 89 6 x.2.1.2.2 entC :: [])⟩) (fun x=>x.1≤l.length∧rcoF n i (l.drop x.1) x.2.1=F∧x.2.1.2.2.length≤x.1∧VotL x.2.1.2.2) (fun x=>l.length - x.1) (0,(0,-1,L0),pe0,ve0,w0) xE ⟨zZ _,hF.symm,by simp only;omega,hLv⟩ ?_
 rintro⟨k,⟨t,v0,es⟩,pe,ve,w⟩ ⟨hk,hkF,hel,hev⟩
 simp only at hk hkF hel hev
 simp only
 by_cases hin:k < l.length
 ·obtain⟨r,hr⟩:=get_of hin
  rw [List.drop_eq_getElem_cons hin,(zS.1 hr).2,rcoF] at hkF
  have hrv:=hv r (zM hr)
  by_cases h2:r.kind=2
  ·rw [if_pos h2] at hkF
   have hre:=erestore_a n i r.term r.vote
   by_cases hR:ResE n i r.term r.vote
   ·rw [if_pos hR] at hkF
    have hre2:CallA Try.prog 48 [it n,it i,it r.term,it r.vote] [] fun x own=>∃p u,x= .tup [pm p,it 0]∧own=eleR p u (ele0 n i r.term r.vote):=hre.mono fun r o h=>h.elim (fun h=>absurd hR h.1) fun h=>h.2
    repeat'(first|apply Sp.h|refine Lk.r rfl ?_|refine Rf.mk rfl ?_|refine xA ?_|refine All.mk fun _=>?_|refine xT ?_|refine xI ?_|refine Ch.l ⟨rfl,rfl⟩ ?_|(apply SetAsk.r;focus repeat' constructor)|refine xN ?_|refine xO ?_|(((apply Cl.use (hre2);(focus repeat' constructor);(focus repeat' constructor);focus rfl));(rintro _ _ ⟨pe2,ve2,rfl,rfl⟩)))
    all_goals exact PA.lp (k+1,(r.term,r.vote,es),pe2,ve2,w) xE ⟨⟨hin,hkF,by simp only;omega,hev⟩,by simp only;omega⟩
   ·rw [if_neg hR] at hkF
    have hre2:CallA Try.prog 48 [it n,it i,it r.term,it r.vote] [] fun x own=>x= .tup [.val (.pointer none),it 1]∧own= []:=hre.mono fun r o h=>h.elim (fun h=>h.2) fun h=>absurd h.1 hR
    rw [←hkF,if_pos (show(1:Int)≠0 from by decide)]
    repeat'(first|apply Sp.h|refine Lk.r rfl ?_|refine Rf.mk rfl ?_|refine xA ?_|refine xB ?_|refine All.mk fun _=>?_|refine xT ?_|refine xI ?_|refine Ch.l ⟨rfl,rfl⟩ ?_|(apply SetAsk.r;focus repeat' constructor)|refine xN ?_|(((apply Cl.use (hre2);(focus repeat' constructor);(focus repeat' constructor);focus rfl));(rintro _ _ ⟨rfl,rfl⟩)))
    all_goals exact⟨_,_, .tup (.same (.same (.z))), .inl ⟨rfl,rfl,rfl⟩⟩
  rw [if_neg h2] at hkF
  by_cases h3:r.kind=3
  ·rw [if_pos h3] at hkF
   by_cases h4:r.index < 1∨(es.length:Int)+1 < r.index
   ·rw [if_pos h4] at hkF
    rw [←hkF,if_pos (show(1:Int)≠0 from by decide)]
    by_cases h5:r.index < 1
    ·repeat'(first|apply Sp.h|refine Lk.r rfl ?_|refine Rf.mk rfl ?_|refine xA ?_|refine xB ?_|apply All.mk|refine xT ?_|refine xI ?_|refine Ch.l ⟨rfl,rfl⟩ ?_|(apply SetAsk.r;focus repeat' constructor)|refine xN ?_|intro _)
     all_goals exact⟨_,_, .tup (.same (.same (.z))), .inl ⟨rfl,rfl,rfl⟩⟩
    ·repeat'(first|apply Sp.h|refine Lk.r rfl ?_|refine Rf.mk rfl ?_|refine xA ?_|refine xB ?_|apply All.mk|refine xU ?_|refine xT ?_|refine xI ?_|refine Ch.l ⟨rfl,rfl⟩ ?_|(apply SetAsk.r;focus repeat' constructor)|refine xN ?_|refine xO ?_|intro _)
     all_goals first
      | exact⟨_,_, .tup (.same (.same (.z))), .inl ⟨rfl,rfl,rfl⟩⟩
      | exact(by omega:False).elim
   ·rw [if_neg h4] at hkF
    have h5:¬r.index < 1:=fun h=>h4 (.inl h)
    have h6:¬(es.length:Int)+1 < r.index:=fun h=>h4 (.inr h)
    obtain⟨j,hj⟩:∃j:Nat,r.index - 1=(j:Int):=⟨(r.index - 1).toNat,by omega⟩
    rw [hj,Int.toNat_natCast] at hkF
    have hjl:(es.take j).length=j:=by rw [zN];omega
    repeat'(first|apply Sp.h|refine Lk.r rfl ?_|refine Rf.mk rfl ?_|refine xA ?_|refine xB ?_|refine OpK.r rfl ?_|refine xP ?_|refine All.mk fun _=>?_|refine xU ?_|refine xT ?_|refine xI ?_|refine Ch.l ⟨rfl,rfl⟩ ?_|refine Ch.r ?_|(apply SetAsk.r;focus repeat' constructor)|(apply Fk.r;focus repeat' first|infer_instance|constructor)|refine xN ?_|refine Rf.mk ⟨rfl,rfl⟩ ?_|refine Rf.mk ⟨rfl,rfl,rfl⟩ ?_|(apply Mp.lit;(focus repeat(first|exact MpL.nil|(apply MpL.cons;(focus rfl))|(apply MpL.inv;(focus repeat constructor);(focus infer_instance)))))|refine xD ?_|refine xO ?_|(apply Jx.r;(focus exact hj);(focus omega)))
    all_goals
     rename_i w2
     exact PA.lp (k+1,(t,v0,es.take j ++ [r.ent]),pe,ve,w2) xE ⟨⟨hin,hkF,by rw [zP,List.length_singleton];simp only;omega,fun e he=>(zV.1 he).elim (fun h=>hev e (zW h)) fun h=>by rw [zH.1 h];exact hrv⟩,by simp only;omega⟩
  ·rw [if_neg h3] at hkF
   repeat'(first|apply Sp.h|refine Lk.r rfl ?_|refine Rf.mk rfl ?_|refine xA ?_|refine xB ?_|apply All.mk|refine xT ?_|refine xI ?_|refine Ch.l ⟨rfl,rfl⟩ ?_|(apply SetAsk.r;focus repeat' constructor)|refine xN ?_|refine xO ?_|intro _)
   all_goals exact PA.lp (k+1,(t,v0,es),pe,ve,w) xE ⟨⟨hin,hkF,by simp only;omega,hev⟩,by simp only;omega⟩
 ·have:k=l.length:=by omega
  subst this
  rw [List.drop_length,rcoF] at hkF
  rw [←hkF,if_neg (fun h=>h rfl)]
  simp only
  have hrs:=lrestore_a n i es (by omega) hev
  (repeat'(first|(show CA _ _ (Code.region 18 _ _) _ _;apply Stopped.out)|apply Sp.h|refine Lk.r rfl ?_|refine Rf.mk rfl ?_|refine xB ?_|fail));any_goals apply Stopped.mk
  apply CA.freeze 10 rfl
  focus(repeat constructor)
  focus omega
  by_cases hL:ResL n i es
  ·rw [if_neg (fun h=>h hL)]
   have hrs2:CallA Try.prog 49 [it n,it i,entsA es] [] fun r own=>∃p v,r= .tup [pm p,it 0]∧own=logR p v (log0 n i es):=hrs.mono fun r o h=>h.elim (fun h=>absurd hL h.1) fun h=>h.2
   repeat'(first|apply Sp.h|refine Lk.r rfl ?_|refine Rf.mk rfl ?_|refine xA ?_|refine All.mk fun _=>?_|(apply Fk.r;focus repeat' first|infer_instance|constructor)|refine xN ?_|(((apply Cl.use (hrs2);(focus repeat' constructor);(focus repeat' constructor);focus rfl));(rintro _ _ ⟨pl,vl,rfl,rfl⟩)))
   all_goals exact⟨_,_, .tup (.same (.same (.z))), .inr ⟨rfl,_,_,_,_,_,rfl,rfl⟩⟩
  ·rw [if_pos hL]
   have hrs2:CallA Try.prog 49 [it n,it i,entsA es] [] fun r own=>r= .tup [.val (.pointer none),it 1]∧own= []:=hrs.mono fun r o h=>h.elim (fun h=>h.2) fun h=>absurd h.1 hL
   repeat'(first|apply Sp.h|refine Lk.r rfl ?_|refine Rf.mk rfl ?_|refine xB ?_|refine xN ?_|(((apply Cl.use (hrs2);(focus repeat' constructor);(focus repeat' constructor);focus rfl));(rintro _ _ ⟨rfl,rfl⟩)))
   all_goals exact⟨_,_, .tup (.same (.same (.z))), .inl ⟨rfl,rfl,rfl⟩⟩
structure WorS where
 nodes:List NodS
 recs:List (List RecS)
 box:List MsgS
def nod0 : NodS:=⟨ele0 0 0 0 0,log0 0 0 [],0⟩
def WorS.nod(W:WorS)(i:Nat) : NodS:=W.nodes.getD i nod0
def WorS.rcs(W:WorS)(i:Nat) : List RecS:=W.recs.getD i []
def keepW(W:WorS)(i:Nat)(o:OutS) : WorS:={ W with recs:=W.recs.set i (W.rcs i ++ o.recs),box:=W.box ++ o.msgs }
def putW(W:WorS)(i:Nat)(r:NodS×OutS) : WorS:=keepW { W with nodes:=W.nodes.set i r.1 } i r.2
def tickW(W:WorS)(i:Nat) : WorS:=putW W i (tickN (W.nod i))
def delvW(W:WorS)(k:Nat)(keep:Bool) : WorS×Bool :=
 if(W.box.getD k zerM).to < 0∨(W.nodes.length:Int)≤(W.box.getD k zerM).to then(if keep then W else { W with box:=W.box.eraseIdx k },false)
 else(putW (if keep then W else { W with box:=W.box.eraseIdx k }) (W.box.getD k zerM).to.toNat (recvN (W.nod (W.box.getD k zerM).to.toNat) (W.box.getD k zerM)),true)
def setlW : Nat→WorS→WorS×Bool
 | 0,W=>(W,false)
 | f+1,W=>if W.box= [] then(W,true) else if(delvW W 0 false).2 then setlW f (delvW W 0 false).1 else((delvW W 0 false).1,false)
def crshW(W:WorS)(i:Nat) : WorS×Bool :=
 if(recoF W.nodes.length i (W.rcs i)).1≠0 then(W,false) else({ W with nodes:=W.nodes.set i (recoF W.nodes.length i (W.rcs i)).2 },true)
def leadL : List NodS→Int→Int×Int→Int×Int
 | [],_,x=>x
 | s :: l,i,x=>leadL l (i+1) (if s.e.role=2∧x.2 < s.e.term then(i,s.e.term) else x)
def leadW(W:WorS) : Int:=(leadL W.nodes 0 (-1,0)).1
def begW(n:Nat) : WorS:=⟨(List.range n).map fun i:Nat=>(recoF n i []).2,List.replicate n [],[]⟩
structure MsgB (n:Nat) (m:MsgS):Prop where
 to:0≤m.to∧m.to < n
 es:MsgK m
 ix: -1≤m.index
structure WorK (n B:Nat) (W:WorS):Prop where
 nn:1≤n∧n≤5
 ln:W.nodes.length=n
 lr:W.recs.length=n
 nd:∀(i:Nat) (s:NodS),W.nodes[i]?=some s→NodK s∧s.g.n=n∧s.g.i=i∧s.e.votes.length≤B
 bx:∀m∈W.box,MsgB n m
 bl:W.box.length≤20 * B
 rc:∀(i:Nat) (l:List RecS),W.recs[i]?=some l→l.length≤1100 * B∧RecV l
/-! ### Messages -/
theorem rng_mem{n r:Int} : r∈rngI n→0≤r∧r < n:=fun h=>by
 unfold rngI at h
 obtain⟨k,hk,rfl⟩:=List.mem_map.1 h
 rw [List.mem_range] at hk
 omega
theorem votB_mem{n:Int}{l:List Int}(h:votB n l=true){r:Int}(hr:r∈l) : 0≤r∧r < n:=by
 obtain⟨k,hk⟩:=zO hr
 have h1:=of_decide_eq_true (List.all_eq_true.1 (Bool.and_eq_true _ _▸h).1 k (List.mem_range.2 (zS.1 hk).1))
 rw [getD_of hk] at h1
 exact⟨h1.1,h1.2.1⟩
theorem votF_mem{n:Int}{l:List EntS}(hv:valB n l=true){r:Int}(h:r∈votF n l) : 0≤r∧r < n:=by
 unfold votF at h
 split at h
 ·exact rng_mem h
 ·exact votB_mem (votA_ne hv (by omega)) h
theorem sendM_ok{g:LogN}(hg:LogK g)(hl:g.leads≠0){r:Int}(hr:othF g.n g.i r=true)(n:Nat)(hn:g.n=n) : MsgB n (sendM g r):=by
 obtain⟨h1,h2,_⟩:=hg.pl hl r
 have ho:=oth_iff.1 hr
 refine⟨⟨ho.1,show r < n by omega⟩,fun _=>⟨_,rfl, ?_,fun e he=>hg.vot e (List.mem_of_mem_drop (zW he))⟩,show -1≤(getO g r).1 - 1 by omega⟩
 have:=hg.len
 simp only [zN,List.length_drop]
 omega
theorem allM_ok{g:LogN}(hg:LogK g)(n:Nat)(hn:g.n=n) :∀m∈allM g,MsgB n m:=fun m hm=>by
 unfold allM at hm
 split at hm
 ·cases hm
 ·rename_i hl
  obtain⟨r,hr,rfl⟩:=List.mem_map.1 hm
  exact sendM_ok hg hl (List.mem_filter.1 hr).2 n hn
theorem msg0_ok{n:Nat}{k f t a b c:Int}{g:Bool}(hk:k≠7)(ht:0≤t∧t < n)(hb: -1≤b) : MsgB n (msg0 k f t a b c g):=⟨ht,fun h=>absurd h hk,hb⟩
theorem setF_ok{s:NodS}(hk:NodK s)(n:Nat)(hn:s.g.n=n) :∀m∈(setF s).2,MsgB n m:=fun m hm=>by
 unfold setF setA at hm
 split at hm
 ·split at hm
  ·cases hm
  ·exact allM_ok (hk.g.lead _) n ((lead_base _ _).1.trans hn) m hm
 ·cases hm
theorem tickF_ok{e:EleN}{vs:List Int}{x y:Int}(n:Nat)(hv:∀r∈vs,0≤r∧r < n)(hx: -1≤x) :∀m∈(tickF e vs x y).2,MsgB n m:=fun m hm=>by
  unfold tickF at hm
  repeat' split at hm
  all_goals first
    | cases hm;done
    | (unfold askF at hm
       obtain⟨r,hr,rfl⟩:=List.mem_map.1 hm
       exact msg0_ok (by decide) (hv r (List.mem_filter.1 hr).1) hx)
theorem votN_ok{s:NodS}(hk:NodK s)(n:Nat)(hn:s.g.n=n) :∀r∈votN s,0≤r∧r < n:=fun r hr=>by
 have:=votF_mem hk.g.val hr
 omega
theorem tik_ok{s:NodS}(hk:NodK s)(n:Nat)(hn:s.g.n=n) :∀m∈(tikN s).2,MsgB n m:=fun m hm=>by
 have h1:=tickF_ok (e:=s.e) (y:=lstT s.g) n (votN_ok hk n hn) (show -1≤((s.g.ents.length:Nat):Int) by omega)
 unfold tikN at hm
 split at hm
 ·split at hm
  ·rcases zV.1 hm with hm|hm
   ·exact h1 m hm
   ·exact allM_ok hk.g n hn m hm
  ·exact h1 m hm
 ·exact h1 m hm
theorem recvF_ok{e:EleN}{q:MsgS}{vs:List Int}{x y:Int}(n:Nat)(hn:e.n=n) :∀m∈(recvF e q vs x y).2,MsgB n m:=fun m hm=>by
 unfold recvF at hm
 split at hm
 ·cases hm
 rename_i hc
 split at hm
 ·unfold askedF at hm
  rw [zH.1 hm]
  have ho:othF e.n e.i q.frm=true:=by
   cases hb:othF e.n e.i q.frm
   ·exact absurd (.inr (.inr (.inl hb))) hc
   ·rfl
  have ho:=oth_iff.1 ho
  exact msg0_ok (by decide) ⟨ho.1,by omega⟩ (by decide)
 ·cases hm
theorem toB_iff{s:NodS}{m:MsgS} : toB s m=true↔m.to=s.e.i∧0≤m.frm∧m.frm < s.e.n∧m.frm≠s.e.i:=by
 unfold toB
 rw [Bool.and_eq_true,decide_eq_true_iff,oth_iff]
theorem app_ans{g:LogN}{m:MsgS}(hc:(appF g m).2.2.2=0) : (appF g m).2.1.to=m.frm∧ -1≤(appF g m).2.1.index∧(appF g m).2.1.kind=8:=by
 have hs:=app_spec g m
 generalize appF g m=r at hs hc
 cases hs with
 | bad c h=>exact absurd hc h
 | no hf _=>have:=hf.index.1;exact⟨rfl,show -1≤min (m.index - 1) (g.ents.length:Int) by omega,rfl⟩
 | same hf _ _ _=>have:=hf.index.1;exact⟨rfl,show -1≤m.index+m.ents.length by omega,rfl⟩
 | put k hf _ _ _ _ _ _ _ _=>have:=hf.index.1;exact⟨rfl,show -1≤m.index+m.ents.length by omega,rfl⟩
theorem rcv_ok{s:NodS}(hk:NodK s)(q:MsgS)(n:Nat)(hn:s.g.n=n) :∀m∈(rcvN s q).2,MsgB n m:=fun m hm=>by
 have hen:=hk.en
 unfold rcvN at hm
 split at hm
 ·exact recvF_ok n (by omega) m hm
 split at hm
 ·unfold appN at hm
  split at hm
  ·cases hm
  rename_i hto
  have hto:=toB_iff.1 (show toB s q=true by cases h:toB s q;exact absurd h hto;rfl)
  split at hm
  ·split at hm
   ·rename_i hc
    rw [zH.1 hm]
    obtain⟨h1,h2,h3⟩:=app_ans hc
    exact⟨by rw [h1];omega,fun h=>(by rw [h3] at h;cases h),h2⟩
   ·cases hm
  ·split at hm
   ·rw [zH.1 hm]
    exact msg0_ok (by decide) ⟨hto.2.1,by omega⟩ (by decide)
   ·cases hm
 split at hm
 ·unfold apdN at hm
  split at hm
  ·cases hm
  split at hm
  ·cases hm
  rename_i hl
  split at hm
  ·cases hm
  rename_i hc
  rw [zH.1 hm]
  have hb:=apd_base s.g q
  have hc0:(sendF (apdF s.g q) q.frm).2=0:=Classical.byContradiction fun h=>hc (.inl h)
  unfold sendF at hc0 ⊢
  split at hc0
  ·cases hc0
  ·split at hc0
   ·cases hc0
   ·rename_i h1 h2
    rw [if_neg h1,if_neg h2]
    exact sendM_ok (hk.g.apd q) h1 (by cases h:othF (apdF s.g q).n (apdF s.g q).i q.frm;exact absurd h h2;rfl) n (hb.1.trans hn)
 ·cases hm
/-! ### Records -/
theorem recs_ok{a b:NodS}(hb:NodK b) : (recsF a b).length≤1030∧RecV (recsF a b):=by
 have hl:=hb.len
 refine⟨?_,fun r hr=>?_⟩
 ·unfold recsF recL
  rw [zP,List.length_map,List.length_drop,List.length_zipIdx]
  split
  ·simp only [List.length_nil];omega
  ·simp only [List.length_singleton];omega
 ·unfold recsF recL at hr
  rcases zV.1 hr with hr|hr
  ·split at hr
   ·cases hr
   ·rw [zH.1 hr];exact zZ _
  ·obtain⟨p,hp,rfl⟩:=List.mem_map.1 hr
   have hp:=List.mem_of_mem_drop hp
   have:p.1∈b.g.ents:=(List.mem_zipIdx' hp).2▸List.getElem_mem _
   exact hb.g.vot _ this
theorem nod_at{W:WorS}{i:Nat}{s:NodS}(h:W.nodes[i]?=some s) : W.nod i=s:=getD_of h
theorem rcs_at{W:WorS}{i:Nat}{l:List RecS}(h:W.recs[i]?=some l) : W.rcs i=l:=getD_of h
theorem WorK.get{n B:Nat}{W:WorS}(h:WorK n B W){i:Nat}(hi:i < n) : W.nodes[i]?=some (W.nod i)∧W.recs[i]?=some (W.rcs i)∧NodK (W.nod i)∧(W.nod i).g.n=n∧(W.nod i).g.i=i∧(W.nod i).e.votes.length≤B:=by
 obtain⟨s,hs⟩:=get_of (l:=W.nodes) (i:=i) (by rw [h.ln];exact hi)
 obtain⟨l,hl⟩:=get_of (l:=W.recs) (i:=i) (by rw [h.lr];exact hi)
 rw [nod_at hs,rcs_at hl]
 exact⟨hs,hl,h.nd i s hs⟩
theorem WorK.mono{n B B':Nat}{W:WorS}(h:WorK n B W)(hb:B≤B') : WorK n B' W :=
 ⟨h.nn,h.ln,h.lr,fun i s hs=>by obtain⟨a,b,c,d⟩:=h.nd i s hs;exact⟨a,b,c,by omega⟩,h.bx,by have:=h.bl;omega,fun i l hl=>by obtain⟨a,b⟩:=h.rc i l hl;exact⟨by omega,b⟩⟩
structure CalK (n B i:Nat) (r:NodS×OutS):Prop where
 k:NodK r.1
 cn:r.1.g.n=n
 ci:r.1.g.i=i
 v:r.1.e.votes.length≤B
 m:∀m∈r.2.msgs,MsgB n m
 ml:r.2.msgs.length≤20
 rl:r.2.recs.length≤1030
 rv:RecV r.2.recs
theorem WorK.put{n B i:Nat}{W:WorS}{r:NodS×OutS}(h:WorK n B W)(hi:i < n)(hr:CalK n (B+1) i r) : WorK n (B+1) (putW W i r):=by
 obtain⟨hs,hl,_⟩:=h.get hi
 refine⟨h.nn, ?_, ?_,fun j s hj=>?_,fun m hm=>?_, ?_,fun j l hj=>?_⟩
 ·show(W.nodes.set i r.1).length=n
  rw [zY];exact h.ln
 ·show(W.recs.set i _).length=n
  rw [zY];exact h.lr
 ·have hj:(W.nodes.set i r.1)[j]?=some s:=hj
  rw [List.getElem?_set] at hj
  by_cases hij:i=j
  ·subst hij
   rw [if_pos rfl] at hj
   split at hj
   ·cases hj;exact⟨hr.k,hr.cn,hr.ci,hr.v⟩
   ·cases hj
  ·rw [if_neg hij] at hj
   obtain⟨a,b,c,d⟩:=h.nd j s hj
   exact⟨a,b,c,by omega⟩
 ·have hm:m∈W.box ++ r.2.msgs:=hm
  exact(zV.1 hm).elim (h.bx m) (hr.m m)
 ·show(W.box ++ r.2.msgs).length≤20 * (B+1)
  have:=h.bl
  have:=hr.ml
  rw [zP];omega
 ·have hj:(W.recs.set i (W.rcs i ++ r.2.recs))[j]?=some l:=hj
  rw [List.getElem?_set] at hj
  by_cases hij:i=j
  ·subst hij
   rw [if_pos rfl] at hj
   split at hj
   ·cases hj
    obtain⟨a,b⟩:=h.rc i _ hl
    have:=hr.rl
    exact⟨by rw [zP];omega,fun x hx=>(zV.1 hx).elim (b x) (hr.rv x)⟩
   ·cases hj
  ·rw [if_neg hij] at hj
   obtain⟨a,b⟩:=h.rc j l hj
   exact⟨by omega,b⟩
theorem setF_base(s:NodS) : (setF s).1.g.n=s.g.n∧(setF s).1.g.i=s.g.i∧(setF s).1.e.votes.length≤s.e.votes.length:=by
 have hA:(setA s).1.g.n=s.g.n∧(setA s).1.g.i=s.g.i∧(setA s).1.e.votes.length≤s.e.votes.length:=by
  unfold setA
  split
  ·split
   ·exact⟨rfl,rfl,(see_base _ _).2.2.2.2⟩
   ·exact⟨(lead_base _ _).1,(lead_base _ _).2.1,Nat.le_refl _⟩
  ·exact⟨rfl,rfl,Nat.le_refl _⟩
 have hB:∀t,(setB t).g.n=t.g.n∧(setB t).g.i=t.g.i∧(setB t).e.votes.length≤t.e.votes.length:=fun t=>by
  unfold setB
  split <;> exact⟨rfl,rfl,Nat.le_refl _⟩
 have hC:∀t,(setC t).g.n=t.g.n∧(setC t).g.i=t.g.i∧(setC t).e.votes.length≤t.e.votes.length:=fun t=>by
  have hb:=adv_base t.g (votN t)
  unfold setC
  split
  ·exact⟨rfl,rfl,Nat.le_refl _⟩
  ·split
   ·exact⟨hb.1,hb.2.1,(see_base _ _).2.2.2.2⟩
   ·exact⟨hb.1,hb.2.1,Nat.le_refl _⟩
 show(setC (setB (setA s).1)).g.n=_∧(setC (setB (setA s).1)).g.i=_∧(setC (setB (setA s).1)).e.votes.length≤_
 obtain⟨a1,a2,a3⟩:=hA
 obtain⟨b1,b2,b3⟩:=hB (setA s).1
 obtain⟨c1,c2,c3⟩:=hC (setB (setA s).1)
 exact⟨by rw [c1,b1,a1],by rw [c2,b2,a2],by omega⟩
theorem cal_ok{n B i:Nat}{s:NodS}{r:NodS×List MsgS}(hk:NodK r.1)(hn:r.1.g.n=n)(hi:r.1.g.i=i)(hv:r.1.e.votes.length≤B)(hm:∀m∈r.2,MsgB n m)(hl:r.2.length≤12) : CalK n B i (calF s r):=by
 obtain⟨b1,b2,b3⟩:=setF_base r.1
 obtain⟨r1,r2⟩:=recs_ok (a:=s) hk.kF
 have h5:=setF_len r.1 hk
 refine⟨hk.kF,b1.trans hn,b2.trans hi,Nat.le_trans b3 hv,fun m h=>?_, ?_,r1,r2⟩
 ·have h:m∈r.2 ++ (setF r.1).2:=h
  exact(zV.1 h).elim (hm m) (setF_ok hk n hn m)
 ·show(r.2 ++ (setF r.1).2).length≤20
  rw [zP];omega
theorem tick_ok{n B i:Nat}{s:NodS}(hk:NodK s)(hn:s.g.n=n)(hi:s.g.i=i)(hv:s.e.votes.length≤B) : CalK n (B+1) i (tickN s):=by
 have hb:=tick_base s.e (votN s) s.g.ents.length (lstT s.g)
 have htl:=tickF_len s.e (votN s) s.g.ents.length (lstT s.g)
 have hvl:=votF_len hk.g.val hk.g.n.2
 have hml:=allM_len s.g hk.g.n.2
 have hx:(tikN s).1.g=s.g∧(tikN s).1.e=(tickF s.e (votN s) s.g.ents.length (lstT s.g)).1∧(tikN s).2.length≤10:=by
  unfold tikN votN at *
  split
  ·split
   ·exact⟨rfl,rfl,by simp only [zP];omega⟩
   ·exact⟨rfl,rfl,by simp only;omega⟩
  ·exact⟨rfl,rfl,by simp only;omega⟩
 exact cal_ok hk.kTik (by rw [hx.1];exact hn) (by rw [hx.1];exact hi) (by rw [hx.2.1];omega) (tik_ok hk n hn) (by omega)
theorem rcvN_base(s:NodS)(m:MsgS) : (rcvN s m).1.g.n=s.g.n∧(rcvN s m).1.g.i=s.g.i∧(rcvN s m).1.e.votes.length≤s.e.votes.length+1:=by
 unfold rcvN
 split
 ·exact⟨rfl,rfl,(recv_base _ _ _ _ _).2.2⟩
 split
 ·have hf:=(follow_base s.e m.frm m.term).2.2
  have ha:=app_base (stpF s.g) m
  unfold appN
  split
  ·exact⟨rfl,rfl,Nat.le_succ _⟩
  split
  ·exact⟨ha.1,ha.2.1,by simp only;omega⟩
  ·exact⟨rfl,rfl,by simp only;omega⟩
 split
 ·have hf:=(see_base s.e m.term).2.2.2.2
  have ha:=apd_base s.g m
  unfold apdN
  split
  ·exact⟨rfl,rfl,Nat.le_succ _⟩
  split
  ·exact⟨rfl,rfl,by simp only;omega⟩
  ·exact⟨ha.1,ha.2.1,by simp only;omega⟩
 ·exact⟨rfl,rfl,Nat.le_succ _⟩
theorem recv_ok{n B i:Nat}{s:NodS}(hk:NodK s)(hn:s.g.n=n)(hi:s.g.i=i)(hv:s.e.votes.length≤B)(m:MsgS) : CalK n (B+1) i (recvN s m):=by
 obtain⟨b1,b2,b3⟩:=rcvN_base s m
 have:=rcvN_len s m
 exact cal_ok (hk.kRcv m) (b1.trans hn) (b2.trans hi) (by omega) (rcv_ok hk m n hn) (by omega)
theorem nil_ok{n B i:Nat}{s:NodS}(hk:NodK s)(hn:s.g.n=n)(hi:s.g.i=i)(hv:s.e.votes.length≤B) : CalK n B i (s,⟨[],[]⟩) :=
 ⟨hk,hn,hi,hv,fun m h=>(nomatch h),zZ _,zZ _,fun r h=>(nomatch h)⟩
theorem pro_ok{n B i:Nat}{s:NodS}(hk:NodK s)(hn:s.g.n=n)(hi:s.g.i=i)(hv:s.e.votes.length≤B)(e:EntS) : CalK n B i ((proN s e).1,(proN s e).2.2.1):=by
 have hb:=prop_base s.g e
 unfold proN
 split
 ·have h:=cal_ok (s:=s) (r:=(s,[])) (B:=B) hk hn hi hv (fun m h=>(nomatch h)) (zZ _)
  exact⟨h.k,h.cn,h.ci,h.v,fun m h=>(nomatch h),zZ _,zZ _,fun r h=>(nomatch h)⟩
 ·have h:=allM_len (propF s.g e).1 (hk.g.prop e).n.2
  exact cal_ok (r:=({ s with g:=(propF s.g e).1,ticks:=0 },allM (propF s.g e).1)) (hk.kPro e) (hb.1.trans hn) (hb.2.1.trans hi) hv (allM_ok (hk.g.prop e) n (hb.1.trans hn)) (by simp only;omega)
theorem prop_ok{n B i:Nat}{s:NodS}(hk:NodK s)(hn:s.g.n=n)(hi:s.g.i=i)(hv:s.e.votes.length≤B)(e:EntS) : CalK n B i ((propN s e).1,(propN s e).2.2.1):=by
 unfold propN
 split
 ·exact nil_ok hk hn hi hv
 ·split
  ·exact nil_ok hk hn hi hv
  ·exact pro_ok hk hn hi hv e
theorem chg_ok{n B i:Nat}{s:NodS}(hk:NodK s)(hn:s.g.n=n)(hi:s.g.i=i)(hv:s.e.votes.length≤B)(vs:List Int) : CalK n B i ((chgN s vs).1,(chgN s vs).2.2.1):=by
 unfold chgN
 split
 ·exact nil_ok hk hn hi hv
 ·split
  ·exact nil_ok hk hn hi hv
  ·exact pro_ok hk hn hi hv _
theorem CalK.mono{n B B' i:Nat}{r:NodS×OutS}(h:CalK n B i r)(hb:B≤B') : CalK n B' i r:=⟨h.k,h.cn,h.ci,Nat.le_trans h.v hb,h.m,h.ml,h.rl,h.rv⟩
theorem WorK.tick{n B i:Nat}{W:WorS}(h:WorK n B W)(hi:i < n) : WorK n (B+1) (tickW W i):=by
 obtain⟨_,_,h1,h2,h3,h4⟩:=h.get hi
 exact h.put hi (tick_ok h1 h2 h3 h4)
theorem WorK.boxes{n B:Nat}{W:WorS}(h:WorK n B W){b:List MsgS}(hb:∀m∈b,m∈W.box)(hl:b.length≤W.box.length) : WorK n B { W with box:=b } :=
 ⟨h.nn,h.ln,h.lr,h.nd,fun m hm=>h.bx m (hb m hm),Nat.le_trans hl h.bl,h.rc⟩
theorem WorK.delv{n B k:Nat}{W:WorS}(h:WorK n B W)(hk:k < W.box.length)(keep:Bool) : WorK n (B+1) (delvW W k keep).1∧(delvW W k keep).2=true:=by
 obtain⟨m,hm⟩:=get_of hk
 have hto:=(h.bx m (zM hm)).to
 unfold delvW
 rw [getD_of hm,if_neg (by rw [h.ln];omega)]
 have hi:m.to.toNat < n:=by omega
 obtain⟨_,_,h1,h2,h3,h4⟩:=h.get hi
 refine⟨?_,rfl⟩
 have hW:WorK n B (if keep then W else { W with box:=W.box.eraseIdx k }):=by
  split
  ·exact h
  ·exact h.boxes (fun x hx=>List.mem_of_mem_eraseIdx hx) (by rw [List.length_eraseIdx];split <;> omega)
 exact hW.put hi (recv_ok h1 h2 h3 h4 m)
theorem reco_ok{n i:Int}{l:List RecS}(h:(recoF n i l).1=0) : NodK (recoF n i l).2∧(recoF n i l).2.g.n=n∧(recoF n i l).2.g.i=i∧(recoF n i l).2.e.votes= []:=by
 unfold recoF at h ⊢
 split at h
 ·cases h
 rename_i h0
 rw [if_neg h0]
 split at h
 ·cases h
 rename_i h1
 rw [if_neg h1]
 split at h
 ·cases h
 rename_i h2
 rw [if_neg h2]
 have hL:ResL n i (rcoF n i l (0,-1,[])).2.2.2:=Classical.byContradiction h2
 have hR:∀(l:List RecS) x,ResE n i x.1 x.2.1→(rcoF n i l x).1=0→ResE n i (rcoF n i l x).2.1 (rcoF n i l x).2.2.1:=fun l=>by
  induction l with
  | nil=>exact fun x hx _=>hx
  | cons r l ih =>
   rintro⟨t,v,es⟩ hx h9
   unfold rcoF at h9 ⊢
   split at h9
   ·rename_i k1
    rw [if_pos k1]
    split at h9
    ·rename_i k2
     rw [if_pos k2];exact ih _ k2 h9
    ·cases h9
   ·rename_i k1
    rw [if_neg k1]
    split at h9
    ·rename_i k2
     rw [if_pos k2]
     split at h9
     ·cases h9
     ·rename_i k3
      rw [if_neg k3];exact ih _ hx h9
    ·rename_i k2
     rw [if_neg k2];exact ih _ hx h9
 have hR:=hR l (0,-1,[]) (Classical.byContradiction h0) (Classical.byContradiction h1)
 have hg:∀r,getO (log0 n i (rcoF n i l (0,-1,[])).2.2.2) r=(0,0):=fun r=>by
  rcases getO_cases (log0 n i (rcoF n i l (0,-1,[])).2.2.2) r with h|h|h|h|h <;> rw [h] <;> rfl
 refine⟨⟨⟨hL.1,hL.2.1,hL.2.2,⟨Int.le_refl _,by simp [log0]⟩,fun h9=>absurd rfl h9,⟨Int.le_refl _,Int.natCast_nonneg _⟩,fun h9=>absurd rfl h9,fun r=>by rw [hg];exact⟨Int.le_refl _,by simp,Int.le_refl _,by simp⟩⟩,⟨hR,⟨Int.le_refl _,by simp [ele0]⟩⟩,rfl,rfl,⟨Int.le_refl _,by simp⟩⟩,rfl,rfl,rfl⟩
theorem WorK.crsh{n B i:Nat}{W:WorS}(h:WorK n B W) : WorK n B (crshW W i).1:=by
 unfold crshW
 split
 ·exact h
 rename_i hc
 obtain⟨k1,k2,k3,k4⟩:=reco_ok (Classical.byContradiction hc)
 rw [h.ln] at k1 k2 k3 k4 ⊢
 refine⟨h.nn, ?_,h.lr,fun j s hj=>?_,h.bx,h.bl,h.rc⟩
 ·show(W.nodes.set i _).length=n
  rw [zY];exact h.ln
 ·have hj:(W.nodes.set i _)[j]?=some s:=hj
  rw [List.getElem?_set] at hj
  by_cases hij:i=j
  ·subst hij
   rw [if_pos rfl] at hj
   split at hj
   ·cases hj;exact⟨k1,k2,k3,by rw [k4];exact zZ _⟩
   ·cases hj
  ·rw [if_neg hij] at hj
   exact h.nd j s hj
structure PNode where
 p:Nat
 pe:Nat
 pl:Nat
 ve:Value
 vl:Value
 s:NodS
structure WX where
 vn:Value
 vr:Value
 vb:Value
 P:List Nat
 N:List PNode
 R:List (Value×List RecS)
 B:List MsgS
def WX.W(x:WX) : WorS:=⟨x.N.map PNode.s,x.R.map (·.2),x.B⟩
def nodeO(x:PNode) : Res:=bunR (nodR x.p x.pe x.pl x.ve x.vl x.s)
def recO(x:Value×List RecS) : Res:=arrR x.1 108 30 x.2 recC
def ptrC(p:Nat) : List AV:= [pm p]
def rlsC(x:Value×List RecS) : List AV:= [.ow x.1]
abbrev worR (pw:Nat) (x:WX):List Res:= [blkR pw 30 [.ow x.vn, .ow x.vr, .ow x.vb],arrR x.vn 31 1 x.P ptrC,arrR x.vr 33 1 x.R rlsC,arrR x.vb 76 18 x.B msgC,bunR (x.N.map nodeO),bunR (x.R.map recO)]
def kpO : Nat→Ord×(Nat→Cls):=fun id=>bif Nat.beq id 1 then(.one 0 (.one 1 (.one 2 (.one 4 (.one 5 (.one 6 (.one 7 (.one 8 (.one 9 (.one 10 (.one 11 (.one 12 (.one 13 (.alt 3 (.one 14 (.one 15 (.one 16 .done))) (.alt 14 (.one 3 (.one 15 (.one 16 .done))) (.none))))))))))))))),clOf [.pure, .pure, .pure, .ext, .pure, .pure, .pure, .pure, .read, .pure, .pure, .read, .pure, .read, .loud, .pure, .loud]) else bif Nat.beq id 2 then(.one 0 (.one 1 (.one 2 (.one 3 (.one 4 (.one 5 (.one 6 (.one 7 (.one 8 (.one 9 (.one 10 .done)))))))))),clOf [.pure, .pure, .pure, .pure, .read, .pure, .read, .loud, .pure, .pure, .loud]) else(.done,clOf [])
theorem keep_a(pw:Nat)(x:WX)(i:Nat)(o:OutS)(hi:i < x.R.length)(h1:∀r∈x.R,r.2.length≤40000000000)(h2:o.recs.length≤10000)(h3:x.B.length≤40000000000)(h4:o.msgs.length≤10000) : CallA Try.prog 9 [pm pw,it (i:Nat),outA o] (worR pw x) fun r own=>r= .tup []∧∃x',own=worR pw x'∧x'.W=keepW x.W i o∧x'.N=x.N∧x'.P=x.P:=by
 obtain⟨vn,vr,vb,P,N,R,B⟩:=x
 obtain⟨rc,ms⟩:=o
 simp only at hi h1 h2 h3 h4
 obtain⟨⟨v,L⟩,hr⟩:=get_of hi
 have hL:=h1 _ (zM hr)
 simp only at hL
 refine CallA.of pg kpO Try.func9 rfl Try.ntmps9 Try.results9 rfl fun h0 G0 O0=>?_
 (repeat'(first|(show CA _ _ (Code.region 1 _ _) _ _;apply Stopped.out)|apply Sp.h|refine Lk.r rfl ?_|refine Rf.mk rfl ?_|apply All.mk|intro _));any_goals apply Stopped.mk
 rename_i b5
 apply CA.bunTake (l:=R) (g:=recO) (i:=i) (x:=(v,L))
 focus(repeat constructor)
 focus exact hr
 unfold recO
 simp only
 refine CA.cut (fun v':Value=>⟨[(0,pm pw),(1,it (i:Nat)),(5,pm b5)],arrR v' 108 30 (L ++ rc) recC :: bunR ((R.eraseIdx i).map recO) :: blkR b5 36 [rcsA rc,msgs ms, .val (.slice none 0 0)] :: blkR pw 30 [.ow vn, .ow vr, .ow vb] :: arrR vn 31 1 P ptrC :: arrR vr 33 1 (R.set i (v',L ++ rc)) rlsC :: arrR vb 76 18 B msgC :: [bunR (N.map nodeO)]⟩) (fun _=>True) ?_ ?_
 ·repeat'(first|apply Sp.h|refine Lk.r rfl ?_|refine Rf.mk rfl ?_|refine OpK.r rfl ?_|refine xP ?_|apply All.mk|refine xU ?_|refine xT ?_|refine xI ?_|refine xJ ?_|refine Ce.r ?_|refine xV ?_|refine Rf.mk ⟨rfl,rfl⟩ ?_|refine Mp.same ?_|refine xD ?_|exact trivial|apply RA'.both|intro _)
  all_goals
   rename_i u
   refine Up.r (x:=(u,L ++ rc)) rfl ?_
   repeat'(first|apply Sp.h|fail)
   exact PA.lp u xE trivial
 rintro v' -
 (repeat'(first|(show CA _ _ (Code.region 2 _ _) _ _;apply Stopped.out)|apply Sp.h|fail));any_goals apply Stopped.mk
 apply CA.bunPut (l:=R) (g:=recO) (i:=i) (x:=(v',L ++ rc))
 focus(repeat constructor)
 focus(repeat constructor)
 focus exact hi
 repeat'(first|apply Sp.h|refine Lk.r rfl ?_|refine Rf.mk rfl ?_|refine OpK.r rfl ?_|refine xP ?_|apply All.mk|refine xU ?_|refine xT ?_|refine Ce.r ?_|refine xV ?_|refine xN ?_|refine Rf.mk ⟨rfl,rfl⟩ ?_|refine Mp.same ?_|refine xD ?_|intro _)
 all_goals
  rename_i w
  refine⟨_,_, .tup (.z),rfl,⟨vn,vr,w,P,N,R.set i (v',L ++ rc),B ++ ms⟩,rfl, ?_,rfl,rfl⟩
  unfold WX.W keepW WorS.rcs
  simp only
  rw [getD_of (show(R.map (·.2))[i]?=some L by rw [zG,hr];rfl),List.map_set]
end Go.Proofs.Ythlpimbhonihhaa
namespace Go.CF
open Go
theorem map_at{α:Type}{l:List α}{i:Nat}{x:α}{g:α→Res}(hx:l[i]?=some x) : l.map g=(l.take i).map g ++ g x :: (l.drop (i+1)).map g:=by
 obtain⟨hi,rfl⟩:=zS.1 hx
 have:l=l.take i ++ l[i] :: l.drop (i+1):=by rw [List.getElem_cons_drop,List.take_append_drop]
 conv=>lhs;rw [this]
 rw [List.map_append,List.map_cons]
theorem set_map{α:Type}{l:List α}{i:Nat}{y:α}{g:α→Res}(hi:i < l.length) : (l.set i y).map g=(l.take i).map g ++ g y :: (l.drop (i+1)).map g:=by
 rw [List.set_eq_take_append_cons_drop,if_pos hi,List.map_append,List.map_cons]
theorem OwnL.len'{h:Heap}{G:Nat→Prop} :∀{rs:List Res} {os:List (Nat→Prop)},OwnL h G rs os→os.length=rs.length
 | [],[],_=>rfl
 | _ :: _,_ :: _,⟨_,h2⟩=>by rw [List.length_cons,List.length_cons,OwnL.len' h2]
 | [],_ :: _,h=>h.elim
 | _ :: _,[],h=>h.elim
theorem CallA.bunAt{P:Program}{f:FuncId}{asx:List AV}{α:Type}{l:List α}{g:α→Res}{i:Nat}{x:α}{rest:List Res}{K K':AV→List Res→Prop}(hx:l[i]?=some x)(hc:CallA P f asx (g x :: rest) K)(hK:∀r o,K r o→∃y rest',o=g y :: rest'∧K' r (bunR ((l.set i y).map g) :: rest')) : CallA P f asx (bunR (l.map g) :: rest) K':=by
 have hi:=(zS.1 hx).1
 refine⟨fun h G Os vs h1 h2=>?_⟩
 match Os,h2 with
 | O :: Os,h2 =>
  obtain⟨Os1,g1,g2⟩:=HpOK.unbun h2
  have hrest:=h2.own.2
  rw [map_at hx] at g1 g2
  obtain⟨A,C,rfl,a1,a2⟩:=OwnL.split g1
  match C,a2 with
  | X :: B,⟨b1,b2⟩ =>
   have hp:(A ++ X :: B ++ Os).Perm ((X :: Os) ++ (A ++ B)):=by
    rw [List.append_assoc,List.cons_append,List.cons_append]
    refine(List.perm_middle).trans (List.Perm.cons X ?_)
    rw [←List.append_assoc]
    exact List.perm_append_comm
   have c3:HpOK h G (U (O :: Os)) ((g x :: rest) ++ ((l.take i).map g ++ (l.drop (i+1)).map g)) h G ((X :: Os) ++ (A ++ B)):=g2.perm (OwnL.app (show OwnL h G (g x :: rest) (X :: Os) from⟨b1,hrest⟩) (a1.app b2)) hp
   refine(hc.run h G (X :: Os) vs h1 (c3.inner ⟨b1,hrest⟩)).mono fun v h' ⟨r,own',G',Os',q1,q2,q3⟩=>?_
   obtain⟨k1,k2,k3⟩:=c3.call (r2:=(l.take i).map g ++ (l.drop (i+1)).map g) (o2:=A ++ B) (a1.app b2) q3
   obtain⟨y,rest',rfl,hk'⟩:=hK r own' q1
   match Os',k1 with
   | Y :: Os',k1 =>
    obtain⟨w1,w2⟩:OwnL h' G' (g y :: rest') (Y :: Os')∧OwnL h' G' ((l.take i).map g ++ (l.drop (i+1)).map g) (A ++ B):=⟨q3.own,by
     obtain⟨o1,o2,e1,e2,e3⟩:=OwnL.split (r1:=g y :: rest') k1.own
     have hlen:o1.length=(g y :: rest').length:=(OwnL.len' e2)
     have hlen2:(Y :: Os').length=(g y :: rest').length:=(OwnL.len' q3.own)
     have:=List.append_inj e1 (by rw [hlen2,hlen])
     rw [this.2];exact e3⟩
    have hA:OwnL h' G' ((l.take i).map g) A∧OwnL h' G' ((l.drop (i+1)).map g) B:=by
     obtain⟨o1,o2,e1,e2,e3⟩:=OwnL.split w2
     have hlen:o1.length=A.length:=(OwnL.len' e2).trans (OwnL.len' a1).symm
     have:=List.append_inj e1 hlen.symm
     rw [this.1,this.2];exact⟨e2,e3⟩
    have hp2:((Y :: Os') ++ (A ++ B)).Perm ((A ++ Y :: B) ++ Os'):=by
     rw [List.append_assoc,List.cons_append,List.cons_append]
     refine List.Perm.symm ((List.perm_middle).trans (List.Perm.cons Y ?_))
     rw [←List.append_assoc]
     exact List.perm_append_comm
    have o1:OwnL h' G' ((l.set i y).map g) (A ++ Y :: B):=by
     rw [set_map hi]
     exact hA.1.app (show OwnL h' G' (g y :: (l.drop (i+1)).map g) (Y :: B) from⟨w1.1,hA.2⟩)
    have k4:HpOK h G (U (O :: Os)) ((l.set i y).map g ++ rest') h' G' ((A ++ Y :: B) ++ Os'):=k1.perm (o1.app w1.2) hp2
    exact⟨r,_,G',_,hk',q2,k4.bun o1 w1.2⟩
   | [],k1=>exact q3.own.elim
  | [],a2=>exact a2.elim
 | [],h2=>exact h2.own.elim
section
variable {Γ:Cx} {k:List KI} {e:EA} {o:List Res}
theorem CA.unb{y:Code}{rs rest:List Res}(tk:Take o (bunR rs) rest)(h:CA Γ k y e (rs ++ rest)) : CA Γ k y e o:=by
 refine⟨fun env hh G Os cn=>?_⟩
 obtain⟨O,Os',cn2⟩:=cn.take tk
 obtain⟨Os1,g1,g2⟩:=cn2.hp.unbun
 exact h.h env hh G _ ⟨g2,cn.env,cn.nf⟩
theorem CA.reb{y:Code}{rs rest:List Res}(tk:Takes o rs rest)(h:CA Γ k y e (bunR rs :: rest)) : CA Γ k y e o:=by
 refine⟨fun env hh G Os cn=>?_⟩
 obtain⟨o1,o2,g1,g2,g3⟩:=tk.own cn.hp.own
 have c2:=cn.hp.perm (g1.app g2) g3
 exact h.h env hh G _ ⟨c2.bun g1 g2,cn.env,cn.nf⟩
end
def AV.any : AV:=⟨fun _ _ _=>True,fun _ h=>h,fun _ h=>h⟩
theorem SA.sliceAny{Γ:Cx}{e:EA}{o:List Res}{N:NA}{c:Cls}{d:Tmp}{ty:TypeId}{x lo hi mx:Operand}{t:TypeId}{v:Value}{α:Type}{T sz:Nat}{l:List α}{f:α→List AV}{rest:List Res}{p:Nat×TI}{k1 k2 k3:IntKind}{i1 i2 i3:Int}{a b b':Nat}
  (hx:evA e x=some (.ow v)) (tk:Take o (arrR v T sz l f) rest) (hp:slE Γ.tt t=some p) (hl:evA e lo=some (.val (.int k1 i1))) (hh:evA e hi=some (.val (.int k2 i2))) (hm:evA e mx=some (.val (.int k3 i3)))
  (e1:i1=(a:Int)) (e2:i2=(b:Int)) (e3:i3=(b':Int)) (h1:a≤b) (h2:b≤b') (h3:b'≤l.length) (hn:N ((d,AV.any) :: e) o):SA Γ c (some d) (.slice t x (some lo) (some hi) (some mx)) ty e o N:=⟨fun env hh0 G Os cn=>by
 obtain⟨w,g1,rfl,q,len,cap,rfl⟩:=cn.get hx
 obtain⟨O,Os',cn2⟩:=cn.take tk
 obtain⟨⟨_,rows,hw,_⟩,_⟩:=cn2.hp.own
 have hlc:len=l.length∧l.length≤cap:=by
  rcases hw.ok with⟨e1,e2⟩|⟨b',of,cap',L,e1,_,_,e2,_⟩
  ·cases e1;omega
  ·cases e1;exact⟨rfl,e2⟩
 obtain⟨rfl,hlc⟩:=hlc
 obtain⟨ti,t1,t2,t3⟩:=slE_spec hp
 obtain⟨u1,q1,q2⟩:=cn.get hl
 have q2:u1=_:=q2
 subst q2
 obtain⟨u2,q3,q4⟩:=cn.get hh
 have q4:u2=_:=q4
 subst q4
 obtain⟨u3,q5,q6⟩:=cn.get hm
 have q6:u3=_:=q6
 subst q6
 exact St.sliceLHM Γ.ok t1 t2 t3 g1 q1 q3 q5 e1 e2 e3 h1 h2 (by omega) (CN.mk (cn.put d (a:=AV.any) trivial) hn)⟩
def AV.og(v:Value)(sz j m:Nat) : AV:=⟨fun _ _ u=>∃p len cap,v= .slice p len cap∧j+m≤cap∧u= .slice (subA p sz j cap) m (cap - j),fun _ h=>h,fun _ h=>h⟩
theorem SA.sliceRoom{Γ:Cx}{e:EA}{o:List Res}{N:NA}{c:Cls}{d:Tmp}{ty:TypeId}{x lo hi:Operand}{t:TypeId}{v:Value}{p:Nat×TI}{k1 k2:IntKind}{i1 i2:Int}{a b:Nat}
  (hx:evA e x=some (.ow v)) (hp:slE Γ.tt t=some p) (hl:evA e lo=some (.val (.int k1 i1))) (hh:evA e hi=some (.val (.int k2 i2)))
  (e1:i1=(a:Int)) (e2:i2=(b:Int)) (h1:a≤b) (h2:b≤capV v) (hn:N ((d, .og v p.2.size a (b - a)) :: e) o):SA Γ c (some d) (.slice t x (some lo) (some hi) none) ty e o N:=⟨fun env hh0 G Os cn=>by
 obtain⟨w,g1,rfl,q,len,cap,rfl⟩:=cn.get hx
 obtain⟨ti,t1,t2,t3⟩:=slE_spec hp
 obtain⟨u1,q1,q2⟩:=cn.get hl
 have q2:u1=_:=q2
 subst q2
 obtain⟨u2,q3,q4⟩:=cn.get hh
 have q4:u2=_:=q4
 subst q4
 have h2:b≤cap:=h2
 exact St.sliceLH Γ.ok t1 t2 t3 g1 q1 q3 e1 e2 h1 h2 (CN.mk (cn.put d (a:= .og _ p.2.size a (b - a)) ⟨q,len,cap,rfl,by omega,rfl⟩) hn)⟩
theorem SA.clearRoom{Γ:Cx}{e:EA}{o:List Res}{N:NA}{c:Cls}{ty:TypeId}{x:Operand}{t:TypeId}{v:Value}{α:Type}{T sz j m:Nat}{l:List α}{f:α→List AV}{rest:List Res}{p:Nat×TI}
  (hx:evA e x=some (.og v p.2.size j (m+1))) (tk:Take o (arrR v T sz l f) rest) (hp:slE Γ.tt t=some p) (hT:T=p.1) (hz:sz=p.2.size) (hz1:p.2.zero.cells.toList.all Value.oneCell'=true) (hz2:p.2.zero.cells.size=p.2.size) (hj:l.length≤j) (hc:isLoud c=true) (hn:N e (arrR v T sz l f :: rest)) :
  SA Γ c none (.call { callee:= .builtin .clear,args:=#[x],argTypes:=#[t] }) ty e o N:=⟨fun env hh G Os cn=>by
 subst hT;subst hz
 obtain⟨w,g1,p0,len,cap,rfl,hjm,rfl⟩:=cn.get hx
 obtain⟨ti,t1,t2,t3⟩:=slE_spec hp
 obtain⟨O,Os',cn2⟩:=cn.take tk
 obtain⟨⟨ho,rows,hw,hr⟩,hrest⟩:=cn2.hp.own
 rcases hw.ok with⟨e1,e2⟩|⟨b,of,cap',L,e1,hbk,h1,h2,h3⟩
 ·cases e1;omega
 ·cases e1
  have hjs:j * p.2.size+(m+1) * p.2.size≤cap * p.2.size:=by rw [←Nat.add_mul];exact zU _ hjm
  have hsub:subA (some ⟨b,of,none⟩) p.2.size j cap=some ⟨b,of+j * p.2.size,none⟩:=by unfold subA;rw [if_neg (by omega)];simp [addr_add]
  rw [hsub] at g1
  refine St.clearS Γ.ok t1 t2 t3 (fun u hu=>List.all_eq_true.1 hz1 u hu) hz2 g1 hbk (by omega) hc fun h' l' hu hsz hl' hsame=>?_
  have hob:O b:=(ho b).2 (by simp [blkOf])
  have hlj:l.length * p.2.size≤j * p.2.size:=zU _ hj
  have c3:=con_seg (R':=arrR (.slice (some ⟨b,of,none⟩) l.length cap) p.1 p.2.size l f) cn2 hu hob (fun hg=>⟨ho,rows,⟨hw.len_vs, .inr ⟨b,of,cap,l',rfl,hu.blk,by omega,h2,by
   rw [←h3]
   apply List.ext_getElem?
   intro r
   simp only [List.getElem?_take,List.getElem?_drop]
   split
   ·exact hsame _ (by omega)
   ·rfl⟩⟩,hr.stp hg⟩)
  exact CN.mk c3 hn⟩
theorem SA.appendSelf{Γ:Cx}{e:EA}{o:List Res}{N:NA}{c:Cls}{d:Tmp}{ty:TypeId}{x y:Operand}{t:TypeId}{v:Value}{α:Type}{T sz s i j m:Nat}{l:List α}{f:α→List AV}{rest:List Res}{p:Nat×TI}
  (hx:evA e x=some (.os v s 0 i)) (hy:evA e y=some (.os v s j m)) (tk:Take o (arrR v T sz l f) rest) (hp:slE Γ.tt t=some p) (hT:T=p.1) (hz:sz=p.2.size) (hs:s=p.2.size) (hz1:p.2.zero.cells.size=p.2.size) (hB:Nat.ble p.2.bytes 1000=true) (hil:i≤l.length) (hjm:j+m≤l.length) (him:i+m≤l.length) (hl:l.length≤100000000000) (hi0:0 < l.length) (hc:isLoud c=true)
  (hn:∀v',l.length≤capV v'→N ((d, .ow v') :: e) (arrR v' T sz (l.take i ++ (l.drop j).take m) f :: rest)) :
  SA Γ c (some d) (.call { callee:= .builtin .append,args:=#[x,y],argTypes:=#[t,t] }) ty e o N:=⟨fun env hh G Os cn=>by
 subst hT;subst hz;subst hs
 obtain⟨w1,g1,q1,l1,c1,hv1,_,hw1⟩:=cn.get hx
 obtain⟨w2,g2,q2,l2,c2,hv2,_,hw2⟩:=cn.get hy
 subst hv1
 cases hv2
 obtain⟨ti,t1,t2,t3⟩:=slE_spec hp
 obtain⟨O,Os',cn2⟩:=cn.take tk
 obtain⟨⟨ho,rows,hw,hr⟩,hrest⟩:=cn2.hp.own
 rcases hw.ok with⟨e1,e2⟩|⟨b,of,cap',L,e1,hbk,k1,k2,k3⟩
 ·omega
 ·cases e1
  have hB2:=zB hB
  have hsz:=hr.sz
  have hml:((l.drop j).take m).length=m:=by rw [zN,List.length_drop];omega
  have hil2:(l.take i).length=i:=by rw [zN];omega
  have hrd:Rows hh G p.2.size ((rows.drop j).take m) ((l.drop j).take m) f:=(hr.drop j).take m
  have hrt:Rows hh G p.2.size (rows.take i) (l.take i) f:=hr.take i
  have e3:(rows.take i).flatten.length=i * p.2.size:=by rw [hrt.flen,hil2]
  -- what is appended to
  have hown:Own hh w1 p.1 p.2.size (l.take i).length (rows.take i).flatten:=by
   rw [hw1,show subA (some ⟨b,of,none⟩) p.2.size 0 c1=some ⟨b,of,none⟩ by unfold subA;split;rfl;simp [Addr.add]]
   refine⟨by rw [hil2];exact e3, .inr ⟨b,of,c1,L,by rw [hil2,Nat.sub_zero],hbk,k1,by rw [hil2];omega, ?_⟩⟩
   have e2:rows.flatten=(rows.take i).flatten ++ (rows.drop i).flatten:=by rw [←List.flatten_append,List.take_append_drop]
   have hmul:i * p.2.size≤l.length * p.2.size:=zU _ hil
   rw [hil2,←Nat.min_eq_left hmul,←List.take_take,k3,e2,←e3,List.take_left]
  -- what is appended
  have hsl:Sl hh w2 m ((rows.drop j).take m).flatten:=by
   rw [hw2]
   rcases Nat.eq_zero_or_pos m with rfl|hm
   ·exact⟨.inl ⟨_,_,rfl,rfl,by simp⟩⟩
   ·have hjc:¬c1=j:=by omega
    refine⟨.inr ⟨b,of+j * p.2.size,c1 - j, ?_,hm,by omega,hbk.lt, ?_⟩⟩
    ·unfold subA
     rw [if_neg hjc];simp [Addr.add]
    ·have e1:(rows.drop j).flatten=rows.flatten.drop (j * p.2.size):=by
      have e2:rows.flatten=(rows.take j).flatten ++ (rows.drop j).flatten:=by rw [←List.flatten_append,List.take_append_drop]
      have e4:(rows.take j).flatten.length=j * p.2.size:=by rw [flat_len _ (fun r hr=>hsz r (zW hr)),zN,hr.len];congr 1 <;> omega
      rw [e2,←e4,List.drop_left]
     have e4:((rows.drop j).take m).flatten=(rows.flatten.drop (j * p.2.size)).take (m * p.2.size):=by
      have e2:(rows.drop j).flatten=((rows.drop j).take m).flatten ++ ((rows.drop j).drop m).flatten:=by rw [←List.flatten_append,List.take_append_drop]
      have e5:((rows.drop j).take m).flatten.length=m * p.2.size:=by rw [hrd.flen,hml]
      rw [←e1,e2,←e5,List.take_left]
     have hc9:Cels hh ⟨b,of,none⟩ rows.flatten:=by rw [←k3];exact hbk.cels of _
     rw [e4]
     refine⟨fun q v hv=>?_⟩
     rw [List.getElem?_take] at hv
     split at hv
     ·rw [List.getElem?_drop] at hv
      have:=hc9.cell hv
      rw [addr_add,show of+j * p.2.size+q=of+(j * p.2.size+q) by omega]
      exact this
     ·cases hv
  refine St.append Γ.ok t1 t2 t3 hz1 g1 g2 hown (m:=m) (news:=((rows.drop j).take m).flatten) hsl (by rw [hrd.flen,hml]) hrd.one (Nat.le_trans (Nat.mul_le_mul (by rw [hil2];omega:(l.take i).length+m≤100000000000) hB2) (by decide)) (by rw [hil2];omega) hc fun v' h' happ=>?_
  have hroom:=happ.room ⟨b,of,none⟩ (l.take i).length c1 (by rw [hw1,hil2,show subA (some ⟨b,of,none⟩) p.2.size 0 c1=some ⟨b,of,none⟩ by unfold subA;split;rfl;simp [Addr.add]];rw [Nat.sub_zero]) (by rw [hil2];omega)
  have hblk:blkOf w1= [b]:=by rw [hw1,show subA (some ⟨b,of,none⟩) p.2.size 0 c1=some ⟨b,of,none⟩ by unfold subA;split;rfl;simp [Addr.add]];rfl
  have hOb:∀y,O y↔y∈blkOf w1:=fun y=>by rw [hblk];exact(ho y).trans (by simp [blkOf])
  have hst:=happ.stp
  have hx:FPx (fun y=>¬O y) hh h':=⟨hst.size,fun y hy hl=>hst.same y hl (fun hm=>hy ((hOb y).2 hm))⟩
  have hg:FPx G hh h':=hx.mono fun y hy hoy=>(cn2.hp.o O (by simp) y hoy).2.2 hy
  have hO:∀b,b∈blkOf v'→b < h'.size∧(O b∨hh.size≤b):=fun b hb=>⟨happ.own.lt b hb,by
   rcases happ.blk with h9|h9
   ·rw [h9] at hb;exact .inl ((hOb b).2 hb)
   ·exact .inr (h9 b hb)⟩
  have hrows:Rows h' G p.2.size (rows.take i ++ (rows.drop j).take m) (l.take i ++ (l.drop j).take m) f:=(hrt.app hrd).stp hg
  obtain⟨q,cap,hsh⟩:=happ.own.sl.shape
  refine CN.mk ((cn2.upd (R':=arrR v' p.1 p.2.size (l.take i ++ (l.drop j).take m) f) (O':=fun b=>b∈blkOf v') hx hO ⟨fun _=>Iff.rfl,rows.take i ++ (rows.drop j).take m, ?_,hrows⟩).put d (a:= .ow v') ⟨rfl,q,_,cap,hsh⟩) (hn v' (by rw [hroom];show l.length≤c1;exact k2))
  rw [zP,hml,List.flatten_append]
  exact happ.own⟩
section
variable {Γ:Cx} {k:List KI} {e:EA} {o:List Res} {N:NA} {c:Cls} {d:Tmp} {ty:TypeId} {x y z:Operand} {t u:TypeId}
def itcR(P:Program){β:Type}(b r:Nat)(kt:TypeId)(kvs rem:List (List Int×β))(f:β→AV)(cur:Option (List Int×β)) : Res :=
  ⟨fun h O G=>(∀x,O x↔x=b∨x=r)∧r≠b∧∃es clock seen c0,h[b]?=some (.map es clock)∧KeysOK P kt es.toList (kvs.map (·.1))∧(∀(i:Nat) (e:MapEntry) (p:List Int×β),es.toList[i]?=some e→kvs[i]?=some p→(f p.2).R h G e.val)∧Stmp es.toList clock∧
      h[r]?=some (.mapIter (some b) clock seen c0)∧clock≤c0∧(((es.toList.zip kvs).filter fun p=> !seen.contains p.1.born).map (·.2)).Perm rem∧(∀p,cur=some p→∃(i:Nat) (en:MapEntry) (s0:Array Nat),es.toList[i]?=some en∧kvs[i]?=some p∧seen=s0.push en.born∧c0=clock),
   by rintro h h' O G x ⟨ho,hne,es,cl,seen,c0,h1,h2,h3,h4,h5,h6⟩;exact⟨ho,hne,es,cl,seen,c0,(x.same b (.inl ((ho b).2 (.inl rfl))) (zA.1 h1).1).trans h1,h2,fun i e p g1 g2=>(f p.2).stp (x.mono fun _=> .inr) (h3 i e p g1 g2),h4,(x.same r (.inl ((ho r).2 (.inr rfl))) (zA.1 h5).1).trans h5,h6⟩,
   by rintro h O G G' x ⟨ho,hne,es,cl,seen,c0,h1,h2,h3,h4,h5,h6⟩;exact⟨ho,hne,es,cl,seen,c0,h1,h2,fun i e p g1 g2=>(f p.2).mono x (h3 i e p g1 g2),h4,h5,h6⟩,
   by
    rintro h O G ⟨ho,hne,es,cl,seen,c0,h1,h2,h3,h4,h5,h6⟩ y hy
    rcases(ho y).1 hy with rfl|rfl
    · exact NC.of h1 rfl
    · exact NC.of h5 rfl⟩
structure TkJ (P:Program) (o:List Res) (r:Nat) (k:∀{β:Type},Nat→TypeId→List (List Int×β)→List (List Int×β)→(β→AV)→Option (List Int×β)→List Res→Prop):Prop where
 ok:∃(β:Type) (b:Nat) (kt:TypeId) (kvs rem:List (List Int×β)) (f:β→AV) (cur:Option (List Int×β)) (rest:List Res),Take o (itcR P b r kt kvs rem f cur) rest∧k b kt kvs rem f cur rest
theorem TkJ.r{β:Type}{P:Program}{o rest:List Res}{b r:Nat}{k:∀{β:Type},Nat→TypeId→List (List Int×β)→List (List Int×β)→(β→AV)→Option (List Int×β)→List Res→Prop}{kt:TypeId}{kvs rem:List (List Int×β)}{f:β→AV}{cur:Option (List Int×β)}(h:Take o (itcR P b r kt kvs rem f cur) rest)(hk:k b kt kvs rem f cur rest) : TkJ P o r k:=⟨β,b,kt,kvs,rem,f,cur,rest,h,hk⟩
structure TkE (P:Program) (o:List Res) (r:Nat) (k:∀{β:Type},(β→AV)→(List Int×β)→Prop):Prop where
 ok:∃(β:Type) (b:Nat) (kt:TypeId) (kvs rem:List (List Int×β)) (f:β→AV) (p:List Int×β) (rest:List Res),Take o (itcR P b r kt kvs rem f (some p)) rest∧k f p
theorem TkE.r{β:Type}{P:Program}{o rest:List Res}{b r:Nat}{k:∀{β:Type},(β→AV)→(List Int×β)→Prop}{kt:TypeId}{kvs rem:List (List Int×β)}{f:β→AV}{p:List Int×β}(h:Take o (itcR P b r kt kvs rem f (some p)) rest)(hk:k f p) : TkE P o r k:=⟨β,b,kt,kvs,rem,f,p,rest,h,hk⟩
end
end Go.CF
namespace Go.Proofs.Ythlpimbhonihhaa
open Go Go.CF
theorem node_w{f:FuncId}{aas:List AV}{N:List PNode}{i:Nat}{x:PNode}{s':NodS}{Φ:AV→Prop}(hx:N[i]?=some x)(hc:CallA Try.prog f aas (nodR x.p x.pe x.pl x.ve x.vl x.s) fun r own=>∃ve' vl',Φ r∧own=nodR x.p x.pe x.pl ve' vl' s') : CallA Try.prog f aas [bunR (N.map nodeO)] fun r own=>∃x',x'.s=s'∧x'.p=x.p∧Φ r∧own= [bunR ((N.set i x').map nodeO)]:=by
 refine CallA.bunAt (rest:= []) (g:=nodeO) hx (CallA.bunIn (rest:= []) (rs:=nodR x.p x.pe x.pl x.ve x.vl x.s) (K':=fun r own=>∃x',x'.s=s'∧x'.p=x.p∧Φ r∧own= [nodeO x']) hc ?_) ?_
 ·rintro r _ ⟨ve',vl',h1,rfl⟩
  exact⟨nodR x.p x.pe x.pl ve' vl' s',[],(List.append_nil _).symm,⟨x.p,x.pe,x.pl,ve',vl',s'⟩,rfl,rfl,h1,rfl⟩
 ·rintro r _ ⟨x',h1,h2,h3,rfl⟩
  exact⟨x',[],rfl,x',h1,h2,h3,rfl⟩
def dlO : Nat→Ord×(Nat→Cls):=fun id=>bif Nat.beq id 5 then(.one 0 (.one 1 (.one 2 (.one 3 (.one 4 (.one 5 (.one 6 (.one 7 .done))))))),clOf [.pure, .pure, .pure, .pure, .pure, .pure, .loud, .pure]) else(.done,clOf [])
theorem delM_a(v:Value)(l:List MsgS)(k:Nat)(hk:k < l.length)(hl:l.length≤40000000000) : CallA Try.prog 50 [.ow v,it (k:Nat),it ((k+1:Nat):Int)] [arrR v 76 18 l msgC] fun r own=>∃w,r= .ow w∧own= [arrR w 76 18 (l.eraseIdx k) msgC]:=by
 have he:l.take k ++ (l.drop (k+1)).take (l.length - (k+1))=l.eraseIdx k:=by
  rw [List.eraseIdx_eq_take_drop_succ,List.take_of_length_le (l:=l.drop (k+1)) (by rw [List.length_drop];exact Nat.le_refl _)]
 have hel:(l.eraseIdx k).length=l.length - 1:=by rw [List.length_eraseIdx,if_pos hk]
 refine CallA.of pg dlO Try.func50 rfl Try.ntmps50 Try.results50 rfl fun h0 G0 O0=>?_
 repeat'(first|(show SA _ _ _ (Op.slice _ _ _ _ (some _)) _ _ _ _;apply Stopped.out)|apply Sp.h|refine Lk.r rfl ?_|refine Rf.mk rfl ?_|refine xU ?_|fail)
 any_goals apply Stopped.mk
 refine SA.sliceAny rfl (by repeat constructor) rfl rfl rfl rfl rfl rfl rfl (Nat.le_succ k) (by omega) (Nat.le_refl _) ?_
 repeat'(first|(show SA _ _ _ (Op.call ⟨Callee.builtin Builtin.append,_,_⟩) _ _ _ _;apply Stopped.out)|apply Sp.h|refine Lk.r rfl ?_|refine Rf.mk rfl ?_|refine xB ?_|refine OpK.r rfl ?_|refine xU ?_|(apply Jx.r;(focus exact rfl);(focus first|omega|(simp;done)|(simp;omega)))|refine xD ?_|fail)
 any_goals apply Stopped.mk
 refine SA.appendSelf rfl rfl (by repeat constructor) rfl rfl rfl rfl rfl rfl (by omega) (by omega) (by omega) (by omega) (by omega) rfl fun v' hcap=>?_
 rw [Nat.sub_zero,he]
 repeat'(first|(show SA _ _ _ (Op.slice _ _ (some _) (some _) none) _ _ _ _;apply Stopped.out)|apply Sp.h|refine Lk.r rfl ?_|refine Rf.mk rfl ?_|refine OpK.r rfl ?_|refine xU ?_|fail)
 any_goals apply Stopped.mk
 refine SA.sliceRoom rfl rfl rfl rfl rfl rfl (by omega) hcap ?_
 rw [show l.length - (l.eraseIdx k).length=0+1 by omega]
 repeat'(first|(show SA _ _ _ (Op.call ⟨Callee.builtin Builtin.clear,_,_⟩) _ _ _ _;apply Stopped.out)|apply Sp.h|fail)
 any_goals apply Stopped.mk
 refine SA.clearRoom rfl (by repeat constructor) rfl rfl rfl rfl rfl (Nat.le_refl _) rfl ?_
 repeat'(first|apply Sp.h|refine Lk.r rfl ?_|refine Rf.mk rfl ?_|refine xN ?_|fail)
 all_goals exact⟨_,_, .one (.same (.z)),_,rfl,rfl⟩
theorem delI_a(v:Value)(l:List Int)(k:Nat)(hk:k < l.length)(hl:l.length≤40000000000) : CallA Try.prog 15 [.ow v,it (k:Nat),it ((k+1:Nat):Int)] [arrR v 3 1 l intC] fun r own=>∃w,r= .ow w∧own= [arrR w 3 1 (l.eraseIdx k) intC]:=by
 have he:l.take k ++ (l.drop (k+1)).take (l.length - (k+1))=l.eraseIdx k:=by
  rw [List.eraseIdx_eq_take_drop_succ,List.take_of_length_le (l:=l.drop (k+1)) (by rw [List.length_drop];exact Nat.le_refl _)]
 have hel:(l.eraseIdx k).length=l.length - 1:=by rw [List.length_eraseIdx,if_pos hk]
 refine CallA.of pg dlO Try.func15 rfl Try.ntmps15 Try.results15 rfl fun h0 G0 O0=>?_
 repeat'(first|(show SA _ _ _ (Op.slice _ _ _ _ (some _)) _ _ _ _;apply Stopped.out)|apply Sp.h|refine Lk.r rfl ?_|refine Rf.mk rfl ?_|refine xU ?_|fail)
 any_goals apply Stopped.mk
 refine SA.sliceAny rfl (by repeat constructor) rfl rfl rfl rfl rfl rfl rfl (Nat.le_succ k) (by omega) (Nat.le_refl _) ?_
 repeat'(first|(show SA _ _ _ (Op.call ⟨Callee.builtin Builtin.append,_,_⟩) _ _ _ _;apply Stopped.out)|apply Sp.h|refine Lk.r rfl ?_|refine Rf.mk rfl ?_|refine xB ?_|refine OpK.r rfl ?_|refine xU ?_|(apply Jx.r;(focus exact rfl);(focus first|omega|(simp;done)|(simp;omega)))|refine xD ?_|fail)
 any_goals apply Stopped.mk
 refine SA.appendSelf rfl rfl (by repeat constructor) rfl rfl rfl rfl rfl rfl (by omega) (by omega) (by omega) (by omega) (by omega) rfl fun v' hcap=>?_
 rw [Nat.sub_zero,he]
 repeat'(first|(show SA _ _ _ (Op.slice _ _ (some _) (some _) none) _ _ _ _;apply Stopped.out)|apply Sp.h|refine Lk.r rfl ?_|refine Rf.mk rfl ?_|refine OpK.r rfl ?_|refine xU ?_|fail)
 any_goals apply Stopped.mk
 refine SA.sliceRoom rfl rfl rfl rfl rfl rfl (by omega) hcap ?_
 rw [show l.length - (l.eraseIdx k).length=0+1 by omega]
 repeat'(first|(show SA _ _ _ (Op.call ⟨Callee.builtin Builtin.clear,_,_⟩) _ _ _ _;apply Stopped.out)|apply Sp.h|fail)
 any_goals apply Stopped.mk
 refine SA.clearRoom rfl (by repeat constructor) rfl rfl rfl rfl rfl (Nat.le_refl _) rfl ?_
 repeat'(first|apply Sp.h|refine Lk.r rfl ?_|refine Rf.mk rfl ?_|refine xN ?_|fail)
 all_goals exact⟨_,_, .one (.same (.z)),_,rfl,rfl⟩
def PtrOK(x:WX) : Prop:=x.P=x.N.map PNode.p
theorem ptr_set{P:List Nat}{N:List PNode}{j:Nat}{y y':PNode}(h:P=N.map PNode.p)(hy:N[j]?=some y)(hp:y'.p=y.p) : P=(N.set j y').map PNode.p:=by
 rw [List.map_set,hp,h]
 refine(set_at ?_).symm
 rw [zG,hy];rfl
theorem set_W{N:List PNode}{j:Nat}{y':PNode} : (N.set j y').map PNode.s=(N.map PNode.s).set j y'.s:=List.map_set
def dvO : Nat→Ord×(Nat→Cls):=fun id=>bif Nat.beq id 4 then(.one 0 (.one 1 (.one 2 (.one 3 (.one 4 (.one 5 (.one 6 (.one 7 (.one 8 (.one 9 (.one 10 (.one 11 (.one 12 .done)))))))))))),clOf [.pure, .read, .pure, .pure, .pure, .read, .pure, .pure, .pure, .read, .pure, .pure, .pure]) else bif Nat.beq id 6 then(.one 0 (.one 1 (.one 3 (.one 4 (.one 5 (.one 6 (.one 7 (.one 8 (.one 9 (.one 10 (.one 11 (.alt 2 (.one 12 (.one 13 .done)) (.alt 12 (.one 2 (.one 13 .done)) (.none))))))))))))),clOf [.pure, .pure, .ext, .pure, .pure, .pure, .read, .pure, .read, .pure, .read, .read, .loud, .loud]) else(.done,clOf [])
theorem WorK.node{n B:Nat}{x:WX}(h:WorK n B x.W)(hp:PtrOK x){i:Nat}(hi:i < n) :∃y,x.N[i]?=some y∧x.P[i]?=some y.p∧y.s=x.W.nod i∧NodK y.s∧y.s.g.n=n∧y.s.g.i=i∧y.s.e.votes.length≤B:=by
 have hl:x.N.length=n:=by have:=h.ln;unfold WX.W at this;simpa using this
 obtain⟨y,hy⟩:=get_of (l:=x.N) (i:=i) (by omega)
 have h1:x.W.nodes[i]?=some y.s:=by show(x.N.map PNode.s)[i]?=_;rw [zG,hy];rfl
 refine⟨y,hy,by rw [hp,zG,hy];rfl,(nod_at h1).symm,h.nd i y.s h1⟩
theorem WorK.rlen{n B:Nat}{x:WX}(h:WorK n B x.W) : x.R.length=n∧x.N.length=n∧(∀r∈x.R,r.2.length≤1100 * B∧RecV r.2)∧x.B.length≤20 * B:=by
 have h1:=h.lr
 have h2:=h.ln
 have h3:=h.bl
 unfold WX.W at h1 h2 h3
 refine⟨by simpa using h1,by simpa using h2,fun r hr=>?_,h3⟩
 obtain⟨i,hi⟩:=zO hr
 exact h.rc i r.2 (by show(x.R.map (·.2))[i]?=_;rw [zG,hi];rfl)
theorem deliver_a(pw:Nat)(x:WX)(n B k:Nat)(keep:Bool)(hw:WorK n B x.W)(hB:B≤10000000)(hp:PtrOK x)(hk:k < x.B.length) : CallA Try.prog 27 [pm pw,it (k:Nat),bl keep] (worR pw x) fun r own=>r=bl true∧∃x',own=worR pw x'∧x'.W=(delvW x.W k keep).1∧PtrOK x':=by
 obtain⟨m,hm⟩:=get_of hk
 have hm2:x.W.box.getD k zerM=m:=getD_of hm
 have hmb:=hw.bx m (zM hm)
 obtain⟨j,hj⟩:=Int.eq_ofNat_of_zero_le hmb.to.1
 have hj:m.to=(j:Int):=hj
 have hjn:j < n:=by have:=hmb.to.2;omega
 obtain⟨y,hy1,hy2,hy3,hy4,hy5,hy6,hy7⟩:=hw.node hp hjn
 obtain⟨hRl,hNl,hRr,hBl⟩:=hw.rlen
 have hPl:x.P.length=n:=by rw [hp,List.length_map];exact hNl
 have hlW:(x.W.nodes.length:Int)=n:=by have:=hw.ln;omega
 have hD:(delvW x.W k keep).1=putW (if keep then x.W else { x.W with box:=x.W.box.eraseIdx k }) j (recvN y.s m):=by
  unfold delvW
  rw [hm2,if_neg (by rw [hj];omega),hj,Int.toNat_natCast,hy3]
 rw [hD]
 have hrc:=node_w hy1 (recv_a y.p y.pe y.pl y.ve y.vl y.s m hy4 hmb.es (by have:=hmb.ix;omega) (by omega))
 have hro:=recv_ok (B:=B) (n:=n) (i:=j) hy4 hy5 hy6 hy7 m
 obtain⟨vn,vr,vb,P,N,R,Bx⟩:=x
 simp only at hk hm hy1 hy2 hRl hNl hRr hBl hPl hrc
 generalize recvN y.s m=Q at hrc hro ⊢
 obtain⟨s2,o⟩:=Q
 simp only at hrc
 have hdl:=delM_a vb Bx k hk (by omega)
 have hkp:=fun vb' y' B' (hB':B'.length≤40000000000)=>keep_a pw ⟨vn,vr,vb',P,N.set j y',R,B'⟩ j o (by simp only;omega) (fun r hr=>by have:=(hRr r hr).1;omega) (Nat.le_trans hro.rl (by decide)) hB' (Nat.le_trans hro.ml (by decide))
 rw [←hj] at hkp
 have hfin:∀(vb':Value) (y':PNode) (B':List MsgS) (x':WX),y'.s=s2→B'=(if keep then Bx else Bx.eraseIdx k)→y'.p=y.p→x'.W=keepW (WX.W ⟨vn,vr,vb',P,N.set j y',R,B'⟩) j o→x'.N=N.set j y'→x'.P=P→x'.W=putW (if keep then WX.W ⟨vn,vr,vb,P,N,R,Bx⟩ else { WX.W ⟨vn,vr,vb,P,N,R,Bx⟩ with box:=(WX.W ⟨vn,vr,vb,P,N,R,Bx⟩).box.eraseIdx k }) j (s2,o)∧PtrOK x':=by
  rintro vb' y' B' x' h1 h2 h3 h4 h5 h6
  refine⟨?_,by unfold PtrOK;rw [h5,h6];exact ptr_set hp hy1 h3⟩
  rw [h4]
  unfold putW WX.W
  simp only
  rw [set_W,h1,h2]
  cases keep <;> rfl
 show CallA Try.prog _ _ [blkR pw 30 [.ow vn, .ow vr, .ow vb],arrR vn 31 1 P ptrC,arrR vr 33 1 R rlsC,arrR vb 76 18 Bx msgC,bunR (N.map nodeO),bunR (R.map recO)] _
 clear hD hro hRr hw hmb hy4 hy5 hy6 hy7 hy3
 refine CallA.of pg dvO Try.func27 rfl Try.ntmps27 Try.results27 rfl fun h0 G0 O0=>?_
 cases keep
 ·repeat'(first|apply Sp.h|refine Lk.r rfl ?_|refine Rf.mk rfl ?_|refine xB ?_|refine OpK.r rfl ?_|refine All.mk fun _=>?_|refine xU ?_|refine xT ?_|refine xI ?_|(apply Ix.r;(focus assumption);(focus omega))|refine xJ ?_|refine Ch.l ⟨rfl,rfl⟩ ?_|refine xV ?_|(apply SetAsk.r;focus repeat' constructor)|refine xN ?_|refine xD ?_|exact trivial|apply RA'.both|refine xO ?_|(((apply Cl.use (hdl);(focus repeat' constructor);(focus repeat' constructor);focus rfl));(rintro _ _ ⟨vb2,rfl,rfl⟩))|(((apply Cl.use (hrc);(focus repeat' constructor);(focus repeat' constructor);focus rfl));(rintro _ _ ⟨y',e1,e2,rfl,rfl⟩)))
  all_goals
   have hk2:=hkp vb2 y' (Bx.eraseIdx k) (by rw [List.length_eraseIdx];split <;> omega)
   refine xW (hk2) ?_
   rintro _ _ ⟨rfl,x',rfl,e3,e4,e5⟩
   repeat'(first|apply Sp.h|refine Lk.r rfl ?_|refine Rf.mk rfl ?_|refine xN ?_|fail)
   all_goals exact⟨_,_, .one (.same (.z)),rfl,x',rfl,hfin vb2 y' _ x' e1 rfl e2 e3 e4 e5⟩
 ·repeat'(first|apply Sp.h|refine Lk.r rfl ?_|refine Rf.mk rfl ?_|refine xA ?_|refine xB ?_|refine OpK.r rfl ?_|refine All.mk fun _=>?_|refine xU ?_|refine xT ?_|refine xI ?_|(apply Ix.r;(focus assumption);(focus omega))|refine xJ ?_|refine Ch.l ⟨rfl,rfl⟩ ?_|(apply SetAsk.r;focus repeat' constructor)|refine xN ?_|refine xD ?_|exact trivial|apply RA'.both|(((apply Cl.use (hrc);(focus repeat' constructor);(focus repeat' constructor);focus rfl));(rintro _ _ ⟨y',e1,e2,rfl,rfl⟩)))
  all_goals
   have hk2:=hkp vb y' Bx (by omega)
   refine xW (hk2) ?_
   rintro _ _ ⟨rfl,x',rfl,e3,e4,e5⟩
   repeat'(first|apply Sp.h|refine Lk.r rfl ?_|refine Rf.mk rfl ?_|refine xN ?_|fail)
   all_goals exact⟨_,_, .one (.same (.z)),rfl,x',rfl,hfin vb y' _ x' e1 rfl e2 e3 e4 e5⟩
theorem settle_w(pw:Nat)(x:WX)(n B f:Nat)(hw:WorK n B x.W)(hB:B+f≤10000000)(hf:f≤199999)(hp:PtrOK x)(hs:(setlW f x.W).2=true) : CallA Try.prog 11 [pm pw] (worR pw x) fun r own=>r=bl true∧∃x',own=worR pw x'∧x'.W=(setlW f x.W).1∧PtrOK x'∧WorK n (B+f) x'.W:=by
 obtain⟨F,hF⟩:∃F,F=setlW f x.W:=⟨_,rfl⟩
 rw [←hF] at hs ⊢
 refine CallA.of pg ordZ Try.func11 rfl Try.ntmps11 Try.results11 rfl fun h0 G0 O0=>?_
 (repeat'(first|(show CA _ _ (Code.block 0 _) _ _;apply Stopped.out)|apply Sp.h|refine Lk.r rfl ?_|refine Rf.mk rfl ?_|fail));any_goals apply Stopped.mk
 apply Sp.h
 refine CA.loop (fun z:Nat×WX=>⟨[(0,pm pw),(3,it (z.1:Nat))],worR pw z.2⟩) (fun z=>z.1≤f∧WorK n (B+z.1) z.2.W∧PtrOK z.2∧setlW (f - z.1) z.2.W=F) (fun z=>f+1 - z.1) (0,x) xE ⟨zZ _,hw,hp,hF.symm⟩ ?_
 rintro⟨i,x⟩ ⟨hi,hw,hp,hF⟩
 simp only at hi hw hp hF
 simp only
 cases hfi:f - i with
 | zero =>
  rw [hfi] at hF
  rw [←hF] at hs
  cases hs
 | succ g =>
  rw [hfi,setlW] at hF
  by_cases hb:x.B= []
  ·rw [if_pos (show x.W.box= [] from hb)] at hF
   have hbl:x.B.length=0:=by rw [hb];rfl
   rw [←hF]
   repeat'(first|apply Sp.h|refine Lk.r rfl ?_|refine Rf.mk rfl ?_|refine xA ?_|refine xU ?_|refine xT ?_|refine xN ?_|fail)
   all_goals first
    | exact⟨_,_, .one (.same (.z)),rfl,x,rfl,rfl,hp,hw.mono (by omega)⟩
    | exact(by omega:False).elim
  ·rw [if_neg (show¬x.W.box= [] from hb)] at hF
   have hbl:0 < x.B.length:=by
    cases hq:x.B with
    | nil=>exact absurd hq hb
    | cons a l=>simp
   obtain⟨d1,d2⟩:=hw.delv (k:=0) hbl false
   rw [if_pos d2] at hF
   have hde:=deliver_a pw x n (B+i) 0 false hw (by omega) hp hbl
   repeat'(first|apply Sp.h|refine Lk.r rfl ?_|refine Rf.mk rfl ?_|refine xA ?_|refine xB ?_|refine xU ?_|refine xT ?_|refine xO ?_|(((apply Cl.use (hde);(focus repeat' constructor);(focus repeat' constructor);focus rfl));(rintro _ _ ⟨rfl,x',rfl,e1,e2⟩)))
   all_goals first
    | exact PA.lp (i+1,x') xE ⟨⟨by simp only;omega,by simp only;rw [e1];exact d1,e2,by simp only;rw [e1,show f - (i+1)=g by omega];exact hF⟩,by simp only;omega⟩
    | exact(by omega:False).elim
theorem lead_step(l:List NodS)(i:Int)(x:Int×Int) :∀(k:Nat) (s:NodS),l[k]?=some s→leadL (l.drop k) (i+k) x=leadL (l.drop (k+1)) (i+k+1) (if s.e.role=2∧x.2 < s.e.term then(i+k,s.e.term) else x):=fun k s hk=>by
 obtain⟨h1,rfl⟩:=zS.1 hk
 rw [List.drop_eq_getElem_cons h1,leadL]
theorem leader_w(pw:Nat)(x:WX)(n B:Nat)(hw:WorK n B x.W)(hp:PtrOK x) : CallA Try.prog 12 [pm pw] (worR pw x) fun r own=>r=it (leadW x.W)∧own=worR pw x:=by
 obtain⟨hRl,hNl,hRr,hBl⟩:=hw.rlen
 have hPl:x.P.length=n:=by rw [hp,List.length_map];exact hNl
 have hnd:=fun i (hi:i < n)=>hw.node hp hi
 have hWn:x.W.nodes=x.N.map PNode.s:=rfl
 have hlen:=hw.ln
 have hnn:=hw.nn
 obtain⟨F,hF⟩:∃F,F=leadL x.W.nodes 0 (-1,0):=⟨_,rfl⟩
 unfold leadW
 rw [←hF]
 have hst:=lead_step x.W.nodes 0
 clear hw hRr hBl
 obtain⟨vn,vr,vb,P,N,R,Bx⟩:=x
 simp only at hRl hNl hPl hnd hWn
 show CallA Try.prog _ _ [blkR pw 30 [.ow vn, .ow vr, .ow vb],arrR vn 31 1 P ptrC,arrR vr 33 1 R rlsC,arrR vb 76 18 Bx msgC,bunR (N.map nodeO),bunR (R.map recO)] _
 generalize WX.W ⟨vn,vr,vb,P,N,R,Bx⟩=W at hF hlen hWn hst hnd
 refine CallA.of pg ordZ Try.func12 rfl Try.ntmps12 Try.results12 rfl fun h0 G0 O0=>?_
 (repeat'(first|(show CA _ _ (Code.block 0 _) _ _;apply Stopped.out)|apply Sp.h|refine Lk.r rfl ?_|refine Rf.mk rfl ?_|refine xU ?_|refine xT ?_|fail));any_goals apply Stopped.mk
 apply Sp.h
 refine CA.loop (fun z:Nat×Int×Int=>⟨[(0,pm pw),(3,it z.2.1),(4,it z.2.2),(14, .ow vn),(15,it (P.length:Nat)),(16,it (z.1:Nat))],[blkR pw 30 [.ow vn, .ow vr, .ow vb],arrR vn 31 1 P ptrC,arrR vr 33 1 R rlsC,arrR vb 76 18 Bx msgC,bunR (N.map nodeO),bunR (R.map recO)]⟩) (fun z=>z.1≤n∧leadL (W.nodes.drop z.1) (z.1:Nat) z.2=F) (fun z=>n - z.1) (0,-1,0) xE ⟨zZ _,by rw [hF];rfl⟩ ?_
 rintro⟨i,a,b⟩ ⟨hi,hiF⟩
 simp only at hi hiF
 simp only
 by_cases hin:i < n
 ·obtain⟨y,hy1,hy2,hy3,_⟩:=hnd i hin
  have hys:W.nodes[i]?=some y.s:=by rw [hWn,zG,hy1];rfl
  have hstp:=hst (a,b) i y.s hys
  rw [Int.zero_add] at hstp
  rw [hstp] at hiF
  have het:=eterm_a y.pe y.ve y.s.e
  have hro:=erole_a y.pe y.ve y.s.e
  (repeat'(first|(show CA _ _ (Code.region 5 _ _) _ _;apply Stopped.out)|apply Sp.h|refine Lk.r rfl ?_|refine Rf.mk rfl ?_|refine xA ?_|refine xU ?_|refine xI ?_|refine xJ ?_|fail));any_goals apply Stopped.mk
  apply CA.bunTake (l:=N) (g:=nodeO) (i:=i) (x:=y)
  focus(repeat constructor)
  focus exact hy1
  apply CA.unb (rs:=nodR y.p y.pe y.pl y.ve y.vl y.s)
  focus(repeat constructor)
  have hi1:((i:Nat):Int)+1=((i+1:Nat):Int):=by omega
  by_cases h1:y.s.e.role=2
  ·by_cases h2:b < y.s.e.term
   ·rw [if_pos ⟨h1,h2⟩] at hiF
    repeat'(first|(show CA _ _ (Code.region 10 _ _) _ _;apply Stopped.out)|apply Sp.h|refine Lk.r rfl ?_|refine Rf.mk rfl ?_|refine xA ?_|refine xT ?_|(((apply Cl.use (hro);(focus repeat' constructor);(focus repeat' constructor);focus rfl));(rintro _ _ ⟨rfl,rfl⟩))|(((apply Cl.use (het);(focus repeat' constructor);(focus repeat' constructor);focus rfl));(rintro _ _ ⟨rfl,rfl⟩)))
    any_goals apply Stopped.mk
    apply CA.reb (rs:=nodR y.p y.pe y.pl y.ve y.vl y.s)
    focus(repeat(first|exact Takes.nil|(apply Takes.cons;(focus repeat constructor))))
    apply CA.bunPut (l:=N) (g:=nodeO) (i:=i) (x:=y)
    focus(repeat constructor)
    focus(repeat constructor)
    focus omega
    rw [set_at hy1]
    repeat'(first|apply Sp.h|refine Lk.r rfl ?_|refine Rf.mk rfl ?_|refine xO ?_|fail)
    all_goals exact PA.lp (i+1,(i:Int),y.s.e.term) xE ⟨⟨hin,by simp only;rw [←hi1];exact hiF⟩,by simp only;omega⟩
   ·rw [if_neg (fun h=>h2 h.2)] at hiF
    repeat'(first|(show CA _ _ (Code.region 10 _ _) _ _;apply Stopped.out)|apply Sp.h|refine Lk.r rfl ?_|refine Rf.mk rfl ?_|refine xA ?_|refine xB ?_|refine xT ?_|(((apply Cl.use (hro);(focus repeat' constructor);(focus repeat' constructor);focus rfl));(rintro _ _ ⟨rfl,rfl⟩))|(((apply Cl.use (het);(focus repeat' constructor);(focus repeat' constructor);focus rfl));(rintro _ _ ⟨rfl,rfl⟩)))
    any_goals apply Stopped.mk
    apply CA.reb (rs:=nodR y.p y.pe y.pl y.ve y.vl y.s)
    focus(repeat(first|exact Takes.nil|(apply Takes.cons;(focus repeat constructor))))
    apply CA.bunPut (l:=N) (g:=nodeO) (i:=i) (x:=y)
    focus(repeat constructor)
    focus(repeat constructor)
    focus omega
    rw [set_at hy1]
    repeat'(first|apply Sp.h|refine Lk.r rfl ?_|refine Rf.mk rfl ?_|refine xO ?_|fail)
    all_goals exact PA.lp (i+1,a,b) xE ⟨⟨hin,by simp only;rw [←hi1];exact hiF⟩,by simp only;omega⟩
  ·rw [if_neg (fun h=>h1 h.1)] at hiF
   repeat'(first|(show CA _ _ (Code.region 10 _ _) _ _;apply Stopped.out)|apply Sp.h|refine Lk.r rfl ?_|refine Rf.mk rfl ?_|refine xB ?_|refine xT ?_|(((apply Cl.use (hro);(focus repeat' constructor);(focus repeat' constructor);focus rfl));(rintro _ _ ⟨rfl,rfl⟩))|(((apply Cl.use (het);(focus repeat'(first|fail));(focus(repeat(first|exact Takes.nil|(apply Takes.cons;(focus repeat constructor)))));(focus rfl)));(rintro _ _ ⟨rfl,rfl⟩)))
   any_goals apply Stopped.mk
   apply CA.reb (rs:=nodR y.p y.pe y.pl y.ve y.vl y.s)
   focus(repeat(first|exact Takes.nil|(apply Takes.cons;(focus repeat constructor))))
   apply CA.bunPut (l:=N) (g:=nodeO) (i:=i) (x:=y)
   focus(repeat constructor)
   focus(repeat constructor)
   focus omega
   rw [set_at hy1]
   repeat'(first|apply Sp.h|refine Lk.r rfl ?_|refine Rf.mk rfl ?_|refine xO ?_|fail)
   all_goals exact PA.lp (i+1,a,b) xE ⟨⟨hin,by simp only;rw [←hi1];exact hiF⟩,by simp only;omega⟩
 ·have:i=n:=by omega
  subst this
  rw [List.drop_of_length_le (by omega),leadL] at hiF
  rw [←hiF]
  repeat'(first|apply Sp.h|refine Lk.r rfl ?_|refine Rf.mk rfl ?_|refine xB ?_|refine xN ?_|fail)
  all_goals exact⟨_,_, .one (.same (.z)),rfl,rfl⟩
end Go.Proofs.Ythlpimbhonihhaa
namespace Go.CF
open Go
section
variable {k:List KI} {e:EA} {o:List Res} {Γ:Cx}
theorem CA.reword{α β:Type}{y:Code}{v:Value}{T sz:Nat}{l:List α}{f:α→List AV}{rest:List Res}(tk:Take o (arrR v T sz l f) rest)(m:List β)(g:β→List AV)(hl:l.length=m.length)(hr:∀(i:Nat) x y,l[i]?=some x→m[i]?=some y→RLe (f x) (g y))(h:CA Γ k y e (arrR v T sz m g :: rest)) : CA Γ k y e o:=by
 refine⟨fun env hh G Os cn=>?_⟩
 obtain⟨O,Os',cn2⟩:=cn.take tk
 obtain⟨⟨ho,rows,hw,h8⟩,hrest⟩:=cn2.hp.own
 refine h.h env hh G (O :: Os') ⟨cn2.hp.perm ⟨⟨ho,rows,by rw [←hl];exact hw,⟨by rw [h8.len,hl],fun i r y g1 g2=>?_,h8.sz⟩⟩,hrest⟩ (List.Perm.refl _),cn.env,cn.nf⟩
 have hi:=(zS.1 g2).1
 have hx:l[i]?=some (l[i]'(by omega)):=zE _
 have g3:=h8.row i r _ g1 hx
 exact⟨(hr i _ y hx g2).rep g3.t,g3.one⟩
end
section
variable {Γ:Cx} {k:List KI} {e:EA} {o:List Res}
theorem CA.nilBun{α:Type}{y:Code}(T sz:Nat)(f:α→List AV) :∀n:Nat,CA Γ k y e (bunR ((List.replicate n ((Value.slice none 0 0,([]:List α)):Value×List α)).map fun r=>arrR r.1 T sz r.2 f) :: o)→CA Γ k y e o
 | 0,h=>CA.bunNil (fun r:Value×List α=>arrR r.1 T sz r.2 f) h
 | n+1,h=>by
  refine CA.nilBun T sz f n ?_
  refine⟨fun env hh G Os cn=>?_⟩
  have hp:HpOK Γ.h0 Γ.G0 Γ.O0 (arrR (.slice none 0 0) T sz [] f :: _) hh G ((fun _=>False) :: Os):=HpOK.nilA cn.hp T sz f
  have h2:CA Γ k y e (arrR (.slice none 0 0) T sz [] f :: bunR ((List.replicate n ((Value.slice none 0 0,([]:List α)):Value×List α)).map fun r=>arrR r.1 T sz r.2 f) :: o):=by
   refine CA.bunPush (l:=List.replicate n ((Value.slice none 0 0,([]:List α)):Value×List α)) (g:=fun r=>arrR r.1 T sz r.2 f) (x:=(Value.slice none 0 0,[])) (.there .here) .here ?_
   rw [←List.replicate_succ']
   exact h
  exact h2.h env hh G _ ⟨hp,cn.env,cn.nf⟩
end
end Go.CF
