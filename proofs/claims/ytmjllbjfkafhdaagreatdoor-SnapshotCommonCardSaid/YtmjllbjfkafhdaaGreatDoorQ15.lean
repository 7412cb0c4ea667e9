/- Part 15 of the ground of this proof: what its texts say of the model, the program and the plain data; conditions: those that are named. -/
import Derived.Test.YtmjllbjfkafhdaaGreatDoorQ14
namespace Go.Proofs.YtmjllbjfkafhdaaGreatDoor
open Go Go.CF
/-! ### The model -/
def tC : TblS:=⟨⟨#[99]⟩,1,[],0,9,0⟩
def cntM : ModS:=⟨[],[tC],[⟨#[99]⟩],[⟨0,0,⟨[(0,-1)],0⟩,0,0⟩,⟨0,0,⟨[(0,1)],9⟩,0,0⟩],[⟨⟨#[111]⟩,false,[]⟩,⟨⟨#[112]⟩,false,[]⟩],[⟨0,[],⟨[(0,2)],[],[]⟩⟩,⟨1,[],⟨[(0,-1)],[],[]⟩⟩],[]⟩
theorem cnt_mrg : mrgF cntM= []:=by simp [mrgF,mrgL,cntM,isStrict,tC]
theorem cnt_str : strF cntM=1:=by simp [strF,strN,cntM,isStrict,szF,prodF,tC]
theorem cnt_lay : LayOK cntM.sorts cntM.tables:=by
 refine⟨by simp [cntM],fun x hx=>by simp [cntM] at hx,by simp [cntM],fun t ht=>?_⟩
 simp only [cntM,List.mem_cons,List.not_mem_nil,or_false] at ht
 subst ht
 simp [TabOK,ColOK,Sound,cntM,tC]
theorem cnt_ok : MOK cntM:=by
 refine⟨cnt_lay,by simp [cntM],by simp [cntM],fun a ha=>?_,by rw [cnt_str];decide,by rw [cnt_mrg];decide⟩
 simp only [cntM,List.mem_cons,List.not_mem_nil,or_false] at ha
 rcases ha with rfl|rfl
 all_goals
  refine⟨by simp,by simp,by simp,fun p hp=>?_,fun p hp=>by simp at hp⟩
  simp only [List.mem_cons,List.not_mem_nil,or_false] at hp
  subst hp
  rw [cnt_str];decide
/-! ### Two events -/
def ca : EvS:=⟨0,1,1,[0,0],0,0,0,0,0,0,0,0,1⟩
def cb : EvS:=⟨1,1,1,[0,0],0,1,0,0,0,0,0,0,1⟩
theorem val2(a b:Int)(ha:0≤a∧a≤1024)(hb:0≤b∧b≤1024) : ValC [a,b]:=⟨fun x hx=>by
 simp only [List.mem_cons,List.not_mem_nil,or_false] at hx
 unfold rngK
 omega,by simp,by simp⟩
theorem ca_f : FormedE ca:=⟨val2 0 0 (by decide) (by decide),by decide,⟨0,rfl,rfl⟩,by decide,by unfold Btw ca;decide, .inl ⟨rfl,by unfold Sub0 Btw ca;decide,by unfold GiveZ ca;decide⟩⟩
theorem cb_f : FormedE cb:=⟨val2 0 0 (by decide) (by decide),by decide,⟨0,rfl,rfl⟩,by decide,by unfold Btw cb;decide, .inl ⟨rfl,by unfold Sub0 Btw cb;decide,by unfold GiveZ cb;decide⟩⟩
theorem cab_suit : SuitS cntM [3] [ca,cb]:=by
 have hc:ClosedE [ca,cb]:=by
  refine⟨by simp,fun i j a b hi hj hab=>?_,fun e he=>?_,fun e he r n hr i h1 h2=>?_⟩
  ·match i,j with
   | 0,0=>rfl
   | 1,1=>rfl
   | 0,1=>simp at hi hj;subst hi;subst hj;simp [nm,ca,cb] at hab
   | 1,0=>simp at hi hj;subst hi;subst hj;simp [nm,ca,cb] at hab
   | i+2,_=>simp at hi
   | 0,j+2=>simp at hj
   | 1,j+2=>simp at hj
  ·simp only [List.mem_cons,List.not_mem_nil,or_false] at he
   rcases he with rfl|rfl
   ·exact⟨ca_f,rfl⟩
   ·exact⟨cb_f,rfl⟩
  ·exfalso
   simp only [List.mem_cons,List.not_mem_nil,or_false] at he
   have hn:n=0:=by
    rcases he with rfl|rfl
    all_goals
     have:=zM hr
     simp [ca,cb] at this
     exact this
   omega
 refine⟨⟨cnt_ok,⟨by simp,fun e he=>?_⟩,hc,fun a ha u hu i t _ ht=>?_,fun e he=>?_⟩,by simp,by rw [cnt_str];rfl,by simp,fun a ha p hp=>?_⟩
 ·simp only [List.mem_cons,List.not_mem_nil,or_false] at he
  rcases he with rfl|rfl <;> simp [ca,cb]
 ·rw [cnt_mrg] at ht;simp at ht
 ·simp only [List.mem_cons,List.not_mem_nil,or_false] at he
  rcases he with rfl|rfl
  ·exact⟨ca_f,rfl,fun _=>by decide⟩
  ·exact⟨cb_f,rfl,fun _=>by decide⟩
 ·simp only [cntM,List.mem_cons,List.not_mem_nil,or_false] at ha
  rcases ha with rfl|rfl <;> (simp at hp;subst hp;decide)
theorem cab_ext : ExtO [ca,cb] [ca,cb]:=by
 have hno:∀e,e=ca∨e=cb→∀d:EvS,¬HasC e.past d.rep d.num:=fun e he d ⟨_,_,h1,x,hx,h2⟩=>by
  have h3:e.past= [0,0]:=by rcases he with rfl|rfl <;> rfl
  rw [h3] at hx
  have:=zM hx
  simp at this
  omega
 refine⟨fun e he=>he,fun i e he=>⟨?_,fun d hd hh=>absurd hh (hno e (by have:=zM he;simpa using this) d)⟩⟩
 match i with
 | 0=>simp
 | 1=>simp at he;subst he;simp [ca,cb]
 | i+2=>simp at he
theorem cab_1 : deliverF cntM [] (stN cntM 2 [3] []) ca=(0,stN cntM 2 [3] [ca]):=(fill_sto cab_suit (by simp) cab_ext 0 (by simp)).2 ca rfl
theorem cab_2 : deliverF cntM [ca] (stN cntM 2 [3] [ca]) cb=(0,stN cntM 2 [3] [ca,cb]):=(fill_sto cab_suit (by simp) cab_ext 1 (by simp)).2 cb rfl
theorem st_cab : (stN cntM 2 [3] [ca,cb]).clock= [1,1]∧(stN cntM 2 [3] [ca,cb]).state= [4]:=by
 exact⟨rfl,rfl⟩
theorem has_2(x y:Int)(hx:0≤x∧x≤1024)(hy:0≤y∧y≤1024) : (HasC [x,y] 0 1↔1≤x)∧(HasC [x,y] 1 1↔1≤y) :=
 ⟨⟨fun⟨_,_,_,z,h1,h2⟩=>by simp at h1;omega,fun h=>⟨val2 x y hx hy,by decide,by decide,x,rfl,h⟩⟩,⟨fun⟨_,_,_,z,h1,h2⟩=>by simp at h1;omega,fun h=>⟨val2 x y hx hy,by decide,by decide,y,rfl,h⟩⟩⟩
theorem ins_2{a b c d:Int}(h1:a≤c)(h2:b≤d) : Ins [a,b] [c,d]:=fun i x y hx hy=>by
 match i with
 | 0=>simp at hx hy;omega
 | 1=>simp at hx hy;omega
 | i+2=>simp at hx
theorem cab_3 :∃B N,compactF cntM ⟨stN cntM 2 [3] [],[ca,cb],stN cntM 2 [3] [ca,cb]⟩ [1,0]=(0,⟨B,[cb],N⟩)∧B.state= [5]∧SzN B∧N.clock= [1,1]:=by
 have hb:(stN cntM 2 [3] []).clock= [0,0]:=rfl
 obtain⟨h1,h2⟩:=has_2 1 0 (by decide) (by decide)
 have e1:inL [1,0] [ca,cb]= [ca]:=by
  have a1:HasC [1,0] ca.rep ca.num:=h1.2 (by decide)
  have a2:¬HasC [1,0] cb.rep cb.num:=fun h=>absurd (h2.1 h) (by decide)
  simp [inL,a1,a2]
 have e2:outL [1,0] [ca,cb]= [cb]:=by
  have a1:HasC [1,0] ca.rep ca.num:=h1.2 (by decide)
  have a2:¬HasC [1,0] cb.rep cb.num:=fun h=>absurd (h2.1 h) (by decide)
  simp [outL,a1,a2]
 refine⟨cmpB cntM (stN cntM 2 [3] []) [1,0] [ca,cb],{ stN cntM 2 [3] [ca,cb] with merged:= [cb].foldl (mrg1 cntM) (cmpB cntM (stN cntM 2 [3] []) [1,0] [ca,cb]).merged }, ?_, ?_, ?_,st_cab.1⟩
 ·have q1:ValC [1,0]∧([1,0]:List Int).length=(stN cntM 2 [3] [ca,cb]).clock.length:=⟨val2 1 0 (by decide) (by decide),rfl⟩
  have q2:Ins (stN cntM 2 [3] []).clock [1,0]∧Ins [1,0] (stN cntM 2 [3] [ca,cb]).clock∧∀e∈ [ca,cb],HasC [1,0] e.rep e.num→Ins e.past [1,0]:=by
   refine⟨by rw [hb];exact ins_2 (by decide) (by decide),by rw [st_cab.1];exact ins_2 (by decide) (by decide),fun e he _=>?_⟩
   simp only [List.mem_cons,List.not_mem_nil,or_false] at he
   rcases he with rfl|rfl <;> exact ins_2 (by decide) (by decide)
  refine(@if_neg _ (zC _) (fun h9=>h9 q1) _ _ _).trans ((@if_neg _ (zC _) (fun h9=>h9 q2) _ _ _).trans ?_)
  simp only [e2]
 ·rw [cmpB,e1];rfl
 ·rw [cmpB,e1]
  have hsz:SzM (mrg1 cntM (stN cntM 2 [3] []).merged ca):=mrg1_sz (by
   simp only [stN,List.foldl_nil,cnt_mrg]
   exact⟨by simp,by simp⟩)
  exact⟨by simp,by simp only [List.foldl_cons,List.foldl_nil,cmp1,addE_len];simp [stN],hsz.1,hsz.2,by simp only [List.foldl_cons,List.foldl_nil,cmp1];simp [stN,plE,ca]⟩
end Go.Proofs.YtmjllbjfkafhdaaGreatDoor
set_option maxRecDepth 100000
set_option maxHeartbeats 80000000
namespace Go.Proofs.YtmjllbjfkafhdaaGreatDoor
open Go Go.CF
theorem stN_okC(X:List EvS)(hX:∀e∈X,e∈ [ca,cb])(hl:X.length≤1000) : NowOK cntM (stN cntM 2 [3] X):=stN_ok cab_suit hX hl
theorem szM_fold{m:ModS}{k:List MgS}(h:SzM k) :∀X:List EvS,SzM (X.foldl (mrg1 m) k):=by
 intro X
 induction X generalizing k with
 | nil=>exact h
 | cons e X ih=>rw [List.foldl_cons];exact ih (mrg1_sz h)
theorem szM_stN{m:ModS}(hm:MOK m)(n:Nat)(ld:List Int)(X:List EvS) : SzM (stN m n ld X).merged:=by
 refine szM_fold ⟨by rw [zR];have:=hm.mrg;omega,fun g hg=>?_⟩ X
 rw [(List.mem_replicate.1 hg).2];exact zZ _
structure ClE where
 c:List Int
 w:Value
def cleC(x:ClE) : List AV:= [.ow x.w]
abbrev cleR (x:ClE):Res:=arrR x.w 3 1 x.c intC
def clsR(v:Value)(L:List ClE) : List Res:= [arrR v 22 1 L cleC,bunR (L.map cleR)]
theorem flat_cls{v:Value}{L:List ClE} :∀R∈clsR v L,FlatR R:=fun R hR=>by
 rcases List.mem_cons.1 hR with rfl|hR
 ·exact FlatR.arr fun x _=> .cons (.ow _) .nil
 ·rw [zH.1 hR]
  refine FlatR.bun fun R hR=>?_
  obtain⟨x,_,rfl⟩:=List.mem_map.1 hR
  exact flat_ints
theorem flat_o3{l:List Int} :∀(r:AV) (own:List Res),(∃u,r= .ow u∧own= [arrR u 3 1 l intC])→FlatV r∧∀R∈own,FlatR R:=by
 rintro _ _ ⟨u,rfl,rfl⟩
 exact⟨FlatV.ow _,fun R hR=>by rw [zH.1 hR];exact flat_ints⟩
def RdK(code:Int)(rows:List (List Int))(r:AV)(own:List Res) : Prop :=
 (code≠0∧r= .tup [nl0,it code]∧own= [])∨(code=0∧∃v L,r= .tup [.ow v,it 0]∧own=clsR v L∧L.map ClE.c=rows)
noncomputable def rdF(m:ModS)(b:NowS)(l:List EvS)(w:NowS)(c:List Int)(qs:List QryS) : Int:=if QrysX m qs then chkF b.clock l w.clock c else 1
noncomputable def rowsF(m:ModS)(b:NowS)(l:List EvS)(c:List Int)(qs:List QryS) : List (List Int):=qs.map (valQ (snpS m b l c) (visL m (snpS m b l c)) (snpV m b l c))
structure SnpOK (m:ModS) (b:NowS) (l:List EvS) (c:List Int):Prop where
 n:(snpV m b l c).length=(mrgF m).length
 r:∀x∈snpV m b l c,x.length≤100000
theorem mrgF_sum{m:ModS}(hm:LayOK m.sorts m.tables) : ((mrgF m).length:Int)=sumK m.sorts false m.tables:=by
 have key:∀l:List TblS,(∀t∈l,t∈m.tables)→((mrgL m l).length:Int)=sumK m.sorts false l:=by
  intro l
  induction l with
  | nil=>intro _;rfl
  | cons t l ih =>
   intro h
   have ih:=ih fun t ht=>h t (by simp [ht])
   have hc:=(hm.2.2.2 t (h t (by simp))).1
   have h1:=(sz_fit hc).1
   unfold mrgL sumK at ih ⊢
   simp only [List.map_cons,List.sum_cons,List.flatMap_cons,zP]
   rw [←ih]
   by_cases hs:isStrict t.kind
   ·rw [if_pos hs,if_neg (by simp [hs])];simp
   ·rw [if_neg hs,if_pos (by simp [hs]),numF,if_pos hc,zR];omega
 exact key m.tables fun _ h=>h
theorem rgs_s{m:ModS}(hx:ValX m) : (rgsF m true).length=strF m:=by
 rw [rgsF,if_pos hx];exact strR_len hx.lay
theorem rgs_m{m:ModS}(hx:ValX m) : (rgsF m false).length=(mrgF m).length:=by
 have h1:=mrgF_sum hx.lay.ok
 have h2:=rngL_len m.sorts false m.tables
 rw [rgsF,if_pos hx,rngF,if_pos hx.lay];omega
theorem valK_of{m:ModS}{b:NowS}{l:List EvS}{c:List Int}(hx:ValX m)(hb:b.state.length=strF m)(hs:SnpOK m b l c){q:QryS}(hq:QryK (rgsF m true).length (rgsF m false).length q) : ValK (snpS m b l c) (visL m (snpS m b l c)) (snpV m b l c) q:=by
 obtain⟨h1,h2⟩:=hq
 rw [rgs_s hx,rgs_m hx] at h2
 have hsl:(snpS m b l c).length=strF m:=by rw [snpS,addEf_len,hb]
 have hvl:(visL m (snpS m b l c)).length=strF m:=by simp [visL,hsl]
 refine⟨h1, ?_,hs.r⟩
 unfold cntKd at h2
 rw [hsl,hvl,hs.n]
 by_cases h0:q.1=0∨q.1=1
 ·rw [if_pos h0] at h2
  rcases h0 with h0|h0
  ·exact .inl ⟨h0,h2⟩
  ·exact .inr (.inl ⟨h0,h2⟩)
 ·rw [if_neg h0] at h2
  by_cases h3:q.1=2
  ·rw [if_pos h3] at h2
   exact .inr (.inr ⟨h3,h2⟩)
  ·rw [if_neg h3] at h2;omega
theorem sread_g(m:ModS)(b:NowS)(l:List EvS)(w:NowS)(c:List Int)(qs:List QryS)(h:ShwS b l w)(hm:MOK m)(hur:UpdsRg m)(hb:b.state.length=strF m)(hev:∀e∈l,EvV m (w.clock.length:Nat) e)(hsn:ValX m→SnpOK m b l c)(hql:qs.length≤1000000) :
  CallG Tryz.prog 16 [mdl m, .ad (stoV m b l w) 0,ints c,qrys qs] [] (RdK (rdF m b l w c qs) (rowsF m b l c qs)):=by
 have hol:m.ops.length≤1000000000:=by have:=hm.ops;omega
 have hv:=svalid_g m qs hol hur
 have hck:=scheck_p m b l w c h
 by_cases hq:QrysX m qs
 rotate_left
 ·rw [rdF,if_neg hq]
  rw [zF hq] at hv
  refine CallG.of pg ordZ Tryz.func16 rfl Tryz.ntmps16 Tryz.results16 rfl fun h0 G0 O0 ga=>?_
  repeat'(first|apply Sp.h|refine Lk.r rfl ?_|refine Rf.mk rfl ?_|refine xB ?_|refine All.mk fun _=>?_|refine xT ?_|refine Ch.l ⟨rfl,rfl⟩ ?_|refine xN ?_|(apply Cl.pG (hv);(focus exact ga);focus(repeat' constructor);done))
  exact⟨_,_, .tup (.same (.same (.z))), .inl ⟨by decide,rfl,rfl⟩⟩
 rw [rdF,if_pos hq]
 rw [zT hq] at hv
 by_cases hc0:chkF b.clock l w.clock c=0
 rotate_left
 ·refine CallG.of pg ordZ Tryz.func16 rfl Tryz.ntmps16 Tryz.results16 rfl fun h0 G0 O0 ga=>?_
  repeat'(first|apply Sp.h|refine Lk.r rfl ?_|refine Rf.mk rfl ?_|refine xA ?_|refine xB ?_|refine All.mk fun _=>?_|refine xT ?_|refine Ch.l ⟨rfl,rfl⟩ ?_|refine xN ?_|(apply Cl.pG (hv);(focus exact ga);focus(repeat' constructor);done)|(apply Cl.p (hck);focus(repeat' constructor);done))
  ·exact⟨_,_, .tup (.same (.same (.z))), .inl ⟨hc0,rfl,rfl⟩⟩
  all_goals exact absurd (by omega) hc0
 have hta:=stake_g m b l w c h hm hq.1 hol hur hb hev
 have hsn:=hsn hq.1
 have hvk:=fun q (hqm:q∈qs)=>valK_of hq.1 hb hsn (hq.2 q hqm)
 rw [hc0] at hck ⊢
 unfold rowsF
 generalize snpS m b l c=S at hta hvk ⊢
 generalize snpV m b l c=V at hta hvk ⊢
 generalize visL m S=B at hta hvk ⊢
 refine CallG.of pg ordZ Tryz.func16 rfl Tryz.ntmps16 Tryz.results16 rfl fun h0 G0 O0 ga=>?_
 repeat'(first|apply Sp.h|refine Lk.r rfl ?_|refine Rf.mk rfl ?_|refine xA ?_|refine All.mk fun _=>?_|refine xT ?_|refine Ch.l ⟨rfl,rfl⟩ ?_|(apply Cl.pG (hv);(focus exact ga);focus(repeat' constructor);done)|(apply Cl.p (hck);focus(repeat' constructor);done))
 all_goals try exact(by omega:False).elim
 repeat'(first|apply Sp.h|refine Lk.r rfl ?_|refine Rf.mk rfl ?_|refine Im.mk fun _=>?_|refine All.mk fun _=>?_|refine xT ?_|(apply SetAsk.r;focus repeat' constructor)|refine xN ?_|(apply Cl.pG (hta);(focus exact ga);focus(repeat' constructor);done))
 rename_i b11 _
 refine CA.nilOwn 12 22 1 cleC rfl fun v=>?_
 apply CA.bunNil cleR
 refine CA.loop (fun z:Nat×Value×List ClE=>⟨[(11,pm b11),(12, .ow z.2.1),(29,qrys qs),(30,it (qs.length:Nat)),(31,it z.1)],[blkR b11 121 (snpC S B V),arrR z.2.1 22 1 z.2.2 cleC,bunR (z.2.2.map cleR)]⟩)
  (fun z=>z.1≤qs.length∧z.2.2.map ClE.c=(qs.take z.1).map (valQ S B V)) (fun z=>qs.length - z.1) (0,v,[]) xE ⟨zZ _,rfl⟩ ?_
 rintro⟨i,u,L⟩ ⟨hi,hL⟩
 simp only at hi hL
 simp only
 by_cases hin:i < qs.length
 ·obtain⟨q,hqq⟩:=get_of hin
  have hLl:L.length=i:=by have:=congrArg List.length hL;simp at this;omega
  have hva:=svalues_o S B V q (hvk q (zM hqq))
  have hsu:(qs.take (i+1)).map (valQ S B V)=(qs.take i).map (valQ S B V) ++ [valQ S B V q]:=by rw [zK,hqq];simp
  repeat'(first|apply Sp.h|refine Lk.r rfl ?_|refine Rf.mk rfl ?_|refine xA ?_|apply All.mk|refine xT ?_|refine xI ?_|refine Ch.l ⟨rfl,rfl⟩ ?_|(apply SetAsk.r;focus repeat' constructor)|refine xN ?_|intro _)
  (refine Cl.use (hva) (by repeat'(first|exact Lend.nil|apply Lend.keep|fail)) .nil rfl ?_;rintro _ _ ⟨_,rfl,rfl⟩)
  rename_i x
  have inv:Inv cleC [.ow x] ⟨valQ S B V q,x⟩:=⟨rfl⟩
  (repeat'(first|(show CA _ _ (Code.region 12 _ _) _ _;apply Stopped.out)|apply Sp.h|refine Lk.r rfl ?_|refine Rf.mk rfl ?_|refine xP ?_|apply All.mk|refine xU ?_|refine Ce.r ?_|(apply Fk.r;focus repeat' first|infer_instance|constructor)|refine Rf.mk ⟨rfl,rfl⟩ ?_|refine Rf.mk ⟨rfl,rfl,rfl⟩ ?_|(apply Mp.lit;(focus repeat(first|exact MpL.nil|(apply MpL.cons;(focus rfl))|(apply MpL.inv;(focus repeat constructor);(focus infer_instance)))))|intro _));any_goals apply Stopped.mk
  apply CA.bunPush (l:=L) (g:=cleR) (x:=⟨valQ S B V q,x⟩)
  focus(repeat constructor)
  focus(repeat constructor)
  repeat'(first|apply Sp.h|refine Lk.r rfl ?_|refine Rf.mk rfl ?_|refine xO ?_|fail)
  exact PA.lp (i+1,_,L ++ [⟨valQ S B V q,x⟩]) xE ⟨⟨hin,by simp only;rw [List.map_append,hL,hsu];rfl⟩,by simp only;omega⟩
 ·have:i=qs.length:=by omega
  subst this
  rw [zL] at hL
  repeat'(first|apply Sp.h|refine Lk.r rfl ?_|refine Rf.mk rfl ?_|refine xB ?_|refine xN ?_|fail)
  exact⟨_,_, .tup (.same (.same (.z))), .inr ⟨rfl,u,L,rfl,rfl,hL⟩⟩
end Go.Proofs.YtmjllbjfkafhdaaGreatDoor
namespace Go.CF
open Go
theorem Cl.lendOG{Γ:Cx}{c:Cls}{o:List Res}{f:FuncId}{asx as':List AV}{K:AV→List Res→Prop}{M:AV→List Res→Prop}(hc:CallG Γ.P f as' [] K)(ga:AmbF Γ.P Γ.h0 Γ.G0 Γ.O0)(hl:Lend o asx as')(hK:∀r own,K r own→FlatV r∧∀R∈own,FlatR R)(hm:∀r own,K r own→M r (own ++ o)) : Cl Γ c f asx o M:=by
 refine⟨fun {h G Os vs} hp hr=>?_⟩
 have hin:HpOK h (fun b=>G b∨U Os b) (U []) [] h (fun b=>G b∨U Os b) [] :=
  ⟨trivial,fun b hb=>⟨hb.elim (fun h9=>(hp.g b h9).1) (fun⟨O,hO,h9⟩=>(hp.o O hO b h9).1), .inl hb⟩,fun _ h=>h,fun O hO=>(by cases hO),List.Pairwise.nil,FPx.refl h⟩
 refine(hc.run h _ [] vs (hl.rep hp.own hr) hin ((ga _ _ _ _ hp).mono (FPx.refl h) fun _=> .inl)).mono fun v h' ⟨r',own',G',Os',hk,g3,g4⟩=>?_
 obtain⟨f1,f2⟩:=hK _ _ hk
 have hst:Stp ([]:List Nat) h h':=⟨g4.fp.size,fun b hb _=>g4.fp.same b (fun⟨O,hO,_⟩=>by cases hO) hb⟩
 have hx:∀S,FPx S h h':=fun S=>⟨hst.size,fun b _ hb=>hst.same b hb (by simp)⟩
 have hs:=hp.fp.size
 have hs':=hst.size
 have hnew:∀O∈Os',∀b,O b→h.size≤b:=fun O hO b hb=>by
  rcases(g4.o O hO b hb).2.1 with⟨O2,hO2,_⟩|h9
  ·cases hO2
  ·exact h9
 refine⟨.inr hst,r',own' ++ o,G,Os' ++ Os,hm _ _ hk,f1.h g3,⟨(FlatR.own f2 g4.own).app (OwnL.stp (fun O _=>hx _) hp.own),fun b hb=>⟨by have:=(hp.g b hb).1;omega,(hp.g b hb).2.imp id fun q=>⟨q.1,q.2.eq (hst.same b (hp.g b hb).1 (by simp))⟩⟩,hp.g0,fun O hO b hb=>?_,List.pairwise_append.2 ⟨g4.d,hp.d,fun A hA B hB b ha hb=>?_⟩,⟨by omega,fun b hb hl=>?_⟩⟩,hx G,fun _ h=>h⟩
 ·rcases zV.1 hO with hO|hO
  ·have:=hnew O hO b hb
   exact⟨(g4.o O hO b hb).1, .inr (by omega),fun hg=>by have:=(hp.g b hg).1;omega⟩
  ·exact⟨by have:=(hp.o O hO b hb).1;omega,(hp.o O hO b hb).2⟩
 ·have:=hnew A hA b ha
  have:=(hp.o B hB b hb).1
  omega
 ·rw [hst.same b (by omega) (by simp)]
  exact hp.fp.same b hb hl
end Go.CF
namespace Go.Proofs.YtmjllbjfkafhdaaGreatDoor
open Go Go.CF
def NwK(code:Int)(rows:List (List Int))(wc:List Int)(r:AV)(own:List Res) : Prop :=
 (code≠0∧r= .tup [nl0,nl0,it code]∧own= [])∨(code=0∧∃v L u,r= .tup [.ow v, .ow u,it 0]∧own=clsR v L ++ [arrR u 3 1 wc intC]∧L.map ClE.c=rows)
theorem flat_rd{code:Int}{rows:List (List Int)} :∀(r:AV) (own:List Res),RdK code rows r own→FlatV r∧∀R∈own,FlatR R:=by
 rintro r own (⟨_,rfl,rfl⟩|⟨_,v,L,rfl,rfl,_⟩)
 ·exact⟨FlatV.tup (.cons (.val _) (.cons (.val _) .nil)),fun R hR=>by cases hR⟩
 ·exact⟨FlatV.tup (.cons (.ow _) (.cons (.val _) .nil)),flat_cls⟩
theorem cls_fx{v:Value}{L:List ClE}(hl:L.length≤1000000)(hm:∀x∈L,x.c.length≤1000000){l l':List AV}{o own:List Res}(ht:FX o l l' own) : FX (clsR v L ++ o) (.ow v :: l) (clks (L.map ClE.c) :: l') own:=by
 refine .sl .here (by omega) (.unb .here ?_) ht
 refine FX.rows (o:=o) (r:=cleR) (f:=cleC) (g:=clkC) (φ:=ClE.c) L fun x hx o'=>?_
 have:=hm x hx
 exact .sl .here (by omega) (FX.refl _) (FX.refl _)
theorem snow_g(m:ModS)(b:NowS)(l:List EvS)(w:NowS)(qs:List QryS)(h:ShwS b l w)(hm:MOK m)(hur:UpdsRg m)(hb:b.state.length=strF m)(hev:∀e∈l,EvV m (w.clock.length:Nat) e)(hsn:ValX m→SnpOK m b l w.clock)(hql:qs.length≤1000000) :
  CallG Tryz.prog 18 [mdl m, .ad (stoV m b l w) 0,qrys qs] [] (NwK (rdF m b l w w.clock qs) (rowsF m b l w.clock qs) w.clock):=by
 have hol:m.ops.length≤1000000000:=by have:=hm.ops;omega
 have hv:=svalid_g m qs hol hur
 have hcl:=sclock_r m b w l h.ck
 have hrd:=sread_g m b l w w.clock qs h hm hur hb hev hsn hql
 have hck9:=h.ck
 by_cases hq:QrysX m qs
 rotate_left
 ·rw [rdF,if_neg hq]
  rw [zF hq] at hv
  refine CallG.of pg ordZ Tryz.func18 rfl Tryz.ntmps18 Tryz.results18 rfl fun h0 G0 O0 ga=>?_
  repeat'(first|apply Sp.h|refine Lk.r rfl ?_|refine Rf.mk rfl ?_|refine xB ?_|refine All.mk fun _=>?_|refine xT ?_|refine Ch.l ⟨rfl,rfl⟩ ?_|refine xN ?_|(apply Cl.pG (hv);(focus exact ga);focus(repeat' constructor);done))
  exact⟨_,_, .tup (.same (.same (.same (.z)))), .inl ⟨by decide,rfl,rfl⟩⟩
 rw [zT hq] at hv
 generalize rowsF m b l w.clock qs=rows at hrd ⊢
 generalize rdF m b l w w.clock qs=code at hrd ⊢
 refine CallG.of pg ordZ Tryz.func18 rfl Tryz.ntmps18 Tryz.results18 rfl fun h0 G0 O0 ga=>?_
 repeat'(first|apply Sp.h|refine Lk.r rfl ?_|refine Rf.mk rfl ?_|refine xA ?_|refine All.mk fun _=>?_|refine xT ?_|refine Ch.l ⟨rfl,rfl⟩ ?_|(apply Cl.pG (hv);(focus exact ga);focus(repeat' constructor);done))
 all_goals try exact(by assumption:False).elim
 (refine Cl.use (hcl) (by repeat'(first|exact Lend.nil|apply Lend.keep|fail)) .nil rfl ?_;rintro _ _ ⟨_,rfl,rfl⟩)
 repeat'(first|apply Sp.h|refine Lk.r rfl ?_|refine Rf.mk rfl ?_|refine xT ?_|refine Ch.l ⟨rfl,rfl⟩ ?_|fail)
 refine Cl.lendOG hrd ga (by repeat'(first|exact Lend.nil|apply Lend.keep|(apply Lend.lend;(focus repeat constructor);(focus first|omega|(simp;omega)))|fail)) flat_rd ?_
 rintro _ _ (⟨hne,rfl,rfl⟩|⟨rfl,v,L,rfl,rfl,hL⟩)
 ·repeat'(first|apply Sp.h|refine Lk.r rfl ?_|refine Rf.mk rfl ?_|refine xB ?_|refine xN ?_|fail)
  ·exact⟨_,_, .tup (.same (.same (.same (.z)))), .inl ⟨hne,rfl,rfl⟩⟩
  all_goals exact absurd (by omega) hne
 ·repeat'(first|apply Sp.h|refine Lk.r rfl ?_|refine Rf.mk rfl ?_|refine xA ?_|refine xN ?_|fail)
  all_goals try exact(by omega:False).elim
  exact⟨_,_, .tup (.same (.same (.same (.z)))), .inr ⟨rfl,v,L,_,rfl,rfl,hL⟩⟩
structure StoQ where
 m:ModS
 b:NowS
 l:List EvS
 w:NowS
def sqC : Option StoQ→List AV
 | none=> [.val (.pointer none)]
 | some s=> [.ad (stoV s.m s.b s.l s.w) 0]
instance : Inhabited StoQ:=⟨⟨⟨[],[],[],[],[],[],[]⟩,⟨[],0,[],[],[]⟩,[],⟨[],0,[],[],[]⟩⟩⟩
def sclkF(L:List (Option StoQ)) : List (List Int):=L.map fun s=>(s.getD default).w.clock
def AheadC(L:List (Option StoQ))(c:List Int) : Prop:=∃s,some s∈L∧¬ConC c s.b.clock
noncomputable instance (L:List (Option StoQ)) (c:List Int):Decidable (AheadC L c):=zC _
noncomputable instance (L:List (Option StoQ)):Decidable (none∈L∨¬AlikeC (sclkF L)):=zC _
noncomputable def comF(L:List (Option StoQ)) : Int :=
 if none∈L∨¬AlikeC (sclkF L) then 1 else if AheadC L (foldC min (sclkF L)) then 7 else 0
def ComK(code:Int)(c:List Int)(r:AV)(own:List Res) : Prop :=
 (code≠0∧r= .tup [nl0,it code]∧own= [])∨(code=0∧∃u,r= .tup [.ow u,it 0]∧own= [arrR u 3 1 c intC])
theorem scommon_a(L:List (Option StoQ))(hL:L.length≤1000000)(h:∀s,some s∈L→ShwS s.b s.l s.w) : CallA Tryz.prog 39 [.sl 1 L sqC] [] (ComK (comF L) (foldC min (sclkF L))):=by
 refine CallA.of pg ordZ Tryz.func39 rfl Tryz.ntmps39 Tryz.results39 rfl fun h0 G0 O0=>?_
 repeat'(first|apply Sp.h|refine Lk.r rfl ?_|refine Rf.mk rfl ?_|apply Im.mk|intro _)
 refine CA.nilOwn 4 22 1 clkC rfl fun v=>?_
 refine CA.loop (fun z:Nat×Value=>⟨[(0, .sl 1 L sqC),(4, .ow z.2),(10, .sl 1 L sqC),(11,it (L.length:Nat)),(12,it z.1)],[arrR z.2 22 1 (sclkF (L.take z.1)) clkC]⟩)
  (fun z=>z.1≤L.length∧∀j s,j < z.1→L[j]?=some s→s≠none) (fun z=>L.length - z.1) (0,v) xE ⟨zZ _,fun j s h=>by simp only at h;omega⟩ ?_
 rintro⟨i,u⟩ ⟨hi,hno⟩
 simp only at hi hno
 simp only
 by_cases hin:i < L.length
 ·obtain⟨s,hs⟩:=get_of hin
  cases s with
  | none =>
   have hc:comF L=1:=by rw [comF,if_pos (.inl (zM hs))]
   rw [hc]
   repeat'(first|apply Sp.h|refine Lk.r rfl ?_|refine Rf.mk rfl ?_|refine xA ?_|refine xI ?_|refine xN ?_|fail)
   exact⟨_,_, .tup (.same (.same (.z))), .inl ⟨by decide,rfl,rfl⟩⟩
  | some s =>
   have hsh:=h s (zM hs)
   have hcl:=sclock_z s.m s.b s.w s.l hsh.ck
   have hsl:(sclkF (L.take i)).length=i:=by simp [sclkF];omega
   have hsu:sclkF (L.take (i+1))=sclkF (L.take i) ++ [s.w.clock]:=by rw [sclkF,zK,hs];simp [sclkF]
   repeat'(first|apply Sp.h|refine Lk.r rfl ?_|refine Rf.mk rfl ?_|refine xA ?_|refine xP ?_|refine All.mk fun _=>?_|refine xU ?_|refine xI ?_|refine Ce.r ?_|(apply Fk.r;focus repeat' first|infer_instance|constructor)|refine Rf.mk ⟨rfl,rfl⟩ ?_|refine Rf.mk ⟨rfl,rfl,rfl⟩ ?_|(apply Mp.lit;(focus repeat(first|exact MpL.nil|(apply MpL.cons;(focus rfl))|(apply MpL.inv;(focus repeat constructor);(focus infer_instance)))))|refine xO ?_|(apply Cl.p (hcl);focus repeat' constructor))
   rw [←hsu]
   exact PA.lp (i+1,_) xE ⟨⟨hin,alli_succ hs hno (by simp)⟩,by simp only;omega⟩
 ·have:i=L.length:=by omega
  subst this
  rw [zL]
  have hnn:none ∉ L:=fun hm=>by
   obtain⟨j,hj⟩:=zO hm
   exact hno j none (zS.1 hj).1 hj rfl
  have hsl:(sclkF L).length=L.length:=by simp [sclkF]
  by_cases hal:AlikeC (sclkF L)
  rotate_left
  ·have hc:comF L=1:=by rw [comF,if_pos (.inr hal)]
   have hme:=meet_nil (sclkF L) hal
   rw [hc]
   repeat'(first|apply Sp.h|refine Lk.r rfl ?_|refine Rf.mk rfl ?_|refine xB ?_|fail)
   (apply Cl.lend (hme);(focus repeat'(first|exact Lend.nil|(apply Lend.lend;(focus repeat constructor);(focus first|omega|(simp;omega)))|fail)))
   repeat'(first|apply Sp.h|refine Lk.r rfl ?_|refine Rf.mk rfl ?_|refine xA ?_|refine xN ?_|fail)
   all_goals exact⟨_,_, .tup (.same (.same (.z))), .inl ⟨by decide,rfl,rfl⟩⟩
  have hme:=meet_o (sclkF L) hal
  have hCl:0 < (foldC min (sclkF L)).length∧(foldC min (sclkF L)).length≤5:=by
   obtain⟨c0,hc0⟩:=get_of hal.1
   have h1:=hal.2 c0 (zM hc0)
   have h2:=h1.1.2.1
   have h3:=h1.2
   have h4:=h1.1.2.2
   rw [fold_len hal]
   omega
  have hcF:comF L=if AheadC L (foldC min (sclkF L)) then 7 else 0:=by
   rw [comF,if_neg (fun h=>h.elim hnn fun h=>h hal)]
  generalize hC:foldC min (sclkF L)=C at hme hCl hcF ⊢
  repeat'(first|apply Sp.h|refine Lk.r rfl ?_|refine Rf.mk rfl ?_|refine xB ?_|fail)
  refine Cl.lendO hme (by repeat'(first|exact Lend.nil|(apply Lend.lend;(focus repeat constructor);(focus first|omega|(simp;omega)))|fail)) flat_o3 ?_
  rintro _ _ ⟨q,rfl,rfl⟩
  repeat'(first|apply Sp.h|refine Lk.r rfl ?_|refine Rf.mk rfl ?_|refine xB ?_|apply Im.mk|refine xU ?_|intro _)
  all_goals try exact(by omega:False).elim
  refine CA.loop (fun i:Nat=>⟨[(7, .ow q),(29, .sl 1 L sqC),(30,it (L.length:Nat)),(31,it i)],[arrR q 3 1 C intC]⟩)
   (fun i=>i≤L.length∧∀j s,j < i→L[j]?=some s→∀q,s=some q→ConC C q.b.clock) (fun i=>L.length - i) 0 xE ⟨zZ _,fun j s h=>by omega⟩ ?_
  rintro i ⟨hi,hco⟩
  by_cases hin2:i < L.length
  ·obtain⟨s,hs⟩:=get_of hin2
   cases s with
   | none=>exact absurd (zM hs) hnn
   | some s =>
    have hsh:=h s (zM hs)
    have hba:=sbase_z s.m s.b s.l s.w hsh.bs
    have hcc:=scontains_p C s.b.clock
    by_cases hcs:ConC C s.b.clock
    ·rw [zT hcs] at hcc
     repeat'(first|apply Sp.h|refine Lk.r rfl ?_|refine Rf.mk rfl ?_|refine xA ?_|refine xI ?_|(apply Cl.p (hba);focus repeat' constructor))
     (apply Cl.lend (hcc);(focus repeat'(first|exact Lend.nil|apply Lend.keep|(apply Lend.lend;(focus repeat constructor);(focus first|omega|(simp;omega)))|fail)))
     repeat'(first|apply Sp.h|refine Lk.r rfl ?_|refine Rf.mk rfl ?_|refine xA ?_|refine xO ?_|fail)
     exact PA.lp (i+1) xE ⟨⟨hin2,alli_succ hs hco fun q hq=>by cases hq;exact hcs⟩,by omega⟩
    ·rw [zF hcs] at hcc
     rw [hcF,if_pos ⟨s,zM hs,hcs⟩]
     repeat'(first|apply Sp.h|refine Lk.r rfl ?_|refine Rf.mk rfl ?_|refine xA ?_|refine xI ?_|(apply Cl.p (hba);focus repeat' constructor))
     (apply Cl.lend (hcc);(focus repeat'(first|exact Lend.nil|apply Lend.keep|(apply Lend.lend;(focus repeat constructor);(focus first|omega|(simp;omega)))|fail)))
     repeat'(first|apply Sp.h|refine Lk.r rfl ?_|refine Rf.mk rfl ?_|refine xB ?_|refine xN ?_|fail)
     exact⟨_,_, .tup (.same (.same (.z))), .inl ⟨by decide,rfl,rfl⟩⟩
  ·have:i=L.length:=by omega
   subst this
   rw [hcF,if_neg fun⟨s,hs,hcs⟩=>by
    obtain⟨j,hj⟩:=zO hs
    exact hcs (hco j _ (zS.1 hj).1 hj s rfl)]
   repeat'(first|apply Sp.h|refine Lk.r rfl ?_|refine Rf.mk rfl ?_|refine xB ?_|refine xN ?_|fail)
   exact⟨_,_, .tup (.same (.same (.z))), .inr ⟨rfl,_,rfl,rfl⟩⟩
instance {a b:Int} : Inv qryC [it a,it b] (a,b):=⟨rfl⟩
theorem svalQ_p(S:List Int)(B:List Bool)(V:List (List Int))(q:QryS)(h:ValK S B V q)(hl:(valQ S B V q).length≤100000) : CallP Tryz.prog 67 [.agg (snpC S B V), .agg (qryC q)] (ints (valQ S B V q)):=CallA.fz (by omega) (svalues_o S B V q h)
theorem valQ_len{S:List Int}{B:List Bool}{V:List (List Int)}(h:∀x∈V,x.length≤100000)(q:QryS) : (valQ S B V q).length≤100000:=by
 unfold valQ
 split
 ·simp
 ·split
  ·simp
  ·cases hx:V[q.2.toNat]? with
   | none=>simp
   | some x=>simpa using h x (zM hx)
def chgF(S:List Int)(B:List Bool)(V:List (List Int))(S':List Int)(B':List Bool)(V':List (List Int))(k:Int)(n:Nat) : List QryS :=
 ((List.range n).filter fun c:Nat=>decide (valQ S B V (k,(c:Int))≠valQ S' B' V' (k,(c:Int)))).map fun c:Nat=>(k,(c:Int))
theorem chgF_succ(S:List Int)(B:List Bool)(V:List (List Int))(S':List Int)(B':List Bool)(V':List (List Int))(k:Int)(n:Nat) : chgF S B V S' B' V' k (n+1)=chgF S B V S' B' V' k n ++ if valQ S B V (k,(n:Int))=valQ S' B' V' (k,(n:Int)) then [] else [(k,(n:Int))]:=by
 unfold chgF
 rw [List.range_succ,List.filter_append,List.map_append]
 congr 1
 by_cases h:valQ S B V (k,(n:Int))=valQ S' B' V' (k,(n:Int)) <;> simp [h]
theorem chgF_len{S:List Int}{B:List Bool}{V:List (List Int)}{S':List Int}{B':List Bool}{V':List (List Int)}{k:Int}{n:Nat} : (chgF S B V S' B' V' k n).length≤n:=by
 unfold chgF
 rw [List.length_map]
 exact Nat.le_trans (List.length_filter_le _ _) (by simp)
theorem schanged1_a(S:List Int)(B:List Bool)(V:List (List Int))(S':List Int)(B':List Bool)(V':List (List Int))(k:Int)(n b:Nat)(v:Value)(L:List QryS)(hL:L.length≤1000)(hn:n≤1000)(h:∀c:Nat,c < n→ValK S B V (k,(c:Int))∧ValK S' B' V' (k,(c:Int))) :
  CallA Tryz.prog 108 [it k,it n, .ad (snpC S B V) 0, .ad (snpC S' B' V') 0,pm b] [blkR b 33 [.ow v],arrR v 102 2 L qryC] fun r o=>r= .tup []∧∃v',o= [blkR b 33 [.ow v'],arrR v' 102 2 (L ++ chgF S B V S' B' V' k n) qryC]:=by
 refine CallA.of pg ord108 Tryz.func108 rfl Tryz.ntmps108 Tryz.results108 rfl fun h0 G0 O0=>?_
 repeat'(first|apply Sp.h|refine Lk.r rfl ?_|refine Rf.mk rfl ?_|fail)
 refine CA.loop (fun z:Nat×Value=>⟨[(0,it k),(2, .ad (snpC S B V) 0),(3, .ad (snpC S' B' V') 0),(4,pm b),(9,it n),(10,it z.1)],[blkR b 33 [.ow z.2],arrR z.2 102 2 (L ++ chgF S B V S' B' V' k z.1) qryC]⟩)
  (fun z=>z.1≤n) (fun z=>n - z.1) (0,v) ?_ (zZ _) ?_
 ·rw [show chgF S B V S' B' V' k 0= [] from rfl,List.append_nil]
  exact xE
 rintro⟨i,u⟩ hi
 simp only at hi
 simp only
 by_cases hin:i < n
 ·obtain⟨h1,h2⟩:=h i hin
  have hl1:=valQ_len (S:=S) (B:=B) h1.l (k,(i:Int))
  have hl2:=valQ_len (S:=S') (B:=B') h2.l (k,(i:Int))
  have hv1:=svalQ_p S B V (k,(i:Int)) h1 hl1
  have hv2:=svalQ_p S' B' V' (k,(i:Int)) h2 hl2
  have heq:=equal_p (valQ S B V (k,(i:Int))) (valQ S' B' V' (k,(i:Int)))
  have hsu:=chgF_succ S B V S' B' V' k i
  have hcl:=chgF_len (S:=S) (B:=B) (V:=V) (S':=S') (B':=B') (V':=V') (k:=k) (n:=i)
  by_cases hd:valQ S B V (k,(i:Int))=valQ S' B' V' (k,(i:Int))
  ·rw [if_pos hd,List.append_nil] at hsu
   rw [←hsu]
   rw [zT hd] at heq
   repeat'(first|apply Sp.h|refine Lk.r rfl ?_|refine Rf.mk rfl ?_|refine xA ?_|refine OpK.r rfl ?_|refine All.mk fun _=>?_|refine xT ?_|refine Ch.l ⟨rfl,rfl⟩ ?_|(apply SetAsk.r;focus repeat' constructor)|(apply Fk.r;focus repeat' first|infer_instance|constructor)|refine xN ?_|refine xD ?_|refine xO ?_|(apply Cl.p (hv1);(focus((repeat'(first|exact Lend.nil|apply Lend.keep|apply Lend.agg|fail));done)))|(apply Cl.p (hv2);(focus((repeat'(first|exact Lend.nil|apply Lend.keep|apply Lend.agg|fail));done)))|(apply Cl.p (heq);(focus((repeat'(first|exact Lend.nil|apply Lend.keep|apply Lend.agg|fail));done))))
   exact PA.lp (i+1,u) xE ⟨hin,by simp only;omega⟩
  ·rw [if_neg hd] at hsu
   rw [zF hd] at heq
   repeat'(first|apply Sp.h|refine Lk.r rfl ?_|refine Rf.mk rfl ?_|refine xA ?_|refine xB ?_|refine OpK.r rfl ?_|refine xP ?_|refine All.mk fun _=>?_|refine xU ?_|refine xT ?_|refine Ce.r ?_|refine Ch.l ⟨rfl,rfl⟩ ?_|refine xV ?_|(apply SetAsk.r;focus repeat' constructor)|(apply Fk.r;focus repeat' first|infer_instance|constructor)|refine xN ?_|refine Rf.mk ⟨rfl,rfl⟩ ?_|refine Rf.mk ⟨rfl,rfl,rfl⟩ ?_|(apply Mp.lit;(focus repeat(first|exact MpL.nil|(apply MpL.cons;(focus rfl))|(apply MpL.inv;(focus repeat constructor);(focus infer_instance)))))|refine xD ?_|refine xO ?_|(apply Cl.p (hv1);(focus((repeat'(first|exact Lend.nil|apply Lend.keep|apply Lend.agg|fail));done)))|(apply Cl.p (hv2);(focus((repeat'(first|exact Lend.nil|apply Lend.keep|apply Lend.agg|fail));done)))|(apply Cl.p (heq);(focus((repeat'(first|exact Lend.nil|apply Lend.keep|apply Lend.agg|fail));done))))
   rw [List.append_assoc,←hsu]
   exact PA.lp (i+1,_) xE ⟨hin,by simp only;omega⟩
 ·have:i=n:=by omega
  subst this
  repeat'(first|apply Sp.h|refine Lk.r rfl ?_|refine Rf.mk rfl ?_|refine xB ?_|refine xN ?_|fail)
  exact⟨_,_, .tup (.z),rfl,u,rfl⟩
def ChgK(code:Int)(rows:List QryS)(r:AV)(own:List Res) : Prop :=
 (code≠0∧r= .tup [nl0,it code]∧own= [])∨(code=0∧∃v,r= .tup [.ow v,it 0]∧own= [arrR v 102 2 rows qryC])
noncomputable def chgC(m:ModS)(b:NowS)(l:List EvS)(w:NowS)(a c:List Int) : Int :=
 if ValX m then(if chkF b.clock l w.clock a=0 then chkF b.clock l w.clock c else chkF b.clock l w.clock a) else 1
noncomputable def chgR(m:ModS)(b:NowS)(l:List EvS)(a c:List Int) : List QryS :=
 chgF (snpS m b l a) (visL m (snpS m b l a)) (snpV m b l a) (snpS m b l c) (visL m (snpS m b l c)) (snpV m b l c) 0 (strF m) ++
 chgF (snpS m b l a) (visL m (snpS m b l a)) (snpV m b l a) (snpS m b l c) (visL m (snpS m b l c)) (snpV m b l c) 2 (mrgF m).length
theorem schanged_g(m:ModS)(b:NowS)(l:List EvS)(w:NowS)(a c:List Int)(h:ShwS b l w)(hm:MOK m)(hur:UpdsRg m)(hb:b.state.length=strF m)(hev:∀e∈l,EvV m (w.clock.length:Nat) e)(hsa:ValX m→SnpOK m b l a)(hsc:ValX m→SnpOK m b l c) :
  CallG Tryz.prog 45 [mdl m, .ad (stoV m b l w) 0,ints a,ints c] [] (ChgK (chgC m b l w a c) (chgR m b l a c)):=by
 have hol:m.ops.length≤1000000000:=by have:=hm.ops;omega
 have hv:=mvalid_g m hol hur
 by_cases hx:ValX m
 rotate_left
 ·rw [chgC,if_neg hx]
  rw [zF hx] at hv
  refine CallG.of pg ord45 Tryz.func45 rfl Tryz.ntmps45 Tryz.results45 rfl fun h0 G0 O0 ga=>?_
  repeat'(first|apply Sp.h|refine Lk.r rfl ?_|refine Rf.mk rfl ?_|refine xB ?_|refine All.mk fun _=>?_|refine xT ?_|refine Ch.l ⟨rfl,rfl⟩ ?_|refine xN ?_|(apply Cl.pG (hv);(focus exact ga);focus(repeat' constructor);done))
  exact⟨_,_, .tup (.same (.same (.z))), .inl ⟨by decide,rfl,rfl⟩⟩
 rw [chgC,if_pos hx]
 rw [zT hx] at hv
 have hka:=scheck_p m b l w a h
 have hkc:=scheck_p m b l w c h
 have hta:=stake_g m b l w a h hm hx hol hur hb hev
 have htc:=stake_g m b l w c h hm hx hol hur hb hev
 have hsl:(snpS m b l a).length=strF m:=by rw [snpS,addEf_len,hb]
 have hsl2:(snpS m b l c).length=strF m:=by rw [snpS,addEf_len,hb]
 have hvl:(snpV m b l a).length=(mrgF m).length:=(hsa hx).n
 have hvk:∀j:Nat,(j < strF m→ValK (snpS m b l a) (visL m (snpS m b l a)) (snpV m b l a) (0,(j:Int))∧ValK (snpS m b l c) (visL m (snpS m b l c)) (snpV m b l c) (0,(j:Int)))∧(j < (mrgF m).length→ValK (snpS m b l a) (visL m (snpS m b l a)) (snpV m b l a) (2,(j:Int))∧ValK (snpS m b l c) (visL m (snpS m b l c)) (snpV m b l c) (2,(j:Int))):=fun j =>
  ⟨fun hj=>⟨⟨by omega, .inl ⟨rfl,by simp only;omega⟩,(hsa hx).r⟩,⟨by omega, .inl ⟨rfl,by simp only;omega⟩,(hsc hx).r⟩⟩,fun hj=>⟨⟨by omega, .inr (.inr ⟨rfl,by have:=(hsa hx).n;simp only;omega⟩),(hsa hx).r⟩,⟨by omega, .inr (.inr ⟨rfl,by have:=(hsc hx).n;simp only;omega⟩),(hsc hx).r⟩⟩⟩
 have hstr:=hm.str
 have hmr:=hm.mrg
 unfold chgR
 generalize snpS m b l a=S at hta hsl hvk ⊢
 generalize snpV m b l a=V at hta hvl hvk ⊢
 generalize visL m S=B at hta hvk ⊢
 generalize snpS m b l c=S' at htc hsl2 hvk ⊢
 generalize snpV m b l c=V' at htc hvk ⊢
 generalize visL m S'=B' at htc hvk ⊢
 generalize chkF b.clock l w.clock a=ka at hka ⊢
 generalize chkF b.clock l w.clock c=kc at hkc ⊢
 refine CallG.of pg ord45 Tryz.func45 rfl Tryz.ntmps45 Tryz.results45 rfl fun h0 G0 O0 ga=>?_
 repeat'(first|apply Sp.h|refine Lk.r rfl ?_|refine Rf.mk rfl ?_|refine xA ?_|refine All.mk fun _=>?_|refine xU ?_|refine xT ?_|refine Ch.l ⟨rfl,rfl⟩ ?_|(apply Fk.r;focus repeat' first|infer_instance|constructor)|refine Rf.mk ⟨rfl,rfl,rfl⟩ ?_|(apply Cl.pG (hv);(focus exact ga);focus(repeat' constructor);done))
 rename_i b4 v22
 refine CA.loop (fun i:Nat=>⟨[(1, .ad (stoV m b l w) 0),(2,ints a),(3,ints c),(4,pm b4),(22, .ow v22),(23,it 2),(24,it i)],[blkR b4 30 (modC m),arrR v22 22 1 [[ints a],[ints c]] id]⟩)
  (fun i=>i≤2∧(1≤i→ka=0)∧(2≤i→kc=0)) (fun i=>2 - i) 0 xE ⟨zZ _,fun h=>by omega,fun h=>by omega⟩ ?_
 rintro i ⟨hi,hi1,hi2⟩
 match i,hi with
 | 0,_ =>
  have hq:([[ints a],[ints c]]:List (List AV))[0]?=some [ints a]:=rfl
  by_cases h0:ka=0
  ·repeat'(first|apply Sp.h|refine Lk.r rfl ?_|refine Rf.mk rfl ?_|refine xA ?_|refine xU ?_|refine xI ?_|refine xJ ?_|refine xO ?_|(apply Cl.p (hka);focus(repeat' constructor);done))
   all_goals try exact(by omega:False).elim
   exact PA.lp 1 xE ⟨⟨by omega,fun _=>h0,fun h=>by omega⟩,by omega⟩
  ·repeat'(first|apply Sp.h|refine Lk.r rfl ?_|refine Rf.mk rfl ?_|refine xA ?_|refine xB ?_|refine xU ?_|refine xI ?_|refine xJ ?_|refine xN ?_|(apply Cl.p (hka);focus(repeat' constructor);done))
   all_goals try exact absurd (by omega) h0
   rw [if_neg h0]
   exact⟨_,_, .tup (.same (.same (.z))), .inl ⟨h0,rfl,rfl⟩⟩
 | 1,_ =>
  have hq:([[ints a],[ints c]]:List (List AV))[1]?=some [ints c]:=rfl
  have h0:=hi1 (Nat.le_refl _)
  rw [if_pos h0]
  by_cases h1:kc=0
  ·repeat'(first|apply Sp.h|refine Lk.r rfl ?_|refine Rf.mk rfl ?_|refine xA ?_|refine xU ?_|refine xI ?_|refine xJ ?_|refine xO ?_|(apply Cl.p (hkc);focus(repeat' constructor);done))
   all_goals try exact(by omega:False).elim
   exact PA.lp 2 xE ⟨⟨by omega,fun _=>h0,fun _=>h1⟩,by omega⟩
  ·repeat'(first|apply Sp.h|refine Lk.r rfl ?_|refine Rf.mk rfl ?_|refine xA ?_|refine xB ?_|refine xU ?_|refine xI ?_|refine xJ ?_|refine xN ?_|(apply Cl.p (hkc);focus(repeat' constructor);done))
   all_goals try exact absurd (by omega) h1
   exact⟨_,_, .tup (.same (.same (.z))), .inl ⟨h1,rfl,rfl⟩⟩
 | 2,_ =>
  have h0:=hi1 (by omega)
  have h1:=hi2 (by omega)
  rw [if_pos h0,h1]
  (repeat'(first|(show CA _ _ (Code.region 10 _ _) _ _;apply Stopped.out)|apply Sp.h|refine Lk.r rfl ?_|refine Rf.mk rfl ?_|refine xB ?_|fail));any_goals apply Stopped.mk
  refine CA.cut (fun x:Nat×Nat=>⟨[(13,pm x.1),(14,pm x.2)],[blkR x.1 121 (snpC S B V),blkR x.2 121 (snpC S' B' V')]⟩) (fun _=>True) ?_ ?_
  ·repeat'(first|apply Sp.h|refine Lk.r rfl ?_|refine Rf.mk rfl ?_|refine OpK.r rfl ?_|refine All.mk fun _=>?_|refine xT ?_|refine Ch.l ⟨rfl,rfl⟩ ?_|(apply SetAsk.r;focus repeat' constructor)|refine xN ?_|refine xD ?_|exact trivial|apply RA'.both|(apply Cl.pG (hta);(focus exact ga);focus(repeat' constructor);done)|(apply Cl.pG (htc);(focus exact ga);focus(repeat' constructor);done))
   all_goals exact PA.lp (_,_) xE trivial
  rintro⟨b13,b14⟩ -
  simp only
  (repeat'(first|(show CA _ _ (Code.region 11 _ _) _ _;apply Stopped.out)|apply Sp.h|fail));any_goals apply Stopped.mk
  refine CA.freezeB 13 rfl (by repeat constructor) ?_
  refine CA.freezeB 14 rfl (by repeat constructor) ?_
  (repeat'(first|(show CA _ _ (Code.region 12 _ _) _ _;apply Stopped.out)|apply Sp.h|refine Lk.r rfl ?_|refine Rf.mk rfl ?_|apply All.mk|refine xN ?_|intro _));any_goals apply Stopped.mk
  rename_i b15
  refine CA.nilCell (b:=b15) (i:=0) (by repeat constructor) rfl 102 2 qryC fun v=>?_
  have hc1:=schanged1_a S B V S' B' V' 0 (strF m) b15 v [] (by simp) (by omega) fun j hj=>(hvk j).1 hj
  rw [List.nil_append] at hc1
  have hcl:=chgF_len (S:=S) (B:=B) (V:=V) (S':=S') (B':=B') (V':=V') (k:=0) (n:=strF m)
  have hc2:=fun u=>schanged1_a S B V S' B' V' 2 (mrgF m).length b15 u (chgF S B V S' B' V' 0 (strF m)) (by omega) (by omega) fun j hj=>(hvk j).2 hj
  rw [←hsl] at hc1 hc2 ⊢
  rw [←hvl] at hc2 ⊢
  repeat'(first|apply Sp.h|refine Lk.r rfl ?_|refine Rf.mk rfl ?_|apply Im.mk|intro _)
  refine xW (hc1) ?_
  rintro _ _ ⟨rfl,v2,rfl⟩
  repeat'(first|apply Sp.h|refine Lk.r rfl ?_|refine Rf.mk rfl ?_|apply Im.mk|intro _)
  have hc2:=hc2 v2
  refine xW (hc2) ?_
  rintro _ _ ⟨rfl,v3,rfl⟩
  repeat'(first|apply Sp.h|refine Lk.r rfl ?_|refine Rf.mk rfl ?_|refine xT ?_|refine xN ?_|fail)
  exact⟨_,_, .tup (.same (.same (.z))), .inr ⟨rfl,v3,rfl,rfl⟩⟩
theorem tup_mrg{m:ModS}(hl:LayX m.sorts m.tables){c:Int}{ti:Nat}{q:List Int}{t:TblS}(h:tupF m.sorts m.tables false c=some (ti,q))(ht:m.tables[ti]?=some t) : 0≤c∧(mrgF m)[c.toNat]?=some t:=by
 unfold tupF at h
 split at h
 rotate_left
 ·cases h
 rename_i hh
 obtain⟨j,h1,h2⟩:=Option.bind_eq_some_iff.1 h
 obtain⟨t',h3,h4⟩:=Option.map_eq_some_iff.1 h2
 injection h4 with h4 h5
 subst h4
 rw [ht] at h3;cases h3
 unfold tabF at h1
 obtain⟨hjl,hj2,-⟩:=List.findIdx?_eq_some_iff_getElem.1 h1
 have hjt:m.tables[j]=t:=(zS.1 ht).2
 rw [hjt] at hj2
 obtain⟨g1,g2,g3⟩:=of_decide_eq_true hj2
 have hns:¬isStrict t.kind:=of_decide_eq_false g1
 have hx:=hl.t j t ht
 have hf:=hx.fs
 rw [g1] at hf
 have hc:=hx.ok.1
 have hsz:=(sz_fit (m:=m) hc).1
 have hnum:numF m.sorts t.cols=(szF m t:Nat):=by rw [numF,if_pos hc];exact hsz
 have hlen:((mrgL m (m.tables.take j)).length:Int)=sumK m.sorts false (m.tables.take j):=by
  have key:∀l:List TblS,(∀t∈l,t∈m.tables)→((mrgL m l).length:Int)=sumK m.sorts false l:=by
   intro l
   induction l with
   | nil=>intro _;rfl
   | cons t l ih =>
    intro h
    have ih:=ih fun t ht=>h t (by simp [ht])
    have hc:=(hl.ok.2.2.2 t (h t (by simp))).1
    have h1:=(sz_fit (m:=m) hc).1
    unfold mrgL sumK at ih ⊢
    simp only [List.map_cons,List.sum_cons,List.flatMap_cons,zP]
    rw [←ih]
    by_cases hs:isStrict t.kind
    ·rw [if_pos hs,if_neg (by simp [hs])];simp
    ·rw [if_neg hs,if_pos (by simp [hs]),numF,if_pos hc,zR];omega
  exact key _ fun t ht=>zW ht
 refine⟨hh.2, ?_⟩
 have hsp:mrgF m=mrgL m (m.tables.take (j+1)) ++ mrgL m (m.tables.drop (j+1)):=by
  show mrgL m m.tables=_
  unfold mrgL
  rw [←List.flatMap_append,List.take_append_drop]
 have hsu:=mrgL_succ (m:=m) ht
 rw [if_neg hns] at hsu
 rw [hsp,zI (by rw [hsu,zP,zR];omega),hsu,zJ (by omega),List.getElem?_replicate,if_pos (by omega)]
theorem dlt_len{n:Nat}{l:List (Int×Int)}(h:∀(i:Nat) (p:Int×Int),l[i]?=some p→DltI n l i p) : l.length≤n:=by
 have key:∀(i:Nat) (p:Int×Int),l[i]?=some p→(i:Int)≤p.1:=by
  intro i
  induction i with
  | zero=>intro p hp;have:=(h 0 p hp).a;omega
  | succ i ih =>
   intro p hp
   obtain⟨q,hq⟩:=get_of (l:=l) (i:=i) (by have:=(zS.1 hp).1;omega)
   have h1:=ih q hq
   have h2:=(h (i+1) p hp).e q (by omega) hq
   omega
 rcases Nat.eq_zero_or_pos l.length with h0|h0
 ·omega
 ·obtain⟨p,hp⟩:=get_of (l:=l) (i:=l.length - 1) (by omega)
  have h1:=key _ p hp
  have h2:=(h _ p hp).b
  omega
theorem ValX.eff{m:ModS}(hx:ValX m){a:ActS}(ha:a∈m.acts) : EffX m a.eff:=by
 obtain⟨i,hi⟩:=zO ha
 exact(hx.act.a i a hi).e
theorem ValX.mok{m:ModS}(hx:ValX m) : MOK m:=by
 have h1:=strR_len hx.lay
 have h2:=mrgF_sum hx.lay.ok
 have h3:(strR m).length≤128:=rngF_len
 refine⟨hx.lay.ok,hx.act.o.l,hx.act.l,fun a ha=>?_,by omega,by have:=hx.lay.m;omega⟩
 have he:=hx.eff ha
 have hd:=dlt_len he.d
 refine⟨by omega,he.hl,he.ul,fun p hp=>?_,fun p hp=>?_⟩
 ·obtain⟨i,hi⟩:=zO hp
  have g:=he.d i p hi
  have g1:=g.a
  have g2:=g.b
  omega
 ·obtain⟨i,hi⟩:=zO hp
  obtain⟨ti,q,t,g1,g2,-⟩:=(he.u i p hi).1
  obtain⟨g3,g4⟩:=tup_mrg hx.lay g1 g2
  have:=(zS.1 g4).1
  omega
theorem ValX.fit{m:ModS}(hx:ValX m) : FitU m:=by
 intro a ha u hu i t hi ht
 obtain⟨j,hj⟩:=zO hu
 obtain⟨ti,q,t',g1,g2,g3,g4⟩:=((hx.eff ha).u j u hj).1
 obtain⟨g5,g6⟩:=tup_mrg hx.lay g1 g2
 rw [hi,Int.toNat_natCast,ht] at g6
 cases g6
 unfold isSet13 at g3 g4
 unfold isSt
 refine⟨⟨fun h=>(g3 h).1,fun h=>Classical.byContradiction fun h9=>?_⟩,fun h=>(g4 h).2⟩
 have:=(g4 h9).1
 omega
theorem vals_ok{m:ModS}{k:List MgS}(h:ValL (mrgF m) k) : (valuesQ m k).2.length=(mrgF m).length∧∀x∈(valuesQ m k).2,x.length≤100000:=by
 rw [valuesQ_ok h]
 refine⟨by rw [valsF_len];have:=h.1;omega,fun x hx=>?_⟩
 obtain⟨i,hi⟩:=zO hx
 unfold valsF at hi
 rw [zG] at hi
 obtain⟨p,hp,rfl⟩:=Option.map_eq_some_iff.1 hi
 obtain⟨h1,h2⟩:=List.getElem?_zip_eq_some.1 hp
 have h3:=valL_len h h1 h2
 have h4:=valK_len p.1 p.2
 omega
theorem stN_okL{m:ModS}{l X:List EvS}{ld:List Int}(hc:ClosedE l)(hne:0 < l.length)(hln:ld.length=strF m)(hX:∀e∈X,e∈l)(hl:X.length≤1000) : NowOK m (stN m (n0 l) ld X):=by
 obtain⟨e,he⟩:=get_of (l:=l) (i:=0) hne
 have hr:=n0_rng hc (zM he)
 refine⟨clk_valC hc hX hr,by simp only [stN,foldE_len];exact hln, ?_, ?_⟩
 ·simp only [stN,places_srt];exact(srtD_si _).1
 ·simp only [stN,places_srt]
  have:=srtD_len (plL X);have:=plL_len X
  omega
theorem szN_stNL{m:ModS}{l X:List EvS}{ld:List Int}(hm:MOK m)(hc:ClosedE l)(hne:0 < l.length)(hln:ld.length=strF m)(hX:∀e∈X,e∈l)(hl:X.length≤1000) : SzN (stN m (n0 l) ld X):=by
 have h:=stN_okL (ld:=ld) hc hne hln hX hl
 have h1:=szM_stN (m:=m) hm (n0 l) ld X
 exact⟨by have:=h.clk.2.2;omega,by rw [h.st];have:=hm.str;omega,h1.1,h1.2,h.pll⟩
theorem rows_len{m:ModS}{b:NowS}{l:List EvS}{c:List Int}{qs:List QryS}(hs:SnpOK m b l c) : (rowsF m b l c qs).length=qs.length∧∀x∈rowsF m b l c qs,x.length≤1000000:=by
 refine⟨by simp [rowsF],fun x hx=>?_⟩
 obtain⟨q,-,rfl⟩:=List.mem_map.1 hx
 unfold valQ
 split
 ·simp
 split
 ·simp
 cases h:(snpV m b l c)[q.2.toNat]? with
 | none=>simp
 | some y=>have:=hs.r y (zM h);simp only [Option.getD_some];omega
theorem few09_c(sizes:List Int)(l:List TblS) : CallF Tryz.prog 110 [ints sizes,tbls l] True:=by
 refine CallA.of pg ordZ Tryz.func110 rfl Tryz.ntmps110 Tryz.results110 rfl fun h0 G0 O0=>?_
 repeat'(first|apply Sp.h|refine Lk.r rfl ?_|refine Rf.mk rfl ?_|fail)
 refine CA.loop (fun i:Nat=>⟨[(0,ints sizes),(1,tbls l),(5,it i)],[]⟩) (fun i=>i≤l.length) (fun i=>l.length - i) 0 xE (zZ _) ?_
 intro i hi
 by_cases hin:i < l.length
 ·obtain⟨t,ht⟩:=get_of hin
  repeat'(first|apply Sp.h|refine Lk.r rfl ?_|refine Rf.mk rfl ?_|refine xA ?_|refine xB ?_|apply Bd.mk|apply Im.mk|refine xI ?_|refine xN ?_|refine xO ?_|intro _)
  all_goals first
   | exact PA.lp (i+1) xE ⟨hin,by omega⟩
   | exact⟨_,_, .one (.same (.z)),_,rfl,rfl,fun _=>trivial⟩
 ·repeat'(first|apply Sp.h|refine Lk.r rfl ?_|refine Rf.mk rfl ?_|refine xA ?_|refine xB ?_|apply Bd.mk|apply Im.mk|refine xN ?_|intro _)
  all_goals exact⟨_,_, .one (.same (.z)),_,rfl,rfl,fun _=>trivial⟩
theorem bounded_c(m:ModS) : CallF Tryz.prog 48 [mdl m] (m.ops.length≤8):=by
 have h9:=few09_c m.sorts m.tables
 refine CallA.of pg ordZ Tryz.func48 rfl Tryz.ntmps48 Tryz.results48 rfl fun h0 G0 O0=>?_
 by_cases hol:¬m.ops.length≤8
 ·repeat'(first|apply Sp.h|refine Lk.r rfl ?_|refine Rf.mk rfl ?_|refine xA ?_|refine xB ?_|apply Bd.mk|apply Im.mk|apply All.mk|refine xT ?_|refine xN ?_|intro _)
  all_goals first
   | exact⟨_,_, .one (.same (.z)),_,rfl,rfl,fun h=>by cases h⟩
   | exact(hol (by omega)).elim
 have hol:m.ops.length≤8:=Classical.not_not.1 hol
 (repeat'(first|(show CA _ _ (Code.region 1 _ _) _ _;apply Stopped.out)|apply Sp.h|refine Lk.r rfl ?_|refine Rf.mk rfl ?_|apply All.mk|intro _));any_goals apply Stopped.mk
 rename_i b1
 repeat'(first|apply Sp.h|refine Lk.r rfl ?_|refine Rf.mk rfl ?_|refine xA ?_|refine xB ?_|apply Bd.mk|apply Im.mk|refine xT ?_|refine xN ?_|intro _)
 all_goals try exact⟨_,_, .one (.same (.z)),_,rfl,rfl,fun h=>by cases h⟩
 refine xW (h9) ?_
 rintro _ _ ⟨b,rfl,rfl,-⟩
 cases b
 ·repeat'(first|apply Sp.h|refine Lk.r rfl ?_|refine Rf.mk rfl ?_|refine xB ?_|refine xN ?_|fail)
  exact⟨_,_, .one (.same (.z)),_,rfl,rfl,fun h=>by cases h⟩
 repeat'(first|apply Sp.h|refine Lk.r rfl ?_|refine Rf.mk rfl ?_|refine xA ?_|refine xB ?_|fail)
 refine CA.loop (fun i:Nat=>⟨[(1,pm b1),(3,it i)],[mR b1 m]⟩) (fun i=>i≤m.families.length) (fun i=>m.families.length - i) 0 xE (zZ _) ?_
 intro i hi
 by_cases hin:i < m.families.length
 ·obtain⟨t,ht⟩:=get_of hin
  repeat'(first|apply Sp.h|refine Lk.r rfl ?_|refine Rf.mk rfl ?_|refine xA ?_|apply Bd.mk|apply Im.mk|refine xT ?_|refine xI ?_|refine xN ?_|refine xO ?_|intro _)
  all_goals first
   | exact PA.lp (i+1) xE ⟨hin,by omega⟩
   | exact⟨_,_, .one (.same (.z)),_,rfl,rfl,fun h=>by cases h⟩
 repeat'(first|apply Sp.h|refine Lk.r rfl ?_|refine Rf.mk rfl ?_|refine xB ?_|apply Im.mk|refine xT ?_|intro _)
 refine CA.loop (fun i:Nat=>⟨[(1,pm b1),(4,it i)],[mR b1 m]⟩) (fun i=>i≤m.cons.length) (fun i=>m.cons.length - i) 0 xE (zZ _) ?_
 intro i hi
 by_cases hin:i < m.cons.length
 ·obtain⟨t,ht⟩:=get_of hin
  repeat'(first|apply Sp.h|refine Lk.r rfl ?_|refine Rf.mk rfl ?_|refine xA ?_|apply Bd.mk|apply Im.mk|refine xT ?_|refine xI ?_|refine xN ?_|refine xO ?_|intro _)
  all_goals first
   | exact PA.lp (i+1) xE ⟨hin,by omega⟩
   | exact⟨_,_, .one (.same (.z)),_,rfl,rfl,fun h=>by cases h⟩
 repeat'(first|apply Sp.h|refine Lk.r rfl ?_|refine Rf.mk rfl ?_|refine xB ?_|apply Im.mk|refine xT ?_|intro _)
 refine CA.loop (fun i:Nat=>⟨[(1,pm b1),(5,it i)],[mR b1 m]⟩) (fun i=>i≤m.ops.length) (fun i=>m.ops.length - i) 0 xE (zZ _) ?_
 intro i hi
 by_cases hin:i < m.ops.length
 ·obtain⟨t,ht⟩:=get_of hin
  repeat'(first|apply Sp.h|refine Lk.r rfl ?_|refine Rf.mk rfl ?_|refine xA ?_|refine xB ?_|apply Bd.mk|apply Im.mk|refine xT ?_|refine xI ?_|refine xN ?_|refine xO ?_|intro _)
  all_goals first
   | exact PA.lp (i+1) xE ⟨hin,by omega⟩
   | exact⟨_,_, .one (.same (.z)),_,rfl,rfl,fun h=>by cases h⟩
 repeat'(first|apply Sp.h|refine Lk.r rfl ?_|refine Rf.mk rfl ?_|refine xB ?_|apply Im.mk|refine xT ?_|intro _)
 refine CA.loop (fun i:Nat=>⟨[(1,pm b1),(6,it i)],[mR b1 m]⟩) (fun i=>i≤m.acts.length) (fun i=>m.acts.length - i) 0 xE (zZ _) ?_
 intro i hi
 by_cases hin:i < m.acts.length
 ·obtain⟨a,ha⟩:=get_of hin
  (repeat'(first|(show CA _ _ (Code.region 22 _ _) _ _;apply Stopped.out)|apply Sp.h|refine Lk.r rfl ?_|refine Rf.mk rfl ?_|refine xA ?_|apply Im.mk|apply All.mk|refine xT ?_|refine xI ?_|refine Ch.r ?_|(apply SetAsk.r;focus repeat' constructor)|refine xN ?_|intro _));any_goals apply Stopped.mk
  rename_i b7
  repeat'(first|apply Sp.h|refine Lk.r rfl ?_|refine Rf.mk rfl ?_|refine xA ?_|refine xB ?_|apply Bd.mk|apply Im.mk|refine xT ?_|refine xI ?_|refine xN ?_|intro _)
  all_goals try exact⟨_,_, .one (.same (.z)),_,rfl,rfl,fun h=>by cases h⟩
  refine CA.loop (fun k:Nat=>⟨[(1,pm b1),(6,it i),(7,pm b7),(8,it k)],[mR b1 m,blkR b7 140 (effC a.eff)]⟩) (fun k=>k≤a.eff.hold.length) (fun k=>a.eff.hold.length - k) 0 xE (zZ _) ?_
  intro k hk
  by_cases hkn:k < a.eff.hold.length
  ·obtain⟨r,hr⟩:=get_of hkn
   repeat'(first|apply Sp.h|refine Lk.r rfl ?_|refine Rf.mk rfl ?_|refine xA ?_|apply Bd.mk|apply Im.mk|refine xT ?_|refine xI ?_|refine xN ?_|refine xO ?_|intro _)
   all_goals first
    | exact PA.lp (k+1) xE ⟨hkn,by omega⟩
    | exact⟨_,_, .one (.same (.z)),_,rfl,rfl,fun h=>by cases h⟩
  repeat'(first|apply Sp.h|refine Lk.r rfl ?_|refine Rf.mk rfl ?_|refine xB ?_|apply Im.mk|refine xT ?_|refine xO ?_|intro _)
  exact PA.lp (i+1) xE ⟨hin,by omega⟩
 repeat'(first|apply Sp.h|refine Lk.r rfl ?_|refine Rf.mk rfl ?_|refine xB ?_|apply Im.mk|refine xT ?_|refine xN ?_|intro _)
 exact⟨_,_, .one (.same (.z)),_,rfl,rfl,fun _=>hol⟩
theorem few1_p(e:EvS) : CallP Tryz.prog 50 [evA' e] (.val (.bool (decide (8 < e.past.length)))):=by
 refine CallA.of pg ordZ Tryz.func50 rfl Tryz.ntmps50 Tryz.results50 rfl fun h0 G0 O0=>?_
 repeat'(first|apply Sp.h|refine Lk.r rfl ?_|refine Rf.mk rfl ?_|apply Im.mk|apply All.mk|refine xT ?_|refine xN ?_|intro _)
 exact Fin.p rfl (vb (zD.2 (by omega)))
theorem containsF0_p{g:FuncId}{p:EvS→Bool}(hg:∀e,CallP Tryz.prog g [evA' e] (.val (.bool (p e))))(he:en g=true)(l:List EvS) :
  CallP Tryz.prog 49 [evs l, .fn g []] (.val (.bool (decide (idxN p l < l.length)))):=by
 have hi:CallP Tryz.prog 111 [evs l, .fn g []] (.val (.int .i64 (idxI p l))):=by
  refine CallA.of pg ordZ Tryz.func111 rfl Tryz.ntmps111 Tryz.results111 rfl fun h0 G0 O0=>?_
  repeat'(first|apply Sp.h|refine Lk.r rfl ?_|refine Rf.mk rfl ?_|apply Im.mk|intro _)
  rename_i hll
  refine CA.loop (fun i:Nat=>⟨[(0,evs l),(1, .fn g []),(7, .val (.int .i64 l.length)),(8, .val (.int .i64 i))],[]⟩)
   (fun i=>i≤l.length∧∀j y,j < i→l[j]?=some y→p y=false) (fun i=>l.length - i) 0 xE ⟨zZ _,fun j y h=>by omega⟩ ?_
  rintro i ⟨hi,hj⟩
  by_cases hin:i < l.length
  ·obtain⟨e,hx⟩:=get_of hin
   repeat'(first|apply Sp.h|refine Lk.r rfl ?_|refine Rf.mk rfl ?_|refine xA ?_|(refine Bd.mk ?_ ?_ <;> intro _)|refine xI ?_|refine Ch.l ⟨rfl,rfl⟩ ?_|refine xN ?_|(apply Rf.mk;(focus assumption))|refine xO ?_|(apply Cl.p (hg e);focus repeat' constructor))
   ·rename_i hp
    exact Fin.p rfl (by rw [idxI,idxN_of hx hp hj,if_pos hin])
   ·rename_i hp
    exact PA.lp (i+1) xE ⟨⟨hin,alli_succ hx hj (by simpa using hp)⟩,by omega⟩
  ·repeat'(first|apply Sp.h|refine Lk.r rfl ?_|refine Rf.mk rfl ?_|refine xB ?_|refine xN ?_|fail)
   exact Fin.p rfl (by rw [idxI,idxN_none (fun x hx=>by obtain⟨j,hx⟩:=zO hx;exact hj j x (by have:=(zS.1 hx).1;omega) hx),if_neg (by omega)])
 refine CallA.of pg ordZ Tryz.func49 rfl Tryz.ntmps49 Tryz.results49 rfl fun h0 G0 O0=>?_
 repeat'(first|apply Sp.h|refine Lk.r rfl ?_|refine Rf.mk rfl ?_|refine xN ?_|(apply Cl.p (hi);focus repeat' constructor))
 refine Fin.p rfl (vb (zD.2 ?_))
 unfold idxI
 split <;> omega
structure FewS (m:ModS) (ld:List Int) (l:List EvS) (order:List Int):Prop where
 fo:m.ops.length≤8
 fd:ld.length≤150
 fl:l.length≤12
 fr:order.length≤20
 fp:∀e∈l,e.past.length≤8
theorem few53_c(m:ModS)(ld:List Int)(l:List EvS)(order:List Int) : CallF Tryz.prog 10 [mdl m,ints ld,evs l,u8s order] (FewS m ld l order):=by
  have hb:=bounded_c m
  have hc:=containsF0_p few1_p rfl l
  refine CallA.of pg ordZ Tryz.func10 rfl Tryz.ntmps10 Tryz.results10 rfl fun h0 G0 O0=>?_
  repeat'(first|apply Sp.h|refine Lk.r rfl ?_|refine Rf.mk rfl ?_|apply All.mk|refine xT ?_|refine Ch.l ⟨rfl,rfl⟩ ?_|intro _)
  refine xW (hb) ?_
  rintro _ _ ⟨b,rfl,rfl,hol⟩
  cases b
  · repeat'(first|apply Sp.h|refine Lk.r rfl ?_|refine xN ?_|fail)
    exact⟨_,_, .one (.same (.z)),_,rfl,rfl,fun h=>by cases h⟩
  have hol:=hol rfl
  repeat'(first|apply Sp.h|refine Lk.r rfl ?_|refine Rf.mk rfl ?_|refine xA ?_|refine xB ?_|(refine Bd.mk ?_ ?_ <;> intro _)|refine Im.mk fun _=>?_|refine xN ?_|(apply Cl.p (hc);focus repeat' constructor))
  all_goals first
    | exact⟨_,_, .one (.same (.z)),_,rfl,rfl,fun h=>by cases h⟩
    | (refine⟨_,_, .one (.same (.z)),_,rfl,rfl,fun h=>⟨hol,by omega,by omega,by omega,fun e he=>Classical.byContradiction fun h9=>?_⟩⟩
       have h8:=(idxB_lt (p:=fun e:EvS=>decide (8 < e.past.length)) (l:=l)).2 ⟨e,he,zT (by omega)⟩
       simp at h
       omega)
def sumC(c:List Int) : Int:=c.foldl (· + ·) 0
theorem sumC_succ{c:List Int}{i:Nat}{x:Int}(h:c[i]?=some x) : sumC (c.take (i+1))=sumC (c.take i)+x:=by
 unfold sumC
 rw [zK,h,Option.toList_some,List.foldl_append]
 rfl
theorem sumC_bnd{c:List Int}(h:ValC c) :∀i,i≤c.length→0≤sumC (c.take i)∧sumC (c.take i)≤1024 * (i:Int):=by
 intro i
 induction i with
 | zero=>intro _;simp [sumC]
 | succ i ih =>
  intro hi
  obtain⟨x,hx⟩:=get_of (l:=c) (i:=i) (by omega)
  have h1:=ih (by omega)
  have h2:=h.1 x (zM hx)
  unfold rngK at h2
  rw [sumC_succ hx]
  omega
theorem countR_p(c:List Int)(h:ValC c) : CallP Tryz.prog 76 [ints c] (it (sumC c)):=by
 have hv:=validR_p c
 rw [zT h] at hv
 have h5:=h.2
 refine CallA.of pg ordZ Tryz.func76 rfl Tryz.ntmps76 Tryz.results76 rfl fun h0 G0 O0=>?_
 repeat'(first|apply Sp.h|refine Lk.r rfl ?_|refine Rf.mk rfl ?_|fail)
 refine CA.loop (fun i:Nat=>⟨[(0,ints c),(3,it (sumC (c.take i))),(4,it i)],[]⟩) (fun i=>i≤c.length) (fun i=>c.length - i) 0 xE (zZ _) ?_
 intro i hi
 have hb:=sumC_bnd h i hi
 by_cases hin:i < c.length
 ·obtain⟨x,hx⟩:=get_of hin
  have h2:=h.1 x (zM hx)
  unfold rngK at h2
  repeat'(first|apply Sp.h|refine Lk.r rfl ?_|refine Rf.mk rfl ?_|refine xA ?_|refine Im.mk fun _=>?_|refine xI ?_|refine xO ?_|(apply Cl.p (hv);focus repeat' constructor))
  rw [←sumC_succ hx]
  all_goals exact PA.lp (i+1) xE ⟨hin,by omega⟩
 ·have hie:i=c.length:=by omega
  subst hie
  rw [zL]
  repeat'(first|apply Sp.h|refine Lk.r rfl ?_|refine Rf.mk rfl ?_|refine xB ?_|refine Im.mk fun _=>?_|refine xN ?_|(apply Cl.p (hv);(focus repeat'(first|fail))))
  all_goals exact Fin.p rfl rfl
theorem cover{α:Type}[DecidableEq α] :∀(N A:List α),N.Nodup→(∀x∈N,x∈A)→A.length≤N.length→∀a∈A,a∈N:=by
 intro N
 induction N with
 | nil =>
  intro A _ _ hl a ha
  rw [List.length_nil] at hl
  rw [zQ (by omega:A.length=0)] at ha
  cases ha
 | cons x N ih =>
  intro A hn hs hl a ha
  obtain⟨h1,h2⟩:=List.nodup_cons.1 hn
  by_cases hax:a=x
  ·rw [hax];simp
  have hxA:=hs x (by simp)
  have hle:=List.length_erase_of_mem hxA
  have hp:=List.length_pos_of_mem hxA
  rw [List.length_cons] at hl
  refine List.mem_cons_of_mem _ (ih (A.erase x) h2 (fun y hy=>?_) (by omega) a ((List.mem_erase_of_ne hax).2 ha))
  exact(List.mem_erase_of_ne (fun h:y=x=>h1 (by rw [←h];exact hy))).2 (hs y (List.mem_cons_of_mem _ hy))
def allN : List Int→Nat→List (List Int)
 | [],_=> []
 | n :: c,r=>(List.range n.toNat).map (fun k:Nat=> [(r:Int),(k:Int)+1]) ++ allN c (r+1)
theorem foldl_add :∀(c:List Int) (a:Int),c.foldl (· + ·) a=a+c.foldl (· + ·) 0:=by
 intro c
 induction c with
 | nil=>intro a;simp
 | cons x c ih=>intro a;rw [List.foldl_cons,List.foldl_cons,ih,ih (0+x)];omega
theorem allN_len :∀(c:List Int) (r:Nat),(∀x∈c,0≤x)→((allN c r).length:Int)=sumC c:=by
 intro c
 induction c with
 | nil=>intro r _;rfl
 | cons x c ih =>
  intro r h
  have h0:=h x (by simp)
  have hi:=ih (r+1) fun y hy=>h y (List.mem_cons_of_mem _ hy)
  unfold sumC at hi ⊢
  rw [List.foldl_cons,foldl_add,allN,zP,List.length_map,List.length_range]
  omega
theorem allN_mem :∀(c:List Int) (r q:Nat) (n i:Int),c[q]?=some n→1≤i→i≤n→ [((r+q:Nat):Int),i]∈allN c r:=by
 intro c
 induction c with
 | nil=>intro r q n i h;cases h
 | cons x c ih =>
  intro r q n i h h1 h2
  cases q with
  | zero =>
   cases h
   refine zV.2 (.inl (List.mem_map.2 ⟨(i - 1).toNat,List.mem_range.2 (by omega), ?_⟩))
   rw [show(((i - 1).toNat:Nat):Int)+1=i by omega];rfl
  | succ q =>
   refine zV.2 (.inr ?_)
   have:=ih (r+1) q n i h h1 h2
   rw [show r+1+q=r+(q+1) by omega] at this
   exact this
structure CkE (l:List EvS) (j:Nat) (e:EvS):Prop where
 f:FormedE e
 n:e.past.length=n0 l
 u:∀(k:Nat) d,l[k]?=some d→k≠j→nm d≠nm e
 b:∀d∈l,BefE d e→Ins d.past e.past∧d.time < e.time
 c:((l.filter fun d=>decide (BefE d e)).length:Int)=sumC e.past
theorem closed_of{l:List EvS}(hl:l.length≤1024)(h:∀j e,l[j]?=some e→CkE l j e) : ClosedE l:=by
 have hu:Uniq l:=fun i j a b ha hb hn=>Classical.byContradiction fun hij=>(h j b hb).u i a ha hij hn
 refine⟨hl,hu,fun e he=>?_,fun e he r n hr i h1 h2=>?_⟩
 ·obtain⟨j,hj⟩:=zO he
  exact⟨(h j e hj).f,(h j e hj).n⟩
 obtain⟨j,hj⟩:=zO he
 have hk:=h j e hj
 have hN:((l.filter fun d=>decide (BefE d e)).map nm).Nodup:=by
  have hnl:(l.map nm).Nodup:=by
   rw [List.nodup_iff_pairwise_ne,List.pairwise_map,List.pairwise_iff_getElem]
   intro a b ha hb hab hne
   have:=hu a b l[a] l[b] (zE ha) (zE hb) hne
   omega
  exact hnl.sublist (List.filter_sublist.map nm)
 have hsub:∀x∈(l.filter fun d=>decide (BefE d e)).map nm,x∈allN e.past 0:=by
  intro x hx
  obtain⟨d,hd,rfl⟩:=List.mem_map.1 hx
  obtain⟨hd1,hd2⟩:=List.mem_filter.1 hd
  obtain⟨_,_,_,g2,g3,y,g4,g5⟩:=of_decide_eq_true hd2
  have:=allN_mem e.past 0 d.rep.toNat y d.num g4 g3 g5
  rw [show((0+d.rep.toNat:Nat):Int)=d.rep by omega] at this
  exact this
 have hlen:=allN_len e.past 0 fun x hx=>by have:=hk.f.1.1 x hx;unfold rngK at this;omega
 have hc:=hk.c
 have hin:=cover _ _ hN hsub (by rw [List.length_map];omega) _ (allN_mem e.past 0 r n i hr h1 h2)
 obtain⟨d,hd,hdn⟩:=List.mem_map.1 hin
 obtain⟨hd1,hd2⟩:=List.mem_filter.1 hd
 have hdn':d.rep=((0+r:Nat):Int)∧d.num=i:=by simpa [nm] using hdn
 obtain⟨j2,hj2⟩:=zO hd1
 have hk2:=h j2 d hj2
 obtain⟨b1,b2⟩:=hk.b d hd1 (of_decide_eq_true hd2)
 exact⟨d,hd1,by omega,hdn'.2,⟨(alike2' _ _).2 ⟨hk2.f.1,hk.f.1,by rw [hk2.n,hk.n]⟩,b1⟩,b2⟩
theorem closed32_c(l:List EvS) : CallF Tryz.prog 23 [evs l] (ClosedE l):=by
 refine CallA.of pg ord23 Tryz.func23 rfl Tryz.ntmps23 Tryz.results23 rfl fun h0 G0 O0=>?_
 by_cases hl:¬l.length≤1024
 ·repeat'(first|apply Sp.h|refine Lk.r rfl ?_|refine Rf.mk rfl ?_|refine xA ?_|apply Im.mk|refine xN ?_|intro _)
  all_goals first
   | exact⟨_,_, .one (.same (.z)),_,rfl,rfl,fun h=>by cases h⟩
   | exact(hl (by omega)).elim
 have hl:l.length≤1024:=Classical.not_not.1 hl
 repeat'(first|apply Sp.h|refine Lk.r rfl ?_|refine Rf.mk rfl ?_|refine xB ?_|apply Im.mk|intro _)
 all_goals try exact(by omega:False).elim
 refine CA.loop (fun i:Nat=>⟨[(0,evs l),(3,it i)],[]⟩) (fun i=>i≤l.length∧∀j e,j < i→l[j]?=some e→CkE l j e) (fun i=>l.length - i) 0 xE ⟨zZ _,fun j e h=>by omega⟩ ?_
 rintro i ⟨hi,hck⟩
 by_cases hin:i < l.length
 rotate_left
 ·have:i=l.length:=by omega
  subst this
  have hcl:ClosedE l:=closed_of hl fun j e hj=>hck j e (zS.1 hj).1 hj
  repeat'(first|apply Sp.h|refine Lk.r rfl ?_|refine Rf.mk rfl ?_|refine xB ?_|apply Im.mk|refine xN ?_|intro _)
  exact⟨_,_, .one (.same (.z)),_,rfl,rfl,fun _=>hcl⟩
 obtain⟨e,he⟩:=get_of hin
 obtain⟨d,hd⟩:=get_of (l:=l) (i:=0) (by omega)
 have hn0:n0 l=d.past.length:=by rw [n0,hd];rfl
 have hfo:=formedR_p e
 by_cases hf:FormedE e
 rotate_left
 ·rw [zF hf] at hfo
  repeat'(first|apply Sp.h|refine Lk.r rfl ?_|refine Rf.mk rfl ?_|refine xA ?_|refine xB ?_|refine OpK.r rfl ?_|refine Im.mk fun _=>?_|refine xI ?_|refine Ch.l ⟨rfl,rfl⟩ ?_|refine xN ?_|refine xD ?_|(apply Cl.p (hfo);focus repeat' constructor))
  all_goals exact⟨_,_, .one (.same (.z)),_,rfl,rfl,fun h=>by cases h⟩
 rw [zT hf] at hfo
 have hcn:=countR_p e.past hf.1
 by_cases hpl:e.past.length=d.past.length
 rotate_left
 ·repeat'(first|apply Sp.h|refine Lk.r rfl ?_|refine Rf.mk rfl ?_|refine xA ?_|refine xB ?_|refine OpK.r rfl ?_|refine Im.mk fun _=>?_|refine xI ?_|refine Ch.l ⟨rfl,rfl⟩ ?_|refine xN ?_|refine xD ?_|(apply Cl.p (hfo);focus repeat' constructor))
  all_goals exact⟨_,_, .one (.same (.z)),_,rfl,rfl,fun h=>by cases h⟩
 repeat'(first|apply Sp.h|refine Lk.r rfl ?_|refine Rf.mk rfl ?_|refine xA ?_|refine OpK.r rfl ?_|refine Im.mk fun _=>?_|refine xI ?_|refine Ch.l ⟨rfl,rfl⟩ ?_|refine xD ?_|(apply Cl.p (hfo);focus repeat' constructor))
 all_goals try exact(by omega:False).elim
 obtain⟨c,hc⟩:∃c:Nat→Nat,c=fun k=>((l.take k).filter fun d=>decide (BefE d e)).length:=⟨_,rfl⟩
 have hc0:c 0=0:=by rw [hc];rfl
 refine CA.loop (fun k:Nat=>⟨[(0,evs l),(3,it i),(4,it (c k:Nat)),(5,it k)],[]⟩)
  (fun k=>k≤l.length∧∀j x,j < k→l[j]?=some x→(j≠i→nm x≠nm e)∧(BefE x e→Ins x.past e.past∧x.time < e.time)) (fun k=>l.length - k) 0 (by rw [hc0];exact xE) ⟨zZ _,fun j e h=>by omega⟩ ?_
 rintro k ⟨hk,hkk⟩
 have hfl:c k≤l.length:=by
  have h1:=List.length_filter_le (fun d=>decide (BefE d e)) (l.take k)
  rw [zN] at h1
  rw [hc]
  simp only
  omega
 by_cases hkn:k < l.length
 ·obtain⟨x,hx⟩:=get_of hkn
  have hnx:=nameR_p x
  have hne:=nameR_p e
  have hbf:=before32_p x e
  have hin1:=insideR_p x.past e.past
  have hsu:c (k+1)=c k+if BefE x e then 1 else 0:=by
   rw [hc]
   simp only
   rw [zK,hx,Option.toList_some,List.filter_append,zP]
   by_cases h:BefE x e <;> simp [h]
  clear hc
  by_cases hB:BefE x e
  ·rw [zT hB] at hbf
   rw [if_pos hB] at hsu
   have hsz:((c k:Nat):Int)+1=((c (k+1):Nat):Int):=by omega
   by_cases hki:k=i
   ·subst hki
    rw [hx] at he
    cases he
    exact absurd hB.2.2 (has_self hf)
   ·have hki2:¬(k:Int)=(i:Int):=by omega
    repeat'(first|apply Sp.h|refine Lk.r rfl ?_|refine Rf.mk rfl ?_|refine xA ?_|refine xB ?_|(refine Bd.mk ?_ ?_ <;> intro _)|refine OpK.r rfl ?_|refine Im.mk fun _=>?_|refine xI ?_|refine Ch.l ⟨rfl,rfl⟩ ?_|refine xN ?_|refine xK ?_|(apply Kf.mk;(focus kernel_rfl))|refine xD ?_|refine xO ?_|(apply Cl.p (hnx);(focus((repeat'(first|exact Lend.nil|apply Lend.keep|apply Lend.agg|fail));done)))|(apply Cl.p (hne);(focus((repeat'(first|exact Lend.nil|apply Lend.keep|apply Lend.agg|fail));done)))|(apply Cl.p (hbf);(focus((repeat'(first|exact Lend.nil|apply Lend.keep|apply Lend.agg|fail));done)))|(apply Cl.p (hin1);(focus((repeat'(first|exact Lend.nil|apply Lend.keep|apply Lend.agg|fail));done))))
    all_goals first
     | exact⟨_,_, .one (.same (.z)),_,rfl,rfl,fun h=>by cases h⟩
     | (exact PA.lp (k+1) (by rw [←hsz];exact xE) ⟨⟨hkn,alli_succ hx hkk ⟨fun _ h=>absurd (show [x.rep,x.num]= [e.rep,e.num] from h) (by assumption),fun _=>⟨by assumption,by omega⟩⟩⟩,by omega⟩)
  ·rw [zF hB] at hbf
   rw [if_neg hB] at hsu
   have hsz:c k=c (k+1):=by omega
   by_cases hki:k=i
   ·subst hki
    rw [hx] at he
    cases he
    repeat'(first|apply Sp.h|refine Lk.r rfl ?_|refine Rf.mk rfl ?_|refine xA ?_|refine xB ?_|refine OpK.r rfl ?_|refine Im.mk fun _=>?_|refine xI ?_|refine Ch.l ⟨rfl,rfl⟩ ?_|refine xD ?_|refine xO ?_|(apply Cl.p (hnx);focus(repeat' constructor);done)|(apply Cl.p (hne);focus(repeat' constructor);done)|(apply Cl.p (hbf);focus(repeat' constructor);done)|(apply Cl.p (hin1);focus(repeat' constructor);done))
    all_goals first
     | exact⟨_,_, .one (.same (.z)),_,rfl,rfl,fun h=>by cases h⟩
     | (exact PA.lp (k+1) (by rw [←hsz];exact xE) ⟨⟨hkn,alli_succ hx hkk ⟨fun h=>absurd rfl h,fun h=>absurd h hB⟩⟩,by omega⟩)
   ·have hki2:¬(k:Int)=(i:Int):=by omega
    repeat'(first|apply Sp.h|refine Lk.r rfl ?_|refine Rf.mk rfl ?_|refine xA ?_|refine xB ?_|(refine Bd.mk ?_ ?_ <;> intro _)|refine OpK.r rfl ?_|refine Im.mk fun _=>?_|refine xI ?_|refine Ch.l ⟨rfl,rfl⟩ ?_|refine xN ?_|refine xK ?_|(apply Kf.mk;(focus kernel_rfl))|refine xD ?_|refine xO ?_|(apply Cl.p (hnx);(focus((repeat'(first|exact Lend.nil|apply Lend.keep|apply Lend.agg|fail));done)))|(apply Cl.p (hne);(focus((repeat'(first|exact Lend.nil|apply Lend.keep|apply Lend.agg|fail));done)))|(apply Cl.p (hbf);(focus((repeat'(first|exact Lend.nil|apply Lend.keep|apply Lend.agg|fail));done)))|(apply Cl.p (hin1);(focus((repeat'(first|exact Lend.nil|apply Lend.keep|apply Lend.agg|fail));done))))
    all_goals first
     | exact⟨_,_, .one (.same (.z)),_,rfl,rfl,fun h=>by cases h⟩
     | (exact PA.lp (k+1) (by rw [←hsz];exact xE) ⟨⟨hkn,alli_succ hx hkk ⟨fun _ h=>absurd (show [x.rep,x.num]= [e.rep,e.num] from h) (by assumption),fun h=>absurd h hB⟩⟩,by omega⟩)
 ·have:k=l.length:=by omega
  subst this
  have hcl:((c l.length:Nat):Int)=((l.filter fun d=>decide (BefE d e)).length:Nat):=by rw [hc];simp only [zL]
  clear hc
  repeat'(first|apply Sp.h|refine Lk.r rfl ?_|refine Rf.mk rfl ?_|refine xB ?_|(refine Bd.mk ?_ ?_ <;> intro _)|refine Im.mk fun _=>?_|refine xI ?_|refine xN ?_|refine xO ?_|(apply Cl.p (hcn);focus repeat' constructor))
  all_goals first
   | exact⟨_,_, .one (.same (.z)),_,rfl,rfl,fun h=>by cases h⟩
   | exact PA.lp (i+1) xE ⟨⟨hin,alli_succ he hck ⟨hf,by omega,fun j x hj hji=>(hkk j x (zS.1 hj).1 hj).1 hji,fun x hx=>by
     obtain⟨j,hj⟩:=zO hx
     exact(hkk j x (zS.1 hj).1 hj).2,by omega⟩⟩,by omega⟩
noncomputable def evyL(m:ModS) : List QryS:=(List.range (rgsF m true).length).map (fun i:Nat=>((0:Int),(i:Int))) ++ (List.range (rgsF m false).length).map (fun i:Nat=>((2:Int),(i:Int)))
theorem evyL_len(m:ModS) : (evyL m).length≤256:=by
 have h1:=rgs_len m true
 have h2:=rgs_len m false
 simp only [evyL,zP,List.length_map,List.length_range]
 omega
theorem evy_x{m:ModS}(hx:ValX m) : QrysX m (evyL m):=by
 refine⟨hx,fun q hq=>?_⟩
 unfold QryK cntKd
 rcases zV.1 hq with hq|hq
 ·obtain⟨i,hi,rfl⟩:=List.mem_map.1 hq
  have:=List.mem_range.1 hi
  simp only
  exact⟨by omega,by simp <;> omega⟩
 ·obtain⟨i,hi,rfl⟩:=List.mem_map.1 hq
  have:=List.mem_range.1 hi
  simp only
  exact⟨by omega,by simp <;> omega⟩
theorem everything_p(m:ModS)(hol:m.ops.length≤1000000000)(hur:UpdsRg m) : CallP Tryz.prog 30 [mdl m] (qrys (evyL m)):=by
 have h1:=rstrict13_e m hol hur
 have h2:=rmerged13_e m hol hur
 have hl1:=rgs_len m true
 have hl2:=rgs_len m false
 have hlen:=evyL_len m
 unfold evyL at hlen ⊢
 generalize rgsF m true=R1 at h1 hl1 hlen ⊢
 generalize rgsF m false=R2 at h2 hl2 hlen ⊢
 refine CallA.of pg ordZ Tryz.func30 rfl Tryz.ntmps30 Tryz.results30 rfl fun h0 G0 O0=>?_
 (repeat'(first|(show CA _ _ (Code.region 2 _ _) _ _;apply Stopped.out)|apply Sp.h|refine Lk.r rfl ?_|refine Rf.mk rfl ?_|apply All.mk|intro _));any_goals apply Stopped.mk
 rename_i b1
 refine CA.nilOwn 3 102 2 qryC rfl fun v=>?_
 repeat'(first|apply Sp.h|refine Lk.r rfl ?_|refine Rf.mk rfl ?_|fail)
 refine CA.loop (fun z:Nat×Value=>⟨[(1,pm b1),(3, .ow z.2),(4,it z.1)],[mR b1 m,arrR z.2 102 2 ((List.range z.1).map fun i:Nat=>((0:Int),(i:Int))) qryC]⟩) (fun z=>z.1≤R1.length) (fun z=>R1.length - z.1) (0,v) xE (zZ _) ?_
 rintro⟨i,u⟩ hi
 simp only at hi
 simp only
 have hrl:((List.range i).map fun i:Nat=>((0:Int),(i:Int))).length=i:=by simp
 by_cases hin:i < R1.length
 ·have hsu:(List.range (i+1)).map (fun i:Nat=>((0:Int),(i:Int)))=(List.range i).map (fun i:Nat=>((0:Int),(i:Int))) ++ [((0:Int),(i:Int))]:=by rw [List.range_succ,List.map_append];rfl
  repeat'(first|apply Sp.h|refine Lk.r rfl ?_|refine Rf.mk rfl ?_|refine xA ?_|refine xP ?_|refine Im.mk fun _=>?_|refine All.mk fun _=>?_|refine xU ?_|refine xT ?_|refine Ce.r ?_|refine Ch.l ⟨rfl,rfl⟩ ?_|(apply Fk.r;focus repeat' first|infer_instance|constructor)|refine Rf.mk ⟨rfl,rfl⟩ ?_|refine Rf.mk ⟨rfl,rfl,rfl⟩ ?_|(apply Mp.lit;(focus repeat(first|exact MpL.nil|(apply MpL.cons;(focus rfl))|(apply MpL.inv;(focus repeat constructor);(focus infer_instance)))))|refine xO ?_|(apply Cl.p (h1);focus repeat' constructor))
  rw [←hsu]
  exact PA.lp (i+1,_) xE ⟨hin,by simp only;omega⟩
 have:i=R1.length:=by omega
 subst this
 repeat'(first|apply Sp.h|refine Lk.r rfl ?_|refine Rf.mk rfl ?_|refine xB ?_|refine Im.mk fun _=>?_|refine xT ?_|refine Ch.l ⟨rfl,rfl⟩ ?_|(apply Cl.p (h1);focus repeat' constructor))
 refine CA.loop (fun z:Nat×Value=>⟨[(1,pm b1),(3, .ow z.2),(5,it z.1)],[mR b1 m,arrR z.2 102 2 ((List.range R1.length).map (fun i:Nat=>((0:Int),(i:Int))) ++ (List.range z.1).map fun i:Nat=>((2:Int),(i:Int))) qryC]⟩) (fun z=>z.1≤R2.length) (fun z=>R2.length - z.1) (0,u) (by simp only [List.range_zero,List.map_nil,List.append_nil];exact xE) (zZ _) ?_
 rintro⟨i,u⟩ hi
 simp only at hi
 simp only
 have hrl2:((List.range R1.length).map (fun i:Nat=>((0:Int),(i:Int))) ++ (List.range i).map fun i:Nat=>((2:Int),(i:Int))).length=R1.length+i:=by simp
 by_cases hin:i < R2.length
 ·have hsu:(List.range R1.length).map (fun i:Nat=>((0:Int),(i:Int))) ++ (List.range (i+1)).map (fun i:Nat=>((2:Int),(i:Int)))=((List.range R1.length).map (fun i:Nat=>((0:Int),(i:Int))) ++ (List.range i).map (fun i:Nat=>((2:Int),(i:Int)))) ++ [((2:Int),(i:Int))]:=by rw [List.range_succ,List.map_append,List.append_assoc];rfl
  repeat'(first|apply Sp.h|refine Lk.r rfl ?_|refine Rf.mk rfl ?_|refine xA ?_|refine xP ?_|refine Im.mk fun _=>?_|refine All.mk fun _=>?_|refine xU ?_|refine xT ?_|refine Ce.r ?_|refine Ch.l ⟨rfl,rfl⟩ ?_|(apply Fk.r;focus repeat' first|infer_instance|constructor)|refine Rf.mk ⟨rfl,rfl⟩ ?_|refine Rf.mk ⟨rfl,rfl,rfl⟩ ?_|(apply Mp.lit;(focus repeat(first|exact MpL.nil|(apply MpL.cons;(focus rfl))|(apply MpL.inv;(focus repeat constructor);(focus infer_instance)))))|refine xO ?_|(apply Cl.p (h2);focus repeat' constructor))
  rw [←hsu]
  exact PA.lp (i+1,_) xE ⟨hin,by simp only;omega⟩
 have:i=R2.length:=by omega
 subst this
 repeat'(first|apply Sp.h|refine Lk.r rfl ?_|refine Rf.mk rfl ?_|refine xB ?_|refine Im.mk fun _=>?_|refine xT ?_|refine Ch.l ⟨rfl,rfl⟩ ?_|refine xN ?_|(apply Cl.p (h2);focus repeat' constructor))
 exact⟨_,_, .one (.fz (by repeat constructor) (by omega) (.z)),rfl,rfl⟩
theorem same1_p(a b:List Int) : CallP Tryz.prog 72 [ints a,ints b] (bl (decide (a=b))):=by
 have h:=equal_p a b
 refine CallA.of pg ordZ Tryz.func72 rfl Tryz.ntmps72 Tryz.results72 rfl fun h0 G0 O0=>?_
 repeat'(first|apply Sp.h|refine Lk.r rfl ?_|refine Rf.mk rfl ?_|refine xN ?_|(apply Cl.p (h);focus repeat' constructor))
 exact Fin.p rfl rfl
theorem same53_p(a b:List (List Int)) : CallP Tryz.prog 22 [clks a,clks b] (bl (decide (a=b))):=by
 have he:CallP Tryz.prog 71 [clks a,clks b, .fn 72 []] (bl (decide (a=b))):=by
  refine CallA.of pg ordZ Tryz.func71 rfl Tryz.ntmps71 Tryz.results71 rfl fun h0 G0 O0=>?_
  by_cases hl:a.length=b.length
  rotate_left
  ·repeat'(first|apply Sp.h|refine Lk.r rfl ?_|refine Rf.mk rfl ?_|refine xB ?_|apply Im.mk|refine xN ?_|intro _)
   all_goals first
    | exact Fin.p rfl (vb (zF (fun e=>hl (by rw [e]))).symm)
    | exact(by omega:False).elim
  repeat'(first|apply Sp.h|refine Lk.r rfl ?_|refine Rf.mk rfl ?_|refine xA ?_|apply Im.mk|intro _)
  all_goals try exact(by omega:False).elim
  refine CA.loop (fun i:Nat=>⟨[(1,clks b),(2, .fn 72 []),(15,clks a),(16,it (a.length:Nat)),(17,it i)],[]⟩) (fun i=>i≤a.length∧∀j x,j < i→a[j]?=some x→b[j]?=some x) (fun i=>a.length - i) 0 xE ⟨zZ _,fun j x h=>by omega⟩ ?_
  rintro i ⟨hi,ha⟩
  by_cases hin:i < a.length
  ·obtain⟨x,hx⟩:=get_of hin
   obtain⟨y,hy⟩:=get_of (l:=b) (i:=i) (by omega)
   have h1:=same1_p x y
   by_cases hxy:x=y
   ·subst hxy
    rw [zT rfl] at h1
    repeat'(first|apply Sp.h|refine Lk.r rfl ?_|refine Rf.mk rfl ?_|refine xA ?_|refine xI ?_|refine xO ?_|(apply Cl.p (h1);focus repeat' constructor))
    exact PA.lp (i+1) xE ⟨⟨hin,alli_succ hx ha hy⟩,by omega⟩
   ·rw [zF hxy] at h1
    repeat'(first|apply Sp.h|refine Lk.r rfl ?_|refine Rf.mk rfl ?_|refine xA ?_|refine xB ?_|refine xI ?_|refine xN ?_|(apply Cl.p (h1);focus repeat' constructor))
    exact Fin.p rfl (vb (zF (fun e=>hxy (by subst e;rw [hx] at hy;cases hy;rfl))).symm)
  ·have:i=a.length:=by omega
   subst this
   repeat'(first|apply Sp.h|refine Lk.r rfl ?_|refine Rf.mk rfl ?_|refine xB ?_|refine xN ?_|fail)
   refine Fin.p rfl (vb (zT (List.ext_getElem? fun j=>?_)).symm)
   by_cases hj:j < a.length
   ·obtain⟨x,hx⟩:=get_of hj
    rw [hx,ha j x hj hx]
   ·rw [zX (by omega),zX (by omega)]
 refine CallA.of pg ordZ Tryz.func22 rfl Tryz.ntmps22 Tryz.results22 rfl fun h0 G0 O0=>?_
 repeat'(first|apply Sp.h|refine Lk.r rfl ?_|refine Rf.mk rfl ?_|refine xN ?_|(apply Cl.p (he);focus repeat' constructor))
 exact Fin.p rfl rfl
theorem fold_min_key :∀(r:List (List Int)) (d:List Int),ValC d→(∀c∈r,ValC c∧c.length=d.length)→ValC (r.foldl (zipC min) d)∧(r.foldl (zipC min) d).length=d.length∧(∀(q:Nat) (z:Int),(r.foldl (zipC min) d)[q]?=some z→∃c∈d :: r,c[q]?=some z)∧∀c∈d :: r,Ins (r.foldl (zipC min) d) c:=by
 intro r
 induction r with
 | nil =>
  intro d hd _
  exact⟨hd,rfl,fun q z h=>⟨d,by simp,h⟩,fun c hc=>by
   rw [zH.1 hc]
   intro i x y hx hy
   rw [List.foldl_nil,hy] at hx;cases hx;omega⟩
 | cons a r ih =>
  intro d hd hr
  obtain⟨ha,hal⟩:=hr a (by simp)
  have hz:ValC (zipC min d a):=zipC_val hd ha hal.symm fun x y hx hy=>by unfold rngK at *;omega
  have hzl:(zipC min d a).length=d.length:=zipC_len hal.symm
  obtain⟨h1,h2,h3,h4⟩:=ih (zipC min d a) hz fun c hc=>⟨(hr c (List.mem_cons_of_mem _ hc)).1,by rw [hzl];exact(hr c (List.mem_cons_of_mem _ hc)).2⟩
  rw [List.foldl_cons]
  refine⟨h1,by rw [h2,hzl],fun q z hq=>?_,fun c hc=>?_⟩
  ·obtain⟨c,hc,hcq⟩:=h3 q z hq
   rcases List.mem_cons.1 hc with rfl|hc
   ·obtain⟨x,y,hx,hy,rfl⟩:=(zipC_at hal.symm).1 hcq
    by_cases hxy:x≤y
    ·exact⟨d,by simp,by rw [hx,show min x y=x by omega]⟩
    ·exact⟨a,by simp,by rw [hy,show min x y=y by omega]⟩
   ·exact⟨c,by simp [hc],hcq⟩
  ·intro i x y hx hy
   have hil:=(zS.1 hx).1
   rw [h2,hzl] at hil
   have hz4:∀w,(zipC min d a)[i]?=some w→x≤w:=fun w hw=>h4 _ (by simp) i x w hx hw
   obtain⟨u,hu⟩:=get_of (l:=d) (i:=i) hil
   obtain⟨v,hv⟩:=get_of (l:=a) (i:=i) (by omega)
   have hw:(zipC min d a)[i]?=some (min u v):=(zipC_at hal.symm).2 ⟨u,v,hu,hv,rfl⟩
   have:=hz4 _ hw
   rcases List.mem_cons.1 hc with rfl|hc
   ·rw [hu] at hy;cases hy;omega
   ·rcases List.mem_cons.1 hc with rfl|hc
    ·rw [hv] at hy;cases hy;omega
    ·exact h4 c (List.mem_cons_of_mem _ hc) i x y hx hy
theorem fold_min_ok{L:List (List Int)}{n:Nat}(hne:L≠ [])(h:∀c∈L,ValC c∧c.length=n) : ValC (foldC min L)∧(foldC min L).length=n∧(∀(q:Nat) (z:Int),(foldC min L)[q]?=some z→∃c∈L,c[q]?=some z)∧∀c∈L,Ins (foldC min L) c:=by
 match L,hne with
 | d :: r,_ =>
  obtain⟨h1,h2⟩:=h d (by simp)
  obtain⟨k1,k2,k3,k4⟩:=fold_min_key r d h1 fun c hc=>⟨(h c (List.mem_cons_of_mem _ hc)).1,by rw [h2];exact(h c (List.mem_cons_of_mem _ hc)).2⟩
  exact⟨k1,by rw [←h2];exact k2,k3,k4⟩
theorem ExtO.filter{l X:List EvS}(hX:ExtO l X){p:EvS→Bool}(hp:∀e∈X,p e=true→∀d∈l,HasC e.past d.rep d.num→p d=true) : ExtO l (X.filter p):=by
 have key:∀i,i≤X.length→ExtO l ((X.take i).filter p):=by
  intro i
  induction i with
  | zero=>intro _;exact ExtO.nil l
  | succ i ih =>
   intro hi
   obtain⟨e,he⟩:=get_of (l:=X) (i:=i) (by omega)
   have h0:=ih (by omega)
   rw [zK,he,Option.toList_some,List.filter_append]
   by_cases hpe:p e=true
   ·rw [show [e].filter p= [e] by simp [hpe]]
    have hem:=zM he
    obtain⟨n1,n2⟩:=hX.nxt i e he
    exact h0.snoc (hX.sub e hem) (fun h=>n1 (List.mem_filter.1 h).1) fun d hd hh=>List.mem_filter.2 ⟨n2 d hd hh,hp e hem hpe d hd hh⟩
   ·rw [show [e].filter p= [] by simp [hpe],List.append_nil]
    exact h0
 have:=key X.length (Nat.le_refl _)
 rwa [zL] at this
theorem filter_sub{α:Type}{p:α→Bool}{X L:List α}(h:X.Sublist L) : L.Nodup→(∀e∈L,p e=true→e∈X)→X.filter p=L.filter p:=by
 induction h with
 | slnil=>intro _ _;rfl
 | @cons X L a hs ih =>
  intro hn hx
  obtain⟨h1,h2⟩:=List.nodup_cons.1 hn
  have hpa:¬p a=true:=fun h9=>h1 (hs.subset (hx a (by simp) h9))
  rw [List.filter_cons_of_neg hpa]
  exact ih h2 fun e he=>hx e (List.mem_cons_of_mem _ he)
 | @cons_cons X L a hs ih =>
  intro hn hx
  obtain⟨h1,h2⟩:=List.nodup_cons.1 hn
  have:=ih h2 fun e he hp=>(List.mem_cons.1 (hx e (List.mem_cons_of_mem _ he) hp)).elim (fun h9=>absurd (h9▸he) h1) id
  by_cases hpa:p a=true
  ·rw [List.filter_cons_of_pos hpa,List.filter_cons_of_pos hpa,this]
  ·rw [List.filter_cons_of_neg hpa,List.filter_cons_of_neg hpa,this]
theorem ext_kn{m:ModS}{l X:List EvS}(hm:LayOK m.sorts m.tables)(hf:FitU m)(hc:ClosedE l)(hX:ExtO l X)(hv:∀e∈X,EvV m (n0 l:Nat) e)(hl:X.length≤1000) :∀i,i≤X.length→KnL m (X.take i) ((X.take i).foldl (mrg1 m) (List.replicate (mrgF m).length mg0))∧ValL (mrgF m) ((X.take i).foldl (mrg1 m) (List.replicate (mrgF m).length mg0))∧∀e,X[i]?=some e→(applyF m ((X.take i).foldl (mrg1 m) (List.replicate (mrgF m).length mg0)) e).1=0:=by
 have step:∀i e,X[i]?=some e→KnL m (X.take i) ((X.take i).foldl (mrg1 m) (List.replicate (mrgF m).length mg0))→(applyF m ((X.take i).foldl (mrg1 m) (List.replicate (mrgF m).length mg0)) e).1=0∧KnL m (X.take (i+1)) ((X.take (i+1)).foldl (mrg1 m) (List.replicate (mrgF m).length mg0)):=by
  intro i e he hk
  have hel:=hX.sub e (zM he)
  obtain⟨h1,h2⟩:=hX.nxt i e he
  have hA:=hX.cau i
  have hnx:=nxt_cau hc hA hel h1
  have hu:UniqP (X.take i):=uniqP_sub (uniqP_of hc.2.1) hA.sub
  have hval:=hk.valL hm hf hu (fun x hx=>(hc.2.2.1 x (hA.sub x hx)).1) (by rw [zN];omega)
  have hpl:e.past.length=n0 l:=(hc.2.2.1 e hel).2
  have hev:EvV m (e.past.length:Nat) e:=by rw [hpl];exact hv e (zM he)
  obtain⟨k',a1,a2,-⟩:=apply_step hm hval (by rw [zN];omega) hk hev hnx
  rw [zK,he,Option.toList_some,List.foldl_append]
  refine⟨by rw [a1], ?_⟩
  show KnL m _ (applyF m _ e).2
  rw [a1];exact a2
 have kn:∀i,i≤X.length→KnL m (X.take i) ((X.take i).foldl (mrg1 m) (List.replicate (mrgF m).length mg0)):=by
  intro i
  induction i with
  | zero=>intro _;exact KnL.nil m
  | succ i ih =>
   intro hi
   obtain⟨e,he⟩:=get_of (l:=X) (i:=i) (by omega)
   exact(step i e he (ih (by omega))).2
 intro i hi
 have hk:=kn i hi
 refine⟨hk, ?_,fun e he=>(step i e he hk).1⟩
 have hA:=hX.cau i
 exact hk.valL hm hf (uniqP_sub (uniqP_of hc.2.1) hA.sub) (fun x hx=>(hc.2.2.1 x (hA.sub x hx)).1) (by rw [zN];omega)
structure DlvI (m:ModS) (l D:List EvS) (i:Nat):Prop where
 ext:ExtO l D
 sub:D.Sublist ((ordE l).take i)
 ev:∀e∈D,EvV m (n0 l:Nat) e
theorem deliver_in{m:ModS}{evl:List EvS}{w:NowS}{e:EvS}(h:(deliverF m evl w e).1=0) :¬HasC w.clock e.rep e.num∧Ins e.past w.clock:=by
 unfold deliverF at h
 repeat' split at h
 all_goals first
  | (exfalso;simp at h;done)
  | (rename_i h2 h3 _ _ _;exact⟨h2,Classical.not_not.1 h3⟩)
  | (rename_i h2 h3 _ _ h6;exact absurd h h6)
theorem deliver_no{m:ModS}{evl:List EvS}{w:NowS}{e:EvS}(h:(deliverF m evl w e).1≠0) : (deliverF m evl w e).2=w:=by
 unfold deliverF at h ⊢
 repeat' split
 all_goals first
  | rfl
  | (exfalso;simp_all;done)
theorem deliver_is{m:ModS}{n:Nat}{ld:List Int}{D:List EvS}{e:EvS}(h:(deliverF m D (stN m n ld D) e).1=0) : (deliverF m D (stN m n ld D) e).2=stN m n ld (D ++ [e]):=by
 rw [deliver_st h,stN_snoc]
theorem ext_deliver{m:ModS}{l D:List EvS}{ld:List Int}{e:EvS}(hc:ClosedE l)(hne:0 < l.length)(hX:ExtO l D)(he:e∈l)(h:(deliverF m D (stN m (n0 l) ld D) e).1=0) : ExtO l (D ++ [e])∧EvV m (n0 l:Nat) e:=by
 obtain⟨d0,hd0⟩:=get_of (l:=l) (i:=0) hne
 have hr:=n0_rng hc (zM hd0)
 have hcl:(stN m (n0 l) ld D).clock=clkE (n0 l) D:=rfl
 obtain⟨h1,h2⟩:=deliver_in h
 have hv:=(deliver_ok' h).2.1
 rw [hcl] at h1 h2 hv
 rw [clkE_len] at hv
 have hA:=hX.all
 refine⟨hX.snoc he (fun h9=>h1 ((clk_has hc hA he).2 h9)) fun d hd hh=>(clk_has hc hA hd).1 ?_,hv⟩
 exact has_ins (clk_valC hc hA.sub hr) h2 (by rw [clkE_len,(hc.2.2.1 e he).2];exact Nat.le_refl _) hh
theorem DlvI.zero(m:ModS)(l:List EvS) : DlvI m l [] 0:=⟨ExtO.nil l,List.nil_sublist _,fun e he=>by cases he⟩
theorem DlvI.skip{m:ModS}{l D:List EvS}{i:Nat}(h:DlvI m l D i) : DlvI m l D (i+1):=⟨h.ext,h.sub.trans (List.take_sublist_take_left (Nat.le_succ i)),h.ev⟩
theorem DlvI.step{m:ModS}{l D:List EvS}{ld:List Int}{i:Nat}{e:EvS}(hc:ClosedE l)(hne:0 < l.length)(h:DlvI m l D i)(he:(ordE l)[i]?=some e)(h0:(deliverF m D (stN m (n0 l) ld D) e).1=0) : DlvI m l (D ++ [e]) (i+1):=by
 obtain⟨h1,h2⟩:=ext_deliver hc hne h.ext ((ordE_perm l).mem_iff.2 (zM he)) h0
 refine⟨h1, ?_,fun x hx=>?_⟩
 ·rw [zK,he,Option.toList_some]
  exact h.sub.append (List.Sublist.refl _)
 ·rcases zV.1 hx with hx|hx
  ·exact h.ev x hx
  ·rw [zH.1 hx];exact h2
structure ComH (m:ModS) (ld:List Int) (l:List EvS) (Ds:List (List EvS)):Prop where
 hm:MOK m
 hf:FitU m
 hc:ClosedE l
 ne:0 < l.length
 ll:l.length≤1000
 ln:ld.length=strF m
 d:∀D∈Ds,DlvI m l D (ordE l).length
noncomputable def comC(l:List EvS)(Ds:List (List EvS)) : List Int:=foldC min (Ds.map (clkE (n0 l)))
theorem ComH.rng{m:ModS}{ld:List Int}{l:List EvS}{Ds:List (List EvS)}(h:ComH m ld l Ds) : 1≤n0 l∧n0 l≤5:=by
 obtain⟨d,hd⟩:=get_of (l:=l) (i:=0) h.ne
 exact n0_rng h.hc (zM hd)
theorem ComH.clk{m:ModS}{ld:List Int}{l:List EvS}{Ds:List (List EvS)}(h:ComH m ld l Ds) :∀c∈Ds.map (clkE (n0 l)),ValC c∧c.length=n0 l:=fun c hc=>by
 obtain⟨D,hD,rfl⟩:=List.mem_map.1 hc
 exact⟨clk_valC h.hc (h.d D hD).ext.all.sub h.rng,clkE_len ..⟩
theorem ComH.com{m:ModS}{ld:List Int}{l:List EvS}{Ds:List (List EvS)}(h:ComH m ld l Ds)(hne:Ds≠ []) : ValC (comC l Ds)∧(comC l Ds).length=n0 l∧(∀(q:Nat) (z:Int),(comC l Ds)[q]?=some z→∃D∈Ds,(clkE (n0 l) D)[q]?=some z)∧∀D∈Ds,Ins (comC l Ds) (clkE (n0 l) D):=by
 obtain⟨h1,h2,h3,h4⟩:=fold_min_ok (L:=Ds.map (clkE (n0 l))) (by simpa using hne) h.clk
 refine⟨h1,h2,fun q z hq=>?_,fun D hD=>h4 _ (List.mem_map_of_mem hD)⟩
 obtain⟨c,hc,hcq⟩:=h3 q z hq
 obtain⟨D,hD,rfl⟩:=List.mem_map.1 hc
 exact⟨D,hD,hcq⟩
theorem ComH.has{m:ModS}{ld:List Int}{l:List EvS}{Ds:List (List EvS)}(h:ComH m ld l Ds)(hne:Ds≠ []){e:EvS}(he:e∈l) : HasC (comC l Ds) e.rep e.num↔∀D∈Ds,e∈D:=by
 obtain⟨h1,h2,h3,h4⟩:=h.com hne
 constructor
 ·intro hh D hD
  refine(clk_has h.hc (h.d D hD).ext.all he).1 (has_ins (clk_valC h.hc (h.d D hD).ext.all.sub h.rng) (h4 D hD) ?_ hh)
  rw [h2,clkE_len];exact Nat.le_refl _
 ·intro hall
  have hf:=h.hc.2.2.1 e he
  have hr:=formed_rep hf.1
  obtain⟨z,hz⟩:=get_of (l:=comC l Ds) (i:=e.rep.toNat) (by rw [h2,←hf.2];exact hr.2.1)
  refine⟨h1,hr.1,hr.2.2,z,hz, ?_⟩
  obtain⟨D,hD,hDz⟩:=h3 _ z hz
  obtain⟨_,_,_,x,hx,hnx⟩:=(clk_has h.hc (h.d D hD).ext.all he).2 (hall D hD)
  rw [hDz] at hx;cases hx;exact hnx
theorem zero_val{n:Nat}(hn:1≤n∧n≤5) : ValC (List.replicate n (0:Int)):=⟨fun x hx=>by rw [(List.mem_replicate.1 hx).2];unfold rngK;omega,by rw [zR];exact hn⟩
theorem con_zero{n:Nat}(hn:1≤n∧n≤5){c:List Int}(hc:ValC c)(hl:c.length=n) : ConC c (List.replicate n 0):=by
 refine(conC_iff _ _).2 ⟨⟨hc,zero_val hn,by rw [zR];omega⟩,fun q x y hx hy=>?_⟩
 rw [(List.mem_replicate.1 (zM hx)).2]
 have:=hc.1 y (zM hy)
 unfold rngK at this;omega
theorem ComH.chk{m:ModS}{ld:List Int}{l:List EvS}{Ds:List (List EvS)}(h:ComH m ld l Ds){D:List EvS}(hD:D∈Ds) : chkF (List.replicate (n0 l) 0) D (clkE (n0 l) D) (comC l Ds)=0:=by
 have hne:Ds≠ []:=fun h9=>by rw [h9] at hD;cases hD
 obtain⟨h1,h2,h3,h4⟩:=h.com hne
 have hDv:=clk_valC h.hc (h.d D hD).ext.all.sub h.rng
 have hDl:(clkE (n0 l) D).length=n0 l:=clkE_len ..
 rw [chkF,if_neg (fun h9=>h9 ⟨h1,by omega⟩),if_neg (fun h9=>h9 (con_zero h.rng h1 h2)),if_neg (fun h9=>h9 ((conC_iff _ _).2 ⟨⟨hDv,h1,by omega⟩,h4 D hD⟩)),if_neg]
 rintro⟨e,he,k1,k2⟩
 have hel:=(h.d D hD).ext.sub e he
 have hf:=h.hc.2.2.1 e hel
 have hall:=(h.has hne hel).1 k1
 refine k2 ((conC_iff _ _).2 ⟨⟨h1,hf.1.1,by rw [h2,hf.2]⟩,fun q x z hx hz=>?_⟩)
 obtain⟨E,hE,hEz⟩:=h3 q z hz
 have hEx:=(h.d E hE).ext
 have heE:=hall E hE
 exact clk_ins h.hc hEx.all hel (fun d hd hh=>hEx.all.cls e heE d hd hh) q x z hx hEz
noncomputable def comL(l:List EvS)(Ds:List (List EvS)) : List EvS:=(ordE l).filter fun e=>decide (HasC (comC l Ds) e.rep e.num)
theorem ComH.inl{m:ModS}{ld:List Int}{l:List EvS}{Ds:List (List EvS)}(h:ComH m ld l Ds){D:List EvS}(hD:D∈Ds) : inL (comC l Ds) D=comL l Ds:=by
 have hne:Ds≠ []:=fun h9=>by rw [h9] at hD;cases hD
 have hs:=(h.d D hD).sub
 rw [zL] at hs
 refine filter_sub hs ((ordE_perm l).nodup (uniq_nodup h.hc.2.1)) fun e he hp=>?_
 exact(h.has hne ((ordE_perm l).mem_iff.2 he)).1 (of_decide_eq_true hp) D hD
theorem ComH.rows{m:ModS}{ld:List Int}{l:List EvS}{Ds:List (List EvS)}(h:ComH m ld l Ds){D E:List EvS}(hD:D∈Ds)(hE:E∈Ds)(qs:List QryS) : rowsF m (stN m (n0 l) ld []) D (comC l Ds) qs=rowsF m (stN m (n0 l) ld []) E (comC l Ds) qs:=by
 unfold rowsF snpV snpS snpK
 rw [h.inl hD,h.inl hE]
theorem ComH.snp{m:ModS}{ld:List Int}{l:List EvS}{Ds:List (List EvS)}(h:ComH m ld l Ds){D:List EvS}(hD:D∈Ds) : SnpOK m (stN m (n0 l) ld []) D (comC l Ds):=by
 have hne:Ds≠ []:=fun h9=>by rw [h9] at hD;cases hD
 have hX:=(h.d D hD).ext
 have hin:ExtO l (inL (comC l Ds) D):=hX.filter fun e he hp d hd hh=>by
  have hel:=hX.sub e he
  have hall:=(h.has hne hel).1 (of_decide_eq_true hp)
  exact zT ((h.has hne hd).2 fun E hE=>(h.d E hE).ext.all.cls e (hall E hE) d hd hh)
 have hsl:=(h.d D hD).sub.length_le
 rw [zL,ordE_len] at hsl
 have hl1:=h.hc.1
 have hil:(inL (comC l Ds) D).length≤D.length:=List.length_filter_le _ _
 have hk:=(ext_kn h.hm.lay h.hf h.hc hin (fun e he=>(h.d D hD).ev e (List.mem_filter.1 he).1) (by have:=h.ll;omega) _ (Nat.le_refl _)).2.1
 rw [zL] at hk
 have:=vals_ok hk
 exact⟨this.1,this.2⟩
theorem ComH.more{m:ModS}{ld:List Int}{l:List EvS}{Ds:List (List EvS)}(h:ComH m ld l Ds)(hne:Ds≠ []){r:Nat}{z:Int}(hz:(comC l Ds)[r]?=some z) :∃D∈Ds,chkF (List.replicate (n0 l) 0) D (clkE (n0 l) D) ((comC l Ds).set r (z+1))≠0:=by
 obtain⟨h1,h2,h3,h4⟩:=h.com hne
 obtain⟨D,hD,hDz⟩:=h3 r z hz
 refine⟨D,hD,fun h0=>?_⟩
 have hcn:ConC (clkE (n0 l) D) ((comC l Ds).set r (z+1)):=Classical.byContradiction fun h9=>by
  unfold chkF at h0
  repeat' split at h0
  all_goals first
   | (exfalso;simp at h0;done)
   | exact absurd ‹ConC (clkE (n0 l) D) _› h9
   | (rename_i h8 _;exact absurd h9 (fun q=>h8 q))
 have hrl:=(zS.1 hz).1
 have:=((conC_iff _ _).1 hcn).2 r (z+1) z (by rw [List.getElem?_set,if_pos rfl,if_pos hrl]) hDz
 omega
def cn5M : ModS:=⟨[],[tC],[⟨#[99]⟩],[⟨0,0,⟨[(0,-1)],0⟩,0,0⟩,⟨0,0,⟨[(0,1)],9⟩,0,0⟩],[⟨⟨#[117,112]⟩,false,[]⟩,⟨⟨#[100,111,119,110]⟩,false,[]⟩],[⟨0,[],⟨[(0,2)],[],[]⟩⟩,⟨1,[],⟨[(0,-1)],[],[]⟩⟩],[]⟩
theorem exm_a : CallA Tryz.prog 43 [] [] fun r own=>∃vt vf t1 t2 vc vo d1 d2 va p1 p2 ve,r= .tup [.agg [nl0, .ow vt, .ow vf, .ow vc, .ow vo, .ow va,nl0], .ow ve]∧own= [
  arrR ve 66 13 [[it 0,it 1,it 1, .ow p1,it 0,it 0,it 0,it 0,it 0,it 0,it 0,it 0,it 1],[it 1,it 1,it 1, .ow p2,it 0,it 1,it 0,it 0,it 0,it 0,it 0,it 0,it 1]] id,
  arrR p2 3 1 [[it 0],[it 0]] id,
  arrR p1 3 1 [[it 0],[it 0]] id,
  arrR va 142 5 [[it 0,nl0, .ow d1,nl0,nl0],[it 1,nl0, .ow d2,nl0,nl0]] id,
  arrR d2 144 2 [[it 0,it (-1)]] id,
  arrR d1 144 2 [[it 0,it 2]] id,
  arrR vo 174 3 [[sv ⟨#[117,112]⟩,bl false,nl0],[sv ⟨#[100,111,119,110]⟩,bl false,nl0]] id,
  arrR vc 172 6 [[it 0,it 0, .ow t1,it 0,it 0,it 0],[it 0,it 0, .ow t2,it 9,it 0,it 0]] id,
  arrR t2 167 2 [[it 0,it 1]] id,
  arrR t1 167 2 [[it 0,it (-1)]] id,
  arrR vf 9 1 [[sv ⟨#[99]⟩]] id,
  arrR vt 150 6 [[sv ⟨#[99]⟩,it 1,nl0,it 0,it 9,it 0]] id]:=by
 refine CallA.of pg ordZ Tryz.func43 rfl Tryz.ntmps43 Tryz.results43 rfl fun h0 G0 O0=>?_
 repeat'(first|apply Sp.h|refine Lk.r rfl ?_|refine Rf.mk rfl ?_|apply All.mk|refine xT ?_|refine Ch.l ⟨rfl,rfl⟩ ?_|(apply SetAsk.r;focus repeat' constructor)|(apply Fk.r;focus repeat' first|infer_instance|constructor)|refine xN ?_|refine Rf.mk ⟨rfl,rfl,rfl⟩ ?_|intro _)
 exact⟨_,_, .tup (.same (.same (.z))),_,_,_,_,_,_,_,_,_,_,_,_,rfl,rfl⟩
theorem exm_p : CallP Tryz.prog 43 [] (.tup [mdl cn5M,evs [ca,cb]]):=by
 refine CallA.fx exm_a ?_
 rintro _ _ ⟨vt,vf,t1,t2,vc,vo,d1,d2,va,p1,p2,ve,rfl,rfl⟩
 refine FX.tup ?_ .nil
 repeat'(first
  | exact FX.nil
  | (apply FX.sl;(focus repeat constructor);(focus exact zB rfl))
  | apply FX.agg
  | (apply FX.le;(focus first|exact ALe.nil|exact ALe.refl _)))
theorem cn5_mrg : mrgF cn5M= []:=by simp [mrgF,mrgL,cn5M,isStrict,tC]
theorem cn5_str : strF cn5M=1:=by simp [strF,strN,cn5M,isStrict,szF,prodF,tC]
theorem cn5_lay : LayOK cn5M.sorts cn5M.tables:=cnt_lay
theorem cn5_ok : MOK cn5M:=by
 have h:=cnt_ok
 exact⟨h.lay,by simp [cn5M],h.acts,fun a ha=>(let q:=h.eff a ha;⟨q.dl,q.hl,q.ul,q.d,q.u⟩),h.str,h.mrg⟩
theorem cab5_1 : deliverF cn5M [] (stN cn5M 2 [3] []) ca=(0,stN cn5M 2 [3] [ca]):=cab_1
theorem cab5_2 : deliverF cn5M [ca] (stN cn5M 2 [3] [ca]) cb=(0,stN cn5M 2 [3] [ca,cb]):=cab_2
theorem cab5_3 :∃B N,compactF cn5M ⟨stN cn5M 2 [3] [],[ca,cb],stN cn5M 2 [3] [ca,cb]⟩ [1,0]=(0,⟨B,[cb],N⟩)∧B.state= [5]∧SzN B∧N.clock= [1,1]:=cab_3
theorem nm_c : NmOK ⟨#[99]⟩:=by
 refine⟨⟨by decide,by unfold isLetter byteAt;decide,fun i h1 h2=>?_, ?_⟩,by decide⟩
 ·have:i < 1:=h2
  match i,this with
  | 0,_=>exact .inl (by unfold isLetter byteAt;decide)
 ·rintro⟨q,hq,he⟩
  rw [ByteArray.toList_eq,ByteArray.toList_eq] at he
  revert he
  revert q
  decide
theorem nm_up : NmOK ⟨#[117,112]⟩:=by
 refine⟨⟨by decide,by unfold isLetter byteAt;decide,fun i h1 h2=>?_, ?_⟩,by decide⟩
 ·have:i < 2:=h2
  match i,this with
  | 0,_=>exact .inl (by unfold isLetter byteAt;decide)
  | 1,_=>exact .inl (by unfold isLetter byteAt;decide)
 ·rintro⟨q,hq,he⟩
  rw [ByteArray.toList_eq,ByteArray.toList_eq] at he
  revert he
  revert q
  decide
theorem nm_dn : NmOK ⟨#[100,111,119,110]⟩:=by
 refine⟨⟨by decide,by unfold isLetter byteAt;decide,fun i h1 h2=>?_, ?_⟩,by decide⟩
 ·have:i < 4:=h2
  match i,this with
  | 0,_=>exact .inl (by unfold isLetter byteAt;decide)
  | 1,_=>exact .inl (by unfold isLetter byteAt;decide)
  | 2,_=>exact .inl (by unfold isLetter byteAt;decide)
  | 3,_=>exact .inl (by unfold isLetter byteAt;decide)
 ·rintro⟨q,hq,he⟩
  rw [ByteArray.toList_eq,ByteArray.toList_eq] at he
  revert he
  revert q
  decide
theorem cn5_col : ColOK [] []:=by
 refine⟨by simp, ?_, ?_⟩ <;> (intro x hx;cases hx)
theorem cn5_num : numF [] []=1:=by rw [numF,if_pos cn5_col];rfl
theorem cn5_layX : LayX cn5M.sorts cn5M.tables:=by
 refine⟨by decide,cn5_lay.2.1,by decide,fun i t hi=>?_, ?_, ?_⟩
 ·match i,hi with
  | 0,hi =>
   cases hi
   refine⟨nm_c,fun j u h=>by omega,cn5_lay.2.2.2 _ (by simp [cn5M]),fun h=>?_, ?_⟩
   ·simp [tC] at h
   ·simp [sumK,tC]
  | n+1,hi=>cases hi
 ·simp [sumK,cn5M,tC,cn5_num,isStrict]
 ·simp [sumK,cn5M,tC,isStrict]
theorem cn5_rg : strR cn5M= [(0,9)]:=by
 rw [strR,rngF,if_pos cn5_layX]
 simp [rngL,cn5M,tC,cn5_num,isStrict]
theorem cn5_con : ConX cn5M:=by
 refine⟨by rw [cn5_rg];decide,by decide,fun i c hi=>?_⟩
 rw [cn5_rg]
 match i,hi with
 | 0,hi =>
  cases hi
  refine⟨fun p hp=>by cases hp;simp,⟨by simp [cn5M], .inl ⟨rfl,rfl,rfl, ?_,by simp⟩⟩⟩
  intro i p hp
  match i,hp with
  | 0,hp=>cases hp;exact⟨by decide,by decide,by decide,by decide,fun q h=>by omega⟩
  | n+1,hp=>cases hp
 | 1,hi =>
  cases hi
  refine⟨fun p hp=>by cases hp;simp,⟨by simp [cn5M], .inl ⟨rfl,rfl,rfl, ?_,by simp⟩⟩⟩
  intro i p hp
  match i,hp with
  | 0,hp=>cases hp;exact⟨by decide,by decide,by decide,by decide,fun q h=>by omega⟩
  | n+1,hp=>cases hp
 | n+2,hi=>cases hi
theorem cn5_ops : OpsX cn5M:=by
 refine⟨fun i o hi=>?_,by decide,fun i s hi=>?_⟩
 ·match i,hi with
  | 0,hi=>cases hi;exact⟨(by intro k s h;cases h),by simp⟩
  | 1,hi=>cases hi;exact⟨(by intro k s h;cases h),by simp⟩
  | n+2,hi=>cases hi
 ·match i,hi with
  | 0,hi=>cases hi;exact⟨nm_up,fun j q h=>by omega⟩
  | 1,hi =>
   cases hi
   refine⟨nm_dn,fun j q h hq=>?_⟩
   match j,h with
   | 0,_=>cases hq;rw [ByteArray.toList_eq,ByteArray.toList_eq];decide
  | n+2,hi=>cases hi
theorem cn5_acts : ActX cn5M:=by
 refine⟨cn5_ops,by decide,fun i a hi=>?_⟩
 match i,hi with
 | 0,hi =>
  cases hi
  refine⟨⟨0,rfl,_,rfl,rfl,fun k x s h=>by cases h⟩,fun b h=>by omega, ?_⟩
  refine⟨fun i p hp=>?_,(by intro i r h;cases h),(by intro i p h;cases h),by decide,by decide⟩
  rw [cn5_rg]
  match i,hp with
  | 0,hp=>cases hp;exact⟨by decide,by decide,by decide,by decide,fun q h=>by omega⟩
  | n+1,hp=>cases hp
 | 1,hi =>
  cases hi
  refine⟨⟨1,rfl,_,rfl,rfl,fun k x s h=>by cases h⟩,fun b h hb=>by cases hb;exact .inl (by decide), ?_⟩
  refine⟨fun i p hp=>?_,(by intro i r h;cases h),(by intro i p h;cases h),by decide,by decide⟩
  rw [cn5_rg]
  match i,hp with
  | 0,hp=>cases hp;exact⟨by decide,by decide,by decide,by decide,fun q h=>by omega⟩
  | n+1,hp=>cases hp
 | n+2,hi=>cases hi
theorem cn5_val : ValX cn5M:=by
 refine⟨cn5_layX,by decide,fun i s hi=>?_,cn5_con,cn5_acts,⟨by decide,(by intro i h hi;cases hi),(by intro i h hi;cases hi)⟩⟩
 match i,hi with
 | 0,hi=>cases hi;exact⟨nm_c,fun j q h=>by omega⟩
 | n+1,hi=>cases hi
theorem cn5_upd : UpdsRg cn5M:=by
 intro a ha
 simp only [cn5M,List.mem_cons,List.not_mem_nil,or_false] at ha
 rcases ha with rfl|rfl <;> (intro u hu;cases hu)
theorem cn5_rs : rgsF cn5M true= [(0,9)]:=by rw [rgsF,if_pos cn5_val];exact cn5_rg
theorem cn5_rm : rgsF cn5M false= []:=by
 rw [rgsF,if_pos cn5_val,rngF,if_pos cn5_layX]
 simp [rngL,cn5M,tC,isStrict]
theorem cn5_qry(k c:Int) : QryK (rgsF cn5M true).length (rgsF cn5M false).length (k,c)↔c=0∧(k=0∨k=1):=by
 rw [cn5_rs,cn5_rm]
 unfold QryK cntKd
 simp only [List.length_cons,List.length_nil]
 by_cases h:k=0∨k=1
 ·rw [if_pos h]
  omega
 ·rw [if_neg h]
  split <;> omega
theorem cn5_q0 : QrysX cn5M [(0,0)]:=⟨cn5_val,fun q hq=>by
 simp only [List.mem_cons,List.not_mem_nil,or_false] at hq
 subst hq
 exact(cn5_qry 0 0).2 ⟨rfl, .inl rfl⟩⟩
theorem equalQ_p(a b:List QryS) : CallP Tryz.prog 47 [qrys a,qrys b] (.val (.bool (decide (a=b)))):=by
  refine CallA.of pg ord47 Tryz.func47 rfl Tryz.ntmps47 Tryz.results47 rfl fun h0 G0 O0=>?_
  repeat'(first|apply Sp.h|refine Lk.r rfl ?_|refine Rf.mk rfl ?_|apply Bd.mk|apply Im.mk|refine xN ?_|intro _)
  · rename_i ha hb hab _
    refine CA.loop (fun i:Nat=>⟨[(0,qrys a),(1,qrys b),(12, .val (.int .i64 a.length)),(13, .val (.int .i64 i))],[]⟩) (fun i=>i≤a.length∧a.take i=b.take i) (fun i=>a.length - i) 0 xE ⟨zZ _,by simp⟩ ?_
    rintro i ⟨hi,heq⟩
    by_cases hin:i < a.length
    · obtain⟨⟨x1,x2⟩,hx⟩:∃x,a[i]?=some x:=⟨_,zE hin⟩
      obtain⟨⟨y1,y2⟩,hy⟩:∃y,b[i]?=some y:=⟨_,zE (by omega)⟩
      repeat'(first|apply Sp.h|refine Lk.r rfl ?_|refine Rf.mk rfl ?_|refine xA ?_|apply Bd.mk|refine OpK.r rfl ?_|refine xI ?_|refine Ch.l ⟨rfl,rfl⟩ ?_|refine xN ?_|refine xK ?_|(apply Kf.mk;(focus kernel_rfl))|refine xD ?_|refine xO ?_|intro _)
      all_goals first
        | (refine PA.lp (i+1) xE ⟨⟨hin, ?_⟩,by omega⟩
           rw [zK,zK,hx,hy,heq,show(x1,x2)=(y1,y2) by simp_all]
           done)
        | (refine Fin.p rfl ?_
           rw [zF (fun e=>by subst e;rw [hx] at hy;cases hy;simp_all)]
           done)
    · have:i=a.length:=by omega
      subst this
      repeat'(first|apply Sp.h|refine Lk.r rfl ?_|refine Rf.mk rfl ?_|refine xB ?_|refine xN ?_|fail)
      refine Fin.p rfl ?_
      rw [zL] at heq
      rw [zT (by rw [heq,List.take_of_length_le (by omega)])]
  · rename_i h
    refine Fin.p rfl ?_
    rw [zF (fun e=>h (by rw [e]))]
theorem snp5_ok(b:NowS)(l:List EvS)(c:List Int) : SnpOK cn5M b l c:=by
 have h:snpV cn5M b l c= []:=by
  rw [snpV]
  by_cases hv:ValL (mrgF cn5M) (snpK cn5M b l c)
  ·rw [valuesQ_ok hv,cn5_mrg]
   rfl
  ·rw [valuesQ_bad hv]
 refine⟨by rw [h,cn5_mrg];rfl,fun x hx=>?_⟩
 rw [h] at hx
 cases hx
theorem ev5_ca : EvV cn5M 2 ca:=⟨ca_f,rfl,fun _=>by decide⟩
theorem ev5_cb : EvV cn5M 2 cb:=⟨cb_f,rfl,fun _=>by decide⟩
theorem con_2{a b c d:Int}(ha:0≤a∧a≤1024)(hb:0≤b∧b≤1024)(hc:0≤c∧c≤1024)(hd:0≤d∧d≤1024) : ConC [a,b] [c,d]↔c≤a∧d≤b:=by
 rw [conC_iff]
 refine⟨fun h=>⟨h.2 0 c a rfl rfl,h.2 1 d b rfl rfl⟩,fun h=>⟨⟨val2 a b ha hb,val2 c d hc hd,rfl⟩,ins_2 h.1 h.2⟩⟩
theorem chk5{l:List EvS}(hl:∀e∈l,e=ca∨e=cb){a b c d:Int}(ha:0≤a∧a≤1024)(hb:0≤b∧b≤1024)(hc:0≤c∧c≤1024)(hd:0≤d∧d≤1024) :
  chkF [a,b] l [1,1] [c,d]=if a≤c∧b≤d then if c≤1∧d≤1 then 0 else 11 else 7:=by
 have hlo:¬∃e∈l,LooseC [c,d] e:=by
  rintro⟨e,he,-,h2⟩
  apply h2
  rcases hl e he with rfl|rfl
  ·exact(con_2 hc hd (by decide) (by decide)).2 ⟨hc.1,hd.1⟩
  ·exact(con_2 hc hd (by decide) (by decide)).2 ⟨hc.1,hd.1⟩
 unfold chkF
 rw [if_neg (fun h=>h ⟨val2 c d hc hd,rfl⟩)]
 by_cases h1:a≤c∧b≤d
 ·rw [if_pos h1,if_neg (fun h=>h ((con_2 hc hd ha hb).2 h1))]
  by_cases h2:c≤1∧d≤1
  ·rw [if_pos h2,if_neg (fun h=>h ((con_2 (by decide) (by decide) hc hd).2 h2)),if_neg hlo]
  ·rw [if_neg h2,if_pos (fun h=>h2 ((con_2 (by decide) (by decide) hc hd).1 h))]
 ·rw [if_neg h1,if_pos (fun h=>h1 ((con_2 hc hd ha hb).1 h))]
theorem in_2(l:List EvS)(c d:Int)(hc:0≤c∧c≤1024)(hd:0≤d∧d≤1024)(hl:∀e∈l,e=ca∨e=cb) : inL [c,d] l=l.filter fun e=>(decide (e=ca) && decide (1≤c)) || (decide (e=cb) && decide (1≤d)):=by
 obtain⟨h1,h2⟩:=has_2 c d hc hd
 unfold inL
 refine List.filter_congr fun e he=>?_
 have hne:ca≠cb:=fun h=>absurd (congrArg EvS.rep h) (by decide)
 rcases hl e he with rfl|rfl
 ·rw [show decide (HasC [c,d] ca.rep ca.num)=decide (1≤c) from zD.2 h1]
  simp [hne]
 ·rw [show decide (HasC [c,d] cb.rep cb.num)=decide (1≤d) from zD.2 h2]
  simp [hne,hne.symm]
theorem shows5(b:NowS)(hb:b.state= [3]) : snpS cn5M b [ca,cb] [1,0]= [5]∧snpS cn5M b [ca,cb] [0,1]= [2]∧snpS cn5M b [ca,cb] [1,1]= [4]∧snpS cn5M b [ca,cb] [0,0]= [3]:=by
 have hne:ca≠cb:=fun h=>absurd (congrArg EvS.rep h) (by decide)
 have hl:∀e∈ [ca,cb],e=ca∨e=cb:=fun e he=>by simpa using he
 refine⟨?_, ?_, ?_, ?_⟩
 all_goals
  rw [snpS,in_2 _ _ _ (by decide) (by decide) hl,hb]
  simp [hne,hne.symm]
  try rfl
theorem shows5'(b:NowS)(hb:b.state= [5]) : snpS cn5M b [cb] [1,0]= [5]∧snpS cn5M b [cb] [1,1]= [4]:=by
 have hne:ca≠cb:=fun h=>absurd (congrArg EvS.rep h) (by decide)
 have hl:∀e∈ [cb],e=ca∨e=cb:=fun e he=>by right;simpa using he
 refine⟨?_, ?_⟩
 all_goals
  rw [snpS,in_2 _ _ _ (by decide) (by decide) hl,hb]
  simp [hne,hne.symm]
  try rfl
theorem rows5{b:NowS}{l:List EvS}{c:List Int}{x:Int}(h:snpS cn5M b l c= [x]) : rowsF cn5M b l c [(0,0)]= [[x]]:=by
 unfold rowsF
 rw [h]
 rfl
theorem chg5{b:NowS}{l:List EvS}{a c:List Int}(ha:snpS cn5M b l a= [5])(hc:snpS cn5M b l c= [4]) : chgR cn5M b l a c= [(0,0)]:=by
 unfold chgR
 rw [ha,hc,cn5_str,cn5_mrg,chgF_succ,if_neg (show¬valQ [5] _ _ (0,((0:Nat):Int))=valQ [4] _ _ (0,((0:Nat):Int)) from by
  intro h
  have h:([5]:List Int)= [4]:=h
  simp at h)]
 rfl
theorem com5(s:StoQ)(h1:s.w.clock= [1,1])(h2:s.b.clock= [1,0]) : comF [some s,some s]=0∧foldC min (sclkF [some s,some s])= [1,1]:=by
 have hv:=val2 1 1 (by decide) (by decide)
 have h3:sclkF [some s,some s]= [[1,1],[1,1]]:=by simp [sclkF,h1]
 have hf:foldC min (sclkF [some s,some s])= [1,1]:=by rw [h3];rfl
 refine⟨?_,hf⟩
 rw [comF,if_neg,if_neg]
 ·rintro⟨s',hs,h⟩
  simp only [List.mem_cons,List.not_mem_nil,or_false,or_self,Option.some.injEq] at hs
  subst hs
  apply h
  rw [h2,hf]
  exact(con_2 (a:=1) (b:=1) (by decide) (by decide) (by decide) (by decide)).2 (by decide)
 ·rintro(h|h)
  ·simp at h
  ·apply h
   rw [h3]
   refine⟨by simp,fun c hc=>?_⟩
   simp only [List.mem_cons,List.not_mem_nil,or_false,or_self] at hc
   subst hc
   exact⟨hv,rfl⟩
theorem cab5_4 :∃B N,compactF cn5M ⟨stN cn5M 2 [3] [],[ca,cb],stN cn5M 2 [3] [ca,cb]⟩ [1,0]=(0,⟨B,[cb],N⟩)∧B.state= [5]∧SzN B∧N.clock= [1,1]∧B.clock= [1,0]:=by
 obtain⟨B,N,h1,h2,h3,h4⟩:=cab5_3
 refine⟨B,N,h1,h2,h3,h4, ?_⟩
 unfold compactF at h1
 split at h1
 ·simp at h1
 split at h1
 ·simp at h1
 ·have:B=cmpB cn5M (stN cn5M 2 [3] []) [1,0] [ca,cb]:=by
   have:=congrArg (fun q:Int×StoS=>q.2.base) h1
   exact this.symm
  rw [this]
  rfl
end Go.Proofs.YtmjllbjfkafhdaaGreatDoor
namespace Go.CF
open Go
theorem Cl.resx{Γ:Cx}{c:Cls}{o:List Res}{f:FuncId}{ax:List AV}{M' M:AV→List Res→Prop}(h:Cl Γ c f ax o M')(hM:∀r o',M' r o'→∃a o2,FX o' [r] [a] o2∧M a o2) : Cl Γ c f ax o M:=by
 refine⟨fun {hh G Os vs} hp hr=>(h.ok hp hr).mono fun v h' ⟨g1,r,o',G',Os',g2,g3,g4,g5,g6⟩=>?_⟩
 obtain⟨a,o2,x,hm⟩:=hM r o' g2
 obtain⟨G2,Os2,k1,k2,k3⟩:=x.rep g4 (vs:= [v]) ⟨g3,trivial⟩
 exact⟨g1,a,o2,G2,Os2,hm,k2.1,k1,g5,fun b hb=>k3 b (g6 b hb)⟩
theorem CallG.fx{P:Program}{f:FuncId}{ax:List AV}{own:List Res}{K:AV→List Res→Prop}{a:AV}(h:CallG P f ax own K)(hK:∀r o,K r o→FX o [r] [a] []) : CallG P f ax own fun q o=>q=a∧o= [] :=
 ⟨fun hh G Os vs h1 h2 ha=>(h.run hh G Os vs h1 h2 ha).mono fun v' h' ⟨r,o,G',Os',hk,g1,g2⟩=>by
  obtain⟨G2,Os2,k1,k2,k3⟩:=(hK r o hk).rep g2 (vs:= [v']) ⟨g1,trivial⟩
  exact⟨a,[],G2,Os2,⟨rfl,rfl⟩,k2.1,k1⟩⟩
end Go.CF
namespace Go.Proofs.YtmjllbjfkafhdaaGreatDoor
open Go Go.CF
theorem rd_fx{rows:List (List Int)}(hl:rows.length≤1000000)(hm:∀x∈rows,x.length≤1000000){r:AV}{own o:List Res}(h:RdK 0 rows r own) : FX (own ++ o) [r] [.tup [clks rows,it 0]] o:=by
 rcases h with⟨h,_⟩|⟨_,v,L,rfl,rfl,rfl⟩
 ·exact absurd rfl h
 refine .tup (cls_fx (by simpa using hl) (fun x hx=>hm _ (List.mem_map_of_mem hx)) (.le (ALe.refl _) .nil)) .nil
theorem Cl.readG{Γ:Cx}{c:Cls}{o:List Res}{f:FuncId}{ax ax':List AV}{rows:List (List Int)}{M:AV→List Res→Prop}(hc:CallG Γ.P f ax' [] (RdK 0 rows))(ga:AmbF Γ.P Γ.h0 Γ.G0 Γ.O0)(hs:rows.length≤1000000∧∀x∈rows,x.length≤1000000)(hl:Lend o ax ax')(hm:M (.tup [clks rows,it 0]) o) : Cl Γ c f ax o M :=
 Cl.resx (M':=fun r o'=>∃own,RdK 0 rows r own∧o'=own ++ o) (Cl.lendOG hc ga hl flat_rd fun r own h=>⟨own,h,rfl⟩) fun r o' ⟨own,h,e⟩=>by
  subst e
  exact⟨_,_,rd_fx hs.1 hs.2 h,hm⟩
def cs53 : List (List Int×Int):= [([1,0],5),([0,1],2),([1,1],4),([0,0],3)]
def csC(q:List Int×Int) : List AV:= [ints q.1,it q.2]
theorem shw5{b:NowS}{l:List EvS}{w:NowS}(hb:SzN b)(hw:w.clock= [1,1])(hl:∀e∈l,e=ca∨e=cb)(hn:l.length≤2) : ShwS b l w:=by
 refine⟨hb,by rw [hw];decide,by omega,fun e he=>?_⟩
 rcases hl e he with rfl|rfl <;> decide
theorem ev5{l:List EvS}{w:NowS}(hw:w.clock= [1,1])(hl:∀e∈l,e=ca∨e=cb) :∀e∈l,EvV cn5M (w.clock.length:Nat) e:=by
 intro e he
 rw [hw]
 rcases hl e he with rfl|rfl
 ·exact ev5_ca
 ·exact ev5_cb
theorem read5{b:NowS}{l:List EvS}{w:NowS}{c:List Int}{x:Int}(hb:SzN b)(hbs:b.state.length=1)(hw:w.clock= [1,1])(hl:∀e∈l,e=ca∨e=cb)(hn:l.length≤2)(hc:chkF b.clock l [1,1] c=0)(hx:snpS cn5M b l c= [x]) :
  CallG Tryz.prog 16 [mdl cn5M, .ad (stoV cn5M b l w) 0,ints c,qrys [(0,0)]] [] (RdK 0 [[x]]):=by
 have h:=sread_g cn5M b l w c [(0,0)] (shw5 hb hw hl hn) cn5_ok cn5_upd (by rw [cn5_str];exact hbs) (ev5 hw hl) (fun _=>snp5_ok b l c) (by decide)
 rw [rdF,if_pos cn5_q0,hw,hc,rows5 hx] at h
 exact h
theorem sz5 : SzN (stN cn5M 2 [3] []):=by
 refine⟨by simp [stN,clkE],by simp [stN], ?_, ?_,by simp [stN]⟩
 ·simp only [stN,List.foldl_nil,cn5_mrg];simp
 ·simp only [stN,List.foldl_nil,cn5_mrg];simp
theorem l5 :∀e∈ [ca,cb],e=ca∨e=cb:=fun e he=>by simpa using he
theorem read5a(i:Nat)(q:List Int×Int)(hq:cs53[i]?=some q) : CallG Tryz.prog 16 [mdl cn5M, .ad (stoV cn5M (stN cn5M 2 [3] []) [ca,cb] (stN cn5M 2 [3] [ca,cb])) 0,ints q.1,qrys [(0,0)]] [] (RdK 0 [[q.2]]):=by
 obtain⟨s1,s2,s3,s4⟩:=shows5 (stN cn5M 2 [3] []) rfl
 have hk:∀c d:Int,0≤c∧c≤1→0≤d∧d≤1→chkF (stN cn5M 2 [3] []).clock [ca,cb] [1,1] [c,d]=0:=fun c d hc hd=>by
  rw [show(stN cn5M 2 [3] []).clock= [0,0] from rfl,chk5 l5 (by decide) (by decide) (by omega) (by omega),if_pos (by omega),if_pos (by omega)]
 match i,hq with
 | 0,hq=>cases hq;exact read5 sz5 rfl rfl l5 (by decide) (hk _ _ (by decide) (by decide)) s1
 | 1,hq=>cases hq;exact read5 sz5 rfl rfl l5 (by decide) (hk _ _ (by decide) (by decide)) s2
 | 2,hq=>cases hq;exact read5 sz5 rfl rfl l5 (by decide) (hk _ _ (by decide) (by decide)) s3
 | 3,hq=>cases hq;exact read5 sz5 rfl rfl l5 (by decide) (hk _ _ (by decide) (by decide)) s4
 | n+4,hq=>cases hq
theorem now5{b:NowS}{l:List EvS}{w:NowS}{x:Int}(hb:SzN b)(hbs:b.state.length=1)(hw:w.clock= [1,1])(hl:∀e∈l,e=ca∨e=cb)(hn:l.length≤2)(hc:chkF b.clock l [1,1] [1,1]=0)(hx:snpS cn5M b l [1,1]= [x]) :
  CallGP Tryz.prog 18 [mdl cn5M, .ad (stoV cn5M b l w) 0,qrys [(0,0)]] (.tup [clks [[x]],ints [1,1],it 0]):=by
 have h:=snow_g cn5M b l w [(0,0)] (shw5 hb hw hl hn) cn5_ok cn5_upd (by rw [cn5_str];exact hbs) (ev5 hw hl) (fun _=>snp5_ok b l _) (by decide)
 rw [rdF,if_pos cn5_q0,hw,hc,rows5 hx] at h
 refine CallG.fx h ?_
 rintro r o (⟨h,_⟩|⟨_,v,L,u,rfl,rfl,hL⟩)
 ·exact absurd rfl h
 rw [←hL]
 have hl:L.length=1:=by rw [←List.length_map (f:=ClE.c),hL];rfl
 refine .tup (cls_fx (by omega) (fun y hy=>?_) (.s1 .here (by simp) (.le (ALe.refl _) .nil))) .nil
 have:=List.mem_map_of_mem (f:=ClE.c) hy
 rw [hL] at this
 simp at this
 rw [this];simp
theorem com5_p(s:StoQ)(hb:SzN s.b)(hw:s.w.clock= [1,1])(hbc:s.b.clock= [1,0])(hl:∀e∈s.l,e=ca∨e=cb)(hn:s.l.length≤2) :
  CallP Tryz.prog 39 [.sl 1 [some s,some s] sqC] (.tup [ints [1,1],it 0]):=by
 have h:=scommon_a [some s,some s] (by simp) (fun s' hs=>by
  simp only [List.mem_cons,List.not_mem_nil,or_false,or_self,Option.some.injEq] at hs
  subst hs
  exact shw5 hb hw hl hn)
 rw [(com5 s hw hbc).1,(com5 s hw hbc).2] at h
 refine CallA.fx h ?_
 rintro r o (⟨h,_⟩|⟨_,u,rfl,rfl⟩)
 ·exact absurd rfl h
 exact .tup (.s1 .here (by simp) (.le (ALe.refl _) .nil)) .nil
theorem chg5_g{b:NowS}{l:List EvS}{w:NowS}{a c:List Int}(hb:SzN b)(hbs:b.state.length=1)(hw:w.clock= [1,1])(hl:∀e∈l,e=ca∨e=cb)(hn:l.length≤2)(hca:chkF b.clock l [1,1] a=0)(hcc:chkF b.clock l [1,1] c=0)(ha:snpS cn5M b l a= [5])(hc:snpS cn5M b l c= [4]) :
  CallGP Tryz.prog 45 [mdl cn5M, .ad (stoV cn5M b l w) 0,ints a,ints c] (.tup [qrys [(0,0)],it 0]):=by
 have h:=schanged_g cn5M b l w a c (shw5 hb hw hl hn) cn5_ok cn5_upd (by rw [cn5_str];exact hbs) (ev5 hw hl) (fun _=>snp5_ok b l _) (fun _=>snp5_ok b l _)
 rw [chgC,if_pos cn5_val,hw,if_pos hca,hcc,chg5 ha hc] at h
 refine CallG.fx h ?_
 rintro r o (⟨h,_⟩|⟨_,u,rfl,rfl⟩)
 ·exact absurd rfl h
 exact .tup (.s1 .here (by simp) (.le (ALe.refl _) .nil)) .nil
theorem stN_ok5(X:List EvS)(hX:∀e∈X,e∈ [ca,cb])(hl:X.length≤1000) : NowOK cn5M (stN cn5M 2 [3] X):=by
 have h:=stN_okC X hX hl
 exact⟨h.clk,h.st,h.pls,h.pll⟩
end Go.Proofs.YtmjllbjfkafhdaaGreatDoor
