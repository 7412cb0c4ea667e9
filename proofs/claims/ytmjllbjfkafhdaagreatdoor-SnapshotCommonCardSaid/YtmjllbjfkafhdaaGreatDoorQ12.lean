/- Part 12 of the ground of this proof: what its texts say of the model, the program and the plain data; conditions: those that are named. -/
import Derived.Test.YtmjllbjfkafhdaaGreatDoorCards
import Derived.Test.YtmjllbjfkafhdaaGreatDoorQ11
namespace Go.Proofs.YtmjllbjfkafhdaaGreatDoor
open Go Go.CF Go.ChangeShapes Go.WideShapes Go.ChangeAt Go.RowKit
theorem snapshotCommon_k2 : false=Tryz.pinned.checked.prog.looks []:=by kernel_rfl
end Go.Proofs.YtmjllbjfkafhdaaGreatDoor
set_option maxRecDepth 100000
set_option maxHeartbeats 80000000
namespace Go.Proofs.YtmjllbjfkafhdaaGreatDoor
open Go Go.CF Go.ChangeShapes Go.WideShapes Go.ChangeAt Go.RowKit
theorem snapshotCommon_k3 : Tryz.pinned.checked.prog.mainIs=some (true,"f0c9131c7071487561838c5fd10ad184cd06373d64f188cad1dcc86a924dd170".toList):=by kernel_rfl
theorem snapshotCommon_k4 : Rows.snapshotCommonRow.wfByText (OpenSpec.ofChange Rows.snapshotCommonSpec)=true:=by kernel_rfl
theorem snapshotCommon_card(hs:Rows.SnapshotCommonSaid) : Rows.SnapshotCommonCardSaid :=
 Claim7.holds_tied_plain_at .later [] [.listed, .data] true (true,"f0c9131c7071487561838c5fd10ad184cd06373d64f188cad1dcc86a924dd170") false
  hs (fun _ h=>by cases h) snapshotCommon_k4 (fun _ h=>by cases h) snapshotCommon_row_tie rfl ⟨rfl,rfl⟩ snapshotCommon_k3 rfl
  (fun f fn hf hfn=>by
   obtain rfl:f=6:=Option.some.inj ((show Tryz.prog.funcNamed "confluent/confluentlaw53.SnapshotCommon" = some 6 by kernel_rfl).symm.trans hf) |>.symm
   obtain rfl:fn=Tryz.f6:=(Option.some.inj (Tryz.func6.symm.trans hfn)).symm
   exact⟨snapshotCommon_k2,fun j t ht=>by
    rw [Tryz.params6] at ht
    have hm:t∈ [30,22,31,43]:=by simpa using Array.mem_of_getElem? ht
    have hall:([30,22,31,43].all fun u=> !Tryz.prog.wantsStandIn u)=true:=by kernel_rfl
    exact(show Tryz.prog.wantsStandIn t=false by simpa using List.all_eq_true.1 hall t hm)⟩)
  snapshotCommon_k1
theorem slice_mem{α:Type}{r:Rp α}{h:Heap}{F:Nat→Prop}{cs:List Value}{l:List α}(hr:r.slice.R h F cs l){x:α}(hx:x∈l) :∃row,r.R h F row x:=by
 obtain⟨v,rfl,hb,hl,rows,hs,hlen,hrow⟩:=hr
 obtain⟨i,hi⟩:=List.mem_iff_getElem?.1 hx
 obtain⟨row,hi2⟩:∃row,rows[i]?=some row:=⟨_,zE (by have:=(zS.1 hi).1;omega)⟩
 exact⟨row,hrow i row x hi2 hi⟩
theorem model_upds{h:Heap}{F:Nat→Prop}{cs:List Value}{m:ModS}(hr:Rp.model.R h F cs m) : UpdsRg m:=by
 intro a ha u hu
 obtain⟨_,_,_,_,_,_,_,_,_,_,_,_,_,_,_,_,_,_,_,_,_,_,_,h1,_⟩:=hr
 obtain⟨_,h2⟩:=slice_mem h1 ha
 obtain⟨_,_,_,_,_,_,_,_,_,_,_,h3,_⟩:=h2
 obtain⟨_,_,_,_,_,_,_,_,_,_,_,h4,_⟩:=h3
 obtain⟨_,h5⟩:=slice_mem h4 hu
 obtain⟨_,_,_,_,_,_,_,h6,_⟩:=h5
 exact(wf_i64.1 h6.2).2
end Go.Proofs.YtmjllbjfkafhdaaGreatDoor
namespace Go.Proofs.YtmjllbjfkafhdaaGreatDoor
open Go Go.CF
theorem sumK_step{sizes:List Int}{s:Bool}{l:List TblS}(i:Nat) : sumK sizes s (l.take i)≤sumK sizes s (l.take (i+1)):=by
 by_cases h:i < l.length
 ·obtain⟨t,ht⟩:=get_of h
  rw [sumK_succ ht]
  have:=num_le sizes t.cols
  split <;> omega
 ·rw [List.take_of_length_le (by omega),List.take_of_length_le (by omega)];omega
theorem sumK_mono{sizes:List Int}{s:Bool}{l:List TblS}{i j:Nat}(h:i≤j) : sumK sizes s (l.take i)≤sumK sizes s (l.take j):=by
 obtain⟨d,rfl⟩:=Nat.exists_eq_add_of_le h
 induction d with
 | zero=>exact Int.le_refl _
 | succ d ih=>exact Int.le_trans (ih (by omega)) (sumK_step (i+d))
theorem lay_before{sizes:List Int}{l:List TblS}(hl:LayX sizes l){i j:Nat}{t u:TblS}(hij:j < i)(hu:l[j]?=some u)(ht:l[i]?=some t)(hk:decide (isStrict u.kind)=decide (isStrict t.kind)) : u.first+numF sizes u.cols≤t.first:=by
 rw [(hl.t i t ht).fs,(hl.t j u hu).fs,hk]
 have h1:=sumK_succ (sizes:=sizes) (s:=decide (isStrict t.kind)) hu
 rw [if_pos hk] at h1
 have h2:=sumK_mono (sizes:=sizes) (s:=decide (isStrict t.kind)) (l:=l) (show j+1≤i by omega)
 omega
theorem tup_rel{sizes:List Int}{l:List TblS}{s:Bool}(hl:LayX sizes l){i:Nat}{t:TblS}(ht:l[i]?=some t)(hs:decide (isStrict t.kind)=s){k:Int}(hk:0≤k∧k < numF sizes t.cols) : tupF sizes l s (t.first+k)=some (i,(nthF sizes t.cols k).1):=by
 have hf:=hl.first ht
 rw [tupF_at hl (by omega) ht ⟨hs,by omega,by omega⟩ fun j y hj hy hc=>?_]
 ·rw [show t.first+k - t.first=k by omega]
 ·have:=lay_before hl hj hy ht (by rw [hc.1,hs])
  have:=hc.2.2
  omega
theorem num_one{sizes:List Int}{x y:Int}(hc:ColOK sizes [x])(hy:sizes[x.toNat]?=some y) : numF sizes [x]=y:=by
 rw [numF,if_pos hc,prodF,List.foldl_cons,List.foldl_nil,hy]
 simp
theorem nth_one{sizes:List Int}{x y k:Int}(hy:sizes[x.toNat]?=some y)(hk:0≤k∧k < y) : (nthF sizes [x] k).1= [k]:=by
 simp only [nthF,hy,Option.getD_some]
 rw [Int.emod_eq_of_lt hk.1 hk.2]
theorem nth_rng{sizes:List Int}(hs:Sound sizes){k:Int}(hk:0≤k) :∀(cols:List Int) (j:Nat) (x y:Int),cols[j]?=some x→(nthF sizes cols k).1[j]?=some y→0≤y∧∀z,sizes[x.toNat]?=some z→y < z
 | [],j,x,y,h,_=>by simp at h
 | c :: cs,0,x,y,h1,h2=>by
  simp only [List.getElem?_cons_zero,Option.some.injEq] at h1
  subst h1
  simp only [nthF,List.getElem?_cons_zero,Option.some.injEq] at h2
  cases hz:sizes[c.toNat]? with
  | none =>
   rw [hz,Option.getD_none] at h2
   exact⟨by rw [←h2];exact Int.emod_nonneg _ (by omega),fun z h=>by cases h⟩
  | some w =>
   have hw:=hs w (zM hz)
   rw [hz,Option.getD_some] at h2
   refine⟨by rw [←h2];exact Int.emod_nonneg _ (by omega),fun z h=>?_⟩
   cases h
   rw [←h2];exact Int.emod_lt_of_pos _ (by omega)
 | c :: cs,j+1,x,y,h1,h2=>by
  simp only [nthF,List.getElem?_cons_succ] at h1 h2
  exact nth_rng hs hk cs j x y h1 h2
theorem tup_ex{sizes:List Int}{l:List TblS}{s:Bool}(hl:LayX sizes l){c:Int}(hc:0≤c)(hc2:c < sumK sizes s l) :∃(i:Nat) (t:TblS),l[i]?=some t∧decide (isStrict t.kind)=s∧0≤c - t.first∧c - t.first < numF sizes t.cols∧tupF sizes l s c=some (i,(nthF sizes t.cols (c - t.first)).1):=by
 have key:∀n,c < sumK sizes s (l.take n)→∃i,sumK sizes s (l.take i)≤c∧c < sumK sizes s (l.take (i+1)):=by
  intro n
  induction n with
  | zero=>intro h;simp [sumK] at h;omega
  | succ n ih =>
   intro h
   by_cases h1:c < sumK sizes s (l.take n)
   ·exact ih h1
   ·exact⟨n,by omega,h⟩
 obtain⟨i,h1,h2⟩:=key l.length (by rw [zL];exact hc2)
 have hi:i < l.length:=by
  refine Nat.lt_of_not_le fun h=>?_
  rw [List.take_of_length_le h] at h1
  rw [List.take_of_length_le (by omega)] at h2
  omega
 obtain⟨t,ht⟩:=get_of hi
 rw [sumK_succ ht] at h2
 have hs:decide (isStrict t.kind)=s:=by
  by_cases h:decide (isStrict t.kind)=s
  ·exact h
  ·rw [if_neg h] at h2;omega
 rw [if_pos hs] at h2
 have hf:=(hl.t i t ht).fs
 rw [hs] at hf
 have:=tup_rel hl ht hs (k:=c - t.first) (by omega)
 rw [show t.first+(c - t.first)=c by omega] at this
 exact⟨i,t,ht,hs,by omega,by omega,this⟩
theorem strF_sum{m:ModS}(hm:LayOK m.sorts m.tables) : (strF m:Int)=sumK m.sorts true m.tables:=by
 have key:∀l:List TblS,(∀t∈l,t∈m.tables)→(strN m l:Int)=sumK m.sorts true l:=by
  intro l
  induction l with
  | nil=>intro _;rfl
  | cons t l ih =>
   intro h
   have ih:=ih fun t ht=>h t (by simp [ht])
   have hc:=(hm.2.2.2 t (h t (by simp))).1
   have h1:=(sz_fit hc).1
   unfold strN sumK at ih ⊢
   simp only [List.map_cons,List.sum_cons]
   rw [←ih]
   by_cases hs:isStrict t.kind
   ·rw [if_pos hs,if_pos (zT hs),numF,if_pos hc];omega
   ·rw [if_neg hs,if_neg (by simp [hs])];omega
 exact key m.tables fun _ h=>h
theorem strR_len{m:ModS}(hl:LayX m.sorts m.tables) : (strR m).length=strF m:=by
 have h1:=strF_sum hl.ok
 have h2:=rngL_len m.sorts true m.tables
 have h3:strR m=rngL m.sorts true m.tables:=by
  show rngF m.sorts true m.tables=_
  rw [rngF,if_pos hl]
 rw [h3];omega
def hcell(m:ModS)(q:List Int)(h:Int×Int×Int) : Int:=((m.tables[h.2.2.toNat]?.map TblS.first).getD 0)+(q[h.2.1.toNat]?.getD 0)
noncomputable def visN(m:ModS)(st:List Int) : Nat→Int→Bool
 | 0,_=>false
 | n+1,c=>decide (1≤st[c.toNat]?.getD 0) && match tupF m.sorts m.tables true c with
  | some (i,q)=>m.hides.all fun h=> !(decide (h.1=i)) || visN m st n (hcell m q h)
  | none=>true
def Wlk(hs:List (Int×Int×Int)) : Nat→Int→Prop
 | 0,_=>True
 | n+1,a=>∃h∈hs,h.1=a∧Wlk hs n h.2.2
theorem wlk_no{m:ModS}(hx:HidX m)(a:Int) :¬Wlk m.hides (m.tables.length+1) a:=by
 intro hw
 -- the walk's nodes
 have key:∀(n:Nat) (a:Int),Wlk m.hides n a→∃f:Nat→Int,f 0=a∧∀i,i < n→∃h∈m.hides,h.1=f i∧h.2.2=f (i+1):=by
  intro n
  induction n with
  | zero=>exact fun a _=>⟨fun _=>a,rfl,fun i h=>by omega⟩
  | succ n ih =>
   rintro a ⟨h,h1,h2,h3⟩
   obtain⟨f,f1,f2⟩:=ih _ h3
   refine⟨fun i=>match i with | 0=>a|i+1=>f i,rfl,fun i hi=>?_⟩
   match i with
   | 0=>exact⟨h,h1,h2,f1.symm⟩
   | i+1=>exact f2 i (by omega)
 obtain⟨f,_,hf⟩:=key _ a hw
 have hin:∀i,i < m.tables.length+1→0≤f i∧f i < m.tables.length:=fun i hi=>by
  obtain⟨h,h1,h2,_⟩:=hf i hi
  obtain⟨j,hj⟩:=zO h1
  obtain⟨j1,j2,j3,t,u,x,e1,e2,_⟩:=hx.i j h hj
  have:=(zS.1 e2).1
  omega
 have hpig:∃i j,i < j∧j < m.tables.length+1∧f i=f j:=by
  refine Classical.byContradiction fun hno=>?_
  have hnd:((List.range (m.tables.length+1)).map f).Nodup:=by
   refine List.pairwise_iff_getElem.2 fun i j hi hj hij he=>?_
   simp only [List.length_map,List.length_range] at hi hj
   simp only [List.getElem_map,List.getElem_range] at he
   exact hno ⟨i,j,hij,by omega,he⟩
  have:=List.Nodup.length_le_of_subset hnd (l₂:=(List.range m.tables.length).map Int.ofNat) fun q hq=>by
   obtain⟨i,hi,rfl⟩:=List.mem_map.1 hq
   have:=hin i (List.mem_range.1 hi)
   exact List.mem_map.2 ⟨(f i).toNat,List.mem_range.2 (by omega),Int.toNat_of_nonneg (by omega)⟩
  simp only [List.length_map,List.length_range] at this
  omega
 obtain⟨i,j,hij,hj,he⟩:=hpig
 have hlead:∀d i,i+d < m.tables.length+1→Leads m.hides d (f i) (f (i+d)):=by
  intro d
  induction d with
  | zero=>intro i _;rfl
  | succ d ih =>
   intro i hi
   obtain⟨h,h1,h2,h3⟩:=hf i (by omega)
   obtain⟨q,hq⟩:=zO h1
   refine .inr ⟨q,h,hq,h2, ?_⟩
   rw [h3,show i+(d+1)=i+1+d by omega]
   exact ih (i+1) (by omega)
 obtain⟨h,h1,h2,h3⟩:=hf i (by omega)
 obtain⟨q,hq⟩:=zO h1
 refine hx.a q h hq ?_
 rw [h2,h3,he]
 have:=hlead (j - (i+1)) (i+1) (by omega)
 rw [show i+1+(j - (i+1))=j by omega] at this
 exact leads_le (by omega) this
theorem hcell_ok{m:ModS}(hl:LayX m.sorts m.tables)(hx:HidX m){c:Int}{i:Nat}{t:TblS}(ht:m.tables[i]?=some t)(hk:0≤c - t.first){h:Int×Int×Int}(hm:h∈m.hides)(hi:h.1=i) :
  ∃(j2 j3:Nat) (u:TblS) (x y:Int),h.2.2=j2∧m.tables[j2]?=some u∧isStrict u.kind∧u.cols= [x]∧h.2.1=j3∧t.cols[j3]?=some x∧(nthF m.sorts t.cols (c - t.first)).1[j3]?=some y∧0≤y∧y < numF m.sorts u.cols∧hcell m (nthF m.sorts t.cols (c - t.first)).1 h=u.first+y∧tupF m.sorts m.tables true (u.first+y)=some (j2,[y])∧(∃z,m.sorts[x.toNat]?=some z∧y < z)∧ColOK m.sorts [x]:=by
 obtain⟨p,hp⟩:=zO hm
 obtain⟨j1,j2,j3,t',u,x,e1,e2,e3,e4,e5,e6,e7,e8,e9,e10⟩:=hx.i p h hp
 obtain rfl:j1=i:=by omega
 rw [ht] at e2;cases e2
 have hu:=(hl.t j2 u e4).ok.1
 rw [e10] at hu
 have hxm:=hu.2.2 x (by simp)
 obtain⟨z,hz⟩:=get_of (l:=m.sorts) (i:=x.toNat) (by omega)
 obtain⟨y,hy⟩:=get_of (l:=(nthF m.sorts t.cols (c - t.first)).1) (i:=j3) (by rw [nthF_len];exact(zS.1 e9).1)
 obtain⟨y1,y2⟩:=nth_rng hl.so hk t.cols j3 x y e9 hy
 have y2:=y2 z hz
 have hstr:isStrict u.kind:= .inl e7
 have hn:=num_one hu hz
 have htu:=tup_rel hl e4 (s:=true) (zT hstr) (k:=y) ⟨y1,by rw [e10,hn];exact y2⟩
 rw [e10,nth_one hz ⟨y1,y2⟩] at htu
 refine⟨j2,j3,u,x,y,e3,e4,hstr,e10,e8,e9,hy,y1,by rw [e10,hn];exact y2, ?_,htu,⟨z,hz,y2⟩,hu⟩
 rw [hcell,e3,e8,Int.toNat_natCast,Int.toNat_natCast,e4,hy];rfl
theorem cell_lt{m:ModS}(hl:LayX m.sorts m.tables){i:Nat}{u:TblS}(hu:m.tables[i]?=some u)(hs:isStrict u.kind){y:Int}(hy:y < numF m.sorts u.cols) : u.first+y < (strF m:Nat):=by
 rw [strF_sum hl.ok,(hl.t i u hu).fs,zT hs]
 have h1:=sumK_succ (sizes:=m.sorts) (s:=true) hu
 rw [if_pos (zT hs)] at h1
 have h2:=sumK_mono (sizes:=m.sorts) (s:=true) (l:=m.tables) (show i+1≤m.tables.length from(zS.1 hu).1)
 rw [zL] at h2
 omega
theorem all_cong{α:Type}{l:List α}{f g:α→Bool}(h:∀x∈l,f x=g x) : l.all f=l.all g:=by
 induction l with
 | nil=>rfl
 | cons a l ih=>rw [List.all_cons,List.all_cons,h a (by simp),ih fun x hx=>h x (by simp [hx])]
theorem vis_stab{m:ModS}(hl:LayX m.sorts m.tables)(hx:HidX m)(st:List Int) :∀(n:Nat) (c:Int) (i:Nat) (q:List Int),tupF m.sorts m.tables true c=some (i,q)→¬Wlk m.hides (n+1) i→∀k,n+1≤k→visN m st k c=visN m st (n+1) c:=by
 intro n
 induction n with
 | zero =>
  intro c i q hq hw k hk
  obtain⟨k,rfl⟩:=Nat.exists_eq_add_of_le hk
  rw [show 0+1+k=k+1 by omega]
  simp only [visN,hq]
  congr 1
  refine all_cong fun h hm=>?_
  have:¬h.1=i:=fun e=>hw ⟨h,hm,e,trivial⟩
  simp [this]
 | succ n ih =>
  intro c i q hq hw k hk
  obtain⟨k,rfl⟩:=Nat.exists_eq_add_of_le hk
  rw [show n+1+1+k=n+1+k+1 by omega]
  rw [visN,visN]
  simp only [hq]
  congr 1
  refine all_cong fun h hm=>?_
  by_cases he:h.1=i
  ·obtain⟨i',t,ht,hc⟩:∃i' t,m.tables[i']?=some t∧i'=i∧0≤c - t.first∧q=(nthF m.sorts t.cols (c - t.first)).1:=by
    unfold tupF at hq
    split at hq
    ·rename_i h0
     obtain⟨j,hj,hj2⟩:=Option.bind_eq_some_iff.1 hq
     obtain⟨t,ht,ht2⟩:=Option.map_eq_some_iff.1 hj2
     simp only [Prod.mk.injEq] at ht2
     obtain⟨rfl,rfl⟩:=ht2
     unfold tabF at hj
     obtain⟨w,hw2,_⟩:=List.findIdx?_eq_some_iff_getElem.1 hj
     rw [zE w] at ht
     rw [Option.some.inj ht] at hw2
     exact⟨j,t,by rw [zE w];exact ht,rfl,(of_decide_eq_true hw2).2.1,rfl⟩
    ·cases hq
   obtain⟨rfl,h0,rfl⟩:=hc
   obtain⟨j2,j3,u,x,y,e1,e2,e3,e4,e5,e6,e7,e8,e9,e10,e11,_⟩:=hcell_ok hl hx ht h0 hm he
   have hw2:¬Wlk m.hides (n+1) (j2:Int):=fun h9=>hw ⟨h,hm,he,by rw [e1];exact h9⟩
   rw [e10,ih (u.first+y) j2 [y] e11 hw2 (n+1+k) (by omega)]
  ·simp [he]
theorem ccount_g(sizes:List Int)(l:List TblS)(s:Bool) : CallGP Tryz.prog 234 [ints sizes,tbls l, .val (.bool s)] (it ((rngF sizes s l).length:Nat)):=by
 have h:=cranges_g sizes l s
 refine CallG.of pg ordZ Tryz.func234 rfl Tryz.ntmps234 Tryz.results234 rfl fun h0 G0 O0 ga=>?_
 repeat'(first|apply Sp.h|refine Lk.r rfl ?_|refine Rf.mk rfl ?_|refine Im.mk fun _=>?_|refine xN ?_|(apply Cl.pG (h);(focus exact ga);focus(repeat' constructor);done))
 exact Fin.p rfl rfl
def FitX(m:ModS)(st:List Int) : Prop:=ValX m∧st.length=strF m
noncomputable instance (m:ModS) (st:List Int):Decidable (FitX m st):=zC _
theorem sfits_g(m:ModS)(st:List Int)(hol:m.ops.length≤1000000000)(hur:UpdsRg m) : CallGP Tryz.prog 194 [mdl m,ints st] (.val (.bool (decide (FitX m st)))):=by
 have hv:=mvalid_g m hol hur
 have hc:=ccount_g m.sorts m.tables true
 refine CallG.of pg ordZ Tryz.func194 rfl Tryz.ntmps194 Tryz.results194 rfl fun h0 G0 O0 ga=>?_
 by_cases hx:ValX m
 ·have hl:(rngF m.sorts true m.tables).length=strF m:=strR_len hx.lay
  rw [zT hx] at hv
  rw [hl] at hc
  repeat'(first|apply Sp.h|refine Lk.r rfl ?_|refine Rf.mk rfl ?_|refine Im.mk fun _=>?_|refine All.mk fun _=>?_|refine xT ?_|refine Ch.l ⟨rfl,rfl⟩ ?_|refine xN ?_|(apply Cl.pG (hv);(focus exact ga);focus(repeat' constructor);done)|(apply Cl.pG (hc);(focus exact ga);focus(repeat' constructor);done))
  all_goals exact Fin.p rfl (vb (by first|exact(zD.2 ⟨fun h=>⟨hx,by omega⟩,fun h=>by have:=h.2;omega⟩).symm|exact zD.2 ⟨fun h=>⟨hx,by omega⟩,fun h=>by have:=h.2;omega⟩))
 ·rw [zF hx] at hv
  rw [zF fun h:FitX m st=>hx h.1]
  repeat'(first|apply Sp.h|refine Lk.r rfl ?_|refine Rf.mk rfl ?_|refine All.mk fun _=>?_|refine xT ?_|refine Ch.l ⟨rfl,rfl⟩ ?_|refine xN ?_|(apply Cl.pG (hv);(focus exact ga);focus(repeat' constructor);done)|(apply Cl.pG (hc);(focus exact ga);focus(repeat' constructor);done))
  exact Fin.p rfl rfl
theorem ccell_g(sizes:List Int)(l:List TblS)(j:Nat)(u:TblS)(x z y:Int)(hl:LayX sizes l)(hu:l[j]?=some u)(hc:u.cols= [x])(hz:sizes[x.toNat]?=some z)(hx:0≤x)(hy:0≤y)(hyz:y < z) : CallGP Tryz.prog 197 [ints sizes,tbls l,it j,ints [y]] (.tup [it (u.first+y),it 0]):=by
 have hv:=cvalid_g sizes l
 rw [zT hl] at hv
 have hf:=hl.first hu
 have hs:=hl.so z (zM hz)
 have hjl:=(zS.1 hu).1
 have hcl:u.cols.length=1:=by rw [hc];rfl
 have hc0:u.cols[0]?=some x:=by rw [hc];rfl
 obtain⟨xn,rfl⟩:=Int.eq_ofNat_of_zero_le hx
 rw [Int.toNat_natCast] at hz
 have hq1:([y]:List Int).length=1:=rfl
 have hq0:([y]:List Int)[0]?=some y:=rfl
 generalize ([y]:List Int)=q at hq1 hq0 ⊢
 refine CallG.of pg ordZ Tryz.func197 rfl Tryz.ntmps197 Tryz.results197 rfl fun h0 G0 O0 ga=>?_
 repeat'(first|apply Sp.h|refine Lk.r rfl ?_|refine Rf.mk rfl ?_|refine xA ?_|refine xB ?_|refine Im.mk fun _=>?_|refine All.mk fun _=>?_|refine xT ?_|refine xI ?_|refine Ch.l ⟨rfl,rfl⟩ ?_|(apply SetAsk.r;focus repeat' constructor)|refine xN ?_|(apply Cl.pG (hv);(focus exact ga);focus(repeat' constructor);done))
 all_goals try exact(by omega:False).elim
 rename_i b10 _ _ _
 refine CA.loop (fun i:Nat=>⟨[(0,ints sizes),(1,tbls l),(3,ints q),(10,pm b10),(11,it (if i=0 then 0 else y)),(36,ints q),(37,it (q.length:Nat)),(38,it i)],[blkR b10 150 (tblC u)]⟩) (fun i=>i≤1) (fun i=>1 - i) 0 xE (zZ _) ?_
 intro i hi
 match i,hi with
 | 0,_ =>
  simp only [if_true]
  repeat'(first|apply Sp.h|refine Lk.r rfl ?_|refine Rf.mk rfl ?_|refine xA ?_|refine xB ?_|refine xP ?_|refine xT ?_|refine xI ?_|refine xO ?_|fail)
  all_goals try exact(by omega:False).elim
  refine PA.lp 1 ?_ ⟨Nat.le_refl _,by omega⟩
  rw [show(0:Int) * z+y=y by omega]
  exact xE
 | 1,_ =>
  simp only [Nat.one_ne_zero,if_false]
  repeat'(first|apply Sp.h|refine Lk.r rfl ?_|refine Rf.mk rfl ?_|refine xB ?_|refine xT ?_|refine xN ?_|refine xO ?_|fail)
  all_goals try exact(by omega:False).elim
  exact⟨_,_, .tup (.same (.same (.z))),rfl,rfl⟩
instance {a b:Value} : Flat (.tup [.val a, .val b]):=⟨fun h h' G G' v hr=>by
 obtain⟨vs,e,r⟩:=hr
 match vs,r with
 | [x,y],⟨r1,r2,_⟩=>exact⟨[x,y],e,r1,r2,trivial⟩⟩
noncomputable def visF(m:ModS)(st:List Int)(c:Int) : Bool:=visN m st (m.tables.length+1) c
theorem vis_step{m:ModS}(hl:LayX m.sorts m.tables)(hx:HidX m)(st:List Int){c:Int}{i:Nat}{t:TblS}(ht:m.tables[i]?=some t)(h0:0≤c - t.first)(hq:tupF m.sorts m.tables true c=some (i,(nthF m.sorts t.cols (c - t.first)).1)) :
  visF m st c=(decide (1≤st[c.toNat]?.getD 0) && m.hides.all fun h=> !(decide (h.1=i)) || visF m st (hcell m (nthF m.sorts t.cols (c - t.first)).1 h)):=by
 unfold visF
 rw [visN,hq]
 simp only
 congr 1
 refine all_cong fun h hm=>?_
 by_cases he:h.1=i
 ·obtain⟨j2,j3,u,x,y,e1,e2,e3,e4,e5,e6,e7,e8,e9,e10,e11,_⟩:=hcell_ok hl hx ht h0 hm he
  have hw:¬Wlk m.hides m.tables.length (j2:Int):=fun h9=>wlk_no hx i ⟨h,hm,he,by rw [e1];exact h9⟩
  have hp:0 < m.tables.length:=by have:=(zS.1 ht).1;omega
  obtain⟨n,hn⟩:∃n,m.tables.length=n+1:=⟨m.tables.length - 1,by omega⟩
  have hs:=vis_stab hl hx st n (u.first+y) j2 [y] e11 (by rw [←hn];exact hw) (n+1+1) (by omega)
  rw [e10,hn,hs]
 ·simp [he]
abbrev bF:Bool→AV:=fun b=>bl b
def KvV(m:ModS)(st:List Int)(kvs:List (List Int×Bool)) : Prop:=∀c v,lookL kvs [c]=some v→v=visF m st c
abbrev visA (m:ModS) (st:List Int) (b5 b6:Nat):AV:= .fn 195 [pm b5, .ad (modC m) 0, .ad [ints st] 0,pm b6]
abbrev visO (m:ModS) (st:List Int) (b5 b6 M:Nat) (kvs:List (List Int×Bool)):List Res:= [blkR b5 254 [.val (.map (some M))],mapR Tryz.prog M 3 kvs bF,blkR b6 184 [visA m st b5 b6]]
theorem visible1_g(m:ModS)(st:List Int)(hx:ValX m)(hst:st.length=strF m)(b5 b6 M:Nat) :∀(n:Nat) (c:Int) (i:Nat) (t:TblS),m.tables[i]?=some t→0≤c - t.first→0≤c→c < (strF m:Nat)→tupF m.sorts m.tables true c=some (i,(nthF m.sorts t.cols (c - t.first)).1)→¬Wlk m.hides n i→∀kvs,KvV m st kvs→
  CallG Tryz.prog 195 [it c,pm b5, .ad (modC m) 0, .ad [ints st] 0,pm b6] (visO m st b5 b6 M kvs) fun r o=>r=bl (visF m st c)∧∃kvs',KvV m st kvs'∧o=visO m st b5 b6 M kvs':=by
 intro n
 induction n with
 | zero=>exact fun c i t _ _ _ _ _ hw=>absurd trivial hw
 | succ n ih =>
  intro c i t ht h0 hc hcs hq hw kvs hkv
  have hstep:=vis_step hx.lay hx.hid st ht h0 hq
  have htup:=ctuple_g m.sorts m.tables true c (by have:=rngF_len (sizes:=m.sorts) (l:=m.tables) (s:=true);have:(strR m).length=strF m:=strR_len hx.lay;change (rngF m.sorts true m.tables).length=_ at this;omega)
  rw [hq] at htup
  change CallGP _ _ _ (.tup [it i,ints (nthF m.sorts t.cols (c - t.first)).1,bl true]) at htup
  obtain⟨cn,rfl⟩:=Int.eq_ofNat_of_zero_le hc
  obtain⟨x,hxx⟩:=get_of (l:=st) (i:=cn) (by omega)
  rw [Int.toNat_natCast,hxx,Option.getD_some] at hstep
  cases hlk:lookL kvs [(cn:Int)] with
  | some v =>
   have hv:=hkv _ v hlk
   refine CallG.of pg ord195 Tryz.func195 rfl Tryz.ntmps195 Tryz.results195 rfl fun h0 G0 O0 ga=>?_
   repeat'(first|apply Sp.h|refine Lk.r rfl ?_|refine Rf.mk rfl ?_|refine xT ?_|refine xN ?_|(apply Kf.mk;(focus kernel_rfl))|refine xM ?_|(apply LkM.s;(focus first|assumption|rfl))|fail)
   exact⟨_,_, .one (.same (.z)),by rw [hv],kvs,hkv,rfl⟩
  | none =>
   have hho:=fun(h:Int×Int×Int) (hm:h∈m.hides) (he:h.1=i)=>hcell_ok hx.lay hx.hid ht h0 hm he
   generalize (nthF m.sorts t.cols ((cn:Int) - t.first)).1=q at hq htup hstep hho
   refine CallG.of pg ord195 Tryz.func195 rfl Tryz.ntmps195 Tryz.results195 rfl fun h0 G0 O0 ga=>?_
   repeat'(first|apply Sp.h|refine Lk.r rfl ?_|refine Rf.mk rfl ?_|refine Im.mk fun _=>?_|refine xT ?_|refine xI ?_|(apply Kf.mk;(focus kernel_rfl))|refine xM ?_|(apply Zx.b;(focus rfl))|(apply LkM.n;(focus first|assumption|rfl))|(apply Cl.pG (htup);(focus exact ga);focus(repeat' constructor);done))
   refine CA.loop (fun z:Nat×List (List Int×Bool)×Bool=>⟨[(0,it cn),(1,pm b5),(2, .ad (modC m) 0),(3, .ad [ints st] 0),(4,pm b6),(9,it i),(10,ints q),(12,bl z.2.2),(41,hidesA m.hides),(42,it (m.hides.length:Nat)),(43,it z.1)],visO m st b5 b6 M z.2.1⟩)
    (fun z=>z.1≤m.hides.length∧KvV m st z.2.1∧z.2.2=(decide (1≤x) && (m.hides.take z.1).all fun h=> !decide (h.1=i) || visF m st (hcell m q h))) (fun z=>m.hides.length - z.1) (0,kvs,decide (1≤x)) xE ⟨zZ _,hkv,by simp⟩ ?_
   rintro⟨k,kvs2,v⟩ ⟨hk,hkv2,hv⟩
   simp only at hk hkv2 hv
   simp only
   by_cases hkn:k < m.hides.length
   ·obtain⟨⟨g1,g2,g3⟩,hg⟩:=get_of hkn
    have hnext:∀v',v'=(v && (!decide (g1=(i:Int)) || visF m st (hcell m q (g1,g2,g3))))→v'=(decide (1≤x) && (m.hides.take (k+1)).all fun h=> !decide (h.1=i) || visF m st (hcell m q h)):=fun v' e=>by
     rw [e,hv,zK,hg,List.all_append]
     simp [Bool.and_assoc]
    by_cases hcase:v=true∧g1=i
    ·obtain⟨rfl,rfl⟩:=hcase
     obtain⟨j2,j3,u,xx,y,e1,e2,e3,e4,e5,e6,e7,e8,e9,e10,e11,⟨z,e12,e13⟩,e14⟩:=hho _ (zM hg) rfl
     simp only at e1 e5
     subst e1;subst e5
     have hxx0:=(e14.2.2 xx (by simp)).1
     have hf:=hx.lay.first e2
     have hce:=ccell_g m.sorts m.tables j2 u xx z y hx.lay e2 e4 e12 hxx0 e8 e13
     have htr:=tup_rel hx.lay e2 (s:=true) (zT e3) (k:=y) ⟨e8,e9⟩
     have hih:=ih (u.first+y) j2 u e2 (by omega) (by omega) (cell_lt hx.lay e2 e3 e9) (by rw [show u.first+y - u.first=y by omega];exact htr) (fun h9=>hw ⟨_,zM hg,rfl,h9⟩) kvs2 hkv2
     rw [e10] at hnext
     simp only [decide_true,Bool.not_true,Bool.false_or,Bool.true_and] at hnext
     repeat'(first|apply Sp.h|refine Lk.r rfl ?_|refine Rf.mk rfl ?_|refine xA ?_|refine OpK.r rfl ?_|apply All.mk|refine xT ?_|refine xI ?_|refine Ch.l ⟨rfl,rfl⟩ ?_|(apply SetAsk.r;focus repeat' constructor)|(apply Fk.r;focus repeat' first|infer_instance|constructor)|refine xN ?_|refine Rf.mk ⟨rfl,rfl,rfl⟩ ?_|refine xD ?_|intro _)
     all_goals try exact(by omega:False).elim
     (apply Cl.lendG (hce);(focus exact ga);(focus repeat'(first|exact Lend.nil|apply Lend.keep|(apply Lend.lendm;(focus repeat constructor);(focus rfl);(focus first|omega|decide|(simp;omega)|exact zB rfl))|fail)))
     repeat'(first|apply Sp.h|refine Lk.r rfl ?_|refine Rf.mk rfl ?_|refine OpK.r rfl ?_|refine xT ?_|fail)
     (apply Cl.useG (hih);(focus exact ga);(focus repeat' constructor);(focus repeat' constructor);focus rfl)
     rintro _ _ ⟨rfl,kvs3,hkv3,rfl⟩
     repeat'(first|apply Sp.h|refine Lk.r rfl ?_|refine Rf.mk rfl ?_|refine xO ?_|fail)
     exact PA.lp (k+1,kvs3,visF m st (u.first+y)) xE ⟨⟨hkn,hkv3,hnext _ rfl⟩,by simp only;omega⟩
    ·have hgo:=hnext v (by
      cases v
      ·rfl
      ·have:¬g1=i:=fun e=>hcase ⟨rfl,e⟩
       simp [this])
     repeat'(first|apply Sp.h|refine Lk.r rfl ?_|refine Rf.mk rfl ?_|refine xA ?_|refine xB ?_|apply Bd.mk|refine OpK.r rfl ?_|apply All.mk|refine xT ?_|refine xI ?_|refine Ch.l ⟨rfl,rfl⟩ ?_|(apply SetAsk.r;focus repeat' constructor)|refine xN ?_|refine xD ?_|refine xO ?_|intro _)
     all_goals first
      | exact(hcase ⟨by assumption,by omega⟩).elim
      | exact PA.lp (k+1,kvs2,v) xE ⟨⟨hkn,hkv2,hgo⟩,by simp only;omega⟩
   ·have hke:k=m.hides.length:=by omega
    subst hke
    rw [zL,←hstep] at hv
    subst hv
    repeat'(first|apply Sp.h|refine Lk.r rfl ?_|refine Rf.mk rfl ?_|refine xB ?_|refine xT ?_|refine xN ?_|(apply Kf.mk;(focus kernel_rfl))|refine xM ?_|refine UpV.r rfl ?_|fail)
    refine⟨_,_, .one (.same (.z)),rfl,_,fun c v hcv=>?_,rfl⟩
    rw [lookL_upd] at hcv
    by_cases hc9:([c]:List Int)= [(cn:Int)]
    ·rw [if_pos hc9] at hcv
     cases hcv
     simp only [List.cons.injEq,and_true] at hc9
     rw [hc9]
    ·rw [if_neg hc9] at hcv
     exact hkv2 c v hcv
noncomputable def visL(m:ModS)(st:List Int) : List Bool:=(List.range st.length).map fun c=>visF m st (c:Nat)
theorem svisible_g(m:ModS)(st:List Int)(hx:ValX m)(hst:st.length=strF m)(hol:m.ops.length≤1000000000)(hur:UpdsRg m) : CallGP Tryz.prog 137 [mdl m,ints st] (bools (visL m st)):=by
 have hft:=sfits_g m st hol hur
 rw [zT (show FitX m st from⟨hx,hst⟩)] at hft
 have hl128:st.length≤128:=by
  have h1:(strR m).length=strF m:=strR_len hx.lay
  have h2:=rngF_len (sizes:=m.sorts) (l:=m.tables) (s:=true)
  change (strR m).length≤128 at h2
  omega
 refine CallG.of pg ordZ Tryz.func137 rfl Tryz.ntmps137 Tryz.results137 rfl fun h0 G0 O0 ga=>?_
 (repeat'(first|(show CA _ _ (Code.region 1 _ _) _ _;apply Stopped.out)|apply Sp.h|refine Lk.r rfl ?_|refine Rf.mk rfl ?_|apply All.mk|intro _));any_goals apply Stopped.mk
 refine CA.freezeB 2 rfl (by repeat constructor) ?_
 refine CA.freezeB 3 rfl (by repeat constructor) ?_
 repeat'(first|apply Sp.h|refine Lk.r rfl ?_|refine Rf.mk rfl ?_|refine xA ?_|refine Ch.l ⟨rfl,rfl⟩ ?_|(apply Cl.pG (hft);(focus exact ga);focus(repeat' constructor);done))
 refine MkM.r bF ?_
 repeat'(first|apply Sp.h|refine Lk.r rfl ?_|refine Rf.mk rfl ?_|apply Im.mk|apply All.mk|refine xT ?_|refine xV ?_|refine xN ?_|intro _)
 rename_i M b5 b6 _
 refine CA.nilOwn 7 4 1 boolC rfl fun v=>?_
 refine CA.loop (fun z:Nat×List (List Int×Bool)×Value=>⟨[(3, .ad [ints st] 0),(6,pm b6),(7, .ow z.2.2),(15,ints st),(16,it (st.length:Nat)),(17,it z.1)],arrR z.2.2 4 1 ((List.range z.1).map fun c=>visF m st (c:Nat)) boolC :: visO m st b5 b6 M z.2.1⟩)
  (fun z=>z.1≤st.length∧KvV m st z.2.1) (fun z=>st.length - z.1) (0,[],v) xE ⟨zZ _,fun c v h=>by simp [lookL] at h⟩ ?_
 rintro⟨i,kvs,v⟩ ⟨hi,hkv⟩
 simp only at hi hkv
 simp only
 by_cases hin:i < st.length
 ·obtain⟨x,hxx⟩:=get_of hin
  obtain⟨j,t,ht,hs,h0,h1,hq⟩:=tup_ex (s:=true) hx.lay (c:=(i:Int)) (by omega) (by rw [←strF_sum hx.lay.ok];omega)
  have hih:=visible1_g m st hx hst b5 b6 M (m.tables.length+1) i j t ht h0 (by omega) (by omega) hq (wlk_no hx.hid j) kvs hkv
  have hsu:(List.range (i+1)).map (fun c=>visF m st (c:Nat))=(List.range i).map (fun c=>visF m st (c:Nat)) ++ [visF m st (i:Nat)]:=by rw [List.range_succ,List.map_append];rfl
  repeat'(first|apply Sp.h|refine Lk.r rfl ?_|refine Rf.mk rfl ?_|refine xA ?_|refine xT ?_|fail)
  (apply Cl.useG (hih);(focus exact ga);(focus repeat' constructor);(focus repeat' constructor);focus rfl)
  rintro _ _ ⟨rfl,kvs2,hkv2,rfl⟩
  repeat'(first|apply Sp.h|refine Lk.r rfl ?_|refine Rf.mk rfl ?_|refine xP ?_|apply All.mk|refine xU ?_|refine Ce.r ?_|(apply Fk.r;focus repeat' first|infer_instance|constructor)|refine Rf.mk ⟨rfl,rfl⟩ ?_|refine Rf.mk ⟨rfl,rfl,rfl⟩ ?_|(apply Mp.lit;(focus repeat(first|exact MpL.nil|(apply MpL.cons;(focus rfl))|(apply MpL.inv;(focus repeat constructor);(focus infer_instance)))))|refine xO ?_|intro _)
  rw [←hsu]
  exact PA.lp (i+1,kvs2,_) xE ⟨⟨hin,hkv2⟩,by simp only;omega⟩
 ·have:i=st.length:=by omega
  subst this
  repeat'(first|apply Sp.h|refine Lk.r rfl ?_|refine Rf.mk rfl ?_|refine xB ?_|refine xN ?_|fail)
  exact⟨_,_, .one (.fz (by repeat constructor) (by have hvl:(visL m st).length=st.length:=(by simp [visL]);omega) (.z)),rfl,rfl⟩
end Go.Proofs.YtmjllbjfkafhdaaGreatDoor
namespace Go.CF
open Go
structure Dag (S:Type) where
 lst:S→Array Bool
 rk:S→Nat
 pu:S→Option Nat
 rd:S→List Nat
 to:S→Nat→S
def Dag.tree{S:Type}(D:Dag S) : Nat→S→Ord
 | 0,_=> .done
 | n+1,s=>match D.pu s with
  | some i=> .one i (D.tree n (D.to s i))
  | none=>match D.rd s with
   | []=> .done
   | i :: l=> .alt i (D.tree n (D.to s i)) (altsT (fun i=>D.tree n (D.to s i)) l)
def Dag.moves{S:Type}(D:Dag S)(s:S) : List Nat:=match D.pu s with
 | some i=> [i]
 | none=>D.rd s
def isPureC : Cls→Bool | .pure=>true|_=>false
def Dag.okS{S:Type}[BEq S](D:Dag S)(ops:Array Oper)(cl:Nat→Cls)(all:List S)(s:S) : Bool :=
 (match D.pu s with
 | some i=>isPureC (cl i) && (Region.ready .any ops (D.lst s)).contains i && Region.free .any ops (D.lst s) i && ((D.lst s).setIfInBounds i true == D.lst (D.to s i)) && all.contains (D.to s i) && Nat.beq (D.rk (D.to s i)+1) (D.rk s)
 | none=>Region.ready .any ops (D.lst s) == D.rd s && (D.rd s).all fun i=>acts (cl i) && ((D.lst s).setIfInBounds i true == D.lst (D.to s i)) && all.contains (D.to s i) && Nat.beq (D.rk (D.to s i)+1) (D.rk s)) &&
 (Nat.blt 0 (D.rk s) || ((D.pu s).isNone && (D.rd s).isEmpty))
section
variable {S:Type} [BEq S] [LawfulBEq S] {D:Dag S} {ops:Array Oper} {cl:Nat→Cls} {all:List S}
theorem Dag.chk(h:all.all (D.okS ops cl all)=true) :∀(n:Nat) (s:S),s∈all→D.rk s=n→chkG ops cl (D.tree n s) n true (D.lst s)=true:=by
 intro n
 induction n with
 | zero =>
  intro s hs hn
  have h1:=List.all_eq_true.1 h s hs
  unfold Dag.okS at h1
  rw [hn] at h1
  simp only [Bool.and_eq_true,Bool.or_eq_true] at h1
  obtain⟨h1,h2⟩:=h1
  rcases h2 with h2|⟨h2,h3⟩
  ·exact absurd h2 (by decide)
  ·rw [Option.isNone_iff_eq_none] at h2
   rw [List.isEmpty_iff] at h3
   rw [h2] at h1
   simp only [Bool.and_eq_true,h3] at h1
   have h4:Region.ready .any ops (D.lst s)= []:=eq_of_beq h1.1
   simp [Dag.tree,chkG,h4]
 | succ n ih =>
  intro s hs hn
  have h1:=List.all_eq_true.1 h s hs
  unfold Dag.okS at h1
  simp only [Bool.and_eq_true] at h1
  obtain⟨h1,-⟩:=h1
  cases hp:D.pu s with
  | some i =>
   rw [hp] at h1
   simp only [Bool.and_eq_true] at h1
   obtain⟨⟨⟨⟨⟨a1,a2⟩,a3⟩,a4⟩,a5⟩,a6⟩:=h1
   have a4:=eq_of_beq a4
   have a5:D.to s i∈all:=by simpa using a5
   have a6:=Nat.eq_of_beq_eq_true a6
   have hcl:cl i= .pure:=by
    revert a1
    cases cl i <;> simp [isPureC]
   simp only [Dag.tree,hp]
   rw [chk_one_eq,oneOK,hcl]
   simp only [a2,a3,Bool.and_self,Bool.true_and]
   rw [a4]
   exact ih _ a5 (by omega)
  | none =>
   rw [hp] at h1
   simp only [Bool.and_eq_true,List.all_eq_true] at h1
   obtain⟨b1,b2⟩:=h1
   have b1:Region.ready .any ops (D.lst s)=D.rd s:=eq_of_beq b1
   simp only [Dag.tree,hp]
   have sub:∀i∈D.rd s,acts (cl i)=true∧chkG ops cl (D.tree n (D.to s i)) n true ((D.lst s).setIfInBounds i true)=true:=fun i hi=>by
    obtain⟨⟨⟨c1,c2⟩,c3⟩,c4⟩:=b2 i hi
    have c2:=eq_of_beq c2
    have c3:D.to s i∈all:=by simpa using c3
    have c4:=Nat.eq_of_beq_eq_true c4
    refine⟨c1, ?_⟩
    rw [c2]
    exact ih _ c3 (by omega)
   cases hr:D.rd s with
   | nil =>
    rw [hr] at b1
    simp [chkG,b1]
   | cons i l =>
    rw [hr] at b1 sub
    simp only [chkG,altsT_heads,b1,beq_self_eq_true,Bool.or_true,Bool.true_and,Bool.and_eq_true]
    exact⟨sub i (by simp),chk_alts fun j hj=>sub j (by simp [hj])⟩
variable {Γ:Cx} {k:List KI} {e:EA} {o:List Res}
omit [BEq S] [LawfulBEq S] in
theorem RA'.sub{t:Ord}(σ:AS)(hs:Sub e o σ)(h:RA' Γ k ops cl t σ.env σ.own) : RA' Γ k ops cl t e o :=
 ⟨fun hd env hh G _ cn=>let ⟨Os',c⟩:=cn.sub hs;h.h hd env hh G Os' c⟩
theorem RA'.dag{α:Type}(σ:S→α→AS)(I:S→α→Prop)(h:all.all (D.okS ops cl all)=true)
  (hs:∀s∈all,∀x,I s x→(∀i∈D.moves s,∀r,(∀x',I (D.to s i) x'→RA' Γ k ops cl r (σ (D.to s i) x').env (σ (D.to s i) x').own)→RA' Γ k ops cl (.one i r) (σ s x).env (σ s x).own)∧
   (D.moves s= []→PA Γ k .normal (σ s x).env (σ s x).own)) :
  ∀(n:Nat) (s:S),s∈all→D.rk s=n→∀x,I s x→RA' Γ k ops cl (D.tree n s) (σ s x).env (σ s x).own:=by
 intro n
 induction n with
 | zero =>
  intro s hm hn x hx
  have h1:=List.all_eq_true.1 h s hm
  unfold Dag.okS at h1
  rw [hn] at h1
  simp only [Bool.and_eq_true,Bool.or_eq_true] at h1
  obtain⟨h1,h2⟩:=h1
  rcases h2 with h2|⟨h2,h3⟩
  ·exact absurd h2 (by decide)
  ·rw [Option.isNone_iff_eq_none] at h2
   rw [List.isEmpty_iff] at h3
   exact(show RA' Γ k ops cl .done (σ s x).env (σ s x).own from Sp.h (s:=PA Γ k .normal (σ s x).env (σ s x).own) ((hs s hm x hx).2 (by rw [Dag.moves,h2];exact h3)))
 | succ n ih =>
  intro s hm hn x hx
  have h1:=List.all_eq_true.1 h s hm
  unfold Dag.okS at h1
  simp only [Bool.and_eq_true] at h1
  obtain⟨h1,-⟩:=h1
  obtain⟨hs1,hs2⟩:=hs s hm x hx
  cases hp:D.pu s with
  | some i =>
   rw [hp] at h1
   simp only [Bool.and_eq_true] at h1
   obtain⟨⟨-,a5⟩,a6⟩:=h1
   have a5:D.to s i∈all:=by simpa using a5
   have a6:=Nat.eq_of_beq_eq_true a6
   simp only [Dag.tree,hp]
   exact hs1 i (by rw [Dag.moves,hp];exact zH.2 rfl) _ fun x' hx'=>ih _ a5 (by omega) x' hx'
  | none =>
   rw [hp] at h1
   simp only [Bool.and_eq_true,List.all_eq_true] at h1
   obtain⟨-,b2⟩:=h1
   simp only [Dag.tree,hp]
   have sub:∀i∈D.rd s,RA' Γ k ops cl (.one i (D.tree n (D.to s i))) (σ s x).env (σ s x).own:=fun i hi=>by
    obtain⟨⟨-,c3⟩,c4⟩:=b2 i hi
    have c3:D.to s i∈all:=by simpa using c3
    have c4:=Nat.eq_of_beq_eq_true c4
    exact hs1 i (by rw [Dag.moves,hp];exact hi) _ fun x' hx'=>ih _ c3 (by omega) x' hx'
   cases hr:D.rd s with
   | nil=>exact Sp.h (s:=PA Γ k .normal (σ s x).env (σ s x).own) (hs2 (by rw [Dag.moves,hp];exact hr))
   | cons i l =>
    rw [hr] at sub
    exact RA'.alts (f:=fun i=>D.tree n (D.to s i)) (ps:=i :: l) fun j hj=>sub j hj
end
end Go.CF
namespace Go.Proofs.YtmjllbjfkafhdaaGreatDoor
open Go Go.CF
abbrev St12:=Bool×Bool×Nat×Nat×Nat×Nat
def d12 : Dag St12 where
 lst:=fun(m,v,a,b,c,f)=>#[m,Nat.ble 1 a,Nat.ble 2 a,Nat.ble 3 a,Nat.ble 4 a,Nat.ble 1 b,Nat.ble 2 b,Nat.ble 3 b,Nat.ble 4 b,Nat.ble 1 c,Nat.ble 2 c,Nat.ble 3 c,Nat.ble 4 c,Nat.ble 1 f,v,Nat.ble 2 f]
 rk:=fun(m,v,a,b,c,f)=>16 - (m.toNat+v.toNat+a+b+c+f)
 pu:=fun(m,_,a,b,c,f)=>bif Nat.beq a 2 then some 3 else bif Nat.beq b 2 then some 7 else bif Nat.beq c 2 then some 11 else bif m && Nat.beq a 4 && Nat.beq b 4 && Nat.beq c 4 && Nat.beq f 0 then some 13 else none
 rd:=fun(m,v,a,b,c,f)=>(bif m then [] else [0]) ++ (bif Nat.beq a 0 then [1] else bif Nat.beq a 1 then [2] else bif Nat.beq a 3 && m then [4] else []) ++ (bif Nat.beq b 0 then [5] else bif Nat.beq b 1 && Nat.ble 2 a then [6] else bif Nat.beq b 3 && m then [8] else []) ++ (bif Nat.beq c 0 then [9] else bif Nat.beq c 1 && Nat.ble 2 b then [10] else bif Nat.beq c 3 && m then [12] else []) ++ (bif v then [] else [14]) ++ (bif Nat.beq f 1 && v then [15] else [])
 to:=fun(m,v,a,b,c,f) i=>(m || Nat.beq i 0,v || Nat.beq i 14,bif Nat.ble 1 i && Nat.ble i 4 then i else a,bif Nat.ble 5 i && Nat.ble i 8 then i - 4 else b,bif Nat.ble 9 i && Nat.ble i 12 then i - 8 else c,bif Nat.beq i 13 then 1 else bif Nat.beq i 15 then 2 else f)
def all12 : List St12:= [(false,false,0,0,0,0),(false,false,0,0,1,0),(false,false,0,1,0,0),(false,false,0,1,1,0),(false,false,1,0,0,0),(false,false,1,0,1,0),(false,false,1,1,0,0),(false,false,1,1,1,0),(false,false,2,0,0,0),(false,false,2,0,1,0),(false,false,2,1,0,0),(false,false,2,1,1,0),(false,false,3,0,0,0),(false,false,3,0,1,0),(false,false,3,1,0,0),(false,false,3,1,1,0),(false,false,3,2,0,0),(false,false,3,2,1,0),(false,false,3,3,0,0),(false,false,3,3,1,0),(false,false,3,3,2,0),(false,false,3,3,3,0),(false,true,0,0,0,0),(false,true,0,0,1,0),(false,true,0,1,0,0),(false,true,0,1,1,0),(false,true,1,0,0,0),(false,true,1,0,1,0),(false,true,1,1,0,0),(false,true,1,1,1,0),(false,true,2,0,0,0),(false,true,2,0,1,0),(false,true,2,1,0,0),(false,true,2,1,1,0),(false,true,3,0,0,0),(false,true,3,0,1,0),(false,true,3,1,0,0),(false,true,3,1,1,0),(false,true,3,2,0,0),(false,true,3,2,1,0),(false,true,3,3,0,0),(false,true,3,3,1,0),(false,true,3,3,2,0),(false,true,3,3,3,0),(true,false,0,0,0,0),(true,false,0,0,1,0),(true,false,0,1,0,0),(true,false,0,1,1,0),(true,false,1,0,0,0),(true,false,1,0,1,0),(true,false,1,1,0,0),(true,false,1,1,1,0),(true,false,2,0,0,0),(true,false,2,0,1,0),(true,false,2,1,0,0),(true,false,2,1,1,0),(true,false,3,0,0,0),(true,false,3,0,1,0),(true,false,3,1,0,0),(true,false,3,1,1,0),(true,false,3,2,0,0),(true,false,3,2,1,0),(true,false,3,3,0,0),(true,false,3,3,1,0),(true,false,3,3,2,0),(true,false,3,3,3,0),(true,false,3,3,4,0),(true,false,3,4,0,0),(true,false,3,4,1,0),(true,false,3,4,2,0),(true,false,3,4,3,0),(true,false,3,4,4,0),(true,false,4,0,0,0),(true,false,4,0,1,0),(true,false,4,1,0,0),(true,false,4,1,1,0),(true,false,4,2,0,0),(true,false,4,2,1,0),(true,false,4,3,0,0),(true,false,4,3,1,0),(true,false,4,3,2,0),(true,false,4,3,3,0),(true,false,4,3,4,0),(true,false,4,4,0,0),(true,false,4,4,1,0),(true,false,4,4,2,0),(true,false,4,4,3,0),(true,false,4,4,4,0),(true,false,4,4,4,1),(true,true,0,0,0,0),(true,true,0,0,1,0),(true,true,0,1,0,0),(true,true,0,1,1,0),(true,true,1,0,0,0),(true,true,1,0,1,0),(true,true,1,1,0,0),(true,true,1,1,1,0),(true,true,2,0,0,0),(true,true,2,0,1,0),(true,true,2,1,0,0),(true,true,2,1,1,0),(true,true,3,0,0,0),(true,true,3,0,1,0),(true,true,3,1,0,0),(true,true,3,1,1,0),(true,true,3,2,0,0),(true,true,3,2,1,0),(true,true,3,3,0,0),(true,true,3,3,1,0),(true,true,3,3,2,0),(true,true,3,3,3,0),(true,true,3,3,4,0),(true,true,3,4,0,0),(true,true,3,4,1,0),(true,true,3,4,2,0),(true,true,3,4,3,0),(true,true,3,4,4,0),(true,true,4,0,0,0),(true,true,4,0,1,0),(true,true,4,1,0,0),(true,true,4,1,1,0),(true,true,4,2,0,0),(true,true,4,2,1,0),(true,true,4,3,0,0),(true,true,4,3,1,0),(true,true,4,3,2,0),(true,true,4,3,3,0),(true,true,4,3,4,0),(true,true,4,4,0,0),(true,true,4,4,1,0),(true,true,4,4,2,0),(true,true,4,4,3,0),(true,true,4,4,4,0),(true,true,4,4,4,1),(true,true,4,4,4,2)]
def t12 : Ord:=d12.tree 16 (false,false,0,0,0,0)
def q12O : Nat→Ord×(Nat→Cls):=fun id=>bif Nat.beq id 3 then(t12,clOf [.ext, .ext, .ext, .pure, .loud, .ext, .ext, .pure, .loud, .ext, .ext, .pure, .loud, .pure, .ext, .loud]) else(.done,clOf [])
def CntM(a b c:Bool)(s g:Nat)(kvs:List (List Int×Int)) : Prop:=∀k,lookL kvs [k]=if k=0 then(bif a then some (s:Int) else none) else if k=1 then(bif b then some (s:Int) else none) else if k=2 then(bif c then some (g:Int) else none) else none
theorem cnt0{b c:Bool}{s g:Nat}{kvs:List (List Int×Int)}(h:CntM false b c s g kvs) : CntM true b c s g (updL kvs [0] (s:Nat)):=fun k=>by
 rw [lookL_upd,h k]
 by_cases h0:k=0 <;> simp [h0]
theorem cnt1{a c:Bool}{s g:Nat}{kvs:List (List Int×Int)}(h:CntM a false c s g kvs) : CntM a true c s g (updL kvs [1] (s:Nat)):=fun k=>by
 rw [lookL_upd,h k]
 by_cases h0:k=1 <;> simp [h0]
theorem cnt2{a b:Bool}{s g:Nat}{kvs:List (List Int×Int)}(h:CntM a b false s g kvs) : CntM a b true s g (updL kvs [2] (g:Nat)):=fun k=>by
 rw [lookL_upd,h k]
 by_cases h0:k=2 <;> simp [h0]
abbrev consB {α:Type} (c:Bool) (x:α) (r:List α):List α:=bif c then x :: r else r
theorem cntN(s g:Nat) : CntM false false false s g []:=fun k=>by simp [lookL]
def sg12(m:ModS)(l:List QryS)(rs rg:List (Int×Int))(b2:Nat) : St12→Nat×Nat×List (List Int×Int)→AS
 | (mk,v,a,b,c,f),(M,b5,kvs)=>⟨(1,qrys l) :: (2,pm b2) :: consB mk (9, .val (.map (some M))) (consB v (5,pm b5) (consB (Nat.beq a 1) (10,mdl m) (consB (Nat.beq a 2) (11, .sl 2 rs rngC) (consB (Nat.beq a 3) (12,it (rs.length:Nat)) (consB (Nat.beq b 1) (13,mdl m) (consB (Nat.beq b 2) (14, .sl 2 rs rngC) (consB (Nat.beq b 3) (15,it (rs.length:Nat)) (consB (Nat.beq c 1) (16,mdl m) (consB (Nat.beq c 2) (17, .sl 2 rg rngC) (consB (Nat.beq c 3) (18,it (rg.length:Nat)) (consB (Nat.beq f 1) (19, .val (.map (some M))) []))))))))))),
  blkR b2 30 (modC m) :: consB mk (mapR Tryz.prog M 3 kvs cntf) (consB v (blkR b5 112 [bif Nat.beq f 2 then .val (.map (some M)) else .val (.map none)]) [])⟩
def in12(s g:Nat) : St12→Nat×Nat×List (List Int×Int)→Prop
 | (_,_,a,b,c,_),(_,_,kvs)=>CntM (Nat.ble 4 a) (Nat.ble 4 b) (Nat.ble 4 c) s g kvs
theorem svalidW_g(m:ModS)(l:List QryS)(rs rg:List (Int×Int))(hv:CallGP Tryz.prog 56 [mdl m] (.val (.bool true)))(hs:CallGP Tryz.prog 57 [mdl m] (.sl 2 rs rngC))(hg:CallGP Tryz.prog 58 [mdl m] (.sl 2 rg rngC)) :
  CallGP Tryz.prog 12 [mdl m,qrys l] (.val (.bool (l.all fun q=>decide (QryK rs.length rg.length q)))):=by
 refine CallG.of pg q12O Tryz.func12 rfl Tryz.ntmps12 Tryz.results12 rfl fun h0 G0 O0 ga=>?_
 (repeat'(first|(show CA _ _ (Code.region 3 _ _) _ _;apply Stopped.out)|apply Sp.h|refine Lk.r rfl ?_|refine Rf.mk rfl ?_|refine xA ?_|refine All.mk fun _=>?_|refine xT ?_|refine Ch.l ⟨rfl,rfl⟩ ?_|(apply Cl.pG (hv);(focus exact ga);focus(repeat' constructor);done)));any_goals apply Stopped.mk
 rename_i b2
 refine CA.cut (fun x:Nat×Nat×List (List Int×Int)=>⟨[(1,qrys l),(5,pm x.1)],[blkR x.1 112 [.val (.map (some x.2.1))],mapR Tryz.prog x.2.1 3 x.2.2 cntf]⟩) (fun x=>CntM true true true rs.length rg.length x.2.2) ?_ ?_
 ·apply CA.draw (t:=t12)
  focus rfl
  focus kernel_rfl
  focus
   show(noDef _ && chkG _ _ t12 16 _ _)=true
   rw [Bool.and_eq_true]
   exact⟨by kernel_rfl,Dag.chk (all:=all12) (by kernel_rfl) 16 _ (by unfold all12;exact List.mem_cons_self) rfl⟩
  focus exact ON.refl _
  focus rfl
  refine RA'.sub (sg12 m l rs rg b2 (false,false,0,0,0,0) (0,0,[])) xE ?_
  unfold t12
  refine RA'.dag (D:=d12) (all:=all12) (sg12 m l rs rg b2) (in12 rs.length rg.length) (by kernel_rfl) ?_ 16 _ (by unfold all12;exact List.mem_cons_self) rfl _ (cntN _ _)
  unfold all12
  repeat'(first|exact List.forall_mem_nil _|refine List.forall_mem_cons.2 ⟨?_, ?_⟩)
  all_goals
   rintro⟨M,b5,kvs⟩ hI
   refine⟨?_, ?_⟩
   ·repeat'(first|exact List.forall_mem_nil _|refine List.forall_mem_cons.2 ⟨?_, ?_⟩)
    all_goals
     intro r hr
     (repeat'(first|apply Sp.h|refine Lk.r rfl ?_|refine Rf.mk rfl ?_|refine OpK.r rfl ?_|refine Im.mk fun _=>?_|refine All.mk fun _=>?_|refine xT ?_|refine Ch.l ⟨rfl,rfl⟩ ?_|refine xV ?_|refine xN ?_|(apply Kf.mk;(focus kernel_rfl))|refine xM ?_|refine UpV.r rfl ?_|(refine MkM.r cntf ?_)|(apply Cl.pG (hs);(focus exact ga);focus(repeat' constructor);done)|(apply Cl.pG (hg);(focus exact ga);focus(repeat' constructor);done)))
     first
      | (refine RA'.sub _ ?_ (hr (M,b5,kvs) hI);refine⟨?_, ?_⟩;(focus((repeat first|exact trivial|refine⟨rfl, ?_⟩);done));(focus(((repeat first|exact .nil|refine .cons (by repeat constructor) ?_));done)))
      | (rename_i q;refine RA'.sub _ ?_ (hr (q,b5,[]) (cntN _ _));refine⟨?_, ?_⟩;(focus((repeat first|exact trivial|refine⟨rfl, ?_⟩);done));(focus(((repeat first|exact .nil|refine .cons (by repeat constructor) ?_));done)))
      | (rename_i q;refine RA'.sub _ ?_ (hr (M,q,kvs) hI);refine⟨?_, ?_⟩;(focus((repeat first|exact trivial|refine⟨rfl, ?_⟩);done));(focus(((repeat first|exact .nil|refine .cons (by repeat constructor) ?_));done)))
      | (refine RA'.sub _ ?_ (hr (M,b5,updL kvs [0] (rs.length:Nat)) (cnt0 hI));refine⟨?_, ?_⟩;(focus((repeat first|exact trivial|refine⟨rfl, ?_⟩);done));(focus(((repeat first|exact .nil|refine .cons (by repeat constructor) ?_));done)))
      | (refine RA'.sub _ ?_ (hr (M,b5,updL kvs [1] (rs.length:Nat)) (cnt1 hI));refine⟨?_, ?_⟩;(focus((repeat first|exact trivial|refine⟨rfl, ?_⟩);done));(focus(((repeat first|exact .nil|refine .cons (by repeat constructor) ?_));done)))
      | (refine RA'.sub _ ?_ (hr (M,b5,updL kvs [2] (rg.length:Nat)) (cnt2 hI));refine⟨?_, ?_⟩;(focus((repeat first|exact trivial|refine⟨rfl, ?_⟩);done));(focus(((repeat first|exact .nil|refine .cons (by repeat constructor) ?_));done)))
   ·intro hmv
    first
     | exact absurd hmv (List.cons_ne_nil _ _)
     | exact PA.lp (b5,M,kvs) xE hI
 ·rintro⟨b5,M,kvs⟩ hk
  simp only at hk
  simp only
  have hk2:CntK kvs rs.length rg.length:=fun k=>by
   rw [hk k]
   unfold cntO
   by_cases h0:k=0
   ·simp [h0]
   ·by_cases h1:k=1 <;> simp [h0,h1]
  have hcon:=containsQ_p (g:=60) (p:=fun q=>decide (¬QryK rs.length rg.length q)) (fun q=>qclo_p hk2 q) rfl l
  repeat'(first|apply Sp.h|refine Lk.r rfl ?_|refine Rf.mk rfl ?_|fail)
  refine Cl.lendS hcon (lendS_map (by repeat constructor) (by repeat constructor)) ?_
  repeat'(first|apply Sp.h|refine Lk.r rfl ?_|refine xN ?_|fail)
  refine Fin.p rfl (vb ?_)
  rw [Bool.eq_iff_iff]
  simp
theorem svalid_g(m:ModS)(l:List QryS)(hol:m.ops.length≤1000000000)(hur:UpdsRg m) : CallGP Tryz.prog 12 [mdl m,qrys l] (.val (.bool (decide (QrysX m l)))):=by
 have hv:=mvalid_g m hol hur
 by_cases hx:ValX m
 ·have h:=svalidW_g m l (rgsF m true) (rgsF m false) (by rw [zT hx] at hv;exact hv) (mstrict_g m hol hur) (mmerged_g m hol hur)
  have he:(l.all fun q=>decide (QryK (rgsF m true).length (rgsF m false).length q))=decide (QrysX m l):=by
   rw [Bool.eq_iff_iff,List.all_eq_true,decide_eq_true_iff]
   exact⟨fun h=>⟨hx,fun q hq=>of_decide_eq_true (h q hq)⟩,fun h q hq=>zT (h.2 q hq)⟩
  rw [he] at h
  exact h
 ·rw [zF hx] at hv
  rw [zF fun h:QrysX m l=>hx h.1]
  refine CallG.of pg q12O Tryz.func12 rfl Tryz.ntmps12 Tryz.results12 rfl fun h0 G0 O0 ga=>?_
  repeat'(first|apply Sp.h|refine Lk.r rfl ?_|refine Rf.mk rfl ?_|refine xB ?_|refine All.mk fun _=>?_|refine xT ?_|refine Ch.l ⟨rfl,rfl⟩ ?_|refine xN ?_|(apply Cl.pG (hv);(focus exact ga);focus(repeat' constructor);done))
  exact Fin.p rfl rfl
def Nm(x y:MkS) : Prop:=x.rep=y.rep∧x.num=y.num
def MksTo(t:TblS)(l:List MkS)(n:Nat) : Prop:=∀i x,i < n→l[i]?=some x→RightK t x∧(∀j y,j < i→l[j]?=some y→¬Nm y x)∧(∀y,0 < i→l[i - 1]?=some y→¬LtK x y)
def GenG(t:TblS)(g:MgS) : Prop:=(g.drop=true→t.kind=3)∧¬(g.put=true∧isReg t.kind)∧¬(t.kind=4∧1 < g.marks.length)∧g.marks.length≤1024
def ValG(t:TblS)(g:MgS) : Prop:=GenG t g∧MksTo t g.marks g.marks.length
noncomputable instance (t:TblS) (g:MgS):Decidable (ValG t g):=zC _
def namesL(l:List MkS) : List (List Int×Bool):=l.map fun x=>([x.rep,x.num],true)
def HasNm(l:List MkS)(x:MkS) : Prop:=∃y∈l,Nm y x
noncomputable instance (l:List MkS) (x:MkS):Decidable (HasNm l x):=zC _
theorem names_look(l:List MkS)(x:MkS) : lookL (namesL l) [x.rep,x.num]=if HasNm l x then some true else none:=by
 induction l with
 | nil=>simp [namesL,lookL,HasNm]
 | cons a l ih =>
  simp only [namesL,lookL,List.map_cons,List.find?_cons] at ih ⊢
  by_cases h:Nm a x
  ·rw [if_pos ⟨a,by simp,h⟩]
   simp [h.1,h.2]
  ·have h2:decide ([a.rep,a.num]= [x.rep,x.num])=false:=by simpa [Nm] using h
   rw [h2]
   rw [ih]
   have e:HasNm l x↔HasNm (a :: l) x:=by simp [HasNm,h]
   by_cases hh:HasNm l x
   ·rw [if_pos hh,if_pos (e.1 hh)]
   ·rw [if_neg hh,if_neg (fun h9=>hh (e.2 h9))]
theorem names_app{l:List MkS}{i:Nat}{x:MkS}(hx:l[i]?=some x)(hn:lookL (namesL (l.take i)) [x.rep,x.num]=none) : updL (namesL (l.take i)) [x.rep,x.num] true=namesL (l.take (i+1)):=by
 rw [updL_none _ _ _ hn,zK,hx];simp [namesL]
theorem mksTo_zero(t:TblS)(l:List MkS) : MksTo t l 0:=fun i x h=>by omega
theorem mksTo_succ{t:TblS}{l:List MkS}{i:Nat}{x:MkS}(hx:l[i]?=some x)(h:MksTo t l i)(h1:RightK t x)(h2:∀j y,j < i→l[j]?=some y→¬Nm y x)(h3:∀y,0 < i→l[i - 1]?=some y→¬LtK x y) : MksTo t l (i+1):=by
 intro k y hk hy
 by_cases hki:k=i
 ·subst hki;rw [hx] at hy;cases hy;exact⟨h1,h2,h3⟩
 ·exact h k y (by omega) hy
theorem valid34_p(t:TblS)(g:MgS) : CallP Tryz.prog 206 [.agg (tblC t), .agg (mgC g)] (bl (decide (ValG t g))):=by
  obtain⟨put,drop,l⟩:=g
  have no:∀{p:Prop},(p→False)→¬p:=fun h=>h
  refine CallA.of pg ord206 Tryz.func206 rfl Tryz.ntmps206 Tryz.results206 rfl fun h0 G0 O0=>?_
  by_cases hg:GenG t ⟨put,drop,l⟩
  · have g1:drop=true→t.kind=3:=hg.1
    have g2:put=true→¬isReg t.kind:=fun h h'=>hg.2.1 ⟨h,h'⟩
    have g3:¬(t.kind=4∧1 < l.length):=hg.2.2.1
    have g4:l.length≤1024:=hg.2.2.2
    repeat'(first|apply Sp.h|refine Lk.r rfl ?_|refine Rf.mk rfl ?_|refine xA ?_|refine xB ?_|(refine Bd.mk ?_ ?_ <;> intro _)|refine Im.mk fun _=>?_|refine All.mk fun _=>?_|refine xT ?_|refine Ch.l ⟨rfl,rfl⟩ ?_|refine xN ?_|(apply Cl.p (register_p _);focus repeat' constructor))
    all_goals try exact absurd (by assumption) (g2 (by assumption))
    all_goals try exact absurd (g1 (by assumption)) (by assumption)
    all_goals try exact(g3 ⟨by omega,by omega⟩).elim
    all_goals try(simp only at *;omega)
    all_goals refine MkM.r bl ?_
    all_goals repeat'(first|apply Sp.h|refine Lk.r rfl ?_|refine Rf.mk rfl ?_|apply Im.mk|apply All.mk|refine xT ?_|intro _)
    all_goals refine CA.loop (fun i:Nat=>⟨[(2,pm _),(3,pm _),(5, .val (.map (some _))),(42,mks l),(43,it (l.length:Nat)),(44,it i)],[blkR _ 150 (tblC t),blkR _ 231 (mgC ⟨put,drop,l⟩),mapR Tryz.prog _ 70 (namesL (l.take i)) bl]⟩) (fun i=>i≤l.length∧MksTo t l i) (fun i=>l.length - i) 0 xE ⟨zZ _,mksTo_zero t l⟩ ?_
    all_goals
      rintro i ⟨hi,hm⟩
      by_cases hin:i < l.length
      · obtain⟨x,hx⟩:=get_of hin
        have hlk:=names_look (l.take i) x
        by_cases hdup:HasNm (l.take i) x
        · rw [if_pos hdup] at hlk
          repeat'(first|apply Sp.h|refine Lk.r rfl ?_|refine Rf.mk rfl ?_|refine xA ?_|refine xB ?_|(refine Bd.mk ?_ ?_ <;> intro _)|refine OpK.r rfl ?_|refine All.mk fun _=>?_|refine xT ?_|refine xI ?_|refine Ch.l ⟨rfl,rfl⟩ ?_|(apply SetAsk.r;focus repeat' constructor)|refine xN ?_|refine xK ?_|(apply Kf.mk;(focus kernel_rfl))|refine xM ?_|(apply LkM.s;(focus first|assumption|rfl))|refine xD ?_|(apply Cl.p (right_p _ _);focus repeat' constructor)|(apply Cl.p (dot_p _);focus repeat' constructor))
          all_goals refine Fin.p rfl (vb (zF (fun h=>?_)).symm)
          all_goals
            obtain⟨h1,h2,-⟩:=h.2 i x hin hx
            first
              | exact absurd h1 (by assumption)
              | (obtain⟨y,hy,hn⟩:=hdup
                 obtain⟨j,hj⟩:=zO hy
                 have hji:j < i:=by have:=(zS.1 hj).1;rw [zN] at this;omega
                 rw [List.getElem?_take,if_pos hji] at hj
                 exact h2 j y hji hj hn)
        · rw [if_neg hdup] at hlk
          have hap:=names_app hx hlk
          have hd:∀j y,j < i→l[j]?=some y→¬Nm y x:=fun j y hj hy hn=>hdup ⟨y,zM (i:=j) (by rw [List.getElem?_take,if_pos hj];exact hy),hn⟩
          rcases Nat.eq_zero_or_pos i with h0|h0
          · subst h0
            repeat'(first|apply Sp.h|refine Lk.r rfl ?_|refine Rf.mk rfl ?_|refine xA ?_|refine xB ?_|(refine Bd.mk ?_ ?_ <;> intro _)|refine OpK.r rfl ?_|refine All.mk fun _=>?_|refine xT ?_|refine xI ?_|refine Ch.l ⟨rfl,rfl⟩ ?_|(apply SetAsk.r;focus repeat' constructor)|refine xN ?_|refine xK ?_|(apply Kf.mk;(focus kernel_rfl))|refine xM ?_|refine UpV.r rfl ?_|(apply Zx.b;(focus rfl))|(apply LkM.n;(focus first|assumption|rfl))|refine xD ?_|refine xO ?_|(apply Cl.p (right_p _ _);focus repeat' constructor)|(apply Cl.p (dot_p _);focus repeat' constructor))
            all_goals first
              | (refine Fin.p rfl (vb (zF (fun h=>?_)).symm)
                 exact absurd (h.2 0 x hin hx).1 (by assumption))
              | (rw [hap]
                 exact PA.lp 1 xE ⟨⟨hin,mksTo_succ hx hm (by assumption) hd (fun y h _=>absurd h (Nat.lt_irrefl 0))⟩,by omega⟩)
          · obtain⟨k,rfl⟩:∃k,i=k+1:=⟨i - 1,by omega⟩
            obtain⟨y,hy⟩:=get_of (l:=l) (i:=k) (by omega)
            have hk4:¬t.kind=4:=fun h=>g3 ⟨h,by omega⟩
            have hcm:=cmpK_pos (a:=y) (b:=x)
            first
              | exact absurd (by assumption) hk4
              | skip
            all_goals repeat'(first|apply Sp.h|refine Lk.r rfl ?_|refine Rf.mk rfl ?_|refine xA ?_|refine xB ?_|(refine Bd.mk ?_ ?_ <;> intro _)|refine OpK.r rfl ?_|refine All.mk fun _=>?_|refine xT ?_|refine xI ?_|(apply Ix.r;(focus assumption);(focus omega))|refine Ch.l ⟨rfl,rfl⟩ ?_|(apply SetAsk.r;focus repeat' constructor)|refine xN ?_|refine xK ?_|(apply Kf.mk;(focus kernel_rfl))|refine xM ?_|(apply Zx.b;(focus rfl))|(apply LkM.n;(focus first|assumption|rfl))|refine xD ?_|refine xO ?_|(apply Cl.p (right_p _ _);focus repeat' constructor)|(apply Cl.p (dot_p _);focus repeat' constructor))
            all_goals try(refine Fin.p rfl (vb (zF (fun h=>?_)).symm);exact absurd (h.2 (k+1) x hin hx).1 (by assumption))
            all_goals repeat'(first|apply Sp.h|refine Lk.r rfl ?_|refine Rf.mk rfl ?_|refine xA ?_|(refine Bd.mk ?_ ?_ <;> intro _)|refine OpK.r rfl ?_|refine xT ?_|refine Ch.l ⟨rfl,rfl⟩ ?_|refine xN ?_|refine xK ?_|(apply Kf.mk;(focus kernel_rfl))|refine xM ?_|refine UpV.r rfl ?_|refine xO ?_|(apply Cl.p (compareK_p _ _);focus repeat' constructor)|(apply Cl.p (dot_p _);focus repeat' constructor))
            all_goals first
              | (refine Fin.p rfl (vb (zF (fun h=>?_)).symm)
                 exact(h.2 (k+1) x hin hx).2.2 y h0 hy (hcm.1 (by assumption)))
              | (rw [hap]
                 exact PA.lp (k+1+1) xE ⟨⟨hin,mksTo_succ hx hm (by assumption) hd (fun z _ hz=>by rw [show k+1 - 1=k from rfl,hy] at hz;cases hz;exact fun h=>absurd (hcm.2 h) (by assumption))⟩,by omega⟩)
      · have hie:i=l.length:=by omega
        subst hie
        repeat'(first|apply Sp.h|refine Lk.r rfl ?_|refine Rf.mk rfl ?_|refine xB ?_|refine xN ?_|fail)
        exact Fin.p rfl (vb (zT (show ValG t ⟨put,drop,l⟩ from⟨hg,hm⟩)).symm)
  · have hng:¬ValG t ⟨put,drop,l⟩:=fun h=>hg h.1
    unfold GenG at hg
    repeat'(first|apply Sp.h|refine Lk.r rfl ?_|refine Rf.mk rfl ?_|refine xA ?_|refine xB ?_|(refine Bd.mk ?_ ?_ <;> intro _)|refine Im.mk fun _=>?_|refine All.mk fun _=>?_|refine xT ?_|refine Ch.l ⟨rfl,rfl⟩ ?_|refine xN ?_|(apply Cl.p (register_p _);focus repeat' constructor))
    all_goals first
      | exact Fin.p rfl (vb (zF hng).symm)
      | (refine(hg ⟨fun h=>?_,fun h=>?_,fun h=>?_, ?_⟩).elim
         all_goals(simp only at *;first|assumption|omega|simp_all))
def ValL(ts:List TblS)(l:List MgS) : Prop:=ts.length=l.length∧∀(i:Nat) (t:TblS) (g:MgS),ts[i]?=some t→l[i]?=some g→ValG t g
noncomputable instance (ts:List TblS) (l:List MgS):Decidable (ValL ts l):=zC _
abbrev EqFn:FuncId:=205
theorem equalTM_p(ts:List TblS)(l:List MgS) : CallP Tryz.prog EqFn [tbls ts,mgs l, .fn 206 []] (bl (decide (ValL ts l))):=by
 refine CallA.of pg ordZ Tryz.func205 rfl Tryz.ntmps205 Tryz.results205 rfl fun h0 G0 O0=>?_
 repeat'(first|apply Sp.h|refine Lk.r rfl ?_|refine Rf.mk rfl ?_|apply Bd.mk|apply Im.mk|refine xN ?_|intro _)
 rotate_left
 ·rename_i hlen
  exact Fin.p rfl (vb (zF (fun h=>by have:=h.1;omega)).symm)
 refine CA.loop (fun i:Nat=>⟨[(1,mgs l),(2, .fn 206 []),(15,tbls ts),(16,it (ts.length:Nat)),(17,it i)],[]⟩) (fun i=>i≤ts.length∧∀j t g,j < i→ts[j]?=some t→l[j]?=some g→ValG t g) (fun i=>ts.length - i) 0 xE ⟨zZ _,fun j t g h=>by omega⟩ ?_
 rintro i ⟨hi,ha⟩
 by_cases hin:i < ts.length
 ·obtain⟨t,ht⟩:=get_of hin
  obtain⟨g,hg⟩:=get_of (l:=l) (i:=i) (by omega)
  repeat'(first|apply Sp.h|refine Lk.r rfl ?_|refine Rf.mk rfl ?_|refine xA ?_|(refine Bd.mk ?_ ?_ <;> intro _)|refine All.mk fun _=>?_|refine xT ?_|refine xI ?_|refine Ch.l ⟨rfl,rfl⟩ ?_|(apply SetAsk.r;focus repeat' constructor)|refine xN ?_|refine xO ?_|(apply Cl.p (valid34_p _ _);focus repeat' constructor))
  ·refine PA.lp (i+1) xE ⟨⟨hin,fun j t' g' hj h1 h2=>?_⟩,by omega⟩
   by_cases hji:j=i
   ·subst hji;rw [ht] at h1;rw [hg] at h2;cases h1;cases h2;assumption
   ·exact ha j t' g' (by omega) h1 h2
  ·exact Fin.p rfl (vb (zF (fun h=>by have:=h.2 i t g ht hg;contradiction)).symm)
 have hie:i=ts.length:=by omega
 subst hie
 repeat'(first|apply Sp.h|refine Lk.r rfl ?_|refine Rf.mk rfl ?_|refine xB ?_|refine xN ?_|fail)
 exact Fin.p rfl (vb (zT (show ValL ts l from⟨by omega,fun j t g h1 h2=>ha j t g (zS.1 h1).1 h1 h2⟩)).symm)
theorem validM_p(m:ModS)(l:List MgS)(hm:LayOK m.sorts m.tables) : CallP Tryz.prog 160 [mdl m,mgs l] (bl (decide (ValL (mrgF m) l))):=by
 have hc:=cells_p m hm
 have he:=equalTM_p (mrgF m) l
 refine CallA.of pg ordZ Tryz.func160 rfl Tryz.ntmps160 Tryz.results160 rfl fun h0 G0 O0=>?_
 repeat'(first|apply Sp.h|refine Lk.r rfl ?_|refine Rf.mk rfl ?_|refine All.mk fun _=>?_|refine xT ?_|refine Ch.l ⟨rfl,rfl⟩ ?_|(apply Cl.p (hc);focus repeat' constructor))
 refine xQ (he) ?_
 repeat'(first|apply Sp.h|refine Lk.r rfl ?_|refine xN ?_|fail)
 exact Fin.p rfl rfl
def KindM(ts:List TblS) : Prop:=∀t∈ts,2≤t.kind∧t.kind≤5
theorem mrgL_mem{m:ModS}{l:List TblS}{t:TblS}(h:t∈mrgL m l) : t∈l∧¬isStrict t.kind:=by
 unfold mrgL at h
 obtain⟨u,hu,ht⟩:=List.mem_flatMap.1 h
 split at ht
 ·cases ht
 ·rename_i hs
  have:=List.eq_of_mem_replicate ht
  subst this
  exact⟨hu,hs⟩
theorem kindM{m:ModS}(hm:LayOK m.sorts m.tables) : KindM (mrgF m):=by
 intro t ht
 obtain⟨h1,h2⟩:=mrgL_mem ht
 have:=(hm.2.2.2 t h1).2
 unfold isStrict at h2
 omega
theorem ovF_mark : OvF Tryz.prog 270 229 :=
 ⟨_,4,Tryz.func270,by kernel_rfl,by kernel_rfl,by kernel_rfl,by kernel_rfl⟩
instance (priority:=2000) {T:Nat→Ord×(Nat→Cls)} {n:Nat} {rs:Array ResultVar} {K:AV→List Res→Prop} {h0:Heap} {G0 O0:Nat→Prop} {d:Tmp} {x y:Operand} {tys:Array TypeId} {ty:TypeId} {e:EA} {o:List Res} {N:NA} :
  Sp (SA ⟨Tryz.prog,tt,en,pg,T,n,rs,K,h0,G0,O0,⟨none⟩⟩ .loud (some d) (.call { callee:= .value (.func 270),args:=#[x,y],argTypes:=tys }) ty e o N)
   (Lk (evA e x) fun a=>Lk (evA e y) fun b=>Ovl o a b (N ((d, .val (.bool false)) :: e) o)):=⟨fun h=>SA.ovl ovF_mark (tS:=229) rfl rfl h⟩
theorem ins_eq{α:Type}{L:List α}{r:α}{i:Nat}(hi:i < L.length)(a b c:Nat)(ha:a=L.length - i)(hb:b=1)(hc:c=1) :
  (L.take (i+c) ++ (L.drop i).take a).take i ++ [r].take b ++ (L.take (i+c) ++ (L.drop i).take a).drop (i+b)=L.take i ++ r :: L.drop i:=by
 subst ha;subst hb;subst hc
 have h1:(L.drop i).take (L.length - i)=L.drop i:=List.take_of_length_le (by simp)
 have h2:(L.take (i+1)).length=i+1:=by simp;omega
 rw [h1,List.take_append_of_le_length (by omega),List.take_take,Nat.min_eq_left (by omega),List.drop_append_of_le_length (by omega),List.drop_of_length_le (by omega)]
 simp
theorem ins_eq2{α:Type}{L:List α}{r:α}{i:Nat}(hi:i < L.length)(a b c d e g:Nat)(hg:g=i)(he:e=1)(hd:d=L.length - i)(hb:b=L.length - i)(ha:a=i)(hc:c=1) :
  (((L.take g).take a ++ [r].take e).take (i+c) ++ ((L.drop i).take d).take b)=L.take i ++ r :: L.drop i:=by
 subst ha;subst hb;subst hc;subst hd;subst he;subst hg
 have h1:(L.drop g).take (L.length - g)=L.drop g:=List.take_of_length_le (by simp)
 rw [h1,h1,List.take_take,Nat.min_self,List.take_of_length_le (l:=List.take g L ++ List.take 1 [r]) (by simp;omega)]
 simp
theorem insertV_a(w u:Value)(L:List (List Value))(r:List Value)(i:Nat)(hi:i≤L.length)(hl:L.length≤1000000) :
  CallA Tryz.prog 250 [.ow w,it i, .ow u] [arrR w 233 4 L valR,arrR u 233 4 [r] valR] fun q own=>∃w',q= .ow w'∧own= [arrR w' 233 4 (L.take i ++ r :: L.drop i) valR]:=by
 refine CallA.of pg ord250 Tryz.func250 rfl Tryz.ntmps250 Tryz.results250 rfl fun h0 G0 O0=>?_
 have h1r:([r]:List (List Value)).length=1:=rfl
 by_cases hin:i=L.length
 ·subst hin
  rw [zL,List.drop_length]
  repeat'(first|apply Sp.h|refine Lk.r rfl ?_|refine Rf.mk rfl ?_|refine xA ?_|refine xB ?_|refine xP ?_|apply All.mk|refine xU ?_|refine Ce.r ?_|refine xN ?_|refine Rf.mk ⟨rfl,rfl⟩ ?_|(apply Jx.r;(focus exact rfl);(focus first|omega|(simp;done)|(simp;omega)))|refine Mp.same ?_|intro _)
  exact⟨_,_, .one (.same (.z)),_,rfl,rfl⟩
 have hin:i < L.length:=by omega
 by_cases hc:capV w < L.length+1
 ·repeat'(first|apply Sp.h|refine Lk.r rfl ?_|refine Rf.mk rfl ?_|refine xA ?_|refine xB ?_|apply Im.mk|refine xU ?_|refine Rf.mk ⟨rfl,rfl⟩ ?_|refine Rf.mk ⟨rfl,rfl,rfl⟩ ?_|(apply Jx.r;(focus exact rfl);(focus first|omega|(simp;done)|(simp;omega)))|refine Mp.same ?_|refine xO ?_|intro _)
  refine Jx.r (j:=L.length+ [r].length - i) (by omega) (by omega) ?_
  (repeat'(first|(show CA _ _ (Code.region 12 _ _) _ _;apply Stopped.out)|apply Sp.h|refine Lk.r rfl ?_|refine Rf.mk rfl ?_|refine OpK.r rfl ?_|refine xP ?_|apply All.mk|refine xU ?_|refine Rf.mk ⟨rfl,rfl⟩ ?_|refine Rf.mk ⟨rfl,rfl,rfl⟩ ?_|(apply Jx.r;(focus exact rfl);(focus first|omega|(simp;done)|(simp;omega)))|refine Mp.same ?_|refine xD ?_|refine xO ?_|(apply CpS.part;(focus(repeat constructor;done)))|(apply TkX.r;(focus repeat constructor))|intro _));any_goals apply Stopped.mk
  apply CA.ofX 9
  focus rfl
  focus(repeat constructor)
  focus(simp;omega)
  repeat'(first|apply Sp.h|refine Lk.r rfl ?_|refine Rf.mk rfl ?_|refine xN ?_|fail)
  rw [ins_eq2 hin _ _ _ _ _ _ (by omega) (by omega) (by omega) (by simp;omega) (by omega) h1r]
  exact⟨_,_, .one (.same (.z)),_,rfl,rfl⟩
 ·(repeat'(first|(show CA _ _ (Code.region 13 _ _) _ _;apply Stopped.out)|apply Sp.h|refine Lk.r rfl ?_|refine Rf.mk rfl ?_|refine xB ?_|apply Im.mk|refine xU ?_|(apply Jx.r;(focus exact rfl);(focus first|omega|(simp;done)|(simp;omega)))|refine xO ?_|intro _));any_goals apply Stopped.mk
  apply CA.toX 0
  focus rfl
  focus(repeat constructor)
  intro _
  (repeat'(first|(show CA _ _ (Code.region 16 _ _) _ _;apply Stopped.out)|apply Sp.h|refine Lk.r rfl ?_|refine Rf.mk rfl ?_|refine xB ?_|refine OpK.r rfl ?_|refine xP ?_|refine Rf.mk ⟨rfl,rfl,rfl⟩ ?_|(apply Jx.r;(focus exact rfl);(focus first|omega|(simp;done)|(simp;omega)))|refine xD ?_|refine xO ?_|(apply CpS.part;(focus(repeat constructor;done)))|(apply TkX.r;(focus repeat constructor))|(apply ExX.long;(focus rfl);(focus first|omega|(simp <;> omega));(focus first|omega|(simp <;> omega)))|(apply Ovl.mk';(focus repeat constructor);(focus repeat constructor);(focus decide))|fail));any_goals apply Stopped.mk
  refine CA.sub ⟨[(0, .ow _),(1,it i),(2, .ow u)],[arrR _ 233 4 _ valR,arrR u 233 4 [r] valR]⟩ xE ?_
  repeat'(first|apply Sp.h|refine Lk.r rfl ?_|refine Rf.mk rfl ?_|refine xU ?_|refine xN ?_|refine Rf.mk ⟨rfl,rfl,rfl⟩ ?_|(apply Jx.r;(focus exact rfl);(focus first|omega|(simp;done)|(simp;omega)))|refine Mp.same ?_|(apply CpS.all;(focus(repeat constructor;done)))|fail)
  rw [ins_eq hin _ _ _ (by omega) (by simp;omega) h1r]
  exact⟨_,_, .one (.same (.z)),_,rfl,rfl⟩
abbrev mA (x:MkS):AV:= .agg (mkC x)
theorem indexK_p{g:FuncId}{cap:AV}{p:MkS→Bool}(hg:∀x,CallP Tryz.prog g [mA x,cap] (bl (p x)))(he:en g=true)(l:List MkS) :
  CallP Tryz.prog 269 [mks l, .fn g [cap]] (it (idxI p l)):=by
 refine CallA.of pg ordZ Tryz.func269 rfl Tryz.ntmps269 Tryz.results269 rfl fun h0 G0 O0=>?_
 repeat'(first|apply Sp.h|refine Lk.r rfl ?_|refine Rf.mk rfl ?_|apply Im.mk|intro _)
 refine CA.loop (fun i:Nat=>⟨[(0,mks l),(1, .fn g [cap]),(7,it (l.length:Nat)),(8,it i)],[]⟩)
  (fun i=>i≤l.length∧∀j y,j < i→l[j]?=some y→p y=false) (fun i=>l.length - i) 0 xE ⟨zZ _,fun j y h=>by omega⟩ ?_
 rintro i ⟨hi,hj⟩
 by_cases hin:i < l.length
 ·obtain⟨e,hx⟩:=get_of hin
  repeat'(first|apply Sp.h|refine Lk.r rfl ?_|refine Rf.mk rfl ?_|refine xA ?_|(refine Bd.mk ?_ ?_ <;> intro _)|refine xI ?_|refine Ch.l ⟨rfl,rfl⟩ ?_|refine xN ?_|(apply Rf.mk;(focus assumption))|refine xO ?_|(apply Cl.p (hg e);focus repeat' constructor))
  ·rename_i hp
   exact Fin.p rfl (by rw [idxI,idxN_of hx hp hj,if_pos hin])
  ·rename_i hp
   refine PA.lp (i+1) xE ⟨⟨hin,fun j y h1 h2=>?_⟩,by omega⟩
   by_cases hij:j=i
   ·subst hij;rw [hx] at h2;cases h2;simpa using hp
   ·exact hj j y (by omega) h2
 ·repeat'(first|apply Sp.h|refine Lk.r rfl ?_|refine Rf.mk rfl ?_|refine xB ?_|refine xN ?_|fail)
  exact Fin.p rfl (by rw [idxI,idxN_none (fun x hx=>by obtain⟨j,hx⟩:=zO hx;exact hj j x (by have:=(zS.1 hx).1;omega) hx),if_neg (by omega)])
theorem containsK_p{g:FuncId}{cap:AV}{p:MkS→Bool}(hg:∀x,CallP Tryz.prog g [mA x,cap] (bl (p x)))(he:en g=true)(l:List MkS) :
  CallP Tryz.prog 247 [mks l, .fn g [cap]] (bl (decide (idxN p l < l.length))):=by
 refine CallA.of pg ordZ Tryz.func247 rfl Tryz.ntmps247 Tryz.results247 rfl fun h0 G0 O0=>?_
 repeat'(first|apply Sp.h|refine Lk.r rfl ?_|refine Rf.mk rfl ?_|refine xN ?_|(apply Cl.p (indexK_p hg he l);focus repeat' constructor))
 refine Fin.p rfl (vb (zD.2 ?_))
 unfold idxI
 split <;> omega
theorem idxN_lt{α:Type}{p:α→Bool}{l:List α} : idxN p l < l.length↔∃x∈l,p x=true:=by
 constructor
 ·intro h
  obtain⟨x,h1,h2,_⟩:=idxN_at h
  exact⟨x,zM h1,h2⟩
 ·rintro⟨x,hx,hp⟩
  refine Classical.byContradiction fun h=>?_
  have hle:=idxN_le p l
  have he:idxN p l=l.length:=by omega
  have key:∀l:List α,idxN p l=l.length→∀x∈l,p x=false:=by
   intro l
   induction l with
   | nil=>intro _ x h;cases h
   | cons a l ih =>
    intro h x hx
    by_cases ha:p a=true
    ·simp [idxN,ha] at h
    ·have ha':p a=false:=by simpa using ha
     simp [idxN,ha'] at h
     rcases List.mem_cons.1 hx with rfl|hx
     ·exact ha'
     ·exact ih h x hx
  rw [key l he x hx] at hp
  cases hp
def mkV(x:MkS) : List Value:= [.int .i64 x.rep, .int .i64 x.num, .int .i64 x.time, .int .i64 x.val]
theorem mkV_map(l:List MkS) : (l.map mkV).map valR=l.map mkC:=by rw [List.map_map];rfl
theorem filt_idx{α:Type}{p:α→Bool} :∀{l:List α},idxN p l < l.length→(l.take (idxN p l+1)).filter (fun x=> !p x)=l.take (idxN p l):=by
 intro l
 induction l with
 | nil=>intro h;simp at h
 | cons a l ih =>
  intro h
  by_cases ha:p a=true
  ·simp [idxN,ha]
  ·have ha':p a=false:=by simpa using ha
   have he:idxN p (a :: l)=idxN p l+1:=by simp [idxN,ha']
   rw [he] at h ⊢
   have:=ih (by simpa using h)
   rw [List.take_succ_cons,List.filter_cons,List.take_succ_cons,this]
   simp [ha']
theorem deleteK_a{g:FuncId}{cap:AV}{p:MkS→Bool}(hg:∀x,CallP Tryz.prog g [mA x,cap] (bl (p x)))(he:en g=true)(w:Value)(l:List MkS)(hl:l.length≤1000000) :
  CallA Tryz.prog 272 [.ow w, .fn g [cap]] [arrR w 233 4 l mkC] fun q own=>∃w',q= .ow w'∧own= [arrR w' 233 4 (l.filter fun x=> !p x) mkC]:=by
 have hix:=indexK_p hg he l
 refine CallA.of pg ordZ Tryz.func272 rfl Tryz.ntmps272 Tryz.results272 rfl fun h0 G0 O0=>?_
 repeat'(first|apply Sp.h|refine Lk.r rfl ?_|refine Rf.mk rfl ?_|fail)
 (apply Cl.lend (hix);(focus repeat'(first|exact Lend.nil|apply Lend.keep|(apply Lend.lend;(focus repeat constructor);(focus first|omega|(simp;omega)))|fail)))
 by_cases hn:idxN p l < l.length
 ·have hI:idxI p l=(idxN p l:Nat):=if_pos hn
  rw [hI]
  repeat'(first|apply Sp.h|refine Lk.r rfl ?_|refine Rf.mk rfl ?_|refine xB ?_|refine xO ?_|fail)
  refine CA.loop (fun x:Nat×Nat×List MkS=>⟨[(0, .ow w),(1, .fn g [cap]),(5,it x.1),(6,it x.2.1)],[arrR w 233 4 x.2.2 mkC]⟩)
   (fun x=>x.1 < x.2.1∧x.2.1≤l.length∧x.2.2.length=l.length∧x.2.2.take x.1=(l.take x.2.1).filter (fun x=> !p x)∧x.2.2.drop x.2.1=l.drop x.2.1) (fun x=>l.length - x.2.1) (idxN p l,idxN p l+1,l) xE ⟨Nat.lt_succ_self _,hn,rfl,(filt_idx hn).symm,rfl⟩ ?_
  rintro⟨i,j,cur⟩ ⟨h1,h2,h3,h4,h5⟩
  simp only at h1 h2 h3 h4 h5
  simp only
  by_cases hj:j < l.length
  ·obtain⟨x,hx⟩:=get_of hj
   have hcx:cur[j]?=some x:=by
    have:=congrArg (fun z=>z[0]?) h5
    simpa [List.getElem?_drop,hx] using this
   obtain⟨y,hy⟩:=get_of (l:=cur) (i:=i) (by omega)
   have h6:cur.drop (j+1)=l.drop (j+1):=by rw [←List.drop_drop,h5,List.drop_drop]
   have h7:l.take (j+1)=l.take j ++ [x]:=by rw [zK,hx];rfl
   repeat'(first|apply Sp.h|refine Lk.r rfl ?_|refine Rf.mk rfl ?_|refine xA ?_|(refine Bd.mk ?_ ?_ <;> intro _)|refine All.mk fun _=>?_|refine xU ?_|refine xT ?_|refine xI ?_|refine xJ ?_|refine Ch.l ⟨rfl,rfl⟩ ?_|(apply SetAsk.r;focus repeat' constructor)|refine xN ?_|refine Up.r rfl ?_|(apply Rf.mk;(focus assumption))|refine xO ?_|(apply Cl.p (hg x);focus repeat' constructor))
   ·rename_i hp
    exact PA.lp (i,j+1,cur) xE ⟨⟨by simp only;omega,hj,h3,by simp only;rw [h7,List.filter_append,h4];simp [hp],h6⟩,by simp only;omega⟩
   ·rename_i hp
    have hp:p x=false:=by simpa using hp
    have h8:(cur.set i x).take (i+1)=cur.take i ++ [x]:=by
     rw [zK,List.getElem?_set,if_pos rfl,if_pos (by omega),List.take_set_of_le (Nat.le_refl _)];rfl
    exact PA.lp (i+1,j+1,cur.set i x) xE ⟨⟨by simp only;omega,hj,by simp only;rw [zY];exact h3,by simp only;rw [h7,List.filter_append,h8,h4];simp [hp],by simp only;rw [List.drop_set_of_lt (by omega)];exact h6⟩,by simp only;omega⟩
  ·have hje:j=l.length:=by omega
   subst hje
   rw [zL] at h4
   (repeat'(first|(show CA _ _ (Code.region 11 _ _) _ _;apply Stopped.out)|apply Sp.h|refine Lk.r rfl ?_|refine Rf.mk rfl ?_|refine xB ?_|refine xU ?_|fail));any_goals apply Stopped.mk
   apply CA.retype (m:=cur.map mkV) (g:=valR)
   focus(repeat constructor)
   focus exact mkV_map cur
   apply CA.toX 0
   focus rfl
   focus(repeat constructor)
   intro hcap
   rw [List.length_map] at hcap
   (repeat'(first|(show CA _ _ Code.ret _ _;apply Stopped.out)|apply Sp.h|refine Lk.r rfl ?_|refine Rf.mk rfl ?_|refine xP ?_|refine Rf.mk ⟨rfl,rfl⟩ ?_|refine Rf.mk ⟨rfl,rfl,rfl⟩ ?_|(apply Jx.r;(focus exact rfl);(focus first|omega|(simp;done)|(simp;omega)))|(apply TkX.r;(focus repeat constructor))|(apply ExX.short;(focus rfl);(focus first|omega|(simp <;> omega));(focus first|omega|(simp <;> omega)))|fail));any_goals apply Stopped.mk
   apply CA.retype (m:=l.filter fun x=> !p x) (g:=mkC)
   focus(repeat constructor)
   focus(rw [←h4,←mkV_map,List.map_take];simp [List.take_take])
   repeat'(first|apply Sp.h|refine Lk.r rfl ?_|refine xN ?_|fail)
   exact⟨_,_, .one (.same (.z)),_,rfl,rfl⟩
 ·have hI:idxI p l= -1:=if_neg hn
  have hall:l.filter (fun x=> !p x)=l:=List.filter_eq_self.2 fun x hx=>by
   have h9:¬∃x∈l,p x=true:=fun h=>hn (idxN_lt.2 h)
   cases hpx:p x
   ·rfl
   ·exact absurd ⟨x,hx,hpx⟩ h9
  rw [hI,hall]
  repeat'(first|apply Sp.h|refine Lk.r rfl ?_|refine Rf.mk rfl ?_|refine xA ?_|refine xN ?_|fail)
  exact⟨_,_, .one (.same (.z)),_,rfl,rfl⟩
theorem cloneK_o(l:List MkS)(hl:l.length≤1000000000) : CallO Tryz.prog 167 [mks l] 233 4 l mkC:=by
 refine CallA.of pg ordZ Tryz.func167 rfl Tryz.ntmps167 Tryz.results167 rfl fun h0 G0 O0=>?_
 repeat'(first|apply Sp.h|refine Lk.r rfl ?_|refine Rf.mk rfl ?_|apply Bd.mk|refine xP ?_|apply Im.mk|apply All.mk|refine xU ?_|refine Ce.l rfl ?_|(apply Fk.r;focus repeat' first|infer_instance|constructor)|refine xN ?_|refine Rf.mk ⟨rfl,rfl⟩ ?_|refine Rf.mk ⟨rfl,rfl,rfl⟩ ?_|refine Mp.same ?_|intro _)
 ·rename_i b hb hbt
  have hl0:l= []:=Decidable.byContradiction fun h=>by rw [hb h] at hbt;cases hbt
  subst hl0
  exact⟨_,_, .one (.nils (.z)),_,rfl,rfl⟩
 ·repeat'(first|fail)
  exact⟨_,_, .one (.same (.z)),_,rfl,rfl⟩
theorem cloneG_o(l:List MgS)(hl:l.length≤1000000000) : CallO Tryz.prog 166 [mgs l] 231 3 l mgC:=by
 refine CallA.of pg ordZ Tryz.func166 rfl Tryz.ntmps166 Tryz.results166 rfl fun h0 G0 O0=>?_
 repeat'(first|apply Sp.h|refine Lk.r rfl ?_|refine Rf.mk rfl ?_|apply Bd.mk|refine xP ?_|apply Im.mk|apply All.mk|refine xU ?_|refine Ce.l rfl ?_|(apply Fk.r;focus repeat' first|infer_instance|constructor)|refine xN ?_|refine Rf.mk ⟨rfl,rfl⟩ ?_|refine Rf.mk ⟨rfl,rfl,rfl⟩ ?_|refine Mp.same ?_|intro _)
 ·rename_i b hb hbt
  have hl0:l= []:=Decidable.byContradiction fun h=>by rw [hb h] at hbt;cases hbt
  subst hl0
  exact⟨_,_, .one (.nils (.z)),_,rfl,rfl⟩
 ·repeat'(first|fail)
  exact⟨_,_, .one (.same (.z)),_,rfl,rfl⟩
structure MgE where
 put:Bool
 drop:Bool
 w:Value
 marks:List MkS
def MgE.g(e:MgE) : MgS:=⟨e.put,e.drop,e.marks⟩
def mgeC(e:MgE) : List AV:= [bl e.put,bl e.drop, .ow e.w]
abbrev mgeR (e:MgE):Res:=arrR e.w 233 4 e.marks mkC
def ogC(x:Bool×Bool×AV) : List AV:= [bl x.1,bl x.2.1,x.2.2]
instance {a b:Bool} {c:AV} : Inv ogC [bl a,bl b,c] (a,b,c):=⟨rfl⟩
def ogE(e:MgE) : Bool×Bool×AV:=(e.put,e.drop, .ow e.w)
def ogG(g:MgS) : Bool×Bool×AV:=(g.put,g.drop,mks g.marks)
theorem ogE_map(l:List MgE) : l.map mgeC=(l.map ogE).map ogC:=by rw [List.map_map];rfl
theorem ogG_map(l:List MgS) : (l.map ogG).map ogC=l.map mgC:=by rw [List.map_map];rfl
abbrev outR (v:Value) (L:List MgE):List Res:= [arrR v 231 3 L mgeC,bunR (L.map mgeR)]
theorem clone34_a(l:List MgS)(hl:l.length≤1000000)(hm:∀g∈l,g.marks.length≤1000000) :
  CallA Tryz.prog 161 [mgs l] [] fun r own=>∃v L,r= .ow v∧L.map MgE.g=l∧own=outR v L:=by
 have hc:=cloneG_o l (by omega)
 refine CallA.of pg ordZ Tryz.func161 rfl Tryz.ntmps161 Tryz.results161 rfl fun h0 G0 O0=>?_
 repeat'(first|apply Sp.h|refine Lk.r rfl ?_|refine Rf.mk rfl ?_|fail)
 (refine Cl.use (hc) (by repeat'(first|exact Lend.nil|apply Lend.keep|fail)) .nil rfl ?_;rintro _ _ ⟨_,rfl,rfl⟩)
 repeat'(first|apply Sp.h|refine Lk.r rfl ?_|refine Rf.mk rfl ?_|refine xU ?_|fail)
 rename_i v
 apply CA.retype (m:=l.map ogG) (g:=ogC)
 focus(repeat constructor)
 focus exact ogG_map l
 refine CA.bunNil mgeR ?_
 refine CA.loop (fun x:Nat×List MgE=>⟨[(3, .ow v),(8,it (l.length:Nat)),(9,it x.1)],[arrR v 231 3 (x.2.map ogE ++ (l.drop x.1).map ogG) ogC,bunR (x.2.map mgeR)]⟩)
  (fun x=>x.1≤l.length∧x.2.map MgE.g=l.take x.1) (fun x=>l.length - x.1) (0,[]) xE ⟨zZ _,by simp⟩ ?_
 rintro⟨i,D⟩ ⟨hi,hD⟩
 simp only at hi hD
 simp only
 by_cases hin:i < l.length
 ·obtain⟨g,hg⟩:=get_of hin
  have hgm:=hm g (zM hg)
  have hDl:D.length=i:=by have:=congrArg List.length hD;simp at this;omega
  have hdr:(l.drop i).map ogG=ogG g :: (l.drop (i+1)).map ogG:=by
   have h9:=List.drop_eq_getElem_cons hin
   rw [(zS.1 hg).2] at h9
   rw [h9,List.map_cons]
  have hrow:(D.map ogE ++ (l.drop i).map ogG)[i]?=some (g.put,g.drop,mks g.marks):=by
   rw [hdr,zJ (by simp;omega)];simp [hDl,ogG]
  have hcl:=cloneK_o g.marks (by omega)
  repeat'(first|apply Sp.h|refine Lk.r rfl ?_|refine Rf.mk rfl ?_|refine xA ?_|refine xU ?_|refine xI ?_|refine xJ ?_|fail)
  (refine Cl.use (hcl) (by repeat'(first|exact Lend.nil|apply Lend.keep|fail)) .nil rfl ?_;rintro _ _ ⟨_,rfl,rfl⟩)
  (repeat'(first|(show CA _ _ (Code.region 6 _ _) _ _;apply Stopped.out)|apply Sp.h|refine Lk.r rfl ?_|refine Rf.mk rfl ?_|refine xU ?_|refine xI ?_|refine xJ ?_|refine xV ?_|(apply Up.inv;(focus repeat constructor);(focus infer_instance))|fail));any_goals apply Stopped.mk
  rename_i w2
  have hset:(D.map ogE ++ (l.drop i).map ogG).set i (g.put,g.drop, .ow w2)=(D ++ [(MgE.mk g.put g.drop w2 g.marks)]).map ogE ++ (l.drop (i+1)).map ogG:=by
   rw [hdr,List.set_append,if_neg (by simp;omega)]
   simp [hDl,ogE]
  rw [hset]
  apply CA.bunPush (g:=mgeR) (x:=(MgE.mk g.put g.drop w2 g.marks))
  focus(repeat constructor)
  focus(repeat constructor)
  repeat'(first|apply Sp.h|refine Lk.r rfl ?_|refine Rf.mk rfl ?_|refine xO ?_|fail)
  exact PA.lp (i+1,D ++ [(MgE.mk g.put g.drop w2 g.marks)]) xE ⟨⟨hin,by simp only;rw [List.map_append,hD,zK,hg];rfl⟩,by simp only;omega⟩
 ·have hie:i=l.length:=by omega
  subst hie
  rw [zL] at hD
  rw [List.drop_length,List.map_nil,List.append_nil]
  (repeat'(first|(show CA _ _ (Code.region 7 _ _) _ _;apply Stopped.out)|apply Sp.h|refine Lk.r rfl ?_|refine Rf.mk rfl ?_|refine xB ?_|fail));any_goals apply Stopped.mk
  apply CA.retype (m:=D) (g:=mgeC)
  focus(repeat constructor)
  focus exact ogE_map D
  repeat'(first|apply Sp.h|refine Lk.r rfl ?_|refine Rf.mk rfl ?_|refine xN ?_|fail)
  exact⟨_,_, .one (.same (.z)),_,D,rfl,hD,rfl⟩
instance {a b:AV} [ha:Flat a] [hb:Flat b]:Flat (.tup [a,b]):=⟨by
 rintro h h' G G' v ⟨vs,rfl,hr⟩
 match vs,hr with
 | [x,y],⟨h1,h2,_⟩=>exact⟨[x,y],rfl,ha.h _ _ _ _ _ h1,hb.h _ _ _ _ _ h2,trivial⟩⟩
noncomputable def posK(l:List MkS)(x:MkS) : Nat:=idxN (fun y=>decide (¬LtK y x)) l
def MonoK(l:List MkS)(x:MkS) : Prop:=∀(i j:Nat) (a b:MkS),i≤j→l[i]?=some a→l[j]?=some b→LtK b x→LtK a x
theorem posK_of{l:List MkS}{x:MkS}{n:Nat}(hn:n≤l.length)(h1:∀(q:Nat) y,q < n→l[q]?=some y→LtK y x)(h2:∀(q:Nat) y,n≤q→l[q]?=some y→¬LtK y x) : posK l x=n:=by
 by_cases hnl:n < l.length
 ·obtain⟨y,hy⟩:=get_of hnl
  exact idxN_of hy (zT (h2 n y (Nat.le_refl _) hy)) fun j z hj hz=>zF (fun h=>h (h1 j z hj hz))
 ·have hne:n=l.length:=by omega
  rw [hne]
  exact idxN_none fun y hy=>by
   obtain⟨j,hj⟩:=zO hy
   exact zF (fun h=>h (h1 j y (by have:=(zS.1 hj).1;omega) hj))
noncomputable def fndK(l:List MkS)(x:MkS) : Bool:=decide (∃y,l[posK l x]?=some y∧cmpK y x=0)
theorem binK_p(l:List MkS)(x:MkS)(hm:MonoK l x)(hl:l.length≤1000000) :
  CallP Tryz.prog 249 [mks l,mA x, .fn 246 []] (.tup [it (posK l x:Nat),bl (fndK l x)]):=by
 refine CallA.of pg ord249 Tryz.func249 rfl Tryz.ntmps249 Tryz.results249 rfl fun h0 G0 O0=>?_
 repeat'(first|apply Sp.h|refine Lk.r rfl ?_|refine Rf.mk rfl ?_|apply Im.mk|apply All.mk|intro _)
 refine CA.loop (fun p:Nat×Nat=>⟨[(0,mks l),(2, .fn 246 []),(4,pm _),(8,it (l.length:Nat)),(9,it p.1),(10,it p.2)],[blkR _ 233 (mkC x)]⟩)
  (fun p=>p.1≤p.2∧p.2≤l.length∧(∀(q:Nat) y,q < p.1→l[q]?=some y→LtK y x)∧∀(q:Nat) y,p.2≤q→l[q]?=some y→¬LtK y x) (fun p=>p.2 - p.1) (0,l.length) xE
  ⟨zZ _,Nat.le_refl _,fun q y h=>absurd h (Nat.not_lt_zero q),fun q y h h'=>by have:=(zS.1 h').1;simp only at h;omega⟩ ?_
 rintro⟨i,j⟩ ⟨h1,h2,h3,h4⟩
 simp only at h1 h2 h3 h4
 simp only
 by_cases hij:i < j
 ·obtain⟨y,hy⟩:=get_of (l:=l) (i:=(i+j) / 2) (by omega)
  have hcm:=cmpK_neg (a:=y) (b:=x)
  have e1:((i:Int)+(j:Int)) / 2=(((i+j) / 2:Nat):Int):=by omega
  repeat'(first|apply Sp.h|refine Lk.r rfl ?_|refine Rf.mk rfl ?_|refine xA ?_|(refine Bd.mk ?_ ?_ <;> intro _)|refine OpK.r rfl ?_|refine xT ?_|refine xI ?_|refine Ch.l ⟨rfl,rfl⟩ ?_|refine xD ?_|refine xO ?_|(apply Cvk.i64;(focus rfl);(focus omega))|(apply Cvk.u64;(focus rfl);(focus omega))|(apply Cl.p (compareK_p _ _);focus repeat' constructor))
  ·rename_i hlt
   have hyx:=hcm.1 hlt
   exact PA.lp ((i+j) / 2+1,j) xE ⟨⟨by simp only;omega,h2,fun q z hq hz=>hm q ((i+j) / 2) z y (by simp only at hq;omega) hz hy hyx,h4⟩,by simp only;omega⟩
  ·rename_i hlt
   have hyx:¬LtK y x:=fun h=>hlt (hcm.2 h)
   exact PA.lp (i,(i+j) / 2) xE ⟨⟨by simp only;omega,by simp only;omega,h3,fun q z hq hz h=>hyx (hm ((i+j) / 2) q y z (by simp only at hq;omega) hy hz h)⟩,by simp only;omega⟩
 ·have hije:i=j:=by omega
  subst hije
  have hpos:=posK_of h2 h3 h4
  by_cases hin:i < l.length
  ·obtain⟨y,hy⟩:=get_of hin
   repeat'(first|apply Sp.h|refine Lk.r rfl ?_|refine Rf.mk rfl ?_|refine xA ?_|refine xB ?_|refine OpK.r rfl ?_|refine xT ?_|refine xI ?_|refine Ch.l ⟨rfl,rfl⟩ ?_|refine xN ?_|refine xD ?_|(apply Cl.p (compareK_p _ _);focus repeat' constructor))
   refine Fin.p rfl ?_
   rw [hpos]
   have:fndK l x=decide (cmpK y x=0):=zD.2 (by rw [hpos,hy];simp)
   rw [this]
  ·repeat'(first|apply Sp.h|refine Lk.r rfl ?_|refine Rf.mk rfl ?_|refine xB ?_|refine OpK.r rfl ?_|refine xN ?_|refine xD ?_|(apply Cl.p (compareK_p _ _);(focus repeat'(first|fail))))
   refine Fin.p rfl ?_
   rw [hpos]
   have:fndK l x=false:=zF (by rw [hpos];rintro⟨y,hy,_⟩;have:=(zS.1 hy).1;omega)
   rw [this]
theorem insertV_b{β:Type}(w u:Value)(L:List (List Value))(r:List Value)(r':β)(g:β→List AV)(hr:g r'=valR r)(i:Nat)(hi:i≤L.length)(hl:L.length≤1000000) :
  CallA Tryz.prog 250 [.ow w,it i, .ow u] [arrR w 233 4 L valR,arrR u 233 4 [r'] g] fun q own=>∃w',q= .ow w'∧own= [arrR w' 233 4 (L.take i ++ r :: L.drop i) valR]:=by
 refine⟨fun h G Os vs h1 h2=>?_⟩
 match Os,h2.own with
 | [O1,O2],⟨k1,⟨ho,rows,hw,hrr⟩,_⟩ =>
  exact(insertV_a w u L r i hi hl).run h G [O1,O2] vs h1 ⟨⟨k1,⟨ho,rows,hw,hrr.map (by simp [hr])⟩,trivial⟩,h2.g,h2.g0,h2.o,h2.d,h2.fp⟩
def chC(kp:AV)(e:EvS)(m:MkS) : List AV:= [kp,iv e.rep,iv e.num,iv e.time,ints e.past,iv e.kind,iv e.action,iv e.gk,iv e.gi,iv e.ge,iv e.ga,iv e.to,iv e.place,iv e.serial,it m.rep,it m.num,it m.time,it m.val]
noncomputable instance (x y:MkS):Decidable (Nm x y):=zC _
theorem add1_p(kp:AV)(e:EvS)(m x:MkS) : CallP Tryz.prog 248 [mA x, .ad (chC kp e m) 0] (bl (decide (Nm x m))):=by
 refine CallA.of pg ord248 Tryz.func248 rfl Tryz.ntmps248 Tryz.results248 rfl fun h0 G0 O0=>?_
 repeat'(first|apply Sp.h|refine Lk.r rfl ?_|refine Rf.mk rfl ?_|refine OpK.r rfl ?_|refine All.mk fun _=>?_|refine xT ?_|refine Ch.l ⟨rfl,rfl⟩ ?_|refine Ch.r ?_|refine xN ?_|refine xK ?_|(apply Kf.mk;(focus kernel_rfl))|refine xD ?_|(apply Cl.p (dot_p _);focus repeat' constructor))
 refine Fin.p rfl (vb (zD.2 ?_))
 unfold Nm
 simp
noncomputable def insK(l:List MkS)(x:MkS) : List MkS:=l.take (posK l x) ++ x :: l.drop (posK l x)
noncomputable def addF(l:List MkS)(x:MkS) : Int×List MkS:=if HasNm l x then(6,l) else if 1024≤l.length then(8,l) else(0,insK l x)
theorem posK_le(l:List MkS)(x:MkS) : posK l x≤l.length:=idxN_le _ l
theorem insK_map(l:List MkS)(x:MkS) : (insK l x).map mkV=(l.map mkV).take (posK l x) ++ mkV x :: (l.map mkV).drop (posK l x):=by
 simp [insK,List.map_take,List.map_drop]
theorem has_idx(l:List MkS)(m:MkS) : idxN (fun x=>decide (Nm x m)) l < l.length↔HasNm l m:=idxN_lt.trans (by simp [HasNm])
theorem add_a(v:Value)(i:Nat)(e:EvS)(m:MkS)(L:List MgE)(x:MgE)(hx:L[i]?=some x)(hm:MonoK x.marks m)(hl:x.marks.length≤1024) :
  CallA Tryz.prog 207 [.agg (chC (.oe v 3 i 0) e m)] [arrR v 231 3 L mgeC,mgeR x] fun r own=>∃w',r=it (addF x.marks m).1∧own= [arrR v 231 3 (L.set i ⟨x.put,x.drop,w',(addF x.marks m).2⟩) mgeC,arrR w' 233 4 (addF x.marks m).2 mkC]:=by
 have hcon:=containsK_p (add1_p (.oe v 3 i 0) e m) rfl x.marks
 have hbin:=binK_p x.marks m hm (by omega)
 have hsame:L.set i ⟨x.put,x.drop,x.w,x.marks⟩=L:=by
  have:=(zS.1 hx)
  apply List.ext_getElem?
  intro j
  rw [List.getElem?_set]
  split
  ·rename_i hj;subst hj;rw [if_pos this.1,hx]
  ·rfl
 refine CallA.of pg ord207 Tryz.func207 rfl Tryz.ntmps207 Tryz.results207 rfl fun h0 G0 O0=>?_
 repeat'(first|apply Sp.h|refine Lk.r rfl ?_|refine Rf.mk rfl ?_|apply All.mk|refine xU ?_|refine xT ?_|refine xJ ?_|intro _)
 (apply Cl.lend (hcon);(focus repeat'(first|exact Lend.nil|apply Lend.keep|(apply Lend.lend;(focus repeat constructor);(focus first|omega|(simp;omega)))|(apply Lend.cell;(focus repeat constructor))|refine Lend.fn ?_ ?_|fail)))
 have hid:=has_idx x.marks m
 by_cases hhas:HasNm x.marks m
 ·have h6:addF x.marks m=(6,x.marks):=if_pos hhas
  have hlt:=hid.2 hhas
  rw [h6]
  repeat'(first|apply Sp.h|refine Lk.r rfl ?_|refine Rf.mk rfl ?_|refine xA ?_|refine xN ?_|fail)
  exact⟨_,_, .one (.same (.z)),x.w,rfl,congrArg (fun z=> [arrR v 231 3 z mgeC,mgeR x]) hsame.symm⟩
 ·have hlt:¬idxN (fun x=>decide (Nm x m)) x.marks < x.marks.length:=fun h=>hhas (hid.1 h)
  by_cases hbig:1024≤x.marks.length
  ·have h8:addF x.marks m=(8,x.marks):=by rw [addF,if_neg hhas,if_pos hbig]
   rw [h8]
   repeat'(first|apply Sp.h|refine Lk.r rfl ?_|refine Rf.mk rfl ?_|refine xA ?_|refine xB ?_|refine xU ?_|refine xT ?_|refine xJ ?_|refine xN ?_|fail)
   exact⟨_,_, .one (.same (.z)),x.w,rfl,congrArg (fun z=> [arrR v 231 3 z mgeC,mgeR x]) hsame.symm⟩
  ·have h0:addF x.marks m=(0,insK x.marks m):=by rw [addF,if_neg hhas,if_neg hbig]
   rw [h0]
   repeat'(first|apply Sp.h|refine Lk.r rfl ?_|refine Rf.mk rfl ?_|refine xB ?_|refine OpK.r rfl ?_|refine xU ?_|refine xT ?_|refine xJ ?_|refine Ch.r ?_|refine xD ?_|fail)
   (apply Cl.lend (hbin);(focus repeat'(first|exact Lend.nil|apply Lend.keep|(apply Lend.lend;(focus repeat constructor);(focus first|omega|(simp;omega)))|fail)))
   (repeat'(first|(show CA _ _ (Code.region 6 _ _) _ _;apply Stopped.out)|apply Sp.h|refine Lk.r rfl ?_|refine OpK.r rfl ?_|fail));any_goals apply Stopped.mk
   apply CA.retype (v:=x.w) (m:=x.marks.map mkV) (g:=valR)
   focus(repeat constructor)
   focus exact mkV_map x.marks
   repeat'(first|apply Sp.h|refine Lk.r rfl ?_|refine Rf.mk rfl ?_|refine OpK.r rfl ?_|apply All.mk|refine xU ?_|refine xT ?_|refine xJ ?_|refine Ch.r ?_|(apply Fk.r;focus repeat' first|infer_instance|constructor)|refine Rf.mk ⟨rfl,rfl,rfl⟩ ?_|refine xD ?_|exact trivial|apply RA'.both|intro _)
   all_goals
    rename_i u
    have hins:=insertV_b x.w u (x.marks.map mkV) (mkV m) (mkC m) id rfl (posK x.marks m) (by rw [List.length_map];exact posK_le _ _) (by rw [List.length_map];omega)
    rw [←insK_map] at hins
    refine xW (hins) ?_
    rintro _ _ ⟨w',rfl,rfl⟩
    have inv:Inv mgeC [bl x.put,bl x.drop, .ow w'] ⟨x.put,x.drop,w',insK x.marks m⟩:=⟨rfl⟩
    (repeat'(first|(show CA _ _ (Code.region 7 _ _) _ _;apply Stopped.out)|apply Sp.h|refine Lk.r rfl ?_|refine Rf.mk rfl ?_|refine OpK.r rfl ?_|refine xU ?_|refine xT ?_|refine xJ ?_|refine xV ?_|(apply Up.inv;(focus repeat constructor);(focus infer_instance))|fail));any_goals apply Stopped.mk
    apply CA.retype (v:=w') (m:=insK x.marks m) (g:=mkC)
    focus(repeat constructor)
    focus exact(mkV_map _).symm
    repeat'(first|apply Sp.h|refine Lk.r rfl ?_|refine Rf.mk rfl ?_|refine xN ?_|fail)
    exact⟨_,_, .one (.same (.z)),w',rfl,rfl⟩
abbrev ChO (v:Value) (i:Nat) (L:List MgE) (p d:Bool) (l:List MkS) (own:List Res):Prop:=∃w',own= [arrR v 231 3 (L.set i ⟨p,d,w',l⟩) mgeC,arrR w' 233 4 l mkC]
noncomputable def fgK(past:List Int)(l:List MkS) : List MkS:=l.filter fun x=> !decide (HasC past x.rep x.num)
theorem forget1_p(kp:AV)(e:EvS)(m x:MkS) : CallP Tryz.prog 273 [mA x, .ad (chC kp e m) 0] (bl (decide (HasC e.past x.rep x.num))):=by
 refine CallA.of pg ord273 Tryz.func273 rfl Tryz.ntmps273 Tryz.results273 rfl fun h0 G0 O0=>?_
 repeat'(first|apply Sp.h|refine Lk.r rfl ?_|refine Rf.mk rfl ?_|refine OpK.r rfl ?_|refine All.mk fun _=>?_|refine xT ?_|refine Ch.l ⟨rfl,rfl⟩ ?_|refine xN ?_|refine xD ?_|(apply Cl.p (dot_p _);focus repeat' constructor)|(apply Cl.p (hasC_p _ _ _);focus repeat' constructor))
 exact Fin.p rfl rfl
theorem forget_a(v:Value)(i:Nat)(e:EvS)(m:MkS)(L:List MgE)(x:MgE)(hx:L[i]?=some x)(hl:x.marks.length≤1024) :
  CallA Tryz.prog 251 [.agg (chC (.oe v 3 i 0) e m)] [arrR v 231 3 L mgeC,mgeR x] fun _ own=>ChO v i L x.put x.drop (fgK e.past x.marks) own:=by
 have hdel:=deleteK_a (forget1_p (.oe v 3 i 0) e m) rfl x.w x.marks (by omega)
 refine CallA.of pg ord251 Tryz.func251 rfl Tryz.ntmps251 Tryz.results251 rfl fun h0 G0 O0=>?_
 (repeat'(first|(show CA _ _ (Code.region 1 _ _) _ _;apply Stopped.out)|apply Sp.h|refine Lk.r rfl ?_|refine Rf.mk rfl ?_|apply All.mk|intro _));any_goals apply Stopped.mk
 apply CA.freezeB 1
 focus rfl
 focus(repeat constructor)
 repeat'(first|apply Sp.h|refine Lk.r rfl ?_|refine Rf.mk rfl ?_|refine OpK.r rfl ?_|refine xU ?_|refine xJ ?_|refine xD ?_|exact trivial|apply RA'.both|fail)
 all_goals
  refine xW (hdel) ?_
  rintro _ _ ⟨w',rfl,rfl⟩
  have inv:Inv mgeC [bl x.put,bl x.drop, .ow w'] ⟨x.put,x.drop,w',fgK e.past x.marks⟩:=⟨rfl⟩
  repeat'(first|apply Sp.h|refine Lk.r rfl ?_|refine Rf.mk rfl ?_|refine OpK.r rfl ?_|refine xU ?_|refine xJ ?_|refine xV ?_|refine xN ?_|(apply Up.inv;(focus repeat constructor);(focus infer_instance))|fail)
  exact⟨_,_, .tup (.z),w',rfl⟩
theorem drop_a(v:Value)(i:Nat)(e:EvS)(m:MkS)(L:List MgE)(x:MgE)(hx:L[i]?=some x)(hl:x.marks.length≤1024) :
  CallA Tryz.prog 208 [.agg (chC (.oe v 3 i 0) e m)] [arrR v 231 3 L mgeC,mgeR x] fun q own=>q=it 0∧ChO v i L false x.drop (fgK e.past x.marks) own:=by
 have hi:=(zS.1 hx).1
 have inv:Inv mgeC [bl false,bl x.drop, .ow x.w] ⟨false,x.drop,x.w,x.marks⟩:=⟨rfl⟩
 have hf:=forget_a v i e m (L.set i ⟨false,x.drop,x.w,x.marks⟩) ⟨false,x.drop,x.w,x.marks⟩ (by rw [List.getElem?_set,if_pos rfl,if_pos hi]) hl
 refine CallA.of pg ordZ Tryz.func208 rfl Tryz.ntmps208 Tryz.results208 rfl fun h0 G0 O0=>?_
 repeat'(first|apply Sp.h|refine Lk.r rfl ?_|refine Rf.mk rfl ?_|apply All.mk|refine xU ?_|refine xT ?_|refine xJ ?_|refine Ch.l ⟨rfl,rfl⟩ ?_|refine xV ?_|(apply Up.inv;(focus repeat constructor);(focus infer_instance))|intro _)
 refine xW (hf) ?_
 rintro _ _ ⟨w',rfl⟩
 rw [List.set_set]
 repeat'(first|apply Sp.h|refine Lk.r rfl ?_|refine Rf.mk rfl ?_|refine xN ?_|fail)
 exact⟨_,_, .one (.same (.z)),rfl,w',rfl⟩
theorem put_a(v:Value)(i:Nat)(e:EvS)(m:MkS)(L:List MgE)(x:MgE)(hx:L[i]?=some x)(hl:x.marks.length≤1024) :
  CallA Tryz.prog 209 [.agg (chC (.oe v 3 i 0) e m)] [arrR v 231 3 L mgeC,mgeR x] fun q own=>q=it 0∧ChO v i L true false (fgK e.past x.marks) own:=by
 have hi:=(zS.1 hx).1
 have inv:Inv mgeC [bl true,bl x.drop, .ow x.w] ⟨true,x.drop,x.w,x.marks⟩:=⟨rfl⟩
 have inv2:Inv mgeC [bl true,bl false, .ow x.w] ⟨true,false,x.w,x.marks⟩:=⟨rfl⟩
 have inv3:Inv mgeC [bl x.put,bl false, .ow x.w] ⟨x.put,false,x.w,x.marks⟩:=⟨rfl⟩
 have hf:=forget_a v i e m (L.set i ⟨true,false,x.w,x.marks⟩) ⟨true,false,x.w,x.marks⟩ (by rw [List.getElem?_set,if_pos rfl,if_pos hi]) hl
 have hx1:∀y:MgE,(L.set i y)[i]?=some y:=fun y=>by rw [List.getElem?_set,if_pos rfl,if_pos hi]
 have h1:=hx1 ⟨true,x.drop,x.w,x.marks⟩
 have h3:=hx1 ⟨x.put,false,x.w,x.marks⟩
 refine CallA.of pg ord209 Tryz.func209 rfl Tryz.ntmps209 Tryz.results209 rfl fun h0 G0 O0=>?_
 repeat'(first|apply Sp.h|refine Lk.r rfl ?_|refine Rf.mk rfl ?_|refine OpK.r rfl ?_|apply All.mk|refine xU ?_|refine xT ?_|refine xJ ?_|refine Ch.l ⟨rfl,rfl⟩ ?_|refine xV ?_|(apply Up.inv;(focus repeat constructor);(focus infer_instance))|refine xD ?_|exact trivial|apply RA'.both|intro _)
 all_goals rw [List.set_set]
 all_goals
  refine xW (hf) ?_
  rintro _ _ ⟨w',rfl⟩
  rw [List.set_set]
  repeat'(first|apply Sp.h|refine Lk.r rfl ?_|refine Rf.mk rfl ?_|refine xN ?_|fail)
  exact⟨_,_, .one (.same (.z)),rfl,w',rfl⟩
theorem multi_a(v:Value)(i:Nat)(e:EvS)(m:MkS)(L:List MgE)(x:MgE)(hx:L[i]?=some x)(hl:x.marks.length≤1024)(hm:MonoK (fgK e.past x.marks) m) :
  CallA Tryz.prog 211 [.agg (chC (.oe v 3 i 0) e m)] [arrR v 231 3 L mgeC,mgeR x] fun q own=>q=it (addF (fgK e.past x.marks) m).1∧ChO v i L x.put x.drop (addF (fgK e.past x.marks) m).2 own:=by
 have hi:=(zS.1 hx).1
 have hf:=forget_a v i e m L x hx hl
 have hle:(fgK e.past x.marks).length≤1024:=Nat.le_trans (List.length_filter_le _ _) hl
 refine CallA.of pg ordZ Tryz.func211 rfl Tryz.ntmps211 Tryz.results211 rfl fun h0 G0 O0=>?_
 repeat'(first|apply Sp.h|refine Lk.r rfl ?_|refine Rf.mk rfl ?_|apply All.mk|refine xT ?_|refine Ch.l ⟨rfl,rfl⟩ ?_|intro _)
 refine xW (hf) ?_
 rintro _ _ ⟨w',rfl⟩
 have ha:=add_a v i e m (L.set i ⟨x.put,x.drop,w',fgK e.past x.marks⟩) ⟨x.put,x.drop,w',fgK e.past x.marks⟩ (by rw [List.getElem?_set,if_pos rfl,if_pos hi]) hm hle
 repeat'(first|apply Sp.h|refine Lk.r rfl ?_|refine Rf.mk rfl ?_|refine xT ?_|refine Ch.l ⟨rfl,rfl⟩ ?_|fail)
 refine xW (ha) ?_
 rintro _ _ ⟨w2,rfl,rfl⟩
 rw [List.set_set]
 repeat'(first|apply Sp.h|refine Lk.r rfl ?_|refine xN ?_|fail)
 exact⟨_,_, .one (.same (.z)),rfl,w2,rfl⟩
abbrev fnV (g:FuncId):AV:= .fn g []
def rulesL : List (List Int×FuncId):= [([2,0],207),([2,1],208),([3,0],209),([3,1],207),([4,2],210),([5,2],211)]
def rulesI(i:Nat) : List Int×FuncId:=(rulesL[i / 2 - 1]?).getD ([],0)
def rulesT : Ord:= .one 1 (.one 3 (.one 5 (.one 7 (.one 9 (.one 11 (.one 0 (fillT (.one 13 (.one 14 .done)) 6 [2,4,6,8,10,12])))))))
def rulesO : Nat→Ord×(Nat→Cls):=fun id=>bif Nat.beq id 1 then(rulesT,clOf [.ext, .pure, .loud, .pure, .loud, .pure, .loud, .pure, .loud, .pure, .loud, .pure, .loud, .pure, .pure]) else(.done,clOf [])
theorem rules_a : CallA Tryz.prog 162 [] [] fun r own=>∃b kvs,r= .val (.map (some b))∧own= [mapR Tryz.prog b 227 kvs fnV]∧∀key,lookL kvs key=lookL rulesL key:=by
 refine CallA.of pg rulesO Tryz.func162 rfl Tryz.ntmps162 Tryz.results162 rfl fun h0 G0 O0=>?_
 (repeat'(first|(show CA _ _ (Code.region 1 _ _) _ _;apply Stopped.out)|apply Sp.h|refine Lk.r rfl ?_|refine Rf.mk rfl ?_|fail));any_goals apply Stopped.mk
 apply CA.draw (t:=rulesT)
 focus rfl
 focus kernel_rfl
 focus
  show(noDef _ && chkG _ _ rulesT 15 _ _)=true
  rw [Bool.and_eq_true]
  refine⟨by kernel_rfl, ?_⟩
  refine chk_one (fuel:=14) (by kernel_rfl) (chk_one (fuel:=13) (by kernel_rfl) (chk_one (fuel:=12) (by kernel_rfl) (chk_one (fuel:=11) (by kernel_rfl) (chk_one (fuel:=10) (by kernel_rfl) (chk_one (fuel:=9) (by kernel_rfl) (chk_one (fuel:=8) (by kernel_rfl) ?_))))))
  exact chk_fill (fuel:=2) (ps0:= [2,4,6,8,10,12]) (by decide) (by kernel_rfl)
 focus exact ON.refl _
 focus rfl
 unfold rulesT
 repeat'(first|apply Sp.h|refine Lk.r rfl ?_|refine Rf.mk rfl ?_|refine OpK.r rfl ?_|(apply Fk.r;focus repeat' first|infer_instance|constructor)|fail)
 refine MkM.r fnV ?_
 repeat'(first|apply All.mk|intro _)
 apply RA'.fill rulesI [2,4,6,8,10,12]
 ·decide
 ·intro i hi kvs r h
  simp only [List.mem_cons,List.not_mem_nil,or_false] at hi
  rcases hi with rfl|rfl|rfl|rfl|rfl|rfl
  all_goals repeat'(first|apply Sp.h|refine Lk.r rfl ?_|refine Rf.mk rfl ?_|refine OpK.r rfl ?_|refine xK ?_|(apply Kf.mk;(focus kernel_rfl))|refine xM ?_|refine UpV.r rfl ?_|fail)
  all_goals exact h
 ·intro kvs hp
  have hlk:∀key,lookL kvs key=lookL rulesL key:=fun key=>lookL_perm hp (by decide) key
  repeat'(first|apply Sp.h|refine Lk.r rfl ?_|refine OpK.r rfl ?_|refine xN ?_|fail)
  exact⟨_,_, .one (.same (.z)),_,kvs,rfl,rfl,hlk⟩
def cmp2(a b:MkS) : Int:=orI [cmpI a.time b.time,cmpI a.rep b.rep]
noncomputable def lastF(l:List MkS)(m:MkS) : Int×List MkS:=match l with
 | []=>addF [] m
 | x :: r=>(0,if cmp2 x m < 0 then m :: r else x :: r)
theorem last_a(v:Value)(i:Nat)(e:EvS)(m:MkS)(L:List MgE)(x:MgE)(hx:L[i]?=some x)(hl:x.marks.length≤1024) :
  CallA Tryz.prog 210 [.agg (chC (.oe v 3 i 0) e m)] [arrR v 231 3 L mgeC,mgeR x] fun q own=>q=it (lastF x.marks m).1∧ChO v i L x.put x.drop (lastF x.marks m).2 own:=by
 have hi:=(zS.1 hx).1
 have hsame:L.set i ⟨x.put,x.drop,x.w,x.marks⟩=L:=by
  apply List.ext_getElem?
  intro j
  rw [List.getElem?_set]
  split
  ·rename_i hj;subst hj;first|rw [if_pos hi,hx] | rw [hx]
  ·rfl
 obtain⟨p,d,w,l⟩:=x
 simp only at hl hsame
 match l,hl,hx,hsame with
 | [],hl,hx,hsame =>
  have ha:=add_a v i e m L ⟨p,d,w,[]⟩ hx (fun i j a b _ h=>by simp at h) hl
  refine CallA.of pg ord210 Tryz.func210 rfl Tryz.ntmps210 Tryz.results210 rfl fun h0 G0 O0=>?_
  repeat'(first|apply Sp.h|refine Lk.r rfl ?_|refine Rf.mk rfl ?_|refine xA ?_|apply All.mk|refine xU ?_|refine xT ?_|refine xJ ?_|refine Ch.l ⟨rfl,rfl⟩ ?_|intro _)
  refine xW (ha) ?_
  rintro _ _ ⟨w2,rfl,rfl⟩
  repeat'(first|apply Sp.h|refine Lk.r rfl ?_|refine xN ?_|fail)
  exact⟨_,_, .one (.same (.z)),rfl,w2,rfl⟩
 | y :: r,hl,hx,hsame =>
  have h0:(y :: r)[0]?=some y:=rfl
  have hne:¬((({ put:=p,drop:=d,w:=w,marks:=y :: r } : MgE).marks.length:Int)=0):=by simp only [List.length_cons];omega
  have ho:=orI_p [cmpI y.time m.time,cmpI y.rep m.rep]
  by_cases hc:cmp2 y m < 0
  ·have hF:lastF (y :: r) m=(0,m :: r):=by simp [lastF,hc]
   have hc2:orI [cmpI y.time m.time,cmpI y.rep m.rep] < 0:=hc
   rw [hF]
   refine CallA.of pg ord210 Tryz.func210 rfl Tryz.ntmps210 Tryz.results210 rfl fun h0 G0 O0=>?_
   repeat'(first|apply Sp.h|refine Lk.r rfl ?_|refine Rf.mk rfl ?_|refine xB ?_|refine OpK.r rfl ?_|refine All.mk fun _=>?_|refine xU ?_|refine xT ?_|refine xI ?_|refine xJ ?_|refine Ch.l ⟨rfl,rfl⟩ ?_|(apply SetAsk.r;focus repeat' constructor)|(apply Fk.r;focus repeat' first|infer_instance|constructor)|refine xN ?_|refine Rf.mk ⟨rfl,rfl,rfl⟩ ?_|refine xD ?_|(apply Cl.p (compareI_p _ _);focus repeat' constructor))
   (apply Cl.lend (ho);(focus repeat'(first|exact Lend.nil|(apply Lend.lendm;(focus repeat constructor);(focus rfl);(focus first|omega|decide|(simp;omega)|exact zB rfl))|fail)))
   (repeat'(first|(show CA _ _ (Code.region 6 _ _) _ _;apply Stopped.out)|apply Sp.h|refine Lk.r rfl ?_|refine Rf.mk rfl ?_|refine xA ?_|refine OpK.r rfl ?_|refine xU ?_|refine xT ?_|refine xI ?_|refine xJ ?_|refine Ch.r ?_|(apply SetAsk.r;focus repeat' constructor)|refine Up.r rfl ?_|refine xD ?_|fail));any_goals apply Stopped.mk
   have hmap:(L.set i ⟨p,d,w,m :: r⟩).map mgeC=L.map mgeC:=by
    rw [List.map_set]
    show(L.map mgeC).set i (mgeC ⟨p,d,w,y :: r⟩)=L.map mgeC
    rw [←List.map_set,hsame]
   apply CA.retype (v:=v) (m:=L.set i ⟨p,d,w,m :: r⟩) (g:=mgeC)
   focus(repeat constructor)
   focus exact hmap
   repeat'(first|apply Sp.h|refine Lk.r rfl ?_|refine Rf.mk rfl ?_|refine xN ?_|fail)
   exact⟨_,_, .one (.same (.z)),rfl,w,rfl⟩
  ·have hF:lastF (y :: r) m=(0,y :: r):=by simp [lastF,hc]
   have hc2:¬orI [cmpI y.time m.time,cmpI y.rep m.rep] < 0:=hc
   rw [hF]
   refine CallA.of pg ord210 Tryz.func210 rfl Tryz.ntmps210 Tryz.results210 rfl fun h0 G0 O0=>?_
   repeat'(first|apply Sp.h|refine Lk.r rfl ?_|refine Rf.mk rfl ?_|refine xB ?_|refine OpK.r rfl ?_|refine All.mk fun _=>?_|refine xU ?_|refine xT ?_|refine xI ?_|refine xJ ?_|refine Ch.l ⟨rfl,rfl⟩ ?_|(apply SetAsk.r;focus repeat' constructor)|(apply Fk.r;focus repeat' first|infer_instance|constructor)|refine xN ?_|refine Rf.mk ⟨rfl,rfl,rfl⟩ ?_|refine xD ?_|(apply Cl.p (compareI_p _ _);focus repeat' constructor))
   (apply Cl.lend (ho);(focus repeat'(first|exact Lend.nil|(apply Lend.lendm;(focus repeat constructor);(focus rfl);(focus first|omega|decide|(simp;omega)|exact zB rfl))|fail)))
   repeat'(first|apply Sp.h|refine Lk.r rfl ?_|refine Rf.mk rfl ?_|refine xB ?_|refine OpK.r rfl ?_|refine xN ?_|fail)
   all_goals exact⟨_,_, .one (.same (.z)),rfl,w,congrArg (fun z=> [arrR v 231 3 z mgeC,arrR w 233 4 (y :: r) mkC]) (hsame).symm⟩
def EvV(m:ModS)(n:Int)(e:EvS) : Prop:=FormedE e∧(e.past.length:Int)=n∧(e.kind=0→e.action < (m.acts.length:Nat))
noncomputable instance (m:ModS) (n:Int) (e:EvS):Decidable (EvV m n e):=zC _
theorem evalid_p(m:ModS)(n:Int)(e:EvS) : CallP Tryz.prog 155 [mdl m,it n,evA' e] (bl (decide (EvV m n e))):=by
 have hf:=formed_p e
 refine CallA.of pg ordZ Tryz.func155 rfl Tryz.ntmps155 Tryz.results155 rfl fun h0 G0 O0=>?_
 repeat'(first|apply Sp.h|refine Lk.r rfl ?_|refine Rf.mk rfl ?_|refine xA ?_|refine xB ?_|(refine Bd.mk ?_ ?_ <;> intro _)|refine Im.mk fun _=>?_|refine All.mk fun _=>?_|refine xT ?_|refine Ch.l ⟨rfl,rfl⟩ ?_|refine xN ?_|(apply Cl.p (hf);focus repeat' constructor))
 all_goals refine Fin.p rfl (vb ?_)
 all_goals first
  | exact(zF (fun h=>by
    obtain⟨h1,h2,h3⟩:=h
    first
     | exact absurd h1 (by assumption)
     | omega)).symm
  | exact(zT ⟨by assumption,by omega,by omega⟩).symm
  | exact zD.2 ⟨fun h=>⟨by assumption,by omega,by omega⟩,fun h=>by
    obtain⟨h1,h2,h3⟩:=h
    omega⟩
  | skip
abbrev UpS:=Int×Int×Int
def updF(us:List UpS)(c:Int) : Option UpS:=us.reverse.find? fun u=>decide (u.2.1=c)
def updT(us:List UpS) : List (List Int×UpS):=us.foldl (fun kvs u=>updL kvs [u.2.1] u) []
theorem updT_look(us:List UpS)(c:Int) : lookL (updT us) [c]=updF us c:=by
 have key:∀us:List UpS,lookL (updT us.reverse) [c]=updF us.reverse c:=by
  intro us
  induction us with
  | nil=>rfl
  | cons u us ih =>
   rw [List.reverse_cons,updT,List.foldl_append,updF,List.reverse_append]
   simp only [List.foldl_cons,List.foldl_nil,List.reverse_cons,List.reverse_nil,List.nil_append,List.cons_append,List.find?_cons]
   rw [lookL_upd]
   by_cases h:u.2.1=c
   ·simp [h]
   ·have h2:¬ [c]= [u.2.1]:=by simpa using fun h9:c=u.2.1=>h h9.symm
    rw [if_neg h2]
    simp only [h,decide_false]
    exact ih
 have:=key us.reverse
 rwa [List.reverse_reverse] at this
theorem rules_cases(a b:Int) : lookL rulesL [a,b]=none∨(a=2∧b=0∧lookL rulesL [a,b]=some 207)∨(a=2∧b=1∧lookL rulesL [a,b]=some 208)∨(a=3∧b=0∧lookL rulesL [a,b]=some 209)
  ∨(a=3∧b=1∧lookL rulesL [a,b]=some 207)∨(a=4∧b=2∧lookL rulesL [a,b]=some 210)∨(a=5∧b=2∧lookL rulesL [a,b]=some 211):=by
 cases h:lookL rulesL [a,b] with
 | none=>exact .inl rfl
 | some g =>
  refine .inr ?_
  have hm:=List.mem_of_find?_eq_some (p:=fun p:List Int×FuncId=>decide (p.1= [a,b])) (l:=rulesL) (a:=([a,b],g)) (by
   unfold lookL at h
   cases h9:rulesL.find? (fun p=>decide (p.1= [a,b])) with
   | none=>rw [h9] at h;cases h
   | some q =>
    rw [h9] at h
    have h1:q.1= [a,b]:=by simpa using List.find?_some h9
    have h2:q.2=g:=by simpa using h
    rw [←h1,←h2])
  simp only [rulesL,List.mem_cons,Prod.mk.injEq,List.cons.injEq,List.not_mem_nil,or_false,and_true] at hm
  rcases hm with⟨⟨h1,h2⟩,h3⟩|⟨⟨h1,h2⟩,h3⟩|⟨⟨h1,h2⟩,h3⟩|⟨⟨h1,h2⟩,h3⟩|⟨⟨h1,h2⟩,h3⟩|⟨⟨h1,h2⟩,h3⟩ <;> subst h1 <;> subst h2 <;> subst h3 <;> simp
theorem LtK.trans{a b c:MkS}(h1:LtK a b)(h2:LtK b c) : LtK a c:=by unfold LtK at *;omega
theorem LtK.cotrans{a b:MkS}(c:MkS)(h:LtK a b) : LtK a c∨LtK c b:=by unfold LtK at *;omega
def SrtK(l:List MkS) : Prop:=l.Pairwise fun a b=>¬LtK b a
theorem SrtK.mono{l:List MkS}(h:SrtK l)(m:MkS) : MonoK l m:=by
 intro i j a b hij ha hb hlt
 rcases Nat.lt_or_ge i j with h1|h1
 ·have hi:=(zS.1 ha)
  have hj:=(zS.1 hb)
  have:=List.pairwise_iff_getElem.1 h i j hi.1 hj.1 h1
  rw [hi.2,hj.2] at this
  rcases hlt.cotrans a with h2|h2
  ·exact absurd h2 this
  ·exact h2
 ·have:i=j:=by omega
  subst this
  rw [ha] at hb;cases hb;exact hlt
theorem srt_of{l:List MkS}(h:∀(i:Nat) (x y:MkS),l[i]?=some x→l[i+1]?=some y→¬LtK y x) : SrtK l:=by
 induction l with
 | nil=>exact List.Pairwise.nil
 | cons a l ih =>
  have hl:SrtK l:=ih fun i x y hx hy=>h (i+1) x y hx hy
  refine List.pairwise_cons.2 ⟨fun b hb=>?_,hl⟩
  match l,hl,h with
  | [],_,_=>cases hb
  | c :: l,hl,h =>
   have h0:=h 0 a c rfl rfl
   rcases List.mem_cons.1 hb with rfl|hb
   ·exact h0
   ·have h1:=(List.pairwise_cons.1 hl).1 b hb
    intro h2
    rcases h2.cotrans c with h3|h3
    ·exact h1 h3
    ·exact h0 h3
theorem ValG.srt{t:TblS}{g:MgS}(h:ValG t g) : SrtK g.marks:=by
 refine srt_of fun i x y hx hy=>?_
 have hi:=(zS.1 hy).1
 exact(h.2 (i+1) y hi hy).2.2 x (by omega) (by simpa using hx)
theorem SrtK.filter{l:List MkS}(h:SrtK l)(p:MkS→Bool) : SrtK (l.filter p):=List.Pairwise.filter p h
noncomputable def cellF(e:EvS)(t:TblS)(u:Option UpS)(g:MgS) : Int×MgS:=match u with
 | none=>(0,g)
 | some u =>
  let m:MkS:=⟨e.rep,e.num,e.time,if isReg t.kind then u.2.2 else 0⟩
  if t.kind=2∧u.1=0∨t.kind=3∧u.1=1 then((addF g.marks m).1,⟨g.put,g.drop,(addF g.marks m).2⟩)
  else if t.kind=2∧u.1=1 then(0,⟨false,g.drop,fgK e.past g.marks⟩)
  else if t.kind=3∧u.1=0 then(0,⟨true,false,fgK e.past g.marks⟩)
  else if t.kind=4∧u.1=2 then((lastF g.marks m).1,⟨g.put,g.drop,(lastF g.marks m).2⟩)
  else if t.kind=5∧u.1=2 then((addF (fgK e.past g.marks) m).1,⟨g.put,g.drop,(addF (fgK e.past g.marks) m).2⟩)
  else(0,g)
end Go.Proofs.YtmjllbjfkafhdaaGreatDoor
