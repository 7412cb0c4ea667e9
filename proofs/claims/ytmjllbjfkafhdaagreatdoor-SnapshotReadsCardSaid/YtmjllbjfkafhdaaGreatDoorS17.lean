/- Part 17 of the ground of this proof: what its texts say of the model, the program and the plain data; conditions: those that are named. -/
import Derived.Test.YtmjllbjfkafhdaaGreatDoorS16
namespace Go.Proofs.YtmjllbjfkafhdaaGreatDoor
open Go Go.CF
theorem cy{l:List yC}{x:yC}(hn:∀y∈l,¬Nm y x)(hl:l.length<=1000)(hg:r9 l):(xo l x).1=0/\(∀y∈(xo l x).2,y∈l∨y=x)/\(xo l x).2.length<=l.length+1:=by
 have yD:¬wj l x:=λ⟨y,hy,h⟩=>hn y hy h
 have hF:xo l x=(0,vU l x):=by rw [xo,if_neg yD,if_neg z6]
 rw [hF]
 exact⟨rfl,λy hy=>((ml hg.1 yD).2 y).1 hy,by simp only [gB];omega⟩
theorem S5{t:ym}{g:xp}{e:yo}{u:Option qh}(hg:sx t g)(hn:∀x∈g.marks,nm e≠ [x.rep,x.num])(hl:g.marks.length<=1000):(yQ e t u g).1=0/\(∀x∈(yQ e t u g).2.marks,x∈g.marks∨nm e= [x.rep,x.num])/\(yQ e t u g).2.marks.length<=g.marks.length+1:=by
 cases u with
 | none=>exact⟨rfl,λx hx=> .inl hx,by simp [yQ]⟩
 | some u =>
  have hG:=sx.Ls hg
  obtain⟨M,hM⟩:∃M:yC,M=⟨e.rep,e.num,e.time,if x8 t.kind then u.2.2 else 0⟩:=⟨_,rfl⟩
  have Gv:nm e= [M.rep,M.num]:=by rw [hM];rfl
  have jQ:∀y∈g.marks,¬Nm y M:=λy hy h=>hn y hy (by rw [Gv,h.1,h.2])
  have qz:(vl e.yj g.marks).length<=g.marks.length:=List.length_filter_le _ _
  have R7:∀y∈vl e.yj g.marks,y∈g.marks:=λy hy=>(List.mem_filter.1 hy).1
  have a1:=cy jQ hl hG
  have a2:=cy (x:=M) (λy hy=>jQ y (R7 y hy)) z6 (hG.filter λx=> !decide (x9 e.yj x.rep x.num))
  change (xo (vl e.yj g.marks) M).1=0/\(∀y∈(xo (vl e.yj g.marks) M).2,y∈vl e.yj g.marks∨y=M)/\(xo (vl e.yj g.marks) M).2.length<=(vl e.yj g.marks).length+1 at a2
  simp only [yQ,<-hM]
  split
  ·exact⟨a1.1,λx hx=>(a1.2.1 x hx).imp id λh=>by rw [h];exact Gv,a1.2.2⟩
  split
  ·exact⟨rfl,λx hx=> .inl (R7 x hx),by simp only;omega⟩
  split
  ·exact⟨rfl,λx hx=> .inl (R7 x hx),by simp only;omega⟩
  split
  ·match hm:g.marks with
   | [] =>
    rw [hm] at a1
    exact⟨a1.1,λx hx=>(a1.2.1 x hx).imp id λh=>by rw [h];exact Gv,a1.2.2⟩
   | x :: r =>
    simp only [wN]
    refine⟨trivial,λy hy=>?_, ?_⟩
    ·split at hy
     ·rcases List.mem_cons.1 hy with rfl|hy
      ·exact .inr Gv
      ·exact .inl (List.mem_cons_of_mem _ hy)
     ·exact .inl hy
    ·split <;> simp
  split
  ·exact⟨a2.1,λx hx=>(a2.2.1 x hx).imp (R7 x) λh=>by rw [h];exact Gv,by have:=a2.2.2;simp only;omega⟩
  ·exact⟨rfl,λx hx=> .inl hx,by simp⟩
structure Vy (m:y8) (k:List xp) (S:List (List Int)) (N:Nat):Prop where
 v:vX (yw m) k
 n:∀g∈k,∀x∈g.marks,[x.rep,x.num]∈S
 l:∀g∈k,g.marks.length<=N
theorem WD{m:y8}(hm:xS m.y9 m.tables)(hf:af m){k:List xp}{S:List (List Int)}{N:Nat}{e:yo}(h:Vy m k S N)(hN:N<=1000)(he:rE m (e.yj.length:Nat) e)(hn:nm e ∉ S):Vy m (um m k e) (S ++ [nm e]) (N+1):=by
 have h0:(yq m k e).1=0/\(∀g∈(yq m k e).2,(∀x∈g.marks,[x.rep,x.num]∈S ++ [nm e])/\g.marks.length<=N+1):=by
  by_cases hk:e.kind=0
  rotate_left
  ·rw [yq,if_neg (λh9=>h9 ⟨h.v,he⟩),if_pos hk]
   exact⟨rfl,λg hg=>⟨λx hx=>zV.2 (.inl (h.n g hg x hx)),by have:=h.l g hg;omega⟩⟩
  rw [yq,if_neg (λh9=>h9 ⟨h.v,he⟩),if_neg (λh9=>h9 hk)]
  have yS:∀p∈vi (yw m) k (lr m e) e,p.1=0/\(∀x∈p.2.marks,[x.rep,x.num]∈S ++ [nm e])/\p.2.marks.length<=N+1:=λp hp=>by
   obtain⟨i,hi⟩:=zO hp
   have qf:=(zS.1 hi).1
   rw [vK] at qf
   obtain⟨g,hg⟩:=zz qf
   obtain⟨t,ht⟩:=zz (l:=yw m) (i:=i) (by rw [h.v.1];exact qf)
   rw [uY ht hg] at hi
   cases hi
   have Ob:=zM hg
   have hl:=h.l g Ob
   obtain⟨c1,c2,c3⟩:=S5 (e:=e) (u:=uR (lr m e) i) (h.v.2 i t g ht hg) (λx hx h9=>hn (by rw [h9];exact h.n g Ob x hx)) z6
   refine⟨c1,λx hx=>?_,z6⟩
   rcases c2 x hx with h9|h9
   ·exact zV.2 (.inl (h.n g Ob x h9))
   ·exact zV.2 (.inr (by rw [h9];simp))
  rw [u_ (λp hp=> .inl (yS p hp).1),if_neg (λ⟨p,hp,h8⟩=>by rw [(yS p hp).1] at h8;cases h8)]
  refine⟨rfl,λg hg=>?_⟩
  obtain⟨p,hp,rfl⟩:=List.mem_map.1 hg
  exact(yS p hp).2
 exact⟨Zf hm hf h0.1,λg hg=>(h0.2 g hg).1,λg hg=>(h0.2 g hg).2⟩
theorem TE{m:y8}(hm:xS m.y9 m.tables)(hf:af m) :∀(E:List yo) (k:List xp) (S:List (List Int)) (N:Nat),Vy m k S N->N+E.length<=1000->(∀e∈E,rE m (e.yj.length:Nat) e)->E.Pairwise (λa b=>nm a≠nm b)->(∀e∈E,nm e ∉ S)->Vy m (E.foldl (um m) k) (S ++ E.map nm) (N+E.length):=by
 intro E
 induction E with
 | nil=>intro k S N h _ _ _ _;simpa using h
 | cons e E ih =>
  intro k S N h hN hv hp hn
  rw [List.length_cons] at hN
  obtain⟨p1,p2⟩:=List.pairwise_cons.1 hp
  have h1:=WD hm hf h z6 (hv e zd) (hn e zd)
  have h2:=ih _ _ _ h1 z6 (λx hx=>hv x (List.mem_cons_of_mem _ hx)) p2 λx hx h9=>by
   rcases zV.1 h9 with h9|h9
   ·exact hn x (List.mem_cons_of_mem _ hx) h9
   ·exact p1 x hx (zH.1 h9).symm
  rw [List.foldl_cons,List.map_cons,List.length_cons]
  rw [List.append_assoc,List.singleton_append] at h2
  rw [show N+(E.length+1)=N+1+E.length by omega]
  exact h2
theorem T5(m:y8):Vy m (List.replicate (yw m).length nS) [] 0:=⟨Xv,λg hg x hx=>by rw [(List.mem_replicate.1 hg).2] at hx;simp [nS] at hx,λg hg=>by rw [(List.mem_replicate.1 hg).2];simp [nS]⟩
structure sW (m:y8) (n:Nat) (D:List yo):Prop where
 ev:∀e∈D,rE m (n:Nat) e
 pw:D.Pairwise λa b=>nm a≠nm b
theorem sW.nil(m:y8)(n:Nat):sW m n []:=⟨λe h=>(by cases h),List.Pairwise.nil⟩
theorem Pk{m:y8}{n:Nat}{D:List yo}(hn:1<=n/\n<=5)(h:sW m n D){e:yo}(he:e∈D):x9 (p_ n D) e.rep e.num:=by
 have su:vY (p_ n D):=jn hn λx hx=>ov (h.ev x hx).1
 have hr:=sd (h.ev e he).1
 have kq:=(h.ev e he).2.1
 obtain⟨y,h1,h2,h3⟩:=YA (n:=n) D (List.replicate n 0) zd (λx hx=>by rw [(List.mem_replicate.1 hx).2];exact Int.le_refl 0) (λa ha=>by
  have:=sd (h.ev a ha).1
  have:=(h.ev a ha).2.1
  exact⟨z6,z6⟩) e.rep.toNat z6
 exact⟨su,hr.1,hr.2.2,y,h1,(h3 e.num hr.2.2).2 (.inr ⟨e,he,rfl,Int.le_refl _⟩)⟩
theorem sW.step{m:y8}{n:Nat}{D:List yo}{ld:List Int}{e:yo}(hn:1<=n/\n<=5)(h:sW m n D)(h0:(yA m D (y_ m n ld D) e).1=0):sW m n (D ++ [e]):=by
 have h1:=(Z8 h0).1
 have h2:=(cL h0).2.1
 rw [show(y_ m n ld D).clock=p_ n D from rfl] at h1 h2
 rw [sb] at h2
 refine⟨λx hx=>?_,List.pairwise_append.2 ⟨h.pw,List.pairwise_singleton _ _,λa ha b hb pz=>?_⟩⟩
 ·rcases zV.1 hx with hx|hx
  ·exact h.ev x hx
  ·rw [zH.1 hx];exact h2
 ·rw [zH.1 hb] at pz
  have hh:=Pk hn h ha
  have:a.rep=e.rep/\a.num=e.num:=by simpa [nm] using pz
  rw [this.1,this.2] at hh
  exact h1 hh
theorem sW.filter{m:y8}{n:Nat}{D:List yo}(h:sW m n D)(p:yo->Bool):sW m n (D.filter p):=⟨λe he=>h.ev e (List.mem_filter.1 he).1,List.Pairwise.filter p h.pw⟩
theorem sW.fold{m:y8}{n:Nat}{D:List yo}(hx:xR m)(h:sW m n D)(hl:D.length<=1000):vX (yw m) (D.foldl (um m) (List.replicate (yw m).length nS)) :=
 (TE hx.lay.ok hx.fit D _ _ _ (T5 m) z6 (λe he=>by rw [(h.ev e he).2.1];exact h.ev e he) h.pw λe _ h9=>by cases h9).v
structure AnyS (m:y8) (b:yt) (l:List yo) (w:yt):Prop where
 hb:b.state.length=xk m
 sz:eC b
 ck:w.clock.length<=5
 ln:l.length<=1000
 ev:∀e∈l,rE m (w.clock.length:Nat) e
 sn:∀c,oU m b l c
theorem AnyS.shw{m:y8}{b:yt}{l:List yo}{w:yt}(h:AnyS m b l w):fu b l w:=⟨h.sz,by have:=h.ck;omega,by have:=h.ln;omega,λe he=>by have:=(h.ev e he).2.1;have:=h.ck;omega⟩
theorem AnyS.ev2{m:y8}{b:yt}{l:List yo}{w:yt}(h:AnyS m b l w) :∀e∈l,rE m (e.yj.length:Nat) e:=λe he=>by
 have:=h.ev e he
 rw [this.2.1];exact this
theorem lQ{m:y8}{n:Nat}{D:List yo}{ld:List Int}(hn:1<=n/\n<=5)(gR:ld.length=xk m)(h:sW m n D)(hl:D.length<=1000):iS m (y_ m n ld D):=by
 refine⟨jn hn λx hx=>ov (h.ev x hx).1,by simp only [y_,po];exact gR, ?_, ?_⟩
 ·simp only [y_,rT];exact(lS _).1
 ·simp only [y_,rT]
  have:=qL (Zj D);have:=Y9 D
  omega
theorem Z_{m:y8}{n:Nat}{D:List yo}{ld:List Int}(hm:nR m)(hn:1<=n/\n<=5)(gR:ld.length=xk m)(h:sW m n D)(hl:D.length<=1000):eC (y_ m n ld D):=by
 have h0:=lQ (ld:=ld) hn gR h hl
 have h1:=Y0 (m:=m) hm n ld D
 exact⟨by have:=h0.Vc.2.2;omega,by rw [h0.st];have:=hm.str;omega,h1.1,h1.2,h0.SS⟩
theorem Py{m:y8}{n:Nat}{D:List yo}{ld:List Int}(hx:xR m)(hn:1<=n/\n<=5)(gR:ld.length=xk m)(h:sW m n D)(hl:D.length<=1000):AnyS m (y_ m n ld []) D (y_ m n ld D):=by
 have ue:(y_ m n ld D).clock.length=n:=sb ..
 refine⟨gR,Z_ hx.Sr hn gR (sW.nil m n) (zZ _),z6,hl,λe he=>by rw [ue];exact h.ev e he,λc=>?_⟩
 have:=ZU ((h.filter λe=>decide (x9 c e.rep e.num)).fold hx (Nat.le_trans (List.length_filter_le _ _) hl))
 exact⟨this.1,this.2⟩
theorem cW{m:y8}{n:Nat}{D:List yo}{ld c:List Int}(hx:xR m)(hn:1<=n/\n<=5)(gR:ld.length=xk m)(h:sW m n D)(hl:D.length<=1000):AnyS m (xi m ⟨y_ m n ld [],D,y_ m n ld D⟩ c).2.base (xi m ⟨y_ m n ld [],D,y_ m n ld D⟩ c).2.vm (xi m ⟨y_ m n ld [],D,y_ m n ld D⟩ c).2.now:=by
 have h0:=Py (ld:=ld) hx hn gR h hl
 by_cases c1:vY c/\c.length=(y_ m n ld D).clock.length
 rotate_left
 ·have hF:xi m ⟨y_ m n ld [],D,y_ m n ld D⟩ c=(1,⟨y_ m n ld [],D,y_ m n ld D⟩):=@if_pos _ (zC _) c1 _ _ _
  rw [hF];exact h0
 by_cases c2:Ins (y_ m n ld []).clock c/\Ins c (y_ m n ld D).clock/\∀e∈D,x9 c e.rep e.num->Ins e.yj c
 rotate_left
 ·have hF:xi m ⟨y_ m n ld [],D,y_ m n ld D⟩ c=(9,⟨y_ m n ld [],D,y_ m n ld D⟩):=(@if_neg _ (zC _) (λh9=>h9 c1) _ _ _).trans (@if_pos _ (zC _) c2 _ _ _)
  rw [hF];exact h0
 have hF:xi m ⟨y_ m n ld [],D,y_ m n ld D⟩ c=(0,⟨qo m (y_ m n ld []) c D,vN c D,{ y_ m n ld D with merged:=(vN c D).foldl (um m) (qo m (y_ m n ld []) c D).merged }⟩):=(@if_neg _ (zC _) (λh9=>h9 c1) _ _ _).trans (@if_neg _ (zC _) (λh9=>h9 c2) _ _ _)
 rw [hF]
 have ue:(y_ m n ld D).clock.length=n:=sb ..
 have qf:(uP c D).length<=D.length:=List.length_filter_le _ _
 have wU:(vN c D).length<=D.length:=List.length_filter_le _ _
 have yd:sW m n (uP c D):=h.filter _
 have uU:=lQ (ld:=ld) hn gR yd z6
 have u4:=Z_ (ld:=ld) hx.Sr hn gR yd z6
 have yL:(qo m (y_ m n ld []) c D).state=(y_ m n ld (uP c D)).state:=by unfold qo;rw [mK];rfl
 have B4:(qo m (y_ m n ld []) c D).merged=(y_ m n ld (uP c D)).merged:=by unfold qo;rw [mK];rfl
 have kq:(qo m (y_ m n ld []) c D).places=(y_ m n ld (uP c D)).places:=by unfold qo;rw [mK];rfl
 have lz:(qo m (y_ m n ld []) c D).clock=c:=rfl
 refine⟨by rw [yL];exact uU.st,⟨by rw [lz];have:=c1.1.2;omega,by rw [yL];exact u4.s,by rw [B4];exact u4.m,by rw [B4];exact u4.k,by rw [kq];exact u4.p⟩,by show(y_ m n ld D).clock.length<=5;omega,by show(vN c D).length<=1000;omega,λe he=>?_,λc'=>?_⟩
 ·show rE m ((y_ m n ld D).clock.length:Nat) e
  rw [ue]
  exact h.ev e (List.mem_filter.1 he).1
 ·have hk:kE m (qo m (y_ m n ld []) c D) (vN c D) c'=(uP c D ++ uP c' (vN c D)).foldl (um m) (List.replicate (yw m).length nS):=by
   rw [kE,B4,List.foldl_append];rfl
  have hA:sW m n (uP c D ++ uP c' (vN c D)):=by
   refine⟨λe he=>?_,List.pairwise_append.2 ⟨yd.pw,((h.filter _).filter _).pw,λa ha b hb pz=>?_⟩⟩
   ·rcases zV.1 he with he|he
    ·exact yd.ev e he
    ·exact h.ev e (List.mem_filter.1 (List.mem_filter.1 he).1).1
   ·have h1:x9 c a.rep a.num:=of_decide_eq_true (List.mem_filter.1 ha).2
    have h2:¬x9 c b.rep b.num:=of_decide_eq_true (List.mem_filter.1 (List.mem_filter.1 hb).1).2
    have:a.rep=b.rep/\a.num=b.num:=by simpa [nm] using pz
    rw [this.1,this.2] at h1
    exact h2 h1
  have hlen:(uP c D ++ uP c' (vN c D)).length<=1000:=by
   have h1:(uP c' (vN c D)).length<=(vN c D).length:=List.length_filter_le _ _
   have h2:=Z4 (λe=>decide (x9 c e.rep e.num)) D
   have h3:(D.filter λe=> !decide (x9 c e.rep e.num))=vN c D:=List.filter_congr λe _=>by simp
   have h4:(D.filter λe=>decide (x9 c e.rep e.num))=uP c D:=rfl
   rw [h3,h4] at h2
   rw [zP]
   omega
  have:=ZU (hA.fold hx hlen)
  rw [<-hk] at this
  exact⟨this.1,this.2⟩
end Go.Proofs.YtmjllbjfkafhdaaGreatDoor
set_option maxRecDepth 100000
set_option maxHeartbeats 80000000
namespace Go.Proofs.YtmjllbjfkafhdaaGreatDoor
open Go Go.CF
theorem XU(m:y8)(n:Int)(ld:List Int)(h:¬(1<=n/\n<=5)):y6 Tryz.prog 35 [wH m,it n,ints ld] (.yE [.val (.pointer none),it 1]):=by
 refine zy.of pg VG Tryz.func35 rfl Tryz.ntmps35 Tryz.results35 rfl λh0 G0 O0=>?_
 repeat'(first|apply Sp.h|refine Lk.r rfl ?_|refine Rf.mk rfl ?_|refine xA ?_|refine xB ?_|apply Bd.mk|apply yc.mk|refine xN ?_|intro _)
 all_goals first
  | exact Fin.p rfl rfl
  | exact(h ⟨z6,z6⟩).elim
theorem Wy(m:y8)(n:Int)(ld:List Int)(l:List yo)(order c:List Int)(hx:xR m)(hl:l.length<=12)(ho:∀x∈order,0<=x/\x<=255) :
  zy Tryz.prog 13 [wH m,it n,ints ld,vm l,MC order,ints c] [] λr own=>(r= .val (.pointer none)/\own= [])∨∃p v b D w,r=pm p/\own= [vw p m b v w,yb v 66 13 D uf]/\D.length<=12/\AnyS m b D w:=by
 by_cases hn:1<=n/\n<=5
 rotate_left
 ·have oQ:=XU m n ld hn
  refine zy.of pg ye Tryz.func13 rfl Tryz.ntmps13 Tryz.results13 rfl λh0 G0 O0=>?_
  repeat'(first|apply Sp.h|refine Lk.r rfl ?_|refine Rf.mk rfl ?_|refine xB ?_|refine yc.mk λ_=>?_|refine xT ?_|refine Ch.l ⟨rfl,rfl⟩ ?_|refine xN ?_|(apply Cl.p (oQ);focus repeat' constructor))
  all_goals first
   | exact⟨_,_,.one (.same (.z)),.inl ⟨rfl,rfl⟩⟩
   | exact(by omega:False).elim
 obtain⟨k,rfl⟩:=Int.eq_ofNat_of_zero_le (show 0<=n by omega)
 by_cases Hl:ld.length=xk m/\lC ld
 rotate_left
 ·have oQ:=XV m k ld hx.Sr z6 Hl
  refine zy.of pg ye Tryz.func13 rfl Tryz.ntmps13 Tryz.results13 rfl λh0 G0 O0=>?_
  repeat'(first|apply Sp.h|refine Lk.r rfl ?_|refine Rf.mk rfl ?_|refine xB ?_|refine yc.mk λ_=>?_|refine xT ?_|refine Ch.l ⟨rfl,rfl⟩ ?_|refine xN ?_|(apply Cl.p (oQ);focus repeat' constructor))
  all_goals first
   | exact⟨_,_,.one (.same (.z)),.inl ⟨rfl,rfl⟩⟩
   | exact(by omega:False).elim
 have rz:1<=k/\k<=5:=z6
 have h1:=Yh m k ld hx.Sr rz Hl.1 Hl.2
 have h2:=cK l order z6 ho
 refine zy.of pg ye Tryz.func13 rfl Tryz.ntmps13 Tryz.results13 rfl λh0 G0 O0=>?_
 repeat'(first|apply Sp.h|refine Lk.r rfl ?_|refine Rf.mk rfl ?_|apply yc.mk|refine xT ?_|refine Ch.l ⟨rfl,rfl⟩ ?_|intro _)
 refine xW (h1) ?_
 rintro _ _ ⟨p,v,rfl,rfl⟩
 repeat'(first|apply Sp.h|refine Lk.r rfl ?_|refine Rf.mk rfl ?_|refine xA ?_|refine xB ?_|fail)
 refine xW (h2) ?_
 rintro _ _ ⟨vx,X,rfl,rfl,hX1,hX2⟩
 repeat'(first|apply Sp.h|refine Lk.r rfl ?_|refine xU ?_|fail)
 refine CA.loop (λz:Nat×Value×List yo=>⟨[(5,ints c),(13,pm p),(32,.ow vx),(33,it (X.length:Nat)),(34,it z.1)],[vw p m (y_ m k ld []) z.2.1 (y_ m k ld z.2.2),yb z.2.1 66 13 z.2.2 uf,yb vx 66 13 X uf]⟩) (λz=>z.1<=X.length/\z.2.2.length<=z.1/\sW m k z.2.2) (λz=>X.length - z.1) (0,v,[]) xE ⟨zZ _,Nat.le_refl _,sW.nil m k⟩ ?_
 rintro⟨i,u,D⟩ ⟨hi,Zy,hD⟩
 simp only at hi Zy hD
 simp only
 have Rt:=lQ (ld:=ld) rz Hl.1 hD z6
 by_cases yd:i < X.length
 ·obtain⟨e,he⟩:=zz yd
  have Of:=mI p m (y_ m k ld []) u D (y_ m k ld D) e hx.Sr Rt z6
  by_cases h0:(yA m D (y_ m k ld D) e).1=0
  ·rw [lD,if_pos h0,h0,Z7 h0] at Of
   have yL:=hD.step rz h0
   repeat'(first|apply Sp.h|refine Lk.r rfl ?_|refine Rf.mk rfl ?_|refine xA ?_|apply yc.mk|refine xU ?_|refine xT ?_|refine xI ?_|refine xJ ?_|refine Ch.l ⟨rfl,rfl⟩ ?_|(apply y4.r;focus repeat' constructor)|refine xN ?_|intro _)
   refine xW (Of) ?_
   rintro _ _ ⟨rfl,u2,rfl⟩
   repeat'(first|apply Sp.h|refine Lk.r rfl ?_|refine Rf.mk rfl ?_|refine xO ?_|fail)
   exact PA.lp (i+1,u2,D ++ [e]) xE ⟨⟨yd,by simp only [zP,List.length_cons,List.length_nil];omega,yL⟩,by simp only;omega⟩
  ·rw [lD,if_neg h0,Z6 h0] at Of
   repeat'(first|apply Sp.h|refine Lk.r rfl ?_|refine Rf.mk rfl ?_|refine xA ?_|apply yc.mk|refine xU ?_|refine xT ?_|refine xI ?_|refine xJ ?_|refine Ch.l ⟨rfl,rfl⟩ ?_|(apply y4.r;focus repeat' constructor)|refine xN ?_|intro _)
   refine xW (Of) ?_
   rintro _ _ ⟨rfl,u2,rfl⟩
   repeat'(first|apply Sp.h|refine Lk.r rfl ?_|refine Rf.mk rfl ?_|refine xO ?_|fail)
   exact PA.lp (i+1,u2,D) xE ⟨⟨yd,by simp only;omega,hD⟩,by simp only;omega⟩
 ·have ue:(y_ m k ld D).clock.length=k:=sb ..
  have MY:=lQ (ld:=ld) rz Hl.1 (sW.nil m k) (zZ _)
  have YU:=gD p m (y_ m k ld []) u D (y_ m k ld D) c hx.Sr Rt ⟨MY.Vc,by rw [ue];exact sb ..,MY.st,Y0 hx.Sr k ld [],MY.WZ,by simp [y_]⟩ z6 (λe he=>by rw [ue];exact hD.ev e he)
  have hA:=cW (ld:=ld) (c:=c) hx rz Hl.1 hD z6
  have gT:(xi m ⟨y_ m k ld [],D,y_ m k ld D⟩ c).2.vm.length<=D.length:=by
   unfold xi
   repeat' split
   all_goals first
    | exact Nat.le_refl _
    | exact List.length_filter_le _ _
  generalize (xi m ⟨y_ m k ld [],D,y_ m k ld D⟩ c)=q at YU hA gT
  repeat'(first|apply Sp.h|refine Lk.r rfl ?_|refine Rf.mk rfl ?_|refine xB ?_|fail)
  refine xW (YU) ?_
  rintro _ _ ⟨rfl,u3,rfl⟩
  repeat'(first|apply Sp.h|refine Lk.r rfl ?_|refine Rf.mk rfl ?_|refine xN ?_|fail)
  exact⟨_,_,.one (.same (.z)),.inr ⟨p,u3,_,_,_,rfl,rfl,z6,hA⟩⟩
theorem UD(m:y8)(b:yt)(l:List yo)(w:yt)(h:fu b l w):y6 Tryz.prog 15 [.ad (sO m b l w) 0] (HO b l w.clock):=by
 have h1:=lU m b l w h.bs
 have h2:=mw m b w l h.ln h.ps
 have h3:=j8 m b w l h.ck
 refine zy.of pg ye Tryz.func15 rfl Tryz.ntmps15 Tryz.results15 rfl λh0 G0 O0=>?_
 repeat'(first|apply Sp.h|refine Lk.r rfl ?_|refine Rf.mk rfl ?_|refine yc.mk λ_=>?_|refine xT ?_|(apply y4.r;focus repeat' constructor)|(apply Fk.r;focus repeat' first|infer_instance|constructor)|refine xN ?_|(apply Cl.p (h1);focus(repeat' constructor);done)|(apply Cl.p (h2);focus(repeat' constructor);done)|(apply Cl.p (h3);focus(repeat' constructor);done))
 exact Fin.p rfl rfl
theorem z16{m:y8}{b:yt}{l:List yo}{w:yt}(h:AnyS m b l w)(hm:nR m)(vL:xl m)(c:List Int)(qs:List vA)(gP:qs.length<=1000):yV Tryz.prog 16 [wH m,.ad (sO m b l w) 0,ints c,uI qs] (.yE [vW (DR m b l w c qs),it (cX m b l w c qs)]):=by
 have hg:=Y3 m b l w c qs h.shw hm vL h.hb h.ev (λ_=>h.sn c) z6
 obtain⟨r1,r2⟩:=z11 (qs:=qs) (h.sn c)
 unfold DR
 generalize r6 m b l c qs=rows at hg r1 r2 ⊢
 generalize cX m b l w c qs=code at hg ⊢
 refine yJ.fx hg ?_
 rintro r o (⟨h9,rfl,rfl⟩|⟨rfl,v,L,rfl,rfl,hL⟩)
 ·rw [if_neg h9]
  exact .yE (.le wV.nil (.le (wV.refl _) .nil)) .nil
 ·rw [if_pos rfl]
  have:=Eg (o:= []) z6 r2 (r:= .yE [.ow v,it 0]) (own:=eQ v L) (.inr ⟨rfl,v,L,rfl,rfl,hL⟩)
  simpa using this
noncomputable def nwR(m:y8)(b:yt)(l:List yo)(w:yt)(qs:List vA):List Int:=if cX m b l w w.clock qs=0 then w.clock else []
theorem z19{m:y8}{b:yt}{l:List yo}{w:yt}(h:AnyS m b l w)(hm:nR m)(vL:xl m)(qs:List vA)(gP:qs.length<=1000):yV Tryz.prog 18 [wH m,.ad (sO m b l w) 0,uI qs] (.yE [vW (DR m b l w w.clock qs),ints (nwR m b l w qs),it (cX m b l w w.clock qs)]):=by
 have hg:=J9 m b l w qs h.shw hm vL h.hb h.ev (λ_=>h.sn _) z6
 obtain⟨r1,r2⟩:=z11 (qs:=qs) (h.sn w.clock)
 have lz:=h.ck
 unfold DR nwR
 generalize r6 m b l w.clock qs=rows at hg r1 r2 ⊢
 generalize cX m b l w w.clock qs=code at hg ⊢
 refine yJ.fx hg ?_
 rintro r o (⟨h9,rfl,rfl⟩|⟨rfl,v,L,u,rfl,rfl,hL⟩)
 ·rw [if_neg h9,if_neg h9]
  exact .yE (.le wV.nil (.le wV.nil (.le (wV.refl _) .nil))) .nil
 ·rw [if_pos rfl,if_pos rfl]
  have:=z1d (o:= []) z6 r2 z6 (r:= .yE [.ow v,.ow u,it 0]) (own:=eQ v L ++ [yb u 3 1 w.clock xL]) (.inr ⟨rfl,v,L,u,rfl,rfl,hL⟩)
  simpa using this
theorem z14(m:y8)(n:Int)(ld:List Int)(l:List yo)(order c a:List Int)(qs:List vA)(vL:xl m)(ho:∀x∈order,0<=x/\x<=255) :
  yV Tryz.prog 3 [wH m,it n,ints ld,vm l,MC order,ints c,ints a,uI qs] (bl true):=by
 have ha:=WB
 have jV:=P6 m ld l order
 refine yJ.of pg z1i Tryz.func3 rfl Tryz.ntmps3 Tryz.results3 rfl λh0 G0 O0 ga=>?_
 (repeat'(first|(show CA _ _ (Code.region 1 _ _) _ _;apply z_.out)|apply Sp.h|refine Lk.r rfl ?_|refine Rf.mk rfl ?_|apply yc.mk|intro _));any_goals apply z_.mk
 rename_i b8
 repeat'(first|apply Sp.h|refine Lk.r rfl ?_|refine Rf.mk rfl ?_|refine xA ?_|refine xT ?_|refine Ch.l ⟨rfl,rfl⟩ ?_|(apply Cl.pG (ha);{exact ga};(focus((repeat'(first|exact y3.nil|fail));done))))
 all_goals try exact(by assumption:False).elim
 refine xW (jV) ?_
 rintro _ _ ⟨q,rfl,rfl,Zt⟩
 cases q
 ·repeat'(first|apply Sp.h|refine Lk.r rfl ?_|refine Rf.mk rfl ?_|refine xB ?_|refine xN ?_|fail)
  exact Fin.p rfl rfl
 have Zt:=Zt rfl
 have wU:m.ops.length<=1000000000:=by have:=Zt.fo;omega
 have hv:=tW m wU vL
 have ee:=nv m qs wU vL
 by_cases h8:qs.length<=10/\a.length<=8
 rotate_left
 ·repeat'(first|apply Sp.h|refine Lk.r rfl ?_|refine Rf.mk rfl ?_|refine xA ?_|refine xB ?_|apply Bd.mk|apply Im.mk|refine xN ?_|intro _)
  all_goals first
   | exact Fin.p rfl rfl
   | exact(h8 ⟨z6,z6⟩).elim
 obtain⟨h81,h82⟩:=h8
 by_cases hx:xR m
 rotate_left
 ·rw [zF hx] at hv
  rw [zF λh:sE m qs=>hx h.1] at ee
  repeat'(first|apply Sp.h|refine Lk.r rfl ?_|refine Rf.mk rfl ?_|refine xA ?_|refine xB ?_|refine Im.mk λ_=>?_|refine xT ?_|refine Ch.l ⟨rfl,rfl⟩ ?_|refine xN ?_|(apply Cl.p (hv);focus(repeat' constructor);done)|(apply Cl.pG (ee);{exact ga};focus(repeat' constructor);done))
  all_goals first
   | exact Fin.p rfl rfl
   | exact(by omega:False).elim
 rw [zT hx] at hv
 have Oi:=Wy m n ld l order c hx Zt.fl ho
 have z1j:=z13 a
 repeat'(first|apply Sp.h|refine Lk.r rfl ?_|refine Rf.mk rfl ?_|refine xA ?_|refine xB ?_|refine Im.mk λ_=>?_|refine xT ?_|refine Ch.l ⟨rfl,rfl⟩ ?_|(apply Cl.p (hv);focus repeat' constructor))
 all_goals try exact(by omega:False).elim
 refine xW (Oi) ?_
 rintro _ _ (⟨rfl,rfl⟩|⟨p,v,B,D,w,rfl,rfl,Zy,hA⟩)
 ·repeat'(first|apply Sp.h|refine Lk.r rfl ?_|refine Rf.mk rfl ?_|refine xA ?_|refine xN ?_|(apply Cl.p (z1j);focus repeat' constructor))
  exact Fin.p rfl rfl
 have hm:=hx.Sr
 have c1:=z16 hA hm vL a qs z6
 have c2:=z19 hA hm vL qs z6
 have hvw:=UD m B D w hA.shw
 have r1:=Y6 m B D w a qs hm vL hA.hb hA.ln hA.ev2 (hA.sn _) z6
 have r2:=Y6 m B D w w.clock qs hm vL hA.hb hA.ln hA.ev2 (hA.sn _) z6
 have k1:=rh m B D w a hA.shw
 have k2:=jb B D w.clock a (by have:=hA.ln;omega)
 have hrv:=aI m qs wU vL
 have e1:=z10 (DR m B D w a qs) (DR m B D w a qs)
 have e2:=z10 (DR m B D w w.clock qs) (DR m B D w w.clock qs)
 have e3:=kg w.clock w.clock
 rw [zT rfl] at e1 e2 e3
 unfold nwR at c2
 (repeat'(first|(show CA _ _ (Code.region 10 _ _) _ _;apply z_.out)|apply Sp.h|refine Lk.r rfl ?_|refine Rf.mk rfl ?_|refine xB ?_|fail));any_goals apply z_.mk
 (apply CA.own;(focus(apply OX.rD (b:=p);{exact z1};(focus(repeat'(first|exact FX.nil|(apply FX.s1;{exact z1};{exact zb})|apply FX.k)));{exact z1})))
 apply CA.xt 17
 focus rfl
 focus(repeat constructor)
 generalize DR m B D w a qs=R1 at c1 r1 e1
 generalize DR m B D w w.clock qs=R2 at c2 r2 e2
 generalize cX m B D w a qs=f1 at c1 r1
 generalize cX m B D w w.clock qs=f2 at c2 r2
 generalize wu B.clock D w.clock a=ck at k1 k2
 generalize decide (sE m qs)=qb at ee hrv
 by_cases h0:f2=0
 ·subst h0
  rw [if_pos rfl] at c2
  repeat'(first|apply Sp.h|refine Lk.r rfl ?_|refine Rf.mk rfl ?_|refine xA ?_|refine yu.r rfl ?_|refine yc.mk λ_=>?_|refine xT ?_|refine Ch.l ⟨rfl,rfl⟩ ?_|(apply y4.r;focus repeat' constructor)|refine xN ?_|refine xD ?_|(apply Cl.pG (c1);{exact ga};focus(repeat' constructor);done)|(apply Cl.pG (c2);{exact ga};focus(repeat' constructor);done)|(apply Cl.p (hvw);focus(repeat' constructor);done)|(apply Cl.p (r1);focus(repeat' constructor);done)|(apply Cl.p (r2);focus(repeat' constructor);done)|(apply Cl.p (k1);focus(repeat' constructor);done)|(apply Cl.p (k2);focus(repeat' constructor);done)|(apply Cl.p (hrv);focus(repeat' constructor);done)|(apply Cl.pG (ee);{exact ga};focus(repeat' constructor);done)|(apply Cl.p (e1);focus(repeat' constructor);done)|(apply Cl.p (e2);focus(repeat' constructor);done)|(apply Cl.p (e3);focus(repeat' constructor);done))
  all_goals first
   | exact Fin.p rfl rfl
   | exact(by omega:False).elim
 ·rw [if_neg h0] at c2
  have hz:((List.length ([]:List Int):Nat):Int)=0:=rfl
  repeat'(first|apply Sp.h|refine Lk.r rfl ?_|refine Rf.mk rfl ?_|refine xA ?_|refine xB ?_|refine yu.r rfl ?_|refine Im.mk λ_=>?_|refine yc.mk λ_=>?_|refine xT ?_|refine Ch.l ⟨rfl,rfl⟩ ?_|(apply y4.r;focus repeat' constructor)|refine xN ?_|refine xD ?_|(apply Cl.pG (c1);{exact ga};focus(repeat' constructor);done)|(apply Cl.pG (c2);{exact ga};focus(repeat' constructor);done)|(apply Cl.p (hvw);focus(repeat' constructor);done)|(apply Cl.p (r1);focus(repeat' constructor);done)|(apply Cl.p (r2);focus(repeat' constructor);done)|(apply Cl.p (k1);focus(repeat' constructor);done)|(apply Cl.p (k2);focus(repeat' constructor);done)|(apply Cl.p (hrv);focus(repeat' constructor);done)|(apply Cl.pG (ee);{exact ga};focus(repeat' constructor);done)|(apply Cl.p (e1);focus(repeat' constructor);done)|(apply Cl.p (e2);focus(repeat' constructor);done)|(apply Cl.p (e3);{exact zr}))
  all_goals first
   | exact Fin.p rfl rfl
   | exact absurd z6 h0
   | exact(by omega:False).elim
end Go.Proofs.YtmjllbjfkafhdaaGreatDoor
