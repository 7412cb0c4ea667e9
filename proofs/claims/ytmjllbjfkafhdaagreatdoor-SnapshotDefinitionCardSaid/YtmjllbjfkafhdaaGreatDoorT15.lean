/- Part 15 of the ground of this proof: what its texts say of the model, the program and the plain data; conditions: those that are named. -/
import Derived.Test.YtmjllbjfkafhdaaGreatDoorT14
namespace Go.Proofs.YtmjllbjfkafhdaaGreatDoor
open Go Go.CF
abbrev qj (S:List Int) (B:List Bool) (V:List (List Int)):List AV:= [ints S,q8 B,vW V]
def wh(S:List Int)(B:List Bool)(V:List (List Int))(q:vA):List Int :=
 if q.1=0 then [S[q.2.toNat]?.getD 0] else if q.1=1 then [if B[q.2.toNat]?.getD false then 1 else 0] else V[q.2.toNat]?.getD []
theorem RV(S:List Int)(B:List Bool)(V:List (List Int))(j:Nat)(x:Int)(hx:S[j]?=some x):tJ Tryz.prog 138 [it j,.ad (qj S B V) 0] 3 1 [x] xL:=by
 refine zy.of pg ye Tryz.func138 rfl Tryz.ntmps138 Tryz.results138 rfl λh0 G0 O0=>?_
 repeat'(first|apply Sp.h|refine Lk.r rfl ?_|refine Rf.mk rfl ?_|apply yc.mk|refine xI ?_|(apply Fk.r;focus repeat' first|infer_instance|constructor)|refine xN ?_|refine Rf.mk ⟨rfl,rfl,rfl⟩ ?_|intro _)
 refine⟨_,_,.one (.same (.nil (lF.cons .here .nil))),_,rfl, ?_⟩
 exact congrArg (λR=> [R]) (pc rfl)
theorem RU(S:List Int)(B:List Bool)(V:List (List Int))(j:Nat)(x:Bool)(hx:B[j]?=some x):tJ Tryz.prog 139 [it j,.ad (qj S B V) 0] 3 1 [if x then 1 else 0] xL:=by
 cases x
 ·refine zy.of pg ye Tryz.func139 rfl Tryz.ntmps139 Tryz.results139 rfl λh0 G0 O0=>?_
  repeat'(first|apply Sp.h|refine Lk.r rfl ?_|refine Rf.mk rfl ?_|apply yc.mk|refine xI ?_|(apply Fk.r;focus repeat' first|infer_instance|constructor)|refine xN ?_|refine Rf.mk ⟨rfl,rfl,rfl⟩ ?_|intro _)
  refine⟨_,_,.one (.same (.nil (lF.cons .here .nil))),_,rfl, ?_⟩
  exact congrArg (λR=> [R]) (pc rfl)
 ·refine zy.of pg ye Tryz.func139 rfl Tryz.ntmps139 Tryz.results139 rfl λh0 G0 O0=>?_
  repeat'(first|apply Sp.h|refine Lk.r rfl ?_|refine Rf.mk rfl ?_|apply yc.mk|refine xI ?_|(apply Fk.r;focus repeat' first|infer_instance|constructor)|refine xN ?_|refine Rf.mk ⟨rfl,rfl,rfl⟩ ?_|intro _)
  refine⟨_,_,.one (.same (.nil (lF.cons .here .nil))),_,rfl, ?_⟩
  exact congrArg (λR=> [R]) (pc rfl)
theorem RT(S:List Int)(B:List Bool)(V:List (List Int))(j:Nat)(x:List Int)(hx:V[j]?=some x)(hl:x.length<=100000):tJ Tryz.prog 140 [it j,.ad (qj S B V) 0] 3 1 x xL:=by
 have hc:=ud x z6
 refine zy.of pg ye Tryz.func140 rfl Tryz.ntmps140 Tryz.results140 rfl λh0 G0 O0=>?_
 repeat'(first|apply Sp.h|refine Lk.r rfl ?_|refine Rf.mk rfl ?_|refine xI ?_|fail)
 (refine Cl.use (hc) (by repeat'(first|exact y3.nil|apply y3.yB|fail)) .nil rfl ?_;rintro _ _ ⟨_,rfl,rfl⟩)
 repeat'(first|apply Sp.h|refine Lk.r rfl ?_|refine xN ?_|fail)
 exact⟨_,_,.one (.same (.z)),_,rfl,rfl⟩
structure ir (S:List Int) (B:List Bool) (V:List (List Int)) (q:vA):Prop where
 c:0<=q.2
 k:q.1=0/\q.2 < (S.length:Nat)∨q.1=1/\q.2 < (B.length:Nat)∨q.1=2/\q.2 < (V.length:Nat)
 l:∀x∈V,x.length<=100000
def BC(S:List Int)(B:List Bool)(V:List (List Int)):List (List AV):= [[.fn 138 [.ad (qj S B V) 0]],[.fn 139 [.ad (qj S B V) 0]],[.fn 140 [.ad (qj S B V) 0]]]
theorem iY(S:List Int)(B:List Bool)(V:List (List Int))(q:vA)(h:ir S B V q):tJ Tryz.prog 67 [.agg (qj S B V),.agg (qk q)] 3 1 (wh S B V q) xL:=by
 obtain⟨k,c⟩:=q
 obtain⟨hc,hk,hl⟩:=h
 simp only at hc hk
 obtain⟨j,rfl⟩:=Int.eq_ofNat_of_zero_le hc
 rcases hk with⟨rfl,hk⟩|⟨rfl,hk⟩|⟨rfl,hk⟩
 ·obtain⟨x,hx⟩:=zz (l:=S) (i:=j) z6
  have hv:=RV S B V j x hx
  rw [show wh S B V (0,(j:Int))= [x] by simp [wh,hx]]
  have hq:(BC S B V)[0]?=some [.fn 138 [.ad (qj S B V) 0]]:=rfl
  refine zy.of pg VE Tryz.func67 rfl Tryz.ntmps67 Tryz.results67 rfl λh0 G0 O0=>?_
  (repeat'(first|(show CA _ _ (Code.region 1 _ _) _ _;apply z_.out)|apply Sp.h|refine Lk.r rfl ?_|refine Rf.mk rfl ?_|apply yc.mk|intro _));any_goals apply z_.mk
  refine CA.xt 2 rfl z1 ?_
  repeat'(first|apply Sp.h|refine Lk.r rfl ?_|refine Rf.mk rfl ?_|refine yu.r rfl ?_|apply yc.mk|refine xU ?_|refine xT ?_|refine xI ?_|refine xJ ?_|(apply Fk.r;focus repeat' first|infer_instance|constructor)|refine Rf.mk ⟨rfl,rfl,rfl⟩ ?_|refine xD ?_|intro _)
  (refine Cl.use (hv) (by repeat'(first|exact y3.nil|apply y3.yB|fail)) .nil rfl ?_;rintro _ _ ⟨_,rfl,rfl⟩)
  repeat'(first|apply Sp.h|refine Lk.r rfl ?_|refine yu.r rfl ?_|refine xN ?_|fail)
  exact⟨_,_,.one (.same (.z)),_,rfl,rfl⟩
 ·obtain⟨x,hx⟩:=zz (l:=B) (i:=j) z6
  have hv:=RU S B V j x hx
  rw [show wh S B V (1,(j:Int))= [if x then 1 else 0] by simp [wh,hx]]
  have hq:(BC S B V)[1]?=some [.fn 139 [.ad (qj S B V) 0]]:=rfl
  refine zy.of pg VE Tryz.func67 rfl Tryz.ntmps67 Tryz.results67 rfl λh0 G0 O0=>?_
  (repeat'(first|(show CA _ _ (Code.region 1 _ _) _ _;apply z_.out)|apply Sp.h|refine Lk.r rfl ?_|refine Rf.mk rfl ?_|apply yc.mk|intro _));any_goals apply z_.mk
  refine CA.xt 2 rfl z1 ?_
  repeat'(first|apply Sp.h|refine Lk.r rfl ?_|refine Rf.mk rfl ?_|refine yu.r rfl ?_|apply yc.mk|refine xU ?_|refine xT ?_|refine xI ?_|refine xJ ?_|(apply Fk.r;focus repeat' first|infer_instance|constructor)|refine Rf.mk ⟨rfl,rfl,rfl⟩ ?_|refine xD ?_|intro _)
  (refine Cl.use (hv) (by repeat'(first|exact y3.nil|apply y3.yB|fail)) .nil rfl ?_;rintro _ _ ⟨_,rfl,rfl⟩)
  repeat'(first|apply Sp.h|refine Lk.r rfl ?_|refine yu.r rfl ?_|refine xN ?_|fail)
  exact⟨_,_,.one (.same (.z)),_,rfl,rfl⟩
 ·obtain⟨x,hx⟩:=zz (l:=V) (i:=j) z6
  have hv:=RT S B V j x hx (hl x (zM hx))
  rw [show wh S B V (2,(j:Int))=x by simp [wh,hx]]
  have hq:(BC S B V)[2]?=some [.fn 140 [.ad (qj S B V) 0]]:=rfl
  refine zy.of pg VE Tryz.func67 rfl Tryz.ntmps67 Tryz.results67 rfl λh0 G0 O0=>?_
  (repeat'(first|(show CA _ _ (Code.region 1 _ _) _ _;apply z_.out)|apply Sp.h|refine Lk.r rfl ?_|refine Rf.mk rfl ?_|apply yc.mk|intro _));any_goals apply z_.mk
  refine CA.xt 2 rfl z1 ?_
  repeat'(first|apply Sp.h|refine Lk.r rfl ?_|refine Rf.mk rfl ?_|refine yu.r rfl ?_|apply yc.mk|refine xU ?_|refine xT ?_|refine xI ?_|refine xJ ?_|(apply Fk.r;focus repeat' first|infer_instance|constructor)|refine Rf.mk ⟨rfl,rfl,rfl⟩ ?_|refine xD ?_|intro _)
  (refine Cl.use (hv) (by repeat'(first|exact y3.nil|apply y3.yB|fail)) .nil rfl ?_;rintro _ _ ⟨_,rfl,rfl⟩)
  repeat'(first|apply Sp.h|refine Lk.r rfl ?_|refine yu.r rfl ?_|refine xN ?_|fail)
  exact⟨_,_,.one (.same (.z)),_,rfl,rfl⟩
end Go.Proofs.YtmjllbjfkafhdaaGreatDoor
set_option maxRecDepth 100000
set_option maxHeartbeats 80000000
namespace Go.Proofs.YtmjllbjfkafhdaaGreatDoor
open Go Go.CF
/-! ### The model -/
def tC:ym:=⟨⟨#[99]⟩,1,[],0,9,0⟩
def wG:y8:=⟨[],[tC],[⟨#[99]⟩],[⟨0,0,⟨[(0,-1)],0⟩,0,0⟩,⟨0,0,⟨[(0,1)],9⟩,0,0⟩],[⟨⟨#[111]⟩,false,[]⟩,⟨⟨#[112]⟩,false,[]⟩],[⟨0,[],⟨[(0,2)],[],[]⟩⟩,⟨1,[],⟨[(0,-1)],[],[]⟩⟩],[]⟩
theorem fU:yw wG= []:=by simp [yw,tM,wG,yi,tC]
theorem fT:xk wG=1:=by simp [xk,sN,wG,yi,jM,wD,tC]
theorem Yv:xS wG.y9 wG.tables:=by
 refine⟨by simp [wG],λx hx=>by simp [wG] at hx,by simp [wG],λt ht=>?_⟩
 simp only [wG,List.mem_cons,List.not_mem_nil,or_false] at ht
 subst ht
 simp [VT,uO,Sound,wG,tC]
theorem Ut:nR wG:=by
 refine⟨Yv,by simp [wG],by simp [wG],λa ha=>?_,by rw [fT];decide,by rw [fU];decide⟩
 simp only [wG,List.mem_cons,List.not_mem_nil,or_false] at ha
 rcases ha with rfl|rfl
 all_goals
  refine⟨by simp,by simp,by simp,λp hp=>?_,λp hp=>by simp at hp⟩
  simp only [List.mem_cons,List.not_mem_nil,or_false] at hp
  subst hp
  rw [fT];decide
/-! ### Two events -/
def ca:yo:=⟨0,1,1,[0,0],0,0,0,0,0,0,0,0,1⟩
def cb:yo:=⟨1,1,1,[0,0],0,1,0,0,0,0,0,0,1⟩
theorem gW(a b:Int)(ha:0<=a/\a<=1024)(hb:0<=b/\b<=1024):vY [a,b]:=⟨λx hx=>by
 simp only [List.mem_cons,List.not_mem_nil,or_false] at hx
 unfold tg
 omega,by simp,by simp⟩
theorem Lz:we ca:=⟨gW 0 0 zf zf,by decide,⟨0,rfl,rfl⟩,by decide,by unfold pV ca;decide,.inl ⟨rfl,by unfold kO pV ca;decide,by unfold fc ca;decide⟩⟩
theorem Ly:we cb:=⟨gW 0 0 zf zf,by decide,⟨0,rfl,rfl⟩,by decide,by unfold pV cb;decide,.inl ⟨rfl,by unfold kO pV cb;decide,by unfold fc cb;decide⟩⟩
theorem jq:dt wG [3] [ca,cb]:=by
 have hc:ta [ca,cb]:=by
  refine⟨by simp,λi j a b hi hj pz=>?_,λe he=>?_,λe he r n hr i h1 h2=>?_⟩
  ·match i,j with
   | 0,0=>rfl
   | 1,1=>rfl
   | 0,1=>simp at hi hj;subst hi;subst hj;simp [nm,ca,cb] at pz
   | 1,0=>simp at hi hj;subst hi;subst hj;simp [nm,ca,cb] at pz
   | i+2,_=>simp at hi
   | 0,j+2=>simp at hj
   | 1,j+2=>simp at hj
  ·simp only [List.mem_cons,List.not_mem_nil,or_false] at he
   rcases he with rfl|rfl
   ·exact⟨Lz,rfl⟩
   ·exact⟨Ly,rfl⟩
  ·exfalso
   simp only [List.mem_cons,List.not_mem_nil,or_false] at he
   have hn:n=0:=by
    rcases he with rfl|rfl
    all_goals
     have:=zM hr
     simp [ca,cb] at this
     exact this
   omega
 refine⟨⟨Ut,⟨by simp,λe he=>?_⟩,hc,λa ha u hu i t _ ht=>?_,λe he=>?_⟩,by simp,by rw [fT];rfl,by simp,λa ha p hp=>?_⟩
 ·simp only [List.mem_cons,List.not_mem_nil,or_false] at he
  rcases he with rfl|rfl <;> simp [ca,cb]
 ·rw [fU] at ht;simp at ht
 ·simp only [List.mem_cons,List.not_mem_nil,or_false] at he
  rcases he with rfl|rfl
  ·exact⟨Lz,rfl,λ_=>by decide⟩
  ·exact⟨Ly,rfl,λ_=>by decide⟩
 ·simp only [wG,List.mem_cons,List.not_mem_nil,or_false] at ha
  rcases ha with rfl|rfl <;> (simp at hp;subst hp;decide)
theorem YE:RP [ca,cb] [ca,cb]:=by
 have yD:∀e,e=ca∨e=cb->∀d:yo,¬x9 e.yj d.rep d.num:=λe he d ⟨_,_,h1,x,hx,h2⟩=>by
  have h3:e.yj= [0,0]:=by rcases he with rfl|rfl <;> rfl
  rw [h3] at hx
  have:=zM hx
  simp at this
  omega
 refine⟨λe he=>he,λi e he=>⟨?_,λd hd hh=>absurd hh (yD e (by have:=zM he;simpa using this) d)⟩⟩
 match i with
 | 0=>simp
 | 1=>simp at he;subst he;simp [ca,cb]
 | i+2=>simp at he
theorem Du:yA wG [] (y_ wG 2 [3] []) ca=(0,y_ wG 2 [3] [ca]):=(cc jq zd YE 0 zd).2 ca rfl
theorem Dt:yA wG [ca] (y_ wG 2 [3] [ca]) cb=(0,y_ wG 2 [3] [ca,cb]):=(cc jq zd YE 1 zd).2 cb rfl
theorem U2:(y_ wG 2 [3] [ca,cb]).clock= [1,1]/\(y_ wG 2 [3] [ca,cb]).state= [4]:=by
 exact⟨rfl,rfl⟩
theorem Mr(x y:Int)(hx:0<=x/\x<=1024)(hy:0<=y/\y<=1024):(x9 [x,y] 0 1↔1<=x)/\(x9 [x,y] 1 1↔1<=y) :=
 ⟨⟨λ⟨_,_,_,z,h1,h2⟩=>by simp at h1;omega,λh=>⟨gW x y hx hy,by decide,by decide,x,rfl,h⟩⟩,⟨λ⟨_,_,_,z,h1,h2⟩=>by simp at h1;omega,λh=>⟨gW x y hx hy,by decide,by decide,y,rfl,h⟩⟩⟩
theorem ZJ{a b c d:Int}(h1:a<=c)(h2:b<=d):Ins [a,b] [c,d]:=λi x y hx hy=>by
 match i with
 | 0=>simp at hx hy;omega
 | 1=>simp at hx hy;omega
 | i+2=>simp at hx
theorem Ds :∃B N,xi wG ⟨y_ wG 2 [3] [],[ca,cb],y_ wG 2 [3] [ca,cb]⟩ [1,0]=(0,⟨B,[cb],N⟩)/\B.state= [5]/\eC B/\N.clock= [1,1]:=by
 have hb:(y_ wG 2 [3] []).clock= [0,0]:=rfl
 obtain⟨h1,h2⟩:=Mr 1 0 zf zf
 have e1:uP [1,0] [ca,cb]= [ca]:=by
  have a1:x9 [1,0] ca.rep ca.num:=h1.2 zf
  have a2:¬x9 [1,0] cb.rep cb.num:=λh=>absurd (h2.1 h) zf
  simp [uP,a1,a2]
 have e2:vN [1,0] [ca,cb]= [cb]:=by
  have a1:x9 [1,0] ca.rep ca.num:=h1.2 zf
  have a2:¬x9 [1,0] cb.rep cb.num:=λh=>absurd (h2.1 h) zf
  simp [vN,a1,a2]
 refine⟨qo wG (y_ wG 2 [3] []) [1,0] [ca,cb],{ y_ wG 2 [3] [ca,cb] with merged:= [cb].foldl (um wG) (qo wG (y_ wG 2 [3] []) [1,0] [ca,cb]).merged }, ?_, ?_, ?_,U2.1⟩
 ·have q1:vY [1,0]/\([1,0]:List Int).length=(y_ wG 2 [3] [ca,cb]).clock.length:=⟨gW 1 0 zf zf,rfl⟩
  have q2:Ins (y_ wG 2 [3] []).clock [1,0]/\Ins [1,0] (y_ wG 2 [3] [ca,cb]).clock/\∀e∈ [ca,cb],x9 [1,0] e.rep e.num->Ins e.yj [1,0]:=by
   refine⟨by rw [hb];exact ZJ zf zf,by rw [U2.1];exact ZJ zf zf,λe he _=>?_⟩
   simp only [List.mem_cons,List.not_mem_nil,or_false] at he
   rcases he with rfl|rfl <;> exact ZJ zf zf
  refine(@if_neg _ (zC _) (λh9=>h9 q1) _ _ _).trans ((@if_neg _ (zC _) (λh9=>h9 q2) _ _ _).trans ?_)
  simp only [e2]
 ·rw [qo,e1];rfl
 ·rw [qo,e1]
  have u4:Re (um wG (y_ wG 2 [3] []).merged ca):=lY (by
   simp only [y_,List.foldl_nil,fU]
   exact⟨by simp,by simp⟩)
  exact⟨by simp,by simp only [List.foldl_cons,List.foldl_nil,qp,nH];simp [y_],u4.1,u4.2,by simp only [List.foldl_cons,List.foldl_nil,qp];simp [y_,lv,ca]⟩
theorem Q4(X:List yo)(hX:∀e∈X,e∈ [ca,cb])(hl:X.length<=1000):iS wG (y_ wG 2 [3] X):=J7 jq hX hl
theorem Z1{m:y8}{l:List yo}{i:Nat}{e:yo}(h:l[i]?=some e)(s:List Int):(l.take (i+1)).foldl (xY m) s=xY m ((l.take i).foldl (xY m) s) e:=by
 rw [zK,h,Option.toList_some,List.foldl_append];rfl
theorem Z4(p:yo->Bool) :∀l:List yo,(l.filter p).length+(l.filter λe=> !p e).length=l.length:=by
 intro l
 induction l with
 | nil=>rfl
 | cons e l ih=>by_cases h:p e <;> simp [h] <;> omega
theorem UN{m:y8}{k:List xp}(h:Re k) :∀X:List yo,Re (X.foldl (um m) k):=by
 intro X
 induction X generalizing k with
 | nil=>exact h
 | cons e X ih=>rw [List.foldl_cons];exact ih (lY h)
theorem Y0{m:y8}(hm:nR m)(n:Nat)(ld:List Int)(X:List yo):Re (y_ m n ld X).merged:=by
 refine UN ⟨by rw [zR];have:=hm.Sq;omega,λg hg=>?_⟩ X
 rw [(List.mem_replicate.1 hg).2];exact zZ _
structure kD where
 c:List Int
 w:Value
def bY(x:kD):List AV:= [.ow x.w]
abbrev bX (x:kD):yh:=yb x.w 3 1 x.c xL
def eQ(v:Value)(L:List kD):List yh:= [yb v 22 1 L bY,u9 (L.map bX)]
theorem TF{v:Value}{L:List kD} :∀R∈eQ v L,vS R:=λR hR=>by
 rcases List.mem_cons.1 hR with rfl|hR
 ·exact vS.arr λx _=> .cons (.ow _) .nil
 ·rw [zH.1 hR]
  refine vS.HH λR hR=>?_
  obtain⟨x,_,rfl⟩:=List.mem_map.1 hR
  exact gC
theorem P5{l:List Int} :∀(r:AV) (own:List yh),(∃u,r= .ow u/\own= [yb u 3 1 l xL])->s7 r/\∀R∈own,vS R:=by
 rintro _ _ ⟨u,rfl,rfl⟩
 exact⟨s7.ow _,λR hR=>by rw [zH.1 hR];exact gC⟩
def L4(code:Int)(rows:List (List Int))(r:AV)(own:List yh):Prop :=
 (code≠0/\r= .yE [tz,it code]/\own= [])∨(code=0/\∃v L,r= .yE [.ow v,it 0]/\own=eQ v L/\L.map kD.c=rows)
noncomputable def cX(m:y8)(b:yt)(l:List yo)(w:yt)(c:List Int)(qs:List vA):Int:=if sE m qs then wu b.clock l w.clock c else 1
noncomputable def r6(m:y8)(b:yt)(l:List yo)(c:List Int)(qs:List vA):List (List Int):=qs.map (wh (yU m b l c) (w_ m (yU m b l c)) (vz m b l c))
structure oU (m:y8) (b:yt) (l:List yo) (c:List Int):Prop where
 n:(vz m b l c).length=(yw m).length
 r:∀x∈vz m b l c,x.length<=100000
theorem dN{m:y8}(hm:xS m.y9 m.tables):((yw m).length:Int)=xZ m.y9 false m.tables:=by
 have key:∀l:List ym,(∀t∈l,t∈m.tables)->((tM m l).length:Int)=xZ m.y9 false l:=by
  intro l
  induction l with
  | nil=>intro _;rfl
  | cons t l ih =>
   intro h
   have ih:=ih λt ht=>h t (by simp [ht])
   have hc:=(hm.2.2.2 t (h t zd)).1
   have h1:=(sX hc).1
   unfold tM xZ at ih ⊢
   simp only [List.map_cons,List.sum_cons,List.flatMap_cons,zP]
   rw [<-ih]
   by_cases hs:yi t.kind
   ·rw [if_pos hs,if_neg (by simp [hs])];simp
   ·rw [if_neg hs,if_pos (by simp [hs]),wF,if_pos hc,zR];omega
 exact key m.tables λ_ h=>h
theorem VC{m:y8}(hx:xR m):(wB m true).length=xk m:=by
 rw [wB,if_pos hx];exact qK hx.lay
theorem M5{m:y8}(hx:xR m):(wB m false).length=(yw m).length:=by
 have h1:=dN hx.lay.ok
 have h2:=qM m.y9 false m.tables
 rw [wB,if_pos hx,sr,if_pos hx.lay];omega
theorem ZV{m:y8}{b:yt}{l:List yo}{c:List Int}(hx:xR m)(hb:b.state.length=xk m)(hs:oU m b l c){q:vA}(hq:t_ (wB m true).length (wB m false).length q):ir (yU m b l c) (w_ m (yU m b l c)) (vz m b l c) q:=by
 obtain⟨h1,h2⟩:=hq
 rw [VC hx,M5 hx] at h2
 have qZ:(yU m b l c).length=xk m:=by rw [yU,tY,hb]
 have PS:(w_ m (yU m b l c)).length=xk m:=by simp [w_,qZ]
 refine⟨h1, ?_,hs.r⟩
 unfold qE at h2
 rw [qZ,PS,hs.n]
 by_cases h0:q.1=0∨q.1=1
 ·rw [if_pos h0] at h2
  rcases h0 with h0|h0
  ·exact .inl ⟨h0,h2⟩
  ·exact .inr (.inl ⟨h0,h2⟩)
 ·rw [if_neg h0] at h2
  by_cases h3:q.1=2
  ·rw [if_pos h3] at h2
   exact .inr (.inr ⟨h3,h2⟩)
  ·rw [if_neg h3] at h2;omega
theorem Y3(m:y8)(b:yt)(l:List yo)(w:yt)(c:List Int)(qs:List vA)(h:fu b l w)(hm:nR m)(vL:xl m)(hb:b.state.length=xk m)(rB:∀e∈l,rE m (w.clock.length:Nat) e)(SB:xR m->oU m b l c)(gP:qs.length<=1000000) :
  yJ Tryz.prog 16 [wH m,.ad (sO m b l w) 0,ints c,uI qs] [] (L4 (cX m b l w c qs) (r6 m b l c qs)):=by
 have wU:m.ops.length<=1000000000:=by have:=hm.ops;omega
 have hv:=nv m qs wU vL
 have lz:=rh m b l w c h
 by_cases hq:sE m qs
 rotate_left
 ·rw [cX,if_neg hq]
  rw [zF hq] at hv
  refine yJ.of pg ye Tryz.func16 rfl Tryz.ntmps16 Tryz.results16 rfl λh0 G0 O0 ga=>?_
  repeat'(first|apply Sp.h|refine Lk.r rfl ?_|refine Rf.mk rfl ?_|refine xB ?_|refine yc.mk λ_=>?_|refine xT ?_|refine Ch.l ⟨rfl,rfl⟩ ?_|refine xN ?_|(apply Cl.pG (hv);{exact ga};focus(repeat' constructor);done))
  exact⟨_,_,.yE (.same (.same (.z))),.inl ⟨by decide,rfl,rfl⟩⟩
 rw [cX,if_pos hq]
 rw [zT hq] at hv
 by_cases bJ:wu b.clock l w.clock c=0
 rotate_left
 ·refine yJ.of pg ye Tryz.func16 rfl Tryz.ntmps16 Tryz.results16 rfl λh0 G0 O0 ga=>?_
  repeat'(first|apply Sp.h|refine Lk.r rfl ?_|refine Rf.mk rfl ?_|refine xA ?_|refine xB ?_|refine yc.mk λ_=>?_|refine xT ?_|refine Ch.l ⟨rfl,rfl⟩ ?_|refine xN ?_|(apply Cl.pG (hv);{exact ga};focus(repeat' constructor);done)|(apply Cl.p (lz);focus(repeat' constructor);done))
  ·exact⟨_,_,.yE (.same (.same (.z))),.inl ⟨bJ,rfl,rfl⟩⟩
  all_goals exact absurd z6 bJ
 have S_:=fK m b l w c h hm hq.1 wU vL hb rB
 have SB:=SB hq.1
 have YI:=λq (G8:q∈qs)=>ZV hq.1 hb SB (hq.2 q G8)
 rw [bJ] at lz ⊢
 unfold r6
 generalize yU m b l c=S at S_ YI ⊢
 generalize vz m b l c=V at S_ YI ⊢
 generalize w_ m S=B at S_ YI ⊢
 refine yJ.of pg ye Tryz.func16 rfl Tryz.ntmps16 Tryz.results16 rfl λh0 G0 O0 ga=>?_
 repeat'(first|apply Sp.h|refine Lk.r rfl ?_|refine Rf.mk rfl ?_|refine xA ?_|refine yc.mk λ_=>?_|refine xT ?_|refine Ch.l ⟨rfl,rfl⟩ ?_|(apply Cl.pG (hv);{exact ga};focus(repeat' constructor);done)|(apply Cl.p (lz);focus(repeat' constructor);done))
 all_goals try exact(by omega:False).elim
 repeat'(first|apply Sp.h|refine Lk.r rfl ?_|refine Rf.mk rfl ?_|refine Im.mk λ_=>?_|refine yc.mk λ_=>?_|refine xT ?_|(apply y4.r;focus repeat' constructor)|refine xN ?_|(apply Cl.pG (S_);{exact ga};focus(repeat' constructor);done))
 rename_i b11 _
 refine CA.uV 12 22 1 bY rfl λv=>?_
 apply CA.o9 bX
 refine CA.loop (λz:Nat×Value×List kD=>⟨[(11,pm b11),(12,.ow z.2.1),(29,uI qs),(30,it (qs.length:Nat)),(31,it z.1)],[yr b11 121 (qj S B V),yb z.2.1 22 1 z.2.2 bY,u9 (z.2.2.map bX)]⟩)
  (λz=>z.1<=qs.length/\z.2.2.map kD.c=(qs.take z.1).map (wh S B V)) (λz=>qs.length - z.1) (0,v,[]) xE ⟨zZ _,rfl⟩ ?_
 rintro⟨i,u,L⟩ ⟨hi,hL⟩
 simp only at hi hL
 simp only
 by_cases yd:i < qs.length
 ·obtain⟨q,PW⟩:=zz yd
  have SL:L.length=i:=by have:=congrArg List.length hL;simp at this;omega
  have qx:=iY S B V q (YI q (zM PW))
  have xe:(qs.take (i+1)).map (wh S B V)=(qs.take i).map (wh S B V) ++ [wh S B V q]:=by rw [zK,PW];simp
  repeat'(first|apply Sp.h|refine Lk.r rfl ?_|refine Rf.mk rfl ?_|refine xA ?_|apply yc.mk|refine xT ?_|refine xI ?_|refine Ch.l ⟨rfl,rfl⟩ ?_|(apply y4.r;focus repeat' constructor)|refine xN ?_|intro _)
  (refine Cl.use (qx) (by repeat'(first|exact y3.nil|apply y3.yB|fail)) .nil rfl ?_;rintro _ _ ⟨_,rfl,rfl⟩)
  rename_i x
  have inv:Inv bY [.ow x] ⟨wh S B V q,x⟩:=⟨rfl⟩
  (repeat'(first|(show CA _ _ (Code.region 12 _ _) _ _;apply z_.out)|apply Sp.h|refine Lk.r rfl ?_|refine Rf.mk rfl ?_|refine xP ?_|apply yc.mk|refine xU ?_|refine Ce.r ?_|(apply Fk.r;focus repeat' first|infer_instance|constructor)|refine Rf.mk ⟨rfl,rfl⟩ ?_|refine Rf.mk ⟨rfl,rfl,rfl⟩ ?_|(apply Mp.lit;(focus repeat(first|exact yK.nil|(apply yK.cons;{exact zu})|(apply yK.inv;{exact z1};{exact zh}))))|intro _));any_goals apply z_.mk
  apply CA.tU (l:=L) (g:=bX) (x:=⟨wh S B V q,x⟩)
  focus(repeat constructor)
  focus(repeat constructor)
  repeat'(first|apply Sp.h|refine Lk.r rfl ?_|refine Rf.mk rfl ?_|refine xO ?_|fail)
  exact PA.lp (i+1,_,L ++ [⟨wh S B V q,x⟩]) xE ⟨⟨yd,by simp only;rw [List.map_append,hL,xe];rfl⟩,by simp only;omega⟩
 ·have:i=qs.length:=z6
  subst this
  rw [zL] at hL
  repeat'(first|apply Sp.h|refine Lk.r rfl ?_|refine Rf.mk rfl ?_|refine xB ?_|refine xN ?_|fail)
  exact⟨_,_,.yE (.same (.same (.z))),.inr ⟨rfl,u,L,rfl,rfl,hL⟩⟩
end Go.Proofs.YtmjllbjfkafhdaaGreatDoor
namespace Go.CF
open Go
theorem Cl.Ui{Γ:Cx}{c:xa}{o:List yh}{f:FuncId}{yM tK:List AV}{K:AV->List yh->Prop}{M:AV->List yh->Prop}(hc:yJ Γ.P f tK [] K)(ga:eZ Γ.P Γ.h0 Γ.G0 Γ.O0)(hl:y3 o yM tK)(hK:∀r own,K r own->s7 r/\∀R∈own,vS R)(hm:∀r own,K r own->M r (own ++ o)):Cl Γ c f yM o M:=by
 refine⟨λ{h G Os vs} hp hr=>?_⟩
 have yd:yF h (λb=>G b∨U Os b) (U []) [] h (λb=>G b∨U Os b) [] :=
  ⟨trivial,λb hb=>⟨hb.elim (λh9=>(hp.g b h9).1) (λ⟨O,hO,h9⟩=>(hp.o O hO b h9).1),.inl hb⟩,λ_ h=>h,λO hO=>(by cases hO),List.Pairwise.nil,uo.refl h⟩
 refine(hc.run h _ [] vs (hl.rep hp.own hr) yd ((ga _ _ _ _ hp).mono (uo.refl h) λ_=> .inl)).mono λv h' ⟨r',wE,G',yz,hk,g3,g4⟩=>?_
 obtain⟨f1,f2⟩:=hK _ _ hk
 have yL:tc ([]:List Nat) h h':=⟨g4.fp.size,λb hb _=>g4.fp.same b (λ⟨O,hO,_⟩=>by cases hO) hb⟩
 have hx:∀S,uo S h h':=λS=>⟨yL.size,λb _ hb=>yL.same b hb zd⟩
 have hs:=hp.fp.size
 have px:=yL.size
 have vV:∀O∈yz,∀b,O b->h.size<=b:=λO hO b hb=>by
  rcases(g4.o O hO b hb).2.1 with⟨O2,Bs,_⟩|h9
  ·cases Bs
  ·exact h9
 refine⟨.inr yL,r',wE ++ o,G,yz ++ Os,hm _ _ hk,f1.h g3,⟨(vS.own f2 g4.own).app (xy.wm (λO _=>hx _) hp.own),λb hb=>⟨by have:=(hp.g b hb).1;omega,(hp.g b hb).2.imp id λq=>⟨q.1,q.2.eq (yL.same b (hp.g b hb).1 zd)⟩⟩,hp.g0,λO hO b hb=>?_,List.pairwise_append.2 ⟨g4.d,hp.d,λA hA B hB b ha hb=>?_⟩,⟨z6,λb hb hl=>?_⟩⟩,hx G,λ_ h=>h⟩
 ·rcases zV.1 hO with hO|hO
  ·have:=vV O hO b hb
   exact⟨(g4.o O hO b hb).1,.inr z6,λhg=>by have:=(hp.g b hg).1;omega⟩
  ·exact⟨by have:=(hp.o O hO b hb).1;omega,(hp.o O hO b hb).2⟩
 ·have:=vV A hA b ha
  have:=(hp.o B hB b hb).1
  omega
 ·rw [yL.same b z6 zd]
  exact hp.fp.same b hb hl
end Go.CF
namespace Go.Proofs.YtmjllbjfkafhdaaGreatDoor
open Go Go.CF
def NwK(code:Int)(rows:List (List Int))(wc:List Int)(r:AV)(own:List yh):Prop :=
 (code≠0/\r= .yE [tz,tz,it code]/\own= [])∨(code=0/\∃v L u,r= .yE [.ow v,.ow u,it 0]/\own=eQ v L ++ [yb u 3 1 wc xL]/\L.map kD.c=rows)
theorem Yr{code:Int}{rows:List (List Int)} :∀(r:AV) (own:List yh),L4 code rows r own->s7 r/\∀R∈own,vS R:=by
 rintro r own (⟨_,rfl,rfl⟩|⟨_,v,L,rfl,rfl,_⟩)
 ·exact⟨s7.yE (.cons (.val _) (.cons (.val _) .nil)),λR hR=>by cases hR⟩
 ·exact⟨s7.yE (.cons (.ow _) (.cons (.val _) .nil)),TF⟩
theorem av{v:Value}{L:List kD}(hl:L.length<=1000000)(hm:∀x∈L,x.c.length<=1000000){l l':List AV}{o own:List yh}(ht:FX o l l' own):FX (eQ v L ++ o) (.ow v :: l) (vW (L.map kD.c) :: l') own:=by
 refine .sl .here z6 (.PJ .here ?_) ht
 refine FX.rows (o:=o) (r:=bX) (f:=bY) (g:=kI) (φ:=kD.c) L λx hx o'=>?_
 have:=hm x hx
 exact .sl .here z6 (FX.refl _) (FX.refl _)
theorem J9(m:y8)(b:yt)(l:List yo)(w:yt)(qs:List vA)(h:fu b l w)(hm:nR m)(vL:xl m)(hb:b.state.length=xk m)(rB:∀e∈l,rE m (w.clock.length:Nat) e)(SB:xR m->oU m b l w.clock)(gP:qs.length<=1000000) :
  yJ Tryz.prog 18 [wH m,.ad (sO m b l w) 0,uI qs] [] (NwK (cX m b l w w.clock qs) (r6 m b l w.clock qs) w.clock):=by
 have wU:m.ops.length<=1000000000:=by have:=hm.ops;omega
 have hv:=nv m qs wU vL
 have ue:=dH m b w l h.ck
 have YN:=Y3 m b l w w.clock qs h hm vL hb rB SB gP
 have z4s:=h.ck
 by_cases hq:sE m qs
 rotate_left
 ·rw [cX,if_neg hq]
  rw [zF hq] at hv
  refine yJ.of pg ye Tryz.func18 rfl Tryz.ntmps18 Tryz.results18 rfl λh0 G0 O0 ga=>?_
  repeat'(first|apply Sp.h|refine Lk.r rfl ?_|refine Rf.mk rfl ?_|refine xB ?_|refine yc.mk λ_=>?_|refine xT ?_|refine Ch.l ⟨rfl,rfl⟩ ?_|refine xN ?_|(apply Cl.pG (hv);{exact ga};focus(repeat' constructor);done))
  exact⟨_,_,.yE (.same (.same (.same (.z)))),.inl ⟨by decide,rfl,rfl⟩⟩
 rw [zT hq] at hv
 generalize r6 m b l w.clock qs=rows at YN ⊢
 generalize cX m b l w w.clock qs=code at YN ⊢
 refine yJ.of pg ye Tryz.func18 rfl Tryz.ntmps18 Tryz.results18 rfl λh0 G0 O0 ga=>?_
 repeat'(first|apply Sp.h|refine Lk.r rfl ?_|refine Rf.mk rfl ?_|refine xA ?_|refine yc.mk λ_=>?_|refine xT ?_|refine Ch.l ⟨rfl,rfl⟩ ?_|(apply Cl.pG (hv);{exact ga};focus(repeat' constructor);done))
 all_goals try exact(by assumption:False).elim
 (refine Cl.use (ue) (by repeat'(first|exact y3.nil|apply y3.yB|fail)) .nil rfl ?_;rintro _ _ ⟨_,rfl,rfl⟩)
 repeat'(first|apply Sp.h|refine Lk.r rfl ?_|refine Rf.mk rfl ?_|refine xT ?_|refine Ch.l ⟨rfl,rfl⟩ ?_|fail)
 refine Cl.Ui YN ga (by repeat'(first|exact y3.nil|apply y3.yB|(apply y3.yY;{exact z1};{exact zc})|fail)) Yr ?_
 rintro _ _ (⟨vB,rfl,rfl⟩|⟨rfl,v,L,rfl,rfl,hL⟩)
 ·repeat'(first|apply Sp.h|refine Lk.r rfl ?_|refine Rf.mk rfl ?_|refine xB ?_|refine xN ?_|fail)
  ·exact⟨_,_,.yE (.same (.same (.same (.z)))),.inl ⟨vB,rfl,rfl⟩⟩
  all_goals exact absurd z6 vB
 ·repeat'(first|apply Sp.h|refine Lk.r rfl ?_|refine Rf.mk rfl ?_|refine xA ?_|refine xN ?_|fail)
  all_goals try exact(by omega:False).elim
  exact⟨_,_,.yE (.same (.same (.same (.z)))),.inr ⟨rfl,v,L,_,rfl,rfl,hL⟩⟩
structure iw where
 m:y8
 b:yt
 l:List yo
 w:yt
def H9:Option iw->List AV
 | none=> [.val (.pointer none)]
 | some s=> [.ad (sO s.m s.b s.l s.w) 0]
instance:Inhabited iw:=⟨⟨⟨[],[],[],[],[],[],[]⟩,⟨[],0,[],[],[]⟩,[],⟨[],0,[],[],[]⟩⟩⟩
def vp(L:List (Option iw)):List (List Int):=L.map λs=>(s.getD default).w.clock
def aA(L:List (Option iw))(c:List Int):Prop:=∃s,some s∈L/\¬tO c s.b.clock
noncomputable instance (L:List (Option iw)) (c:List Int):Decidable (aA L c):=zC _
noncomputable instance (L:List (Option iw)):Decidable (none∈L∨¬w9 (vp L)):=zC _
noncomputable def fq(L:List (Option iw)):Int :=
 if none∈L∨¬w9 (vp L) then 1 else if aA L (z1q min (vp L)) then 7 else 0
def z0x(code:Int)(c:List Int)(r:AV)(own:List yh):Prop :=
 (code≠0/\r= .yE [tz,it code]/\own= [])∨(code=0/\∃u,r= .yE [.ow u,it 0]/\own= [yb u 3 1 c xL])
theorem XK(L:List (Option iw))(hL:L.length<=1000000)(h:∀s,some s∈L->fu s.b s.l s.w):zy Tryz.prog 39 [.sl 1 L H9] [] (z0x (fq L) (z1q min (vp L))):=by
 refine zy.of pg ye Tryz.func39 rfl Tryz.ntmps39 Tryz.results39 rfl λh0 G0 O0=>?_
 repeat'(first|apply Sp.h|refine Lk.r rfl ?_|refine Rf.mk rfl ?_|apply Im.mk|intro _)
 refine CA.uV 4 22 1 kI rfl λv=>?_
 refine CA.loop (λz:Nat×Value=>⟨[(0,.sl 1 L H9),(4,.ow z.2),(10,.sl 1 L H9),(11,it (L.length:Nat)),(12,it z.1)],[yb z.2 22 1 (vp (L.take z.1)) kI]⟩)
  (λz=>z.1<=L.length/\∀j s,j < z.1->L[j]?=some s->s≠none) (λz=>L.length - z.1) (0,v) xE ⟨zZ _,λj s h=>by simp only at h;omega⟩ ?_
 rintro⟨i,u⟩ ⟨hi,yD⟩
 simp only at hi yD
 simp only
 by_cases yd:i < L.length
 ·obtain⟨s,hs⟩:=zz yd
  cases s with
  | none =>
   have hc:fq L=1:=by rw [fq,if_pos (.inl (zM hs))]
   rw [hc]
   repeat'(first|apply Sp.h|refine Lk.r rfl ?_|refine Rf.mk rfl ?_|refine xA ?_|refine xI ?_|refine xN ?_|fail)
   exact⟨_,_,.yE (.same (.same (.z))),.inl ⟨by decide,rfl,rfl⟩⟩
  | some s =>
   have gO:=h s (zM hs)
   have ue:=j8 s.m s.b s.w s.l gO.ck
   have qZ:(vp (L.take i)).length=i:=by simp [vp];omega
   have xe:vp (L.take (i+1))=vp (L.take i) ++ [s.w.clock]:=by rw [vp,zK,hs];simp [vp]
   repeat'(first|apply Sp.h|refine Lk.r rfl ?_|refine Rf.mk rfl ?_|refine xA ?_|refine xP ?_|refine yc.mk λ_=>?_|refine xU ?_|refine xI ?_|refine Ce.r ?_|(apply Fk.r;focus repeat' first|infer_instance|constructor)|refine Rf.mk ⟨rfl,rfl⟩ ?_|refine Rf.mk ⟨rfl,rfl,rfl⟩ ?_|(apply Mp.lit;(focus repeat(first|exact yK.nil|(apply yK.cons;{exact zu})|(apply yK.inv;{exact z1};{exact zh}))))|refine xO ?_|(apply Cl.p (ue);focus repeat' constructor))
   rw [<-xe]
   exact PA.lp (i+1,_) xE ⟨⟨yd,yg hs yD zd⟩,by simp only;omega⟩
 ·have:i=L.length:=z6
  subst this
  rw [zL]
  have jP:none ∉ L:=λhm=>by
   obtain⟨j,hj⟩:=zO hm
   exact yD j none (zS.1 hj).1 hj rfl
  have qZ:(vp L).length=L.length:=by simp [vp]
  by_cases rZ:w9 (vp L)
  rotate_left
  ·have hc:fq L=1:=by rw [fq,if_pos (.inr rZ)]
   have P_:=T9 (vp L) rZ
   rw [hc]
   repeat'(first|apply Sp.h|refine Lk.r rfl ?_|refine Rf.mk rfl ?_|refine xB ?_|fail)
   (apply Cl.yY (P_);(focus repeat'(first|exact y3.nil|(apply y3.yY;{exact z1};{exact zc})|fail)))
   repeat'(first|apply Sp.h|refine Lk.r rfl ?_|refine Rf.mk rfl ?_|refine xA ?_|refine xN ?_|fail)
   all_goals exact⟨_,_,.yE (.same (.same (.z))),.inl ⟨by decide,rfl,rfl⟩⟩
  have P_:=Ie (vp L) rZ
  have MW:0 < (z1q min (vp L)).length/\(z1q min (vp L)).length<=5:=by
   obtain⟨c0,bJ⟩:=zz rZ.1
   have h1:=rZ.2 c0 (zM bJ)
   have h2:=h1.1.2.1
   have h3:=h1.2
   have h4:=h1.1.2.2
   rw [TD rZ]
   omega
  have Bo:fq L=if aA L (z1q min (vp L)) then 7 else 0:=by
   rw [fq,if_neg (λh=>h.elim jP λh=>h rZ)]
  generalize hC:z1q min (vp L)=C at P_ MW Bo ⊢
  repeat'(first|apply Sp.h|refine Lk.r rfl ?_|refine Rf.mk rfl ?_|refine xB ?_|fail)
  refine Cl.Mg P_ (by repeat'(first|exact y3.nil|(apply y3.yY;{exact z1};{exact zc})|fail)) P5 ?_
  rintro _ _ ⟨q,rfl,rfl⟩
  repeat'(first|apply Sp.h|refine Lk.r rfl ?_|refine Rf.mk rfl ?_|refine xB ?_|apply Im.mk|refine xU ?_|intro _)
  all_goals try exact(by omega:False).elim
  refine CA.loop (λi:Nat=>⟨[(7,.ow q),(29,.sl 1 L H9),(30,it (L.length:Nat)),(31,it i)],[yb q 3 1 C xL]⟩)
   (λi=>i<=L.length/\∀j s,j < i->L[j]?=some s->∀q,s=some q->tO C q.b.clock) (λi=>L.length - i) 0 xE ⟨zZ _,λj s h=>z6⟩ ?_
  rintro i ⟨hi,YU⟩
  by_cases uU:i < L.length
  ·obtain⟨s,hs⟩:=zz uU
   cases s with
   | none=>exact absurd (zM hs) jP
   | some s =>
    have gO:=h s (zM hs)
    have kz:=lU s.m s.b s.l s.w gO.bs
    have YV:=sJ C s.b.clock
    by_cases rY:tO C s.b.clock
    ·rw [zT rY] at YV
     repeat'(first|apply Sp.h|refine Lk.r rfl ?_|refine Rf.mk rfl ?_|refine xA ?_|refine xI ?_|(apply Cl.p (kz);focus repeat' constructor))
     (apply Cl.yY (YV);(focus repeat'(first|exact y3.nil|apply y3.yB|(apply y3.yY;{exact z1};{exact zc})|fail)))
     repeat'(first|apply Sp.h|refine Lk.r rfl ?_|refine Rf.mk rfl ?_|refine xA ?_|refine xO ?_|fail)
     exact PA.lp (i+1) xE ⟨⟨uU,yg hs YU λq hq=>by cases hq;exact rY⟩,z6⟩
    ·rw [zF rY] at YV
     rw [Bo,if_pos ⟨s,zM hs,rY⟩]
     repeat'(first|apply Sp.h|refine Lk.r rfl ?_|refine Rf.mk rfl ?_|refine xA ?_|refine xI ?_|(apply Cl.p (kz);focus repeat' constructor))
     (apply Cl.yY (YV);(focus repeat'(first|exact y3.nil|apply y3.yB|(apply y3.yY;{exact z1};{exact zc})|fail)))
     repeat'(first|apply Sp.h|refine Lk.r rfl ?_|refine Rf.mk rfl ?_|refine xB ?_|refine xN ?_|fail)
     exact⟨_,_,.yE (.same (.same (.z))),.inl ⟨by decide,rfl,rfl⟩⟩
  ·have:i=L.length:=z6
   subst this
   rw [Bo,if_neg λ⟨s,hs,rY⟩=>by
    obtain⟨j,hj⟩:=zO hs
    exact rY (YU j _ (zS.1 hj).1 hj s rfl)]
   repeat'(first|apply Sp.h|refine Lk.r rfl ?_|refine Rf.mk rfl ?_|refine xB ?_|refine xN ?_|fail)
   exact⟨_,_,.yE (.same (.same (.z))),.inr ⟨rfl,_,rfl,rfl⟩⟩
instance {a b:Int}:Inv qk [it a,it b] (a,b):=⟨rfl⟩
theorem Y1(S:List Int)(B:List Bool)(V:List (List Int))(q:vA)(h:ir S B V q)(hl:(wh S B V q).length<=100000):y6 Tryz.prog 67 [.agg (qj S B V),.agg (qk q)] (ints (wh S B V q)):=zy.fz z6 (iY S B V q h)
theorem dz{S:List Int}{B:List Bool}{V:List (List Int)}(h:∀x∈V,x.length<=100000)(q:vA):(wh S B V q).length<=100000:=by
 unfold wh
 split
 ·simp
 ·split
  ·simp
  ·cases hx:V[q.2.toNat]? with
   | none=>simp
   | some x=>simpa using h x (zM hx)
def o0(S:List Int)(B:List Bool)(V:List (List Int))(S':List Int)(B':List Bool)(V':List (List Int))(k:Int)(n:Nat):List vA :=
 ((List.range n).filter λc:Nat=>decide (wh S B V (k,(c:Int))≠wh S' B' V' (k,(c:Int)))).map λc:Nat=>(k,(c:Int))
theorem gF(S:List Int)(B:List Bool)(V:List (List Int))(S':List Int)(B':List Bool)(V':List (List Int))(k:Int)(n:Nat):o0 S B V S' B' V' k (n+1)=o0 S B V S' B' V' k n ++ if wh S B V (k,(n:Int))=wh S' B' V' (k,(n:Int)) then [] else [(k,(n:Int))]:=by
 unfold o0
 rw [List.range_succ,List.filter_append,List.map_append]
 congr 1
 by_cases h:wh S B V (k,(n:Int))=wh S' B' V' (k,(n:Int)) <;> simp [h]
theorem nE{S:List Int}{B:List Bool}{V:List (List Int)}{S':List Int}{B':List Bool}{V':List (List Int)}{k:Int}{n:Nat}:(o0 S B V S' B' V' k n).length<=n:=by
 unfold o0
 rw [List.length_map]
 exact Nat.le_trans (List.length_filter_le _ _) zd
theorem mY(S:List Int)(B:List Bool)(V:List (List Int))(S':List Int)(B':List Bool)(V':List (List Int))(k:Int)(n b:Nat)(v:Value)(L:List vA)(hL:L.length<=1000)(hn:n<=1000)(h:∀c:Nat,c < n->ir S B V (k,(c:Int))/\ir S' B' V' (k,(c:Int))) :
  zy Tryz.prog 108 [it k,it n,.ad (qj S B V) 0,.ad (qj S' B' V') 0,pm b] [yr b 33 [.ow v],yb v 102 2 L qk] λr o=>r= .yE []/\∃v',o= [yr b 33 [.ow v'],yb v' 102 2 (L ++ o0 S B V S' B' V' k n) qk]:=by
 refine zy.of pg I8 Tryz.func108 rfl Tryz.ntmps108 Tryz.results108 rfl λh0 G0 O0=>?_
 repeat'(first|apply Sp.h|refine Lk.r rfl ?_|refine Rf.mk rfl ?_|fail)
 refine CA.loop (λz:Nat×Value=>⟨[(0,it k),(2,.ad (qj S B V) 0),(3,.ad (qj S' B' V') 0),(4,pm b),(9,it n),(10,it z.1)],[yr b 33 [.ow z.2],yb z.2 102 2 (L ++ o0 S B V S' B' V' k z.1) qk]⟩)
  (λz=>z.1<=n) (λz=>n - z.1) (0,v) ?_ (zZ _) ?_
 ·rw [show o0 S B V S' B' V' k 0= [] from rfl,List.append_nil]
  exact xE
 rintro⟨i,u⟩ hi
 simp only at hi
 simp only
 by_cases yd:i < n
 ·obtain⟨h1,h2⟩:=h i yd
  have WT:=dz (S:=S) (B:=B) h1.l (k,(i:Int))
  have ku:=dz (S:=S') (B:=B') h2.l (k,(i:Int))
  have Hf:=Y1 S B V (k,(i:Int)) h1 WT
  have YJ:=Y1 S' B' V' (k,(i:Int)) h2 ku
  have heq:=kg (wh S B V (k,(i:Int))) (wh S' B' V' (k,(i:Int)))
  have xe:=gF S B V S' B' V' k i
  have ue:=nE (S:=S) (B:=B) (V:=V) (S':=S') (B':=B') (V':=V') (k:=k) (n:=i)
  by_cases hd:wh S B V (k,(i:Int))=wh S' B' V' (k,(i:Int))
  ·rw [if_pos hd,List.append_nil] at xe
   rw [<-xe]
   rw [zT hd] at heq
   repeat'(first|apply Sp.h|refine Lk.r rfl ?_|refine Rf.mk rfl ?_|refine xA ?_|refine yu.r rfl ?_|refine yc.mk λ_=>?_|refine xT ?_|refine Ch.l ⟨rfl,rfl⟩ ?_|(apply y4.r;focus repeat' constructor)|(apply Fk.r;focus repeat' first|infer_instance|constructor)|refine xN ?_|refine xD ?_|refine xO ?_|(apply Cl.p (Hf);{exact ze})|(apply Cl.p (YJ);{exact ze})|(apply Cl.p (heq);{exact ze}))
   exact PA.lp (i+1,u) xE ⟨yd,by simp only;omega⟩
  ·rw [if_neg hd] at xe
   rw [zF hd] at heq
   repeat'(first|apply Sp.h|refine Lk.r rfl ?_|refine Rf.mk rfl ?_|refine xA ?_|refine xB ?_|refine yu.r rfl ?_|refine xP ?_|refine yc.mk λ_=>?_|refine xU ?_|refine xT ?_|refine Ce.r ?_|refine Ch.l ⟨rfl,rfl⟩ ?_|refine xV ?_|(apply y4.r;focus repeat' constructor)|(apply Fk.r;focus repeat' first|infer_instance|constructor)|refine xN ?_|refine Rf.mk ⟨rfl,rfl⟩ ?_|refine Rf.mk ⟨rfl,rfl,rfl⟩ ?_|(apply Mp.lit;(focus repeat(first|exact yK.nil|(apply yK.cons;{exact zu})|(apply yK.inv;{exact z1};{exact zh}))))|refine xD ?_|refine xO ?_|(apply Cl.p (Hf);{exact ze})|(apply Cl.p (YJ);{exact ze})|(apply Cl.p (heq);{exact ze}))
   rw [List.append_assoc,<-xe]
   exact PA.lp (i+1,_) xE ⟨yd,by simp only;omega⟩
 ·have:i=n:=z6
  subst this
  repeat'(first|apply Sp.h|refine Lk.r rfl ?_|refine Rf.mk rfl ?_|refine xB ?_|refine xN ?_|fail)
  exact⟨_,_,.yE (.z),rfl,u,rfl⟩
def z0y(code:Int)(rows:List vA)(r:AV)(own:List yh):Prop :=
 (code≠0/\r= .yE [tz,it code]/\own= [])∨(code=0/\∃v,r= .yE [.ow v,it 0]/\own= [yb v 102 2 rows qk])
noncomputable def qB(m:y8)(b:yt)(l:List yo)(w:yt)(a c:List Int):Int :=
 if xR m then(if wu b.clock l w.clock a=0 then wu b.clock l w.clock c else wu b.clock l w.clock a) else 1
noncomputable def kJ(m:y8)(b:yt)(l:List yo)(a c:List Int):List vA :=
 o0 (yU m b l a) (w_ m (yU m b l a)) (vz m b l a) (yU m b l c) (w_ m (yU m b l c)) (vz m b l c) 0 (xk m) ++
 o0 (yU m b l a) (w_ m (yU m b l a)) (vz m b l a) (yU m b l c) (w_ m (yU m b l c)) (vz m b l c) 2 (yw m).length
theorem jx(m:y8)(b:yt)(l:List yo)(w:yt)(a c:List Int)(h:fu b l w)(hm:nR m)(vL:xl m)(hb:b.state.length=xk m)(rB:∀e∈l,rE m (w.clock.length:Nat) e)(jO:xR m->oU m b l a)(CV:xR m->oU m b l c) :
  yJ Tryz.prog 45 [wH m,.ad (sO m b l w) 0,ints a,ints c] [] (z0y (qB m b l w a c) (kJ m b l a c)):=by
 have wU:m.ops.length<=1000000000:=by have:=hm.ops;omega
 have hv:=nB m wU vL
 by_cases hx:xR m
 rotate_left
 ·rw [qB,if_neg hx]
  rw [zF hx] at hv
  refine yJ.of pg M9 Tryz.func45 rfl Tryz.ntmps45 Tryz.results45 rfl λh0 G0 O0 ga=>?_
  repeat'(first|apply Sp.h|refine Lk.r rfl ?_|refine Rf.mk rfl ?_|refine xB ?_|refine yc.mk λ_=>?_|refine xT ?_|refine Ch.l ⟨rfl,rfl⟩ ?_|refine xN ?_|(apply Cl.pG (hv);{exact ga};focus(repeat' constructor);done))
  exact⟨_,_,.yE (.same (.same (.z))),.inl ⟨by decide,rfl,rfl⟩⟩
 rw [qB,if_pos hx]
 rw [zT hx] at hv
 have bn:=rh m b l w a h
 have Gi:=rh m b l w c h
 have S_:=fK m b l w a h hm hx wU vL hb rB
 have D_:=fK m b l w c h hm hx wU vL hb rB
 have qZ:(yU m b l a).length=xk m:=by rw [yU,tY,hb]
 have Aw:(yU m b l c).length=xk m:=by rw [yU,tY,hb]
 have PS:(vz m b l a).length=(yw m).length:=(jO hx).n
 have YI:∀j:Nat,(j < xk m->ir (yU m b l a) (w_ m (yU m b l a)) (vz m b l a) (0,(j:Int))/\ir (yU m b l c) (w_ m (yU m b l c)) (vz m b l c) (0,(j:Int)))/\(j < (yw m).length->ir (yU m b l a) (w_ m (yU m b l a)) (vz m b l a) (2,(j:Int))/\ir (yU m b l c) (w_ m (yU m b l c)) (vz m b l c) (2,(j:Int))):=λj =>
  ⟨λhj=>⟨⟨z6,.inl ⟨rfl,by simp only;omega⟩,(jO hx).r⟩,⟨z6,.inl ⟨rfl,by simp only;omega⟩,(CV hx).r⟩⟩,λhj=>⟨⟨z6,.inr (.inr ⟨rfl,by have:=(jO hx).n;simp only;omega⟩),(jO hx).r⟩,⟨z6,.inr (.inr ⟨rfl,by have:=(CV hx).n;simp only;omega⟩),(CV hx).r⟩⟩⟩
 have eJ:=hm.str
 have hmr:=hm.Sq
 unfold kJ
 generalize yU m b l a=S at S_ qZ YI ⊢
 generalize vz m b l a=V at S_ PS YI ⊢
 generalize w_ m S=B at S_ YI ⊢
 generalize yU m b l c=S' at D_ Aw YI ⊢
 generalize vz m b l c=V' at D_ YI ⊢
 generalize w_ m S'=B' at D_ YI ⊢
 generalize wu b.clock l w.clock a=ka at bn ⊢
 generalize wu b.clock l w.clock c=kc at Gi ⊢
 refine yJ.of pg M9 Tryz.func45 rfl Tryz.ntmps45 Tryz.results45 rfl λh0 G0 O0 ga=>?_
 repeat'(first|apply Sp.h|refine Lk.r rfl ?_|refine Rf.mk rfl ?_|refine xA ?_|refine yc.mk λ_=>?_|refine xU ?_|refine xT ?_|refine Ch.l ⟨rfl,rfl⟩ ?_|(apply Fk.r;focus repeat' first|infer_instance|constructor)|refine Rf.mk ⟨rfl,rfl,rfl⟩ ?_|(apply Cl.pG (hv);{exact ga};focus(repeat' constructor);done))
 rename_i b4 v22
 refine CA.loop (λi:Nat=>⟨[(1,.ad (sO m b l w) 0),(2,ints a),(3,ints c),(4,pm b4),(22,.ow v22),(23,it 2),(24,it i)],[yr b4 30 (s_ m),yb v22 22 1 [[ints a],[ints c]] id]⟩)
  (λi=>i<=2/\(1<=i->ka=0)/\(2<=i->kc=0)) (λi=>2 - i) 0 xE ⟨zZ _,λh=>z6,λh=>z6⟩ ?_
 rintro i ⟨hi,nV,pU⟩
 match i,hi with
 | 0,_ =>
  have hq:([[ints a],[ints c]]:List (List AV))[0]?=some [ints a]:=rfl
  by_cases h0:ka=0
  ·repeat'(first|apply Sp.h|refine Lk.r rfl ?_|refine Rf.mk rfl ?_|refine xA ?_|refine xU ?_|refine xI ?_|refine xJ ?_|refine xO ?_|(apply Cl.p (bn);focus(repeat' constructor);done))
   all_goals try exact(by omega:False).elim
   exact PA.lp 1 xE ⟨⟨z6,λ_=>h0,λh=>z6⟩,z6⟩
  ·repeat'(first|apply Sp.h|refine Lk.r rfl ?_|refine Rf.mk rfl ?_|refine xA ?_|refine xB ?_|refine xU ?_|refine xI ?_|refine xJ ?_|refine xN ?_|(apply Cl.p (bn);focus(repeat' constructor);done))
   all_goals try exact absurd z6 h0
   rw [if_neg h0]
   exact⟨_,_,.yE (.same (.same (.z))),.inl ⟨h0,rfl,rfl⟩⟩
 | 1,_ =>
  have hq:([[ints a],[ints c]]:List (List AV))[1]?=some [ints c]:=rfl
  have h0:=nV (Nat.le_refl _)
  rw [if_pos h0]
  by_cases h1:kc=0
  ·repeat'(first|apply Sp.h|refine Lk.r rfl ?_|refine Rf.mk rfl ?_|refine xA ?_|refine xU ?_|refine xI ?_|refine xJ ?_|refine xO ?_|(apply Cl.p (Gi);focus(repeat' constructor);done))
   all_goals try exact(by omega:False).elim
   exact PA.lp 2 xE ⟨⟨z6,λ_=>h0,λ_=>h1⟩,z6⟩
  ·repeat'(first|apply Sp.h|refine Lk.r rfl ?_|refine Rf.mk rfl ?_|refine xA ?_|refine xB ?_|refine xU ?_|refine xI ?_|refine xJ ?_|refine xN ?_|(apply Cl.p (Gi);focus(repeat' constructor);done))
   all_goals try exact absurd z6 h1
   exact⟨_,_,.yE (.same (.same (.z))),.inl ⟨h1,rfl,rfl⟩⟩
 | 2,_ =>
  have h0:=nV z6
  have h1:=pU z6
  rw [if_pos h0,h1]
  (repeat'(first|(show CA _ _ (Code.region 10 _ _) _ _;apply z_.out)|apply Sp.h|refine Lk.r rfl ?_|refine Rf.mk rfl ?_|refine xB ?_|fail));any_goals apply z_.mk
  refine CA.cut (λx:Nat×Nat=>⟨[(13,pm x.1),(14,pm x.2)],[yr x.1 121 (qj S B V),yr x.2 121 (qj S' B' V')]⟩) (λ_=>True) ?_ ?_
  ·repeat'(first|apply Sp.h|refine Lk.r rfl ?_|refine Rf.mk rfl ?_|refine yu.r rfl ?_|refine yc.mk λ_=>?_|refine xT ?_|refine Ch.l ⟨rfl,rfl⟩ ?_|(apply y4.r;focus repeat' constructor)|refine xN ?_|refine xD ?_|exact trivial|apply vn.both|(apply Cl.pG (S_);{exact ga};focus(repeat' constructor);done)|(apply Cl.pG (D_);{exact ga};focus(repeat' constructor);done))
   all_goals exact PA.lp (_,_) xE trivial
  rintro⟨b13,b14⟩ -
  simp only
  (repeat'(first|(show CA _ _ (Code.region 11 _ _) _ _;apply z_.out)|apply Sp.h|fail));any_goals apply z_.mk
  refine CA.xt 13 rfl z1 ?_
  refine CA.xt 14 rfl z1 ?_
  (repeat'(first|(show CA _ _ (Code.region 12 _ _) _ _;apply z_.out)|apply Sp.h|refine Lk.r rfl ?_|refine Rf.mk rfl ?_|apply yc.mk|refine xN ?_|intro _));any_goals apply z_.mk
  rename_i BI
  refine CA.QH (b:=BI) (i:=0) z1 rfl 102 2 qk λv=>?_
  have nQ:=mY S B V S' B' V' 0 (xk m) BI v [] zd z6 λj hj=>(YI j).1 hj
  rw [List.nil_append] at nQ
  have ue:=nE (S:=S) (B:=B) (V:=V) (S':=S') (B':=B') (V':=V') (k:=0) (n:=xk m)
  have tE:=λu=>mY S B V S' B' V' 2 (yw m).length BI u (o0 S B V S' B' V' 0 (xk m)) z6 z6 λj hj=>(YI j).2 hj
  rw [<-qZ] at nQ tE ⊢
  rw [<-PS] at tE ⊢
  repeat'(first|apply Sp.h|refine Lk.r rfl ?_|refine Rf.mk rfl ?_|apply Im.mk|intro _)
  refine xW (nQ) ?_
  rintro _ _ ⟨rfl,v2,rfl⟩
  repeat'(first|apply Sp.h|refine Lk.r rfl ?_|refine Rf.mk rfl ?_|apply Im.mk|intro _)
  have tE:=tE v2
  refine xW (tE) ?_
  rintro _ _ ⟨rfl,v3,rfl⟩
  repeat'(first|apply Sp.h|refine Lk.r rfl ?_|refine Rf.mk rfl ?_|refine xT ?_|refine xN ?_|fail)
  exact⟨_,_,.yE (.same (.same (.z))),.inr ⟨rfl,v3,rfl,rfl⟩⟩
theorem ZX{m:y8}(hl:vh m.y9 m.tables){c:Int}{ti:Nat}{q:List Int}{t:ym}(h:uS m.y9 m.tables false c=some (ti,q))(ht:m.tables[ti]?=some t):0<=c/\(yw m)[c.toNat]?=some t:=by
 unfold uS at h
 split at h
 rotate_left
 ·cases h
 rename_i hh
 obtain⟨j,h1,h2⟩:=Option.bind_eq_some_iff.1 h
 obtain⟨t',h3,h4⟩:=Option.map_eq_some_iff.1 h2
 injection h4 with h4 h5
 subst h4
 rw [ht] at h3;cases h3
 unfold Vf at h1
 obtain⟨lL,Ht,-⟩:=List.findIdx?_eq_some_iff_getElem.1 h1
 have hjt:m.tables[j]=t:=(zS.1 ht).2
 rw [hjt] at Ht
 obtain⟨g1,g2,g3⟩:=of_decide_eq_true Ht
 have bE:¬yi t.kind:=of_decide_eq_false g1
 have hx:=hl.t j t ht
 have hf:=hx.fs
 rw [g1] at hf
 have hc:=hx.ok.1
 have u4:=(sX (m:=m) hc).1
 have bQ:wF m.y9 t.ya=(jM m t:Nat):=by rw [wF,if_pos hc];exact u4
 have hlen:((tM m (m.tables.take j)).length:Int)=xZ m.y9 false (m.tables.take j):=by
  have key:∀l:List ym,(∀t∈l,t∈m.tables)->((tM m l).length:Int)=xZ m.y9 false l:=by
   intro l
   induction l with
   | nil=>intro _;rfl
   | cons t l ih =>
    intro h
    have ih:=ih λt ht=>h t (by simp [ht])
    have hc:=(hl.ok.2.2.2 t (h t zd)).1
    have h1:=(sX (m:=m) hc).1
    unfold tM xZ at ih ⊢
    simp only [List.map_cons,List.sum_cons,List.flatMap_cons,zP]
    rw [<-ih]
    by_cases hs:yi t.kind
    ·rw [if_pos hs,if_neg (by simp [hs])];simp
    ·rw [if_neg hs,if_pos (by simp [hs]),wF,if_pos hc,zR];omega
  exact key _ λt ht=>zW ht
 refine⟨hh.2, ?_⟩
 have pI:yw m=tM m (m.tables.take (j+1)) ++ tM m (m.tables.drop (j+1)):=by
  show tM m m.tables=_
  unfold tM
  rw [<-List.flatMap_append,List.take_append_drop]
 have xe:=pf (m:=m) ht
 rw [if_neg bE] at xe
 rw [pI,zI (by rw [xe,zP,zR];omega),xe,zJ z6,List.getElem?_replicate,if_pos z6]
theorem Pa{n:Nat}{l:List (Int×Int)}(h:∀(i:Nat) (p:Int×Int),l[i]?=some p->fw n l i p):l.length<=n:=by
 have key:∀(i:Nat) (p:Int×Int),l[i]?=some p->(i:Int)<=p.1:=by
  intro i
  induction i with
  | zero=>intro p hp;have:=(h 0 p hp).a;omega
  | succ i ih =>
   intro p hp
   obtain⟨q,hq⟩:=zz (l:=l) (i:=i) (by have:=(zS.1 hp).1;omega)
   have h1:=ih q hq
   have h2:=(h (i+1) p hp).e q z6 hq
   omega
 rcases Nat.eq_zero_or_pos l.length with h0|h0
 ·omega
 ·obtain⟨p,hp⟩:=zz (l:=l) (i:=l.length - 1) z6
  have h1:=key _ p hp
  have h2:=(h _ p hp).b
  omega
theorem xR.xu{m:y8}(hx:xR m){a:e_}(ha:a∈m.yP):qb m a.xu:=by
 obtain⟨i,hi⟩:=zO ha
 exact(hx.act.a i a hi).e
theorem xR.Sr{m:y8}(hx:xR m):nR m:=by
 have h1:=qK hx.lay
 have h2:=dN hx.lay.ok
 have h3:(wA m).length<=128:=tu
 refine⟨hx.lay.ok,hx.act.o.l,hx.act.l,λa ha=>?_,z6,by have:=hx.lay.m;omega⟩
 have he:=hx.xu ha
 have hd:=Pa he.d
 refine⟨z6,he.hl,he.ul,λp hp=>?_,λp hp=>?_⟩
 ·obtain⟨i,hi⟩:=zO hp
  have g:=he.d i p hi
  have g1:=g.a
  have g2:=g.b
  omega
 ·obtain⟨i,hi⟩:=zO hp
  obtain⟨ti,q,t,g1,g2,-⟩:=(he.u i p hi).1
  obtain⟨g3,g4⟩:=ZX hx.lay g1 g2
  have:=(zS.1 g4).1
  omega
theorem xR.fit{m:y8}(hx:xR m):af m:=by
 intro a ha u hu i t hi ht
 obtain⟨j,hj⟩:=zO hu
 obtain⟨ti,q,t',g1,g2,g3,g4⟩:=((hx.xu ha).u j u hj).1
 obtain⟨g5,g6⟩:=ZX hx.lay g1 g2
 rw [hi,Int.toNat_natCast,ht] at g6
 cases g6
 unfold uz at g3 g4
 unfold Xa
 refine⟨⟨λh=>(g3 h).1,λh=>Classical.byContradiction λh9=>?_⟩,λh=>(g4 h).2⟩
 have:=(g4 h9).1
 omega
theorem qO{t:ym}{l:List yC}(h1:∀x∈l,wy t x)(h2:r9 l):mX t l l.length:=by
 intro i x hi hx
 obtain⟨hs,hn⟩:=h2
 rw [List.pairwise_iff_getElem] at hs hn
 obtain⟨i1,lx⟩:=zS.1 hx
 refine⟨h1 x (zM hx),λj y hj hy=>?_,λy hp hy=>?_⟩
 ·obtain⟨j1,PQ⟩:=zS.1 hy
  have:=hn j i j1 i1 hj
  rwa [lx,PQ] at this
 ·obtain⟨j1,PQ⟩:=zS.1 hy
  have:=hs (i - 1) i j1 i1 z6
  rw [lx,PQ] at this
  exact uZ _ _ this
theorem cI{t:ym}{l:List yC}(h:mX t l l.length) :∀x∈l,wy t x:=λx hx=>by
 obtain⟨i,hi⟩:=zO hx
 exact(h i x (zS.1 hi).1 hi).1
theorem r9.filter{l:List yC}(h:r9 l)(p:yC->Bool):r9 (l.filter p):=⟨List.Pairwise.filter p h.1,List.Pairwise.filter p h.2⟩
theorem r9.ins{l:List yC}(h:r9 l){x:yC}(hn:¬wj l x):r9 (vU l x):=by
 refine⟨(ml h.1 hn).1, ?_⟩
 have hp:(vU l x).Perm (x :: l):=by
  unfold vU
  refine List.perm_middle.trans ?_
  rw [List.take_append_drop]
 have hc:(x :: l).Pairwise λx y=>¬Nm x y:=List.pairwise_cons.2 ⟨λy hy h9=>hn ⟨y,hy,h9.1.symm,h9.2.symm⟩,h.2⟩
 exact hp.symm.pairwise hc λ{a b} h9 h8=>h9 ⟨h8.1.symm,h8.2.symm⟩
theorem gB(l:List yC)(x:yC):(vU l x).length=l.length+1:=by
 unfold vU
 rw [zP,List.length_cons,zN,List.length_drop]
 omega
theorem cx{t:ym}{l:List yC}{x:yC}(h1:∀y∈l,wy t y)(h2:r9 l)(hx:wy t x)(h:(xo l x).1=0):(∀y∈(xo l x).2,wy t y)/\r9 (xo l x).2/\(xo l x).2.length<=1024:=by
 unfold xo at h ⊢
 split at h
 ·cases h
 rename_i hn
 split at h
 ·cases h
 rename_i hl
 rw [if_neg hn,if_neg hl]
 refine⟨λy hy=>?_,h2.ins hn,by simp only [gB];omega⟩
 rcases((ml h2.1 hn).2 y).1 hy with hy|rfl
 ·exact h1 y hy
 ·exact hx
theorem Di(x:yC):r9 [x]:=⟨List.pairwise_singleton _ _,List.pairwise_singleton _ _⟩
theorem Wv{t:ym}{g:xp}{e:yo}{u:qh}(hg:sx t g)(hx:wy t ⟨e.rep,e.num,e.time,if x8 t.kind then u.2.2 else 0⟩)(h:(yQ e t (some u) g).1=0):sx t (yQ e t (some u) g).2:=by
 obtain⟨⟨g1,g2,g3,g4⟩,g5⟩:=hg
 have hG:=sx.Ls ⟨⟨g1,g2,g3,g4⟩,g5⟩
 have hR:=cI g5
 have qz:(vl e.yj g.marks).length<=g.marks.length:=List.length_filter_le _ _
 have Bg:∀y∈vl e.yj g.marks,wy t y:=λy hy=>hR y (List.mem_filter.1 hy).1
 have Bh:r9 (vl e.yj g.marks):=hG.filter _
 simp only [yQ] at h ⊢
 by_cases c1:t.kind=2/\u.1=0∨t.kind=3/\u.1=1
 ·rw [if_pos c1] at h ⊢
  obtain⟨a1,a2,a3⟩:=cx hR hG hx h
  exact⟨⟨g1,g2,λh9=>z6,a3⟩,qO a1 a2⟩
 rw [if_neg c1] at h ⊢
 by_cases c2:t.kind=2/\u.1=1
 ·rw [if_pos c2] at h ⊢
  exact⟨⟨g1,λh9=>(by cases h9.1),λh9=>z6,by simp only;omega⟩,qO Bg Bh⟩
 rw [if_neg c2] at h ⊢
 by_cases c3:t.kind=3/\u.1=0
 ·rw [if_pos c3] at h ⊢
  exact⟨⟨λh9=>(by cases h9),λh9=>by have:=h9.2;unfold x8 at this;omega,λh9=>z6,by simp only;omega⟩,qO Bg Bh⟩
 rw [if_neg c3] at h ⊢
 by_cases c4:t.kind=4/\u.1=2
 ·rw [if_pos c4] at h ⊢
  have WT:g.marks.length<=1:=by have:=g3;omega
  have rY:∀M:yC,wy t M->∃y,(wN g.marks M).2= [y]/\wy t y:=by
   intro M hM
   match hm:g.marks,WT with
   | [],_=>exact⟨M,by simp [wN,xo,wj,vU],hM⟩
   | [z],_ =>
    by_cases h9:eP z M < 0
    ·exact⟨M,by simp [wN,h9],hM⟩
    ·exact⟨z,by simp [wN,h9],hR z (by rw [hm];simp)⟩
  have rY:=rY _ hx
  obtain⟨y,e1,e2⟩:=rY
  rw [e1]
  refine⟨⟨g1,g2,λh9=>by simp at h9,by simp⟩,qO (λz hz=>by rw [zH.1 hz];exact e2) (Di y)⟩
 rw [if_neg c4] at h ⊢
 by_cases c5:t.kind=5/\u.1=2
 ·rw [if_pos c5] at h ⊢
  obtain⟨a1,a2,a3⟩:=cx Bg Bh hx h
  exact⟨⟨g1,g2,λh9=>z6,a3⟩,qO a1 a2⟩
 rw [if_neg c5] at h ⊢
 exact⟨⟨g1,g2,g3,g4⟩,g5⟩
theorem UH{us:List qh}{c:Int}{u:qh}(h:uR us c=some u):u∈us/\u.2.1=c:=by
 unfold uR at h
 exact⟨by simpa using List.mem_of_find?_eq_some h,by simpa using List.find?_some h⟩
theorem UU{m:y8}{t:ym}{e:yo}{u:qh}{n:Int}(hr:¬Xa t.kind->t.lo<=u.2.2/\u.2.2<=t.hi)(he:rE m n e):wy t ⟨e.rep,e.num,e.time,if x8 t.kind then u.2.2 else 0⟩:=by
 obtain⟨f1,f2,⟨y,f3,f4⟩,f5,f6,f7⟩:=he.1
 have hlen:=(zS.1 f3).1
 have:=f1.1 y (zM f3)
 have:=f1.2
 unfold tg at *
 unfold pV at f6
 refine⟨by simp only;omega,by simp only;omega,by simp only;omega, ?_⟩
 simp only [X9,iP]
 by_cases h9:x8 t.kind
 ·rw [if_pos h9,if_pos h9,if_pos h9]
  exact hr (by unfold x8 at h9;unfold Xa;omega)
 ·rw [if_neg h9,if_neg h9,if_neg h9];omega
theorem Zf{m:y8}(_hm:xS m.y9 m.tables)(hf:af m){l:List xp}{e:yo}(h:(yq m l e).1=0):vX (yw m) (yq m l e).2:=by
 have hv:vX (yw m) l/\rE m (e.yj.length:Nat) e:=Classical.byContradiction λh9=>by
  rw [yq,if_pos h9] at h
  cases h
 by_cases hk:e.kind=0
 rotate_left
 ·rw [yq,if_neg (λh9=>h9 hv),if_pos hk];exact hv.1
 rw [yq,if_neg (λh9=>h9 hv),if_neg (λh9=>h9 hk)] at h ⊢
 have ug:∀p∈vi (yw m) l (lr m e) e,p.1=0:=by
  unfold wi at h
  split at h
  ·rename_i p hp
   have:=List.find?_some hp
   simp at this
   exact absurd h this.1
  ·rename_i hn
   split at h
   ·cases h
   rename_i h8
   intro p hp
   have:=List.find?_eq_none.1 hn p hp
   simp at this
   exact Classical.byContradiction λh9=>h8 ⟨p,hp,this h9⟩
 rw [u_ (λp hp=> .inl (ug p hp)),if_neg (λ⟨p,hp,h8⟩=>by rw [ug p hp] at h8;cases h8)]
 refine⟨by rw [List.length_map,vK];exact hv.1.1,λi t g ht hg=>?_⟩
 obtain⟨g0,Va⟩:=zz (l:=l) (i:=i) (by have:=(zS.1 ht).1;have:=hv.1.1;omega)
 have YZ:=uY (us:=lr m e) (e:=e) ht Va
 rw [zG,YZ] at hg
 cases hg
 have h0:=ug _ (zM YZ)
 have PT:=hv.1.2 i t g0 ht Va
 cases hu:uR (lr m e) i with
 | none=>exact PT
 | some u =>
  rw [hu] at h0
  obtain⟨DY,Sy⟩:=UH hu
  have:∃a∈m.yP,u∈a.xu.yk:=by
   unfold lr at DY
   split at DY
   ·rename_i a ha;exact⟨a,zM ha,DY⟩
   ·cases DY
  obtain⟨a,ha,CQ⟩:=this
  have kH:=hf a ha u CQ i t Sy ht
  exact Wv PT (UU kH.2 hv.2) h0
theorem Xv{m:y8}:vX (yw m) (List.replicate (yw m).length nS):=by
 refine⟨by simp,λi t g ht hg=>?_⟩
 rw [(List.mem_replicate.1 (zM hg)).2]
 exact⟨⟨λh=>(by cases h),λh=>(by cases h.1),λh=>by simp [nS] at h,by simp [nS]⟩,λi x hi=>by simp [nS] at hi⟩
theorem ZU{m:y8}{k:List xp}(h:vX (yw m) k):(tQ m k).2.length=(yw m).length/\∀x∈(tQ m k).2,x.length<=100000:=by
 rw [rS h]
 refine⟨by rw [rq];have:=h.1;omega,λx hx=>?_⟩
 obtain⟨i,hi⟩:=zO hx
 unfold tG at hi
 rw [zG] at hi
 obtain⟨p,hp,rfl⟩:=Option.map_eq_some_iff.1 hi
 obtain⟨h1,h2⟩:=List.getElem?_zip_eq_some.1 hp
 have h3:=j5 h h1 h2
 have h4:=UF p.1 p.2
 omega
theorem z11{m:y8}{b:yt}{l:List yo}{c:List Int}{qs:List vA}(hs:oU m b l c):(r6 m b l c qs).length=qs.length/\∀x∈r6 m b l c qs,x.length<=1000000:=by
 refine⟨by simp [r6],λx hx=>?_⟩
 obtain⟨q,-,rfl⟩:=List.mem_map.1 hx
 unfold wh
 split
 ·simp
 split
 ·simp
 cases h:(vz m b l c)[q.2.toNat]? with
 | none=>simp
 | some y=>have:=hs.r y (zM h);simp only [Option.getD_some];omega
theorem RP.filter{l X:List yo}(hX:RP l X){p:yo->Bool}(hp:∀e∈X,p e=true->∀d∈l,x9 e.yj d.rep d.num->p d=true):RP l (X.filter p):=by
 have key:∀i,i<=X.length->RP l ((X.take i).filter p):=by
  intro i
  induction i with
  | zero=>intro _;exact RP.nil l
  | succ i ih =>
   intro hi
   obtain⟨e,he⟩:=zz (l:=X) (i:=i) z6
   have h0:=ih z6
   rw [zK,he,Option.toList_some,List.filter_append]
   by_cases hpe:p e=true
   ·rw [show [e].filter p= [e] by simp [hpe]]
    have Oe:=zM he
    obtain⟨n1,n2⟩:=hX.nxt i e he
    exact h0.snoc (hX.sub e Oe) (λh=>n1 (List.mem_filter.1 h).1) λd hd hh=>List.mem_filter.2 ⟨n2 d hd hh,hp e Oe hpe d hd hh⟩
   ·rw [show [e].filter p= [] by simp [hpe],List.append_nil]
    exact h0
 have:=key X.length (Nat.le_refl _)
 rwa [zL] at this
theorem z2Z{m:y8}{l X:List yo}(hm:xS m.y9 m.tables)(hf:af m)(hc:ta l)(hX:RP l X)(hv:∀e∈X,rE m (n0 l:Nat) e)(hl:X.length<=1000) :∀i,i<=X.length->Ox m (X.take i) ((X.take i).foldl (um m) (List.replicate (yw m).length nS))/\vX (yw m) ((X.take i).foldl (um m) (List.replicate (yw m).length nS))/\∀e,X[i]?=some e->(yq m ((X.take i).foldl (um m) (List.replicate (yw m).length nS)) e).1=0:=by
 have step:∀i e,X[i]?=some e->Ox m (X.take i) ((X.take i).foldl (um m) (List.replicate (yw m).length nS))->(yq m ((X.take i).foldl (um m) (List.replicate (yw m).length nS)) e).1=0/\Ox m (X.take (i+1)) ((X.take (i+1)).foldl (um m) (List.replicate (yw m).length nS)):=by
  intro i e he hk
  have gT:=hX.sub e (zM he)
  obtain⟨h1,h2⟩:=hX.nxt i e he
  have hA:=hX.cau i
  have YQ:=QA hc hA gT h1
  have hu:kV (X.take i):=Xy (nu hc.2.1) hA.sub
  have su:=hk.BU hm hf hu (λx hx=>(hc.2.2.1 x (hA.sub x hx)).1) (by rw [zN];omega)
  have kq:e.yj.length=n0 l:=(hc.2.2.1 e gT).2
  have rB:rE m (e.yj.length:Nat) e:=by rw [kq];exact hv e (zM he)
  obtain⟨k',a1,a2,-⟩:=Ze hm su (by rw [zN];omega) hk rB YQ
  rw [zK,he,Option.toList_some,List.foldl_append]
  refine⟨by rw [a1], ?_⟩
  show Ox m _ (yq m _ e).2
  rw [a1];exact a2
 have kn:∀i,i<=X.length->Ox m (X.take i) ((X.take i).foldl (um m) (List.replicate (yw m).length nS)):=by
  intro i
  induction i with
  | zero=>intro _;exact Ox.nil m
  | succ i ih =>
   intro hi
   obtain⟨e,he⟩:=zz (l:=X) (i:=i) z6
   exact(step i e he (ih z6)).2
 intro i hi
 have hk:=kn i hi
 refine⟨hk, ?_,λe he=>(step i e he hk).1⟩
 have hA:=hX.cau i
 exact hk.BU hm hf (Xy (nu hc.2.1) hA.sub) (λx hx=>(hc.2.2.1 x (hA.sub x hx)).1) (by rw [zN];omega)
theorem Z8{m:y8}{evl:List yo}{w:yt}{e:yo}(h:(yA m evl w e).1=0) :¬x9 w.clock e.rep e.num/\Ins e.yj w.clock:=by
 unfold yA at h
 repeat' split at h
 all_goals first
  | (exfalso;simp at h;done)
  | (rename_i h2 h3 _ _ _;exact⟨h2,Classical.not_not.1 h3⟩)
  | (rename_i h2 h3 _ _ h6;exact absurd h h6)
theorem Z6{m:y8}{evl:List yo}{w:yt}{e:yo}(h:(yA m evl w e).1≠0):(yA m evl w e).2=w:=by
 unfold yA at h ⊢
 repeat' split
 all_goals first
  | rfl
  | (exfalso;simp_all;done)
theorem Z7{m:y8}{n:Nat}{ld:List Int}{D:List yo}{e:yo}(h:(yA m D (y_ m n ld D) e).1=0):(yA m D (y_ m n ld D) e).2=y_ m n ld (D ++ [e]):=by
 rw [jE h,dB]
theorem z1K{m:y8}{l D:List yo}{ld:List Int}{e:yo}(hc:ta l)(vB:0 < l.length)(hX:RP l D)(he:e∈l)(h:(yA m D (y_ m (n0 l) ld D) e).1=0):RP l (D ++ [e])/\rE m (n0 l:Nat) e:=by
 obtain⟨d0,Bm⟩:=zz (l:=l) (i:=0) vB
 have hr:=Ue hc (zM Bm)
 have ue:(y_ m (n0 l) ld D).clock=p_ (n0 l) D:=rfl
 obtain⟨h1,h2⟩:=Z8 h
 have hv:=(cL h).2.1
 rw [ue] at h1 h2 hv
 rw [sb] at hv
 have hA:=hX.all
 refine⟨hX.snoc he (λh9=>h1 ((Pj hc hA he).2 h9)) λd hd hh=>(Pj hc hA hd).1 ?_,hv⟩
 exact z1F (cv hc hA.sub hr) h2 (by rw [sb,(hc.2.2.1 e he).2];exact Nat.le_refl _) hh
theorem cy{l:List yC}{x:yC}(hn:∀y∈l,¬Nm y x)(hl:l.length<=1000)(hg:r9 l):(xo l x).1=0/\(∀y∈(xo l x).2,y∈l∨y=x)/\(xo l x).2.length<=l.length+1:=by
 have yD:¬wj l x:=λ⟨y,hy,h⟩=>hn y hy h
 have hF:xo l x=(0,vU l x):=by rw [xo,if_neg yD,if_neg z6]
 rw [hF]
 exact⟨rfl,λy hy=>((ml hg.1 yD).2 y).1 hy,by simp only [gB];omega⟩
theorem S5{t:ym}{g:xp}{e:yo}{u:Option qh}(hg:sx t g)(hn:∀x∈g.marks,nm e≠ [x.rep,x.num])(hl:g.marks.length<=1000):(yQ e t u g).1=0/\(∀x∈(yQ e t u g).2.marks,x∈g.marks∨nm e= [x.rep,x.num])/\(yQ e t u g).2.marks.length<=g.marks.length+1:=by
 cases u with
 | none=>exact⟨rfl,λx hx=> .inl hx,by simp [yQ]⟩
 | some u =>
  have hG:=sx.Ls hg
  obtain⟨M,hM⟩:∃M:yC,M=⟨e.rep,e.num,e.time,if x8 t.kind then u.2.2 else 0⟩:=⟨_,rfl⟩
  have Gv:nm e= [M.rep,M.num]:=by rw [hM];rfl
  have jQ:∀y∈g.marks,¬Nm y M:=λy hy h=>hn y hy (by rw [Gv,h.1,h.2])
  have qz:(vl e.yj g.marks).length<=g.marks.length:=List.length_filter_le _ _
  have R7:∀y∈vl e.yj g.marks,y∈g.marks:=λy hy=>(List.mem_filter.1 hy).1
  have a1:=cy jQ hl hG
  have a2:=cy (x:=M) (λy hy=>jQ y (R7 y hy)) z6 (hG.filter λx=> !decide (x9 e.yj x.rep x.num))
  change (xo (vl e.yj g.marks) M).1=0/\(∀y∈(xo (vl e.yj g.marks) M).2,y∈vl e.yj g.marks∨y=M)/\(xo (vl e.yj g.marks) M).2.length<=(vl e.yj g.marks).length+1 at a2
  simp only [yQ,<-hM]
  split
  ·exact⟨a1.1,λx hx=>(a1.2.1 x hx).imp id λh=>by rw [h];exact Gv,a1.2.2⟩
  split
  ·exact⟨rfl,λx hx=> .inl (R7 x hx),by simp only;omega⟩
  split
  ·exact⟨rfl,λx hx=> .inl (R7 x hx),by simp only;omega⟩
  split
  ·match hm:g.marks with
   | [] =>
    rw [hm] at a1
    exact⟨a1.1,λx hx=>(a1.2.1 x hx).imp id λh=>by rw [h];exact Gv,a1.2.2⟩
   | x :: r =>
    simp only [wN]
    refine⟨trivial,λy hy=>?_, ?_⟩
    ·split at hy
     ·rcases List.mem_cons.1 hy with rfl|hy
      ·exact .inr Gv
      ·exact .inl (List.mem_cons_of_mem _ hy)
     ·exact .inl hy
    ·split <;> simp
  split
  ·exact⟨a2.1,λx hx=>(a2.2.1 x hx).imp (R7 x) λh=>by rw [h];exact Gv,by have:=a2.2.2;simp only;omega⟩
  ·exact⟨rfl,λx hx=> .inl hx,by simp⟩
structure Vy (m:y8) (k:List xp) (S:List (List Int)) (N:Nat):Prop where
 v:vX (yw m) k
 n:∀g∈k,∀x∈g.marks,[x.rep,x.num]∈S
 l:∀g∈k,g.marks.length<=N
theorem WD{m:y8}(hm:xS m.y9 m.tables)(hf:af m){k:List xp}{S:List (List Int)}{N:Nat}{e:yo}(h:Vy m k S N)(hN:N<=1000)(he:rE m (e.yj.length:Nat) e)(hn:nm e ∉ S):Vy m (um m k e) (S ++ [nm e]) (N+1):=by
 have h0:(yq m k e).1=0/\(∀g∈(yq m k e).2,(∀x∈g.marks,[x.rep,x.num]∈S ++ [nm e])/\g.marks.length<=N+1):=by
  by_cases hk:e.kind=0
  rotate_left
  ·rw [yq,if_neg (λh9=>h9 ⟨h.v,he⟩),if_pos hk]
   exact⟨rfl,λg hg=>⟨λx hx=>zV.2 (.inl (h.n g hg x hx)),by have:=h.l g hg;omega⟩⟩
  rw [yq,if_neg (λh9=>h9 ⟨h.v,he⟩),if_neg (λh9=>h9 hk)]
  have yS:∀p∈vi (yw m) k (lr m e) e,p.1=0/\(∀x∈p.2.marks,[x.rep,x.num]∈S ++ [nm e])/\p.2.marks.length<=N+1:=λp hp=>by
   obtain⟨i,hi⟩:=zO hp
   have qf:=(zS.1 hi).1
   rw [vK] at qf
   obtain⟨g,hg⟩:=zz qf
   obtain⟨t,ht⟩:=zz (l:=yw m) (i:=i) (by rw [h.v.1];exact qf)
   rw [uY ht hg] at hi
   cases hi
   have Ob:=zM hg
   have hl:=h.l g Ob
   obtain⟨c1,c2,c3⟩:=S5 (e:=e) (u:=uR (lr m e) i) (h.v.2 i t g ht hg) (λx hx h9=>hn (by rw [h9];exact h.n g Ob x hx)) z6
   refine⟨c1,λx hx=>?_,z6⟩
   rcases c2 x hx with h9|h9
   ·exact zV.2 (.inl (h.n g Ob x h9))
   ·exact zV.2 (.inr (by rw [h9];simp))
  rw [u_ (λp hp=> .inl (yS p hp).1),if_neg (λ⟨p,hp,h8⟩=>by rw [(yS p hp).1] at h8;cases h8)]
  refine⟨rfl,λg hg=>?_⟩
  obtain⟨p,hp,rfl⟩:=List.mem_map.1 hg
  exact(yS p hp).2
 exact⟨Zf hm hf h0.1,λg hg=>(h0.2 g hg).1,λg hg=>(h0.2 g hg).2⟩
theorem TE{m:y8}(hm:xS m.y9 m.tables)(hf:af m) :∀(E:List yo) (k:List xp) (S:List (List Int)) (N:Nat),Vy m k S N->N+E.length<=1000->(∀e∈E,rE m (e.yj.length:Nat) e)->E.Pairwise (λa b=>nm a≠nm b)->(∀e∈E,nm e ∉ S)->Vy m (E.foldl (um m) k) (S ++ E.map nm) (N+E.length):=by
 intro E
 induction E with
 | nil=>intro k S N h _ _ _ _;simpa using h
 | cons e E ih =>
  intro k S N h hN hv hp hn
  rw [List.length_cons] at hN
  obtain⟨p1,p2⟩:=List.pairwise_cons.1 hp
  have h1:=WD hm hf h z6 (hv e zd) (hn e zd)
  have h2:=ih _ _ _ h1 z6 (λx hx=>hv x (List.mem_cons_of_mem _ hx)) p2 λx hx h9=>by
   rcases zV.1 h9 with h9|h9
   ·exact hn x (List.mem_cons_of_mem _ hx) h9
   ·exact p1 x hx (zH.1 h9).symm
  rw [List.foldl_cons,List.map_cons,List.length_cons]
  rw [List.append_assoc,List.singleton_append] at h2
  rw [show N+(E.length+1)=N+1+E.length by omega]
  exact h2
theorem T5(m:y8):Vy m (List.replicate (yw m).length nS) [] 0:=⟨Xv,λg hg x hx=>by rw [(List.mem_replicate.1 hg).2] at hx;simp [nS] at hx,λg hg=>by rw [(List.mem_replicate.1 hg).2];simp [nS]⟩
structure sW (m:y8) (n:Nat) (D:List yo):Prop where
 ev:∀e∈D,rE m (n:Nat) e
 pw:D.Pairwise λa b=>nm a≠nm b
theorem sW.nil(m:y8)(n:Nat):sW m n []:=⟨λe h=>(by cases h),List.Pairwise.nil⟩
theorem Pk{m:y8}{n:Nat}{D:List yo}(hn:1<=n/\n<=5)(h:sW m n D){e:yo}(he:e∈D):x9 (p_ n D) e.rep e.num:=by
 have su:vY (p_ n D):=jn hn λx hx=>ov (h.ev x hx).1
 have hr:=sd (h.ev e he).1
 have kq:=(h.ev e he).2.1
 obtain⟨y,h1,h2,h3⟩:=YA (n:=n) D (List.replicate n 0) zd (λx hx=>by rw [(List.mem_replicate.1 hx).2];exact Int.le_refl 0) (λa ha=>by
  have:=sd (h.ev a ha).1
  have:=(h.ev a ha).2.1
  exact⟨z6,z6⟩) e.rep.toNat z6
 exact⟨su,hr.1,hr.2.2,y,h1,(h3 e.num hr.2.2).2 (.inr ⟨e,he,rfl,Int.le_refl _⟩)⟩
theorem sW.step{m:y8}{n:Nat}{D:List yo}{ld:List Int}{e:yo}(hn:1<=n/\n<=5)(h:sW m n D)(h0:(yA m D (y_ m n ld D) e).1=0):sW m n (D ++ [e]):=by
 have h1:=(Z8 h0).1
 have h2:=(cL h0).2.1
 rw [show(y_ m n ld D).clock=p_ n D from rfl] at h1 h2
 rw [sb] at h2
 refine⟨λx hx=>?_,List.pairwise_append.2 ⟨h.pw,List.pairwise_singleton _ _,λa ha b hb pz=>?_⟩⟩
 ·rcases zV.1 hx with hx|hx
  ·exact h.ev x hx
  ·rw [zH.1 hx];exact h2
 ·rw [zH.1 hb] at pz
  have hh:=Pk hn h ha
  have:a.rep=e.rep/\a.num=e.num:=by simpa [nm] using pz
  rw [this.1,this.2] at hh
  exact h1 hh
theorem sW.filter{m:y8}{n:Nat}{D:List yo}(h:sW m n D)(p:yo->Bool):sW m n (D.filter p):=⟨λe he=>h.ev e (List.mem_filter.1 he).1,List.Pairwise.filter p h.pw⟩
theorem sW.fold{m:y8}{n:Nat}{D:List yo}(hx:xR m)(h:sW m n D)(hl:D.length<=1000):vX (yw m) (D.foldl (um m) (List.replicate (yw m).length nS)) :=
 (TE hx.lay.ok hx.fit D _ _ _ (T5 m) z6 (λe he=>by rw [(h.ev e he).2.1];exact h.ev e he) h.pw λe _ h9=>by cases h9).v
structure AnyS (m:y8) (b:yt) (l:List yo) (w:yt):Prop where
 hb:b.state.length=xk m
 sz:eC b
 ck:w.clock.length<=5
 ln:l.length<=1000
 ev:∀e∈l,rE m (w.clock.length:Nat) e
 sn:∀c,oU m b l c
theorem AnyS.shw{m:y8}{b:yt}{l:List yo}{w:yt}(h:AnyS m b l w):fu b l w:=⟨h.sz,by have:=h.ck;omega,by have:=h.ln;omega,λe he=>by have:=(h.ev e he).2.1;have:=h.ck;omega⟩
theorem lQ{m:y8}{n:Nat}{D:List yo}{ld:List Int}(hn:1<=n/\n<=5)(gR:ld.length=xk m)(h:sW m n D)(hl:D.length<=1000):iS m (y_ m n ld D):=by
 refine⟨jn hn λx hx=>ov (h.ev x hx).1,by simp only [y_,po];exact gR, ?_, ?_⟩
 ·simp only [y_,rT];exact(lS _).1
 ·simp only [y_,rT]
  have:=qL (Zj D);have:=Y9 D
  omega
theorem Z_{m:y8}{n:Nat}{D:List yo}{ld:List Int}(hm:nR m)(hn:1<=n/\n<=5)(gR:ld.length=xk m)(h:sW m n D)(hl:D.length<=1000):eC (y_ m n ld D):=by
 have h0:=lQ (ld:=ld) hn gR h hl
 have h1:=Y0 (m:=m) hm n ld D
 exact⟨by have:=h0.Vc.2.2;omega,by rw [h0.st];have:=hm.str;omega,h1.1,h1.2,h0.SS⟩
theorem Py{m:y8}{n:Nat}{D:List yo}{ld:List Int}(hx:xR m)(hn:1<=n/\n<=5)(gR:ld.length=xk m)(h:sW m n D)(hl:D.length<=1000):AnyS m (y_ m n ld []) D (y_ m n ld D):=by
 have ue:(y_ m n ld D).clock.length=n:=sb ..
 refine⟨gR,Z_ hx.Sr hn gR (sW.nil m n) (zZ _),z6,hl,λe he=>by rw [ue];exact h.ev e he,λc=>?_⟩
 have:=ZU ((h.filter λe=>decide (x9 c e.rep e.num)).fold hx (Nat.le_trans (List.length_filter_le _ _) hl))
 exact⟨this.1,this.2⟩
theorem cW{m:y8}{n:Nat}{D:List yo}{ld c:List Int}(hx:xR m)(hn:1<=n/\n<=5)(gR:ld.length=xk m)(h:sW m n D)(hl:D.length<=1000):AnyS m (xi m ⟨y_ m n ld [],D,y_ m n ld D⟩ c).2.base (xi m ⟨y_ m n ld [],D,y_ m n ld D⟩ c).2.vm (xi m ⟨y_ m n ld [],D,y_ m n ld D⟩ c).2.now:=by
 have h0:=Py (ld:=ld) hx hn gR h hl
 by_cases c1:vY c/\c.length=(y_ m n ld D).clock.length
 rotate_left
 ·have hF:xi m ⟨y_ m n ld [],D,y_ m n ld D⟩ c=(1,⟨y_ m n ld [],D,y_ m n ld D⟩):=@if_pos _ (zC _) c1 _ _ _
  rw [hF];exact h0
 by_cases c2:Ins (y_ m n ld []).clock c/\Ins c (y_ m n ld D).clock/\∀e∈D,x9 c e.rep e.num->Ins e.yj c
 rotate_left
 ·have hF:xi m ⟨y_ m n ld [],D,y_ m n ld D⟩ c=(9,⟨y_ m n ld [],D,y_ m n ld D⟩):=(@if_neg _ (zC _) (λh9=>h9 c1) _ _ _).trans (@if_pos _ (zC _) c2 _ _ _)
  rw [hF];exact h0
 have hF:xi m ⟨y_ m n ld [],D,y_ m n ld D⟩ c=(0,⟨qo m (y_ m n ld []) c D,vN c D,{ y_ m n ld D with merged:=(vN c D).foldl (um m) (qo m (y_ m n ld []) c D).merged }⟩):=(@if_neg _ (zC _) (λh9=>h9 c1) _ _ _).trans (@if_neg _ (zC _) (λh9=>h9 c2) _ _ _)
 rw [hF]
 have ue:(y_ m n ld D).clock.length=n:=sb ..
 have qf:(uP c D).length<=D.length:=List.length_filter_le _ _
 have wU:(vN c D).length<=D.length:=List.length_filter_le _ _
 have yd:sW m n (uP c D):=h.filter _
 have uU:=lQ (ld:=ld) hn gR yd z6
 have u4:=Z_ (ld:=ld) hx.Sr hn gR yd z6
 have yL:(qo m (y_ m n ld []) c D).state=(y_ m n ld (uP c D)).state:=by unfold qo;rw [mK];rfl
 have B4:(qo m (y_ m n ld []) c D).merged=(y_ m n ld (uP c D)).merged:=by unfold qo;rw [mK];rfl
 have kq:(qo m (y_ m n ld []) c D).places=(y_ m n ld (uP c D)).places:=by unfold qo;rw [mK];rfl
 have lz:(qo m (y_ m n ld []) c D).clock=c:=rfl
 refine⟨by rw [yL];exact uU.st,⟨by rw [lz];have:=c1.1.2;omega,by rw [yL];exact u4.s,by rw [B4];exact u4.m,by rw [B4];exact u4.k,by rw [kq];exact u4.p⟩,by show(y_ m n ld D).clock.length<=5;omega,by show(vN c D).length<=1000;omega,λe he=>?_,λc'=>?_⟩
 ·show rE m ((y_ m n ld D).clock.length:Nat) e
  rw [ue]
  exact h.ev e (List.mem_filter.1 he).1
 ·have hk:kE m (qo m (y_ m n ld []) c D) (vN c D) c'=(uP c D ++ uP c' (vN c D)).foldl (um m) (List.replicate (yw m).length nS):=by
   rw [kE,B4,List.foldl_append];rfl
  have hA:sW m n (uP c D ++ uP c' (vN c D)):=by
   refine⟨λe he=>?_,List.pairwise_append.2 ⟨yd.pw,((h.filter _).filter _).pw,λa ha b hb pz=>?_⟩⟩
   ·rcases zV.1 he with he|he
    ·exact yd.ev e he
    ·exact h.ev e (List.mem_filter.1 (List.mem_filter.1 he).1).1
   ·have h1:x9 c a.rep a.num:=of_decide_eq_true (List.mem_filter.1 ha).2
    have h2:¬x9 c b.rep b.num:=of_decide_eq_true (List.mem_filter.1 (List.mem_filter.1 hb).1).2
    have:a.rep=b.rep/\a.num=b.num:=by simpa [nm] using pz
    rw [this.1,this.2] at h1
    exact h2 h1
  have hlen:(uP c D ++ uP c' (vN c D)).length<=1000:=by
   have h1:(uP c' (vN c D)).length<=(vN c D).length:=List.length_filter_le _ _
   have h2:=Z4 (λe=>decide (x9 c e.rep e.num)) D
   have h3:(D.filter λe=> !decide (x9 c e.rep e.num))=vN c D:=List.filter_congr λe _=>by simp
   have h4:(D.filter λe=>decide (x9 c e.rep e.num))=uP c D:=rfl
   rw [h3,h4] at h2
   rw [zP]
   omega
  have:=ZU (hA.fold hx hlen)
  rw [<-hk] at this
  exact⟨this.1,this.2⟩
theorem z1_{W W':List q7}(h:∀w,w∈W↔w∈W')(e:yo)(k:Int):v7 e W k↔v7 e W' k:=by
 unfold v7;simp only [h]
theorem z1L.z3r{t:ym}{W W':List q7}{r:List Int}(h:∀w,w∈W↔w∈W')(hd:z1L t W r):z1L t W' r:=by
 have hs:=z1_ h
 have h2:z1n W↔z1n W':=by unfold z1n;simp only [h,hs]
 have h3:In1 W↔In1 W':=by unfold In1;simp only [h,hs]
 have h5:∀x,x∈x7 W↔x∈x7 W':=λx=>by
  unfold x7
  simp only [List.mem_map,List.mem_filter,decide_eq_true_eq,h,hs]
 have h6:x7 W= []↔x7 W'= []:=by
  rw [List.eq_nil_iff_forall_not_mem,List.eq_nil_iff_forall_not_mem]
  simp only [h5]
 refine⟨λk=>?_,λk=>?_,λk=>?_,λk=>?_⟩
 ·rw [hd.two k]
  by_cases hl:z1n W
  ·rw [if_pos hl,if_pos (h2.1 hl)]
  ·rw [if_neg hl,if_neg λh9=>hl (h2.2 h9)]
 ·rw [hd.three k]
  by_cases hl:In1 W
  ·rw [if_pos hl,if_pos (h3.1 hl)]
  ·rw [if_neg hl,if_neg λh9=>hl (h3.2 h9)]
 ·rcases hd.four k with⟨h8,h9⟩|⟨w,h7,h8,h9,Y_⟩
  ·exact .inl ⟨λw hw=>h8 w ((h w).2 hw),h9⟩
  ·exact .inr ⟨w,(h w).1 h7,h8,h9,λx hx=>Y_ x ((h x).2 hx)⟩
 ·rw [hd.z34 k]
  by_cases hl:x7 W= []
  ·rw [if_pos hl,if_pos (h6.1 hl)]
  ·rw [if_neg hl,if_neg λh9=>hl (h6.2 h9),z1H h5]
theorem z1o{l D:List yo}(h:RP l D):D.Nodup:=by
 refine List.pairwise_iff_getElem.2 λi j hi hj u5 he=>?_
 refine(h.nxt j D[j] (zE hj)).1 ?_
 rw [<-he]
 exact zM (i:=i) (by rw [List.getElem?_take,if_pos u5];exact zE hi)
theorem z2D{l D:List yo}(hc:ta l)(h:RP l D):RH D:=by
 intro i j a b hi hj hn
 have pz:=hc.2.1.eq (h.sub a (zM hi)) (h.sub b (zM hj)) hn
 subst pz
 rcases Nat.lt_trichotomy i j with h9|h9|h9
 ·exact absurd (zM (i:=i) (by rw [List.getElem?_take,if_pos h9];exact hi)) (h.nxt j a hj).1
 ·exact h9
 ·exact absurd (zM (i:=j) (by rw [List.getElem?_take,if_pos h9];exact hj)) (h.nxt i a hi).1
theorem z1T{l D:List yo}(hc:ta l)(h:RP l D):ta D:=by
 have hA:=h.all
 have hu:=z2D hc h
 have hn:∀e∈D,e.yj.length=n0 D:=λe he=>by
  obtain⟨i,hi⟩:=zO he
  obtain⟨d,hd⟩:=zz (l:=D) (i:=0) (by have:=(zS.1 hi).1;omega)
  rw [n0,hd]
  exact((hc.2.2.1 e (hA.sub e he)).2).trans ((hc.2.2.1 d (hA.sub d (zM hd))).2).symm
 refine⟨?_,hu,λe he=>⟨(hc.2.2.1 e (hA.sub e he)).1,hn e he⟩,λe he r n hr i h1 h2=>?_⟩
 ·exact Nat.le_trans ((z1o h).length_le_of_subset h.sub) hc.1
 ·have gT:=hA.sub e he
  obtain⟨x,hx,g1,g2,g3,g4⟩:=hc.2.2.2 e gT r n hr i h1 h2
  exact⟨x,hA.cls e he x hx ⟨(hc.2.2.1 e gT).1.1,z6,z6,n,by rw [g1];simpa using hr,z6⟩,g1,g2,g3,g4⟩
theorem RP.two{l A X:List yo}(hA:RP l A)(hX:RP l X){q:yo->Bool}(h1:∀e∈X,q e=true->e ∉ A)(h2:∀e∈X,q e=true->∀d∈X,x9 e.yj d.rep d.num->d∈A∨q d=true):RP l (A ++ X.filter q):=by
 have key:∀i,i<=X.length->RP l (A ++ (X.take i).filter q):=by
  intro i
  induction i with
  | zero=>intro _;simpa using hA
  | succ i ih =>
   intro hi
   obtain⟨e,he⟩:=zz (l:=X) (i:=i) z6
   have h0:=ih z6
   rw [zK,he,Option.toList_some,List.filter_append]
   by_cases hpe:q e=true
   ·rw [show [e].filter q= [e] by simp [hpe],<-List.append_assoc]
    have Oe:=zM he
    obtain⟨n1,n2⟩:=hX.nxt i e he
    refine h0.snoc (hX.sub e Oe) (λh=>?_) λd hd hh=>?_
    ·rcases zV.1 h with h|h
     ·exact h1 e Oe hpe h
     ·exact n1 (List.mem_filter.1 h).1
    ·have Cf:=n2 d hd hh
     rcases h2 e Oe hpe d (zW Cf) hh with h9|h9
     ·exact zV.2 (.inl h9)
     ·exact zV.2 (.inr (List.mem_filter.2 ⟨Cf,h9⟩))
   ·rw [show [e].filter q= [] by simp [hpe],List.append_nil]
    exact h0
 have:=key X.length (Nat.le_refl _)
 rwa [zL] at this
theorem z2F{bc wc c:List Int}{l:List yo}(h:wu bc l wc c=0):tO c bc/\∀e∈l,x9 c e.rep e.num->tO c e.yj:=by
 unfold wu at h
 repeat' split at h
 all_goals first
  | (exfalso;simp at h;done)
  | skip
 rename_i h2 h3 h4
 exact⟨Classical.not_not.1 h2,λe he hh=>Classical.byContradiction λh9=>h4 ⟨e,he,hh,h9⟩⟩
theorem z1G{a b:List Int}{r n:Int}(h:tO a b)(hh:x9 b r n):x9 a r n:=by
 obtain⟨⟨h1,h2,h3⟩,h4⟩:=(jl a b).1 h
 exact z1F h1 h4 z6 hh
structure z1V (m:y8) (ld:List Int) (l:List yo) (b:yt) (D:List yo) (at':List Int) (E:List yo):Prop where
 ext:RP l E
 ev:∀e∈E,rE m (n0 l:Nat) e
 pm:E.Perm (uP at' l)
 st:yU m b D at'=E.foldl (xY m) ld
 kn:kE m b D at'=E.foldl (um m) (List.replicate (yw m).length nS)
theorem z2M{m:y8}{l D0:List yo}{ld c at':List Int}{q:LB}(hc:ta l)(hD:sW m (n0 l) D0)(hX:RP l D0)(hq:q=(xi m ⟨y_ m (n0 l) ld [],D0,y_ m (n0 l) ld D0⟩ c).2)
  (hk:wu q.base.clock q.vm q.now.clock at'=0) (ug:q.now.clock=p_ (n0 l) l):∃E,z1V m ld l q.base q.vm at' E:=by
 have V8:GI l l:=⟨λ_ h=>h,λ_ _ d hd _=>hd⟩
 have hA:=hX.all
 have ik:p_ (n0 l) D0=p_ (n0 l) l->∀e,e∈D0↔e∈l:=λh e=>⟨hA.sub e,λhe=>(Pj hc hA he).1 (by rw [h];exact(Pj hc V8 he).2 he)⟩
 have Zp:(uP at' l).Nodup:=List.Pairwise.filter _ (z1Q hc.2.1)
 obtain⟨k1,k2⟩:=z2F hk
 have plain:q=⟨y_ m (n0 l) ld [],D0,y_ m (n0 l) ld D0⟩->∃E,z1V m ld l q.base q.vm at' E:=λh9=>by
  subst h9
  clear hq
  simp only at k1 k2 ug ⊢
  have hm:=ik ug
  refine⟨uP at' D0,hX.filter λe he hp d hd hh=>zT (z1G (k2 e he (of_decide_eq_true hp)) hh),λe he=>hD.ev e (List.mem_filter.1 he).1, ?_,rfl,rfl⟩
  exact(List.perm_ext_iff_of_nodup (List.Pairwise.filter _ (z1o hX)) Zp).2 λe=>by
   simp only [uP,List.mem_filter,hm]
 by_cases c1:vY c/\c.length=(y_ m (n0 l) ld D0).clock.length
 rotate_left
 ·have hF:xi m ⟨y_ m (n0 l) ld [],D0,y_ m (n0 l) ld D0⟩ c=(1,⟨y_ m (n0 l) ld [],D0,y_ m (n0 l) ld D0⟩):=@if_pos _ (zC _) c1 _ _ _
  rw [hF] at hq;exact plain hq
 by_cases c2:Ins (y_ m (n0 l) ld []).clock c/\Ins c (y_ m (n0 l) ld D0).clock/\∀e∈D0,x9 c e.rep e.num->Ins e.yj c
 rotate_left
 ·have hF:xi m ⟨y_ m (n0 l) ld [],D0,y_ m (n0 l) ld D0⟩ c=(9,⟨y_ m (n0 l) ld [],D0,y_ m (n0 l) ld D0⟩):=(@if_neg _ (zC _) (λh9=>h9 c1) _ _ _).trans (@if_pos _ (zC _) c2 _ _ _)
  rw [hF] at hq;exact plain hq
 have hF:xi m ⟨y_ m (n0 l) ld [],D0,y_ m (n0 l) ld D0⟩ c=(0,⟨qo m (y_ m (n0 l) ld []) c D0,vN c D0,{ y_ m (n0 l) ld D0 with merged:=(vN c D0).foldl (um m) (qo m (y_ m (n0 l) ld []) c D0).merged }⟩):=(@if_neg _ (zC _) (λh9=>h9 c1) _ _ _).trans (@if_neg _ (zC _) (λh9=>h9 c2) _ _ _)
 rw [hF] at hq
 subst hq
 simp only at k1 k2 ug ⊢
 have hm:=ik ug
 have ue:(y_ m (n0 l) ld D0).clock.length=n0 l:=sb ..
 have yL:(qo m (y_ m (n0 l) ld []) c D0).state=(y_ m (n0 l) ld (uP c D0)).state:=by unfold qo;rw [mK];rfl
 have B4:(qo m (y_ m (n0 l) ld []) c D0).merged=(y_ m (n0 l) ld (uP c D0)).merged:=by unfold qo;rw [mK];rfl
 have lz:(qo m (y_ m (n0 l) ld []) c D0).clock=c:=rfl
 rw [lz] at k1
 have SG:uP at' (vN c D0)=D0.filter λe=>decide (x9 at' e.rep e.num) && decide (¬x9 c e.rep e.num):=by
  rw [uP,vN,List.filter_filter]
 have e1:RP l (uP c D0):=hX.filter λe he hp d hd hh=>by
  have gT:=hX.sub e he
  exact zT (z1F c1.1 (c2.2.2 e he (of_decide_eq_true hp)) (by rw [(hc.2.2.1 e gT).2,c1.2,ue];exact Nat.le_refl _) hh)
 have e2:RP l (uP c D0 ++ uP at' (vN c D0)):=by
  rw [SG]
  refine e1.two hX (λe he hq h9=>?_) λe he hq d hd hh=>?_
  ·exact(of_decide_eq_true ((Bool.and_eq_true _ _▸hq).2)) (of_decide_eq_true (List.mem_filter.1 h9).2)
  ·obtain⟨q1,q2⟩:=(Bool.and_eq_true _ _).mp hq
   have q1:=of_decide_eq_true q1
   have q2:=of_decide_eq_true q2
   have eL:e∈vN c D0:=List.mem_filter.2 ⟨he,zT q2⟩
   have YZ:=z1G (k2 e eL q1) hh
   by_cases hcd:x9 c d.rep d.num
   ·exact .inl (List.mem_filter.2 ⟨hd,zT hcd⟩)
   ·exact .inr ((Bool.and_eq_true _ _).mpr ⟨zT YZ,zT hcd⟩)
 refine⟨uP c D0 ++ uP at' (vN c D0),e2,λe he=>?_, ?_, ?_, ?_⟩
 ·rcases zV.1 he with he|he
  ·exact hD.ev e (List.mem_filter.1 he).1
  ·exact hD.ev e (List.mem_filter.1 (List.mem_filter.1 he).1).1
 ·refine(List.perm_ext_iff_of_nodup (z1o e2) Zp).2 λe=>?_
  simp only [uP,vN,zV,List.mem_filter,decide_eq_true_eq,hm]
  constructor
  ·rintro(⟨h1,h2⟩|⟨⟨h1,_⟩,h3⟩)
   ·exact⟨h1,z1G k1 h2⟩
   ·exact⟨h1,h3⟩
  ·rintro⟨h1,h2⟩
   by_cases h3:x9 c e.rep e.num
   ·exact .inl ⟨h1,h3⟩
   ·exact .inr ⟨⟨h1,h3⟩,h2⟩
 ·rw [yU,yL,List.foldl_append];rfl
 ·rw [kE,B4,List.foldl_append];rfl
theorem z1V.z3l{m:y8}{ld:List Int}{l D E:List yo}{b:yt}{at':List Int}{V:List (List Int)}(hx:xR m)(hc:ta l)(hl:l.length<=1000)(h:z1V m ld l b D at' E)
  (hV:V.length=(yw m).length) (hd:∀(i:Nat) t r,(yw m)[i]?=some t->V[i]?=some r->z1L t (wrF m (uP at' l) i) r):vz m b D at'=V:=by
 have hEl:E.length<=1000:=Nat.le_trans ((z1o h.ext).length_le_of_subset h.ext.sub) hl
 obtain⟨g1,g2,_⟩:=z2Z hx.lay.ok hx.fit hc h.ext h.ev hEl _ (Nat.le_refl _)
 rw [zL,<-h.kn] at g1 g2
 have hv:(tQ m (kE m b D at')).2=tG (yw m) (kE m b D at'):=by rw [tQ,if_pos g2]
 rw [vz,hv]
 have hcE:=z1T hc h.ext
 have hlen:=g1.len
 refine List.ext_getElem? λi=>?_
 by_cases hi:i < (yw m).length
 ·obtain⟨t,ht⟩:=zz hi
  obtain⟨g,hg⟩:=zz (l:=kE m b D at') (i:=i) z6
  obtain⟨r,hr⟩:=zz (l:=V) (i:=i) z6
  have hw:∀w,w∈wrF m (uP at' l) i↔w∈wrF m E i:=λw=>by rw [q6,q6,h.pm.mem_iff]
  have:=z2K (Mk hx.lay.ok ht) hcE (g1.kn i t g ht hg).1 ((hd i t r ht hr).z3r hw)
  rw [hr,this,tG,zG,show((yw m).zip (kE m b D at'))[i]?=some (t,g) from List.getElem?_zip_eq_some.2 ⟨ht,hg⟩]
  rfl
 ·rw [zX (by rw [tG,List.length_map,List.length_zip];omega),zX z6]
theorem z1V.stt{m:y8}{ld:List Int}{l D E:List yo}{b:yt}{at':List Int}(h:z1V m ld l b D at' E):yU m b D at'=(uP at' l).foldl (xY m) ld:=by
 rw [h.st,z1R h.pm]
theorem jC(m:y8)(n:Int)(e:yo):y6 Tryz.prog 24 [wH m,it n,uL e] (bl (decide (rE m n e))):=by
 have hf:=mD e
 refine zy.of pg ye Tryz.func24 rfl Tryz.ntmps24 Tryz.results24 rfl λh0 G0 O0=>?_
 repeat'(first|apply Sp.h|refine Lk.r rfl ?_|refine Rf.mk rfl ?_|refine xA ?_|refine xB ?_|(refine Bd.mk ?_ ?_ <;> intro _)|refine Im.mk λ_=>?_|refine yc.mk λ_=>?_|refine xT ?_|refine Ch.l ⟨rfl,rfl⟩ ?_|refine xN ?_|(apply Cl.p (hf);focus repeat' constructor))
 all_goals refine Fin.p rfl (vb ?_)
 all_goals first
  | exact(zF (λh=>by
    obtain⟨h1,h2,h3⟩:=h
    first
     | exact absurd h1 z8
     | omega)).symm
  | exact(zT ⟨by assumption,z6,z6⟩).symm
  | exact zD.2 ⟨λh=>⟨by assumption,z6,z6⟩,λh=>by
    obtain⟨h1,h2,h3⟩:=h
    omega⟩
def wnC(w:q7):List AV:=uf w.1 ++ tL w.2
instance {e:yo} {a b c:Int}:Inv wnC [iv e.rep,iv e.num,iv e.time,ints e.yj,iv e.kind,iv e.action,iv e.gk,iv e.gi,iv e.ge,iv e.ga,iv e.to,iv e.place,iv e.wx,it a,it b,it c] (e,(a,b,c)):=⟨rfl⟩
abbrev wns (l:List q7):AV:= .sl 16 l wnC
theorem z2B(e:yo)(u1 u2 u3:Int)(W:List q7)(k:Int)(hx:we e)(hW:∀w∈W,we w.1)(hl:W.length<=100000):y6 Tryz.prog 147 [.agg (wnC (e,(u1,u2,u3))),wns W,it k] (bl (decide (v7 e W k))):=by
 refine zy.of pg z2W Tryz.func147 rfl Tryz.ntmps147 Tryz.results147 rfl λh0 G0 O0=>?_
 repeat'(first|apply Sp.h|refine Lk.r rfl ?_|refine Rf.mk rfl ?_|apply yc.mk|intro _)
 rename_i b3
 refine CA.loop (λi:Nat=>⟨[(1,wns W),(2,it k),(3,pm b3),(7,it i)],[yr b3 208 (wnC (e,(u1,u2,u3)))]⟩) (λi=>i<=W.length/\∀w∈W.take i,¬(w.2.1=k/\x9 w.1.yj e.rep e.num)) (λi=>W.length - i) 0 xE ⟨zZ _,by simp⟩ ?_
 rintro i ⟨hi,hn⟩
 by_cases yd:i < W.length
 ·obtain⟨⟨d,w1,w2,w3⟩,hw⟩:=zz yd
  have hb:=Zd e d
  have hd:we d:=hW _ (zM hw)
  by_cases hk:w1=k
  ·subst hk
   by_cases hB:eY e d
   ·rw [zT hB] at hb
    repeat'(first|apply Sp.h|refine Lk.r rfl ?_|refine Rf.mk rfl ?_|refine xA ?_|refine yu.r rfl ?_|refine Im.mk λ_=>?_|refine xT ?_|refine xI ?_|refine Ch.r ?_|refine xN ?_|refine xD ?_|(apply Cl.p (hb);focus repeat' constructor))
    all_goals exact Fin.p rfl (vb (zT (show v7 e W w1 from⟨_,zM hw,rfl,hB.2.2⟩)).symm)
   ·rw [zF hB] at hb
    repeat'(first|apply Sp.h|refine Lk.r rfl ?_|refine Rf.mk rfl ?_|refine xA ?_|refine yu.r rfl ?_|refine Im.mk λ_=>?_|refine xT ?_|refine xI ?_|refine Ch.r ?_|refine xD ?_|refine xO ?_|(apply Cl.p (hb);focus repeat' constructor))
    all_goals exact PA.lp (i+1) xE ⟨⟨yd,all_succ hw hn λh=>hB ⟨hx,hd,h.2⟩⟩,z6⟩
  ·repeat'(first|apply Sp.h|refine Lk.r rfl ?_|refine Rf.mk rfl ?_|refine xA ?_|refine xB ?_|refine yu.r rfl ?_|refine Im.mk λ_=>?_|refine xI ?_|refine xD ?_|refine xO ?_|(apply Cl.p (hb);(focus repeat'(first|fail))))
   all_goals exact PA.lp (i+1) xE ⟨⟨yd,all_succ hw hn λh=>hk h.1⟩,z6⟩
 ·have:i=W.length:=z6
  subst this
  rw [zL] at hn
  repeat'(first|apply Sp.h|refine Lk.r rfl ?_|refine Rf.mk rfl ?_|refine xB ?_|apply Im.mk|refine xN ?_|intro _)
  exact Fin.p rfl (vb (zF (λ⟨w,hw,h1,h2⟩=>hn w hw ⟨h1,h2⟩)).symm)
theorem z1Z{us:List qh}{k:Nat}{u:qh}{c:Int}(h:us[k]?=some u):uR (us.take (k+1)) c=if u.2.1=c then some u else uR (us.take k) c:=by
 rw [zK,h,Option.toList_some,uR,List.reverse_append]
 by_cases hc:u.2.1=c <;> simp [hc,uR]
theorem z2J{m:y8}{l:List yo}{n i:Nat}{e:yo}(he:l[i]?=some e):wrF m (l.take (i+1)) n=wrF m (l.take i) n ++ ((qA m e n).map λu=>(e,u)).toList:=by
 unfold wrF
 rw [zK,he,List.filterMap_append]
 cases h:qA m e n <;> simp [h]
theorem z2t(m:y8)(l:List yo)(n:Nat):(wrF m l n).length<=l.length:=List.length_filterMap_le _ _
def z3f(us:List qh)(j:Int)(q:Option qh):Prop:=(j= -1/\q=none)∨∃(n:Nat) (u:qh),j=n/\us[n]?=some u/\q=some u
theorem z1J(m:y8)(l:List yo)(c:Nat)(hl:l.length<=1000)(hv:∀e∈l,rE m (e.yj.length:Nat) e):tJ Tryz.prog 83 [wH m,vm l,it (c:Nat)] 208 16 (wrF m l c) wnC:=by
 refine zy.of pg z36 Tryz.func83 rfl Tryz.ntmps83 Tryz.results83 rfl λh0 G0 O0=>?_
 repeat'(first|apply Sp.h|refine Lk.r rfl ?_|refine Rf.mk rfl ?_|apply yc.mk|(apply Fk.r;focus repeat' first|infer_instance|constructor)|refine Rf.mk ⟨rfl,rfl,rfl⟩ ?_|intro _)
 rename_i b3 v
 apply CA.yR (m:=([]:List q7)) (g:=wnC)
 focus(repeat constructor)
 focus rfl
 refine CA.loop (λz:Nat×Value=>⟨[(1,vm l),(2,it (c:Nat)),(3,pm b3),(7,.ow z.2),(8,it z.1)],[mR b3 m,yb z.2 208 16 (wrF m (l.take z.1) c) wnC]⟩) (λz=>z.1<=l.length) (λz=>l.length - z.1) (0,v) xE (zZ _) ?_
 rintro⟨i,v⟩ hi
 simp only at hi
 simp only
 by_cases yd:i < l.length
 rotate_left
 ·have:i=l.length:=z6
  subst this
  rw [zL]
  repeat'(first|apply Sp.h|refine Lk.r rfl ?_|refine Rf.mk rfl ?_|refine xB ?_|apply Im.mk|refine xN ?_|intro _)
  exact⟨_,_,.one (.same (.z)),_,rfl,rfl⟩
 obtain⟨e,he⟩:=zz yd
 have rB:=hv e (zM he)
 have xe:=z2J (m:=m) (n:=c) he
 have hwl:=z2t m (l.take i) c
 rw [zN] at hwl
 by_cases hk:e.kind=0
 rotate_left
 ·rw [qA,if_neg hk,Option.map_none,Option.toList_none,List.append_nil] at xe
  repeat'(first|apply Sp.h|refine Lk.r rfl ?_|refine Rf.mk rfl ?_|refine xA ?_|refine xB ?_|apply Im.mk|refine xI ?_|refine xO ?_|intro _)
  rw [<-xe]
  all_goals exact PA.lp (i+1,v) xE ⟨yd,by simp only;omega⟩
 have eN:=nq rB.1 hk
 have Dh:=rB.2.2 hk
 obtain⟨a,ha⟩:=zz (l:=m.yP) (i:=e.action.toNat) z6
 have PU:lr m e=a.xu.yk:=by rw [lr,ha]
 rw [qA,if_pos hk,PU] at xe
 repeat'(first|apply Sp.h|refine Lk.r rfl ?_|refine Rf.mk rfl ?_|refine xA ?_|refine yu.r rfl ?_|apply Im.mk|refine xT ?_|refine xI ?_|(apply Ix.r;{exact z8};{exact z6})|refine xD ?_|intro _)
 refine CA.loop (λz:Nat×Int=>⟨[(1,vm l),(2,it (c:Nat)),(3,pm b3),(7,.ow v),(8,it i),(9,.sl 3 a.xu.yk tL),(10,it z.2),(11,it z.1)],[mR b3 m,yb v 208 16 (wrF m (l.take i) c) wnC]⟩)
  (λz=>z.1<=a.xu.yk.length/\z3f a.xu.yk z.2 (uR (a.xu.yk.take z.1) c)) (λz=>a.xu.yk.length - z.1) (0,-1) xE ⟨zZ _,.inl ⟨rfl,rfl⟩⟩ ?_
 rintro⟨k,j⟩ ⟨lK,hj⟩
 simp only at lK hj
 simp only
 by_cases rz:k < a.xu.yk.length
 ·obtain⟨⟨u1,u2,u3⟩,hu⟩:=zz rz
  have mM:=z1Z (c:=c) hu
  simp only at mM
  by_cases hc:u2=(c:Int)
  ·rw [if_pos hc] at mM
   repeat'(first|apply Sp.h|refine Lk.r rfl ?_|refine Rf.mk rfl ?_|refine xA ?_|apply Im.mk|refine xI ?_|refine xO ?_|intro _)
   all_goals exact PA.lp (k+1,(k:Int)) xE ⟨⟨rz,.inr ⟨k,_,rfl,hu,mM⟩⟩,by simp only;omega⟩
  ·rw [if_neg hc] at mM
   repeat'(first|apply Sp.h|refine Lk.r rfl ?_|refine Rf.mk rfl ?_|refine xA ?_|refine xB ?_|apply Im.mk|refine xI ?_|refine xO ?_|intro _)
   all_goals exact PA.lp (k+1,j) xE ⟨⟨rz,by rw [mM];exact hj⟩,by simp only;omega⟩
 have mO:k=a.xu.yk.length:=z6
 subst mO
 rw [zL] at hj
 rcases hj with⟨rfl,hn⟩|⟨n,⟨u1,u2,u3⟩,rfl,hu,hs⟩
 ·rw [hn,Option.map_none,Option.toList_none,List.append_nil] at xe
  repeat'(first|apply Sp.h|refine Lk.r rfl ?_|refine Rf.mk rfl ?_|refine xB ?_|apply Im.mk|refine xO ?_|intro _)
  rw [<-xe]
  all_goals exact PA.lp (i+1,v) xE ⟨yd,by simp only;omega⟩
 ·rw [hs,Option.map_some,Option.toList_some] at xe
  repeat'(first|apply Sp.h|refine Lk.r rfl ?_|refine Rf.mk rfl ?_|refine xA ?_|refine xB ?_|refine yu.r rfl ?_|refine xP ?_|apply Im.mk|apply yc.mk|refine xU ?_|refine xI ?_|refine Ce.r ?_|refine Ch.l ⟨rfl,rfl⟩ ?_|(apply Fk.r;focus repeat' first|infer_instance|constructor)|refine Rf.mk ⟨rfl,rfl⟩ ?_|refine Rf.mk ⟨rfl,rfl,rfl⟩ ?_|(apply Mp.lit;(focus repeat(first|exact yK.nil|(apply yK.cons;{exact zu})|(apply yK.inv;{exact z1};{exact zh}))))|refine xD ?_|refine xO ?_|intro _)
  rw [<-xe]
  all_goals exact PA.lp (i+1,_) xE ⟨yd,by simp only;omega⟩
def nW(p:q7->Bool)(W:List q7)(i:Nat):Int:=(((W.take i).filter p).length:Nat)
theorem z1E{p:q7->Bool}{W:List q7}{i:Nat}{w:q7}(h:W[i]?=some w):nW p W (i+1)=if p w=true then nW p W i+1 else nW p W i:=by
 unfold nW
 rw [zK,h,Option.toList_some,List.filter_append]
 by_cases hp:p w=true <;> simp [hp]
theorem z1M(p:q7->Bool)(W:List q7)(i:Nat):0<=nW p W i/\nW p W i<=W.length:=by
 unfold nW
 have h1:=List.length_filter_le p (W.take i)
 rw [zN] at h1
 omega
theorem z1N(p:q7->Bool)(W:List q7):0 < nW p W W.length↔∃w∈W,p w=true:=by
 unfold nW
 rw [zL]
 constructor
 ·intro h
  obtain⟨w,hw⟩:=zz (l:=W.filter p) (i:=0) z6
  exact⟨w,List.mem_filter.1 (zM hw)⟩
 ·rintro⟨w,hw,hp⟩
  have:=List.length_pos_of_mem (List.mem_filter.2 ⟨hw,hp⟩)
  omega
noncomputable def pP(w:q7):Bool:=decide (w.2.1=0)
noncomputable def pL(W:List q7)(w:q7):Bool:=decide (w.2.1=0/\¬v7 w.1 W 1)
noncomputable def pM(W:List q7)(w:q7):Bool:=decide (w.2.1=1/\¬v7 w.1 W 0)
noncomputable def pO(W:List q7)(w:q7):Bool:=decide (w.2.1=2/\¬v7 w.1 W 2)
noncomputable instance (a b:yo):Decidable (LtT a b):=zC _
noncomputable def l6(W:List q7):Nat->Int
 | 0=> -1
 | i+1=>match W[i]? with
  | some w=>if w.2.1=2 then(match W[(l6 W i).toNat]? with
   | some x=>if l6 W i < 0∨LtT x.1 w.1 then(i:Int) else l6 W i
   | none=>(i:Int)) else l6 W i
  | none=>l6 W i
def z3s(W:List q7)(i:Nat)(b:Int):Prop:=(b= -1/\∀w∈W.take i,w.2.1≠2)∨∃(n:Nat) (w:q7),b=n/\n < i/\W[n]?=some w/\w.2.1=2/\∀x∈W.take i,x.2.1=2->¬LtT w.1 x.1
theorem z1D{W:List q7}{i:Nat}{w:q7}(h:W[i]?=some w)(hk:w.2.1≠2):l6 W (i+1)=l6 W i:=by
 simp only [l6,h,if_neg hk]
theorem z2v{W:List q7}{i:Nat}{w:q7}(h:W[i]?=some w)(hk:w.2.1=2)(hb:l6 W i < 0):l6 W (i+1)=i:=by
 simp only [l6,h,if_pos hk]
 split
 ·rw [if_pos (.inl hb)]
 ·rfl
theorem z2w{W:List q7}{i n:Nat}{w x:q7}(h:W[i]?=some w)(hk:w.2.1=2)(hb:l6 W i=n)(hn:W[n]?=some x):l6 W (i+1)=if LtT x.1 w.1 then(i:Int) else n:=by
 simp only [l6,h,if_pos hk,hb,Int.toNat_natCast,hn]
 by_cases hl:LtT x.1 w.1
 ·rw [if_pos (.inr hl),if_pos hl]
 ·rw [if_neg (λh9=>h9.elim z6 hl),if_neg hl]
theorem z2u(W:List q7) :∀i,i<=W.length->z3s W i (l6 W i):=by
 intro i
 induction i with
 | zero=>intro _;exact .inl ⟨rfl,λw h=>by simp at h⟩
 | succ i ih =>
  intro hi
  obtain⟨w,hw⟩:=zz (l:=W) (i:=i) z6
  have h0:=ih z6
  by_cases hk:w.2.1=2
  rotate_left
  ·rw [z1D hw hk]
   rcases h0 with⟨h1,h2⟩|⟨n,x,h1,h2,h3,h4,h5⟩
   ·exact .inl ⟨h1,all_succ hw h2 hk⟩
   ·exact .inr ⟨n,x,h1,z6,h3,h4,all_succ hw h5 λh9=>absurd h9 hk⟩
  rcases h0 with⟨h1,h2⟩|⟨n,x,h1,h2,h3,h4,h5⟩
  ·rw [z2v hw hk z6]
   exact .inr ⟨i,w,rfl,z6,hw,hk,all_succ hw (λy hy h9=>absurd h9 (h2 y hy)) λ_ h9=>by unfold LtT at h9;omega⟩
  ·rw [z2w hw hk h1 h3]
   by_cases hl:LtT x.1 w.1
   ·rw [if_pos hl]
    exact .inr ⟨i,w,rfl,z6,hw,hk,all_succ hw (λy hy h9 h8=>h5 y hy h9 (by unfold LtT at hl h8 ⊢;omega)) λ_ h9=>by unfold LtT at h9;omega⟩
   ·rw [if_neg hl]
    exact .inr ⟨n,x,rfl,z6,h3,h4,all_succ hw h5 λ_=>hl⟩
noncomputable def x6(t:ym)(W:List q7):List Int :=
 if t.kind=2 then [if z1n W then 1 else 0] else if t.kind=3 then [if In1 W then 1 else 0] else if t.kind=4 then(match W[(l6 W W.length).toNat]? with
  | some w=>if l6 W W.length < 0 then [Lf t] else [w.2.2.2]
  | none=> [Lf t]) else if x7 W= [] then [Lf t] else gY (x7 W)
theorem z2L(t:ym)(W:List q7):z1L t W (x6 t W):=by
 refine⟨λk=>by rw [x6,if_pos k],λk=>by rw [x6,if_neg z6,if_pos k],λk=>?_,λk=>by rw [x6,if_neg z6,if_neg z6,if_neg z6]⟩
 rw [x6,if_neg z6,if_neg z6,if_pos k]
 rcases z2u W W.length (Nat.le_refl _) with⟨h1,h2⟩|⟨n,x,h1,h2,h3,h4,h5⟩
 ·rw [zL] at h2
  refine .inl ⟨h2, ?_⟩
  split
  ·rw [if_pos z6]
  ·rfl
 ·rw [zL] at h5
  refine .inr ⟨x,zM h3,h4, ?_,h5⟩
  rw [h1,Int.toNat_natCast,h3]
  simp only
  rw [if_neg z6]
theorem z1X(W:List q7):(x7 W).length<=W.length:=by
 unfold x7
 rw [List.length_map]
 exact List.length_filter_le _ _
theorem z1Y(t:ym)(W:List q7):(x6 t W).length<=W.length+1:=by
 have h1:=z1X W
 have h2:=qL (x7 W)
 unfold x6
 repeat' split
 all_goals first
  | (simp;done)
  | omega
noncomputable def o5(W:List q7)(i:Nat):List Int:=((W.take i).filter (pO W)).map (·.2.2.2)
theorem z2O{W:List q7}{i:Nat}{w:q7}(h:W[i]?=some w):o5 W (i+1)=if pO W w=true then o5 W i ++ [w.2.2.2] else o5 W i:=by
 unfold o5
 rw [zK,h,Option.toList_some,List.filter_append]
 by_cases hp:pO W w=true <;> simp [hp]
theorem z2X(W:List q7)(i:Nat):(o5 W i).length<=W.length:=by
 unfold o5
 have h1:=List.length_filter_le (pO W) (W.take i)
 rw [zN] at h1
 rw [List.length_map]
 omega
theorem z2Y(W:List q7):o5 W W.length=x7 W:=by
 unfold o5 x7
 rw [zL]
 rfl
theorem z1W(t:ym)(W:List q7)(hk:Kd t)(hf:∀w∈W,we w.1)(hl:W.length<=1000):y6 Tryz.prog 82 [.agg (v8 t),wns W] (ints (x6 t W)):=by
 refine zy.fx (K:=λr own=>(r=ints (x6 t W)/\own= [])∨∃v,r= .ow v/\own= [yb v 3 1 (x6 t W) xL]) ?_ ?_
 rotate_left
 ·have:=z1Y t W
  rintro _ _ (⟨rfl,rfl⟩|⟨v,rfl,rfl⟩)
  ·exact .le (wV.refl _) .nil
  ·exact .s1 .here z6 .nil
 refine zy.of pg z38 Tryz.func82 rfl Tryz.ntmps82 Tryz.results82 rfl λh0 G0 O0=>?_
 repeat'(first|apply Sp.h|refine Lk.r rfl ?_|refine Rf.mk rfl ?_|apply yc.mk|(apply Fk.r;focus repeat' first|infer_instance|constructor)|refine Rf.mk ⟨rfl,rfl,rfl⟩ ?_|intro _)
 rename_i b2 v
 apply CA.yR (m:=([]:List Int)) (g:=xL)
 focus(repeat constructor)
 focus rfl
 refine CA.loop (λz:Nat×Value=>⟨[(1,wns W),(2,pm b2),(5,it (nW pP W z.1)),(6,it (nW (pL W) W z.1)),(7,it (nW (pM W) W z.1)),(8,.ow z.2),(9,it (l6 W z.1)),(10,it z.1)],[yr b2 150 (v8 t),yb z.2 3 1 (o5 W z.1) xL]⟩) (λz=>z.1<=W.length) (λz=>W.length - z.1) (0,v) xE (zZ _) ?_
 rintro⟨i,v⟩ hi
 simp only at hi
 simp only
 have r1:=z1M pP W i
 have r2:=z1M (pL W) W i
 have r3:=z1M (pM W) W i
 have r5:=z2X W i
 have hbo:=z2u W i hi
 by_cases yd:i < W.length
 ·obtain⟨⟨e,u1,u2,u3⟩,hw⟩:=zz yd
  have jV:we e:=hf _ (zM hw)
  have s1:=z1E (p:=pP) hw
  have s2:=z1E (p:=pL W) hw
  have s3:=z1E (p:=pM W) hw
  have s5:=z2O hw
  simp only [pP,pL,pM,pO,decide_eq_true_eq] at s1 s2 s3 s5
  have SB:=λk=>z2B e u1 u2 u3 W k jV hf z6
  by_cases k0:u1=0
  ·have hs:=SB 1
   have s4:=z1D hw (by simp only;omega)
   rw [if_pos k0] at s1
   rw [if_neg z6] at s3 s5
   by_cases hS:v7 e W 1
   ·rw [zT hS] at hs
    rw [if_neg (λh=>h.2 hS)] at s2
    repeat'(first|apply Sp.h|refine Lk.r rfl ?_|refine Rf.mk rfl ?_|refine xA ?_|refine Im.mk λ_=>?_|refine xI ?_|refine Ch.l ⟨rfl,rfl⟩ ?_|refine xO ?_|(apply Cl.p (hs);focus repeat' constructor))
    all_goals exact PA.lp (i+1,v) (by rw [s1,s2,s3,s4,s5];exact xE) ⟨yd,by simp only;omega⟩
   ·rw [zF hS] at hs
    rw [if_pos ⟨k0,hS⟩] at s2
    repeat'(first|apply Sp.h|refine Lk.r rfl ?_|refine Rf.mk rfl ?_|refine xA ?_|refine xB ?_|refine Im.mk λ_=>?_|refine xI ?_|refine Ch.l ⟨rfl,rfl⟩ ?_|refine xO ?_|(apply Cl.p (hs);focus repeat' constructor))
    all_goals exact PA.lp (i+1,v) (by rw [s1,s2,s3,s4,s5];exact xE) ⟨yd,by simp only;omega⟩
  by_cases k1:u1=1
  ·have hs:=SB 0
   have s4:=z1D hw (by simp only;omega)
   rw [if_neg k0] at s1
   rw [if_neg z6] at s2 s5
   by_cases hS:v7 e W 0
   ·rw [zT hS] at hs
    rw [if_neg (λh=>h.2 hS)] at s3
    repeat'(first|apply Sp.h|refine Lk.r rfl ?_|refine Rf.mk rfl ?_|refine xA ?_|refine xB ?_|refine Im.mk λ_=>?_|refine xI ?_|refine Ch.l ⟨rfl,rfl⟩ ?_|refine xO ?_|(apply Cl.p (hs);focus repeat' constructor))
    all_goals exact PA.lp (i+1,v) (by rw [s1,s2,s3,s4,s5];exact xE) ⟨yd,by simp only;omega⟩
   ·rw [zF hS] at hs
    rw [if_pos ⟨k1,hS⟩] at s3
    repeat'(first|apply Sp.h|refine Lk.r rfl ?_|refine Rf.mk rfl ?_|refine xA ?_|refine xB ?_|refine Im.mk λ_=>?_|refine xI ?_|refine Ch.l ⟨rfl,rfl⟩ ?_|refine xO ?_|(apply Cl.p (hs);focus repeat' constructor))
    all_goals exact PA.lp (i+1,v) (by rw [s1,s2,s3,s4,s5];exact xE) ⟨yd,by simp only;omega⟩
  rw [if_neg k0] at s1
  rw [if_neg z6] at s2 s3
  by_cases k2:u1=2
  rotate_left
  ·have s4:=z1D hw k2
   rw [if_neg z6] at s5
   repeat'(first|apply Sp.h|refine Lk.r rfl ?_|refine Rf.mk rfl ?_|refine xA ?_|refine xB ?_|apply Im.mk|refine xI ?_|refine xO ?_|intro _)
   all_goals exact PA.lp (i+1,v) (by rw [s1,s2,s3,s4,s5];exact xE) ⟨yd,by simp only;omega⟩
  have hs:=SB 2
  rcases hbo with⟨hb,_⟩|⟨n,⟨d,d1,d2,d3⟩,hb,hni,hn,_,_⟩
  ·have s4:=z2v hw k2 z6
   rw [hb]
   by_cases hS:v7 e W 2
   ·rw [zT hS] at hs
    rw [if_neg (λh=>h.2 hS)] at s5
    repeat'(first|apply Sp.h|refine Lk.r rfl ?_|refine Rf.mk rfl ?_|refine xA ?_|refine xB ?_|refine yu.r rfl ?_|refine Im.mk λ_=>?_|refine xI ?_|refine Ch.l ⟨rfl,rfl⟩ ?_|refine xD ?_|refine xO ?_|(apply Cl.p (hs);focus repeat' constructor))
    all_goals exact PA.lp (i+1,v) (by rw [s1,s2,s3,s4,s5];exact xE) ⟨yd,by simp only;omega⟩
   ·rw [zF hS] at hs
    rw [if_pos ⟨k2,hS⟩] at s5
    repeat'(first|apply Sp.h|refine Lk.r rfl ?_|refine Rf.mk rfl ?_|refine xA ?_|refine xB ?_|refine yu.r rfl ?_|refine xP ?_|refine Im.mk λ_=>?_|refine yc.mk λ_=>?_|refine xU ?_|refine xI ?_|refine Ce.r ?_|refine Ch.l ⟨rfl,rfl⟩ ?_|(apply Fk.r;focus repeat' first|infer_instance|constructor)|refine Rf.mk ⟨rfl,rfl⟩ ?_|refine Rf.mk ⟨rfl,rfl,rfl⟩ ?_|(apply Mp.lit;(focus repeat(first|exact yK.nil|(apply yK.cons;{exact zu})|(apply yK.inv;{exact z1};{exact zh}))))|refine xD ?_|refine xO ?_|(apply Cl.p (hs);focus repeat' constructor))
    all_goals exact PA.lp (i+1,_) (by rw [s1,s2,s3,s4,s5];exact xE) ⟨yd,by simp only;omega⟩
  ·have s4:=z2w hw k2 hb hn
   rw [hb]
   simp only at s4
   by_cases xC:LtT d e
   ·rw [if_pos xC] at s4
    unfold LtT at xC
    by_cases hS:v7 e W 2
    ·rw [zT hS] at hs
     rw [if_neg (λh=>h.2 hS)] at s5
     repeat'(first|apply Sp.h|refine Lk.r rfl ?_|refine Rf.mk rfl ?_|refine xA ?_|refine xB ?_|(refine Bd.mk ?_ ?_ <;> intro _)|refine yu.r rfl ?_|refine Im.mk λ_=>?_|refine xI ?_|refine Ch.l ⟨rfl,rfl⟩ ?_|refine xD ?_|refine xO ?_|(apply Cl.p (hs);focus repeat' constructor))
     all_goals first
      | exact(by simp only at *;omega:False).elim
      | exact PA.lp (i+1,v) (by rw [s1,s2,s3,s4,s5];exact xE) ⟨yd,by simp only;omega⟩
    ·rw [zF hS] at hs
     rw [if_pos ⟨k2,hS⟩] at s5
     repeat'(first|apply Sp.h|refine Lk.r rfl ?_|refine Rf.mk rfl ?_|refine xA ?_|refine xB ?_|(refine Bd.mk ?_ ?_ <;> intro _)|refine yu.r rfl ?_|refine xP ?_|refine Im.mk λ_=>?_|refine yc.mk λ_=>?_|refine xU ?_|refine xI ?_|refine Ce.r ?_|refine Ch.l ⟨rfl,rfl⟩ ?_|(apply Fk.r;focus repeat' first|infer_instance|constructor)|refine Rf.mk ⟨rfl,rfl⟩ ?_|refine Rf.mk ⟨rfl,rfl,rfl⟩ ?_|(apply Mp.lit;(focus repeat(first|exact yK.nil|(apply yK.cons;{exact zu})|(apply yK.inv;{exact z1};{exact zh}))))|refine xD ?_|refine xO ?_|(apply Cl.p (hs);focus repeat' constructor))
     all_goals first
      | exact(by simp only at *;omega:False).elim
      | exact PA.lp (i+1,_) (by rw [s1,s2,s3,s4,s5];exact xE) ⟨yd,by simp only;omega⟩
   ·rw [if_neg xC] at s4
    unfold LtT at xC
    by_cases hS:v7 e W 2
    ·rw [zT hS] at hs
     rw [if_neg (λh=>h.2 hS)] at s5
     repeat'(first|apply Sp.h|refine Lk.r rfl ?_|refine Rf.mk rfl ?_|refine xA ?_|refine xB ?_|(refine Bd.mk ?_ ?_ <;> intro _)|refine yu.r rfl ?_|refine Im.mk λ_=>?_|refine xI ?_|refine Ch.l ⟨rfl,rfl⟩ ?_|refine xD ?_|refine xO ?_|(apply Cl.p (hs);focus repeat' constructor))
     all_goals first
      | exact(by simp only at *;omega:False).elim
      | exact PA.lp (i+1,v) (by rw [s1,s2,s3,s4,s5];exact xE) ⟨yd,by simp only;omega⟩
    ·rw [zF hS] at hs
     rw [if_pos ⟨k2,hS⟩] at s5
     repeat'(first|apply Sp.h|refine Lk.r rfl ?_|refine Rf.mk rfl ?_|refine xA ?_|refine xB ?_|(refine Bd.mk ?_ ?_ <;> intro _)|refine yu.r rfl ?_|refine xP ?_|refine Im.mk λ_=>?_|refine yc.mk λ_=>?_|refine xU ?_|refine xI ?_|refine Ce.r ?_|refine Ch.l ⟨rfl,rfl⟩ ?_|(apply Fk.r;focus repeat' first|infer_instance|constructor)|refine Rf.mk ⟨rfl,rfl⟩ ?_|refine Rf.mk ⟨rfl,rfl,rfl⟩ ?_|(apply Mp.lit;(focus repeat(first|exact yK.nil|(apply yK.cons;{exact zu})|(apply yK.inv;{exact z1};{exact zh}))))|refine xD ?_|refine xO ?_|(apply Cl.p (hs);focus repeat' constructor))
     all_goals first
      | exact(by simp only at *;omega:False).elim
      | exact PA.lp (i+1,_) (by rw [s1,s2,s3,s4,s5];exact xE) ⟨yd,by simp only;omega⟩
 have vk:i=W.length:=z6
 subst vk
 have q1:=z1N pP W
 have q2:=z1N (pL W) W
 have q3:=z1N (pM W) W
 simp only [pP,pL,pM,decide_eq_true_eq] at q1 q2 q3
 have z30:=Wg t.lo t.hi
 rw [z2Y] at r5 ⊢
 rcases hk with k|k|k|k
 ·have hv:x6 t W= [if z1n W then 1 else 0]:=by rw [x6,if_pos k]
  by_cases hL:z1n W
  ·rw [if_pos hL] at hv
   have:=q2.2 hL
   rw [hv]
   repeat'(first|apply Sp.h|refine Lk.r rfl ?_|refine Rf.mk rfl ?_|refine xA ?_|refine xB ?_|apply Im.mk|apply yc.mk|refine xT ?_|(apply Fk.r;focus repeat' first|infer_instance|constructor)|refine xN ?_|refine Rf.mk ⟨rfl,rfl,rfl⟩ ?_|intro _)
   all_goals first
    | (refine⟨_,_,.one (.same (.nil (lF.cons .here .nil))),.inr ⟨_,rfl, ?_⟩⟩;exact congrArg (λR=> [R]) (pc rfl))
    | exact(by omega:False).elim
  ·rw [if_neg hL] at hv
   have:¬0 < nW (pL W) W W.length:=λh=>hL (q2.1 h)
   rw [hv]
   repeat'(first|apply Sp.h|refine Lk.r rfl ?_|refine Rf.mk rfl ?_|refine xA ?_|refine xB ?_|apply Im.mk|apply yc.mk|refine xT ?_|(apply Fk.r;focus repeat' first|infer_instance|constructor)|refine xN ?_|refine Rf.mk ⟨rfl,rfl,rfl⟩ ?_|intro _)
   all_goals first
    | (refine⟨_,_,.one (.same (.nil (lF.cons .here .nil))),.inr ⟨_,rfl, ?_⟩⟩;exact congrArg (λR=> [R]) (pc rfl))
    | exact(by omega:False).elim
 ·have hv:x6 t W= [if In1 W then 1 else 0]:=by rw [x6,if_neg z6,if_pos k]
  by_cases hL:In1 W
  ·rw [if_pos hL] at hv
   have h1:=q1.2 hL.1
   have h2:¬0 < nW (pM W) W W.length:=λh=>hL.2 (q3.1 h)
   rw [hv]
   repeat'(first|apply Sp.h|refine Lk.r rfl ?_|refine Rf.mk rfl ?_|refine xA ?_|refine xB ?_|apply Im.mk|apply yc.mk|refine xT ?_|(apply Fk.r;focus repeat' first|infer_instance|constructor)|refine xN ?_|refine Rf.mk ⟨rfl,rfl,rfl⟩ ?_|intro _)
   all_goals first
    | (refine⟨_,_,.one (.same (.nil (lF.cons .here .nil))),.inr ⟨_,rfl, ?_⟩⟩;exact congrArg (λR=> [R]) (pc rfl))
    | exact(by omega:False).elim
  ·rw [if_neg hL] at hv
   have h1:¬(0 < nW pP W W.length/\¬0 < nW (pM W) W W.length):=λh=>hL ⟨q1.1 h.1,λh9=>h.2 (q3.2 h9)⟩
   rw [hv]
   repeat'(first|apply Sp.h|refine Lk.r rfl ?_|refine Rf.mk rfl ?_|refine xA ?_|refine xB ?_|apply Bd.mk|apply Im.mk|apply yc.mk|refine xT ?_|(apply Fk.r;focus repeat' first|infer_instance|constructor)|refine xN ?_|refine Rf.mk ⟨rfl,rfl,rfl⟩ ?_|intro _)
   all_goals first
    | (refine⟨_,_,.one (.same (.nil (lF.cons .here .nil))),.inr ⟨_,rfl, ?_⟩⟩;exact congrArg (λR=> [R]) (pc rfl))
    | exact(by omega:False).elim
 ·have hv:x6 t W=(match W[(l6 W W.length).toNat]? with
    | some w=>if l6 W W.length < 0 then [Lf t] else [w.2.2.2]
    | none=> [Lf t]):=by rw [x6,if_neg z6,if_neg z6,if_pos k]
  rcases hbo with⟨hb,_⟩|⟨n,⟨d,d1,d2,d3⟩,hb,hni,hn,_,_⟩
  ·have hv:x6 t W= [min (max 0 t.lo) t.hi]:=by
    rw [hv]
    split
    ·rw [if_pos z6];rfl
    ·rfl
   rw [hv,hb]
   repeat'(first|apply Sp.h|refine Lk.r rfl ?_|refine Rf.mk rfl ?_|refine xA ?_|refine xB ?_|refine Im.mk λ_=>?_|refine yc.mk λ_=>?_|refine xT ?_|refine Ch.r ?_|(apply Fk.r;focus repeat' first|infer_instance|constructor)|refine xN ?_|refine Rf.mk ⟨rfl,rfl,rfl⟩ ?_|(apply Cl.p (z30);focus repeat' constructor))
   all_goals first
    | (refine⟨_,_,.one (.same (.nil (lF.cons .here .nil))),.inr ⟨_,rfl, ?_⟩⟩;exact congrArg (λR=> [R]) (pc rfl))
    | exact(by omega:False).elim
  ·have hv:x6 t W= [d3]:=by
    rw [hv,hb,Int.toNat_natCast,hn]
    simp only
    rw [if_neg z6]
   rw [hv,hb]
   repeat'(first|apply Sp.h|refine Lk.r rfl ?_|refine Rf.mk rfl ?_|refine xA ?_|refine xB ?_|apply Im.mk|apply yc.mk|refine xT ?_|refine xI ?_|(apply Fk.r;focus repeat' first|infer_instance|constructor)|refine xN ?_|refine Rf.mk ⟨rfl,rfl,rfl⟩ ?_|intro _)
   all_goals first
    | (refine⟨_,_,.one (.same (.nil (lF.cons .here .nil))),.inr ⟨_,rfl, ?_⟩⟩;exact congrArg (λR=> [R]) (pc rfl))
    | exact(by omega:False).elim
 ·have hv:x6 t W=if x7 W= [] then [Lf t] else gY (x7 W):=by rw [x6,if_neg z6,if_neg z6,if_neg z6]
  by_cases h0:x7 W= []
  ·rw [if_pos h0] at hv
   change x6 t W= [min (max 0 t.lo) t.hi] at hv
   rw [hv,h0]
   repeat'(first|apply Sp.h|refine Lk.r rfl ?_|refine Rf.mk rfl ?_|refine xA ?_|refine xB ?_|refine Im.mk λ_=>?_|refine yc.mk λ_=>?_|refine xU ?_|refine xT ?_|refine Ch.r ?_|(apply Fk.r;focus repeat' first|infer_instance|constructor)|refine xN ?_|refine Rf.mk ⟨rfl,rfl,rfl⟩ ?_|(apply Cl.p (z30);focus repeat' constructor))
   all_goals first
    | (refine⟨_,_,.one (.same (.nil (lF.cons .here .nil))),.inr ⟨_,rfl, ?_⟩⟩;exact congrArg (λR=> [R]) (pc rfl))
    | exact(by omega:False).elim
  ·rw [if_neg h0] at hv
   have qY:=UP (x7 W) z6
   have h0':(x7 W).length≠0:=λh=>h0 (zQ h)
   apply CA.freeze 8
   focus rfl
   focus(repeat constructor)
   focus omega
   rw [hv]
   repeat'(first|apply Sp.h|refine Lk.r rfl ?_|refine Rf.mk rfl ?_|refine xB ?_|refine Im.mk λ_=>?_|refine xT ?_|refine xN ?_|(apply Cl.p (qY);focus repeat' constructor))
   all_goals first
    | exact⟨_,_,.one (.same (.z)),.inl ⟨rfl,rfl⟩⟩
    | exact(by omega:False).elim
end Go.Proofs.YtmjllbjfkafhdaaGreatDoor
