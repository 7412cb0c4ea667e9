/- Part 14 of the ground of this proof: what its texts say of the model, the program and the plain data; conditions: those that are named. -/
import Derived.Test.YtmjllbjfkafhdaaGreatDoorT13
namespace Go.Proofs.YtmjllbjfkafhdaaGreatDoor
open Go Go.CF
def Lf(t:ym):Int:=min (max 0 t.lo) t.hi
noncomputable def gY(l:List Int):List Int:=dd (sq l)
theorem j7(l:List Int):(sq l).length=l.length:=by simp [sq]
theorem qL(l:List Int):(gY l).length<=l.length:=by
 have:=Yt (l:=sq l) (sq l).length
 rw [j7] at this
 rw [gY,dd,j7];exact this
def SI(l s:List Int):Prop:=s.Pairwise (· < ·)/\∀x,x∈s↔x∈l
theorem SI.uniq{l s t:List Int}(g1:SI l s)(g2:SI l t):s=t:=by
 have key:∀s t:List Int,s.Pairwise (· < ·)->t.Pairwise (· < ·)->(∀x,x∈s↔x∈t)->s=t:=by
  intro s
  induction s with
  | nil =>
   intro t _ _ h
   cases t with
   | nil=>rfl
   | cons b t=>exact absurd ((h b).2 zd) zd
  | cons a s ih =>
   intro t hs ht h
   cases t with
   | nil=>exact absurd ((h a).1 zd) zd
   | cons b t =>
    obtain⟨h1,h2⟩:=List.pairwise_cons.1 hs
    obtain⟨h3,h4⟩:=List.pairwise_cons.1 ht
    have pz:a=b:=by
     rcases List.mem_cons.1 ((h a).1 zd) with e|e
     ·exact e
     ·rcases List.mem_cons.1 ((h b).2 zd) with e2|e2
      ·exact e2.symm
      ·have:=h1 b e2;have:=h3 a e;omega
    subst pz
    rw [ih t h2 h4 λx=>?_]
    have:=h x
    simp only [List.mem_cons] at this
    constructor
    ·intro hx
     rcases this.1 (.inr hx) with e|e
     ·subst e;have:=h1 _ hx;omega
     ·exact e
    ·intro hx
     rcases this.2 (.inr hx) with e|e
     ·subst e;have:=h3 _ hx;omega
     ·exact e
 exact key _ _ g1.1 g2.1 λx=>(g1.2 x).trans (g2.2 x).symm
theorem cF(l:List Int):(sq l).Pairwise (·<=·):=by
 have:=List.pairwise_mergeSort (le:=λx y:Int=>decide (x<=y)) (λa b c h1 h2=>by simp at *;omega) (λa b=>by simp;omega) l
 exact this.imp λh=>by simpa using h
theorem lS(l:List Int):SI l (gY l):=by
 have hs:=cF l
 have hm:∀x,x∈sq l↔x∈l:=λx=>List.mem_mergeSort
 suffices key:∀i,i<=(sq l).length->(bw (sq l) i).Pairwise (· < ·)/\(∀x,x∈bw (sq l) i↔x∈(sq l).take i) by
  obtain⟨h1,h2⟩:=key _ (Nat.le_refl _)
  rw [zL] at h2
  exact⟨h1,λx=>(h2 x).trans (hm x)⟩
 intro i
 induction i with
 | zero=>intro _;exact⟨List.Pairwise.nil,λx=>by simp [bw]⟩
 | succ i ih =>
  intro hi
  obtain⟨h1,h2⟩:=ih z6
  obtain⟨x,hx⟩:=zz (l:=sq l) (i:=i) z6
  have ht:(sq l).take (i+1)=(sq l).take i ++ [x]:=by rw [zK,hx];rfl
  by_cases hc:0 < i/\(sq l)[i]?=(sq l)[i - 1]?
  ·rw [ar hc.1 hc.2,ht]
   refine⟨h1,λy=>(h2 y).trans ?_⟩
   have CM:x∈(sq l).take i:=zM (i:=i - 1) (by rw [List.getElem?_take,if_pos z6,<-hc.2,hx])
   simp only [zV,zH]
   exact⟨.inl,λh=>h.elim id λe=>e▸CM⟩
  ·rw [aq hx (λh0 e=>hc ⟨h0,e⟩),ht]
   refine⟨List.pairwise_append.2 ⟨h1,by simp,λa ha b hb=>?_⟩,λy=>by simp [h2]⟩
   have hb:b=x:=by simpa using hb
   subst hb
   have ha:=(h2 a).1 ha
   obtain⟨j,hj⟩:=zO ha
   have lL:j < i:=by have:=(zS.1 hj).1;simp at this;omega
   rw [List.getElem?_take,if_pos lL] at hj
   have hle:∀(p q:Nat) (u v:Int),p<=q->(sq l)[p]?=some u->(sq l)[q]?=some v->u<=v:=λp q u v V6 hu hv=>by
    by_cases he:p=q
    ·subst he;rw [hu] at hv;cases hv;omega
    ·obtain⟨p1,rfl⟩:=zS.1 hu
     obtain⟨q1,rfl⟩:=zS.1 hv
     exact List.pairwise_iff_getElem.1 hs p q p1 q1 z6
   obtain⟨z,hz⟩:=zz (l:=sq l) (i:=i - 1) z6
   have h3:=hle j (i - 1) a z z6 hj hz
   have h4:=hle (i - 1) i z b z6 hz hx
   have h5:b≠z:=λe=>hc ⟨z6,by rw [hx,hz,e]⟩
   omega
noncomputable def rF(t:ym)(g:xp):List Int:=if t.kind=2∨t.kind=3 then ia t g else if g.marks.length=0 then [Lf t] else gY (g.marks.map yC.val)
theorem UF(t:ym)(g:xp):(rF t g).length<=g.marks.length+1:=by
 unfold rF
 split
 ·simp [ia]
 ·split
  ·simp
  ·have:=qL (g.marks.map yC.val);simp at this;omega
theorem Xr(t:ym)(g:xp)(hk:¬(t.kind=2∨t.kind=3))(hl:g.marks.length<=100000):y6 Tryz.prog 193 [.agg (v8 t),.agg (jN g)] (ints (rF t g)):=by
 have h1:t.kind≠2:=λh=>hk (.inl h)
 have h2:t.kind≠3:=λh=>hk (.inr h)
 by_cases h0:g.marks.length=0
 ·have hv:rF t g= [Lf t]:=by rw [rF,if_neg hk,if_pos h0]
  rw [hv]
  refine zy.fz (T:=3) zd ?_
  refine zy.of pg ye Tryz.func193 rfl Tryz.ntmps193 Tryz.results193 rfl λh0 G0 O0=>?_
  (repeat'(first|(show CA _ _ Code.ret _ _;apply z_.out)|apply Sp.h|refine Lk.r rfl ?_|refine Rf.mk rfl ?_|refine xA ?_|refine xB ?_|apply Im.mk|apply yc.mk|refine xT ?_|(apply Fk.r;focus repeat' first|infer_instance|constructor)|refine Rf.mk ⟨rfl,rfl,rfl⟩ ?_|intro _));any_goals apply z_.mk
  apply CA.yR (m:= [Lf t]) (g:=i1)
  focus(repeat constructor)
  focus rfl
  repeat'(first|apply Sp.h|refine Lk.r rfl ?_|refine xN ?_|fail)
  exact⟨_,_,.one (.same (.z)),_,rfl,rfl⟩
 ·have hv:rF t g=gY (g.marks.map yC.val):=by rw [rF,if_neg hk,if_neg h0]
  have gR:=qL (g.marks.map yC.val)
  rw [List.length_map] at gR
  rw [hv]
  refine zy.fz (T:=3) z6 ?_
  refine zy.of pg ye Tryz.func193 rfl Tryz.ntmps193 Tryz.results193 rfl λh0 G0 O0=>?_
  repeat'(first|apply Sp.h|refine Lk.r rfl ?_|refine Rf.mk rfl ?_|refine xB ?_|apply Im.mk|apply yc.mk|refine xT ?_|intro _)
  refine CA.uV 5 3 1 i1 rfl λv=>?_
  refine CA.loop (λx:Nat×Value=>⟨[(5,.ow x.2),(54,oK g.marks),(55,it (g.marks.length:Nat)),(56,it x.1)],[yb x.2 3 1 ((g.marks.take x.1).map yC.val) i1]⟩) (λx=>x.1<=g.marks.length) (λx=>g.marks.length - x.1) (0,v) xE (zZ _) ?_
  rintro⟨i,w⟩ hi
  simp only at hi
  simp only
  by_cases yd:i < g.marks.length
  ·obtain⟨x,hx⟩:=zz yd
   have xe:(g.marks.take (i+1)).map yC.val=(g.marks.take i).map yC.val ++ [x.val]:=by rw [zK,hx];simp
   repeat'(first|apply Sp.h|refine Lk.r rfl ?_|refine Rf.mk rfl ?_|refine xA ?_|refine xP ?_|apply yc.mk|refine xU ?_|refine xT ?_|refine xI ?_|refine Ce.r ?_|refine Ch.l ⟨rfl,rfl⟩ ?_|(apply y4.r;focus repeat' constructor)|(apply Fk.r;focus repeat' first|infer_instance|constructor)|refine xN ?_|refine Rf.mk ⟨rfl,rfl⟩ ?_|refine Rf.mk ⟨rfl,rfl,rfl⟩ ?_|(apply Mp.lit;(focus repeat(first|exact yK.nil|(apply yK.cons;{exact zu})|(apply yK.inv;{exact z1};{exact zh}))))|refine xO ?_|intro _)
   rw [<-xe]
   exact PA.lp (i+1,_) xE ⟨yd,by simp only;omega⟩
  ·have vk:i=g.marks.length:=z6
   subst vk
   rw [zL]
   have qY:=XI w 3 (g.marks.map yC.val) zk
   have YU:=Z9 w (sq (g.marks.map yC.val)) (by rw [j7];simp;omega)
   repeat'(first|apply Sp.h|refine Lk.r rfl ?_|refine Rf.mk rfl ?_|refine xB ?_|fail)
   refine xW (qY) ?_
   rintro _ _ ⟨rfl,rfl⟩
   repeat'(first|apply Sp.h|refine Lk.r rfl ?_|refine Rf.mk rfl ?_|fail)
   refine xW (YU) ?_
   rintro _ _ ⟨w2,rfl,rfl⟩
   repeat'(first|apply Sp.h|refine Lk.r rfl ?_|refine xN ?_|fail)
   exact⟨_,_,.one (.same (.z)),_,rfl,rfl⟩
theorem UE(t:ym)(g:xp)(hl:g.marks.length<=100000):y6 Tryz.prog 193 [.agg (v8 t),.agg (jN g)] (ints (rF t g)):=by
 by_cases h:t.kind=2∨t.kind=3
 ·rw [rF,if_pos h];exact Xq t g h
 ·exact Xr t g h hl
end Go.Proofs.YtmjllbjfkafhdaaGreatDoor
set_option maxRecDepth 100000
set_option maxHeartbeats 80000000
namespace Go.Proofs.YtmjllbjfkafhdaaGreatDoor
open Go Go.CF
theorem Y4{l s:List Int}{x:Int}(h:SI l s)(hx:x∈s):SI (l ++ [x]) s :=
 ⟨h.1,λy=>by
  rw [zV,zH,h.2]
  exact⟨.inl,λe=>e.elim id λe=>e▸(h.2 x).1 hx⟩⟩
theorem U4{l s:List Int}{x:Int}{i:Nat}(h:SI l s)(h1:∀y∈s.take i,y < x)(h2:∀y∈s.drop i,x < y):SI (l ++ [x]) (s.take i ++ x :: s.drop i):=by
 have hp:=h.1
 rw [<-List.take_append_drop i s] at hp
 obtain⟨p1,p2,p3⟩:=List.pairwise_append.1 hp
 refine⟨List.pairwise_append.2 ⟨p1,List.pairwise_cons.2 ⟨h2,p2⟩,λa ha b hb=>?_⟩,λy=>?_⟩
 ·rcases List.mem_cons.1 hb with rfl|hb
  ·exact h1 a ha
  ·exact p3 a ha b hb
 ·have:y∈s↔y∈s.take i∨y∈s.drop i:=by rw [<-zV,List.take_append_drop]
  rw [zV,List.mem_cons,zV,zH,<-h.2,this]
  constructor
  ·rintro(h|h|h)
   ·exact .inl (.inl h)
   ·exact .inr h
   ·exact .inl (.inr h)
  ·rintro((h|h)|h)
   ·exact .inl h
   ·exact .inr (.inr h)
   ·exact .inr (.inl h)
theorem UP(l:List Int)(hl:l.length<=100000):y6 Tryz.prog 149 [ints l] (ints (gY l)):=by
 have gR:=qL l
 refine zy.fz (T:=3) z6 ?_
 refine zy.of pg JU Tryz.func149 rfl Tryz.ntmps149 Tryz.results149 rfl λh0 G0 O0=>?_
 repeat'(first|apply Sp.h|refine Lk.r rfl ?_|refine Rf.mk rfl ?_|apply yc.mk|(apply Fk.r;focus repeat' first|infer_instance|constructor)|refine Rf.mk ⟨rfl,rfl,rfl⟩ ?_|intro _)
 rename_i v
 apply CA.yR (m:=([]:List Int)) (g:=i1)
 focus(repeat constructor)
 focus rfl
 refine CA.loop (λx:Nat×Value×List Int=>⟨[(0,ints l),(3,.ow x.2.1),(4,it x.1)],[yb x.2.1 3 1 x.2.2 i1]⟩) (λx=>x.1<=l.length/\x.2.2.length<=x.1/\SI (l.take x.1) x.2.2) (λx=>l.length - x.1) (0,v,[]) xE ⟨zZ _,by simp,List.Pairwise.nil,by simp⟩ ?_
 rintro⟨i,w,s⟩ ⟨hi,qZ,hs⟩
 simp only at hi qZ hs
 simp only
 by_cases yd:i < l.length
 ·obtain⟨x,hx⟩:=zz yd
  have xe:l.take (i+1)=l.take i ++ [x]:=by rw [zK,hx];rfl
  repeat'(first|apply Sp.h|refine Lk.r rfl ?_|refine Rf.mk rfl ?_|refine xA ?_|apply Im.mk|intro _)
  refine CA.loop (λj:Nat=>⟨[(0,ints l),(3,.ow w),(4,it i),(5,it j)],[yb w 3 1 s i1]⟩) (λj=>j<=s.length/\∀y∈s.take j,y < x) (λj=>s.length - j) 0 xE ⟨zZ _,by simp⟩ ?_
  rintro j ⟨hj,xC⟩
  by_cases Zr:j < s.length
  ·obtain⟨y,hy⟩:=zz Zr
   by_cases Ss:y < x
   ·repeat'(first|apply Sp.h|refine Lk.r rfl ?_|refine Rf.mk rfl ?_|refine xA ?_|refine yu.r rfl ?_|refine xU ?_|refine xI ?_|refine xJ ?_|refine xD ?_|refine xO ?_|fail)
    exact PA.lp (j+1) xE ⟨⟨Zr,all_succ hy xC Ss⟩,z6⟩
   ·by_cases hye:y=x
    ·subst hye
     repeat'(first|apply Sp.h|refine Lk.r rfl ?_|refine Rf.mk rfl ?_|refine xA ?_|refine xB ?_|refine yu.r rfl ?_|refine xU ?_|refine xI ?_|refine xJ ?_|refine xD ?_|refine xO ?_|fail)
     all_goals exact PA.lp (i+1,w,s) xE ⟨⟨yd,by simp only;omega,by simp only;rw [xe];exact Y4 hs (zM hy)⟩,by simp only;omega⟩
    ·have hgt:∀z∈s.drop j,x < z:=λz hz=>by
      obtain⟨q,hq⟩:=zO hz
      rw [List.getElem?_drop] at hq
      by_cases G9:q=0
      ·subst G9;rw [Nat.add_zero,hy] at hq;cases hq;omega
      ·obtain⟨p1,e1⟩:=zS.1 hq
       obtain⟨p2,e2⟩:=zS.1 hy
       have:=List.pairwise_iff_getElem.1 hs.1 j (j+q) p2 p1 z6
       omega
     have lI:=U4 hs xC hgt
     have he:s.take (j - 0) ++ [x] ++ ([] ++ (s.drop j).take (s.length - j))=s.take j ++ x :: s.drop j:=by
      rw [List.take_of_length_le (l:=s.drop j) zd];simp
     repeat'(first|apply Sp.h|refine Lk.r rfl ?_|refine Rf.mk rfl ?_|refine xA ?_|refine xB ?_|refine yu.r rfl ?_|refine xP ?_|apply yc.mk|refine xU ?_|refine xI ?_|refine xJ ?_|refine Ce.l rfl ?_|refine Ce.r ?_|(apply Fk.r;focus repeat' first|infer_instance|constructor)|refine Rf.mk ⟨rfl,rfl⟩ ?_|refine Rf.mk ⟨rfl,rfl,rfl⟩ ?_|(apply Jx.r;{exact zj};{exact zb})|refine Mp.same ?_|(apply Mp.lit;(focus repeat(first|exact yK.nil|(apply yK.cons;{exact zu})|(apply yK.inv;{exact z1};{exact zh}))))|refine xD ?_|refine xO ?_|intro _)
     all_goals rw [he]
     all_goals exact PA.lp (i+1,_,s.take j ++ x :: s.drop j) xE ⟨⟨yd,by simp only [zP,List.length_cons,zN,List.length_drop];omega,by simp only;rw [xe];exact lI⟩,by simp only;omega⟩
  ·have R6:j=s.length:=z6
   subst R6
   rw [zL] at xC
   have lI:=U4 (i:=s.length) hs (by rw [zL];exact xC) (by rw [List.drop_length];simp)
   rw [zL,List.drop_length] at lI
   have he:s.take (s.length - 0) ++ [x] ++ ([] ++ (s.drop s.length).take (s.length - s.length))=s ++ [x]:=by simp
   repeat'(first|apply Sp.h|refine Lk.r rfl ?_|refine Rf.mk rfl ?_|refine xB ?_|refine yu.r rfl ?_|refine xP ?_|apply yc.mk|refine xU ?_|refine xI ?_|refine Ce.l rfl ?_|refine Ce.r ?_|(apply Fk.r;focus repeat' first|infer_instance|constructor)|refine Rf.mk ⟨rfl,rfl⟩ ?_|refine Rf.mk ⟨rfl,rfl,rfl⟩ ?_|(apply Jx.r;{exact zj};{exact zb})|refine Mp.same ?_|(apply Mp.lit;(focus repeat(first|exact yK.nil|(apply yK.cons;{exact zu})|(apply yK.inv;{exact z1};{exact zh}))))|refine xD ?_|refine xO ?_|intro _)
   all_goals rw [he]
   all_goals exact PA.lp (i+1,_,s ++ [x]) xE ⟨⟨yd,by simp only [zP,List.length_cons,List.length_nil];omega,by simp only;rw [xe];exact lI⟩,by simp only;omega⟩
 ·have vk:i=l.length:=z6
  subst vk
  rw [zL] at hs
  have he:s=gY l:=hs.uniq (lS l)
  subst he
  repeat'(first|apply Sp.h|refine Lk.r rfl ?_|refine Rf.mk rfl ?_|refine xB ?_|apply Im.mk|refine xN ?_|intro _)
  exact⟨_,_,.one (.same (.z)),_,rfl,rfl⟩
noncomputable def tG(ts:List ym)(l:List xp):List (List Int):=(ts.zip l).map λp=>rF p.1 p.2
theorem jw{ts:List ym}{l:List xp}{i:Nat}{t:ym}{g:xp}(ht:ts[i]?=some t)(hg:l[i]?=some g):tG (ts.take (i+1)) (l.take (i+1))=tG (ts.take i) (l.take i) ++ [rF t g]:=by
 have h1:=(zS.1 ht).1
 have h2:=(zS.1 hg).1
 rw [zK,zK,ht,hg,tG,Option.toList_some,Option.toList_some,List.zip_append zk,List.map_append]
 rfl
theorem rq(ts:List ym)(l:List xp):(tG ts l).length=min ts.length l.length:=by simp [tG]
theorem j5{ts:List ym}{l:List xp}(hv:vX ts l){i:Nat}{t:ym}{g:xp}(ht:ts[i]?=some t)(hg:l[i]?=some g):g.marks.length<=1024:=(hv.2 i t g ht hg).1.2.2.2
theorem Xt(m:y8)(l:List xp)(hm:xS m.y9 m.tables)(hv:vX (yw m) l)(hl:(yw m).length<=1000) :
  y6 Tryz.prog 136 [wH m,uH l] (.yE [vW (tG (yw m) l),it 0]):=by
 refine zy.Gy (T:=22) (by rw [rq];omega) ?_
 have qx:=j4 m l hm
 have jW:=kj m hm
 have hlen:=hv.1
 refine zy.of pg Uc Tryz.func136 rfl Tryz.ntmps136 Tryz.results136 rfl λh0 G0 O0=>?_
 repeat'(first|apply Sp.h|refine Lk.r rfl ?_|refine Rf.mk rfl ?_|refine xA ?_|refine Im.mk λ_=>?_|refine yc.mk λ_=>?_|refine xT ?_|refine Ch.l ⟨rfl,rfl⟩ ?_|(apply Cl.p (qx);focus repeat' constructor)|(apply Cl.p (jW);focus repeat' constructor))
 refine CA.uV 6 22 1 kI rfl λv=>?_
 refine CA.loop (λx:Nat×Value=>⟨[(1,uH l),(6,.ow x.2),(14,xG (yw m)),(15,it ((yw m).length:Nat)),(16,it x.1)],[yb x.2 22 1 (tG ((yw m).take x.1) (l.take x.1)) kI]⟩) (λx=>x.1<=(yw m).length) (λx=>(yw m).length - x.1) (0,v) xE (zZ _) ?_
 rintro⟨i,w⟩ hi
 simp only at hi
 simp only
 by_cases yd:i < (yw m).length
 ·obtain⟨t,ht⟩:=zz yd
  obtain⟨g,hg⟩:=zz (l:=l) (i:=i) z6
  have xe:=jw ht hg
  have qx:=UE t g (by have:=j5 hv ht hg;omega)
  have gR:(tG ((yw m).take i) (l.take i)).length<=1000:=by rw [rq];simp;omega
  repeat'(first|apply Sp.h|refine Lk.r rfl ?_|refine Rf.mk rfl ?_|refine xA ?_|refine yu.r rfl ?_|refine xP ?_|refine yc.mk λ_=>?_|refine xU ?_|refine xT ?_|refine xI ?_|refine Ce.r ?_|refine Ch.l ⟨rfl,rfl⟩ ?_|(apply y4.r;focus repeat' constructor)|(apply Fk.r;focus repeat' first|infer_instance|constructor)|refine xN ?_|refine Rf.mk ⟨rfl,rfl⟩ ?_|refine Rf.mk ⟨rfl,rfl,rfl⟩ ?_|(apply Mp.lit;(focus repeat(first|exact yK.nil|(apply yK.cons;{exact zu})|(apply yK.inv;{exact z1};{exact zh}))))|refine xD ?_|refine xO ?_|(apply Cl.p (qx);focus repeat' constructor))
  rw [<-xe]
  exact PA.lp (i+1,_) xE ⟨yd,by simp only;omega⟩
 ·have vk:i=(yw m).length:=z6
  subst vk
  rw [zL,List.take_of_length_le (l:=l) z6]
  repeat'(first|apply Sp.h|refine Lk.r rfl ?_|refine Rf.mk rfl ?_|refine xB ?_|refine xN ?_|fail)
  exact⟨_,_,.yE (.same (.same (.z))),_,rfl,rfl⟩
theorem Wg(lo hi:Int):y6 Tryz.prog 148 [.agg [it lo,it hi]] (it (min (max 0 lo) hi)):=by
 refine zy.of pg ye Tryz.func148 rfl Tryz.ntmps148 Tryz.results148 rfl λh0 G0 O0=>?_
 repeat'(first|apply Sp.h|refine Lk.r rfl ?_|refine Rf.mk rfl ?_|apply yc.mk|refine xT ?_|refine xN ?_|intro _)
 exact Fin.p rfl rfl
noncomputable def tQ(m:y8)(l:List xp):Int×List (List Int):=@ite _ (vX (yw m) l) (zC _) (0,tG (yw m) l) (1,[])
theorem rS{m:y8}{l:List xp}(h:vX (yw m) l):tQ m l=(0,tG (yw m) l):=@if_pos _ (zC _) h _ _ _
theorem qQ{m:y8}{l:List xp}(h:¬vX (yw m) l):tQ m l=(1,[]):=@if_neg _ (zC _) h _ _ _
abbrev Fb (q:Int×List (List Int)):AV:= .yE [vW q.2,it q.1]
theorem Xs(m:y8)(l:List xp)(hm:nR m):y6 Tryz.prog 136 [wH m,uH l] (Fb (tQ m l)):=by
 by_cases hv:vX (yw m) l
 ·rw [rS hv];exact Xt m l hm.lay hv (by have:=hm.Sq;omega)
 ·have qx:=j4 m l hm.lay
  rw [qQ hv]
  refine zy.conv (a:= .yE [.val (.slice none 0 0),it 1]) (.yE (.cons wV.nil (.cons (wV.refl _) .nil))) ?_
  refine zy.of pg Uc Tryz.func136 rfl Tryz.ntmps136 Tryz.results136 rfl λh0 G0 O0=>?_
  repeat'(first|apply Sp.h|refine Lk.r rfl ?_|refine Rf.mk rfl ?_|refine xB ?_|refine yc.mk λ_=>?_|refine xT ?_|refine Ch.l ⟨rfl,rfl⟩ ?_|refine xN ?_|(apply Cl.p (qx);focus repeat' constructor))
  exact Fin.p rfl rfl
theorem TD{op:Int->Int->Int}{l:List (List Int)}(h:w9 l):(z1q op l).length=(l[0]?.getD []).length:=by
 obtain⟨d,r,rfl⟩:=jI h
 have:=pn (op:=op) (d:=d) (r:=r) (λc hc=>(h.2 c (by simp [hc])).2) r.length
 rw [pK,zL] at this
 exact this
section
variable (s:Nat) (m:y8) (b:yt) (v:Value) (w:yt)
abbrev sO (m:y8) (b:yt) (l:List yo) (w:yt):List AV:= [ints m.y9,xG m.tables,.sl 1 m.xm ur,.sl 6 m.cons lE,.sl 3 m.ops PM,.sl 5 m.yP iq,.sl 3 m.yp tL,ints b.clock,it b.time,ints b.state,uH b.merged,tz,tz,ints b.places,vm l,ints w.clock,it w.time,ints w.state,uH w.merged,ints w.places]
theorem XJ(l:List yo)(hl:l.length<=1000000)(hm:∀e∈l,e.yj.length<=1000000):zy Tryz.prog 64 [.ad (sO m b l w) 0] [] λr own=>∃u L,r= .ow u/\L.map bL.e=l/\own=Lc u L:=by
 have h:=gE l hl hm
 refine zy.of pg ye Tryz.func64 rfl Tryz.ntmps64 Tryz.results64 rfl λh0 G0 O0=>?_
 repeat'(first|apply Sp.h|refine Lk.r rfl ?_|refine Rf.mk rfl ?_|fail)
 refine xW (h) ?_
 rintro _ _ ⟨u,L,rfl,hL,rfl⟩
 repeat'(first|apply Sp.h|refine Lk.r rfl ?_|refine xN ?_|fail)
 exact⟨_,_,.one (.same (.z)),u,L,rfl,hL,rfl⟩
theorem dH(l:List yo)(h:w.clock.length<=100000):tJ Tryz.prog 28 [.ad (sO m b l w) 0] 3 1 w.clock xL:=by
 have h1:=ud w.clock z6
 refine zy.of pg ye Tryz.func28 rfl Tryz.ntmps28 Tryz.results28 rfl λh0 G0 O0=>?_
 repeat'(first|apply Sp.h|refine Lk.r rfl ?_|refine Rf.mk rfl ?_|fail)
 (refine Cl.use (h1) (by repeat'(first|exact y3.nil|apply y3.yB|fail)) .nil rfl ?_;rintro _ _ ⟨_,rfl,rfl⟩)
 repeat'(first|apply Sp.h|refine Lk.r rfl ?_|refine xN ?_|fail)
 exact⟨_,_,.one (.same (.z)),_,rfl,rfl⟩
theorem mw(l:List yo)(hl:l.length<=1000000)(hm:∀e∈l,e.yj.length<=1000000):y6 Tryz.prog 64 [.ad (sO m b l w) 0] (vm l):=by
 refine zy.fx (XJ m b w l hl hm) ?_
 rintro _ _ ⟨u,L,rfl,hL,rfl⟩
 have h:=Yc (v:=u) (L:=L) (o:= []) (by have:=congrArg List.length hL;simp at this;omega) (λx hx=>hm x.e (by rw [<-hL];exact List.mem_map_of_mem hx)) .nil
 rw [hL] at h
 simpa using h
theorem j8(l:List yo)(h:w.clock.length<=100000):y6 Tryz.prog 28 [.ad (sO m b l w) 0] (ints w.clock):=zy.fz z6 (dH m b w l h)
theorem Qe(l:List yo)(h:eC b):y6 Tryz.prog 63 [.ad (sO m b l w) 0] (RF b):=by
 have h1:=qT b tz tz h
 refine zy.of pg ye Tryz.func63 rfl Tryz.ntmps63 Tryz.results63 rfl λh0 G0 O0=>?_
 repeat'(first|apply Sp.h|refine Lk.r rfl ?_|refine Rf.mk rfl ?_|refine yc.mk λ_=>?_|refine xT ?_|refine Ch.r ?_|(apply y4.r;focus repeat' constructor)|refine xN ?_|(apply Cl.p (h1);focus repeat' constructor))
 exact Fin.p rfl rfl
end
theorem gC{u:Value}{l:List Int}:vS (yb u 3 1 l xL):=vS.arr λ_ _=> .cons (.val _) .nil
end Go.Proofs.YtmjllbjfkafhdaaGreatDoor
namespace Go.CF
open Go
section
variable {Γ:Cx} {k:List KI} {e:EA} {o:List yh} {N:NA} {c:xa} {d:Tmp} {ty:TypeId} {x y:Operand} {t u:TypeId}
instance {cs:List AV} {j:Nat}:Sp (tZ Γ c d (.binOp .eql t x y u) ty e o N x (.ad cs j) y (.val (.pointer none))) (Lk (Γ.tt t) λti=>Lk (match ti.kind with | .ptr e=>some e|_=>none) λq=>Rf (ti.kind= .ptr q) (N ((d,.val (.bool false)) :: e) o)):=⟨λ⟨_,h1,_,_,hn⟩=>SR λenv h G v w g1 g2 r1 r2=>by
 obtain⟨b,off,vs,rfl,_⟩:=r1
 have r2:w= .pointer none:=r2
 subst r2
 exact⟨.val (.bool false),.bool false,rfl,hn.k,λN' k=>St.cg Γ.ok h1 hn.p g1 g2 k⟩⟩
end
def RB(tt:Nat->Option TI)(t i:Nat):Option (Nat×Nat×TI):=match tt t with
 | some ti=>match ti.kind with
  | .struct fs=>match fs[i]? with
   | some (off,ft,_)=>match tt ft with
    | some te=>if te.kind.agg=false then some (off,ft,te) else none
    | none=>none
   | none=>none
  | _=>none
 | none=>none
theorem Wl{tt:Nat->Option TI}{t i:Nat}{p:Nat×Nat×TI}(h:RB tt t i=some p) :∃ti fs sz,tt t=some ti/\ti.kind= .struct fs/\fs[i]?=some (p.1,p.2.1,sz)/\tt p.2.1=some p.2.2/\p.2.2.kind.agg=false:=by
 unfold RB at h
 split at h
 ·rename_i ti h1
  split at h
  ·rename_i fs h2
   split at h
   ·rename_i off ft sz h3
    split at h
    ·rename_i te h4
     split at h
     ·rename_i h5
      cases h
      exact⟨ti,fs,sz,h1,h2,h3,h4,h5⟩
     ·cases h
    ·cases h
   ·cases h
  ·cases h
 ·cases h
section
variable {Γ:Cx} {k:List KI} {e:EA} {o:List yh} {N:NA} {c:xa} {d:Tmp} {ty:TypeId} {x:Operand} {t:TypeId}
theorem St.field{P:Program}{tt:Nat->Option TI}{en:Nat->Bool}(G:xh P tt en){γ:Type}[Membership Nat γ]{fp:γ}{n:Nat}{env:Env}{h:y7}{N:Env->y7->Prop}{i:Nat}{p:Nat×Nat×TI}{vs:List Value}{v:Value}(hp:RB tt t i=some p)
  (hx:ev env x=some (.agg vs.toArray)) (hv:vs[p.1]?=some v) (k:N ((d,v) :: env) h):St P n fp c (some d) (.field t x i) ty env h N :=
 .xH (v:=v) (λa w ha=>by
  obtain⟨ti,fs,sz,h1,h2,h3,h4,h5⟩:=Wl hp
  obtain⟨ff,hu,rfl⟩:=(G.ok _ _ h1).struct h2
  rw [zG] at h3
  obtain⟨f,lM,Zv⟩:=Option.map_eq_some_iff.1 h3
  simp only [Prod.mk.injEq] at Zv
  have MQ:ff[i]?=some f:=by simpa using lM
  have ei:=(G.ok _ _ h4).fM w h5
  rw [<-Zv.2.1] at ei
  have YJ:vs[f.offset]?=some v:=by rw [Zv.1];exact hv
  simp [yI,execOp,ha.ev hx,Instr.field,run_underlying hu,MQ,part,ei,asAgg,YJ]) k
instance {i:Nat}:Sp (SA Γ c (some d) (.field t x i) ty e o N) (Lk (xr e x) λa=>lO Γ c d (.field t x i) ty e o N x a):=⟨λ⟨_,ha,h⟩=>h.h ha⟩
instance {i:Nat} {cs:List AV}:Sp (lO Γ c d (.field t x i) ty e o N x (.agg cs)) (Lk (RB Γ.tt t i) λp=>Lk cs[p.1]? λa=>N ((d,a) :: e) o):=⟨λ⟨p,hp,a,ha,hn⟩=>HQ λenv h G v h1 h2=>by
 obtain⟨vs,rfl,hr⟩:=h2
 obtain⟨w,h3,h4⟩:=hr.t.get ha
 exact⟨a,w,h4,hn,λ_ k=>St.field Γ.ok hp h1 h3 k⟩⟩
end
end Go.CF
namespace Go.Proofs.YtmjllbjfkafhdaaGreatDoor
open Go Go.CF
structure fu (b:yt) (l:List yo) (w:yt):Prop where
 bs:eC b
 ck:w.clock.length<=100000
 ln:l.length<=1000000
 ps:∀e∈l,e.yj.length<=1000000
theorem lU(m:y8)(b:yt)(l:List yo)(w:yt)(h:eC b):y6 Tryz.prog 63 [.ad (sO m b l w) 0] (RF b):=Qe m b w l h
def rP(c:List Int)(e:yo):Prop:=x9 c e.rep e.num/\¬tO c e.yj
noncomputable instance (c:List Int) (e:yo):Decidable (rP c e):=zC _
noncomputable instance (c:List Int) (l:List yo):Decidable (∃e∈l,rP c e):=zC _
noncomputable def wu(bc:List Int)(l:List yo)(wc c:List Int):Int :=
 if¬(vY c/\c.length=wc.length) then 1 else if¬tO c bc then 7 else if¬tO wc c then 11 else if∃e∈l,rP c e then 9 else 0
theorem rh(m:y8)(b:yt)(l:List yo)(w:yt)(c:List Int)(h:fu b l w):y6 Tryz.prog 14 [.ad (sO m b l w) 0,ints c] (it (wu b.clock l w.clock c)):=by
 have hv:=uC c
 have ue:=j8 m b w l h.ck
 have kz:=lU m b l w h.bs
 have rB:=mw m b w l h.ln h.ps
 have nQ:=sJ c b.clock
 have tE:=sJ w.clock c
 refine zy.of pg ye Tryz.func14 rfl Tryz.ntmps14 Tryz.results14 rfl λh0 G0 O0=>?_
 by_cases h1:vY c/\c.length=w.clock.length
 rotate_left
 ·have hF:wu b.clock l w.clock c=1:=by rw [wu,if_pos h1]
  rw [hF]
  repeat'(first|apply Sp.h|refine Lk.r rfl ?_|refine Rf.mk rfl ?_|refine xA ?_|refine xB ?_|(refine Bd.mk ?_ ?_ <;> intro _)|refine Im.mk λ_=>?_|refine xN ?_|(apply Cl.p (hv);focus(repeat' constructor);done)|(apply Cl.p (ue);focus(repeat' constructor);done)|(apply Cl.p (kz);focus(repeat' constructor);done)|(apply Cl.p (nQ);focus(repeat' constructor);done)|(apply Cl.p (tE);focus(repeat' constructor);done))
  all_goals first
   | exact Fin.p rfl rfl
   | exact(h1 ⟨by assumption,z6⟩).elim
 by_cases h2:tO c b.clock
 rotate_left
 ·have hF:wu b.clock l w.clock c=7:=by rw [wu,if_neg (λh=>h h1),if_pos h2]
  rw [hF]
  obtain⟨SM,iK⟩:=h1
  repeat'(first|apply Sp.h|refine Lk.r rfl ?_|refine Rf.mk rfl ?_|refine xA ?_|refine xB ?_|refine Im.mk λ_=>?_|refine xN ?_|(apply Cl.p (hv);focus(repeat' constructor);done)|(apply Cl.p (ue);focus(repeat' constructor);done)|(apply Cl.p (kz);focus(repeat' constructor);done)|(apply Cl.p (nQ);focus(repeat' constructor);done)|(apply Cl.p (tE);focus(repeat' constructor);done))
  exact Fin.p rfl rfl
 by_cases h3:tO w.clock c
 rotate_left
 ·have hF:wu b.clock l w.clock c=11:=by rw [wu,if_neg (λh=>h h1),if_neg (λh=>h h2),if_pos h3]
  rw [hF]
  obtain⟨SM,iK⟩:=h1
  repeat'(first|apply Sp.h|refine Lk.r rfl ?_|refine Rf.mk rfl ?_|refine xA ?_|refine xB ?_|refine Im.mk λ_=>?_|refine xN ?_|(apply Cl.p (hv);focus(repeat' constructor);done)|(apply Cl.p (ue);focus(repeat' constructor);done)|(apply Cl.p (kz);focus(repeat' constructor);done)|(apply Cl.p (nQ);focus(repeat' constructor);done)|(apply Cl.p (tE);focus(repeat' constructor);done))
  exact Fin.p rfl rfl
 have hF:wu b.clock l w.clock c=if∃e∈l,rP c e then 9 else 0:=by rw [wu,if_neg (λh=>h h1),if_neg (λh=>h h2),if_neg (λh=>h h3)]
 rw [hF]
 obtain⟨SM,iK⟩:=h1
 repeat'(first|apply Sp.h|refine Lk.r rfl ?_|refine Rf.mk rfl ?_|refine xA ?_|refine Im.mk λ_=>?_|(apply Cl.p (hv);focus(repeat' constructor);done)|(apply Cl.p (ue);focus(repeat' constructor);done)|(apply Cl.p (kz);focus(repeat' constructor);done)|(apply Cl.p (nQ);focus(repeat' constructor);done)|(apply Cl.p (tE);focus(repeat' constructor);done)|(apply Cl.p (rB);focus(repeat' constructor);done))
 refine CA.loop (λi:Nat=>⟨[(1,ints c),(37,vm l),(38,it (l.length:Nat)),(39,it i)],[]⟩) (λi=>i<=l.length/\∀j e,j < i->l[j]?=some e->¬rP c e) (λi=>l.length - i) 0 xE ⟨zZ _,λj e h=>z6⟩ ?_
 rintro i ⟨hi,yD⟩
 by_cases yd:i < l.length
 ·obtain⟨e,he⟩:=zz yd
  have nV:=hZ c e
  have pU:=sJ c e.yj
  by_cases hL:rP c e
  ·rw [if_pos ⟨e,zM he,hL⟩]
   obtain⟨MV,iJ⟩:=hL
   repeat'(first|apply Sp.h|refine Lk.r rfl ?_|refine Rf.mk rfl ?_|refine xA ?_|refine xB ?_|refine yc.mk λ_=>?_|refine xT ?_|refine xI ?_|refine Ch.l ⟨rfl,rfl⟩ ?_|(apply y4.r;focus repeat' constructor)|refine xN ?_|(apply Cl.p (nV);focus(repeat' constructor);done)|(apply Cl.p (pU);focus(repeat' constructor);done))
   exact Fin.p rfl rfl
  ·have vu:=yg he yD hL
   repeat'(first|apply Sp.h|refine Lk.r rfl ?_|refine Rf.mk rfl ?_|refine xA ?_|refine xB ?_|(refine Bd.mk ?_ ?_ <;> intro _)|refine yc.mk λ_=>?_|refine xT ?_|refine xI ?_|refine Ch.l ⟨rfl,rfl⟩ ?_|(apply y4.r;focus repeat' constructor)|refine xN ?_|refine xO ?_|(apply Cl.p (nV);focus(repeat' constructor);done)|(apply Cl.p (pU);focus(repeat' constructor);done))
   all_goals first
    | exact PA.lp (i+1) xE ⟨⟨yd,vu⟩,z6⟩
    | exact(hL ⟨by assumption,by assumption⟩).elim
 ·rw [if_neg λ⟨e,he,hL⟩=>by
   obtain⟨j,hj⟩:=zO he
   exact yD j e (by have:=(zS.1 hj).1;omega) hj hL]
  repeat'(first|apply Sp.h|refine Lk.r rfl ?_|refine Rf.mk rfl ?_|refine xB ?_|refine xN ?_|fail)
  exact Fin.p rfl rfl
def X3(a b:yo):Prop:=a.time < b.time∨a.time=b.time/\(a.rep < b.rep∨a.rep=b.rep/\a.num < b.num)
noncomputable instance (a b:yo):Decidable (X3 a b):=zC _
abbrev RN (l:List yo):Prop:=l.Pairwise λa b=>¬X3 b a
theorem QI{α:Type}{l:List α}(h:l≠ []) :∃m y,l=m ++ [y]:=⟨l.dropLast,l.getLast h,(List.dropLast_concat_getLast h).symm⟩
theorem Q5{S1 S2:List yo}{x:yo}(h:RN (S1 ++ S2))(h2:∀s∈S2,X3 x s)(h1:∀m y,S1=m ++ [y]->¬X3 x y):RN (S1 ++ x :: S2):=by
 obtain⟨a1,a2,a3⟩:=List.pairwise_append.1 h
 refine List.pairwise_append.2 ⟨a1,List.pairwise_cons.2 ⟨λs hs h9=>?_,a2⟩,λs hs t ht=>?_⟩
 ·have:=h2 s hs;unfold X3 at *;omega
 ·rcases List.mem_cons.1 ht with e|ht
  ·subst e
   by_cases hn:S1= []
   ·subst hn;cases hs
   ·obtain⟨m,y,rfl⟩:=QI hn
    have hy:=h1 m y rfl
    rcases zV.1 hs with hs|hs
    ·have:=(List.pairwise_append.1 a1).2.2 s hs y zd
     unfold X3 at *;omega
    ·rw [zH.1 hs];exact hy
  ·exact a3 s hs t ht
instance:Inhabited yC:=⟨⟨0,0,0,0⟩⟩
theorem uZ(a b:yC):wC a b->¬wC b a:=by unfold wC;omega
def qA(m:y8)(e:yo)(i:Nat):Option qh:=if e.kind=0 then uR (lr m e) i else none
noncomputable def pR(t:ym)(e:yo)(u:qh):yC:=⟨e.rep,e.num,e.time,if x8 t.kind then u.2.2 else 0⟩
def bK(k:Int):Int:=if k=2 then 0 else if k=3 then 1 else 2
def kK(k:Int):Int:=if k=2 then 1 else if k=3 then 0 else 2
def bB(m:y8)(t:ym)(i:Nat)(P:List yo)(x:yC):Prop:=∃e∈P,∃u,qA m e i=some u/\u.1=bK t.kind/\x=pR t e u
def L7(m:y8)(t:ym)(i:Nat)(P:List yo)(x:yC):Prop:=∃e∈P,∃u,qA m e i=some u/\u.1=bK t.kind/\x=pR t e u/\∀d∈P,∀w,qA m d i=some w->w.1=kK t.kind->¬x9 d.yj e.rep e.num
def eW(m:y8)(t:ym)(i:Nat)(P:List yo):Prop:=t.kind=3/\∃e∈P,∃u,qA m e i=some u/\u.1=0
def Kn4(m:y8)(t:ym)(i:Nat)(P:List yo)(l:List yC):Prop:=(l= []/\∀x,¬bB m t i P x)∨∃x,l= [x]/\bB m t i P x/\∀y,bB m t i P y->¬wC x y
structure Kn (m:y8) (t:ym) (i:Nat) (P:List yo) (g:xp):Prop where
 put:g.put=true↔eW m t i P
 drop:g.drop=false
 WY:g.marks.Pairwise wC
 four:t.kind=4->Kn4 m t i P g.marks
 PN:t.kind≠4->∀x,x∈g.marks↔L7 m t i P x
def kV(P:List yo):Prop:=∀a∈P,∀b∈P,a.rep=b.rep->a.num=b.num->a=b
theorem H0{m:y8}{t:ym}{i:Nat}{P:List yo}(hu:kV P){x y:yC}(hx:bB m t i P x)(hy:bB m t i P y)(hn:Nm x y):x=y:=by
 obtain⟨e,he,u,h1,_,rfl⟩:=hx
 obtain⟨d,hd,w,h3,_,rfl⟩:=hy
 have:=hu e he d hd hn.1 hn.2
 subst this
 rw [h1] at h3;cases h3;rfl
theorem QO{m:y8}{t:ym}{i:Nat}{P:List yo}{x:yC}(h:L7 m t i P x):bB m t i P x:=by
 obtain⟨e,he,u,h1,h2,h3,_⟩:=h
 exact⟨e,he,u,h1,h2,h3⟩
theorem Kn.mem{m:y8}{t:ym}{i:Nat}{P:List yo}{g:xp}(h:Kn m t i P g){x:yC}(hx:x∈g.marks):bB m t i P x:=by
 by_cases k4:t.kind=4
 ·rcases h.four k4 with⟨h1,_⟩|⟨y,h1,h2,_⟩
  ·rw [h1] at hx;cases hx
  ·rw [h1,zH] at hx;subst hx;exact h2
 ·exact QO ((h.PN k4 x).1 hx)
structure Cr (P:List yo) (e:yo):Prop where
 nm:∀p∈P,¬(p.rep=e.rep/\p.num=e.num)
 yj:∀p∈P,¬x9 p.yj e.rep e.num
 tm:∀p∈P,¬(p.time=e.time/\p.rep=e.rep)
 self:¬x9 e.yj e.rep e.num
theorem jr{m:y8}{t:ym}{i:Nat}{P:List yo}{e:yo}{x:yC}:bB m t i (P ++ [e]) x↔bB m t i P x∨∃u,qA m e i=some u/\u.1=bK t.kind/\x=pR t e u:=by
 unfold bB
 simp only [zV,zH]
 constructor
 ·rintro⟨d,hd|rfl,h⟩
  ·exact .inl ⟨d,hd,h⟩
  ·exact .inr h
 ·rintro(⟨d,hd,h⟩|h)
  ·exact⟨d,.inl hd,h⟩
  ·exact⟨e,.inr rfl,h⟩
theorem gj{m:y8}{t:ym}{i:Nat}{P:List yo}{e:yo}:eW m t i (P ++ [e])↔eW m t i P∨t.kind=3/\∃u,qA m e i=some u/\u.1=0:=by
 unfold eW
 simp only [zV,zH]
 constructor
 ·rintro⟨hk,d,hd|rfl,h⟩
  ·exact .inl ⟨hk,d,hd,h⟩
  ·exact .inr ⟨hk,h⟩
 ·rintro(⟨hk,d,hd,h⟩|⟨hk,h⟩)
  ·exact⟨hk,d,.inl hd,h⟩
  ·exact⟨hk,e,.inr rfl,h⟩
theorem dQ{m:y8}{t:ym}{i:Nat}{P:List yo}{e:yo}(hn:Cr P e){x:yC} :
  L7 m t i (P ++ [e]) x↔(L7 m t i P x/\∀u,qA m e i=some u->u.1=kK t.kind->¬x9 e.yj x.rep x.num)∨∃u,qA m e i=some u/\u.1=bK t.kind/\x=pR t e u:=by
 constructor
 ·rintro⟨d,hd,u,h1,h2,h3,h4⟩
  rcases zV.1 hd with hd|hd
  ·refine .inl ⟨⟨d,hd,u,h1,h2,h3,λd' bq=>h4 d' (zV.2 (.inl bq))⟩,λw hw hk=>?_⟩
   rw [h3];exact h4 e zd w hw hk
  ·rw [zH.1 hd] at h1 h3
   exact .inr ⟨u,h1,h2,h3⟩
 ·rintro(⟨⟨d,hd,u,h1,h2,h3,h4⟩,h5⟩|⟨u,h1,h2,h3⟩)
  ·refine⟨d,zV.2 (.inl hd),u,h1,h2,h3,λd' bq w hw hk=>?_⟩
   rcases zV.1 bq with bq | bq
   ·exact h4 d' bq w hw hk
   ·rw [zH.1 bq] at hw ⊢
    have:=h5 w hw hk
    rw [h3] at this;exact this
  ·refine⟨e,by simp,u,h1,h2,h3,λd' bq w hw hk=>?_⟩
   rcases zV.1 bq with bq | bq
   ·exact hn.yj d' bq
   ·rw [zH.1 bq];exact hn.self
theorem ml{l:List yC}{x:yC}(hs:l.Pairwise wC)(hn:¬wj l x):(vU l x).Pairwise wC/\∀y,y∈vU l x↔y∈l∨y=x:=by
 have hsK:kP l:=hs.imp λh=>uZ _ _ h
 have hm:=hsK.mono x
 have xC:∀y∈l,wC x y∨wC y x:=λy hy=>by
  have h:¬Nm y x:=λh=>hn ⟨y,hy,h⟩
  unfold Nm at h;unfold wC;omega
 have h1:∀y∈l.take (ql l x),wC y x:=λy hy=>by
  obtain⟨j,hj⟩:=zO hy
  have lL:j < ql l x:=by have:=(zS.1 hj).1;simp at this;omega
  rw [List.getElem?_take,if_pos lL] at hj
  by_cases h9:wC y x
  ·exact h9
  ·have:xw (λy=>decide (¬wC y x)) l<=j:=by
    rcases Nat.lt_or_ge j (xw (λy=>decide (¬wC y x)) l) with AG|h
    ·exfalso
     have hle:=n9 (λy=>decide (¬wC y x)) l
     by_cases hlen:xw (λy=>decide (¬wC y x)) l < l.length
     ·obtain⟨z,_,_,hz3⟩:=ke hlen
      have:=hz3 j y AG hj
      simp at this;exact h9 this
     ·have Da:∀z∈l,wC z x:=λz hz=>Classical.byContradiction λh=>hlen (kd.2 ⟨z,hz,by simpa using h⟩)
      exact h9 (Da y (zM hj))
    ·exact h
   unfold ql at lL;omega
 have h2:∀y∈l.drop (ql l x),wC x y:=λy hy=>by
  obtain⟨j,hj⟩:=zO hy
  rw [List.getElem?_drop] at hj
  have hym:=zM hj
  refine(xC y hym).resolve_right λh9=>?_
  have hp:ql l x < l.length:=by have:=(zS.1 hj).1;omega
  obtain⟨z,hz,V1,_⟩:=ke (p:=λy=>decide (¬wC y x)) (l:=l) hp
  have V1:¬wC z x:=by simpa using V1
  exact V1 (hm _ _ z y (Nat.le_add_right (ql l x) j) hz hj h9)
 have htd:=List.take_append_drop (ql l x) l
 have px:=hs
 rw [<-htd] at px
 obtain⟨s1,s2,s3⟩:=List.pairwise_append.1 px
 refine⟨List.pairwise_append.2 ⟨s1,List.pairwise_cons.2 ⟨h2,s2⟩,λa ha b hb=>?_⟩,λy=>?_⟩
 ·rcases List.mem_cons.1 hb with rfl|hb
  ·exact h1 a ha
  ·exact s3 a ha b hb
 ·rw [vU,zV,List.mem_cons]
  constructor
  ·rintro(h|rfl|h)
   ·exact .inl (zW h)
   ·exact .inr rfl
   ·exact .inl (List.mem_of_mem_drop h)
  ·rintro(h|rfl)
   ·rw [<-htd,zV] at h
    exact h.elim .inl λh=> .inr (.inr h)
   ·exact .inr (.inl rfl)
theorem cq{a b:yC}:eP a b < 0↔a.time < b.time∨a.time=b.time/\a.rep < b.rep:=by
 unfold eP W_ r4
 by_cases h1:a.time < b.time
 ·simp [h1]
 by_cases h2:b.time < a.time
 ·simp [h1,h2];omega
 have h3:a.time=b.time:=z6
 by_cases h4:a.rep < b.rep
 ·simp [h3,h4]
 by_cases h5:b.rep < a.rep
 ·simp [h3,h4,h5]
 have h6:a.rep=b.rep:=z6
 simp [h3,h6]
def Kd(t:ym):Prop:=t.kind=2∨t.kind=3∨t.kind=4∨t.kind=5
theorem Wu{m:y8}{t:ym}{i:Nat}{P:List yo}{g:xp}{e:yo}(hk:Kd t)(h:Kn m t i P g)(hl:g.marks.length < 1024)(hn:Cr P e) :
  ∃g',yQ e t (qA m e i) g=(0,g')/\Kn m t i (P ++ [e]) g'/\g'.marks.length<=g.marks.length+1:=by
 cases hu:qA m e i with
 | none =>
  refine⟨g,rfl,⟨?_,h.drop,h.WY,λk4=>?_,λk4 x=>?_⟩,z6⟩
  ·rw [gj,hu];simp [h.put]
  ·have he:∀x,bB m t i (P ++ [e]) x↔bB m t i P x:=λx=>by rw [jr,hu];simp
   rcases h.four k4 with⟨h1,h2⟩|⟨x,h1,h2,h3⟩
   ·exact .inl ⟨h1,λx hx=>h2 x ((he x).1 hx)⟩
   ·exact .inr ⟨x,h1,(he x).2 h2,λy hy=>h3 y ((he y).1 hy)⟩
  ·rw [dQ hn,hu];simp [h.PN k4]
 | some u =>
  have yD:¬wj g.marks (pR t e u):=λ⟨x,hx,CL⟩=>by
   obtain⟨p,hp,w,_,_,rfl⟩:=h.mem hx
   exact hn.nm p hp CL
  have qn:xo g.marks (pR t e u)=(0,vU g.marks (pR t e u)):=by rw [xo,if_neg yD,if_neg z6]
  have qf:∀(l:List yC) x,(vU l x).length=l.length+1:=λl x=>by
   have:=fO l x
   simp [vU];omega
  obtain⟨i1,i2⟩:=ml h.WY yD
  have qz:∀c,(vl c g.marks).length<=g.marks.length:=λc=>List.length_filter_le _ _
  have R7:∀c x,x∈vl c g.marks↔x∈g.marks/\¬x9 c x.rep x.num:=λc x=>by simp [vl,List.mem_filter]
  have AA:t.kind≠3->g.put=false:=λh3=>by
   have:=h.put
   cases hp:g.put
   ·rfl
   ·exact absurd (this.1 hp).1 h3
  have PZ:pR t e u=⟨e.rep,e.num,e.time,if x8 t.kind then u.2.2 else 0⟩:=rfl
  have YR:∀x,L7 m t i (P ++ [e]) x↔(L7 m t i P x/\(u.1=kK t.kind->¬x9 e.yj x.rep x.num))∨(u.1=bK t.kind/\x=pR t e u):=λx=>by
   rw [dQ hn,hu];simp
  have MM:eW m t i (P ++ [e])↔eW m t i P∨t.kind=3/\u.1=0:=by rw [gj,hu];simp
  have wO:yQ e t (some u) g=(0,g)->(t.kind≠4->u.1≠bK t.kind/\u.1≠kK t.kind)->(t.kind=4->u.1≠2)->(t.kind=3->u.1≠0)->∃g',yQ e t (some u) g=(0,g')/\Kn m t i (P ++ [e]) g'/\g'.marks.length<=g.marks.length+1:=λh1 h2 h3 h4=>by
   refine⟨g,h1,⟨?_,h.drop,h.WY,λk4=>?_,λk4 x=>?_⟩,z6⟩
   ·rw [MM,h.put];exact⟨.inl,λh=>h.elim id λh=>absurd h.2 (h4 h.1)⟩
   ·have hb:bK t.kind=2:=by rw [k4];rfl
    have he:∀x,bB m t i (P ++ [e]) x↔bB m t i P x:=λx=>by
     rw [jr,hu]
     refine⟨λh=>h.elim id λ⟨w,hw,Sv,_⟩=>?_,.inl⟩
     cases hw
     exact absurd (Sv.trans hb) (h3 k4)
    rcases h.four k4 with⟨h1,h2⟩|⟨x,h1,h2,h3⟩
    ·exact .inl ⟨h1,λx hx=>h2 x ((he x).1 hx)⟩
    ·exact .inr ⟨x,h1,(he x).2 h2,λy hy=>h3 y ((he y).1 hy)⟩
   ·rw [YR,h.PN k4]
    exact⟨λh9=> .inl ⟨h9,λh=>absurd h (h2 k4).2⟩,λh9=>h9.elim (·.1) λh=>absurd h.1 (h2 k4).1⟩
  rcases hk with k|k|k|k
  ·have nb:bK t.kind=0:=by rw [k];rfl
   have nk:kK t.kind=1:=by rw [k];rfl
   by_cases u0:u.1=0
   ·refine⟨⟨g.put,g.drop,vU g.marks (pR t e u)⟩, ?_,⟨?_,h.drop,i1,λk4=>z6,λ_ x=>?_⟩,by simp [qf]⟩
    ·simp only [yQ,k,u0,true_and,true_or,if_true]
     rw [<-k,<-PZ,qn]
    ·rw [MM,h.put];exact⟨.inl,λh=>h.elim id λh=>z6⟩
    ·rw [YR]
     show x∈vU g.marks (pR t e u)↔_
     rw [i2,h.PN z6]
     exact⟨λh9=>h9.elim (λh9=> .inl ⟨h9,λh=>z6⟩) λh9=> .inr ⟨z6,h9⟩,λh9=>h9.elim (λh9=> .inl h9.1) λh9=> .inr h9.2⟩
   by_cases u1:u.1=1
   ·refine⟨⟨false,g.drop,vl e.yj g.marks⟩, ?_,⟨?_,h.drop,h.WY.filter _,λk4=>z6,λ_ x=>?_⟩,by simp only;have:=qz e.yj;omega⟩
    ·simp [yQ,k,u1]
    ·rw [MM,<-h.put,AA z6]
     simp only [Bool.false_eq_true,false_or,false_iff]
     omega
    ·rw [YR]
     show x∈vl e.yj g.marks↔_
     rw [R7,h.PN z6]
     exact⟨λh9=> .inl ⟨h9.1,λ_=>h9.2⟩,λh9=>h9.elim (λh9=>⟨h9.1,h9.2 z6⟩) λh9=>z6⟩
   ·exact wO (by simp [yQ,k,u0,u1]) (λ_=>⟨z6,z6⟩) (λh=>z6) (λh=>z6)
  ·have nb:bK t.kind=1:=by rw [k];rfl
   have nk:kK t.kind=0:=by rw [k];rfl
   by_cases u1:u.1=1
   ·refine⟨⟨g.put,g.drop,vU g.marks (pR t e u)⟩, ?_,⟨?_,h.drop,i1,λk4=>z6,λ_ x=>?_⟩,by simp [qf]⟩
    ·simp only [yQ,k,u1,true_and,or_true,if_true]
     rw [<-k,<-PZ,qn]
    ·rw [MM,h.put];exact⟨.inl,λh=>h.elim id λh=>z6⟩
    ·rw [YR]
     show x∈vU g.marks (pR t e u)↔_
     rw [i2,h.PN z6]
     exact⟨λh9=>h9.elim (λh9=> .inl ⟨h9,λh=>z6⟩) λh9=> .inr ⟨z6,h9⟩,λh9=>h9.elim (λh9=> .inl h9.1) λh9=> .inr h9.2⟩
   by_cases u0:u.1=0
   ·refine⟨⟨true,false,vl e.yj g.marks⟩, ?_,⟨?_,rfl,h.WY.filter _,λk4=>z6,λ_ x=>?_⟩,by simp only;have:=qz e.yj;omega⟩
    ·simp [yQ,k,u0]
    ·rw [MM];simp [k,u0]
    ·rw [YR]
     show x∈vl e.yj g.marks↔_
     rw [R7,h.PN z6]
     exact⟨λh9=> .inl ⟨h9.1,λ_=>h9.2⟩,λh9=>h9.elim (λh9=>⟨h9.1,h9.2 z6⟩) λh9=>z6⟩
   ·exact wO (by simp [yQ,k,u0,u1]) (λ_=>⟨z6,z6⟩) (λh=>z6) (λ_=>u0)
  ·have nb:bK t.kind=2:=by rw [k];rfl
   by_cases u2:u.1=2
   ·have hc:∀q,wN g.marks (pR t e u)=(0,q)->yQ e t (some u) g=(0,⟨g.put,g.drop,q⟩):=λq hq=>by
     simp only [yQ,k,u2]
     rw [<-k,<-PZ,hq];simp [k]
    have hx:∀x,bB m t i (P ++ [e]) x↔bB m t i P x∨x=pR t e u:=λx=>by rw [jr,hu];simp [nb,u2]
    have CZ:g.put=true↔eW m t i (P ++ [e]):=by rw [MM,h.put];exact⟨.inl,λh=>h.elim id λh=>z6⟩
    rcases h.four k with⟨h1,h2⟩|⟨x,h1,h2,h3⟩
    ·refine⟨⟨g.put,g.drop,[pR t e u]⟩,hc _ ?_,⟨CZ,h.drop,by simp,λ_=> .inr ⟨_,rfl,(hx _).2 (.inr rfl),λy hy=>?_⟩,λh=>absurd k h⟩,by simp⟩
     ·rw [h1] at qn ⊢
      rw [wN,qn]
      simp [vU,ql,xw]
     ·rcases(hx y).1 hy with hy|rfl
      ·exact absurd hy (h2 y)
      ·exact λh=>uZ _ _ h h
    ·by_cases tE:eP x (pR t e u) < 0
     ·have xC:wC x (pR t e u):=by have:=cq.1 tE;unfold wC;omega
      refine⟨⟨g.put,g.drop,[pR t e u]⟩,hc _ (by rw [h1,wN,if_pos tE]),⟨CZ,h.drop,by simp,λ_=> .inr ⟨_,rfl,(hx _).2 (.inr rfl),λy hy h9=>?_⟩,λh=>absurd k h⟩,by simp⟩
      rcases(hx y).1 hy with hy|rfl
      ·exact h3 y hy (xC.trans h9)
      ·exact uZ _ _ h9 h9
     ·refine⟨⟨g.put,g.drop,[x]⟩,hc _ (by rw [h1,wN,if_neg tE]),⟨CZ,h.drop,by simp,λ_=> .inr ⟨x,rfl,(hx _).2 (.inl h2),λy hy h9=>?_⟩,λh=>absurd k h⟩,by simp⟩
      rcases(hx y).1 hy with hy|rfl
      ·exact h3 y hy h9
      ·obtain⟨p,hp,w,_,_,rfl⟩:=h2
       have a1:=hn.tm p hp
       rw [cq] at tE
       unfold wC at h9
       simp only [pR] at tE h9
       omega
   ·exact wO (by simp [yQ,k,u2]) (λh=>absurd k h) (λ_=>u2) (λh=>z6)
  ·have nb:bK t.kind=2:=by rw [k];rfl
   have nk:kK t.kind=2:=by rw [k];rfl
   by_cases u2:u.1=2
   ·have Fl:¬wj (vl e.yj g.marks) (pR t e u):=λ⟨x,hx,CL⟩=>yD ⟨x,((R7 _ _).1 hx).1,CL⟩
    have Rw:=qz e.yj
    have Dg:xo (vl e.yj g.marks) (pR t e u)=(0,vU (vl e.yj g.marks) (pR t e u)):=by rw [xo,if_neg Fl,if_neg z6]
    obtain⟨j1,j2⟩:=ml (l:=vl e.yj g.marks) (h.WY.filter _) Fl
    refine⟨⟨g.put,g.drop,vU (vl e.yj g.marks) (pR t e u)⟩, ?_,⟨?_,h.drop,j1,λk4=>z6,λ_ x=>?_⟩,by simp only [qf];omega⟩
    ·simp only [yQ,k,u2]
     rw [<-k,<-PZ,Dg];simp [k]
    ·rw [MM,h.put];exact⟨.inl,λh=>h.elim id λh=>z6⟩
    ·rw [YR]
     show x∈vU (vl e.yj g.marks) (pR t e u)↔_
     rw [show x∈vU (vl e.yj g.marks) (pR t e u)↔x∈vl e.yj g.marks∨x=pR t e u from j2 x,R7,h.PN z6]
     exact⟨λh9=>h9.elim (λh9=> .inl ⟨h9.1,λ_=>h9.2⟩) λh9=> .inr ⟨z6,h9⟩,λh9=>h9.elim (λh9=> .inl ⟨h9.1,h9.2 z6⟩) λh9=> .inr h9.2⟩
   ·exact wO (by simp [yQ,k,u2]) (λ_=>⟨z6,z6⟩) (λh=>z6) (λh=>z6)
def r9(l:List yC):Prop:=l.Pairwise wC/\l.Pairwise λx y=>¬Nm x y
theorem sx.Ls{t:ym}{g:xp}(h:sx t g):r9 g.marks:=by
 have h1:g.marks.Pairwise λx y=>¬Nm x y:=by
  rw [List.pairwise_iff_getElem]
  intro i j hi hj u5
  exact(h.2 j g.marks[j] hj (zE hj)).2.1 i g.marks[i] u5 (zE hi)
 refine⟨?_,h1⟩
 have h2:=h.WY
 rw [kP,List.pairwise_iff_getElem] at h2
 rw [List.pairwise_iff_getElem] at h1 ⊢
 intro i j hi hj u5
 have a1:=h1 i j hi hj u5
 have a2:=h2 i j hi hj u5
 unfold Nm at a1
 unfold wC at a2 ⊢
 omega
def Xa(k:Int):Prop:=k=2∨k=3
def af(m:y8):Prop:=∀a∈m.yP,∀u∈a.xu.yk,∀(i:Nat) t,u.2.1=i->(yw m)[i]?=some t->(Xa t.kind↔u.1=0∨u.1=1)/\(¬Xa t.kind->t.lo<=u.2.2/\u.2.2<=t.hi)
structure Ox (m:y8) (P:List yo) (l:List xp):Prop where
 len:l.length=(yw m).length
 kn:∀(i:Nat) t g,(yw m)[i]?=some t->l[i]?=some g->Kn m t i P g/\g.marks.length<=P.length
theorem Mk{m:y8}(hm:xS m.y9 m.tables){i:Nat}{t:ym}(ht:(yw m)[i]?=some t):Kd t:=by
 have:=Mh hm t (zM ht)
 unfold Kd;omega
theorem UI{m:y8}{e:yo}{i:Nat}{u:qh}(h:qA m e i=some u) :∃a∈m.yP,u∈a.xu.yk/\u.2.1=i:=by
 unfold qA at h
 split at h
 ·have h1:=List.mem_of_find?_eq_some h
  have h2:=List.find?_some h
  have h2:u.2.1=(i:Int):=by simpa using h2
  rw [List.mem_reverse] at h1
  unfold lr at h1
  cases ha:m.yP[e.action.toNat]? with
  | none=>rw [ha] at h1;cases h1
  | some a=>rw [ha] at h1;exact⟨a,zM ha,h1,h2⟩
 ·cases h
theorem Kn.BV{m:y8}{t:ym}{i:Nat}{P:List yo}{g:xp}(hf:af m)(ht:(yw m)[i]?=some t)(_hk:Kd t)(hu:kV P)(hP:∀e∈P,we e)(h:Kn m t i P g)(hl:g.marks.length<=1024):sx t g:=by
 refine⟨⟨λh9=>?_,λh9=>?_,λh9=>?_,hl⟩,λj x hj hx=>⟨?_,λq y hq hy hn=>?_,λy hq hy h9=>?_⟩⟩
 ·rw [h.drop] at h9;cases h9
 ·have:=(h.put.1 h9.1).1
  have:=h9.2
  unfold x8 at this;omega
 ·rcases h.four h9.1 with⟨h1,_⟩|⟨x,h1,_⟩
  ·rw [h1] at h9;simp at h9
  ·rw [h1] at h9;simp at h9
 ·obtain⟨e,he,u,h1,h2,rfl⟩:=h.mem (zM hx)
  obtain⟨f1,f2,⟨y,f3,f4⟩,f5,f6,f7⟩:=hP e he
  have hlen:=(zS.1 f3).1
  have:=f1.1 y (zM f3)
  have:=f1.2
  unfold tg at *
  unfold pV at f6
  obtain⟨a,ha,CQ,Sy⟩:=UI h1
  have kH:=hf a ha u CQ i t Sy ht
  refine⟨by simp only [pR];omega,by simp only [pR];omega,by simp only [pR];omega, ?_⟩
  simp only [pR,X9,iP]
  by_cases hr:x8 t.kind
  ·rw [if_pos hr,if_pos hr,if_pos hr]
   exact kH.2 (by unfold x8 at hr;unfold Xa;omega)
  ·rw [if_neg hr,if_neg hr,if_neg hr];omega
 ·have h1:=h.mem (zM hx)
  have h2:=h.mem (zM hy)
  have:=H0 hu h2 h1 hn
  subst this
  obtain⟨j1,rfl⟩:=zS.1 hx
  obtain⟨q1,lJ⟩:=zS.1 hy
  have:=List.pairwise_iff_getElem.1 h.WY q j q1 j1 hq
  rw [lJ] at this
  exact uZ _ _ this this
 ·obtain⟨j1,rfl⟩:=zS.1 hx
  obtain⟨q1,rfl⟩:=zS.1 hy
  exact uZ _ _ h9 (List.pairwise_iff_getElem.1 h.WY (j - 1) j q1 j1 z6)
theorem Ox.BU{m:y8}{P:List yo}{l:List xp}(hm:xS m.y9 m.tables)(hf:af m)(hu:kV P)(hP:∀e∈P,we e)(hl:P.length<=1024)(h:Ox m P l):vX (yw m) l :=
 ⟨h.len.symm,λi t g ht hg=>(h.kn i t g ht hg).1.BV hf ht (Mk hm ht) hu hP (by have:=(h.kn i t g ht hg).2;omega)⟩
theorem Ox.nil(m:y8):Ox m [] (List.replicate (yw m).length nS):=by
 refine⟨by simp,λi t g _ hg=>?_⟩
 have:g=nS:=(List.mem_replicate.1 (zM hg)).2
 subst this
 exact⟨⟨by simp [nS,eW],rfl,.nil,λ_=> .inl ⟨rfl,λx ⟨e,he,_⟩=>by cases he⟩,λ_ x=>by simp [nS,L7]⟩,by simp [nS]⟩
theorem Ze{m:y8}{P:List yo}{l:List xp}{e:yo}(hm:xS m.y9 m.tables)(hv:vX (yw m) l)(hl:P.length < 1024)(h:Ox m P l)(he:rE m (e.yj.length:Nat) e)(hn:Cr P e) :
  ∃l',yq m l e=(0,l')/\Ox m (P ++ [e]) l'/\∀(i:Nat) t g,(yw m)[i]?=some t->l[i]?=some g->l'[i]?=some (yQ e t (qA m e i) g).2:=by
 have uN:∀(i:Nat) t g,(yw m)[i]?=some t->l[i]?=some g->∃g',yQ e t (qA m e i) g=(0,g')/\Kn m t i (P ++ [e]) g'/\g'.marks.length<=g.marks.length+1:=λi t g ht hg =>
  Wu (Mk hm ht) (h.kn i t g ht hg).1 (by have:=(h.kn i t g ht hg).2;omega) hn
 by_cases hk:e.kind=0
 ·have mM:∀i:Nat,qA m e i=uR (lr m e) i:=λi=>if_pos hk
  have YZ:∀(i:Nat) t g,(yw m)[i]?=some t->l[i]?=some g->(vi (yw m) l (lr m e) e)[i]?=some (yQ e t (qA m e i) g):=λi t g ht hg=>by rw [mM];exact uY ht hg
  have ug:∀p∈vi (yw m) l (lr m e) e,p.1=0:=λp hp=>by
   obtain⟨i,hi⟩:=zO hp
   have qf:=(zS.1 hi).1
   rw [vK] at qf
   obtain⟨g,hg⟩:=zz qf
   obtain⟨t,ht⟩:=zz (l:=yw m) (i:=i) (by rw [<-h.len];exact qf)
   obtain⟨g',h1,_⟩:=uN i t g ht hg
   rw [YZ i t g ht hg,h1] at hi
   cases hi;rfl
  refine⟨(vi (yw m) l (lr m e) e).map (·.2), ?_,⟨by rw [List.length_map,vK,h.len],λi t g' ht hg'=>?_⟩,λi t g ht hg=>by rw [zG,YZ i t g ht hg];rfl⟩
  ·rw [yq,if_neg (λh9=>h9 ⟨hv,he⟩),if_neg (λh9=>h9 hk),u_ (λp hp=> .inl (ug p hp)),if_neg]
   rintro⟨p,hp,h8⟩
   rw [ug p hp] at h8;cases h8
  ·obtain⟨g,hg⟩:=zz (l:=l) (i:=i) (by rw [h.len];exact(zS.1 ht).1)
   obtain⟨g2,h1,h2,h3⟩:=uN i t g ht hg
   rw [zG,YZ i t g ht hg,h1] at hg'
   cases hg'
   have:=(h.kn i t g ht hg).2
   exact⟨h2,by simp;omega⟩
 ·have mM:∀i:Nat,qA m e i=none:=λi=>if_neg hk
  refine⟨l,by rw [yq,if_neg (λh9=>h9 ⟨hv,he⟩),if_pos hk],⟨h.len,λi t g ht hg=>?_⟩,λi t g ht hg=>by rw [mM];exact hg⟩
  obtain⟨g2,h1,h2,h3⟩:=uN i t g ht hg
  rw [mM] at h1
  have e1:g=g2:=congrArg Prod.snd h1
  subst e1
  have:=(h.kn i t g ht hg).2
  exact⟨h2,by simp;omega⟩
/-! ### qJ lists -/
theorem nu{l:List yo}(h:RH l):kV l:=λa ha b hb h1 h2=>h.eq ha hb (by rw [nm,nm,h1,h2])
theorem Ts{e:yo}(h:we e) :¬x9 e.yj e.rep e.num:=by
 obtain⟨_,_,⟨x,h1,h2⟩,_⟩:=h
 rintro⟨_,_,_,y,h3,h4⟩
 rw [h1] at h3;cases h3;omega
theorem lk{l:List yo}(h:ta l){e d:yo}(hd:d∈l)(he:e∈l)(hh:x9 d.yj e.rep e.num):e.time < d.time/\FJ e.yj d.yj:=by
 obtain⟨h1,h2,h3,x,h4,h5⟩:=hh
 obtain⟨y,hy,g1,g2,g3,g4⟩:=h.2.2.2 d hd e.rep.toNat x h4 e.num h3 h5
 have:y=e:=nu h.2.1 y hy e he z6 g2
 subst this
 exact⟨g4,g3⟩
theorem mC{l:List yo}(h:ta l){e d:yo}(hd:d∈l)(he:e∈l)(hr:e.rep=d.rep)(hn:e.num < d.num):x9 d.yj e.rep e.num:=by
 obtain⟨f1,f2,⟨x,f3,f4⟩,_⟩:=(h.2.2.1 d hd).1
 obtain⟨g1,g2,⟨y,g3,g4⟩,_⟩:=(h.2.2.1 e he).1
 have:=g1.1 y (zM g3)
 unfold tg at this
 exact⟨f1,z6,z6,x,by rw [hr];exact f3,z6⟩
theorem Qh(x y:Int)(hx:tg x)(hy:tg y):tg (max x y):=by unfold tg at *;omega
theorem jn{n:Nat}(hn:1<=n/\n<=5){l:List yo}(hl:∀e∈l,tg e.num):vY (p_ n l):=by
 have key:∀(l:List yo) (c:List Int),(∀e∈l,tg e.num)->(∀x∈c,tg x)->∀x∈l.foldl (λc e=>c.set e.rep.toNat (max (c[e.rep.toNat]?.getD 0) e.num)) c,tg x:=by
  intro l
  induction l with
  | nil=>exact λc _ h=>h
  | cons e l ih =>
   intro c h1 h2
   rw [List.foldl_cons]
   refine ih _ (λd hd=>h1 d (List.mem_cons_of_mem _ hd)) λx hx=>?_
   rcases List.mem_or_eq_of_mem_set hx with h|rfl
   ·exact h2 x h
   ·have h3:=h1 e zd
    have h4:tg (c[e.rep.toNat]?.getD 0):=by
     cases hc:c[e.rep.toNat]? with
     | none=>simp [tg]
     | some y=>exact h2 y (zM hc)
    exact Qh _ _ h4 h3
 refine⟨key l _ hl λx hx=>?_,by rw [sb];omega⟩
 rw [(List.mem_replicate.1 hx).2];simp [tg]
theorem ov{e:yo}(h:we e):tg e.num:=by
 obtain⟨f1,_,⟨x,f3,f4⟩,f5,_⟩:=h
 have:=f1.1 x (zM f3)
 unfold tg at *;omega
theorem z1F{a b:List Int}(hb:vY b)(h:Ins a b)(hl:a.length<=b.length){r n:Int}(hh:x9 a r n):x9 b r n:=by
 obtain⟨_,h2,h3,x,hx,h5⟩:=hh
 obtain⟨y,hy⟩:=zz (l:=b) (i:=r.toNat) (by have:=(zS.1 hx).1;omega)
 exact⟨hb,h2,h3,y,hy,by have:=h _ x y hx hy;omega⟩
def My(m:y8)(l:List yo):Prop:=nR m/\z0u l/\ta l/\af m/\∀e∈l,rE m (n0 l:Nat) e
theorem Xy{l X:List yo}(h:kV l)(hX:∀e∈X,e∈l):kV X:=λa ha b hb=>h a (hX a ha) b (hX b hb)
/-! ### The clock of events -/
theorem YA{n:Nat} :∀(A:List yo) (c:List Int),c.length=n->(∀x∈c,0<=x)->(∀a∈A,a.rep.toNat < n/\0<=a.num)->∀q,q < n->
  ∃y,(A.foldl (λc e=>c.set e.rep.toNat (max (c[e.rep.toNat]?.getD 0) e.num)) c)[q]?=some y/\0<=y/\∀k,1<=k->(k<=y↔(∃z,c[q]?=some z/\k<=z)∨∃a∈A,a.rep.toNat=q/\k<=a.num):=by
 intro A
 induction A with
 | nil =>
  intro c hc h0 _ q hq
  obtain⟨z,hz⟩:=zz (l:=c) (i:=q) z6
  exact⟨z,hz,h0 z (zM hz),λk _=>by simp [hz]⟩
 | cons a A ih =>
  intro c hc h0 hA q hq
  obtain⟨h1,h2⟩:=hA a zd
  obtain⟨u,hu⟩:=zz (l:=c) (i:=a.rep.toNat) z6
  have DZ:=h0 u (zM hu)
  rw [List.foldl_cons]
  obtain⟨y,e1,e2,e3⟩:=ih (c.set a.rep.toNat (max (c[a.rep.toNat]?.getD 0) a.num)) (by rw [zY];exact hc) (λx hx=>by
   rcases List.mem_or_eq_of_mem_set hx with h|h
   ·exact h0 x h
   ·rw [h,hu,Option.getD_some];omega) (λb hb=>hA b (List.mem_cons_of_mem _ hb)) q hq
  refine⟨y,e1,e2,λk hk=>(e3 k hk).trans ?_⟩
  rw [List.getElem?_set]
  by_cases CY:a.rep.toNat=q
  ·subst CY
   rw [if_pos rfl,if_pos z6,hu,Option.getD_some]
   constructor
   ·rintro(⟨z,hz,MN⟩|⟨b,hb,q_,rC⟩)
    ·cases hz
     by_cases R4:k<=u
     ·exact .inl ⟨u,rfl,R4⟩
     ·exact .inr ⟨a,by simp,rfl,z6⟩
    ·exact .inr ⟨b,List.mem_cons_of_mem _ hb,q_,rC⟩
   ·rintro(⟨z,hz,MN⟩|⟨b,hb,q_,rC⟩)
    ·cases hz;exact .inl ⟨_,rfl,z6⟩
    ·rcases List.mem_cons.1 hb with rfl|hb
     ·exact .inl ⟨_,rfl,z6⟩
     ·exact .inr ⟨b,hb,q_,rC⟩
  ·rw [if_neg CY]
   constructor
   ·rintro(h|⟨b,hb,q_,rC⟩)
    ·exact .inl h
    ·exact .inr ⟨b,List.mem_cons_of_mem _ hb,q_,rC⟩
   ·rintro(h|⟨b,hb,q_,rC⟩)
    ·exact .inl h
    ·rcases List.mem_cons.1 hb with rfl|hb
     ·exact absurd q_ CY
     ·exact .inr ⟨b,hb,q_,rC⟩
structure GI (l A:List yo):Prop where
 sub:∀a∈A,a∈l
 cls:∀a∈A,∀d∈l,x9 a.yj d.rep d.num->d∈A
theorem sd{e:yo}(h:we e):0<=e.rep/\e.rep.toNat < e.yj.length/\1<=e.num:=by
 obtain⟨f1,f2,⟨x,f3,f4⟩,_⟩:=h
 have:=f1.1 x (zM f3)
 unfold tg at this
 exact⟨f2,(zS.1 f3).1,z6⟩
theorem Ue{l:List yo}(hc:ta l){e:yo}(he:e∈l):1<=n0 l/\n0 l<=5:=by
 have h:=hc.2.2.1 e he
 rw [<-h.2];exact h.1.1.2
theorem YB{l A:List yo}(hc:ta l)(hA:∀a∈A,a∈l){q:Nat}(hq:q < n0 l) :∃y,(p_ (n0 l) A)[q]?=some y/\0<=y/\∀k,1<=k->(k<=y↔∃a∈A,a.rep.toNat=q/\k<=a.num):=by
 obtain⟨y,h1,h2,h3⟩:=YA (n:=n0 l) A (List.replicate (n0 l) 0) zd (λx hx=>by rw [(List.mem_replicate.1 hx).2];exact Int.le_refl 0) (λa ha=>by
  have hf:=hc.2.2.1 a (hA a ha)
  have:=sd hf.1
  rw [hf.2] at this
  exact⟨this.2.1,z6⟩) q hq
 refine⟨y,h1,h2,λk hk=>(h3 k hk).trans ⟨λh=>h.elim (λ⟨z,hz,MN⟩=>?_) id,.inr⟩⟩
 rw [List.getElem?_replicate,if_pos hq] at hz
 cases hz;omega
theorem cv{l A:List yo}(hc:ta l)(hA:∀a∈A,a∈l)(hn:1<=n0 l/\n0 l<=5):vY (p_ (n0 l) A):=jn hn λe he=>ov (hc.2.2.1 e (hA e he)).1
theorem Pj{l A:List yo}(hc:ta l)(hA:GI l A){e:yo}(he:e∈l):x9 (p_ (n0 l) A) e.rep e.num↔e∈A:=by
 have hf:=hc.2.2.1 e he
 have hr:=sd hf.1
 rw [hf.2] at hr
 obtain⟨y,h1,h2,h3⟩:=YB hc hA.sub hr.2.1
 constructor
 ·rintro⟨_,_,_,x,hx,YQ⟩
  rw [h1] at hx;cases hx
  obtain⟨a,ha,MT,Vb⟩:=(h3 e.num hr.2.2).1 YQ
  have Bf:=sd (hc.2.2.1 a (hA.sub a ha)).1
  have har:e.rep=a.rep:=z6
  by_cases xC:e.num < a.num
  ·exact hA.cls a ha e he (mC hc (hA.sub a ha) he har xC)
  ·have:=nu hc.2.1 e he a (hA.sub a ha) har z6
   rw [this];exact ha
 ·intro h
  exact⟨cv hc hA.sub (Ue hc he),hr.1,hr.2.2,y,h1,(h3 e.num hr.2.2).2 ⟨e,h,rfl,Int.le_refl _⟩⟩
theorem Ph{l A:List yo}(hc:ta l)(hA:GI l A){e:yo}(he:e∈l)(hp:∀d∈l,x9 e.yj d.rep d.num->d∈A):Ins e.yj (p_ (n0 l) A):=λi x y hx hy=>by
 have hf:=hc.2.2.1 e he
 have qf:=(zS.1 hx).1
 obtain⟨z,h1,h2,h3⟩:=YB hc hA.sub (q:=i) (by rw [<-hf.2];exact qf)
 rw [hy] at h1;cases h1
 by_cases lx:1<=x
 ·obtain⟨d,hd,g1,g2,_,_⟩:=hc.2.2.2 e he i x hx x lx (Int.le_refl _)
  have hdA:=hp d hd ⟨hf.1.1,z6,z6,x,by rw [g1];simpa using hx,z6⟩
  exact(h3 x lx).2 ⟨d,hdA,z6,z6⟩
 ·omega
/-! ### z0F -/
theorem Sh(s:List Int)(p:Int×Int):(o3 s p).length=s.length:=by simp [o3]
theorem Sf(d:List (Int×Int)) :∀s:List Int,(vF s d).length=s.length:=by
 induction d with
 | nil=>intro s;rfl
 | cons p d ih=>intro s;rw [vF,List.foldl_cons];exact(ih _).trans (Sh s p)
theorem nH(m:y8)(s:List Int)(e:yo):(xY m s e).length=s.length:=by
 unfold xY;split
 ·exact Sf _ s
 ·rfl
theorem RS{x:Int}(h: -9223372036854775808<=x/\x<=9223372036854775807):IntKind.i64.wrap x=x:=by rw [IntKind.wrap_i64];omega
theorem Sg(d:List (Int×Int)) :∀(s:List Int) (B:Int),0<=B->B+1000 * d.length<=1000000000->(∀x∈s,-B<=x/\x<=B)->(∀p∈d,-1000<=p.2/\p.2<=1000)->∀x∈vF s d,-(B+1000 * d.length)<=x/\x<=B+1000 * d.length:=by
 induction d with
 | nil=>intro s B _ _ h _ x hx;have:=h x hx;simp only [List.length_nil];omega
 | cons p d ih =>
  intro s B hB hb h hd x hx
  simp only [List.length_cons] at hb ⊢
  have hp:=hd p zd
  have h1:∀x∈o3 s p,-(B+1000)<=x/\x<=B+1000:=λx hx=>by
   rcases List.mem_or_eq_of_mem_set hx with h9|h9
   ·have:=h x h9;omega
   ·have h0: -B<=s[p.1.toNat]?.getD 0/\s[p.1.toNat]?.getD 0<=B:=by
     cases hs:s[p.1.toNat]? with
     | none=>simp only [Option.getD_none];omega
     | some z=>exact h z (zM hs)
    rw [h9,RS z6]
    omega
  have:=ih (o3 s p) (B+1000) z6 z6 h1 (λq hq=>hd q (List.mem_cons_of_mem _ hq)) x hx
  omega
def GF(m:y8):Prop:=∀a∈m.yP,a.xu.delta.length<=128/\∀p∈a.xu.delta,-1000<=p.2/\p.2<=1000
theorem IG{m:y8}(h:GF m)(e:yo):(bU m e).length<=128/\∀p∈bU m e,-1000<=p.2/\p.2<=1000:=by
 unfold bU
 cases ha:m.yP[e.action.toNat]? with
 | none=>simp
 | some a=>exact h a (zM ha)
theorem cz{m:y8}(h:GF m)(e:yo){s:List Int}{k:Nat}(hk:k<=1000)(hs:∀x∈s,-(1000+128000 * (k:Int))<=x/\x<=1000+128000 * (k:Int)) :∀x∈xY m s e,-(1000+128000 * ((k+1:Nat):Int))<=x/\x<=1000+128000 * ((k+1:Nat):Int):=by
 intro x hx
 unfold xY at hx
 split at hx
 ·obtain⟨d1,d2⟩:=IG h e
  have:=Sg (bU m e) s (1000+128000 * (k:Int)) z6 z6 hs d2 x hx
  omega
 ·have:=hs x hx;omega
structure a8 (m:y8) (l:List yo) (ld:List Int) (A:List yo) (w:yt):Prop where
 clock:w.clock=p_ (n0 l) A
 time:w.time=A.foldl (λt e=>max t e.time) 0
 state:w.state=A.foldl (xY m) ld
 merged:Ox m A w.merged
 places:w.places=A.foldl lv []
theorem Q3{m:y8}(h:GF m){ld:List Int}(hl:∀x∈ld,-1000<=x/\x<=1000) :∀(A:List yo),A.length<=1000->∀x∈A.foldl (xY m) ld,-(1000+128000 * (A.length:Int))<=x/\x<=1000+128000 * (A.length:Int):=by
 have key:∀(A:List yo),A.reverse.length<=1000->∀x∈A.reverse.foldl (xY m) ld,-(1000+128000 * (A.reverse.length:Int))<=x/\x<=1000+128000 * (A.reverse.length:Int):=by
  intro A
  induction A with
  | nil=>intro _ x hx;have:=hl x hx;simp;omega
  | cons e A ih =>
   intro hA x hx
   rw [List.reverse_cons,List.foldl_append] at hx
   rw [List.length_reverse,List.length_cons] at hA
   have h2:=cz h e (k:=A.reverse.length) zk (ih zk) x hx
   simpa using h2
 intro A hA
 have:=key A.reverse (by simpa using hA)
 simpa using this
theorem QA{l A:List yo}(hc:ta l)(hA:GI l A){e:yo}(he:e∈l)(hn:e ∉ A):Cr A e:=by
 have hu:=nu hc.2.1
 refine⟨λp hp ⟨h1,h2⟩=>hn ?_,λp hp hh=>hn (hA.cls p hp e he hh),λp hp ⟨h1,h2⟩=>?_,Ts (hc.2.2.1 e he).1⟩
 ·rw [<-hu p (hA.sub p hp) e he h1 h2];exact hp
 ·rcases Int.lt_trichotomy p.num e.num with h|h|h
  ·have:=(lk hc he (hA.sub p hp) (mC hc he (hA.sub p hp) h2 h)).1
   omega
  ·exact hn (by rw [<-hu p (hA.sub p hp) e he h2 h];exact hp)
  ·exact hn (hA.cls p hp e he (mC hc (hA.sub p hp) he h2.symm h))
theorem Z5{m:y8}{l A:List yo}{ld:List Int}{w:yt}{e:yo}(hs:My m l)(_hl:l.length<=100)(hd:GF m)(C9:∀x∈ld,-1000<=x/\x<=1000)(hw:a8 m l ld A w)(hAl:A.length<=100)(hA:GI l A)(he:e∈l)(hn:e ∉ A)(hp:∀d∈l,x9 e.yj d.rep d.num->d∈A) :
  ∃w',yA m A w e=(0,w')/\a8 m l ld (A ++ [e]) w':=by
 obtain⟨hm,hfw,hc,hf,hv⟩:=hs
 have YQ:=QA hc hA he hn
 have hu:kV A:=Xy (nu hc.2.1) hA.sub
 have su:=hw.merged.BU hm.lay hf hu (λx hx=>(hc.2.2.1 x (hA.sub x hx)).1) z6
 have kq:e.yj.length=n0 l:=(hc.2.2.1 e he).2
 have rB:rE m (e.yj.length:Nat) e:=by rw [kq];exact hv e he
 obtain⟨k',a1,a2,-⟩:=Ze hm.lay su z6 hw.merged rB YQ
 have Dd:w.clock.length=n0 l:=by rw [hw.clock,sb]
 have hb:=cz hd e (k:=A.length) z6 (Q3 hd C9 A z6)
 have h1:rE m (w.clock.length:Nat) e:=by rw [Dd];exact hv e he
 have h2:¬x9 w.clock e.rep e.num:=by rw [hw.clock];exact λh=>hn ((Pj hc hA he).1 h)
 have h3:Ins e.yj w.clock:=by rw [hw.clock];exact Ph hc hA he hp
 have h4:¬iT A e:=λ⟨x,hx,hh,ht⟩=>by
  have:=(lk hc he (hA.sub x hx) hh).1
  omega
 have h5:¬(e.kind=0/\¬lC (xY m w.state e)):=λ⟨_,h⟩=>h λx hx=>by
  rw [hw.state] at hx
  have:=hb x hx
  omega
 have h6:¬(yq m w.merged e).1≠0:=by rw [a1];exact λh=>h rfl
 refine⟨⟨oS w.clock e,max w.time e.time,xY m w.state e,k',lv w.places e⟩, ?_,⟨?_, ?_, ?_,a2, ?_⟩⟩
 ·rw [yA,if_neg (λh=>h h1),if_neg h2,if_neg (λh=>h h3),if_neg h4,if_neg h5,if_neg h6,a1]
 ·simp only [hw.clock,p_,List.foldl_append,oS];rfl
 ·simp only [hw.time,List.foldl_append];rfl
 ·simp only [hw.state,List.foldl_append];rfl
 ·simp only [hw.places,List.foldl_append];rfl
structure RP (l X:List yo):Prop where
 sub:∀e∈X,e∈l
 nxt:∀(i:Nat) e,X[i]?=some e->e ∉ X.take i/\∀d∈l,x9 e.yj d.rep d.num->d∈X.take i
theorem RP.nil(l:List yo):RP l []:=⟨λe h=>(by cases h),λi e h=>by simp at h⟩
theorem RP.snoc{l X:List yo}{e:yo}(h:RP l X)(he:e∈l)(hn:e ∉ X)(hp:∀d∈l,x9 e.yj d.rep d.num->d∈X):RP l (X ++ [e]):=by
 refine⟨λa ha=>(zV.1 ha).elim (h.sub a) λha=>by rw [zH.1 ha];exact he,λi a ha=>?_⟩
 have hi:=(zS.1 ha).1
 rw [zP,List.length_singleton] at hi
 by_cases hx:i < X.length
 ·rw [zI hx] at ha
  rw [List.take_append_of_le_length z6]
  exact h.nxt i a ha
 ·have:i=X.length:=z6
  subst this
  rw [zJ (Nat.le_refl _),Nat.sub_self] at ha
  cases ha
  rw [List.take_left]
  exact⟨hn,hp⟩
theorem RP.cau{l X:List yo}(h:RP l X)(i:Nat):GI l (X.take i):=by
 refine⟨λa ha=>h.sub a (zW ha),λa ha d hd hh=>?_⟩
 obtain⟨j,hj⟩:=zO ha
 rw [List.getElem?_take] at hj
 split at hj
 ·rename_i py
  have:=(h.nxt j a hj).2 d hd hh
  rw [show X.take j=(X.take i).take j by rw [List.take_take,Nat.min_eq_left z6]] at this
  exact zW this
 ·cases hj
theorem RP.all{l X:List yo}(h:RP l X):GI l X:=by
 have:=h.cau X.length
 rwa [zL] at this
theorem A4(m:y8)(l:List yo)(ld:List Int):a8 m l ld [] ⟨List.replicate (n0 l) 0,0,ld,List.replicate (yw m).length nS,[]⟩:=⟨rfl,rfl,rfl,Ox.nil m,rfl⟩
theorem z1S{α β:Type}{f:β->α->β}(hf:∀b x y,f (f b x) y=f (f b y) x){l l':List α}(h:l.Perm l') :∀b,l.foldl f b=l'.foldl f b:=by
 induction h with
 | nil=>exact λ_=>rfl
 | cons x _ ih=>exact λb=>ih (f b x)
 | swap x y l=>intro b;simp only [List.foldl_cons];rw [hf]
 | trans _ _ h1 h2=>exact λb=>(h1 b).trans (h2 b)
theorem wrap_add{x p q:Int}:IntKind.i64.wrap (IntKind.i64.wrap (x+p)+q)=IntKind.i64.wrap (IntKind.i64.wrap (x+q)+p):=by
 simp only [IntKind.wrap_i64];omega
theorem z2r(s:List Int)(p q:Int×Int):o3 (o3 s p) q=o3 (o3 s q) p:=by
 unfold o3
 by_cases h:p.1.toNat=q.1.toNat
 ·rw [h]
  by_cases hl:q.1.toNat < s.length
  ·simp only [List.getElem?_set_self hl,Option.getD_some,List.set_set,wrap_add]
  ·simp only [List.set_eq_of_length_le (show s.length<=q.1.toNat by omega)]
 ·rw [List.getElem?_set_ne h,List.getElem?_set_ne (λh9=>h h9.symm),List.set_comm _ _ h]
theorem z2q(d:List (Int×Int)) :∀(s:List Int) (p:Int×Int),vF (o3 s p) d=o3 (vF s d) p:=by
 induction d with
 | nil=>exact λ_ _=>rfl
 | cons q d ih =>
  intro s p
  have h1:vF (o3 s p) (q :: d)=vF (o3 (o3 s p) q) d:=rfl
  have h2:vF s (q :: d)=vF (o3 s q) d:=rfl
  rw [h1,h2,z2r,ih]
theorem z2p(d:List (Int×Int)) :∀(s:List Int) (d':List (Int×Int)),vF (vF s d) d'=vF (vF s d') d:=by
 induction d with
 | nil=>exact λ_ _=>rfl
 | cons q d ih =>
  intro s d'
  have h1:∀s,vF s (q :: d)=vF (o3 s q) d:=λ_=>rfl
  rw [h1,h1,ih,z2q]
theorem z2o(m:y8)(s:List Int)(a b:yo):xY m (xY m s a) b=xY m (xY m s b) a:=by
 unfold xY
 split <;> split <;> first|rfl|exact z2p _ _ _
theorem z1R{m:y8}{l l':List yo}(h:l.Perm l')(ld:List Int):l.foldl (xY m) ld=l'.foldl (xY m) ld:=z1S (z2o m) h ld
/-! ### z0H -/
noncomputable def Zj(l:List yo):List Int:=(l.filter λe=>decide (0 < e.place)).map (·.place)
theorem dx{l s:List Int}{n:Int}(h:SI l s):SI (l ++ [n]) (tF s n):=by
 unfold tF
 split
 ·rename_i hn;exact Y4 h hn
 ·rename_i hn
  refine⟨List.pairwise_append.2 ⟨h.1.filter _,List.pairwise_cons.2 ⟨λy hy=>by simpa using(List.mem_filter.1 hy).2,h.1.filter _⟩,λa ha b hb=>?_⟩,λy=>?_⟩
  ·have ha:a < n:=by simpa using(List.mem_filter.1 ha).2
   rcases List.mem_cons.1 hb with rfl|hb
   ·exact ha
   ·have hb:n < b:=by simpa using(List.mem_filter.1 hb).2
    omega
  ·constructor
   ·intro h9
    rcases zV.1 h9 with h9|h9
    ·exact zV.2 (.inl ((h.2 y).1 (List.mem_filter.1 h9).1))
    ·rcases List.mem_cons.1 h9 with rfl|h9
     ·simp
     ·exact zV.2 (.inl ((h.2 y).1 (List.mem_filter.1 h9).1))
   ·intro h9
    rcases zV.1 h9 with h9|h9
    ·have hy:=(h.2 y).2 h9
     have vB:y≠n:=λe=>hn (e▸hy)
     by_cases xC:y < n
     ·exact zV.2 (.inl (List.mem_filter.2 ⟨hy,by simpa using xC⟩))
     ·exact zV.2 (.inr (List.mem_cons.2 (.inr (List.mem_filter.2 ⟨hy,by simp only [decide_eq_true_eq];omega⟩))))
    ·rw [zH.1 h9];simp
theorem Js{l:List yo} :∀{P:List Int} {s:List Int},SI P s->SI (P ++ Zj l) (l.foldl lv s):=by
 induction l with
 | nil=>intro P s h;simpa [Zj] using h
 | cons e l ih =>
  intro P s h
  rw [List.foldl_cons]
  by_cases he:0 < e.place
  ·have h1:=ih (dx (n:=e.place) h)
   rw [show lv s e=tF s e.place from if_pos he]
   rw [show P ++ Zj (e :: l)=P ++ [e.place] ++ Zj l by simp [Zj,he]]
   exact h1
  ·rw [show lv s e=s from if_neg he]
   rw [show P ++ Zj (e :: l)=P ++ Zj l by simp [Zj,he]]
   exact ih h
theorem rT(l:List yo):l.foldl lv []=gY (Zj l):=by
 have h:SI ([] ++ Zj l) (l.foldl lv []):=Js ⟨List.Pairwise.nil,by simp⟩
 rw [List.nil_append] at h
 exact h.uniq (lS _)
theorem Kn.z3m{m:y8}{t:ym}{i:Nat}{P:List yo}{g:xp}(h:Kn m t i P g)(k:t.kind≠3):g.put=false:=by
 cases hp:g.put
 ·rfl
 ·exact absurd (h.put.1 hp).1 k
abbrev q7:=yo×qh
def wrF(m:y8)(l:List yo)(i:Nat):List q7:=l.filterMap λe=>(qA m e i).map λu=>(e,u)
theorem q6{m:y8}{l:List yo}{i:Nat}{w:q7}:w∈wrF m l i↔w.1∈l/\qA m w.1 i=some w.2:=by
 unfold wrF
 rw [List.mem_filterMap]
 constructor
 ·rintro⟨e,he,h⟩
  cases hu:qA m e i with
  | none=>rw [hu] at h;cases h
  | some u=>rw [hu] at h;cases h;exact⟨he,hu⟩
 ·rintro⟨h1,h2⟩
  exact⟨w.1,h1,by rw [h2];rfl⟩
def v7(e:yo)(W:List q7)(k:Int):Prop:=∃x∈W,x.2.1=k/\x9 x.1.yj e.rep e.num
noncomputable instance (e:yo) (W:List q7) (k:Int):Decidable (v7 e W k):=zC _
def LtT(a b:yo):Prop:=a.time < b.time∨a.time=b.time/\a.rep < b.rep
def z1n(W:List q7):Prop:=∃w∈W,w.2.1=0/\¬v7 w.1 W 1
def In1(W:List q7):Prop:=(∃w∈W,w.2.1=0)/\¬∃w∈W,w.2.1=1/\¬v7 w.1 W 0
noncomputable instance (W:List q7):Decidable (z1n W):=zC _
noncomputable instance (W:List q7):Decidable (In1 W):=zC _
noncomputable def x7(W:List q7):List Int:=(W.filter λw=>decide (w.2.1=2/\¬v7 w.1 W 2)).map (·.2.2.2)
structure z1L (t:ym) (W:List q7) (r:List Int):Prop where
 two:t.kind=2->r= [if z1n W then 1 else 0]
 three:t.kind=3->r= [if In1 W then 1 else 0]
 four:t.kind=4->((∀w∈W,w.2.1≠2)/\r= [Lf t])∨∃w∈W,w.2.1=2/\r= [w.2.2.2]/\∀x∈W,x.2.1=2->¬LtT w.1 x.1
 z34:t.kind=5->r=if x7 W= [] then [Lf t] else gY (x7 W)
theorem z1H{l l':List Int}(h:∀x,x∈l↔x∈l'):gY l=gY l' :=
 (lS l).uniq ⟨(lS l').1,λx=>((lS l').2 x).trans (h x).symm⟩
theorem z2A(x:Int):gY [x]= [x]:=(lS [x]).uniq ⟨List.pairwise_singleton _ _,λ_=>Iff.rfl⟩
theorem z2N{l:List yo}(hc:ta l){a b:yo}(ha:a∈l)(hb:b∈l)(ht:a.time=b.time)(hr:a.rep=b.rep):a=b:=by
 rcases Int.lt_trichotomy a.num b.num with h|h|h
 ·have:=(lk hc hb ha (mC hc hb ha hr h)).1;omega
 ·exact nu hc.2.1 a ha b hb hr h
 ·have:=(lk hc ha hb (mC hc ha hb hr.symm h)).1;omega
theorem z1C{m:y8}{t:ym}{i:Nat}{l:List yo}{x:yC}:L7 m t i l x↔∃w∈wrF m l i,w.2.1=bK t.kind/\x=pR t w.1 w.2/\¬v7 w.1 (wrF m l i) (kK t.kind):=by
 constructor
 ·rintro⟨e,he,u,h1,h2,h3,h4⟩
  refine⟨(e,u),q6.2 ⟨he,h1⟩,h2,h3,λ⟨y,hy,hk,hh⟩=>?_⟩
  obtain⟨y1,y2⟩:=q6.1 hy
  exact h4 y.1 y1 y.2 y2 hk hh
 ·rintro⟨w,hw,h2,h3,h4⟩
  obtain⟨w1,w2⟩:=q6.1 hw
  exact⟨w.1,w1,w.2,w2,h2,h3,λd hd v hv hk hh=>h4 ⟨(d,v),q6.2 ⟨hd,hv⟩,hk,hh⟩⟩
theorem z1O{m:y8}{t:ym}{i:Nat}{l:List yo}{x:yC}:bB m t i l x↔∃w∈wrF m l i,w.2.1=bK t.kind/\x=pR t w.1 w.2:=by
 constructor
 ·rintro⟨e,he,u,h1,h2,h3⟩
  exact⟨(e,u),q6.2 ⟨he,h1⟩,h2,h3⟩
 ·rintro⟨w,hw,h2,h3⟩
  obtain⟨w1,w2⟩:=q6.1 hw
  exact⟨w.1,w1,w.2,w2,h2,h3⟩
theorem z1B{t:ym}{m:y8}{i:Nat}{l:List yo}{g:xp}(h:Kn m t i l g)(k4:t.kind≠4):g.marks.length=0↔¬∃w∈wrF m l i,w.2.1=bK t.kind/\¬v7 w.1 (wrF m l i) (kK t.kind):=by
 constructor
 ·rintro h0 ⟨w,hw,h1,h2⟩
  have:=(h.PN k4 (pR t w.1 w.2)).2 (z1C.2 ⟨w,hw,h1,rfl,h2⟩)
  rw [zQ h0] at this
  cases this
 ·intro hn
  rcases Nat.eq_zero_or_pos g.marks.length with h0|h0
  ·exact h0
  ·obtain⟨x,hx⟩:=zz (l:=g.marks) (i:=0) h0
   obtain⟨w,hw,h1,_,h2⟩:=z1C.1 ((h.PN k4 x).1 (zM hx))
   exact absurd ⟨w,hw,h1,h2⟩ hn
theorem z2K{m:y8}{t:ym}{i:Nat}{l:List yo}{g:xp}{r:List Int}(hk:Kd t)(hc:ta l)(h:Kn m t i l g)(hd:z1L t (wrF m l i) r):r=rF t g:=by
 rcases hk with k|k|k|k
 ·have hv:rF t g=ia t g:=if_pos (.inl k)
  have hb:eG t g=(g.put || decide (0 < g.marks.length)):=if_pos k
  rw [hd.two k,hv,ia,hb,h.z3m z6,Bool.false_or]
  have h1:=z1B h z6
  rw [k] at h1
  change g.marks.length=0↔¬z1n (wrF m l i) at h1
  congr 1
  by_cases hl:z1n (wrF m l i)
  ·have:¬g.marks.length=0:=λh9=>h1.1 h9 hl
   rw [if_pos hl,if_pos zk]
  ·have:g.marks.length=0:=h1.2 hl
   rw [if_neg hl,if_neg (λh9=>by have:=of_decide_eq_true h9;omega)]
 ·have h1:=z1B h z6
  rw [k] at h1
  have hv:rF t g=ia t g:=if_pos (.inr k)
  have hb:eG t g=(g.put && !g.drop && decide (g.marks.length=0)):=if_neg (show¬t.kind=2 by omega)
  rw [hd.three k,hv,ia,hb,h.drop,Bool.not_false,Bool.and_true]
  have h2:g.put=true↔∃w∈wrF m l i,w.2.1=0:=by
   rw [h.put]
   constructor
   ·rintro⟨_,e,he,u,h3,h4⟩
    exact⟨(e,u),q6.2 ⟨he,h3⟩,h4⟩
   ·rintro⟨w,hw,h3⟩
    obtain⟨w1,w2⟩:=q6.1 hw
    exact⟨k,w.1,w1,w.2,w2,h3⟩
  congr 1
  by_cases hl:In1 (wrF m l i)
  ·have h3:g.put=true:=h2.2 hl.1
   have h4:g.marks.length=0:=h1.2 hl.2
   rw [if_pos hl,if_pos (by simp [h3,h4])]
  ·rw [if_neg hl,if_neg λh9=>hl ?_]
   rw [Bool.and_eq_true,decide_eq_true_eq] at h9
   exact⟨h2.1 h9.1,h1.1 h9.2⟩
 ·have hr:x8 t.kind:= .inl k
  have hb:bK t.kind=2:=by rw [k];rfl
  have hv:rF t g=if g.marks.length=0 then [Lf t] else gY (g.marks.map yC.val):=if_neg (show¬(t.kind=2∨t.kind=3) by omega)
  rw [hv]
  rcases h.four k with⟨h1,h2⟩|⟨x,h1,h2,h3⟩
  ·rw [h1,if_pos zu]
   rcases hd.four k with⟨_,h4⟩|⟨w,hw,h4,_⟩
   ·exact h4
   ·exact absurd (z1O.2 ⟨w,hw,by rw [hb];exact h4,rfl⟩) (h2 _)
  ·rw [h1,if_neg zd,List.map_cons,List.map_nil,z2A]
   obtain⟨v,hv,v1,rfl⟩:=z1O.1 h2
   rcases hd.four k with⟨h4,_⟩|⟨w,hw,h4,h5,h6⟩
   ·exact absurd (by rw [<-hb];exact v1) (h4 v hv)
   ·have g1:=h3 _ (z1O.2 ⟨w,hw,by rw [hb];exact h4,rfl⟩)
    have g2:=h6 v hv (by rw [<-hb];exact v1)
    obtain⟨a1,a2⟩:=q6.1 hw
    obtain⟨b1,b2⟩:=q6.1 hv
    have he:v.1=w.1:=by
     refine z2N hc b1 a1 ?_ ?_ <;> (unfold wC pR at g1;unfold LtT at g2;simp only at g1;omega)
    have hu:v.2=w.2:=by rw [he,a2] at b2;exact(Option.some.inj b2).symm
    rw [h5,pR,if_pos hr,hu]
 ·have hr:x8 t.kind:= .inr k
  have hb:bK t.kind=2:=by rw [k];rfl
  have hkk:kK t.kind=2:=by rw [k];rfl
  have hv:rF t g=if g.marks.length=0 then [Lf t] else gY (g.marks.map yC.val):=if_neg (show¬(t.kind=2∨t.kind=3) by omega)
  rw [hv,hd.z34 k]
  have ik:∀x,x∈x7 (wrF m l i)↔x∈g.marks.map yC.val:=λx=>by
   unfold x7
   rw [List.mem_map,List.mem_map]
   constructor
   ·rintro⟨w,hw,rfl⟩
    obtain⟨w1,w2⟩:=List.mem_filter.1 hw
    have w2:=of_decide_eq_true w2
    exact⟨pR t w.1 w.2,(h.PN z6 _).2 (z1C.2 ⟨w,w1,by rw [hb];exact w2.1,rfl,by rw [hkk];exact w2.2⟩),by rw [pR,if_pos hr]⟩
   ·rintro⟨y,hy,rfl⟩
    obtain⟨w,hw,h1,rfl,h2⟩:=z1C.1 ((h.PN z6 y).1 hy)
    exact⟨w,List.mem_filter.2 ⟨hw,zT ⟨by rw [<-hb];exact h1,by rw [<-hkk];exact h2⟩⟩,by rw [pR,if_pos hr]⟩
  by_cases h0:g.marks.length=0
  ·have:x7 (wrF m l i)= []:=List.eq_nil_iff_forall_not_mem.2 λx hx=>by
    have:=(ik x).1 hx
    rw [zQ h0] at this
    cases this
   rw [if_pos this,if_pos h0]
  ·have:¬x7 (wrF m l i)= []:=λh9=>by
    obtain⟨x,hx⟩:=zz (l:=g.marks) (i:=0) z6
    have:=(ik x.val).2 (List.mem_map.2 ⟨x,zM hx,rfl⟩)
    rw [h9] at this
    cases this
   rw [if_neg this,if_neg h0,z1H ik]
/-! ### RG is made -/
/-! ### qJ parts -/
/-! ### H8 -/
structure LB where
 base:yt
 vm:List yo
 now:yt
noncomputable def uP(c:List Int)(l:List yo):List yo:=l.filter λe=>decide (x9 c e.rep e.num)
noncomputable def vN(c:List Int)(l:List yo):List yo:=l.filter λe=>decide (¬x9 c e.rep e.num)
noncomputable def um(m:y8)(k:List xp)(e:yo):List xp:=(yq m k e).2
noncomputable def qp(m:y8)(b:yt)(e:yo):yt:=⟨b.clock,max b.time e.time,xY m b.state e,um m b.merged e,lv b.places e⟩
noncomputable def qo(m:y8)(b:yt)(c:List Int)(l:List yo):yt:={ (uP c l).foldl (qp m) b with clock:=c }
noncomputable def xi(m:y8)(s:LB)(c:List Int):Int×LB :=
 @ite _ (¬(vY c/\c.length=s.now.clock.length)) (zC _) (1,s)
  (@ite _ (¬(Ins s.base.clock c/\Ins c s.now.clock/\∀e∈s.vm,x9 c e.rep e.num->Ins e.yj c)) (zC _) (9,s)
   (0,⟨qo m s.base c s.vm,vN c s.vm,{ s.now with merged:=(vN c s.vm).foldl (um m) (qo m s.base c s.vm).merged }⟩))
theorem mK{m:y8}(A:List yo) :∀b:yt,A.foldl (qp m) b=⟨b.clock,A.foldl (λt e=>max t e.time) b.time,A.foldl (xY m) b.state,A.foldl (um m) b.merged,A.foldl lv b.places⟩:=by
 induction A with
 | nil=>exact λ_=>rfl
 | cons e A ih=>intro b;rw [List.foldl_cons,ih];rfl
def eY(a b:yo):Prop:=we a/\we b/\x9 b.yj a.rep a.num
noncomputable instance (a b:yo):Decidable (eY a b):=zC _
def ZS(rest:List yo)(e:yo):Prop:=∀y∈rest,¬eY y e
noncomputable instance (rest:List yo) (e:yo):Decidable (ZS rest e):=zC _
noncomputable def r8(rest:List yo):Nat->List Int
 | 0=> []
 | n+1=>r8 rest n ++ (match rest[n]? with
  | some e=>if ZS rest e then [(n:Int)] else []
  | none=> [])
theorem Tw{rest:List yo}{n:Nat}(hn:n<=rest.length){x:Int}:x∈r8 rest n↔∃(i:Nat) (e:yo),x=i/\i < n/\rest[i]?=some e/\ZS rest e:=by
 induction n with
 | zero=>simp [r8]
 | succ n ih =>
  obtain⟨e,he⟩:=zz (l:=rest) (i:=n) z6
  rw [r8,zV,ih z6,he]
  constructor
  ·rintro(⟨i,d,h1,h2,h3⟩|h)
   ·exact⟨i,d,h1,z6,h3⟩
   ·simp only at h
    split at h
    ·rename_i hf
     exact⟨n,e,zH.1 h,z6,he,hf⟩
    ·cases h
  ·rintro⟨i,d,h1,h2,h3,h4⟩
   by_cases hi:i < n
   ·exact .inl ⟨i,d,h1,hi,h3,h4⟩
   ·have:i=n:=z6
    subst this
    rw [he] at h3;cases h3
    right
    simp only [if_pos h4,h1,zH]
theorem Tx(rest:List yo) :∀n,(r8 rest n).length<=n:=by
 intro n
 induction n with
 | zero=>simp [r8]
 | succ n ih =>
  rw [r8,zP]
  split
  ·split <;> simp <;> omega
  ·simp;omega
theorem z1Q{l:List yo}(h:RH l):l.Nodup:=by
 rw [List.nodup_iff_pairwise_ne,List.pairwise_iff_getElem]
 intro i j hi hj u5 he
 have:=h i j _ _ (zE hi) (zE hj) (by rw [he])
 omega
theorem Td(a b:yo):y6 Tryz.prog 100 [uL a,uL b] (bl (decide (X3 a b))):=by
 refine zy.of pg ye Tryz.func100 rfl Tryz.ntmps100 Tryz.results100 rfl λh0 G0 O0=>?_
 repeat'(first|apply Sp.h|refine Lk.r rfl ?_|refine Rf.mk rfl ?_|apply Bd.mk|apply yc.mk|refine xT ?_|refine xN ?_|intro _)
 all_goals exact Fin.p rfl (vb (by first|exact(zT (by unfold X3;omega)).symm|exact(zF (by unfold X3;omega)).symm|exact zD.2 (by unfold X3;omega)))
theorem Zd(a b:yo):y6 Tryz.prog 74 [uL a,uL b] (bl (decide (eY a b))):=by
 have h1:=mD a
 have h2:=mD b
 have h3:=Yi a
 have h4:=fH b.yj a.rep a.num
 by_cases k1:we a
 ·by_cases k2:we b
  ·have:decide (eY a b)=decide (x9 b.yj a.rep a.num):=zD.2 ⟨λh=>h.2.2,λh=>⟨k1,k2,h⟩⟩
   rw [this]
   refine zy.of pg VD Tryz.func74 rfl Tryz.ntmps74 Tryz.results74 rfl λh0 G0 O0=>?_
   repeat'(first|apply Sp.h|refine Lk.r rfl ?_|refine Rf.mk rfl ?_|refine xA ?_|refine yu.r rfl ?_|refine yc.mk λ_=>?_|refine xT ?_|refine Ch.l ⟨rfl,rfl⟩ ?_|refine xN ?_|refine xD ?_|(apply Cl.p (h1);{exact ze})|(apply Cl.p (h2);{exact ze})|(apply Cl.p (h3);{exact ze})|(apply Cl.p (h4);{exact ze}))
   all_goals exact Fin.p rfl rfl
  ·have:decide (eY a b)=false:=zF λh=>k2 h.2.1
   rw [this]
   refine zy.of pg VD Tryz.func74 rfl Tryz.ntmps74 Tryz.results74 rfl λh0 G0 O0=>?_
   repeat'(first|apply Sp.h|refine Lk.r rfl ?_|refine Rf.mk rfl ?_|refine xA ?_|refine xB ?_|refine yu.r rfl ?_|refine yc.mk λ_=>?_|refine xT ?_|refine Ch.l ⟨rfl,rfl⟩ ?_|refine xN ?_|refine xD ?_|(apply Cl.p (h1);{exact ze})|(apply Cl.p (h2);{exact ze})|(apply Cl.p (h3);{exact ze})|(apply Cl.p (h4);{exact ze}))
   all_goals exact Fin.p rfl rfl
 ·have:decide (eY a b)=false:=zF λh=>k1 h.1
  rw [this]
  refine zy.of pg VD Tryz.func74 rfl Tryz.ntmps74 Tryz.results74 rfl λh0 G0 O0=>?_
  repeat'(first|apply Sp.h|refine Lk.r rfl ?_|refine Rf.mk rfl ?_|refine xB ?_|refine yu.r rfl ?_|refine yc.mk λ_=>?_|refine xT ?_|refine Ch.l ⟨rfl,rfl⟩ ?_|refine xN ?_|refine xD ?_|(apply Cl.p (h1);focus(repeat' constructor);done)|(apply Cl.p (h2);focus(repeat' constructor);done)|(apply Cl.p (h3);focus(repeat' constructor);done)|(apply Cl.p (h4);focus(repeat' constructor);done))
  all_goals exact Fin.p rfl rfl
abbrev MC (l:List Int):AV:= .sl 1 l λx=> [.val (.int .u8 x)]
structure dt (m:y8) (ld:List Int) (l:List yo):Prop where
 e:My m l
 ne:0 < l.length
 ln:ld.length=xk m
 ld:∀x∈ld,-1000<=x/\x<=1000
 sm:∀a∈m.yP,∀p∈a.xu.delta,-1000<=p.2/\p.2<=1000
theorem dt.smd{m:y8}{ld:List Int}{l:List yo}(h:dt m ld l):GF m:=λa ha=>⟨(h.e.1.xu a ha).dl,h.sm a ha⟩
noncomputable def y_(m:y8)(n:Nat)(ld:List Int)(X:List yo):yt:=⟨p_ n X,X.foldl (λt e=>max t e.time) 0,X.foldl (xY m) ld,X.foldl (um m) (List.replicate (yw m).length nS),X.foldl lv []⟩
theorem jE{m:y8}{evl:List yo}{w:yt}{e:yo}(h:(yA m evl w e).1=0):(yA m evl w e).2=⟨oS w.clock e,max w.time e.time,xY m w.state e,(yq m w.merged e).2,lv w.places e⟩:=by
 unfold yA at h ⊢
 repeat' split
 all_goals first
  | rfl
  | (exfalso;simp_all;done)
theorem cL{m:y8}{evl:List yo}{w:yt}{e:yo}(h:(yA m evl w e).1=0):vX (yw m) w.merged/\rE m (w.clock.length:Nat) e/\(yq m w.merged e).1=0:=by
 have key:rE m (w.clock.length:Nat) e/\(yq m w.merged e).1=0:=by
  unfold yA at h
  repeat' split at h
  all_goals first
   | (exfalso;simp at h;done)
   | (rename_i h1 _ _ _ _ h6;exact⟨Classical.not_not.1 h1,Classical.not_not.1 h6⟩)
   | (rename_i h6;exact absurd h h6)
 exact⟨(mL key.2).1,key⟩
theorem dB(m:y8)(n:Nat)(ld:List Int)(X:List yo)(e:yo):y_ m n ld (X ++ [e])=⟨oS (y_ m n ld X).clock e,max (y_ m n ld X).time e.time,xY m (y_ m n ld X).state e,(yq m (y_ m n ld X).merged e).2,lv (y_ m n ld X).places e⟩:=by
 simp only [y_,p_,List.foldl_append,List.foldl_cons,List.foldl_nil,oS,um]
theorem Y9(l:List yo):(Zj l).length<=l.length:=by unfold Zj;rw [List.length_map];exact List.length_filter_le _ _
theorem po(m:y8)(X:List yo) :∀ld:List Int,(X.foldl (xY m) ld).length=ld.length:=by
 induction X with
 | nil=>exact λ_=>rfl
 | cons e X ih=>intro ld;rw [List.foldl_cons,ih,nH]
theorem J7{m:y8}{l X:List yo}{ld:List Int}(hs:dt m ld l)(hX:∀e∈X,e∈l)(hl:X.length<=1000):iS m (y_ m (n0 l) ld X):=by
 obtain⟨e,he⟩:=zz (l:=l) (i:=0) hs.ne
 have hr:=Ue hs.e.2.2.1 (zM he)
 refine⟨cv hs.e.2.2.1 hX hr,by simp only [y_,po];exact hs.ln, ?_, ?_⟩
 ·simp only [y_,rT];exact(lS _).1
 ·simp only [y_,rT]
  have:=qL (Zj X);have:=Y9 X
  omega
theorem cc{m:y8}{l X:List yo}{ld:List Int}(hs:dt m ld l)(hl:X.length<=100)(hX:RP l X) :∀i,i<=X.length->a8 m l ld (X.take i) (y_ m (n0 l) ld (X.take i))/\∀e,X[i]?=some e->yA m (X.take i) (y_ m (n0 l) ld (X.take i)) e=(0,y_ m (n0 l) ld (X.take (i+1))):=by
 have step:∀i e,X[i]?=some e->a8 m l ld (X.take i) (y_ m (n0 l) ld (X.take i))->yA m (X.take i) (y_ m (n0 l) ld (X.take i)) e=(0,y_ m (n0 l) ld (X.take (i+1)))/\a8 m l ld (X.take (i+1)) (y_ m (n0 l) ld (X.take (i+1))):=by
  intro i e he yL
  have qf:=(zS.1 he).1
  have gT:=hX.sub e (zM he)
  obtain⟨h1,h2⟩:=hX.nxt i e he
  obtain⟨w',d1,d2⟩:=Z5 hs.e (by have:=hs.e.2.1.1;omega) hs.smd hs.ld yL (by rw [zN];omega) (hX.cau i) gT h1 h2
  have xe:X.take (i+1)=X.take i ++ [e]:=by rw [zK,he];rfl
  have hw:w'=y_ m (n0 l) ld (X.take (i+1)):=by
   have:=jE (m:=m) (evl:=X.take i) (w:=y_ m (n0 l) ld (X.take i)) (e:=e) (by rw [d1])
   rw [d1] at this
   rw [xe,dB]
   exact this
  rw [hw] at d1 d2
  rw [<-xe] at d2
  exact⟨d1,d2⟩
 intro i
 induction i with
 | zero =>
  intro _
  have h0:a8 m l ld (X.take 0) (y_ m (n0 l) ld (X.take 0)):=A4 m l ld
  exact⟨h0,λe he=>(step 0 e he h0).1⟩
 | succ i ih =>
  intro hi
  obtain⟨e,he⟩:=zz (l:=X) (i:=i) z6
  have h1:=(step i e he (ih z6).1).2
  exact⟨h1,λd hd=>(step (i+1) d hd h1).1⟩
theorem QW{ld:List Int}(h:∀x∈ld,-1000<=x/\x<=1000):lC ld:=λx hx=>by have:=h x hx;omega
def Re(k:List xp):Prop:=k.length<=100000/\∀g∈k,g.marks.length<=1000000
theorem lY{m:y8}{k:List xp}{e:yo}(h:Re k):Re (um m k e):=by
 unfold um
 by_cases h0:(yq m k e).1=0
 ·obtain⟨_,_,h3,_,h5⟩:=mL h0
  exact⟨by rw [h3];exact h.1,h5⟩
 ·have h2:(yq m k e).2= []:=by
   unfold yq at h0 ⊢
   split
   ·rfl
   ·rename_i h1
    rw [if_neg h1] at h0
    split
    ·rename_i h2;rw [if_pos h2] at h0;exact absurd rfl h0
    ·rename_i h2
     rw [if_neg h2] at h0
     unfold wi at h0 ⊢
     split
     ·rfl
     ·rename_i h3
      rw [h3] at h0
      simp only at h0
      split
      ·rfl
      ·rename_i h4;rw [if_neg h4] at h0;exact absurd rfl h0
  rw [h2]
  exact⟨by simp,by simp⟩
structure DF (m:y8) (n:Nat) (b:yt):Prop where
 Vc:vY b.clock
 len:b.clock.length=n
 st:b.state.length=xk m
 mg:Re b.merged
 WZ:oT b.places
 SS:b.places.length<=10000
theorem Xp{l:List Int}{n:Int}(h:oT l):oT (tF l n):=(dx (l:=l) (s:=l) (n:=n) ⟨h,λ_=>Iff.rfl⟩).1
theorem UA{l:List Int}{n:Int}(h:oT l):(tF l n).length<=l.length+1:=by
 by_cases hn:n∈l
 ·rw [show tF l n=l from if_pos hn];omega
 ·rw [ZT h hn];simp;have:=n9 (λy=>decide (¬y < n)) l;unfold pY;omega
theorem Ya{l:List Int}{e:yo}(h:oT l):oT (lv l e)/\(lv l e).length<=l.length+1:=by
 unfold lv
 split
 ·exact⟨Xp h,UA h⟩
 ·exact⟨h,z6⟩
theorem dZ{c:List Int}{l:List yo}{i:Nat}{e:yo}(h:l[i]?=some e):uP c (l.take (i+1))=uP c (l.take i) ++ if x9 c e.rep e.num then [e] else []:=by
 rw [uP,lj h]
 by_cases hh:x9 c e.rep e.num <;> simp [hh,uP]
theorem XS{c:List Int}{l:List yo}{i:Nat}{e:yo}(h:l[i]?=some e):vN c (l.take (i+1))=vN c (l.take i) ++ if x9 c e.rep e.num then [] else [e]:=by
 rw [vN,lj h]
 by_cases hh:x9 c e.rep e.num <;> simp [hh,vN]
structure VV (m:y8) (b x:yt) (i:Nat):Prop where
 ck:x.clock=b.clock
 st:x.state.length=xk m
 mg:Re x.merged
 WZ:oT x.places
 SS:x.places.length<=b.places.length+i
theorem T7{m:y8}{b x:yt}{i:Nat}{e:yo}(h:VV m b x i):VV m b (qp m x e) (i+1) :=
 ⟨h.ck,by simp only [qp,nH];exact h.st,lY h.mg,(Ya h.WZ).1,by have:=(Ya (e:=e) h.WZ).2;have:=h.SS;simp only [qp];omega⟩
theorem TG(s:Nat)(m:y8)(b:yt)(v:Value)(w:yt)(c:List Int) :
  zy Tryz.prog 103 [pm s,ints c] [vw s m b v w] λr own=>r=bl (decide (vY c/\c.length=w.clock.length))/\own= [vw s m b v w]:=by
 have h:=uC c
 by_cases h1:vY c
 ·rw [zT h1] at h
  refine zy.of pg ye Tryz.func103 rfl Tryz.ntmps103 Tryz.results103 rfl λh0 G0 O0=>?_
  repeat'(first|apply Sp.h|refine Lk.r rfl ?_|refine Rf.mk rfl ?_|refine Im.mk λ_=>?_|refine xT ?_|refine xN ?_|(apply Cl.p (h);focus repeat' constructor))
  refine⟨_,_,.one (.same (.z)),vb (zD.2 ⟨λh=>⟨h1,z6⟩,λh=>z6⟩),rfl⟩
 ·rw [zF h1] at h
  rw [zF (λh9=>h1 h9.1)]
  refine zy.of pg ye Tryz.func103 rfl Tryz.ntmps103 Tryz.results103 rfl λh0 G0 O0=>?_
  repeat'(first|apply Sp.h|refine Lk.r rfl ?_|refine Rf.mk rfl ?_|refine xN ?_|(apply Cl.p (h);focus repeat' constructor))
  exact⟨_,_,.one (.same (.z)),rfl,rfl⟩
abbrev Ff (x:yt) (u:Value):List AV:= [ints x.clock,it x.time,.ow u,uH x.merged,tz,tz,ints x.places]
theorem gD(s:Nat)(m:y8)(b:yt)(v:Value)(evl:List yo)(w:yt)(c:List Int)(hm:nR m)(hw:iS m w)(hb:DF m w.clock.length b)(hl:evl.length<=1000)(rB:∀e∈evl,rE m (w.clock.length:Nat) e) :
  zy Tryz.prog 44 [pm s,ints c] [vw s m b v w,yb v 66 13 evl uf] λr own=>r=it (xi m ⟨b,evl,w⟩ c).1/\∃v',own= [vw s m (xi m ⟨b,evl,w⟩ c).2.base v' (xi m ⟨b,evl,w⟩ c).2.now,yb v' 66 13 (xi m ⟨b,evl,w⟩ c).2.vm uf]:=by
 have Od:=TG s m b v w c
 have eJ:=hm.str
 by_cases h1:vY c/\c.length=w.clock.length
 rotate_left
 ·have hF:xi m ⟨b,evl,w⟩ c=(1,⟨b,evl,w⟩):=@if_pos _ (zC _) h1 _ _ _
  rw [hF]
  rw [zF h1] at Od
  refine zy.of pg ZH Tryz.func44 rfl Tryz.ntmps44 Tryz.results44 rfl λh0 G0 O0=>?_
  repeat'(first|apply Sp.h|refine Lk.r rfl ?_|refine Rf.mk rfl ?_|fail)
  refine xW (Od) ?_
  rintro _ _ ⟨rfl,rfl⟩
  repeat'(first|apply Sp.h|refine Lk.r rfl ?_|refine Rf.mk rfl ?_|refine xB ?_|refine xN ?_|fail)
  exact⟨_,_,.one (.same (.z)),rfl,v,rfl⟩
 rw [zT h1] at Od
 have Bx:¬(Ins b.clock c/\Ins c w.clock/\∀e∈evl,x9 c e.rep e.num->Ins e.yj c)->xi m ⟨b,evl,w⟩ c=(9,⟨b,evl,w⟩):=λh =>
  (@if_neg _ (zC _) (λh9=>h9 h1) _ _ _).trans (@if_pos _ (zC _) h _ _ _)
 have Hq:=ph c b.clock
 have C7:=ph w.clock c
 have Oh:=hb.len
 have z07:w9 [c,b.clock]:=(oa _ _).2 ⟨h1.1,hb.Vc,z6⟩
 have z06:w9 [w.clock,c]:=(oa _ _).2 ⟨hw.Vc,h1.1,z6⟩
 by_cases h2:Ins b.clock c
 rotate_left
 ·rw [Bx (λh=>h2 h.1)]
  refine zy.of pg ZH Tryz.func44 rfl Tryz.ntmps44 Tryz.results44 rfl λh0 G0 O0=>?_
  repeat'(first|apply Sp.h|refine Lk.r rfl ?_|refine Rf.mk rfl ?_|fail)
  refine xW (Od) ?_
  rintro _ _ ⟨rfl,rfl⟩
  repeat'(first|apply Sp.h|refine Lk.r rfl ?_|refine Rf.mk rfl ?_|refine xA ?_|refine xT ?_|fail)
  refine xW (Hq) ?_
  rintro _ _ ⟨u,l,rfl,rfl,k1,k2⟩
  have k0:0 < l.length:=List.length_pos_iff.2 λh=>h2 (k1.1 h z07)
  repeat'(first|apply Sp.h|refine Lk.r rfl ?_|refine Rf.mk rfl ?_|refine xA ?_|refine xU ?_|refine xN ?_|fail)
  exact⟨_,_,.one (.same (.z)),rfl,v,rfl⟩
 by_cases h3:Ins c w.clock
 rotate_left
 ·rw [Bx (λh=>h3 h.2.1)]
  refine zy.of pg ZH Tryz.func44 rfl Tryz.ntmps44 Tryz.results44 rfl λh0 G0 O0=>?_
  repeat'(first|apply Sp.h|refine Lk.r rfl ?_|refine Rf.mk rfl ?_|fail)
  refine xW (Od) ?_
  rintro _ _ ⟨rfl,rfl⟩
  repeat'(first|apply Sp.h|refine Lk.r rfl ?_|refine Rf.mk rfl ?_|refine xA ?_|refine xT ?_|fail)
  refine xW (Hq) ?_
  rintro _ _ ⟨u,l,rfl,rfl,k1,k2⟩
  have k0:l.length=0:=by rw [k1.2 λ_=>h2];rfl
  repeat'(first|apply Sp.h|refine Lk.r rfl ?_|refine Rf.mk rfl ?_|refine xB ?_|refine xU ?_|refine xT ?_|fail)
  refine xW (C7) ?_
  rintro _ _ ⟨u2,l2,rfl,rfl,j1,j2⟩
  have j0:0 < l2.length:=List.length_pos_iff.2 λh=>h3 (j1.1 h z06)
  repeat'(first|apply Sp.h|refine Lk.r rfl ?_|refine Rf.mk rfl ?_|refine xA ?_|refine xB ?_|refine xU ?_|refine xN ?_|fail)
  exact⟨_,_,.one (.same (.z)),rfl,v,rfl⟩
 have hcb:=ll b tz tz ⟨by have:=hb.Vc.2.2;omega,by have:=hb.st;omega,hb.mg.1,hb.mg.2,by have:=hb.SS;omega⟩
 have YV:=ud c (by have:=h1.1.2.2;omega)
 refine zy.of pg ZH Tryz.func44 rfl Tryz.ntmps44 Tryz.results44 rfl λh0 G0 O0=>?_
 repeat'(first|apply Sp.h|refine Lk.r rfl ?_|refine Rf.mk rfl ?_|fail)
 refine xW (Od) ?_
 rintro _ _ ⟨rfl,rfl⟩
 repeat'(first|apply Sp.h|refine Lk.r rfl ?_|refine Rf.mk rfl ?_|refine xA ?_|refine xT ?_|fail)
 refine xW (Hq) ?_
 rintro _ _ ⟨u1,l1,rfl,rfl,k1,k2⟩
 have k0:l1.length=0:=by rw [k1.2 λ_=>h2];rfl
 repeat'(first|apply Sp.h|refine Lk.r rfl ?_|refine Rf.mk rfl ?_|refine xB ?_|refine xU ?_|refine xT ?_|fail)
 refine xW (C7) ?_
 rintro _ _ ⟨u2,l2,rfl,rfl,j1,j2⟩
 have j0:l2.length=0:=by rw [j1.2 λ_=>h3];rfl
 repeat'(first|apply Sp.h|refine Lk.r rfl ?_|refine Rf.mk rfl ?_|refine xB ?_|refine xU ?_|refine xT ?_|refine Ch.r ?_|fail)
 refine xW (hcb) ?_
 rintro _ _ ⟨v1,v2,v3,L,v4,rfl,hL,rfl⟩
 (repeat'(first|(show CA _ _ (Code.region 6 _ _) _ _;apply z_.out)|apply Sp.h|refine Lk.r rfl ?_|refine Rf.mk rfl ?_|apply yc.mk|refine xT ?_|(apply y4.r;focus repeat' constructor)|refine xN ?_|intro _));any_goals apply z_.mk
 rename_i b5
 have SL:L.length<=1000000:=by have h8:=congrArg List.length hL;rw [List.length_map] at h8;have:=hb.mg.1;omega
 have hLk:∀x∈L,x.marks.length<=1000000:=λx hx=>hb.mg.2 x.g (by rw [<-hL];exact List.mem_map_of_mem hx)
 have Bp:=hb.Vc.2.2
 have bt:=hb.SS
 have YY:=hb.st
 apply CA.own
 focus(apply OX.rD (b:=b5);{exact z1};(focus(apply FX.s1;{exact z1};{exact z6};apply FX.k;apply FX.k;apply Yb;{exact z1};{exact z1};{exact SL};{exact hLk};apply FX.k;apply FX.k;apply FX.s1;{exact z1};{exact z6};exact FX.nil));{exact z1})
 rw [hL]
 repeat'(first|apply Sp.h|refine Lk.r rfl ?_|refine Rf.mk rfl ?_|refine xU ?_|refine xT ?_|fail)
 refine CA.uV 6 66 13 uf rfl λvr=>?_
 refine CA.loop (λx:Nat×Value×yt=>⟨[(0,pm s),(1,ints c),(5,pm b5),(6,.ow x.2.1),(46,.ow v),(47,it (evl.length:Nat)),(48,it x.1)],[vw s m b v w,yb v 66 13 evl uf,yr b5 46 (Ff x.2.2 v2),yb v2 3 1 x.2.2.state xL,yb x.2.1 66 13 (vN c (evl.take x.1)) uf]⟩)
  (λx=>x.1<=evl.length/\(∀e∈evl.take x.1,x9 c e.rep e.num->Ins e.yj c)/\VV m b x.2.2 x.1/\x.2.2=(uP c (evl.take x.1)).foldl (qp m) b) (λx=>evl.length - x.1) (0,vr,b) xE ⟨zZ _,by simp,⟨rfl,hb.st,hb.mg,hb.WZ,by simp⟩,rfl⟩ ?_
 rintro⟨i,vr,y⟩ ⟨hi,Vm,ij,hy⟩
 simp only at hi Vm ij hy
 simp only
 have hyp:=ij.SS
 have hys:=ij.st
 by_cases qf:i < evl.length
 ·obtain⟨e,he⟩:=zz qf
  have Cc:=rB e (zM he)
  have hn:=jd e
  have hh:=kZ c e.rep e.num
  have lI:=dZ (c:=c) he
  have qY:=XS (c:=c) he
  have wU:(vN c (evl.take i)).length<=i:=by
   have:=List.length_filter_le (λe:yo=>decide (¬x9 c e.rep e.num)) (evl.take i)
   rw [zN] at this
   unfold vN;omega
  by_cases Hx:x9 c e.rep e.num
  rotate_left
  ·rw [zF Hx] at hh
   rw [if_neg Hx] at lI qY
   rw [List.append_nil] at lI
   repeat'(first|apply Sp.h|refine Lk.r rfl ?_|refine Rf.mk rfl ?_|refine xA ?_|refine xB ?_|refine xP ?_|refine yc.mk λ_=>?_|refine xU ?_|refine xT ?_|refine xI ?_|refine xJ ?_|refine Ce.r ?_|refine Ch.l ⟨rfl,rfl⟩ ?_|(apply y4.r;focus repeat' constructor)|(apply Fk.r;focus repeat' first|infer_instance|constructor)|refine xN ?_|refine Rf.mk ⟨rfl,rfl⟩ ?_|refine Rf.mk ⟨rfl,rfl,rfl⟩ ?_|(apply Mp.lit;(focus repeat(first|exact yK.nil|(apply yK.cons;{exact zu})|(apply yK.inv;{exact z1};{exact zh}))))|refine xO ?_|(apply Cl.p (hn);focus(repeat' constructor);done)|(apply Cl.p (hh);focus(repeat' constructor);done))
   rw [<-qY]
   exact PA.lp (i+1,_,y) xE ⟨⟨qf,all_succ he Vm (λh=>absurd h Hx),⟨ij.ck,ij.st,ij.mg,ij.WZ,by simp only;omega⟩,by simp only;rw [lI];exact hy⟩,by simp only;omega⟩
  rw [zT Hx] at hh
  rw [if_pos Hx] at lI qY
  rw [List.append_nil] at qY
  have hm3:=ph c e.yj
  have z05:w9 [c,e.yj]:=(oa _ _).2 ⟨h1.1,Cc.1.1,by have:=Cc.2.1;omega⟩
  by_cases vk:Ins e.yj c
  rotate_left
  ·rw [Bx (λh=>vk (h.2.2 e (zM he) Hx))]
   repeat'(first|apply Sp.h|refine Lk.r rfl ?_|refine Rf.mk rfl ?_|refine xA ?_|refine yc.mk λ_=>?_|refine xU ?_|refine xT ?_|refine xI ?_|refine xJ ?_|refine Ch.l ⟨rfl,rfl⟩ ?_|(apply y4.r;focus repeat' constructor)|refine xN ?_|(apply Cl.p (hn);focus(repeat' constructor);done)|(apply Cl.p (hh);focus(repeat' constructor);done))
   refine xW (hm3) ?_
   rintro _ _ ⟨u3,l3,rfl,rfl,q1,q2⟩
   have q0:0 < l3.length:=List.length_pos_iff.2 λh=>vk (q1.1 h z05)
   repeat'(first|apply Sp.h|refine Lk.r rfl ?_|refine Rf.mk rfl ?_|refine xA ?_|refine xU ?_|refine xN ?_|fail)
   exact⟨_,_,.one (.same (.z)),rfl,v,rfl⟩
  have jS:=nG m y.merged e hm
  have PR:=VZ y.places e.place ij.WZ z6
  have yL:=T7 (e:=e) ij
  have Zu:qp m y e=(uP c (evl.take (i+1))).foldl (qp m) b:=by rw [lI,List.foldl_append,<-hy];rfl
  have YQ:∀d∈evl.take (i+1),x9 c d.rep d.num->Ins d.yj c:=all_succ he Vm (λ_=>vk)
  repeat'(first|apply Sp.h|refine Lk.r rfl ?_|refine Rf.mk rfl ?_|refine xA ?_|refine yc.mk λ_=>?_|refine xU ?_|refine xT ?_|refine xI ?_|refine xJ ?_|refine Ch.l ⟨rfl,rfl⟩ ?_|(apply y4.r;focus repeat' constructor)|refine xN ?_|(apply Cl.p (hn);focus(repeat' constructor);done)|(apply Cl.p (hh);focus(repeat' constructor);done))
  refine xW (hm3) ?_
  rintro _ _ ⟨u3,l3,rfl,rfl,q1,q2⟩
  have q0:l3.length=0:=by rw [q1.2 λ_=>vk];rfl
  by_cases hk:e.kind=0
  rotate_left
  ·have qn:xY m y.state e=y.state:=if_neg hk
   by_cases kq:0 < e.place
   ·repeat'(first|apply Sp.h|refine Lk.r rfl ?_|refine Rf.mk rfl ?_|refine xA ?_|refine xB ?_|refine yu.r rfl ?_|refine xU ?_|refine xT ?_|refine Ch.l ⟨rfl,rfl⟩ ?_|refine Ch.r ?_|refine xV ?_|refine xD ?_|refine xO ?_|(apply Cl.p (jS);focus(repeat' constructor);done)|(apply Cl.p (PR);focus(repeat' constructor);done))
    have hz:(⟨y.clock,max y.time e.time,y.state,(yq m y.merged e).2,tF y.places e.place⟩:yt)=qp m y e:=by rw [qp,qn,lv,if_pos kq];rfl
    all_goals rw [<-qY]
    all_goals exact PA.lp (i+1,vr,⟨y.clock,max y.time e.time,y.state,(yq m y.merged e).2,tF y.places e.place⟩) xE ⟨⟨qf,YQ,by simp only;rw [hz];exact yL,by simp only;rw [hz];exact Zu⟩,by simp only;omega⟩
   ·repeat'(first|apply Sp.h|refine Lk.r rfl ?_|refine Rf.mk rfl ?_|refine xB ?_|refine yu.r rfl ?_|refine xU ?_|refine xT ?_|refine Ch.l ⟨rfl,rfl⟩ ?_|refine Ch.r ?_|refine xV ?_|refine xD ?_|refine xO ?_|(apply Cl.p (jS);focus(repeat' constructor);done)|(apply Cl.p (PR);focus(repeat' constructor);done))
    have hz:(⟨y.clock,max y.time e.time,y.state,(yq m y.merged e).2,y.places⟩:yt)=qp m y e:=by rw [qp,qn,lv,if_neg kq];rfl
    all_goals rw [<-qY]
    all_goals exact PA.lp (i+1,vr,⟨y.clock,max y.time e.time,y.state,(yq m y.merged e).2,y.places⟩) xE ⟨⟨qf,YQ,by simp only;rw [hz];exact yL,by simp only;rw [hz];exact Zu⟩,by simp only;omega⟩
  have eN:=nq Cc.1 hk
  have Dh:=Cc.2.2 hk
  obtain⟨a,ha⟩:=zz (l:=m.yP) (i:=e.action.toNat) z6
  have hd:=kh ha
  have MR:=hm.xu a (zM ha)
  have qn:xY m y.state e=vF y.state a.xu.delta:=by rw [xY,if_pos hk,hd]
  repeat'(first|apply Sp.h|refine Lk.r rfl ?_|refine Rf.mk rfl ?_|refine xA ?_|refine xB ?_|refine yu.r rfl ?_|apply Im.mk|refine xU ?_|refine xT ?_|(apply Ix.r;{exact z8};{exact z6})|refine xV ?_|refine xD ?_|intro _)
  refine CA.loop (λk:Nat=>⟨[(0,pm s),(1,ints c),(5,pm b5),(6,.ow vr),(8,pm _),(46,.ow v),(47,it (evl.length:Nat)),(48,it i),(86,yO a.xu.delta),(87,it (a.xu.delta.length:Nat)),(88,it k)],[vw s m b v w,yb v 66 13 evl uf,yr b5 46 (Ff { y with time:=max y.time e.time } v2),yb v2 3 1 (vF y.state (a.xu.delta.take k)) xL,yb vr 66 13 (vN c (evl.take i)) uf,yr _ 66 (uf e)]⟩) (λk=>k<=a.xu.delta.length) (λk=>a.xu.delta.length - k) 0 xE (zZ _) ?_
  intro k lK
  have hlen:=sM (a.xu.delta.take k) y.state
  by_cases MO:k < a.xu.delta.length
  ·obtain⟨p,hp⟩:=zz MO
   obtain⟨p1,p2⟩:=MR.d p (zM hp)
   obtain⟨z,hz⟩:=zz (l:=vF y.state (a.xu.delta.take k)) (i:=p.1.toNat) z6
   have HZ:=pr (s:=y.state) hp
   rw [show o3 (vF y.state (a.xu.delta.take k)) p=(vF y.state (a.xu.delta.take k)).set p.1.toNat (IntKind.i64.wrap (z+p.2)) by rw [o3,hz];rfl] at HZ
   repeat'(first|apply Sp.h|refine Lk.r rfl ?_|refine Rf.mk rfl ?_|refine xA ?_|refine yu.r rfl ?_|apply yc.mk|refine xU ?_|refine xT ?_|refine xI ?_|(apply Ix.r;{exact z8};{exact z6})|refine xJ ?_|refine Ch.l ⟨rfl,rfl⟩ ?_|(apply y4.r;focus repeat' constructor)|refine xN ?_|refine xD ?_|intro _)
   refine⟨?_⟩
   repeat'(first|apply Sp.h|refine Lk.r rfl ?_|refine Rf.mk rfl ?_|refine yu.r rfl ?_|refine xU ?_|(apply Ix.r;{exact z8};{exact z6})|refine xJ ?_|refine xV ?_|refine Up.r rfl ?_|refine xO ?_|fail)
   rw [<-HZ]
   exact PA.lp (k+1) xE ⟨MO,z6⟩
  ·have mO:k=a.xu.delta.length:=z6
   subst mO
   rw [zL]
   by_cases kq:0 < e.place
   ·repeat'(first|apply Sp.h|refine Lk.r rfl ?_|refine Rf.mk rfl ?_|refine xA ?_|refine xB ?_|refine yu.r rfl ?_|refine xT ?_|refine Ch.l ⟨rfl,rfl⟩ ?_|refine Ch.r ?_|refine xV ?_|refine xD ?_|refine xO ?_|(apply Cl.p (jS);focus(repeat' constructor);done)|(apply Cl.p (PR);focus(repeat' constructor);done))
    have hz:(⟨y.clock,max y.time e.time,vF y.state a.xu.delta,(yq m y.merged e).2,tF y.places e.place⟩:yt)=qp m y e:=by rw [qp,qn,lv,if_pos kq];rfl
    all_goals rw [<-qY]
    all_goals exact PA.lp (i+1,vr,⟨y.clock,max y.time e.time,vF y.state a.xu.delta,(yq m y.merged e).2,tF y.places e.place⟩) xE ⟨⟨qf,YQ,by simp only;rw [hz];exact yL,by simp only;rw [hz];exact Zu⟩,by simp only;omega⟩
   ·repeat'(first|apply Sp.h|refine Lk.r rfl ?_|refine Rf.mk rfl ?_|refine xB ?_|refine yu.r rfl ?_|refine xT ?_|refine Ch.l ⟨rfl,rfl⟩ ?_|refine Ch.r ?_|refine xV ?_|refine xD ?_|refine xO ?_|(apply Cl.p (jS);focus(repeat' constructor);done)|(apply Cl.p (PR);focus(repeat' constructor);done))
    have hz:(⟨y.clock,max y.time e.time,vF y.state a.xu.delta,(yq m y.merged e).2,y.places⟩:yt)=qp m y e:=by rw [qp,qn,lv,if_neg kq];rfl
    all_goals rw [<-qY]
    all_goals exact PA.lp (i+1,vr,⟨y.clock,max y.time e.time,vF y.state a.xu.delta,(yq m y.merged e).2,y.places⟩) xE ⟨⟨qf,YQ,by simp only;rw [hz];exact yL,by simp only;rw [hz];exact Zu⟩,by simp only;omega⟩
 ·have vk:i=evl.length:=z6
  subst vk
  rw [zL] at Vm hy ⊢
  have ue:=h1.1.2.2
  have eL:(vN c evl).length<=1000:=by
   have:=List.length_filter_le (λe:yo=>decide (¬x9 c e.rep e.num)) evl
   unfold vN;omega
  have hF0:xi m ⟨b,evl,w⟩ c=(0,⟨{ y with clock:=c },vN c evl,{ w with merged:=(vN c evl).foldl (um m) y.merged }⟩):=by
   refine(@if_neg _ (zC _) (λh9=>h9 h1) _ _ _).trans ((@if_neg _ (zC _) (λh9=>h9 ⟨h2,h3,Vm⟩) _ _ _).trans ?_)
   rw [qo,<-hy]
  rw [hF0]
  repeat'(first|apply Sp.h|refine Lk.r rfl ?_|refine Rf.mk rfl ?_|refine xB ?_|fail)
  (refine Cl.use (YV) (by repeat'(first|exact y3.nil|apply y3.yB|fail)) .nil rfl ?_;rintro _ _ ⟨_,rfl,rfl⟩)
  (repeat'(first|(show CA _ _ (Code.region 26 _ _) _ _;apply z_.out)|apply Sp.h|refine Lk.r rfl ?_|refine Rf.mk rfl ?_|refine xT ?_|refine xV ?_|fail));any_goals apply z_.mk
  (apply CA.own;(focus(apply OX.rD (b:=b5);{exact z1};(focus(repeat'(first|exact FX.nil|(apply FX.s1;{exact z1};{exact zb})|apply FX.k)));{exact z1})))
  repeat'(first|apply Sp.h|refine Lk.r rfl ?_|refine Rf.mk rfl ?_|refine xU ?_|refine xT ?_|fail)
  refine CA.loop (λx:Nat×List xp=>⟨[(0,pm s),(5,pm b5),(6,.ow vr),(11,uH x.2),(130,.ow vr),(131,it ((vN c evl).length:Nat)),(132,it x.1)],[vw s m b v w,yb v 66 13 evl uf,yr b5 46 (FE { y with clock:=c }),yb vr 66 13 (vN c evl) uf]⟩)
   (λx=>x.1<=(vN c evl).length/\Re x.2/\x.2=((vN c evl).take x.1).foldl (um m) y.merged) (λx=>(vN c evl).length - x.1) (0,y.merged) xE ⟨zZ _,ij.mg,rfl⟩ ?_
  rintro⟨j,k⟩ ⟨hj,MN,hk⟩
  simp only at hj MN hk
  simp only
  by_cases lL:j < (vN c evl).length
  ·obtain⟨e,he⟩:=zz lL
   have jS:=nG m k e hm
   repeat'(first|apply Sp.h|refine Lk.r rfl ?_|refine Rf.mk rfl ?_|refine xA ?_|refine yu.r rfl ?_|refine yc.mk λ_=>?_|refine xU ?_|refine xT ?_|refine xI ?_|refine xJ ?_|refine Ch.l ⟨rfl,rfl⟩ ?_|refine Ch.r ?_|(apply y4.r;focus repeat' constructor)|refine xN ?_|refine xD ?_|refine xO ?_|(apply Cl.p (jS);focus repeat' constructor))
   all_goals exact PA.lp (j+1,um m k e) xE ⟨⟨lL,lY MN,by simp only;rw [zK,he,Option.toList_some,List.foldl_append,<-hk];rfl⟩,by simp only;omega⟩
  ·have R6:j=(vN c evl).length:=z6
   subst R6
   rw [zL] at hk
   have R8:=TZ k (by have:=MN.1;omega) MN.2
   rw [<-hk]
   repeat'(first|apply Sp.h|refine Lk.r rfl ?_|refine Rf.mk rfl ?_|refine xB ?_|refine yu.r rfl ?_|refine xT ?_|refine Ch.l ⟨rfl,rfl⟩ ?_|refine xV ?_|(apply y4.r;focus repeat' constructor)|refine xN ?_|refine xD ?_|(apply Cl.p (R8);focus repeat' constructor))
   all_goals exact⟨_,_,.one (.same (.z)),rfl,vr,rfl⟩
theorem UT(st:List Int)(d:List (Int×Int))(hl:st.length<=1000000)(hd:∀p∈d,0<=p.1/\p.1 < (st.length:Nat)):y6 Tryz.prog 135 [ints st,yO d] (ints (vF st d)):=by
 have hc:=ud st z6
 refine zy.of pg JW Tryz.func135 rfl Tryz.ntmps135 Tryz.results135 rfl λh0 G0 O0=>?_
 repeat'(first|apply Sp.h|refine Lk.r rfl ?_|refine Rf.mk rfl ?_|fail)
 (refine Cl.use (hc) (by repeat'(first|exact y3.nil|apply y3.yB|fail)) .nil rfl ?_;rintro _ _ ⟨_,rfl,rfl⟩)
 repeat'(first|apply Sp.h|refine Lk.r rfl ?_|refine Rf.mk rfl ?_|apply Im.mk|intro _)
 rename_i u _
 refine CA.loop (λi:Nat=>⟨[(5,.ow u),(10,yO d),(11,it (d.length:Nat)),(12,it i)],[yb u 3 1 (vF st (d.take i)) xL]⟩) (λi=>i<=d.length) (λi=>d.length - i) 0 xE (zZ _) ?_
 intro i hi
 have hlen:=sM (d.take i) st
 by_cases qf:i < d.length
 ·obtain⟨p,hp⟩:=zz qf
  obtain⟨p1,p2⟩:=hd p (zM hp)
  obtain⟨z,hz⟩:=zz (l:=vF st (d.take i)) (i:=p.1.toNat) z6
  have hs:=pr (s:=st) hp
  rw [show o3 (vF st (d.take i)) p=(vF st (d.take i)).set p.1.toNat (IntKind.i64.wrap (z+p.2)) by rw [o3,hz];rfl] at hs
  repeat'(first|apply Sp.h|refine Lk.r rfl ?_|refine Rf.mk rfl ?_|refine xA ?_|refine yu.r rfl ?_|apply yc.mk|refine xU ?_|refine xT ?_|refine xI ?_|(apply Ix.r;{exact z8};{exact z6})|refine xJ ?_|refine Ch.l ⟨rfl,rfl⟩ ?_|(apply y4.r;focus repeat' constructor)|refine xN ?_|refine xD ?_|intro _)
  all_goals try exact(by omega:False).elim
  refine⟨?_⟩
  repeat'(first|apply Sp.h|refine Lk.r rfl ?_|refine Rf.mk rfl ?_|refine yu.r rfl ?_|refine xU ?_|(apply Ix.r;{exact z8};{exact z6})|refine xJ ?_|refine xV ?_|refine Up.r rfl ?_|refine xO ?_|fail)
  rw [<-hs]
  exact PA.lp (i+1) xE ⟨qf,z6⟩
 ·have vk:i=d.length:=z6
  subst vk
  rw [zL] at hlen ⊢
  repeat'(first|apply Sp.h|refine Lk.r rfl ?_|refine Rf.mk rfl ?_|refine xB ?_|refine xN ?_|fail)
  exact⟨_,_,.one (.fz z1 z6 (.z)),rfl,rfl⟩
noncomputable def yU(m:y8)(b:yt)(l:List yo)(c:List Int):List Int:=(uP c l).foldl (xY m) b.state
noncomputable def kE(m:y8)(b:yt)(l:List yo)(c:List Int):List xp:=(uP c l).foldl (um m) b.merged
noncomputable def vz(m:y8)(b:yt)(l:List yo)(c:List Int):List (List Int):=(tQ m (kE m b l c)).2
theorem tY{m:y8}(A:List yo) :∀s:List Int,(A.foldl (xY m) s).length=s.length:=by
 induction A with
 | nil=>exact λs=>rfl
 | cons e A ih=>intro s;rw [List.foldl_cons,ih,nH]
theorem fK(m:y8)(b:yt)(l:List yo)(w:yt)(c:List Int)(h:fu b l w)(hm:nR m)(hx:xR m)(wU:m.ops.length<=1000000000)(vL:xl m)(hb:b.state.length=xk m)(rB:∀e∈l,rE m (w.clock.length:Nat) e) :
  yV Tryz.prog 66 [wH m,.ad (sO m b l w) 0,ints c] (.agg [ints (yU m b l c),q8 (w_ m (yU m b l c)),vW (vz m b l c)]):=by
 have kz:=lU m b l w h.bs
 have Bk:=mw m b w l h.ln h.ps
 have hvq:=Xs m (kE m b l c) hm
 have qZ:(yU m b l c).length=xk m:=by rw [yU,tY,hb]
 have ko:=aG m (yU m b l c) hx qZ wU vL
 have eJ:=hm.str
 refine yJ.of pg ED Tryz.func66 rfl Tryz.ntmps66 Tryz.results66 rfl λh0 G0 O0 ga=>?_
 repeat'(first|apply Sp.h|refine Lk.r rfl ?_|refine Rf.mk rfl ?_|refine yu.r rfl ?_|refine Im.mk λ_=>?_|refine yc.mk λ_=>?_|refine xT ?_|(apply y4.r;focus repeat' constructor)|refine xN ?_|refine xD ?_|(apply Cl.p (kz);focus(repeat' constructor);done)|(apply Cl.p (Bk);focus(repeat' constructor);done))
 rename_i b3 b6 b7 _
 refine CA.loop (λi:Nat=>⟨[(2,ints c),(3,pm b3),(6,pm b6),(8,ints ((uP c (l.take i)).foldl (xY m) b.state)),(9,uH ((uP c (l.take i)).foldl (um m) b.merged)),(21,vm l),(22,it (l.length:Nat)),(23,it i)],[yr b3 30 (s_ m),yr b6 121 [tz,tz,tz]]⟩) (λi=>i<=l.length) (λi=>l.length - i) 0 xE (zZ _) ?_
 intro i hi
 by_cases yd:i < l.length
 ·obtain⟨e,he⟩:=zz yd
  have xe:=dZ (c:=c) he
  have nV:=hZ c e
  have hE:=rB e (zM he)
  by_cases hH:x9 c e.rep e.num
  ·rw [if_pos hH] at xe
   have jS:=nG m ((uP c (l.take i)).foldl (um m) b.merged) e hm
   have Gu:(uP c (l.take (i+1))).foldl (xY m) b.state=xY m ((uP c (l.take i)).foldl (xY m) b.state) e:=by rw [xe,List.foldl_append];rfl
   have Bu:(uP c (l.take (i+1))).foldl (um m) b.merged=(yq m ((uP c (l.take i)).foldl (um m) b.merged) e).2:=by rw [xe,List.foldl_append];rfl
   have hSl:((uP c (l.take i)).foldl (xY m) b.state).length=xk m:=by rw [tY,hb]
   generalize (uP c (l.take i)).foldl (xY m) b.state=S at Gu hSl ⊢
   generalize (uP c (l.take i)).foldl (um m) b.merged=K at jS Bu ⊢
   by_cases hk:e.kind=0
   ·have h1:=nq hE.1 hk
    have h2:=hE.2.2 hk
    obtain⟨a,ha⟩:=zz (l:=m.yP) (i:=e.action.toNat) z6
    have MR:=hm.xu a (zM ha)
    have jO:=UT S a.xu.delta z6 (λp hp=>by rw [hSl];exact MR.d p hp)
    rw [xY,if_pos hk,kh ha] at Gu
    repeat'(first|apply Sp.h|refine Lk.r rfl ?_|refine Rf.mk rfl ?_|refine xA ?_|refine Im.mk λ_=>?_|refine yc.mk λ_=>?_|refine xT ?_|refine xI ?_|(apply Ix.r;{exact z8};{exact z6})|refine Ch.l ⟨rfl,rfl⟩ ?_|(apply y4.r;focus repeat' constructor)|refine xN ?_|refine xO ?_|(apply Cl.p (nV);focus(repeat' constructor);done)|(apply Cl.p (jO);focus(repeat' constructor);done)|(apply Cl.p (jS);focus(repeat' constructor);done))
    all_goals try exact(by omega:False).elim
    rw [<-Gu,<-Bu]
    exact PA.lp (i+1) xE ⟨yd,z6⟩
   ·rw [xY,if_neg hk] at Gu
    repeat'(first|apply Sp.h|refine Lk.r rfl ?_|refine Rf.mk rfl ?_|refine xA ?_|refine xB ?_|refine yc.mk λ_=>?_|refine xT ?_|refine xI ?_|refine Ch.l ⟨rfl,rfl⟩ ?_|(apply y4.r;focus repeat' constructor)|refine xN ?_|refine xO ?_|(apply Cl.p (nV);focus(repeat' constructor);done)|(apply Cl.p (jS);focus(repeat' constructor);done))
    all_goals try exact(by omega:False).elim
    rw [<-Gu,<-Bu]
    exact PA.lp (i+1) xE ⟨yd,z6⟩
  ·rw [if_neg hH,List.append_nil] at xe
   rw [<-xe]
   repeat'(first|apply Sp.h|refine Lk.r rfl ?_|refine Rf.mk rfl ?_|refine xA ?_|refine xB ?_|refine yc.mk λ_=>?_|refine xT ?_|refine xI ?_|refine Ch.l ⟨rfl,rfl⟩ ?_|(apply y4.r;focus repeat' constructor)|refine xN ?_|refine xO ?_|(apply Cl.p (nV);focus repeat' constructor))
   exact PA.lp (i+1) xE ⟨yd,z6⟩
 ·have vk:i=l.length:=z6
  subst vk
  rw [zL]
  change CA _ _ _ [(2,ints c),(3,pm b3),(6,pm b6),(8,ints (yU m b l c)),(9,uH (kE m b l c)),(21,vm l),(22,it (l.length:Nat)),(23,it (l.length:Nat))] _
  have hV:(tQ m (kE m b l c)).2=vz m b l c:=rfl
  generalize yU m b l c=S at ko ⊢
  generalize vz m b l c=V at hV ⊢
  repeat'(first|apply Sp.h|refine Lk.r rfl ?_|refine Rf.mk rfl ?_|refine xB ?_|refine xT ?_|refine Ch.l ⟨rfl,rfl⟩ ?_|(apply y4.r;focus repeat' constructor)|(apply Fk.r;focus repeat' first|infer_instance|constructor)|refine xN ?_|(apply Cl.pG (ko);{exact ga};focus(repeat' constructor);done)|(apply Cl.p (hvq);focus(repeat' constructor);done))
  rw [hV]
  exact Fin.p rfl rfl
end Go.Proofs.YtmjllbjfkafhdaaGreatDoor
