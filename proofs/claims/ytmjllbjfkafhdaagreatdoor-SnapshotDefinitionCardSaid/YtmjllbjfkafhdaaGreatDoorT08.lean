/- Part 8 of the ground of this proof: what its texts say of the model, the program and the plain data; conditions: those that are named. -/
import Derived.Test.YtmjllbjfkafhdaaGreatDoorCards
import Derived.Test.YtmjllbjfkafhdaaGreatDoorT07
namespace Go.Proofs.YtmjllbjfkafhdaaGreatDoor
open Go Go.CF Go.ChangeShapes Go.WideShapes Go.ChangeAt Go.RowKit
theorem z1f:false=Tryz.pinned.checked.prog.looks []:=by kernel_rfl
end Go.Proofs.YtmjllbjfkafhdaaGreatDoor
set_option maxRecDepth 100000
set_option maxHeartbeats 80000000
namespace Go.Proofs.YtmjllbjfkafhdaaGreatDoor
open Go Go.CF Go.ChangeShapes Go.WideShapes Go.ChangeAt Go.RowKit
theorem z1b:Tryz.pinned.checked.prog.mainIs=some (true,"f0c9131c7071487561838c5fd10ad184cd06373d64f188cad1dcc86a924dd170".toList):=by kernel_rfl
theorem ag:Rows.snapshotDefinitionRow.wfByText (OpenSpec.ofChange Rows.snapshotDefinitionSpec)=true:=by kernel_rfl
theorem gp(hs:Rows.SnapshotDefinitionSaid):Rows.SnapshotDefinitionCardSaid :=
 Claim7.holds_tied_plain_at .later [] [.listed,.data] true (true,"f0c9131c7071487561838c5fd10ad184cd06373d64f188cad1dcc86a924dd170") false
  hs (λ_ h=>by cases h) ag (λ_ h=>by cases h) snapshotDefinition_row_tie rfl ⟨rfl,rfl⟩ z1b rfl
  (λf fn hf hfn=>by
   obtain rfl:f=4:=Option.some.inj ((show Tryz.prog.funcNamed "confluent/confluentlaw53.SnapshotDefinition" = some 4 by kernel_rfl).symm.trans hf) |>.symm
   obtain rfl:fn=Tryz.f4:=(Option.some.inj (Tryz.func4.symm.trans hfn)).symm
   exact⟨z1f,λj t ht=>by
    rw [Tryz.params4] at ht
    have hm:t∈ [30,22,31,32,22,22]:=by simpa using Array.mem_of_getElem? ht
    have ug:([30,22,31,32,22,22].all λu=> !Tryz.prog.wantsStandIn u)=true:=by kernel_rfl
    exact(show Tryz.prog.wantsStandIn t=false by simpa using List.all_eq_true.1 ug t hm)⟩)
  z1g
end Go.Proofs.YtmjllbjfkafhdaaGreatDoor
namespace Go.Proofs.YtmjllbjfkafhdaaGreatDoor
open Go Go.CF
def ob(s:ByteArray)(a b:Nat):Prop:=∀i,a<=i->i < b->isWord (yf s i)
def Rh(s:ByteArray):Prop:=0 < s.size/\yH (yf s 0)/\ob s 0 s.size/\¬kR cZ s
def o4(s:ByteArray):Prop:=Rh s/\s.size<=16
noncomputable instance (s:ByteArray):Decidable (o4 s):=zC _
structure RI (s:ByteArray) (a:Nat) (k:Int) (b:Nat):Prop where
 lt:a < b
 le:b<=s.size
 nm:k=1↔yH (yf s a)/\¬kR cZ (s.extract a b)
 w:yH (yf s a)->ob s a b/\(b < s.size->¬isWord (yf s b))
theorem iX{s:ByteArray}{a b:Nat}(h:ob s a b)(hb:isWord (yf s b)):ob s a (b+1):=by
 intro i h1 h2
 by_cases h3:i=b
 ·subst h3;exact hb
 ·exact h i h1 z6
theorem R_{s:ByteArray}{a:Nat}(hs:s.size<=1000000000)(ha:a < s.size)(hw:¬wb (yf s a))(h35:yf s a≠35) :
  zy Tryz.prog 256 [sv s,.val (.int .i64 a)] [] λr own=>∃(k:Int) (b:Nat),r= .yE [.val (.int .i64 k),.val (.int .i64 b)]/\own= []/\RI s a k b:=by
 refine zy.of pg Jz Tryz.func256 rfl Tryz.ntmps256 Tryz.results256 rfl λh0 G0 O0=>?_
 by_cases hl:yH (yf s a)
 ·repeat'(first|apply Sp.h|refine Lk.r rfl ?_|refine Rf.mk rfl ?_|refine xA ?_|(apply Sx.r;{exact zj};{exact zc})|(apply Cl.p (tv _);focus repeat' constructor))
  refine CA.loop (λb:Nat=>⟨[(0,sv s),(1,.val (.int .i64 a)),(6,.val (.int .i64 b))],[]⟩) (λb=>a<=b/\b<=s.size/\ob s a b) (λb=>s.size - b) a xE ⟨Nat.le_refl _,z6,λi h1 h2=>z6⟩ ?_
  rintro b ⟨q_,rC,YW⟩
  by_cases kz:b=a
  ·subst kz
   repeat'(first|apply Sp.h|refine Lk.r rfl ?_|refine Rf.mk rfl ?_|refine xA ?_|(apply Sx.r;{exact zj};{exact zc})|refine xO ?_|(apply Cl.p (tv _);focus repeat' constructor))
   exact PA.lp (b+1) xE ⟨⟨z6,z6,iX YW (.inl hl)⟩,z6⟩
  ·by_cases YY:b < s.size/\isWord (yf s b)
   ·obtain⟨YY,Lp⟩:=YY
    have z01:=Lp
    unfold isWord at Lp
    repeat'(first|apply Sp.h|refine Lk.r rfl ?_|refine Rf.mk rfl ?_|refine xA ?_|refine xB ?_|(refine Bd.mk ?_ ?_ <;> intro _)|refine yu.r rfl ?_|(apply Jx.r;{exact zj};{exact zb})|refine xD ?_|(apply Sx.r;{exact zj};{exact zc})|refine xO ?_|(apply Cl.p (tv _);focus repeat' constructor)|(apply Cl.p (sI _);focus repeat' constructor))
    all_goals first
     | exact PA.lp (b+1) xE ⟨⟨z6,z6,iX YW z01⟩,z6⟩
     | exact False.elim (Lp.elim z8 (λh=>h.elim z8 z6))
   ·have hq:∀k,(k=1↔¬kR cZ (s.extract a b))->RI s a k b:=λk hk=>⟨z6,rC,⟨λh=>⟨hl,hk.1 h⟩,λh=>hk.2 h.2⟩,λ_=>⟨YW,λh h2=>YY ⟨h,h2⟩⟩⟩
    have z02:b < s.size->¬yH (yf s b)/\¬isDigit (yf s b)/\yf s b≠95:=λh=>⟨λh2=>YY ⟨h,.inl h2⟩,λh2=>YY ⟨h,.inr (.inl h2)⟩,λh2=>YY ⟨h,.inr (.inr h2)⟩⟩
    by_cases xC:b < s.size
    ·obtain⟨g1,g2,g3⟩:=z02 xC
     repeat'(first|apply Sp.h|refine Lk.r rfl ?_|refine Rf.mk rfl ?_|refine xA ?_|refine xB ?_|refine yu.r rfl ?_|(apply Jx.r;{exact zj};{exact zb})|refine xD ?_|(apply Sx.r;{exact zj};{exact zc})|(apply Cl.p (tv _);focus repeat' constructor)|(apply Cl.p (sI _);focus repeat' constructor))
     all_goals repeat'(first|apply Sp.h|refine Lk.r rfl ?_|refine Rf.mk rfl ?_|(refine Bd.mk ?_ ?_ <;> intro _)|refine yu.r rfl ?_|refine xN ?_|(apply Cl.p (jA);focus repeat' constructor)|(apply Cl.p (VP _ _);focus repeat' constructor))
     ·rename_i hh
      exact⟨_,_,.yE (.same (.same (.z))),_,b,rfl,rfl,hq _ ⟨λh=>z6,λh=>absurd hh h⟩⟩
     ·rename_i hh
      exact⟨_,_,.yE (.same (.same (.z))),_,b,rfl,rfl,hq _ ⟨λ_=>hh,λ_=>rfl⟩⟩
    ·repeat'(first|apply Sp.h|refine Lk.r rfl ?_|refine Rf.mk rfl ?_|refine xB ?_|(refine Bd.mk ?_ ?_ <;> intro _)|refine yu.r rfl ?_|refine xN ?_|(apply Jx.r;{exact zj};{exact zb})|refine xD ?_|(apply Cl.p (jA);focus repeat' constructor)|(apply Cl.p (VP _ _);focus repeat' constructor))
     ·rename_i hh
      exact⟨_,_,.yE (.same (.same (.z))),_,b,rfl,rfl,hq _ ⟨λh=>z6,λh=>absurd hh h⟩⟩
     ·rename_i hh
      exact⟨_,_,.yE (.same (.same (.z))),_,b,rfl,rfl,hq _ ⟨λ_=>hh,λ_=>rfl⟩⟩
 ·have hq:∀(k:Int) (b:Nat),k≠1->a < b->b<=s.size->RI s a k b:=λk b h1 h2 h3=>⟨h2,h3,⟨λh=>absurd h h1,λh=>absurd h.1 hl⟩,λh=>absurd h hl⟩
  by_cases hd:isDigit (yf s a)
  ·repeat'(first|apply Sp.h|refine Lk.r rfl ?_|refine Rf.mk rfl ?_|refine xA ?_|refine xB ?_|(apply Sx.r;{exact zj};{exact zc})|(apply Cl.p (tv _);focus repeat' constructor)|(apply Cl.p (sI _);focus repeat' constructor))
   refine CA.loop (λb:Nat=>⟨[(0,sv s),(1,.val (.int .i64 a)),(6,.val (.int .i64 b))],[]⟩) (λb=>a<=b/\b<=s.size) (λb=>s.size - b) a xE ⟨Nat.le_refl _,z6⟩ ?_
   rintro b ⟨q_,rC⟩
   by_cases kz:b=a
   ·subst kz
    repeat'(first|apply Sp.h|refine Lk.r rfl ?_|refine Rf.mk rfl ?_|refine xA ?_|(apply Sx.r;{exact zj};{exact zc})|refine xO ?_|(apply Cl.p (sI _);focus repeat' constructor))
    exact PA.lp (b+1) xE ⟨⟨z6,z6⟩,z6⟩
   ·repeat'(first|apply Sp.h|refine Lk.r rfl ?_|refine Rf.mk rfl ?_|refine xA ?_|refine xB ?_|(refine Bd.mk ?_ ?_ <;> intro _)|refine xN ?_|(apply Sx.r;{exact zj};{exact zc})|refine xO ?_|(apply Cl.p (sI _);focus repeat' constructor))
    all_goals first
     | exact PA.lp (b+1) xE ⟨⟨z6,z6⟩,z6⟩
     | exact⟨_,_,.yE (.same (.same (.z))),_,b,rfl,rfl,hq _ _ z6 z6 rC⟩
  ·have CT:=Q1 (s:=s) (a:=a) z6
   have pI:=dA hs (Nat.le_of_lt ha)
   repeat'(first|apply Sp.h|refine Lk.r rfl ?_|refine Rf.mk rfl ?_|refine xB ?_|(apply Sx.r;{exact zj};{exact zc})|(apply Cl.p (tv _);focus repeat' constructor)|(apply Cl.p (sI _);focus repeat' constructor))
   by_cases hp:0 < bM gX s a
   ·repeat'(first|apply Sp.h|refine Lk.r rfl ?_|refine Rf.mk rfl ?_|refine xA ?_|refine xN ?_|refine xO ?_|(apply Cl.p (pI);focus repeat' constructor))
    exact⟨_,_,.yE (.same (.same (.z))),_,a+bM gX s a,rfl,rfl,hq _ _ z6 z6 CT⟩
   ·repeat'(first|apply Sp.h|refine Lk.r rfl ?_|refine Rf.mk rfl ?_|refine xB ?_|(apply Cl.p (pI);focus repeat' constructor))
    refine CA.loop (λb:Nat=>⟨[(0,sv s),(1,.val (.int .i64 a)),(6,.val (.int .i64 b))],[]⟩) (λb=>a<=b/\b<=s.size) (λb=>s.size - b) a xE ⟨Nat.le_refl _,z6⟩ ?_
    rintro b ⟨q_,rC⟩
    by_cases kz:b=a
    ·subst kz
     repeat'(first|apply Sp.h|refine Lk.r rfl ?_|refine Rf.mk rfl ?_|refine xA ?_|refine xB ?_|(apply Sx.r;{exact zj};{exact zc})|(apply Cl.p (p8 _);focus repeat' constructor)|(apply Cl.p (tv _);focus repeat' constructor))
     repeat'(first|apply Sp.h|refine Lk.r rfl ?_|refine Rf.mk rfl ?_|refine xA ?_|refine xB ?_|refine xO ?_|(apply Cl.p (sI _);focus repeat' constructor)|(apply Cl.p (pI);focus repeat' constructor))
     exact PA.lp (b+1) xE ⟨⟨z6,z6⟩,z6⟩
    ·have hsb:=dA hs rC
     repeat'(first|apply Sp.h|refine Lk.r rfl ?_|refine Rf.mk rfl ?_|refine xA ?_|refine xB ?_|(refine Bd.mk ?_ ?_ <;> intro _)|refine xN ?_|(apply Sx.r;{exact zj};{exact zc})|(apply Cl.p (p8 _);focus repeat' constructor)|(apply Cl.p (tv _);focus repeat' constructor))
     all_goals repeat'(first|apply Sp.h|refine Lk.r rfl ?_|refine Rf.mk rfl ?_|refine xA ?_|refine xB ?_|(refine Bd.mk ?_ ?_ <;> intro _)|refine xN ?_|refine xO ?_|(apply Cl.p (sI _);focus repeat' constructor)|(apply Cl.p (hsb);focus repeat' constructor))
     all_goals first
      | exact PA.lp (b+1) xE ⟨⟨z6,z6⟩,z6⟩
      | exact⟨_,_,.yE (.same (.same (.z))),_,b,rfl,rfl,hq _ _ z6 z6 rC⟩
def FH(s:ByteArray)(l:List kN)(a:Nat):Prop:=∃(j b:Nat) (k:Int) (rest:List kN),sy s 0 j/\j < s.size/\RI s j k b/\l=(k,0,(j:Int),(b:Int)) :: rest/\b<=a/\(b=s.size->rest= [])
def DB(s:ByteArray)(l:List kN):Prop:=(sy s 0 s.size/\l.length=1)∨∃(l0:List kN) (x:kN) (a:Nat),l=l0 ++ [x]/\FH s l0 a
theorem Jf(s:ByteArray):zy Tryz.prog 216 [sv s] [] λr own=>∃(l:List kN) (e:Int),r= .yE [.sl 4 l Rj,.val (.int .i64 e)]/\own= []/\((e≠0/\4096 < s.size)∨(e=0/\DB s l)):=by
 refine zy.of pg ye Tryz.func216 rfl Tryz.ntmps216 Tryz.results216 rfl λh0 G0 O0=>?_
 repeat'(first|apply Sp.h|refine Lk.r rfl ?_|refine Rf.mk rfl ?_|apply Bd.mk|apply yc.mk|(apply Fk.r;focus repeat' first|infer_instance|constructor)|refine xN ?_|refine Rf.mk ⟨rfl,rfl,rfl⟩ ?_|intro _)
 ·exact⟨_,_,.yE (.ic (.same (.z))),[],_,rfl,rfl,.inl ⟨z6,z6⟩⟩
 rename_i u4 v
 have hs:s.size<=1000000000:=z6
 apply CA.yR (m:=([]:List kN)) (g:=Rj)
 focus(repeat constructor)
 focus rfl
 refine CA.loop (λx:Nat×Value×List kN=>⟨[(0,sv s),(5,.val (.int .i64 x.1)),(4,.ow x.2.1)],[yb x.2.1 272 4 x.2.2 Rj]⟩) (λx=>x.1<=s.size/\x.2.2.length<=x.1/\((x.1=0/\x.2.2= [])∨FH s x.2.2 x.1)) (λx=>s.size - x.1) (0,v,[]) xE ⟨zZ _,Nat.le_refl _,.inl ⟨rfl,rfl⟩⟩ ?_
 rintro⟨a,v,l⟩ ⟨ha,hl,Gl⟩
 simp only at ha hl Gl
 obtain⟨j,hj⟩:=sy.ex s _ a rfl
 obtain⟨hj1,Ht,hj3⟩:=hj.le ha
 have SC:=Jc hs ha hj
 by_cases lL:j < s.size
 ·obtain⟨hj4,hj5⟩:=hj3 lL
  have ba:=R_ hs lL hj4 hj5
  repeat'(first|apply Sp.h|refine Lk.r rfl ?_|refine Rf.mk rfl ?_|refine xA ?_|(apply Cl.p (SC);focus repeat' constructor))
  refine xW (ba) ?_
  rintro _ _ ⟨k,b,rfl,rfl,hq⟩
  have q_:=hq.lt
  have rC:=hq.le
  repeat'(first|apply Sp.h|refine Lk.r rfl ?_|refine Rf.mk rfl ?_|refine xP ?_|apply yc.mk|refine xU ?_|refine Ce.r ?_|(apply Fk.r;focus repeat' first|infer_instance|constructor)|refine Rf.mk ⟨rfl,rfl⟩ ?_|refine Rf.mk ⟨rfl,rfl,rfl⟩ ?_|(apply Mp.lit;(focus repeat(first|exact yK.nil|(apply yK.cons;{exact zu})|(apply yK.inv;{exact z1};{exact zh}))))|intro _)
  refine PA.lp (b,_,l ++ [(k,(a:Int),(j:Int),(b:Int))]) xE ⟨⟨rC,by simp only [zP,List.length_singleton];omega,.inr ?_⟩,by simp only;omega⟩
  rcases Gl with⟨rfl,rfl⟩|⟨j0,b0,k0,rest,h1,h2,h3,rfl,h5,h6⟩
  ·exact⟨j,b,k,[],hj,lL,hq,rfl,Nat.le_refl _,λ_=>rfl⟩
  ·exact⟨j0,b0,k0,rest ++ [(k,(a:Int),(j:Int),(b:Int))],h1,h2,h3,rfl,z6,λh=>z6⟩
 ·repeat'(first|apply Sp.h|refine Lk.r rfl ?_|refine Rf.mk rfl ?_|refine xB ?_|refine xP ?_|refine yc.mk λ_=>?_|refine xU ?_|refine Ce.r ?_|(apply Fk.r;focus repeat' first|infer_instance|constructor)|refine xN ?_|refine Rf.mk ⟨rfl,rfl⟩ ?_|refine Rf.mk ⟨rfl,rfl,rfl⟩ ?_|(apply Mp.lit;(focus repeat(first|exact yK.nil|(apply yK.cons;{exact zu})|(apply yK.inv;{exact z1};{exact zh}))))|(apply Cl.p (SC);focus repeat' constructor))
  refine⟨_,_,.yE (.fz z1 (by simp only [zP,List.length_singleton];omega) (.same (.z))),_,_,rfl,rfl,.inr ⟨rfl, ?_⟩⟩
  rcases Gl with⟨rfl,rfl⟩|Gl
  ·have:j=s.size:=z6
   subst this
   exact .inl ⟨hj,rfl⟩
  ·exact .inr ⟨l,_,a,rfl,Gl⟩
theorem sy.fst{s:ByteArray}{j:Nat}(h:sy s 0 j)(hl:yH (yf s 0)):j=0:=by
 unfold yH at hl
 cases h with
 | stop=>rfl
 | da _ _ h3 _=>unfold wb at h3;omega
 | GB _ h2 _ _=>omega
theorem sK(s:ByteArray):s.extract 0 s.size=s:=ByteArray.extract_zero_size
theorem Iu(s:ByteArray):zy Tryz.prog 168 [sv s] [] λr own=>∃k:Int,r= .val (.int .i64 k)/\own= []/\(s.size<=4096->(k=1↔Rh s)):=by
 refine zy.of pg ye Tryz.func168 rfl Tryz.ntmps168 Tryz.results168 rfl λh0 G0 O0=>?_
 repeat'(first|apply Sp.h|refine Lk.r rfl ?_|refine Rf.mk rfl ?_|fail)
 refine xW (Jf s) ?_
 rintro _ _ ⟨l,e,rfl,rfl,hq⟩
 rcases hq with⟨he,u4⟩|⟨rfl,hq⟩
 ·repeat'(first|apply Sp.h|refine Lk.r rfl ?_|refine Rf.mk rfl ?_|refine xB ?_|refine xN ?_|fail)
  all_goals exact⟨_,_,.one (.same (.z)),_,rfl,rfl,λh=>z6⟩
 have yD:¬(∃x y:kN,l= [x,y]/\x.2.2.1=0/\x.2.2.2=s.size/\x.1=1)->¬Rh s:=by
  rintro hn ⟨h0,h1,h2,h3⟩
  apply hn
  rcases hq with⟨h4,-⟩|⟨l0,x,a,rfl,j,b,k,rest,h5,h6,h7,rfl,h8,h9⟩
  ·have:=h4.fst h1;omega
  ·have Y_:=h5.fst h1
   subst Y_
   have hb:b=s.size:=by
    have SM:=h7.le
    by_cases xC:b < s.size
    ·exact absurd (h2 b (zZ _) xC) ((h7.w h1).2 xC)
    ·omega
   have:=h9 hb
   subst this
   subst hb
   refine⟨_,x,rfl,rfl,rfl,h7.nm.2 ⟨h1, ?_⟩⟩
   rw [sK];exact h3
 have kF:∀x y:kN,l= [x,y]->x.2.2.1=0->x.2.2.2=s.size->x.1=1->Rh s:=by
  rintro x y pS h1 h2 h3
  rcases hq with⟨-,h4⟩|⟨l0,z,a,hl,j,b,k,rest,h5,h6,h7,rfl,h8,h9⟩
  ·rw [pS] at h4;simp at h4
  ·rw [pS,List.cons_append] at hl
   injection hl with hx hy
   subst hx
   simp only at h1 h2 h3
   have Y_:j=0:=z6
   have SM:b=s.size:=z6
   subst Y_;subst SM
   have iK:=h7.nm.1 h3
   refine⟨h6,iK.1,(h7.w iK.1).1, ?_⟩
   rw [sK] at iK;exact iK.2
 by_cases hl:l.length=2
 ·match l,hl with
  | [x,y],_ =>
   have hx: [x,y][0]?=some x:=rfl
   by_cases h1:x.2.2.1=0
   ·by_cases h2:x.2.2.2=s.size
    ·repeat'(first|apply Sp.h|refine Lk.r rfl ?_|refine Rf.mk rfl ?_|refine xA ?_|apply Im.mk|refine xI ?_|refine xN ?_|intro _)
     refine⟨_,_,.one (.same (.z)),_,rfl,rfl,λ_=>⟨λh=>kF x y rfl h1 h2 h,λh=>Classical.byContradiction λh3=>yD ?_ h⟩⟩
     rintro⟨x',y',he,-,-,h4⟩
     cases he;exact h3 h4
    ·repeat'(first|apply Sp.h|refine Lk.r rfl ?_|refine Rf.mk rfl ?_|refine xA ?_|refine xB ?_|apply Im.mk|refine xI ?_|refine xN ?_|intro _)
     refine⟨_,_,.one (.same (.z)),_,rfl,rfl,λ_=>⟨λh=>z6,λh=>(yD ?_ h).elim⟩⟩
     rintro⟨x',y',he,-,h4,-⟩
     cases he;exact h2 h4
   ·repeat'(first|apply Sp.h|refine Lk.r rfl ?_|refine Rf.mk rfl ?_|refine xA ?_|refine xB ?_|apply Im.mk|refine xI ?_|refine xN ?_|intro _)
    refine⟨_,_,.one (.same (.z)),_,rfl,rfl,λ_=>⟨λh=>z6,λh=>(yD ?_ h).elim⟩⟩
    rintro⟨x',y',he,h4,-,-⟩
    cases he;exact h1 h4
 ·repeat'(first|apply Sp.h|refine Lk.r rfl ?_|refine Rf.mk rfl ?_|refine xA ?_|refine xB ?_|apply Im.mk|refine xN ?_|intro _)
  refine⟨_,_,.one (.same (.z)),_,rfl,rfl,λ_=>⟨λh=>z6,λh=>(yD ?_ h).elim⟩⟩
  rintro⟨x',y',rfl,-,-,-⟩
  exact hl rfl
theorem fF(s:ByteArray):y6 Tryz.prog 114 [sv s] (.val (.bool (decide (o4 s)))):=by
 refine zy.of pg ye Tryz.func114 rfl Tryz.ntmps114 Tryz.results114 rfl λh0 G0 O0=>?_
 repeat'(first|apply Sp.h|refine Lk.r rfl ?_|refine Rf.mk rfl ?_|fail)
 refine xW (Iu s) ?_
 rintro _ _ ⟨k,rfl,rfl,hk⟩
 repeat'(first|apply Sp.h|refine Lk.r rfl ?_|refine Rf.mk rfl ?_|refine xA ?_|refine xB ?_|apply Bd.mk|refine xN ?_|intro _)
 ·rename_i h
  refine Fin.p rfl (vb ?_)
  by_cases h9:s.size<=16
  ·rw [zT (show o4 s from⟨(hk z6).1 h,h9⟩)]
   exact zT z6
  ·rw [zF (show¬o4 s from λh8=>h9 h8.2)]
   exact zF z6
 ·rename_i h
  exact Fin.p rfl (vb (zF λh8=>h ((hk (by have:=h8.2;omega)).2 h8.1)).symm)
theorem yg{α:Type}{l:List α}{P:Nat->α->Prop}{i:Nat}{x:α}(hx:l[i]?=some x)(h:∀j y,j < i->l[j]?=some y->P j y)(hp:P i x) :∀j y,j < i+1->l[j]?=some y->P j y:=by
 intro j y h1 h2
 by_cases hj:j=i
 ·subst hj;rw [hx] at h2;cases h2;exact hp
 ·exact h j y z6 h2
theorem xc{α:Type}{l:List α}{P:Nat->α->Prop}(h:∀j y,j < l.length->l[j]?=some y->P j y) :∀j y,l[j]?=some y->P j y :=
 λj y hy=>h j y (zS.1 hy).1 hy
noncomputable def xZ(sizes:List Int)(s:Bool)(l:List ym):Int:=(l.map λt=>if decide (yi t.kind)=s then wF sizes t.ya else 0).sum
theorem vO{sizes:List Int}{s:Bool}{l:List ym}{i:Nat}{t:ym}(h:l[i]?=some t):xZ sizes s (l.take (i+1))=xZ sizes s (l.take i)+if decide (yi t.kind)=s then wF sizes t.ya else 0:=by
 unfold xZ;rw [zK,h];simp
theorem rQ{sizes:List Int}{s:Bool}{l:List ym} :∀i,0<=xZ sizes s (l.take i)/\xZ sizes s (l.take i)<=216 * i:=by
 intro i
 induction i with
 | zero=>simp [xZ]
 | succ i ih =>
  by_cases hi:i < l.length
  ·obtain⟨t,ht⟩:=zz hi
   rw [vO ht]
   have:=rN sizes t.ya
   split <;> omega
  ·rw [show l.take (i+1)=l.take i by rw [List.take_of_length_le z6,List.take_of_length_le z6]]
   omega
structure b_ (sizes:List Int) (l:List ym) (i:Nat) (t:ym):Prop where
 nm:o4 t.name
 df:∀j u,j < i->l[j]?=some u->u.name.toList≠t.name.toList
 ok:VT sizes t
 rg:t.kind=0∨t.kind=2∨t.kind=3->t.lo=0/\t.hi=1
 fs:t.first=xZ sizes (decide (yi t.kind)) (l.take i)
structure vh (sizes:List Int) (l:List ym):Prop where
 sz:sizes.length<=4
 so:Sound sizes
 tl:l.length<=12
 t:∀i t,l[i]?=some t->b_ sizes l i t
 s:xZ sizes true l<=128
 m:xZ sizes false l<=64
noncomputable instance (sizes:List Int) (l:List ym):Decidable (vh sizes l):=zC _
theorem vh.ok{sizes:List Int}{l:List ym}(h:vh sizes l):xS sizes l:=⟨h.sz,h.so,h.tl,λt ht=>by obtain⟨i,hi⟩:=zO ht;exact(h.t i t hi).ok⟩
theorem EU{sizes ya:List Int}(h:¬wF sizes ya≠0) :¬uO sizes ya:=by
 intro hc
 apply h
 unfold wF
 rw [if_pos hc]
 have:=sG hc.2.1 ya
 omega
theorem nt(sizes:List Int)(l:List ym):y6 Tryz.prog 51 [ints sizes,xG l] (.val (.bool (decide (vh sizes l)))):=by
 refine zy.of pg EJ Tryz.func51 rfl Tryz.ntmps51 Tryz.results51 rfl λh0 G0 O0=>?_
 by_cases h0:sizes.length<=4/\Sound sizes/\l.length<=12
 rotate_left
 ·have hn:¬vh sizes l:=λh=>h0 ⟨h.sz,h.so,h.tl⟩
  repeat'(first|apply Sp.h|refine Lk.r rfl ?_|refine Rf.mk rfl ?_|refine xA ?_|refine xB ?_|(refine Bd.mk ?_ ?_ <;> intro _)|refine Im.mk λ_=>?_|refine xN ?_|(apply Cl.p (oZ _);focus repeat' constructor))
  all_goals first
   | exact Fin.p rfl (vb (zF hn).symm)
   | exact(h0 ⟨z6,by assumption,z6⟩).elim
 obtain⟨u4,hs,SY⟩:=h0
 repeat'(first|apply Sp.h|refine Lk.r rfl ?_|refine Rf.mk rfl ?_|refine xA ?_|refine xB ?_|refine Im.mk λ_=>?_|(apply Cl.p (oZ _);focus repeat' constructor))
 refine CA.loop (λi:Nat=>⟨[(0,ints sizes),(1,xG l),(5,it (xZ sizes true (l.take i))),(6,it (xZ sizes false (l.take i))),(7,it i)],[]⟩) (λi=>i<=l.length/\∀j t,j < i->l[j]?=some t->b_ sizes l j t) (λi=>l.length - i) 0 xE ⟨zZ _,λj t h=>z6⟩ ?_
 rintro i ⟨hi,ht⟩
 by_cases yd:i < l.length
 ·obtain⟨t,ew⟩:=zz yd
  have yD:¬b_ sizes l i t->¬vh sizes l:=λh h2=>h (h2.t i t ew)
  have xe:=vO (sizes:=sizes) (s:=true) ew
  have ee:=vO (sizes:=sizes) (s:=false) ew
  have C8:=rQ (sizes:=sizes) (s:=true) (l:=l) i
  have YR:=rQ (sizes:=sizes) (s:=false) (l:=l) i
  repeat'(first|apply Sp.h|refine Lk.r rfl ?_|refine Rf.mk rfl ?_|refine xA ?_|apply Im.mk|apply yc.mk|refine xT ?_|refine xI ?_|refine Ch.l ⟨rfl,rfl⟩ ?_|(apply y4.r;focus repeat' constructor)|refine xN ?_|intro _)
  rename_i b8
  refine CA.loop (λk:Nat=>⟨[(0,ints sizes),(1,xG l),(5,it (xZ sizes true (l.take i))),(6,it (xZ sizes false (l.take i))),(7,it i),(8,.val (.pointer (some ⟨b8,0,none⟩))),(9,it k)],[yr b8 150 (v8 t)]⟩) (λk=>k<=i/\∀j u,j < k->l[j]?=some u->u.name.toList≠t.name.toList) (λk=>i - k) 0 xE ⟨zZ _,λj u h=>z6⟩ ?_
  rintro k ⟨hk,SJ⟩
  by_cases O6:k < i
  ·obtain⟨u,hu⟩:=zz (l:=l) (i:=k) z6
   repeat'(first|apply Sp.h|refine Lk.r rfl ?_|refine Rf.mk rfl ?_|refine xA ?_|apply Bd.mk|refine yu.r rfl ?_|refine xT ?_|refine xI ?_|refine xN ?_|refine xD ?_|refine xO ?_|intro _)
   ·rename_i hx
    exact Fin.p rfl (vb (zF (yD λh=>h.df k u O6 hu hx)).symm)
   ·rename_i hx
    exact PA.lp (k+1) xE ⟨⟨O6,yg hu SJ hx⟩,z6⟩
  ·have mO:k=i:=z6
   subst mO
   have hn:=rN sizes t.ya
   by_cases hT:b_ sizes l k t
   ·have jQ:=hT.nm
    obtain⟨hc,kx,hk5,YS,hlh,Zs⟩:=hT.ok
    have hrg:=hT.rg
    have Zt:=hT.fs
    have C5:wF sizes t.ya≠0:=λh=>EU (λh2=>h2 h) hc
    by_cases yL:yi t.kind
    ·rw [zT yL] at Zt xe ee
     rw [if_pos rfl] at xe
     rw [if_neg zd] at ee
     repeat'(first|apply Sp.h|refine Lk.r rfl ?_|refine Rf.mk rfl ?_|refine xA ?_|refine xB ?_|(refine Bd.mk ?_ ?_ <;> intro _)|refine xT ?_|refine xO ?_|(apply Cl.p (wz _ _);focus(repeat' constructor);done)|(apply Cl.p (fF _);focus(repeat' constructor);done)|(apply Cl.p (vP _);focus(repeat' constructor);done)|(apply Cl.p (wz sizes _);focus(repeat' constructor);done))
     all_goals try exact(by omega:False).elim
     all_goals
      rw [<-xe]
      rw [show xZ sizes false (l.take k)=xZ sizes false (l.take (k+1)) by omega]
      exact PA.lp (k+1) xE ⟨⟨yd,yg ew ht hT⟩,z6⟩
    ·rw [zF yL] at Zt xe ee
     rw [if_pos rfl] at ee
     rw [if_neg zd] at xe
     repeat'(first|apply Sp.h|refine Lk.r rfl ?_|refine Rf.mk rfl ?_|refine xA ?_|refine xB ?_|(refine Bd.mk ?_ ?_ <;> intro _)|refine xT ?_|refine xO ?_|(apply Cl.p (wz _ _);focus(repeat' constructor);done)|(apply Cl.p (fF _);focus(repeat' constructor);done)|(apply Cl.p (vP _);focus(repeat' constructor);done)|(apply Cl.p (wz sizes _);focus(repeat' constructor);done))
     all_goals try exact(by omega:False).elim
     all_goals
      rw [<-ee]
      rw [show xZ sizes true (l.take k)=xZ sizes true (l.take (k+1)) by omega]
      exact PA.lp (k+1) xE ⟨⟨yd,yg ew ht hT⟩,z6⟩
   ·have yD:=yD hT
    have z4i:yi t.kind↔t.kind=0∨t.kind=1:=Iff.rfl
    repeat'(first|apply Sp.h|refine Lk.r rfl ?_|refine Rf.mk rfl ?_|refine xA ?_|refine xB ?_|(refine Bd.mk ?_ ?_ <;> intro _)|refine xT ?_|refine xN ?_|refine xO ?_|(apply Cl.p (wz _ _);focus(repeat' constructor);done)|(apply Cl.p (fF _);focus(repeat' constructor);done)|(apply Cl.p (vP _);focus(repeat' constructor);done)|(apply Cl.p (wz sizes _);focus(repeat' constructor);done))
    all_goals try exact Fin.p rfl (vb (zF yD).symm)
    all_goals exact(hT ⟨by assumption,SJ,⟨Ic z8,z6,z6,z6,z6,z6⟩,λh=>z6,by first|(rw [zT z8];omega)|(rw [zF z8];omega)⟩).elim
 ·have:i=l.length:=z6
  subst this
  rw [zL]
  have ht:=xc ht
  repeat'(first|apply Sp.h|refine Lk.r rfl ?_|refine Rf.mk rfl ?_|refine xA ?_|refine xB ?_|apply Bd.mk|apply Im.mk|refine xN ?_|intro _)
  ·rename_i h
   refine Fin.p rfl (vb ?_)
   by_cases h9:xZ sizes false l<=64
   ·rw [zT h9,zT (show vh sizes l from⟨u4,hs,SY,ht,z6,h9⟩)]
   ·rw [zF h9,zF (λh8:vh sizes l=>h9 h8.m)]
  ·rename_i h
   exact Fin.p rfl (vb (zF λh8=>h h8.s).symm)
noncomputable def pX(sizes:List Int)(s:Bool)(l:List ym):List (Int×Int):=l.flatMap λt=>if decide (yi t.kind)=s then List.replicate (wF sizes t.ya).toNat (t.lo,t.hi) else []
noncomputable def sr(sizes:List Int)(s:Bool)(l:List ym):List (Int×Int):=if vh sizes l then pX sizes s l else []
theorem gh{sizes:List Int}{s:Bool}{l:List ym}{i:Nat}{t:ym}(h:l[i]?=some t):pX sizes s (l.take (i+1))=pX sizes s (l.take i) ++ if decide (yi t.kind)=s then List.replicate (wF sizes t.ya).toNat (t.lo,t.hi) else []:=by
 unfold pX;rw [zK,h];simp
theorem qM(sizes:List Int)(s:Bool)(l:List ym):((pX sizes s l).length:Int)=xZ sizes s l:=by
 unfold pX xZ
 induction l with
 | nil=>rfl
 | cons t l ih =>
  rw [List.flatMap_cons,zP,List.map_cons,List.sum_cons,<-ih]
  have:=rN sizes t.ya
  split
  ·rw [zR];omega
  ·simp
theorem tu{sizes:List Int}{l:List ym}{s:Bool}:(sr sizes s l).length<=128:=by
 unfold sr
 split
 ·rename_i h
  have:=qM sizes s l
  cases s
  ·have:=h.m;omega
  ·have:=h.s;omega
 ·simp
theorem Y7{sizes:List Int}{l:List ym}{s:Bool}:LC (sr sizes s l):=by
 unfold sr
 split
 ·rename_i h
  intro p hp
  unfold pX at hp
  obtain⟨t,ht,hp⟩:=List.mem_flatMap.1 hp
  split at hp
  ·have:=(h.ok.2.2.2 t ht).2
   rw [(List.mem_replicate.1 hp).2]
   simp only
   omega
  ·cases hp
 ·intro p hp;cases hp
theorem dM(sizes:List Int)(l:List ym)(s:Bool):y6 Tryz.prog 169 [ints sizes,xG l,.val (.bool s)] (.sl 2 (sr sizes s l) vT):=by
  have HX:=nt sizes l
  refine zy.of pg ye Tryz.func169 rfl Tryz.ntmps169 Tryz.results169 rfl λh0 G0 O0=>?_
  by_cases bm:vh sizes l
  rotate_left
  · rw [sr,if_neg bm]
    repeat'(first|apply Sp.h|refine Lk.r rfl ?_|refine Rf.mk rfl ?_|apply yc.mk|(apply Fk.r;focus repeat' first|infer_instance|constructor)|refine Rf.mk ⟨rfl,rfl,rfl⟩ ?_|intro _)
    refine xQ (HX) ?_
    apply OA.yR (m:=([]:List (Int×Int))) (g:=vT)
    focus(repeat constructor)
    focus rfl
    repeat'(first|apply Sp.h|refine Lk.r rfl ?_|refine Rf.mk rfl ?_|refine xB ?_|refine xN ?_|fail)
    exact⟨_,_,.one (.fz z1 zd (.z)),rfl,rfl⟩
  have hlen:=tu (sizes:=sizes) (l:=l) (s:=s)
  rw [sr,if_pos bm] at hlen ⊢
  have V8:=bm.tl
  repeat'(first|apply Sp.h|refine Lk.r rfl ?_|refine Rf.mk rfl ?_|refine xA ?_|refine yc.mk λ_=>?_|(apply Fk.r;focus repeat' first|infer_instance|constructor)|refine Rf.mk ⟨rfl,rfl,rfl⟩ ?_|(apply Cl.p (HX);focus repeat' constructor))
  rename_i v
  apply CA.yR (m:=([]:List (Int×Int))) (g:=vT)
  focus(repeat constructor)
  focus rfl
  refine CA.loop (λx:Nat×Value=>⟨[(0,ints sizes),(1,xG l),(2,.val (.bool s)),(7,.ow x.2),(8,it x.1)],[yb x.2 148 2 (pX sizes s (l.take x.1)) vT]⟩) (λx=>x.1<=l.length) (λx=>l.length - x.1) (0,v) xE (zZ _) ?_
  rintro⟨i,v⟩ hi
  simp only at hi
  simp only
  have Gf:((pX sizes s (l.take i)).length:Int)<=216 * i:=by rw [qM];exact(rQ i).2
  by_cases yd:i < l.length
  · obtain⟨t,ht⟩:=zz yd
    have hn:=rN sizes t.ya
    have xe:=gh (sizes:=sizes) (s:=s) ht
    repeat'(first|apply Sp.h|refine Lk.r rfl ?_|refine Rf.mk rfl ?_|refine xA ?_|apply Im.mk|intro _)
    refine CA.loop (λx:Nat×Value=>⟨[(0,ints sizes),(1,xG l),(2,.val (.bool s)),(7,.ow x.2),(8,it i),(9,it x.1)],[yb x.2 148 2 (pX sizes s (l.take i) ++ List.replicate x.1 (t.lo,t.hi)) vT]⟩) (λx=>(x.1:Int)<=wF sizes t.ya/\(decide (yi t.kind)≠s->x.1=0)) (λx=>(wF sizes t.ya).toNat - x.1) (0,v) ?_ ⟨by simp only;omega,λ_=>rfl⟩ ?_
    · simp only [List.replicate_zero,List.append_nil]
      exact xE
    rintro⟨k,v⟩ ⟨hk,kx⟩
    simp only at hk kx
    simp only
    by_cases yL:decide (yi t.kind)=s
    · rw [if_pos yL] at xe
      by_cases rz:(k:Int) < wF sizes t.ya
      · repeat'(first|apply Sp.h|refine Lk.r rfl ?_|refine Rf.mk rfl ?_|refine xA ?_|refine xP ?_|refine yc.mk λ_=>?_|refine xU ?_|refine xI ?_|refine Ce.r ?_|refine Ch.r ?_|(apply Fk.r;focus repeat' first|infer_instance|constructor)|refine Rf.mk ⟨rfl,rfl⟩ ?_|refine Rf.mk ⟨rfl,rfl,rfl⟩ ?_|(apply Mp.lit;(focus repeat(first|exact yK.nil|(apply yK.cons;{exact zu})|(apply yK.inv;{exact z1};{exact zh}))))|refine xO ?_|(apply Cl.p (vP _);focus repeat' constructor)|(apply Cl.p (wz _ _);focus repeat' constructor))
        all_goals first
          | (rw [List.append_assoc,show List.replicate k (t.lo,t.hi) ++ [(t.lo,t.hi)]=List.replicate (k+1) (t.lo,t.hi) from List.replicate_succ'.symm]
             exact PA.lp (k+1,_) xE ⟨⟨by simp only;omega,λh=>absurd yL h⟩,by simp only;omega⟩)
          | exact absurd yL z8
      · have mO:k=(wF sizes t.ya).toNat:=z6
        subst mO
        rw [<-xe]
        repeat'(first|apply Sp.h|refine Lk.r rfl ?_|refine Rf.mk rfl ?_|refine xA ?_|refine xB ?_|refine xI ?_|refine xO ?_|(apply Cl.p (vP _);focus repeat' constructor)|(apply Cl.p (wz _ _);focus repeat' constructor))
        all_goals first
          | exact PA.lp (i+1,v) xE ⟨yd,by simp only;omega⟩
          | exact absurd yL z8
    · have kx:=kx yL
      subst kx
      rw [if_neg yL,List.append_nil] at xe
      simp only [List.replicate_zero,List.append_nil]
      repeat'(first|apply Sp.h|refine Lk.r rfl ?_|refine Rf.mk rfl ?_|refine xB ?_|refine xI ?_|refine xO ?_|(apply Cl.p (vP _);focus repeat' constructor)|(apply Cl.p (wz _ _);focus repeat' constructor))
      all_goals first
        | (rw [<-xe]
           exact PA.lp (i+1,v) xE ⟨yd,by simp only;omega⟩)
        | exact absurd z8 yL
  · have:i=l.length:=z6
    subst this
    rw [zL]
    repeat'(first|apply Sp.h|refine Lk.r rfl ?_|refine Rf.mk rfl ?_|refine xB ?_|apply Im.mk|refine xN ?_|intro _)
    exact⟨_,_,.one (.fz z1 z6 (.z)),rfl,rfl⟩
def wM(sizes:List Int):List Int->Int->List Int×Int
 | [],k=>([],k)
 | c :: cs,k=>let q:=wM sizes cs k;((q.2 % sizes[c.toNat]?.getD 1) :: q.1,q.2 / sizes[c.toNat]?.getD 1)
theorem qN(sizes:List Int)(k:Int) :∀ya,(wM sizes ya k).1.length=ya.length:=by
 intro ya
 induction ya with
 | nil=>rfl
 | cons c cs ih=>simp [wM,ih]
theorem Yg{sizes:List Int}(hs:Sound sizes){k:Int}(hk:0<=k) :∀ya,0<=(wM sizes ya k).2/\(wM sizes ya k).2<=k:=by
 intro ya
 induction ya with
 | nil=>exact⟨hk,Int.le_refl _⟩
 | cons c cs ih =>
  simp only [wM]
  have hy:1<=sizes[c.toNat]?.getD 1:=by
   cases h:sizes[c.toNat]? with
   | none=>simp
   | some y=>exact(hs y (zM h)).1
  exact⟨Int.ediv_nonneg ih.1 z6,Int.le_trans (Int.ediv_le_self _ ih.1) ih.2⟩
theorem dE{α:Type}(i:Nat)(a b:α)(r:List α):(List.replicate (i+1) a ++ r).set i b=List.replicate i a ++ b :: r:=by
 rw [List.replicate_succ',List.append_assoc,List.set_append_right _ _ zd]
 simp
theorem EV(sizes ya:List Int)(k:Int)(h:uO sizes ya)(hk:0<=k/\k<=1000):y6 Tryz.prog 217 [ints sizes,ints ya,it k] (ints (wM sizes ya k).1):=by
 have hl:=h.1
 refine zy.of pg ye Tryz.func217 rfl Tryz.ntmps217 Tryz.results217 rfl λh0 G0 O0=>?_
 repeat'(first|apply Sp.h|refine Lk.r rfl ?_|refine Rf.mk rfl ?_|apply Im.mk|apply yc.mk|refine xN ?_|refine Rf.mk ⟨rfl,rfl,rfl⟩ ?_|(apply Jx.r;{exact zj};{exact zb})|refine yC.r xL 0 rfl ?_|refine xO ?_|intro _)
 rename_i v _
 refine CA.loop (λi:Nat=>⟨[(0,ints sizes),(1,ints ya),(2,it (wM sizes (ya.drop i) k).2),(7,.ow v),(8,it ((i:Int) - 1))],[yb v 3 1 (List.replicate i 0 ++ (wM sizes (ya.drop i) k).1) xL]⟩) (λi=>i<=ya.length) (λi=>i) ya.length ?_ (Nat.le_refl _) ?_
 ·rw [List.drop_length]
  simp only [wM,List.append_nil]
  exact xE
 intro i hi
 cases i with
 | zero =>
  rw [List.drop_zero]
  repeat'(first|apply Sp.h|refine Lk.r rfl ?_|refine Rf.mk rfl ?_|refine xB ?_|refine xN ?_|fail)
  exact⟨_,_,.one (.fz z1 (by simp [qN];omega) (.z)),rfl,rfl⟩
 | succ i =>
  obtain⟨x,hx⟩:=zz (l:=ya) (i:=i) z6
  obtain⟨j,rfl,y,hy,PQ,DX⟩:=ni h hx
  have hle:=Yg h.2.1 hk.1 (ya.drop (i+1))
  have hlen:=qN sizes k (ya.drop (i+1))
  obtain⟨q,hq⟩:∃q,wM sizes (ya.drop (i+1)) k=q:=⟨_,rfl⟩
  have hd:wM sizes (ya.drop i) k=(q.2 % y :: q.1,q.2 / y):=by
   rw [List.drop_eq_getElem_cons z6,(zS.1 hx).2]
   simp only [wM,hq,Int.toNat_natCast,hy,Option.getD_some]
  have hz:(List.replicate (i+1) (0:Int) ++ q.1)[i]?=some 0:=by
   rw [zI zd,List.getElem?_replicate,if_pos z6]
  rw [hq] at hle hlen ⊢
  obtain⟨q1,q2⟩:=q
  simp only at hle hlen hd hz ⊢
  have e:(((i+1:Nat):Int) - 1)=(i:Int):=z6
  rw [e]
  repeat'(first|apply Sp.h|refine Lk.r rfl ?_|refine Rf.mk rfl ?_|refine xA ?_|refine xP ?_|refine xU ?_|refine xI ?_|refine xJ ?_|refine xV ?_|refine Up.r rfl ?_|refine xO ?_|fail)
  rw [dE]
  refine PA.lp i ?_ ⟨z6,z6⟩
  rw [hd]
  exact xE
def oX(sizes:List Int)(s:Bool)(cell:Int)(t:ym):Prop:=decide (yi t.kind)=s/\0<=cell - t.first/\cell - t.first < wF sizes t.ya
noncomputable instance (sizes:List Int) (s:Bool) (cell:Int) (t:ym):Decidable (oX sizes s cell t):=zC _
noncomputable def Vf(sizes:List Int)(s:Bool)(l:List ym)(cell:Int):Option Nat:=l.findIdx? λt=>decide (oX sizes s cell t)
noncomputable def uS(sizes:List Int)(l:List ym)(s:Bool)(cell:Int):Option (Nat×List Int) :=
 if vh sizes l/\0<=cell then(Vf sizes s l cell).bind λi=>(l[i]?).map λt=>(i,(wM sizes t.ya (cell - t.first)).1) else none
def X6:Option (Nat×List Int)->AV
 | some (i,q)=> .yE [it i,ints q,.val (.bool true)]
 | none=> .yE [it 0,ints [],.val (.bool false)]
theorem Z3{α:Type}{p:α->Bool} :∀{l:List α} {i:Nat} {x:α},l[i]?=some x->p x=true->(∀j y,j < i->l[j]?=some y->p y=false)->l.findIdx? p=some i:=by
 intro l
 induction l with
 | nil=>intro i x h;cases h
 | cons a l ih =>
  intro i x h1 h2 h3
  cases i with
  | zero=>cases h1;simp [List.findIdx?_cons,h2]
  | succ i =>
   have h4:=h3 0 a z6 rfl
   rw [List.findIdx?_cons,h4,ih h1 h2 λj y hj hy=>h3 (j+1) y z6 hy]
   rfl
theorem Z2{α:Type}{p:α->Bool}{l:List α}(h:∀(j:Nat) (y:α),l[j]?=some y->p y=false):l.findIdx? p=none:=by
 rw [List.findIdx?_eq_none_iff]
 intro y hy
 obtain⟨j,hj⟩:=zO hy
 exact h j y hj
theorem fJ{sizes:List Int}{l:List ym}{s:Bool}{cell:Int}(hl:vh sizes l)(hc:0<=cell){i:Nat}{t:ym}(ht:l[i]?=some t)(h1:oX sizes s cell t)(h2:∀j y,j < i->l[j]?=some y->¬oX sizes s cell y):uS sizes l s cell=some (i,(wM sizes t.ya (cell - t.first)).1):=by
 rw [uS,if_pos ⟨hl,hc⟩,Vf,Z3 ht (zT h1) λj y hj hy=>zF (h2 j y hj hy),Option.bind_some,ht]
 rfl
theorem ZY{sizes:List Int}{l:List ym}{s:Bool}{cell:Int}(h2:0<=cell->∀(j:Nat) (y:ym),l[j]?=some y->¬oX sizes s cell y):uS sizes l s cell=none:=by
 unfold uS
 split
 ·rename_i h
  rw [Vf,Z2 λj y hy=>zF (h2 h.2 j y hy)]
  rfl
 ·rfl
theorem vh.first{sizes:List Int}{l:List ym}(h:vh sizes l){i:Nat}{t:ym}(ht:l[i]?=some t):0<=t.first/\t.first<=2592:=by
 have h1:=(h.t i t ht).fs
 have h2:=rQ (sizes:=sizes) (s:=decide (yi t.kind)) (l:=l) i
 have h3:=(zS.1 ht).1
 have h4:=h.tl
 omega
theorem ZW(sizes:List Int)(l:List ym)(s:Bool)(cell:Int)(jW:cell<=9223372036854775807):y6 Tryz.prog 171 [ints sizes,xG l,.val (.bool s),it cell] (X6 (uS sizes l s cell)):=by
 have HX:=nt sizes l
 refine zy.of pg ye Tryz.func171 rfl Tryz.ntmps171 Tryz.results171 rfl λh0 G0 O0=>?_
 by_cases hx:vh sizes l
 rotate_left
 ·rw [uS,if_neg λh=>hx h.1]
  repeat'(first|apply Sp.h|refine Lk.r rfl ?_|refine Rf.mk rfl ?_|refine xB ?_|refine xN ?_|(apply Cl.p (HX);focus repeat' constructor))
  exact⟨_,_,.yE (.same (.ic (.same (.z)))),rfl,rfl⟩
 repeat'(first|apply Sp.h|refine Lk.r rfl ?_|refine Rf.mk rfl ?_|refine xA ?_|(apply Cl.p (HX);focus repeat' constructor))
 have V8:=hx.tl
 refine CA.loop (λi:Nat=>⟨[(0,ints sizes),(1,xG l),(2,.val (.bool s)),(3,it cell),(11,it i)],[]⟩) (λi=>i<=l.length/\∀j t,j < i->l[j]?=some t->0<=cell->¬oX sizes s cell t) (λi=>l.length - i) 0 xE ⟨zZ _,λj t h=>z6⟩ ?_
 rintro i ⟨hi,yD⟩
 by_cases yd:i < l.length
 ·obtain⟨t,ht⟩:=zz yd
  have hT:=(hx.t i t ht).ok
  have hf:=hx.first ht
  have hn:=rN sizes t.ya
  repeat'(first|apply Sp.h|refine Lk.r rfl ?_|refine Rf.mk rfl ?_|refine xA ?_|apply Im.mk|refine xI ?_|intro _)
  apply Ov.w
  intro r R0 bj hr3
  by_cases hc:0<=cell
  ·have hr:r=cell - t.first:=z6
   by_cases uU:oX sizes s cell t
   ·obtain⟨g1,g2,g3⟩:=uU
    have hnt:=EV sizes t.ya r hT.1 z6
    have eK:=fJ hx hc ht ⟨g1,g2,g3⟩ λj y hj hy=>yD j y hj hy hc
    rw [eK,<-hr]
    repeat'(first|apply Sp.h|refine Lk.r rfl ?_|refine Rf.mk rfl ?_|refine xA ?_|refine xI ?_|refine xN ?_|(apply Cl.p (vP _);focus(repeat' constructor);done)|(apply Cl.p (wz _ _);focus(repeat' constructor);done)|(apply Cl.p (hnt);focus(repeat' constructor);done))
    all_goals first
     | exact⟨_,_,.yE (.same (.same (.same (.z)))),rfl,rfl⟩
     | exact absurd g1 z8
     | exact absurd z8 z8
     | omega
   ·have Fq:∀h1:decide (yi t.kind)=s,¬(0<=r/\r < wF sizes t.ya):=λh1 h2=>uU ⟨h1,z6,z6⟩
    have vu:=yg ht yD (λ_=>uU)
    repeat'(first|apply Sp.h|refine Lk.r rfl ?_|refine Rf.mk rfl ?_|refine xA ?_|refine xB ?_|(refine Bd.mk ?_ ?_ <;> intro _)|refine xI ?_|refine xO ?_|(apply Cl.p (vP _);focus(repeat' constructor);done)|(apply Cl.p (wz _ _);focus(repeat' constructor);done)|(apply Cl.p (wz _ _);focus(repeat' constructor);done))
    all_goals first
     | exact PA.lp (i+1) xE ⟨⟨yd,vu⟩,z6⟩
     | exact absurd ⟨by assumption,by assumption⟩ (Fq z8)
     | exact absurd ⟨z6,z6⟩ (Fq z8)
  ·have vu:=yg ht yD (λh=>absurd h hc)
   repeat'(first|apply Sp.h|refine Lk.r rfl ?_|refine Rf.mk rfl ?_|refine xA ?_|refine xB ?_|(refine Bd.mk ?_ ?_ <;> intro _)|refine xI ?_|refine xO ?_|(apply Cl.p (vP _);focus(repeat' constructor);done)|(apply Cl.p (wz _ _);focus(repeat' constructor);done)|(apply Cl.p (wz _ _);focus(repeat' constructor);done))
   all_goals exact PA.lp (i+1) xE ⟨⟨yd,vu⟩,z6⟩
 ·have:i=l.length:=z6
  subst this
  rw [ZY λhc j y hy=>yD j y (zS.1 hy).1 hy hc]
  repeat'(first|apply Sp.h|refine Lk.r rfl ?_|refine Rf.mk rfl ?_|refine xB ?_|apply Im.mk|refine xN ?_|intro _)
  exact⟨_,_,.yE (.same (.ic (.same (.z)))),rfl,rfl⟩
def o6(l:List ByteArray):Prop:=∀(i:Nat) (s:ByteArray),l[i]?=some s->o4 s/\∀(j:Nat) (q:ByteArray),j < i->l[j]?=some q->q.toList≠s.toList
noncomputable instance (l:List ByteArray):Decidable (o6 l):=zC _
theorem d_{l:List ByteArray}{i:Nat}{s:ByteArray}(hi:i<=l.length) :¬kR (l.take i) s↔∀(j:Nat) (q:ByteArray),j < i->l[j]?=some q->q.toList≠s.toList:=by
 constructor
 ·intro h j q hj hq he
  exact h ⟨q,zM (i:=j) (by rw [List.getElem?_take_of_lt hj];exact hq),he⟩
 ·rintro h ⟨q,hq,he⟩
  obtain⟨j,hj⟩:=zO hq
  have xC:=(zS.1 hj).1
  rw [zN] at xC
  rw [List.getElem?_take_of_lt z6] at hj
  exact h j q z6 hj he
theorem jD(l:List ByteArray):y6 Tryz.prog 52 [.sl 1 l ur] (.val (.bool (decide (o6 l)))):=by
 refine zy.of pg EI Tryz.func52 rfl Tryz.ntmps52 Tryz.results52 rfl λh0 G0 O0=>?_
 repeat'(first|apply Sp.h|refine Lk.r rfl ?_|refine Rf.mk rfl ?_|fail)
 refine CA.loop (λi:Nat=>⟨[(0,.sl 1 l ur),(3,it i)],[]⟩) (λi=>i<=l.length/\∀j s,j < i->l[j]?=some s->o4 s/\∀k q,k < j->l[k]?=some q->q.toList≠s.toList) (λi=>l.length - i) 0 xE ⟨zZ _,λj s h=>z6⟩ ?_
 rintro i ⟨hi,ha⟩
 by_cases yd:i < l.length
 ·obtain⟨s,hs⟩:=zz yd
  have Hw:=d_ (l:=l) (s:=s) hi
  have hhp:=VP (l.take i) s
  repeat'(first|apply Sp.h|refine Lk.r rfl ?_|refine Rf.mk rfl ?_|refine xA ?_|refine xB ?_|(refine Bd.mk ?_ ?_ <;> intro _)|refine yu.r rfl ?_|refine Im.mk λ_=>?_|refine xI ?_|refine xN ?_|(apply Jx.r;{exact zj};{exact zb})|refine xD ?_|refine xO ?_|(apply Cl.p (fF s);focus repeat' constructor)|(apply Cl.p (hhp);focus repeat' constructor))
  all_goals first
   | exact PA.lp (i+1) xE ⟨⟨yd,yg hs ha ⟨by assumption,Hw.1 z8⟩⟩,z6⟩
   | exact Fin.p rfl (vb (zF λh:o6 l=>absurd (h i s hs).1 z8).symm)
   | exact Fin.p rfl (vb (zF λh:o6 l=>absurd z8 (Hw.2 (h i s hs).2)).symm)
 ·have:i=l.length:=z6
  subst this
  repeat'(first|apply Sp.h|refine Lk.r rfl ?_|refine Rf.mk rfl ?_|refine xB ?_|apply Im.mk|refine xN ?_|intro _)
  exact Fin.p rfl (vb (zT (show o6 l from xc ha)).symm)
structure Xl (n:Int) (l:List (Int×Int)) (i:Nat) (p:Int×Int):Prop where
 a:0<=p.1
 b:p.1 < n
 c:p.2≠0
 d: -1000<=p.2/\p.2<=1000
 e:∀q,0 < i->l[i - 1]?=some q->q.1 < p.1
structure rJ (n:Int) (r:sU):Prop where
 t:∀i p,r.yO[i]?=some p->Xl n r.yO i p
 b: -1000000000<=r.bound/\r.bound<=1000000000
noncomputable instance (n:Int) (r:sU):Decidable (rJ n r):=zC _
theorem M4(r:sU)(n:Int):y6 Tryz.prog 119 [.agg (pA r),it n] (.val (.bool (decide (rJ n r)))):=by
 have q_:=sL r.bound 1000000000 z6
 refine zy.of pg I6 Tryz.func119 rfl Tryz.ntmps119 Tryz.results119 rfl λh0 G0 O0=>?_
 repeat'(first|apply Sp.h|refine Lk.r rfl ?_|refine Rf.mk rfl ?_|apply yc.mk|intro _)
 rename_i b2
 refine CA.loop (λi:Nat=>⟨[(1,it n),(2,.val (.pointer (some ⟨b2,0,none⟩))),(5,it i)],[yr b2 170 (pA r)]⟩) (λi=>i<=r.yO.length/\∀j p,j < i->r.yO[j]?=some p->Xl n r.yO j p) (λi=>r.yO.length - i) 0 xE ⟨zZ _,λj p h=>z6⟩ ?_
 rintro i ⟨hi,ha⟩
 by_cases yd:i < r.yO.length
 ·obtain⟨p,hp⟩:=zz yd
  have bt:=sL p.2 1000 z6
  by_cases hT:Xl n r.yO i p
  ·obtain⟨g1,g2,g3,g4,g5⟩:=hT
   rcases Nat.eq_zero_or_pos i with h0|h0
   ·subst h0
    repeat'(first|apply Sp.h|refine Lk.r rfl ?_|refine Rf.mk rfl ?_|refine xA ?_|refine xB ?_|refine yu.r rfl ?_|refine Im.mk λ_=>?_|refine yc.mk λ_=>?_|refine xT ?_|refine xI ?_|refine Ch.l ⟨rfl,rfl⟩ ?_|(apply y4.r;focus repeat' constructor)|refine xN ?_|refine xD ?_|refine xO ?_|(apply Cl.p (bt);focus repeat' constructor))
    exact PA.lp 1 xE ⟨⟨yd,yg hp ha ⟨g1,g2,g3,g4,g5⟩⟩,z6⟩
   ·obtain⟨k,rfl⟩:∃k,i=k+1:=⟨i - 1,z6⟩
    obtain⟨q,hq⟩:=zz (l:=r.yO) (i:=k) z6
    have hqp:=g5 q h0 hq
    repeat'(first|apply Sp.h|refine Lk.r rfl ?_|refine Rf.mk rfl ?_|refine xA ?_|refine xB ?_|refine yu.r rfl ?_|refine Im.mk λ_=>?_|refine yc.mk λ_=>?_|refine xT ?_|refine xI ?_|(apply Ix.r;{exact z8};{exact z6})|refine Ch.l ⟨rfl,rfl⟩ ?_|(apply y4.r;focus repeat' constructor)|refine xN ?_|refine xD ?_|refine xO ?_|(apply Cl.p (bt);focus repeat' constructor))
    exact PA.lp (k+1+1) xE ⟨⟨yd,yg hp ha ⟨g1,g2,g3,g4,g5⟩⟩,z6⟩
  ·have yD:¬rJ n r:=λh=>hT (h.t i p hp)
   rcases Nat.eq_zero_or_pos i with h0|h0
   ·subst h0
    repeat'(first|apply Sp.h|refine Lk.r rfl ?_|refine Rf.mk rfl ?_|refine xA ?_|refine xB ?_|(refine Bd.mk ?_ ?_ <;> intro _)|refine yu.r rfl ?_|refine Im.mk λ_=>?_|refine yc.mk λ_=>?_|refine xT ?_|refine xI ?_|refine Ch.l ⟨rfl,rfl⟩ ?_|(apply y4.r;focus repeat' constructor)|refine xN ?_|refine xD ?_|refine xO ?_|(apply Cl.p (bt);focus repeat' constructor))
    all_goals first
     | exact Fin.p rfl (vb (zF yD).symm)
     | exact(hT ⟨z6,z6,z6,z6,λq h=>z6⟩).elim
   ·obtain⟨k,rfl⟩:∃k,i=k+1:=⟨i - 1,z6⟩
    obtain⟨q,hq⟩:=zz (l:=r.yO) (i:=k) z6
    repeat'(first|apply Sp.h|refine Lk.r rfl ?_|refine Rf.mk rfl ?_|refine xA ?_|refine xB ?_|(refine Bd.mk ?_ ?_ <;> intro _)|refine yu.r rfl ?_|refine Im.mk λ_=>?_|refine yc.mk λ_=>?_|refine xT ?_|refine xI ?_|(apply Ix.r;{exact z8};{exact z6})|refine Ch.l ⟨rfl,rfl⟩ ?_|(apply y4.r;focus repeat' constructor)|refine xN ?_|refine xD ?_|refine xO ?_|(apply Cl.p (bt);focus repeat' constructor))
    all_goals first
     | exact Fin.p rfl (vb (zF yD).symm)
     | exact(hT ⟨z6,z6,z6,z6,λq' _ h=>by rw [show k+1 - 1=k by omega,hq] at h;cases h;omega⟩).elim
 ·have:i=r.yO.length:=z6
  subst this
  repeat'(first|apply Sp.h|refine Lk.r rfl ?_|refine Rf.mk rfl ?_|refine xB ?_|refine Im.mk λ_=>?_|refine xT ?_|refine xN ?_|(apply Cl.p (q_);focus repeat' constructor))
  refine Fin.p rfl (vb ?_)
  by_cases h9: -1000000000<=r.bound/\r.bound<=1000000000
  ·rw [zT h9,zT (show rJ n r from⟨xc ha,h9⟩)]
  ·rw [zF h9,zF (λh8:rJ n r=>h9 h8.b)]
theorem mZ(a b:List (Int×Int)):y6 Tryz.prog 170 [yO a,yO b] (.val (.bool (decide (a=b)))):=by
 refine zy.of pg JS Tryz.func170 rfl Tryz.ntmps170 Tryz.results170 rfl λh0 G0 O0=>?_
 by_cases hl:a.length=b.length
 ·repeat'(first|apply Sp.h|refine Lk.r rfl ?_|refine Rf.mk rfl ?_|refine xA ?_|apply Im.mk|intro _)
  refine CA.loop (λi:Nat=>⟨[(0,yO a),(1,yO b),(5,it i)],[]⟩) (λi=>i<=a.length/\a.take i=b.take i) (λi=>a.length - i) 0 xE ⟨zZ _,rfl⟩ ?_
  rintro i ⟨hi,he⟩
  by_cases yd:i < a.length
  ·obtain⟨p,hp⟩:=zz yd
   obtain⟨q,hq⟩:=zz (l:=b) (i:=i) z6
   by_cases V6:p=q
   ·subst V6
    repeat'(first|apply Sp.h|refine Lk.r rfl ?_|refine Rf.mk rfl ?_|refine xA ?_|refine yu.r rfl ?_|apply Im.mk|refine xI ?_|refine Ch.l ⟨rfl,rfl⟩ ?_|refine xK ?_|(apply Kf.mk;{exact z7})|refine xD ?_|refine xO ?_|intro _)
    all_goals first
     | exact PA.lp (i+1) xE ⟨⟨yd,by rw [zK,zK,he,hp,hq]⟩,z6⟩
     | exact absurd rfl z8
   ·have vB:a≠b:=λh=>V6 (by rw [h,hq] at hp;cases hp;rfl)
    repeat'(first|apply Sp.h|refine Lk.r rfl ?_|refine Rf.mk rfl ?_|refine xA ?_|apply Bd.mk|refine yu.r rfl ?_|apply Im.mk|refine xI ?_|refine Ch.l ⟨rfl,rfl⟩ ?_|refine xN ?_|refine xK ?_|(apply Kf.mk;{exact z7})|refine xD ?_|refine xO ?_|intro _)
    all_goals first
     | exact Fin.p rfl (vb (zF vB).symm)
     | (rename_i h9;injection h9 with h8 h9;injection h9 with h9;exact(V6 (Prod.ext h8 h9)).elim)
  ·have:i=a.length:=z6
   rw [List.take_of_length_le z6,List.take_of_length_le z6] at he
   repeat'(first|apply Sp.h|refine Lk.r rfl ?_|refine Rf.mk rfl ?_|refine xB ?_|apply Im.mk|refine xN ?_|intro _)
   exact Fin.p rfl (vb (zT he).symm)
 ·have vB:a≠b:=λh=>hl (by rw [h])
  repeat'(first|apply Sp.h|refine Lk.r rfl ?_|refine Rf.mk rfl ?_|refine xB ?_|apply Im.mk|refine xN ?_|intro _)
  all_goals exact Fin.p rfl (vb (zF vB).symm)
theorem rr(a b:sU):y6 Tryz.prog 118 [.agg (pA a),.agg (pA b)] (.val (.bool (decide (a.yO=b.yO/\a.bound=b.bound)))):=by
 refine zy.of pg ye Tryz.func118 rfl Tryz.ntmps118 Tryz.results118 rfl λh0 G0 O0=>?_
 by_cases hb:a.bound=b.bound
 ·repeat'(first|apply Sp.h|refine Lk.r rfl ?_|refine Rf.mk rfl ?_|refine xA ?_|refine yc.mk λ_=>?_|refine xT ?_|refine xN ?_|(apply Cl.p (mZ _ _);focus repeat' constructor))
  refine Fin.p rfl (vb ?_)
  exact zD.2 ⟨λh=>⟨h,hb⟩,λh=>h.1⟩
 ·repeat'(first|apply Sp.h|refine Lk.r rfl ?_|refine Rf.mk rfl ?_|refine xB ?_|refine yc.mk λ_=>?_|refine xT ?_|refine xN ?_|(apply Cl.p (mZ _ _);(focus repeat'(first|fail))))
  exact Fin.p rfl (vb (zF λh=>hb h.2).symm)
def iy(y9:List Int)(c:mh)(t:ym):Prop:=t.kind=0/\t.first=c.first/\∃x:Nat,t.ya= [(x:Int),(x:Int)]/\y9[x]?=some c.size
def eX(m:y8)(c:mh):Prop:=c.row.yO= []/\c.row.bound=0/\∃(i:Nat) (t:ym),m.tables[i]?=some t/\iy m.y9 c t
noncomputable instance (m:y8) (c:mh):Decidable (eX m c):=zC _
theorem Q_(m:y8)(c:mh)(hm:xS m.y9 m.tables):y6 Tryz.prog 120 [wH m,.agg (lE c)] (.val (.bool (decide (eX m c)))):=by
 refine zy.of pg I5 Tryz.func120 rfl Tryz.ntmps120 Tryz.results120 rfl λh0 G0 O0=>?_
 by_cases h0:c.row.yO.length=0/\c.row.bound=0
 rotate_left
 ·have yD:¬eX m c:=λh=>h0 ⟨by rw [h.1];rfl,h.2.1⟩
  repeat'(first|apply Sp.h|refine Lk.r rfl ?_|refine Rf.mk rfl ?_|refine xA ?_|refine xB ?_|apply Bd.mk|apply Im.mk|apply yc.mk|refine xT ?_|refine xN ?_|intro _)
  all_goals first
   | exact Fin.p rfl (vb (zF yD).symm)
   | exact(h0 ⟨z6,by assumption⟩).elim
 obtain⟨eg,qg⟩:=h0
 repeat'(first|apply Sp.h|refine Lk.r rfl ?_|refine Rf.mk rfl ?_|refine xA ?_|refine xB ?_|apply Im.mk|apply yc.mk|refine xT ?_|intro _)
 rename_i b2 b3 _
 refine CA.loop (λi:Nat=>⟨[(2,.val (.pointer (some ⟨b2,0,none⟩))),(3,.val (.pointer (some ⟨b3,0,none⟩))),(5,it i)],[yr b3 172 (lE c),yr b2 30 (s_ m)]⟩) (λi=>i<=m.tables.length/\∀j t,j < i->m.tables[j]?=some t->¬iy m.y9 c t) (λi=>m.tables.length - i) 0 xE ⟨zZ _,λj t h=>z6⟩ ?_
 rintro i ⟨hi,yD⟩
 by_cases yd:i < m.tables.length
 ·obtain⟨t,ht⟩:=zz yd
  obtain⟨⟨g1,g2,g3⟩,-⟩:=hm.2.2.2 t (zM ht)
  by_cases hl:t.ya.length=2
  ·obtain⟨x,hx⟩:=zz (l:=t.ya) (i:=0) z6
   obtain⟨y,hy⟩:=zz (l:=t.ya) (i:=1) z6
   have rY:t.ya= [x,y]:=by
    match hc:t.ya,hl with
    | [u,v],_=>rw [hc] at hx hy;cases hx;cases hy;rfl
   obtain⟨lx,Zl⟩:=g3 x (zM hx)
   obtain⟨k,rfl⟩:=Int.eq_ofNat_of_zero_le lx
   obtain⟨z,hz⟩:=zz (l:=m.y9) (i:=k) z6
   by_cases hT:iy m.y9 c t
   ·have kF:eX m c:=⟨List.length_eq_zero_iff.1 eg,qg,i,t,ht,hT⟩
    obtain⟨h1,h2,w,h3,h4⟩:=hT
    rw [rY] at h3
    injection h3 with e1 h3
    injection h3 with e2 h3
    subst e2
    obtain rfl:k=w:=z6
    rw [hz] at h4
    injection h4 with h4
    repeat'(first|apply Sp.h|refine Lk.r rfl ?_|refine Rf.mk rfl ?_|refine xA ?_|refine yu.r rfl ?_|apply Im.mk|apply yc.mk|refine xT ?_|refine xI ?_|refine Ch.l ⟨rfl,rfl⟩ ?_|(apply y4.r;focus repeat' constructor)|refine xN ?_|refine xD ?_|intro _)
    all_goals first
     | exact Fin.p rfl (vb (zT kF).symm)
     | exact absurd z8 z8
     | exact(by omega:False).elim
   ·have vu:=yg ht yD hT
    repeat'(first|apply Sp.h|refine Lk.r rfl ?_|refine Rf.mk rfl ?_|refine xA ?_|refine xB ?_|apply Bd.mk|refine yu.r rfl ?_|apply Im.mk|apply yc.mk|refine xT ?_|refine xI ?_|refine Ch.l ⟨rfl,rfl⟩ ?_|(apply y4.r;focus repeat' constructor)|refine xN ?_|refine xD ?_|refine xO ?_|intro _)
    all_goals first
     | exact PA.lp (i+1) xE ⟨⟨yd,vu⟩,z6⟩
     | exact(hT ⟨z6,z6,k,by rw [rY,show y=(k:Int) by omega],by rw [hz,show z=c.size by omega]⟩).elim
  ·have hT:¬iy m.y9 c t:=by
    rintro⟨-,-,x,h,-⟩
    exact hl (by rw [h];rfl)
   have vu:=yg ht yD hT
   repeat'(first|apply Sp.h|refine Lk.r rfl ?_|refine Rf.mk rfl ?_|refine xA ?_|refine xB ?_|apply Bd.mk|refine yu.r rfl ?_|apply Im.mk|apply yc.mk|refine xT ?_|refine xI ?_|refine Ch.l ⟨rfl,rfl⟩ ?_|(apply y4.r;focus repeat' constructor)|refine xN ?_|refine xD ?_|refine xO ?_|intro _)
   all_goals exact PA.lp (i+1) xE ⟨⟨yd,vu⟩,z6⟩
 ·have:i=m.tables.length:=z6
  subst this
  repeat'(first|apply Sp.h|refine Lk.r rfl ?_|refine Rf.mk rfl ?_|refine xB ?_|apply Im.mk|refine xT ?_|refine xN ?_|intro _)
  refine Fin.p rfl (vb (zF ?_).symm)
  rintro⟨-,-,j,t,ht,h⟩
  exact yD j t (zS.1 ht).1 ht h
noncomputable def wA(m:y8):List (Int×Int):=sr m.y9 true m.tables
theorem og(m:y8):y6 Tryz.prog 117 [wH m] (.sl 2 (wA m) vT):=by
 have hr:=dM m.y9 m.tables true
 refine zy.of pg ye Tryz.func117 rfl Tryz.ntmps117 Tryz.results117 rfl λh0 G0 O0=>?_
 repeat'(first|apply Sp.h|refine Lk.r rfl ?_|refine Rf.mk rfl ?_|refine yc.mk λ_=>?_|refine xT ?_|refine xN ?_|(apply Cl.p (hr);focus repeat' constructor))
 exact Fin.p rfl rfl
def iB(rs:List (Int×Int))(i:Nat)(c:mh):Prop:=∀p,rs[i / 2]?=some p->c.row.yO= [(((i / 2:Nat):Int),if i % 2=0 then -1 else 1)]/\c.row.bound=if i % 2=0 then -p.1 else p.2
structure fA (m:y8) (n:Nat) (i:Nat) (c:mh):Prop where
 f:0<=c.family/\c.family < m.xm.length
 k:(c.kind=0/\c.first=0/\c.size=0/\rJ n c.row)∨(2 * n<=i/\c.kind=1/\eX m c)
structure qu (m:y8):Prop where
 a:2 * (wA m).length<=m.cons.length
 b:m.cons.length<=512
 c:∀i c,m.cons[i]?=some c->iB (wA m) i c/\fA m (wA m).length i c
noncomputable instance (m:y8):Decidable (qu m):=zC _
theorem _root_.Go.CF.zq {p:Prop}(h:p:=by first|omega|decide|exact zB rfl|(simp <;> omega)):p:=h
theorem iG(m:y8)(hm:xS m.y9 m.tables):y6 Tryz.prog 53 [wH m] (.val (.bool (decide (qu m)))):=by
 have hs:=og m
 have R0:=tu (sizes:=m.y9) (s:=true) (l:=m.tables)
 have bj:=Y7 (sizes:=m.y9) (s:=true) (l:=m.tables)
 change (wA m).length<=128 at R0
 change LC (wA m) at bj
 have hx:∀h:qu m,True:=λ_=>trivial
 have wQ:qu m↔2 * (wA m).length<=m.cons.length/\m.cons.length<=512/\∀i c,m.cons[i]?=some c->iB (wA m) i c/\fA m (wA m).length i c:=⟨λh=>⟨h.a,h.b,h.c⟩,λh=>⟨h.1,h.2.1,h.2.2⟩⟩
 obtain⟨rs,YM⟩:∃rs,rs=wA m:=⟨_,rfl⟩
 rw [<-YM] at hs R0 bj wQ
 clear hx
 refine zy.of pg EH Tryz.func53 rfl Tryz.ntmps53 Tryz.results53 rfl λh0 G0 O0=>?_
 by_cases h0:2 * rs.length<=m.cons.length/\m.cons.length<=512
 rotate_left
 ·have yD:¬qu m:=λh=>h0 ⟨(wQ.1 h).1,(wQ.1 h).2.1⟩
  repeat'(first|apply Sp.h|refine Lk.r rfl ?_|refine Rf.mk rfl ?_|refine xA ?_|refine xB ?_|(refine Bd.mk ?_ ?_ <;> intro _)|refine xP ?_|refine Im.mk λ_=>?_|refine yc.mk λ_=>?_|refine xT ?_|refine Ch.l ⟨rfl,rfl⟩ ?_|refine xN ?_|(apply Cl.p (hs);focus repeat' constructor))
  all_goals first
   | exact Fin.p rfl (vb (zF yD).symm)
   | exact(h0 ⟨z6,z6⟩).elim
 obtain⟨nQ,ue⟩:=h0
 repeat'(first|apply Sp.h|refine Lk.r rfl ?_|refine Rf.mk rfl ?_|refine xB ?_|refine xP ?_|refine Im.mk λ_=>?_|refine yc.mk λ_=>?_|refine xT ?_|refine Ch.l ⟨rfl,rfl⟩ ?_|(apply Cl.p (hs);focus repeat' constructor))
 rename_i b1 _ _ _
 refine CA.loop (λi:Nat=>⟨[(1,.val (.pointer (some ⟨b1,0,none⟩))),(3,.sl 2 rs vT),(4,it i)],[yr b1 30 (s_ m)]⟩) (λi=>i<=rs.length/\∀j c,j < 2 * i->m.cons[j]?=some c->iB rs j c) (λi=>rs.length - i) 0 xE ⟨zZ _,λj c h=>z6⟩ ?_
 rintro i ⟨hi,Oi⟩
 by_cases yd:i < rs.length
 ·obtain⟨p,hp⟩:=zz yd
  obtain⟨h1,h2,h3⟩:=bj p (zM hp)
  obtain⟨c,hc⟩:=zz (l:=m.cons) (i:=2 * i) z6
  obtain⟨c2,tE⟩:=zz (l:=m.cons) (i:=2 * i+1) z6
  have e1:2 * i / 2=i:=z6
  have e2:(2 * i+1) / 2=i:=z6
  have e3:2 * i % 2=0:=z6
  have e4:(2 * i+1) % 2≠0:=z6
  by_cases hA:c.row.yO= [((i:Int),-1)]/\c.row.bound= -p.1
  ·by_cases hB:c2.row.yO= [((i:Int),1)]/\c2.row.bound=p.2
   ·have vu:=yg tE (yg hc Oi λq hq=>by rw [e1,hp] at hq;cases hq;rw [e1,if_pos e3,if_pos e3];exact hA) λq hq=>by rw [e2,hp] at hq;cases hq;rw [e2,if_neg e4,if_neg e4];exact hB
    have z00:m.cons[2 * i+1]?=some c2:=tE
    clear tE
    repeat'(first|apply Sp.h|refine Lk.r rfl ?_|refine Rf.mk rfl ?_|refine xA ?_|refine yu.r rfl ?_|refine xP ?_|apply Im.mk|apply yc.mk|refine xT ?_|refine xI ?_|refine Ch.l ⟨rfl,rfl⟩ ?_|refine Ch.r ?_|(apply y4.r;focus repeat' constructor)|(apply Fk.r;focus repeat' first|infer_instance|constructor)|refine xN ?_|refine Rf.mk ⟨rfl,rfl,rfl⟩ ?_|refine xD ?_|intro _)
    (apply Cl.fz;(focus repeat'(first|exact FZ.nil|(apply FZ.fz;{exact z1};{exact zq})|apply FZ.agg|apply FZ.same)))
    apply Cl.p (rr c.row ⟨[((i:Int),-1)],-p.1⟩)
    focus exact .yB (.agg (.mp rfl (.yB .nil)) .nil)
    clear hc
    repeat'(first|apply Sp.h|refine Lk.r rfl ?_|refine Rf.mk rfl ?_|refine xA ?_|refine yu.r rfl ?_|refine xP ?_|refine xT ?_|refine xI ?_|refine Ch.l ⟨rfl,rfl⟩ ?_|refine Ch.r ?_|refine xO ?_|fail)
    (apply Cl.fz;(focus repeat'(first|exact FZ.nil|(apply FZ.fz;{exact z1};{exact zq})|apply FZ.agg|apply FZ.same)))
    apply Cl.p (rr c2.row ⟨[((i:Int),1)],p.2⟩)
    focus exact .yB (.agg (.mp rfl (.yB .nil)) .nil)
    repeat'(first|apply Sp.h|refine Lk.r rfl ?_|refine Rf.mk rfl ?_|refine xA ?_|refine yu.r rfl ?_|refine xO ?_|fail)
    exact PA.lp (i+1) xE ⟨⟨yd,vu⟩,z6⟩
   ·have yD:¬qu m:=λh=>hB (by
     have h9:=((wQ.1 h).2.2 _ c2 tE).1 p (by rw [e2];exact hp)
     rw [e2,if_neg e4,if_neg e4] at h9;exact h9)
    have z00:m.cons[2 * i+1]?=some c2:=tE
    clear tE
    repeat'(first|apply Sp.h|refine Lk.r rfl ?_|refine Rf.mk rfl ?_|refine xA ?_|refine yu.r rfl ?_|refine xP ?_|apply Im.mk|apply yc.mk|refine xT ?_|refine xI ?_|refine Ch.l ⟨rfl,rfl⟩ ?_|refine Ch.r ?_|(apply y4.r;focus repeat' constructor)|(apply Fk.r;focus repeat' first|infer_instance|constructor)|refine xN ?_|refine Rf.mk ⟨rfl,rfl,rfl⟩ ?_|refine xD ?_|intro _)
    (apply Cl.fz;(focus repeat'(first|exact FZ.nil|(apply FZ.fz;{exact z1};{exact zq})|apply FZ.agg|apply FZ.same)))
    apply Cl.p (rr c.row ⟨[((i:Int),-1)],-p.1⟩)
    focus exact .yB (.agg (.mp rfl (.yB .nil)) .nil)
    clear hc
    repeat'(first|apply Sp.h|refine Lk.r rfl ?_|refine Rf.mk rfl ?_|refine xA ?_|refine yu.r rfl ?_|refine xP ?_|refine xT ?_|refine xI ?_|refine Ch.l ⟨rfl,rfl⟩ ?_|refine Ch.r ?_|refine xO ?_|fail)
    (apply Cl.fz;(focus repeat'(first|exact FZ.nil|(apply FZ.fz;{exact z1};{exact zq})|apply FZ.agg|apply FZ.same)))
    apply Cl.p (rr c2.row ⟨[((i:Int),1)],p.2⟩)
    focus exact .yB (.agg (.mp rfl (.yB .nil)) .nil)
    repeat'(first|apply Sp.h|refine Lk.r rfl ?_|refine Rf.mk rfl ?_|refine xA ?_|refine xB ?_|refine yu.r rfl ?_|refine xN ?_|fail)
    exact Fin.p rfl (vb (zF yD).symm)
  ·have yD:¬qu m:=λh=>hA (by
    have h9:=((wQ.1 h).2.2 _ c hc).1 p (by rw [e1];exact hp)
    rw [e1,if_pos e3,if_pos e3] at h9;exact h9)
   clear tE
   repeat'(first|apply Sp.h|refine Lk.r rfl ?_|refine Rf.mk rfl ?_|refine xA ?_|refine yu.r rfl ?_|refine xP ?_|apply Im.mk|apply yc.mk|refine xT ?_|refine xI ?_|refine Ch.l ⟨rfl,rfl⟩ ?_|refine Ch.r ?_|(apply y4.r;focus repeat' constructor)|(apply Fk.r;focus repeat' first|infer_instance|constructor)|refine xN ?_|refine Rf.mk ⟨rfl,rfl,rfl⟩ ?_|refine xD ?_|intro _)
   (apply Cl.fz;(focus repeat'(first|exact FZ.nil|(apply FZ.fz;{exact z1};{exact zq})|apply FZ.agg|apply FZ.same)))
   apply Cl.p (rr c.row ⟨[((i:Int),-1)],-p.1⟩)
   focus exact .yB (.agg (.mp rfl (.yB .nil)) .nil)
   repeat'(first|apply Sp.h|refine Lk.r rfl ?_|refine Rf.mk rfl ?_|refine xB ?_|refine yu.r rfl ?_|refine xN ?_|fail)
   exact Fin.p rfl (vb (zF yD).symm)
 ·have:i=rs.length:=z6
  subst this
  have Oi:∀j c,m.cons[j]?=some c->iB rs j c:=by
   intro j c hj
   by_cases lL:j < 2 * rs.length
   ·exact Oi j c lL hj
   ·intro p hp
    have:=(zS.1 hp).1
    omega
  repeat'(first|apply Sp.h|refine Lk.r rfl ?_|refine Rf.mk rfl ?_|refine xB ?_|apply Im.mk|intro _)
  refine CA.loop (λi:Nat=>⟨[(1,.val (.pointer (some ⟨b1,0,none⟩))),(3,.sl 2 rs vT),(7,it i)],[yr b1 30 (s_ m)]⟩) (λi=>i<=m.cons.length/\∀j c,j < i->m.cons[j]?=some c->fA m rs.length j c) (λi=>m.cons.length - i) 0 xE ⟨zZ _,λj c h=>z6⟩ ?_
  rintro i ⟨hi,Hy⟩
  by_cases yd:i < m.cons.length
  ·obtain⟨c,hc⟩:=zz yd
   have hg:=Q_ m c hm
   have tN:=M4 c.row (rs.length:Int)
   by_cases hC:fA m rs.length i c
   ·have vu:=yg hc Hy hC
    obtain⟨⟨lM,Zv⟩,hk⟩:=hC
    rcases hk with⟨k1,k2,k3,k4⟩|⟨k1,k2,k3⟩
    ·repeat'(first|apply Sp.h|refine Lk.r rfl ?_|refine Rf.mk rfl ?_|refine xA ?_|refine xB ?_|refine Im.mk λ_=>?_|refine yc.mk λ_=>?_|refine xT ?_|refine xI ?_|refine Ch.l ⟨rfl,rfl⟩ ?_|refine Ch.r ?_|(apply y4.r;focus repeat' constructor)|refine xN ?_|refine xO ?_|(apply Cl.p (tN);focus repeat' constructor)|(apply Cl.p (hg);focus repeat' constructor))
     all_goals first
      | exact PA.lp (i+1) xE ⟨⟨yd,vu⟩,z6⟩
      | exact absurd k4 z8
      | exact(by omega:False).elim
    ·repeat'(first|apply Sp.h|refine Lk.r rfl ?_|refine Rf.mk rfl ?_|refine xA ?_|refine xB ?_|refine xP ?_|refine Im.mk λ_=>?_|refine yc.mk λ_=>?_|refine xT ?_|refine xI ?_|refine Ch.l ⟨rfl,rfl⟩ ?_|(apply y4.r;focus repeat' constructor)|refine xN ?_|refine xO ?_|(apply Cl.p (tN);focus repeat' constructor)|(apply Cl.p (hg);focus repeat' constructor))
     all_goals first
      | exact PA.lp (i+1) xE ⟨⟨yd,vu⟩,z6⟩
      | exact absurd k3 z8
      | exact(by omega:False).elim
   ·have yD:¬qu m:=λh=>hC ((wQ.1 h).2.2 i c hc).2
    repeat'(first|apply Sp.h|refine Lk.r rfl ?_|refine Rf.mk rfl ?_|refine xA ?_|refine xB ?_|(refine Bd.mk ?_ ?_ <;> intro _)|refine xP ?_|refine Im.mk λ_=>?_|refine yc.mk λ_=>?_|refine xT ?_|refine xI ?_|refine Ch.l ⟨rfl,rfl⟩ ?_|refine Ch.r ?_|(apply y4.r;focus repeat' constructor)|refine xN ?_|refine xO ?_|(apply Cl.p (tN);focus repeat' constructor)|(apply Cl.p (hg);focus repeat' constructor))
    all_goals first
     | exact Fin.p rfl (vb (zF yD).symm)
     | exact(hC ⟨⟨z6,z6⟩,.inl ⟨z6,z6,z6,by assumption⟩⟩).elim
     | exact(hC ⟨⟨z6,z6⟩,.inr ⟨z6,z6,by assumption⟩⟩).elim
  ·have:i=m.cons.length:=z6
   subst this
   repeat'(first|apply Sp.h|refine Lk.r rfl ?_|refine Rf.mk rfl ?_|refine xB ?_|apply Im.mk|refine xT ?_|refine xN ?_|intro _)
   exact Fin.p rfl (vb (zT (wQ.2 ⟨nQ,by assumption,λj c hj=>⟨Oi j c hj,Hy j c (zS.1 hj).1 hj⟩⟩)).symm)
structure fw (n:Int) (l:List (Int×Int)) (i:Nat) (p:Int×Int):Prop where
 a:0<=p.1
 b:p.1 < n
 c:p.2≠0
 d: -1000000000<=p.2/\p.2<=1000000000
 e:∀q,0 < i->l[i - 1]?=some q->q.1 < p.1
def eS(t:ym)(k v:Int):Prop:=(uz t.kind->(k=0∨k=1)/\v=0)/\(¬uz t.kind->k=2/\t.lo<=v/\v<=t.hi)
def iu(m:y8)(l:List (Int×Int×Int))(i:Nat)(u:Int×Int×Int):Prop :=
 (∃ti q t,uS m.y9 m.tables false u.2.1=some (ti,q)/\m.tables[ti]?=some t/\eS t u.1 u.2.2)/\∀q,0 < i->l[i - 1]?=some q->q.2.1 < u.2.1
structure qb (m:y8) (x:iA):Prop where
 d:∀i p,x.delta[i]?=some p->fw (wA m).length x.delta i p
 h:∀(i:Nat) (r:sU),x.hold[i]?=some r->rJ (wA m).length r
 u:∀i p,x.yk[i]?=some p->iu m x.yk i p
 hl:x.hold.length<=8
 ul:x.yk.length<=32
noncomputable instance (m:y8) (x:iA):Decidable (qb m x):=zC _
def VS(x:iA):Prop:=∀u∈x.yk,u.2.1<=9223372036854775807
theorem ZZ{sizes:List Int}{l:List ym}{s:Bool}{cell:Int}{i:Nat}{q:List Int}(h:uS sizes l s cell=some (i,q)) :∃t,l[i]?=some t:=by
 unfold uS at h
 split at h
 ·obtain⟨j,-,h2⟩:=Option.bind_eq_some_iff.1 h
  obtain⟨t,h3,h4⟩:=Option.map_eq_some_iff.1 h2
  injection h4 with h4 h5
  subst h4
  exact⟨t,h3⟩
 ·cases h
theorem TP(m:y8)(x:iA)(hu:VS x):y6 Tryz.prog 123 [wH m,.agg (il x)] (.val (.bool (decide (qb m x)))):=by
 have hb:=λp:Int×Int=>sL p.2 1000000000 z6
 have hs:=og m
 have wQ:qb m x↔(∀i p,x.delta[i]?=some p->fw (wA m).length x.delta i p)/\(∀(i:Nat) (r:sU),x.hold[i]?=some r->rJ (wA m).length r)/\(∀i p,x.yk[i]?=some p->iu m x.yk i p)/\x.hold.length<=8/\x.yk.length<=32:=⟨λh=>⟨h.d,h.h,h.u,h.hl,h.ul⟩,λh=>⟨h.1,h.2.1,h.2.2.1,h.2.2.2.1,h.2.2.2.2⟩⟩
 obtain⟨rs,YM⟩:∃rs,rs=wA m:=⟨_,rfl⟩
 rw [<-YM] at hs wQ
 refine zy.of pg I3 Tryz.func123 rfl Tryz.ntmps123 Tryz.results123 rfl λh0 G0 O0=>?_
 repeat'(first|apply Sp.h|refine Lk.r rfl ?_|refine Rf.mk rfl ?_|refine Im.mk λ_=>?_|refine yc.mk λ_=>?_|refine xT ?_|refine Ch.l ⟨rfl,rfl⟩ ?_|(apply Cl.p (hs);focus repeat' constructor))
 rename_i b2 b3 _
 refine CA.loop (λi:Nat=>⟨[(2,pm b2),(3,pm b3),(5,it (rs.length:Nat)),(6,it i)],[yr b3 140 (il x),yr b2 30 (s_ m)]⟩) (λi=>i<=x.delta.length/\∀j p,j < i->x.delta[j]?=some p->fw rs.length x.delta j p) (λi=>x.delta.length - i) 0 xE ⟨zZ _,λj p h=>z6⟩ ?_
 rintro i ⟨hi,hd⟩
 by_cases yd:i < x.delta.length
 ·obtain⟨p,hp⟩:=zz yd
  have bt:=hb p
  by_cases hT:fw rs.length x.delta i p
  ·obtain⟨g1,g2,g3,g4,g5⟩:=hT
   rcases Nat.eq_zero_or_pos i with h0|h0
   ·subst h0
    repeat'(first|apply Sp.h|refine Lk.r rfl ?_|refine Rf.mk rfl ?_|refine xA ?_|refine xB ?_|refine yu.r rfl ?_|refine Im.mk λ_=>?_|refine yc.mk λ_=>?_|refine xT ?_|refine xI ?_|refine Ch.l ⟨rfl,rfl⟩ ?_|(apply y4.r;focus repeat' constructor)|refine xN ?_|refine xD ?_|refine xO ?_|(apply Cl.p (bt);focus repeat' constructor))
    exact PA.lp 1 xE ⟨⟨yd,yg hp hd ⟨g1,g2,g3,g4,g5⟩⟩,z6⟩
   ·obtain⟨k,rfl⟩:∃k,i=k+1:=⟨i - 1,z6⟩
    obtain⟨q,hq⟩:=zz (l:=x.delta) (i:=k) z6
    have hqp:=g5 q h0 hq
    repeat'(first|apply Sp.h|refine Lk.r rfl ?_|refine Rf.mk rfl ?_|refine xA ?_|refine xB ?_|refine yu.r rfl ?_|refine Im.mk λ_=>?_|refine yc.mk λ_=>?_|refine xT ?_|refine xI ?_|(apply Ix.r;{exact z8};{exact z6})|refine Ch.l ⟨rfl,rfl⟩ ?_|(apply y4.r;focus repeat' constructor)|refine xN ?_|refine xD ?_|refine xO ?_|(apply Cl.p (bt);focus repeat' constructor))
    exact PA.lp (k+1+1) xE ⟨⟨yd,yg hp hd ⟨g1,g2,g3,g4,g5⟩⟩,z6⟩
  ·have yD:¬qb m x:=λh=>hT ((wQ.1 h).1 i p hp)
   rcases Nat.eq_zero_or_pos i with h0|h0
   ·subst h0
    repeat'(first|apply Sp.h|refine Lk.r rfl ?_|refine Rf.mk rfl ?_|refine xA ?_|refine xB ?_|(refine Bd.mk ?_ ?_ <;> intro _)|refine yu.r rfl ?_|refine Im.mk λ_=>?_|refine yc.mk λ_=>?_|refine xT ?_|refine xI ?_|refine Ch.l ⟨rfl,rfl⟩ ?_|(apply y4.r;focus repeat' constructor)|refine xN ?_|refine xD ?_|refine xO ?_|(apply Cl.p (bt);focus repeat' constructor))
    all_goals first
     | exact Fin.p rfl (vb (zF yD).symm)
     | exact(hT ⟨z6,z6,z6,z6,λq h=>z6⟩).elim
   ·obtain⟨k,rfl⟩:∃k,i=k+1:=⟨i - 1,z6⟩
    obtain⟨q,hq⟩:=zz (l:=x.delta) (i:=k) z6
    repeat'(first|apply Sp.h|refine Lk.r rfl ?_|refine Rf.mk rfl ?_|refine xA ?_|refine xB ?_|(refine Bd.mk ?_ ?_ <;> intro _)|refine yu.r rfl ?_|refine Im.mk λ_=>?_|refine yc.mk λ_=>?_|refine xT ?_|refine xI ?_|(apply Ix.r;{exact z8};{exact z6})|refine Ch.l ⟨rfl,rfl⟩ ?_|(apply y4.r;focus repeat' constructor)|refine xN ?_|refine xD ?_|refine xO ?_|(apply Cl.p (bt);focus repeat' constructor))
    all_goals first
     | exact Fin.p rfl (vb (zF yD).symm)
     | exact(hT ⟨z6,z6,z6,z6,λq' _ h=>by rw [show k+1 - 1=k by omega,hq] at h;cases h;omega⟩).elim
 have:i=x.delta.length:=z6
 subst this
 have hd:=xc hd
 repeat'(first|apply Sp.h|refine Lk.r rfl ?_|refine Rf.mk rfl ?_|refine xB ?_|apply Im.mk|refine xT ?_|intro _)
 refine CA.loop (λi:Nat=>⟨[(2,pm b2),(3,pm b3),(5,it (rs.length:Nat)),(8,it i)],[yr b3 140 (il x),yr b2 30 (s_ m)]⟩) (λi=>i<=x.hold.length/\∀(j:Nat) (r:sU),j < i->x.hold[j]?=some r->rJ rs.length r) (λi=>x.hold.length - i) 0 xE ⟨zZ _,λj p h=>z6⟩ ?_
 rintro i ⟨hi,hh⟩
 by_cases yd:i < x.hold.length
 ·obtain⟨r,hr⟩:=zz yd
  have tN:=M4 r (rs.length:Nat)
  by_cases hT:rJ rs.length r
  ·repeat'(first|apply Sp.h|refine Lk.r rfl ?_|refine Rf.mk rfl ?_|refine xA ?_|refine Im.mk λ_=>?_|refine xT ?_|refine xI ?_|refine Ch.l ⟨rfl,rfl⟩ ?_|refine xO ?_|(apply Cl.p (tN);focus repeat' constructor))
   exact PA.lp (i+1) xE ⟨⟨yd,yg hr hh hT⟩,z6⟩
  ·repeat'(first|apply Sp.h|refine Lk.r rfl ?_|refine Rf.mk rfl ?_|refine xA ?_|refine xB ?_|refine Im.mk λ_=>?_|refine xT ?_|refine xI ?_|refine Ch.l ⟨rfl,rfl⟩ ?_|refine xN ?_|(apply Cl.p (tN);focus repeat' constructor))
   exact Fin.p rfl (vb (zF λh=>hT ((wQ.1 h).2.1 i r hr)).symm)
 have:i=x.hold.length:=z6
 subst this
 have hh:=xc hh
 repeat'(first|apply Sp.h|refine Lk.r rfl ?_|refine Rf.mk rfl ?_|refine xB ?_|apply Im.mk|refine xT ?_|intro _)
 refine CA.loop (λi:Nat=>⟨[(2,pm b2),(3,pm b3),(9,it i)],[yr b3 140 (il x),yr b2 30 (s_ m)]⟩) (λi=>i<=x.yk.length/\∀j p,j < i->x.yk[j]?=some p->iu m x.yk j p) (λi=>x.yk.length - i) 0 xE ⟨zZ _,λj p h=>z6⟩ ?_
 rintro i ⟨hi,mM⟩
 by_cases yd:i < x.yk.length
 ·obtain⟨⟨uk,uc,uv⟩,Sy⟩:=zz yd
  have Zm:=ZW m.y9 m.tables false uc (hu _ (zM Sy))
  have yD:¬iu m x.yk i (uk,uc,uv)->¬qb m x:=λhT h=>hT ((wQ.1 h).2.2.1 i _ Sy)
  cases SZ:uS m.y9 m.tables false uc with
  | none =>
   rw [SZ,X6] at Zm
   have hT:¬iu m x.yk i (uk,uc,uv):=by
    rintro⟨⟨ti,q,t,h,-⟩,-⟩
    simp only [SZ] at h
    cases h
   repeat'(first|apply Sp.h|refine Lk.r rfl ?_|refine Rf.mk rfl ?_|refine xA ?_|refine xB ?_|refine yu.r rfl ?_|refine Im.mk λ_=>?_|refine yc.mk λ_=>?_|refine xT ?_|refine xI ?_|refine Ch.l ⟨rfl,rfl⟩ ?_|(apply y4.r;focus repeat' constructor)|refine xN ?_|refine xD ?_|(apply Cl.p (Zm);focus repeat' constructor))
   exact Fin.p rfl (vb (zF (yD hT)).symm)
  | some tq =>
   obtain⟨ti,tq⟩:=tq
   rw [SZ,X6] at Zm
   obtain⟨t,ht⟩:=ZZ SZ
   have xC:=(zS.1 ht).1
   have Gt:iu m x.yk i (uk,uc,uv)↔eS t uk uv/\∀q,0 < i->x.yk[i - 1]?=some q->q.2.1 < uc:=by
    constructor
    ·rintro⟨⟨ti',q',t',h1,h2,h3⟩,h4⟩
     simp only [SZ] at h1
     cases h1
     rw [ht] at h2;cases h2
     exact⟨h3,h4⟩
    ·rintro⟨h1,h2⟩
     exact⟨⟨ti,tq,t,SZ,ht,h1⟩,h2⟩
   rcases Nat.eq_zero_or_pos i with h0|h0
   ·subst h0
    by_cases hT:eS t uk uv
    ·have vu:=yg Sy mM (Gt.2 ⟨hT,λq h=>z6⟩)
     by_cases yL:uz t.kind
     ·obtain⟨g1,g2⟩:=hT.1 yL
      repeat'(first|apply Sp.h|refine Lk.r rfl ?_|refine Rf.mk rfl ?_|refine xA ?_|refine xB ?_|(refine Bd.mk ?_ ?_ <;> intro _)|refine yu.r rfl ?_|refine Im.mk λ_=>?_|refine yc.mk λ_=>?_|refine xT ?_|refine xI ?_|refine Ch.l ⟨rfl,rfl⟩ ?_|(apply y4.r;focus repeat' constructor)|refine xN ?_|refine xD ?_|refine xO ?_|(apply Cl.p (Zm);focus repeat' constructor)|(apply Cl.p (sF _);focus repeat' constructor))
      all_goals first
       | exact PA.lp 1 xE ⟨⟨yd,vu⟩,z6⟩
       | exact absurd yL z8
       | exact(by omega:False).elim
     ·obtain⟨g1,g2,g3⟩:=hT.2 yL
      repeat'(first|apply Sp.h|refine Lk.r rfl ?_|refine Rf.mk rfl ?_|refine xA ?_|refine xB ?_|refine yu.r rfl ?_|refine Im.mk λ_=>?_|refine yc.mk λ_=>?_|refine xT ?_|refine xI ?_|refine Ch.l ⟨rfl,rfl⟩ ?_|(apply y4.r;focus repeat' constructor)|refine xN ?_|refine xD ?_|refine xO ?_|(apply Cl.p (Zm);focus repeat' constructor)|(apply Cl.p (sF _);focus repeat' constructor))
      all_goals first
       | exact PA.lp 1 xE ⟨⟨yd,vu⟩,z6⟩
       | exact absurd z8 yL
       | exact(by omega:False).elim
    ·have yD:=yD λh=>hT (Gt.1 h).1
     by_cases yL:uz t.kind
     ·repeat'(first|apply Sp.h|refine Lk.r rfl ?_|refine Rf.mk rfl ?_|refine xA ?_|refine xB ?_|(refine Bd.mk ?_ ?_ <;> intro _)|refine yu.r rfl ?_|refine Im.mk λ_=>?_|refine yc.mk λ_=>?_|refine xT ?_|refine xI ?_|refine Ch.l ⟨rfl,rfl⟩ ?_|(apply y4.r;focus repeat' constructor)|refine xN ?_|refine xD ?_|refine xO ?_|(apply Cl.p (Zm);focus repeat' constructor)|(apply Cl.p (sF _);focus repeat' constructor))
      all_goals first
       | exact Fin.p rfl (vb (zF yD).symm)
       | exact absurd yL z8
       | exact(hT ⟨λ_=>⟨z6,z6⟩,λh=>absurd yL h⟩).elim
     ·repeat'(first|apply Sp.h|refine Lk.r rfl ?_|refine Rf.mk rfl ?_|refine xA ?_|refine xB ?_|(refine Bd.mk ?_ ?_ <;> intro _)|refine yu.r rfl ?_|refine Im.mk λ_=>?_|refine yc.mk λ_=>?_|refine xT ?_|refine xI ?_|refine Ch.l ⟨rfl,rfl⟩ ?_|(apply y4.r;focus repeat' constructor)|refine xN ?_|refine xD ?_|refine xO ?_|(apply Cl.p (Zm);focus repeat' constructor)|(apply Cl.p (sF _);focus repeat' constructor))
      all_goals first
       | exact Fin.p rfl (vb (zF yD).symm)
       | exact absurd z8 yL
       | exact(hT ⟨λh=>absurd h yL,λ_=>⟨z6,z6,z6⟩⟩).elim
   ·obtain⟨k,rfl⟩:∃k,i=k+1:=⟨i - 1,z6⟩
    obtain⟨⟨wk,wc,wv⟩,hw⟩:=zz (l:=x.yk) (i:=k) z6
    by_cases hT:eS t uk uv/\wc < uc
    ·obtain⟨hT,hwu⟩:=hT
     have vu:=yg Sy mM (Gt.2 ⟨hT,λq _ h=>by rw [show k+1 - 1=k by omega,hw] at h;cases h;exact hwu⟩)
     by_cases yL:uz t.kind
     ·obtain⟨g1,g2⟩:=hT.1 yL
      repeat'(first|apply Sp.h|refine Lk.r rfl ?_|refine Rf.mk rfl ?_|refine xA ?_|refine xB ?_|(refine Bd.mk ?_ ?_ <;> intro _)|refine yu.r rfl ?_|refine Im.mk λ_=>?_|refine yc.mk λ_=>?_|refine xT ?_|refine xI ?_|(apply Ix.r;{exact z8};{exact z6})|refine Ch.l ⟨rfl,rfl⟩ ?_|(apply y4.r;focus repeat' constructor)|refine xN ?_|refine xD ?_|refine xO ?_|(apply Cl.p (Zm);focus repeat' constructor)|(apply Cl.p (sF _);focus repeat' constructor))
      all_goals first
       | exact PA.lp (k+1+1) xE ⟨⟨yd,vu⟩,z6⟩
       | exact absurd yL z8
       | exact(by omega:False).elim
     ·obtain⟨g1,g2,g3⟩:=hT.2 yL
      repeat'(first|apply Sp.h|refine Lk.r rfl ?_|refine Rf.mk rfl ?_|refine xA ?_|refine xB ?_|refine yu.r rfl ?_|refine Im.mk λ_=>?_|refine yc.mk λ_=>?_|refine xT ?_|refine xI ?_|(apply Ix.r;{exact z8};{exact z6})|refine Ch.l ⟨rfl,rfl⟩ ?_|(apply y4.r;focus repeat' constructor)|refine xN ?_|refine xD ?_|refine xO ?_|(apply Cl.p (Zm);focus repeat' constructor)|(apply Cl.p (sF _);focus repeat' constructor))
      all_goals first
       | exact PA.lp (k+1+1) xE ⟨⟨yd,vu⟩,z6⟩
       | exact absurd z8 yL
       | exact(by omega:False).elim
    ·have yD:=yD λh=>hT ⟨(Gt.1 h).1,(Gt.1 h).2 _ h0 (by rw [show k+1 - 1=k by omega];exact hw)⟩
     by_cases yL:uz t.kind
     ·repeat'(first|apply Sp.h|refine Lk.r rfl ?_|refine Rf.mk rfl ?_|refine xA ?_|refine xB ?_|(refine Bd.mk ?_ ?_ <;> intro _)|refine yu.r rfl ?_|refine Im.mk λ_=>?_|refine yc.mk λ_=>?_|refine xT ?_|refine xI ?_|(apply Ix.r;{exact z8};{exact z6})|refine Ch.l ⟨rfl,rfl⟩ ?_|(apply y4.r;focus repeat' constructor)|refine xN ?_|refine xD ?_|refine xO ?_|(apply Cl.p (Zm);focus repeat' constructor)|(apply Cl.p (sF _);focus repeat' constructor))
      all_goals first
       | exact Fin.p rfl (vb (zF yD).symm)
       | exact absurd yL z8
       | exact(hT ⟨⟨λ_=>⟨z6,z6⟩,λh=>absurd yL h⟩,z6⟩).elim
     ·repeat'(first|apply Sp.h|refine Lk.r rfl ?_|refine Rf.mk rfl ?_|refine xA ?_|refine xB ?_|(refine Bd.mk ?_ ?_ <;> intro _)|refine yu.r rfl ?_|refine Im.mk λ_=>?_|refine yc.mk λ_=>?_|refine xT ?_|refine xI ?_|(apply Ix.r;{exact z8};{exact z6})|refine Ch.l ⟨rfl,rfl⟩ ?_|(apply y4.r;focus repeat' constructor)|refine xN ?_|refine xD ?_|refine xO ?_|(apply Cl.p (Zm);focus repeat' constructor)|(apply Cl.p (sF _);focus repeat' constructor))
      all_goals first
       | exact Fin.p rfl (vb (zF yD).symm)
       | exact absurd z8 yL
       | exact(hT ⟨⟨λh=>absurd h yL,λ_=>⟨z6,z6,z6⟩⟩,z6⟩).elim
 have:i=x.yk.length:=z6
 subst this
 have mM:=xc mM
 repeat'(first|apply Sp.h|refine Lk.r rfl ?_|refine Rf.mk rfl ?_|refine xA ?_|refine xB ?_|apply Bd.mk|apply Im.mk|refine xT ?_|refine xN ?_|intro _)
 ·rename_i h
  refine Fin.p rfl (vb ?_)
  by_cases h9:x.yk.length<=32
  ·rw [zT (show qb m x from wQ.2 ⟨hd,hh,mM,z6,h9⟩)]
   exact zT z6
  ·rw [zF λh8:qb m x=>h9 h8.ul]
   exact zF z6
 ·rename_i h
  exact Fin.p rfl (vb (zF λh8:qb m x=>h (by have:=h8.hl;omega)).symm)
def lexB:List Int->List Int->Bool
 | [],[]=>false
 | [],_ :: _=>true
 | _ :: _,[]=>false
 | x :: a,y :: b=>if x=y then lexB a b else decide (x < y)
theorem Ij(a b:List Int):y6 Tryz.prog 122 [ints a,ints b] (.val (.bool (lexB a b))):=by
 refine zy.of pg I4 Tryz.func122 rfl Tryz.ntmps122 Tryz.results122 rfl λh0 G0 O0=>?_
 repeat'(first|apply Sp.h|refine Lk.r rfl ?_|refine Rf.mk rfl ?_|fail)
 refine CA.loop (λi:Nat=>⟨[(0,ints a),(1,ints b),(5,it i)],[]⟩) (λi=>i<=a.length/\i<=b.length/\lexB (a.drop i) (b.drop i)=lexB a b) (λi=>a.length - i) 0 xE ⟨zZ _,zZ _,rfl⟩ ?_
 rintro i ⟨nV,pU,he⟩
 by_cases ha:i < a.length
 ·obtain⟨x,hx⟩:=zz ha
  rw [List.drop_eq_getElem_cons ha,(zS.1 hx).2] at he
  by_cases hb:i < b.length
  ·obtain⟨y,hy⟩:=zz hb
   rw [List.drop_eq_getElem_cons hb,(zS.1 hy).2,lexB] at he
   by_cases pS:x=y
   ·rw [if_pos pS] at he
    repeat'(first|apply Sp.h|refine Lk.r rfl ?_|refine Rf.mk rfl ?_|refine xA ?_|refine yu.r rfl ?_|apply Im.mk|refine xI ?_|refine xD ?_|refine xO ?_|intro _)
    all_goals first
     | exact PA.lp (i+1) xE ⟨⟨ha,hb,he⟩,z6⟩
     | exact(by omega:False).elim
   ·rw [if_neg pS] at he
    repeat'(first|apply Sp.h|refine Lk.r rfl ?_|refine Rf.mk rfl ?_|refine xA ?_|refine xB ?_|refine yu.r rfl ?_|apply Im.mk|refine xI ?_|refine xN ?_|refine xD ?_|intro _)
    all_goals first
     | exact Fin.p rfl (vb he)
     | exact(by omega:False).elim
  ·rw [List.drop_of_length_le (l:=b) z6,lexB] at he
   repeat'(first|apply Sp.h|refine Lk.r rfl ?_|refine Rf.mk rfl ?_|refine xA ?_|refine xB ?_|apply Im.mk|refine xN ?_|intro _)
   exact Fin.p rfl (vb (by rw [<-he];exact zF z6))
 ·rw [List.drop_of_length_le (l:=a) z6] at he
  by_cases hb:i < b.length
  ·rw [List.drop_eq_getElem_cons hb,lexB] at he
   repeat'(first|apply Sp.h|refine Lk.r rfl ?_|refine Rf.mk rfl ?_|refine xB ?_|apply Im.mk|refine xN ?_|intro _)
   exact Fin.p rfl (vb (by rw [<-he];exact zT z6))
  ·rw [List.drop_of_length_le (l:=b) z6,lexB] at he
   repeat'(first|apply Sp.h|refine Lk.r rfl ?_|refine Rf.mk rfl ?_|refine xB ?_|apply Im.mk|refine xN ?_|intro _)
   exact Fin.p rfl (vb (by rw [<-he];exact zF z6))
def RM(m:y8)(o:mQ):Prop:=∀(k:Nat) (s:Int),o.y9[k]?=some s-> -1<=s/\s < m.y9.length
structure lG (m:y8):Prop where
 s:∀(i:Nat) (o:mQ),m.ops[i]?=some o->RM m o/\o.y9.length<=3
 l:m.ops.length<=8
 d:o6 (m.ops.map mQ.name)
def Xo(m:y8)(s x:Int):Prop:=(s < 0-> -9999<=x/\x<=9999)/\(0<=s->0<=x/\∃y,m.y9[s.toNat]?=some y/\x < y)
structure fB (m:y8) (i:Nat) (a:e_):Prop where
 o:∃j:Nat,a.op=(j:Int)/\∃o,m.ops[j]?=some o/\a.args.length=o.y9.length/\∀(k:Nat) (x s:Int),a.args[k]?=some x->o.y9[k]?=some s->Xo m s x
 b:∀b,0 < i->m.yP[i - 1]?=some b->b.op < a.op∨(b.op=a.op/\lexB b.args a.args=true)
 e:qb m a.xu
structure qv (m:y8):Prop where
 o:lG m
 l:m.yP.length<=256
 a:∀(i:Nat) (a:e_),m.yP[i]?=some a->fB m i a
noncomputable instance (m:y8):Decidable (qv m):=zC _
def xl(m:y8):Prop:=∀a∈m.yP,VS a.xu
theorem WH(m:y8)(wU:m.ops.length<=1000000000)(vL:xl m):y6 Tryz.prog 54 [wH m] (.val (.bool (decide (qv m)))):=by
 have hd:=jD (m.ops.map mQ.name)
 refine zy.of pg EG Tryz.func54 rfl Tryz.ntmps54 Tryz.results54 rfl λh0 G0 O0=>?_
 repeat'(first|apply Sp.h|refine Lk.r rfl ?_|refine Rf.mk rfl ?_|apply yc.mk|(apply Fk.r;focus repeat' first|infer_instance|constructor)|refine Rf.mk ⟨rfl,rfl,rfl⟩ ?_|intro _)
 rename_i b1 v
 apply CA.yR (m:=([]:List ByteArray)) (g:=ur)
 focus(repeat constructor)
 focus rfl
 refine CA.loop (λx:Nat×Value=>⟨[(1,pm b1),(3,.ow x.2),(4,it x.1)],[mR b1 m,yb x.2 9 1 ((m.ops.take x.1).map mQ.name) ur]⟩) (λx=>x.1<=m.ops.length/\x.1<=1000000000/\∀j o,j < x.1->m.ops[j]?=some o->RM m o/\o.y9.length<=3) (λx=>m.ops.length - x.1) (0,v) xE ⟨zZ _,by simp,λj o h=>by simp at h⟩ ?_
 rintro⟨i,v⟩ ⟨hi,hib,qY⟩
 simp only at hi hib qY
 simp only
 have jQ:((m.ops.take i).map mQ.name).length=i:=by rw [List.length_map,zN];omega
 by_cases yd:i < m.ops.length
 ·obtain⟨o,ho⟩:=zz yd
  have Lq:i < 1000000000:=z6
  have bE:(m.ops.take (i+1)).map mQ.name=(m.ops.take i).map mQ.name ++ [o.name]:=by rw [zK,ho,List.map_append];rfl
  generalize hgn:(m.ops.take i).map mQ.name=names at jQ bE ⊢
  repeat'(first|apply Sp.h|refine Lk.r rfl ?_|refine Rf.mk rfl ?_|refine xA ?_|refine xP ?_|apply Im.mk|apply yc.mk|refine xU ?_|refine xT ?_|refine xI ?_|refine Ce.r ?_|refine Ch.l ⟨rfl,rfl⟩ ?_|(apply y4.r;focus repeat' constructor)|(apply Fk.r;focus repeat' first|infer_instance|constructor)|refine xN ?_|refine Rf.mk ⟨rfl,rfl⟩ ?_|refine Rf.mk ⟨rfl,rfl,rfl⟩ ?_|(apply Mp.lit;(focus repeat(first|exact yK.nil|(apply yK.cons;{exact zu})|(apply yK.inv;{exact z1};{exact zh}))))|intro _)
  rename_i b5 _ v2
  refine CA.loop (λk:Nat=>⟨[(1,pm b1),(3,.ow v2),(4,it i),(5,pm b5),(6,it k)],[mR b1 m,yb v2 9 1 (names ++ [o.name]) ur,yr b5 174 (PM o)]⟩) (λk=>k<=o.y9.length/\∀j s,j < k->o.y9[j]?=some s-> -1<=s/\s < m.y9.length) (λk=>o.y9.length - k) 0 xE ⟨zZ _,λj s h=>z6⟩ ?_
  rintro k ⟨hk,Ca⟩
  by_cases rz:k < o.y9.length
  ·obtain⟨s,hs⟩:=zz rz
   repeat'(first|apply Sp.h|refine Lk.r rfl ?_|refine Rf.mk rfl ?_|refine xA ?_|refine xB ?_|apply Bd.mk|refine yu.r rfl ?_|apply Im.mk|refine xT ?_|refine xI ?_|refine xN ?_|refine xD ?_|refine xO ?_|intro _)
   all_goals first
    | exact Fin.p rfl (vb (zF λh:qv m=>by have:=(h.o.s i o ho).1 k s hs;omega).symm)
    | exact PA.lp (k+1) xE ⟨⟨rz,yg hs Ca ⟨z6,z6⟩⟩,z6⟩
  ·have:k=o.y9.length:=z6
   subst this
   have Ca:=xc Ca
   repeat'(first|apply Sp.h|refine Lk.r rfl ?_|refine Rf.mk rfl ?_|refine xB ?_|apply Bd.mk|apply Im.mk|refine xT ?_|refine xN ?_|refine xO ?_|intro _)
   ·exact Fin.p rfl (vb (zF λh:qv m=>by have:=(h.o.s i o ho).2;omega).symm)
   ·refine PA.lp (i+1,v2) ?_ ⟨⟨yd,by simp only;omega,yg ho qY ⟨Ca,z6⟩⟩,by simp only;omega⟩
    simp only
    rw [bE]
    exact xE
 have vk:i=m.ops.length:=z6
 subst vk
 have qY:=xc qY
 rw [zL]
 rw [zL] at jQ
 by_cases Gg:m.ops.length<=8
 rotate_left
 ·generalize m.ops.map mQ.name=names at hd ⊢
  repeat'(first|apply Sp.h|refine Lk.r rfl ?_|refine Rf.mk rfl ?_|refine xA ?_|refine xB ?_|apply Im.mk|refine xT ?_|refine xN ?_|intro _)
  exact Fin.p rfl (vb (zF λh:qv m=>Gg h.o.l).symm)
 by_cases Cf:o6 (m.ops.map mQ.name)
 rotate_left
 ·have yD:¬qv m:=λh=>Cf h.o.d
  generalize m.ops.map mQ.name=names at hd jQ Cf ⊢
  repeat'(first|apply Sp.h|refine Lk.r rfl ?_|refine Rf.mk rfl ?_|refine xB ?_|apply Im.mk|refine xT ?_|intro _)
  (apply Cl.fz;(focus repeat'(first|exact FZ.nil|(apply FZ.fz;{exact z1};{exact zq})|apply FZ.agg|apply FZ.same)))
  refine xQ (hd) ?_
  repeat'(first|apply Sp.h|refine Lk.r rfl ?_|refine Rf.mk rfl ?_|refine xB ?_|refine xN ?_|fail)
  exact Fin.p rfl (vb (zF yD).symm)
 have fh:lG m:=⟨qY,Gg,Cf⟩
 generalize m.ops.map mQ.name=names at hd jQ Cf ⊢
 repeat'(first|apply Sp.h|refine Lk.r rfl ?_|refine Rf.mk rfl ?_|refine xB ?_|apply Im.mk|refine xT ?_|intro _)
 (apply Cl.fz;(focus repeat'(first|exact FZ.nil|(apply FZ.fz;{exact z1};{exact zq})|apply FZ.agg|apply FZ.same)))
 refine xQ (hd) ?_
 by_cases rZ:m.yP.length<=256
 rotate_left
 ·repeat'(first|apply Sp.h|refine Lk.r rfl ?_|refine Rf.mk rfl ?_|refine xA ?_|refine xB ?_|apply Im.mk|refine xT ?_|refine xN ?_|intro _)
  exact Fin.p rfl (vb (zF λh:qv m=>rZ h.l).symm)
 repeat'(first|apply Sp.h|refine Lk.r rfl ?_|refine Rf.mk rfl ?_|refine xA ?_|refine xB ?_|apply Im.mk|refine xT ?_|intro _)
 refine CA.loop (λi:Nat=>⟨[(1,pm b1),(7,it i)],[mR b1 m]⟩) (λi=>i<=m.yP.length/\∀j a,j < i->m.yP[j]?=some a->fB m j a) (λi=>m.yP.length - i) 0 xE ⟨zZ _,λj a h=>z6⟩ ?_
 rintro i ⟨hi,MS⟩
 by_cases yd:i < m.yP.length
 ·obtain⟨a,ha⟩:=zz yd
  have yD:¬fB m i a->¬qv m:=λh h2=>h (h2.a i a ha)
  by_cases hb:0<=a.op/\a.op < m.ops.length
  rotate_left
  ·have yD:=yD λh=>hb (by obtain⟨j,h1,o,h2,-⟩:=h.o;have:=(zS.1 h2).1;omega)
   repeat'(first|apply Sp.h|refine Lk.r rfl ?_|refine Rf.mk rfl ?_|refine xA ?_|refine xB ?_|apply Bd.mk|refine yu.r rfl ?_|apply Im.mk|apply yc.mk|refine xT ?_|refine xI ?_|refine Ch.l ⟨rfl,rfl⟩ ?_|(apply y4.r;focus repeat' constructor)|refine xN ?_|refine xD ?_|intro _)
   all_goals first
    | exact Fin.p rfl (vb (zF yD).symm)
    | exact(hb ⟨z6,z6⟩).elim
  obtain⟨j,hj⟩:=Int.eq_ofNat_of_zero_le hb.1
  obtain⟨o,ho⟩:=zz (l:=m.ops) (i:=j) z6
  have B1:=(qY j o ho).1
  have Bc:0<=a.op:=hb.1
  have hj1:a.op < m.ops.length:=hb.2
  clear hb
  have HA:fB m i a->a.args.length=o.y9.length/\∀(k:Nat) (x s:Int),a.args[k]?=some x->o.y9[k]?=some s->Xo m s x:=by
   intro h
   obtain⟨j',h1,o',h2,h3⟩:=h.o
   obtain rfl:j=j':=z6
   rw [ho] at h2;cases h2
   exact h3
  by_cases hlen:a.args.length=o.y9.length
  rotate_left
  ·have yD:=yD λh=>hlen (HA h).1
   repeat'(first|apply Sp.h|refine Lk.r rfl ?_|refine Rf.mk rfl ?_|refine xA ?_|refine xB ?_|refine yu.r rfl ?_|apply Im.mk|apply yc.mk|refine xT ?_|refine xI ?_|(apply Ix.r;{exact z8};{exact z6})|refine Ch.l ⟨rfl,rfl⟩ ?_|(apply y4.r;focus repeat' constructor)|refine xN ?_|refine xD ?_|intro _)
   all_goals exact Fin.p rfl (vb (zF yD).symm)
  repeat'(first|apply Sp.h|refine Lk.r rfl ?_|refine Rf.mk rfl ?_|refine xA ?_|refine xB ?_|refine yu.r rfl ?_|apply Im.mk|apply yc.mk|refine xT ?_|refine xI ?_|(apply Ix.r;{exact z8};{exact z6})|refine Ch.l ⟨rfl,rfl⟩ ?_|(apply y4.r;focus repeat' constructor)|refine xN ?_|refine xD ?_|intro _)
  rename_i b8 _ _ _
  refine CA.loop (λk:Nat=>⟨[(1,pm b1),(7,it i),(8,pm b8),(9,it k)],[mR b1 m,yr b8 142 (iq a)]⟩) (λk=>k<=a.args.length/\∀q x,q < k->a.args[q]?=some x->∀s,o.y9[q]?=some s->Xo m s x) (λk=>a.args.length - k) 0 xE ⟨zZ _,λq x h=>z6⟩ ?_
  rintro k ⟨hk,bn⟩
  by_cases rz:k < a.args.length
  ·obtain⟨x,hx⟩:=zz rz
   obtain⟨s,hs⟩:=zz (l:=o.y9) (i:=k) z6
   obtain⟨nP,bf⟩:=B1 k s hs
   have YW:=sL x 9999 z6
   by_cases hA:Xo m s x
   ·have vu:=yg hx bn λs' h=>by rw [hs] at h;cases h;exact hA
    by_cases MK:s < 0
    ·have MX:=hA.1 MK
     repeat'(first|apply Sp.h|refine Lk.r rfl ?_|refine Rf.mk rfl ?_|refine xA ?_|refine xB ?_|refine yu.r rfl ?_|refine Im.mk λ_=>?_|refine xT ?_|refine xI ?_|(apply Ix.r;{exact z8};{exact z6})|refine xD ?_|refine xO ?_|(apply Cl.p (YW);focus repeat' constructor))
     all_goals first
      | exact PA.lp (k+1) xE ⟨⟨rz,vu⟩,z6⟩
      | exact absurd MX z8
    ·obtain⟨MX,y,hy,HB⟩:=hA.2 z6
     obtain⟨q,rfl⟩:=Int.eq_ofNat_of_zero_le (show 0<=s by omega)
     rw [Int.toNat_natCast] at hy
     repeat'(first|apply Sp.h|refine Lk.r rfl ?_|refine Rf.mk rfl ?_|refine xA ?_|refine xB ?_|refine yu.r rfl ?_|refine Im.mk λ_=>?_|refine xT ?_|refine xI ?_|(apply Ix.r;{exact z8};{exact z6})|refine xD ?_|refine xO ?_|(apply Cl.p (YW);(focus repeat'(first|fail))))
     all_goals first
      | exact PA.lp (k+1) xE ⟨⟨rz,vu⟩,z6⟩
      | exact(by omega:False).elim
   ·have yD:=yD λh=>hA ((HA h).2 k x s hx hs)
    by_cases MK:s < 0
    ·repeat'(first|apply Sp.h|refine Lk.r rfl ?_|refine Rf.mk rfl ?_|refine xA ?_|refine xB ?_|(refine Bd.mk ?_ ?_ <;> intro _)|refine yu.r rfl ?_|refine Im.mk λ_=>?_|refine xT ?_|refine xI ?_|(apply Ix.r;{exact z8};{exact z6})|refine xN ?_|refine xD ?_|refine xO ?_|(apply Cl.p (YW);focus repeat' constructor))
     all_goals first
      | exact Fin.p rfl (vb (zF yD).symm)
      | exact(hA ⟨λ_=>by assumption,λh=>z6⟩).elim
    ·obtain⟨q,rfl⟩:=Int.eq_ofNat_of_zero_le (show 0<=s by omega)
     obtain⟨y,hy⟩:=zz (l:=m.y9) (i:=q) z6
     repeat'(first|apply Sp.h|refine Lk.r rfl ?_|refine Rf.mk rfl ?_|refine xA ?_|refine xB ?_|(refine Bd.mk ?_ ?_ <;> intro _)|refine yu.r rfl ?_|refine Im.mk λ_=>?_|refine xT ?_|refine xI ?_|(apply Ix.r;{exact z8};{exact z6})|refine xN ?_|refine xD ?_|refine xO ?_|(apply Cl.p (YW);(focus repeat'(first|fail))))
     all_goals first
      | exact Fin.p rfl (vb (zF yD).symm)
      | exact(hA ⟨λh=>z6,λ_=>⟨z6,y,by rw [Int.toNat_natCast];exact hy,z6⟩⟩).elim
  ·have mO:k=a.args.length:=z6
   subst mO
   have bn:=xc bn
   have Zw:=TP m a.xu (vL a (zM ha))
   have kF:(∀b,0 < i->m.yP[i - 1]?=some b->b.op < a.op∨(b.op=a.op/\lexB b.args a.args=true))->qb m a.xu->fB m i a:=λh1 h2=>⟨⟨j,hj,o,ho,hlen,λk x s h3 h4=>bn k x h3 s h4⟩,h1,h2⟩
   rcases Nat.eq_zero_or_pos i with h0|h0
   ·subst h0
    by_cases hE:qb m a.xu
    ·have vu:=yg ha MS (kF (λb h=>z6) hE)
     repeat'(first|apply Sp.h|refine Lk.r rfl ?_|refine Rf.mk rfl ?_|refine xA ?_|refine xB ?_|refine Im.mk λ_=>?_|refine xT ?_|refine Ch.l ⟨rfl,rfl⟩ ?_|refine Ch.r ?_|refine xO ?_|(apply Cl.p (Zw);focus repeat' constructor))
     exact PA.lp 1 xE ⟨⟨yd,vu⟩,z6⟩
    ·have yD:=yD λh=>hE h.e
     repeat'(first|apply Sp.h|refine Lk.r rfl ?_|refine Rf.mk rfl ?_|refine xB ?_|refine Im.mk λ_=>?_|refine xT ?_|refine Ch.l ⟨rfl,rfl⟩ ?_|refine Ch.r ?_|refine xN ?_|(apply Cl.p (Zw);focus repeat' constructor))
     exact Fin.p rfl (vb (zF yD).symm)
   ·obtain⟨q,rfl⟩:∃q,i=q+1:=⟨i - 1,z6⟩
    obtain⟨b,Hz⟩:=zz (l:=m.yP) (i:=q) z6
    have ey:=Ij b.args a.args
    by_cases hL:b.op < a.op∨(b.op=a.op/\lexB b.args a.args=true)
    ·by_cases hE:qb m a.xu
     ·have vu:=yg ha MS (kF (λb' _ h=>by rw [show q+1 - 1=q by omega,Hz] at h;cases h;exact hL) hE)
      rcases hL with hL|⟨MV,iJ⟩
      ·repeat'(first|apply Sp.h|refine Lk.r rfl ?_|refine Rf.mk rfl ?_|refine xA ?_|refine xB ?_|refine Im.mk λ_=>?_|refine yc.mk λ_=>?_|refine xT ?_|(apply Ix.r;{exact z8};{exact z6})|refine Ch.l ⟨rfl,rfl⟩ ?_|refine Ch.r ?_|(apply y4.r;focus repeat' constructor)|refine xN ?_|refine xO ?_|(apply Cl.p (ey);focus repeat' constructor)|(apply Cl.p (Zw);focus repeat' constructor))
       all_goals first
        | exact PA.lp (q+1+1) xE ⟨⟨yd,vu⟩,z6⟩
        | exact(by omega:False).elim
      ·rw [iJ] at ey
       repeat'(first|apply Sp.h|refine Lk.r rfl ?_|refine Rf.mk rfl ?_|refine xA ?_|refine xB ?_|refine Im.mk λ_=>?_|refine yc.mk λ_=>?_|refine xT ?_|(apply Ix.r;{exact z8};{exact z6})|refine Ch.l ⟨rfl,rfl⟩ ?_|refine Ch.r ?_|(apply y4.r;focus repeat' constructor)|refine xN ?_|refine xO ?_|(apply Cl.p (ey);focus repeat' constructor)|(apply Cl.p (Zw);focus repeat' constructor))
       all_goals first
        | exact PA.lp (q+1+1) xE ⟨⟨yd,vu⟩,z6⟩
        | exact(by omega:False).elim
     ·have yD:=yD λh=>hE h.e
      rcases hL with hL|⟨MV,iJ⟩
      ·repeat'(first|apply Sp.h|refine Lk.r rfl ?_|refine Rf.mk rfl ?_|refine xA ?_|refine xB ?_|refine Im.mk λ_=>?_|refine yc.mk λ_=>?_|refine xT ?_|(apply Ix.r;{exact z8};{exact z6})|refine Ch.l ⟨rfl,rfl⟩ ?_|refine Ch.r ?_|(apply y4.r;focus repeat' constructor)|refine xN ?_|refine xO ?_|(apply Cl.p (ey);focus repeat' constructor)|(apply Cl.p (Zw);focus repeat' constructor))
       all_goals first
        | exact Fin.p rfl (vb (zF yD).symm)
        | exact(by omega:False).elim
      ·rw [iJ] at ey
       repeat'(first|apply Sp.h|refine Lk.r rfl ?_|refine Rf.mk rfl ?_|refine xA ?_|refine xB ?_|refine Im.mk λ_=>?_|refine yc.mk λ_=>?_|refine xT ?_|(apply Ix.r;{exact z8};{exact z6})|refine Ch.l ⟨rfl,rfl⟩ ?_|refine Ch.r ?_|(apply y4.r;focus repeat' constructor)|refine xN ?_|refine xO ?_|(apply Cl.p (ey);focus repeat' constructor)|(apply Cl.p (Zw);focus repeat' constructor))
       all_goals first
        | exact Fin.p rfl (vb (zF yD).symm)
        | exact(by omega:False).elim
    ·have yD:=yD λh=>hL (h.b b h0 (by rw [show q+1 - 1=q by omega];exact Hz))
     cases bm:lexB b.args a.args
     ·rw [bm] at ey
      repeat'(first|apply Sp.h|refine Lk.r rfl ?_|refine Rf.mk rfl ?_|refine xA ?_|refine xB ?_|(refine Bd.mk ?_ ?_ <;> intro _)|refine Im.mk λ_=>?_|refine yc.mk λ_=>?_|refine xT ?_|(apply Ix.r;{exact z8};{exact z6})|refine Ch.l ⟨rfl,rfl⟩ ?_|(apply y4.r;focus repeat' constructor)|refine xN ?_|refine xO ?_|(apply Cl.p (ey);focus repeat' constructor)|(apply Cl.p (Zw);focus repeat' constructor))
      all_goals first
       | exact Fin.p rfl (vb (zF yD).symm)
       | exact(hL (.inl z6)).elim
     ·rw [bm] at ey
      repeat'(first|apply Sp.h|refine Lk.r rfl ?_|refine Rf.mk rfl ?_|refine xA ?_|refine xB ?_|(refine Bd.mk ?_ ?_ <;> intro _)|refine Im.mk λ_=>?_|refine yc.mk λ_=>?_|refine xT ?_|(apply Ix.r;{exact z8};{exact z6})|refine Ch.l ⟨rfl,rfl⟩ ?_|refine Ch.r ?_|(apply y4.r;focus repeat' constructor)|refine xN ?_|refine xO ?_|(apply Cl.p (ey);focus repeat' constructor)|(apply Cl.p (Zw);focus repeat' constructor))
      all_goals first
       | exact Fin.p rfl (vb (zF yD).symm)
       | exact(hL (.inl z6)).elim
       | exact(hL (.inr ⟨z6,bm⟩)).elim
 ·have:i=m.yP.length:=z6
  subst this
  repeat'(first|apply Sp.h|refine Lk.r rfl ?_|refine Rf.mk rfl ?_|refine xB ?_|apply Im.mk|refine xT ?_|refine xN ?_|intro _)
  exact Fin.p rfl (vb (zT (show qv m from⟨fh,rZ,xc MS⟩)).symm)
end Go.Proofs.YtmjllbjfkafhdaaGreatDoor
namespace Go.Proofs.YtmjllbjfkafhdaaGreatDoor
open Go Go.CF Go.ChangeShapes Go.WideShapes Go.ChangeAt Go.RowKit
theorem i_{α:Type}{r:Rp α}{h:y7}{F:Nat->Prop}{cs:List Value}{l:List α}(hr:r.slice.R h F cs l){x:α}(hx:x∈l) :∃row,r.R h F row x:=by
 obtain⟨v,rfl,hb,hl,rows,hs,hlen,tN⟩:=hr
 obtain⟨i,hi⟩:=List.mem_iff_getElem?.1 hx
 obtain⟨row,pU⟩:∃row,rows[i]?=some row:=⟨_,zE (by have:=(zS.1 hi).1;omega)⟩
 exact⟨row,tN i row x pU hi⟩
theorem aP{h:y7}{F:Nat->Prop}{cs:List Value}{m:y8}(hr:Rp.model.R h F cs m):xl m:=by
 intro a ha u hu
 obtain⟨_,_,_,_,_,_,_,_,_,_,_,_,_,_,_,_,_,_,_,_,_,_,_,h1,_⟩:=hr
 obtain⟨_,h2⟩:=i_ h1 ha
 obtain⟨_,_,_,_,_,_,_,_,_,_,_,h3,_⟩:=h2
 obtain⟨_,_,_,_,_,_,_,_,_,_,_,h4,_⟩:=h3
 obtain⟨_,h5⟩:=i_ h4 hu
 obtain⟨_,_,_,_,_,_,_,h6,_⟩:=h5
 exact(wf_i64.1 h6.2).2
end Go.Proofs.YtmjllbjfkafhdaaGreatDoor
namespace Go.Proofs.YtmjllbjfkafhdaaGreatDoor
open Go Go.CF
def xw{α:Type}(p:α->Bool):List α->Nat
 | []=>0
 | a :: l=>if p a then 0 else xw p l+1
def wW{α:Type}(p:α->Bool)(l:List α):Int:=if xw p l < l.length then xw p l else -1
theorem uA{α:Type}{p:α->Bool} :∀{l:List α} {i:Nat} {x:α},l[i]?=some x->p x=true->(∀j y,j < i->l[j]?=some y->p y=false)->xw p l=i:=by
 intro l
 induction l with
 | nil=>intro i x h;cases h
 | cons a l ih =>
  intro i x h1 h2 h3
  cases i with
  | zero=>cases h1;simp [xw,h2]
  | succ i =>
   have:=h3 0 a z6 rfl
   simp [xw,this,ih h1 h2 λj y hj hy=>h3 (j+1) y z6 hy]
theorem wL{α:Type}{p:α->Bool} :∀{l:List α},(∀x∈l,p x=false)->xw p l=l.length:=by
 intro l
 induction l with
 | nil=>intro _;rfl
 | cons a l ih=>intro h;simp [xw,h a zd,ih λx hx=>h x (by simp [hx])]
theorem ke{α:Type}{p:α->Bool} :∀{l:List α},xw p l < l.length->∃x,l[xw p l]?=some x/\p x=true/\∀j y,j < xw p l->l[j]?=some y->p y=false:=by
 intro l
 induction l with
 | nil=>intro h;simp at h
 | cons a l ih =>
  intro h
  by_cases ha:p a=true
  ·exact⟨a,by simp [xw,ha],ha,λj y hj=>by simp [xw,ha] at hj⟩
  ·have he:xw p (a :: l)=xw p l+1:=by simp [xw,ha]
   obtain⟨x,h1,h2,h3⟩:=ih (by rw [he] at h;simpa using h)
   refine⟨x,by rw [he];exact h1,h2,λj y hj hy=>?_⟩
   cases j with
   | zero=>cases hy;simpa using ha
   | succ j=>exact h3 j y z6 hy
theorem n9{α:Type}(p:α->Bool) :∀l:List α,xw p l<=l.length:=by
 intro l
 induction l with
 | nil=>exact Nat.le_refl _
 | cons a l ih=>simp only [xw,List.length_cons];split <;> omega
theorem QX{α:Type}{p:α->Bool}{e:α} :∀{l:List α},e∈l->p e=true->xw p l < l.length:=by
 intro l
 induction l with
 | nil=>intro h;cases h
 | cons a l ih =>
  intro h ho
  by_cases ha:p a=true
  ·simp [xw,ha]
  ·rcases List.mem_cons.1 h with rfl|h9
   ·exact absurd ho ha
   ·simp [xw,ha,ih h9 ho]
theorem pa{o:List yh} :∀l:List AV,y3 o l l
 | []=> .nil
 | _ :: l=> .yB (pa l)
theorem tT{α:Type}{p:α->Bool}{l:List α}:xw p l < l.length↔∃x∈l,p x=true:=by
 constructor
 ·intro h
  obtain⟨x,h1,h2,-⟩:=ke h
  exact⟨x,zM h1,h2⟩
 ·rintro⟨x,h1,h2⟩
  exact QX h1 h2
/-! ### DC of q8 -/
def dp(b:Bool):List AV:= [.val (.bool b)]
abbrev q8 (l:List Bool):AV:= .sl 1 l dp
theorem Tq(l:List Bool)(a:Bool):y6 Tryz.prog 257 [q8 l,.val (.bool a)] (it (wW (λb=>decide (a=b)) l)):=by
 refine zy.of pg ye Tryz.func257 rfl Tryz.ntmps257 Tryz.results257 rfl λh0 G0 O0=>?_
 repeat'(first|apply Sp.h|refine Lk.r rfl ?_|refine Rf.mk rfl ?_|apply Im.mk|intro _)
 refine CA.loop (λi:Nat=>⟨[(0,q8 l),(1,.val (.bool a)),(7,it (l.length:Nat)),(8,it i)],[]⟩)
  (λi=>i<=l.length/\∀j y,j < i->l[j]?=some y->decide (a=y)=false) (λi=>l.length - i) 0 xE ⟨zZ _,λj y h=>z6⟩ ?_
 rintro i ⟨hi,hj⟩
 by_cases yd:i < l.length
 ·obtain⟨e,hx⟩:=zz yd
  by_cases hp:a=e
  ·repeat'(first|apply Sp.h|refine Lk.r rfl ?_|refine Rf.mk rfl ?_|refine xA ?_|refine xI ?_|refine xN ?_|fail)
   exact Fin.p rfl (by rw [wW,uA hx (zT hp) hj,if_pos yd])
  ·repeat'(first|apply Sp.h|refine Lk.r rfl ?_|refine Rf.mk rfl ?_|refine xA ?_|refine xB ?_|refine xI ?_|refine xO ?_|fail)
   exact PA.lp (i+1) xE ⟨⟨yd,yg hx hj (zF hp)⟩,z6⟩
 ·repeat'(first|apply Sp.h|refine Lk.r rfl ?_|refine Rf.mk rfl ?_|refine xB ?_|refine xN ?_|fail)
  exact Fin.p rfl (by rw [wW,wL (λx hx=>by obtain⟨j,hx⟩:=zO hx;exact hj j x (by have:=(zS.1 hx).1;omega) hx),if_neg z6])
theorem Mw(l:List Bool):y6 Tryz.prog 173 [q8 l] (.val (.bool (l.all id))):=by
 have h:y6 Tryz.prog 218 [q8 l,.val (.bool false)] (.val (.bool (decide (xw (λb=>decide (false=b)) l < l.length)))):=by
  have hi:=Tq l false
  refine zy.of pg ye Tryz.func218 rfl Tryz.ntmps218 Tryz.results218 rfl λh0 G0 O0=>?_
  repeat'(first|apply Sp.h|refine Lk.r rfl ?_|refine Rf.mk rfl ?_|refine xN ?_|(apply Cl.p (hi);focus repeat' constructor))
  refine Fin.p rfl (vb (zD.2 ?_))
  unfold wW
  split <;> omega
 refine zy.of pg ye Tryz.func173 rfl Tryz.ntmps173 Tryz.results173 rfl λh0 G0 O0=>?_
 repeat'(first|apply Sp.h|refine Lk.r rfl ?_|refine Rf.mk rfl ?_|refine xN ?_|(apply Cl.p (h);focus repeat' constructor))
 refine Fin.p rfl (vb ?_)
 rw [Bool.eq_iff_iff,decide_eq_true_eq,tT,List.all_eq_true]
 constructor
 ·intro h x hx
  cases x
  ·exact(h ⟨_,hx,rfl⟩).elim
  ·rfl
 ·rintro h ⟨x,hx,h2⟩
  have:=h x hx
  rw [<-of_decide_eq_true h2] at this
  cases this
/-! ### cA in numbers, by DH with any captures -/
theorem To{g:FuncId}{caps:List AV}{p:Int->Bool}(hg:∀x,y6 Tryz.prog g (it x :: caps) (.val (.bool (p x))))(he:en g=true)(l:List Int) :
  y6 Tryz.prog 203 [ints l,.fn g caps] (it (wW p l)):=by
 refine zy.of pg ye Tryz.func203 rfl Tryz.ntmps203 Tryz.results203 rfl λh0 G0 O0=>?_
 repeat'(first|apply Sp.h|refine Lk.r rfl ?_|refine Rf.mk rfl ?_|apply Im.mk|intro _)
 refine CA.loop (λi:Nat=>⟨[(0,ints l),(1,.fn g caps),(7,it (l.length:Nat)),(8,it i)],[]⟩)
  (λi=>i<=l.length/\∀j y,j < i->l[j]?=some y->p y=false) (λi=>l.length - i) 0 xE ⟨zZ _,λj y h=>z6⟩ ?_
 rintro i ⟨hi,hj⟩
 by_cases yd:i < l.length
 ·obtain⟨e,hx⟩:=zz yd
  repeat'(first|apply Sp.h|refine Lk.r rfl ?_|refine Rf.mk rfl ?_|refine xA ?_|(refine Bd.mk ?_ ?_ <;> intro _)|refine xI ?_|refine xN ?_|(apply Rf.mk;{exact z8})|refine xO ?_|(apply Cl.p (hg e);(focus repeat'(first|apply y3.yB|fail))))
  ·exact pa _
  ·rename_i hp
   exact Fin.p rfl (by rw [wW,uA hx hp hj,if_pos yd])
  ·rename_i hp
   exact PA.lp (i+1) xE ⟨⟨yd,yg hx hj (by simpa using hp)⟩,z6⟩
 ·repeat'(first|apply Sp.h|refine Lk.r rfl ?_|refine Rf.mk rfl ?_|refine xB ?_|refine xN ?_|fail)
  exact Fin.p rfl (by rw [wW,wL (λx hx=>by obtain⟨j,hx⟩:=zO hx;exact hj j x (by have:=(zS.1 hx).1;omega) hx),if_neg z6])
theorem qS{g:FuncId}{caps:List AV}{p:Int->Bool}(hg:∀x,y6 Tryz.prog g (it x :: caps) (.val (.bool (p x))))(he:en g=true)(l:List Int) :
  y6 Tryz.prog 152 [ints l,.fn g caps] (.val (.bool (decide (xw p l < l.length)))):=by
 have hi:=To hg he l
 refine zy.of pg ye Tryz.func152 rfl Tryz.ntmps152 Tryz.results152 rfl λh0 G0 O0=>?_
 repeat'(first|apply Sp.h|refine Lk.r rfl ?_|refine Rf.mk rfl ?_|refine xN ?_|(apply Cl.p (hi);focus repeat' constructor))
 refine Fin.p rfl (vb (zD.2 ?_))
 unfold wW
 split <;> omega
/-! ### The z2f of cells.Valid -/
theorem dw(x lo hi:Int):y6 Tryz.prog 176 [it x,it lo,it hi] (.val (.bool (decide (lo<=x/\x<=hi)))):=by
 refine zy.of pg ye Tryz.func176 rfl Tryz.ntmps176 Tryz.results176 rfl λh0 G0 O0=>?_
 repeat'(first|apply Sp.h|refine Lk.r rfl ?_|refine Rf.mk rfl ?_|refine xA ?_|refine xB ?_|apply Bd.mk|refine xN ?_|intro _)
 all_goals exact Fin.p rfl (vb (by first|exact(zT z6).symm|exact(zF z6).symm|exact zD.2 z6))
theorem Qb(sizes:List Int):y6 Tryz.prog 174 [ints sizes] (.val (.bool (decide (Sound sizes)))):=by
 have h1:∀x,y6 Tryz.prog 219 [it x] (.val (.bool (!decide (1<=x/\x<=6)))):=by
  intro x
  have hw:=dw x 1 6
  refine zy.of pg ye Tryz.func219 rfl Tryz.ntmps219 Tryz.results219 rfl λh0 G0 O0=>?_
  repeat'(first|apply Sp.h|refine Lk.r rfl ?_|refine Rf.mk rfl ?_|refine xN ?_|(apply Cl.p (hw);focus repeat' constructor))
  exact Fin.p rfl (vb decide_not)
 have h2:=qS h1 rfl sizes
 refine zy.of pg ye Tryz.func174 rfl Tryz.ntmps174 Tryz.results174 rfl λh0 G0 O0=>?_
 repeat'(first|apply Sp.h|refine Lk.r rfl ?_|refine Rf.mk rfl ?_|refine xN ?_|(apply Cl.p (h2);focus repeat' constructor))
 refine Fin.p rfl (vb ?_)
 rw [Bool.eq_iff_iff,decide_eq_true_eq,tT,decide_eq_true_eq]
 constructor
 ·intro h x hx
  exact Classical.byContradiction λh9=>h ⟨x,hx,by rw [zF h9];rfl⟩
 ·rintro h ⟨x,hx,h9⟩
  have:=h x hx
  simp at h9
  omega
theorem cS(sizes:List Int)(x:Int):y6 Tryz.prog 221 [it x,.ad [ints sizes] 0] (.val (.bool (!decide (0<=x/\x < sizes.length)))):=by
 refine zy.of pg ye Tryz.func221 rfl Tryz.ntmps221 Tryz.results221 rfl λh0 G0 O0=>?_
 repeat'(first|apply Sp.h|refine Lk.r rfl ?_|refine Rf.mk rfl ?_|refine xA ?_|refine xB ?_|apply Bd.mk|apply Im.mk|refine xN ?_|intro _)
 all_goals
  refine Fin.p rfl (vb ?_)
  by_cases hc:0<=x/\x < sizes.length
  ·rw [zT hc]
   first
    | exact zF z6
    | (exfalso;omega)
  ·rw [zF hc]
   first
    | exact zT z6
    | rfl
    | (exfalso;omega)
def RQ(sizes ya:List Int):Prop:=ya.length<=3/\∀x∈ya,0<=x/\x < sizes.length
noncomputable instance (sizes ya:List Int):Decidable (RQ sizes ya):=zC _
theorem Za(sizes ya:List Int):y6 Tryz.prog 177 [ints sizes,ints ya] (.val (.bool (decide (RQ sizes ya)))):=by
 have hc:=qS (cS sizes) rfl ya
 have hq:¬xw (λx:Int=> !decide (0<=x/\x < sizes.length)) ya < ya.length↔∀x∈ya,0<=x/\x < sizes.length:=by
  rw [tT]
  constructor
  ·intro h x hx
   exact Classical.byContradiction λh9=>h ⟨x,hx,by rw [zF h9];rfl⟩
  ·rintro h ⟨x,hx,h9⟩
   have:=h x hx
   rw [zT this] at h9
   cases h9
 refine zy.of pg ye Tryz.func177 rfl Tryz.ntmps177 Tryz.results177 rfl λh0 G0 O0=>?_
 (repeat'(first|(show CA _ _ (Code.region 1 _ _) _ _;apply z_.out)|apply Sp.h|refine Lk.r rfl ?_|refine Rf.mk rfl ?_|apply yc.mk|intro _));any_goals apply z_.mk
 refine CA.xt 2 rfl z1 ?_
 repeat'(first|apply Sp.h|refine Lk.r rfl ?_|refine Rf.mk rfl ?_|refine xA ?_|refine xB ?_|(refine Bd.mk ?_ ?_ <;> intro _)|refine Im.mk λ_=>?_|refine xN ?_|(apply Cl.p (hc);focus repeat' constructor))
 all_goals refine Fin.p rfl (vb ?_)
 ·rw [Bool.eq_iff_iff,decide_eq_true_eq,hq,decide_eq_true_eq]
  exact⟨λh=>⟨z6,h⟩,λh=>h.2⟩
 ·exact(zF (λh=>by have:=h.1;omega)).symm
def eV(t:ym):Prop:=if t.kind=1∨t.kind=4∨t.kind=5 then t.lo<=t.hi/\ -9999<=t.lo/\t.hi<=9999 else t.lo=0/\t.hi=1
noncomputable instance (t:ym):Decidable (eV t):=zC _
theorem kX{t:ym}(h:t.kind=1∨t.kind=4∨t.kind=5):eV t↔t.lo<=t.hi/\ -9999<=t.lo/\t.hi<=9999:=by rw [eV,if_pos h]
theorem mj{t:ym}(h:¬(t.kind=1∨t.kind=4∨t.kind=5)):eV t↔t.lo=0/\t.hi=1:=by rw [eV,if_neg h]
theorem UZ(t:ym):y6 Tryz.prog 178 [.agg (v8 t)] (.val (.bool (decide (eV t)))):=by
 refine zy.of pg ye Tryz.func178 rfl Tryz.ntmps178 Tryz.results178 rfl λh0 G0 O0=>?_
 repeat'(first|apply Sp.h|refine Lk.r rfl ?_|refine Rf.mk rfl ?_|refine xA ?_|refine xB ?_|apply Bd.mk|apply yc.mk|refine xT ?_|refine Ch.r ?_|(apply Fk.r;focus repeat' first|infer_instance|constructor)|refine xN ?_|refine xK ?_|(apply Kf.mk;{exact z7})|intro _)
 all_goals
  refine Fin.p rfl (vb ?_)
  first
   | exact zD.2 (by rw [kX z6];omega)
   | exact(zT (by rw [kX z6];omega)).symm
   | exact(zF (by rw [kX z6];omega)).symm
   | exact zD.2 (by rw [mj z6];omega)
   | exact(zT (by rw [mj z6];omega)).symm
   | exact(zF (by rw [mj z6];omega)).symm
   | exact zD.2 (by rw [mj z6];simp)
theorem ot(t:ym):y6 Tryz.prog 179 [.agg (v8 t)] (.val (.bool (decide (yi t.kind)))):=by
 refine zy.of pg ye Tryz.func179 rfl Tryz.ntmps179 Tryz.results179 rfl λh0 G0 O0=>?_
 repeat'(first|apply Sp.h|refine Lk.r rfl ?_|refine Rf.mk rfl ?_|refine xA ?_|refine xB ?_|apply Bd.mk|apply yc.mk|refine xT ?_|refine xN ?_|intro _)
 all_goals
  refine Fin.p rfl (vb ?_)
  first
   | exact zD.2 (by unfold yi;omega)
   | exact(zT (by unfold yi;omega)).symm
theorem fI(sizes ya:List Int)(h:uO sizes ya):y6 Tryz.prog 180 [ints sizes,ints ya] (it (wD sizes ya)):=by
 obtain⟨hl,hs,ha⟩:=h
 refine zy.of pg ye Tryz.func180 rfl Tryz.ntmps180 Tryz.results180 rfl λh0 G0 O0=>?_
 repeat'(first|apply Sp.h|refine Lk.r rfl ?_|refine Rf.mk rfl ?_|apply Im.mk|intro _)
 refine CA.loop (λi:Nat=>⟨[(0,ints sizes),(5,it (wD sizes (ya.take i))),(8,ints ya),(9,it (ya.length:Nat)),(10,it i)],[]⟩) (λi=>i<=ya.length) (λi=>ya.length - i) 0 xE (zZ _) ?_
 rintro i hi
 by_cases yd:i < ya.length
 ·obtain⟨x,hx⟩:=zz yd
  have hb:=ha x (zM hx)
  have q_:=hb.1
  obtain⟨y,hy⟩:=zz (l:=sizes) (i:=x.toNat) z6
  have hys:=hs y (zM hy)
  have hp:=sG hs (ya.take i)
  have kr:=rv hx hy
  have C2:=sG hs (ya.take (i+1))
  have eO:∀n:Nat,n<=3->(6:Int) ^ n<=216:=λn hn=>by match n,hn with | 0,_=>decide | 1,_=>decide | 2,_=>decide | 3,_=>decide
  have h1:=eO (ya.take i).length zk
  have h2:=eO (ya.take (i+1)).length zk
  rw [kr] at C2
  repeat'(first|apply Sp.h|refine Lk.r rfl ?_|refine Rf.mk rfl ?_|refine xA ?_|refine xP ?_|refine xI ?_|(apply Ix.r;{exact z8};{exact z6})|refine xO ?_|fail)
  rw [<-kr]
  exact PA.lp (i+1) xE ⟨yd,z6⟩
 ·have:i=ya.length:=z6
  subst this
  rw [zL]
  repeat'(first|apply Sp.h|refine Lk.r rfl ?_|refine Rf.mk rfl ?_|refine xB ?_|refine xN ?_|fail)
  exact Fin.p rfl rfl
end Go.Proofs.YtmjllbjfkafhdaaGreatDoor
namespace Go.CF
open Go
section
variable {P:Program} {tt:Nat->Option TI} {en:Nat->Bool} {n:Nat} {ty t u:TypeId} {env:Env} {h:y7} {x y:Operand}
theorem rp(G:xh P tt en){ti te:TI}{e dl dc m:Nat}{p:Option Addr}{news:List Value}{xv:Value}{K:Value->y7->Prop}(ht:tt t=some ti)(hk:ti.kind= .slice e)(oL:tt e=some te)
  (hx:ev env x=some (.slice p dl dc)) (hy:ev env y=some xv) (hs:Sl h xv m news) (hm:min m dl=0) (k:K (.int .i64 (0:Nat)) h):Ld P n (.call { callee:= .builtin .copy,args:=#[x,y],argTypes:=#[t,u] }) ty env h K:=by
 intro a w oo next Q ha hw nU pv hn
 obtain⟨i,dd,hi,hd,nV,pU,Hv,_⟩:=(G.ok _ _ oL).ok
 have hu:=(G.ok _ _ ht).slice hk
 obtain⟨q,qc,rfl⟩:=hs.shape
 have hr:=h_ (P:=P) w t u ty e p q dl dc m qc hu hi hm
 have wq:(execOp a.eval (yI (.call { callee:= .builtin .copy,args:=#[x,y],argTypes:=#[t,u] }) ty)).run P w= .ok (.value (goInt (0:Nat))) w:=by
  simp [yI,execOp,resolve,invoke,builtin,ha.ev hx,ha.ev hy,hr]
 unfold Oper.wp
 rw [xj,nU,pv,wq]
 exact hn _ w (yW.refl w) (hw▸k)
end
section
variable {Γ:Cx} {k:List KI} {e:EA} {o:List yh} {N:NA} {c:xa} {d:Tmp} {ty:TypeId} {x y z:Operand} {t u:TypeId} {kk:IntKind} {i:Int}
structure GG (Γ:Cx) (c:xa) (d:Tmp) (t u:TypeId) (x y:Operand) (ty:TypeId) (e:EA) (o:List yh) (N:NA) (a b:AV):Prop where
 h:xr e x=some a->xr e y=some b->yN c=true->SA Γ c (some d) (.call { callee:= .builtin .copy,args:=#[x,y],argTypes:=#[t,u] }) ty e o N
instance:Sp (SA Γ c (some d) (.call { callee:= .builtin .copy,args:=#[x,y],argTypes:=#[t,u] }) ty e o N) (Rf (yN c=true) (Lk (xr e x) λa=>Lk (xr e y) λb=>GG Γ c d t u x y ty e o N a b)):=⟨λ⟨hc,_,ha,_,hb,h⟩=>h.h ha hb hc⟩
theorem lW{h h':y7}{b of cap len T sz:Nat}{l X:List Value}{R:List Value}{j Ol:Nat}(hw:Own h (.slice (some ⟨b,of,none⟩) len cap) T sz len R)(hX:X.length=Ol * sz)(hj:j+Ol<=len)
  (hu:ej h b T (l.take (of+j * sz) ++ X ++ l.drop (of+j * sz+Ol * sz)) h') (kH:of+cap * sz<=l.length) (gS:len<=cap) (hR:(l.drop of).take (len * sz)=R):Own h' (.slice (some ⟨b,of,none⟩) len cap) T sz len (R.take (j * sz) ++ X ++ R.drop (j * sz+Ol * sz)):=by
 have O7:j * sz+Ol * sz<=len * sz:=by rw [<-Nat.add_mul];exact zU _ hj
 have ey:len * sz<=cap * sz:=zU _ gS
 have hl:=hw.v_
 refine⟨by simp only [zP,zN,List.length_drop];omega,.inr ⟨b,of,cap,_,rfl,hu.rD, ?_,gS, ?_⟩⟩
 ·simp only [zP,zN,List.length_drop];omega
 ·rw [<-hX,XR (by rw [hX];exact O7) z6,hR]
theorem ej.fpx{h h':y7}{b:Nat}{T:TypeId}{l:List Value}(hu:ej h b T l h'){O:Nat->Prop}(ho:O b):uo (λy=>¬O y) h h' :=
 ⟨hu.wm.size,λy hy hl=>hu.wm.same y hl (λhm=>hy (by rw [zH.1 hm];exact ho))⟩
theorem nh{h':y7}{hh:y7}{env:Env}{G:Nat->Prop}{R R':yh}{rest:List yh}{O:Nat->Prop}{Os:List (Nat->Prop)}{b:Nat}{T:TypeId}{l:List Value}(cn:vM Γ ⟨e,R :: rest⟩ env hh G (O :: Os))(hu:ej hh b T l h')(ho:O b)(hr:uo G hh h'->R'.R h' O G):vM Γ ⟨e,R' :: rest⟩ env h' G (O :: Os):=by
 have hx:=hu.fpx ho
 have hg:uo G hh h':=hx.mono λy hy bD=>(cn.hp.o O zd y bD).2.2 hy
 exact cn.jT (R':=R') (O':=O) hx (λy hy=>⟨Nat.lt_of_lt_of_le (cn.hp.o O zd y hy).1 hu.wm.size,.inl hy⟩) (hr hg)
instance {v:Value} {s j m:Nat} {b:AV}:Sp (GG Γ c d t u x y ty e o N (.os v s j m) b) (Lk (nN Γ.tt t) λp=>Src o b p.2.size λq g=>gU o v λT sz l f rest=>Rf (T=p.1/\sz=p.2.size/\s=sz) (Mp q g f λq' =>
  N ((d,.val (.int .i64 (min q'.length m:Nat))) :: e) (yb v T sz (l.take j ++ q'.take (min q'.length m) ++ l.drop (j+min q'.length m)) f :: rest))):=⟨λ⟨p,hp,β,q,g,⟨α,T,sz,l,f,rest,tk,⟨hT,hz,hs⟩,q',PX,hn⟩,kG⟩=>⟨λha hb hc=>⟨λenv hh G Os cn=>by
 obtain⟨w,g1,p0,len,cap,rfl,SF,rfl⟩:=cn.get ha
 obtain⟨w2,g2,r2⟩:=cn.get hb
 obtain⟨wg,qZ,YK⟩:=kG cn.hp r2
 have gP:q'.length=q.length:=by have:=congrArg List.length PX;simpa using this
 have Xc:=YK.map PX
 subst hs;subst hT;subst hz
 obtain⟨ti,t1,t2,t3⟩:=xg hp
 obtain⟨O,yz,yT⟩:=cn.take tk
 obtain⟨⟨ho,rows,hw,hr⟩,xq⟩:=yT.hp.own
 by_cases h0:min q'.length m=0
 ·refine .th hc (rp Γ.ok t1 t2 t3 g1 g2 qZ (by rw [<-gP];exact h0) ?_)
  rw [h0,List.take_zero,List.append_nil,Nat.add_zero,List.take_append_drop] at hn
  exact CN.mk (yT.put d (a:= .val (.int .i64 (0:Nat))) rfl) hn
 ·rcases hw.ok with⟨e1,e2⟩|⟨b,of,wR,L,e1,oN,h1,h2,h3⟩
  ·cases e1;omega
  ·cases e1
   have qm:vd (some ⟨b,of,none⟩) p.2.size j cap=some ⟨b,of+j * p.2.size,none⟩:=by
    unfold vd;rw [if_neg z6];simp [yZ]
   rw [qm] at g1
   have hlen:=hw.v_
   have Lh:=YK.sz
   have Vi:wg.flatten.length=q.length * p.2.size:=by rw [YK.pE]
   have Ln:min q'.length m * p.2.size<=q.length * p.2.size:=zU _ z6
   have O7:j * p.2.size+min q'.length m * p.2.size<=l.length * p.2.size:=by rw [<-Nat.add_mul];exact zU _ z6
   have ey:l.length * p.2.size<=cap * p.2.size:=zU _ h2
   refine .th hc (k9 Γ.ok t1 t2 t3 g1 g2 oN qZ Vi (λv hv=>YK.one v (zW hv)) (by rw [<-gP];omega) λh' u4 hu=>?_)
   rw [<-gP] at hu ⊢
   have WR:O b:=(ho b).2 (by simp [xz])
   have hX:(wg.flatten.take (min q'.length m * p.2.size)).length=min q'.length m * p.2.size:=by rw [zN];omega
   have oO:=lW (j:=j) hw hX z6 hu h1 h2 h3
   have VL:(l.take j ++ q'.take (min q'.length m) ++ l.drop (j+min q'.length m)).length=l.length:=by simp;omega
   have qz:(rows.take j ++ wg.take (min q'.length m) ++ rows.drop (j+min q'.length m)).flatten=rows.flatten.take (j * p.2.size) ++ wg.flatten.take (min q'.length m * p.2.size) ++ rows.flatten.drop (j * p.2.size+min q'.length m * p.2.size):=by
    rw [List.flatten_append,List.flatten_append,xX rows j hr.sz,xX wg _ Lh,pq rows _ hr.sz,Nat.add_mul]
   have c3:=nh (R':=yb (.slice (some ⟨b,of,none⟩) l.length cap) p.1 p.2.size (l.take j ++ q'.take (min q'.length m) ++ l.drop (j+min q'.length m)) f) yT hu WR (λhg=>⟨ho,rows.take j ++ wg.take (min q'.length m) ++ rows.drop (j+min q'.length m),by rw [VL,qz];exact oO,(((hr.take j).app (Xc.take _)).app (hr.drop _)).wm hg⟩)
   exact CN.mk (c3.put d (a:= .val _) rfl) hn⟩⟩⟩
end
end Go.CF
