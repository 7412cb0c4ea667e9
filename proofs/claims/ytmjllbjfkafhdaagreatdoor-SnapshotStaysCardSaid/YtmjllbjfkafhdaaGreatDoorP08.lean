/- Part 8 of the ground of this proof: what its texts say of the model, the program and the plain data; conditions: those that are named. -/
import Derived.Test.YtmjllbjfkafhdaaGreatDoorCards
import Derived.Test.YtmjllbjfkafhdaaGreatDoorP07
namespace Go.Proofs.YtmjllbjfkafhdaaGreatDoor
open Go Go.CF Go.ChangeShapes Go.WideShapes Go.ChangeAt Go.RowKit
theorem snapshotStays_k2 : false=Tryz.pinned.checked.prog.looks []:=by kernel_rfl
end Go.Proofs.YtmjllbjfkafhdaaGreatDoor
set_option maxRecDepth 100000
set_option maxHeartbeats 80000000
namespace Go.Proofs.YtmjllbjfkafhdaaGreatDoor
open Go Go.CF Go.ChangeShapes Go.WideShapes Go.ChangeAt Go.RowKit
theorem snapshotStays_k3 : Tryz.pinned.checked.prog.mainIs=some (true,"f0c9131c7071487561838c5fd10ad184cd06373d64f188cad1dcc86a924dd170".toList):=by kernel_rfl
theorem snapshotStays_k4 : Rows.snapshotStaysRow.wfByText (OpenSpec.ofChange Rows.snapshotStaysSpec)=true:=by kernel_rfl
theorem snapshotStays_card(hs:Rows.SnapshotStaysSaid) : Rows.SnapshotStaysCardSaid :=
 Claim7.holds_tied_plain_at .later [] [.listed, .data] true (true,"f0c9131c7071487561838c5fd10ad184cd06373d64f188cad1dcc86a924dd170") false
  hs (fun _ h=>by cases h) snapshotStays_k4 (fun _ h=>by cases h) snapshotStays_row_tie rfl ⟨rfl,rfl⟩ snapshotStays_k3 rfl
  (fun f fn hf hfn=>by
   obtain rfl:f=5:=Option.some.inj ((show Tryz.prog.funcNamed "confluent/confluentlaw53.SnapshotStays" = some 5 by kernel_rfl).symm.trans hf) |>.symm
   obtain rfl:fn=Tryz.f5:=(Option.some.inj (Tryz.func5.symm.trans hfn)).symm
   exact⟨snapshotStays_k2,fun j t ht=>by
    rw [Tryz.params5] at ht
    have hm:t∈ [30,22,31,32,5]:=by simpa using Array.mem_of_getElem? ht
    have hall:([30,22,31,32,5].all fun u=> !Tryz.prog.wantsStandIn u)=true:=by kernel_rfl
    exact(show Tryz.prog.wantsStandIn t=false by simpa using List.all_eq_true.1 hall t hm)⟩)
  snapshotStays_k1
end Go.Proofs.YtmjllbjfkafhdaaGreatDoor
namespace Go.Proofs.YtmjllbjfkafhdaaGreatDoor
open Go Go.CF
def WordTo(s:ByteArray)(a b:Nat) : Prop:=∀i,a≤i→i < b→isWord (byteAt s i)
def NmW(s:ByteArray) : Prop:=0 < s.size∧isLetter (byteAt s 0)∧WordTo s 0 s.size∧¬HasS kwL s
def NmOK(s:ByteArray) : Prop:=NmW s∧s.size≤16
noncomputable instance (s:ByteArray):Decidable (NmOK s):=zC _
structure TokQ (s:ByteArray) (a:Nat) (k:Int) (b:Nat):Prop where
 lt:a < b
 le:b≤s.size
 nm:k=1↔isLetter (byteAt s a)∧¬HasS kwL (s.extract a b)
 w:isLetter (byteAt s a)→WordTo s a b∧(b < s.size→¬isWord (byteAt s b))
theorem word_succ{s:ByteArray}{a b:Nat}(h:WordTo s a b)(hb:isWord (byteAt s b)) : WordTo s a (b+1):=by
 intro i h1 h2
 by_cases h3:i=b
 ·subst h3;exact hb
 ·exact h i h1 (by omega)
theorem token_e{s:ByteArray}{a:Nat}(hs:s.size≤1000000000)(ha:a < s.size)(hw:¬isWhite (byteAt s a))(h35:byteAt s a≠35) :
  CallA Tryz.prog 256 [sv s, .val (.int .i64 a)] [] fun r own=>∃(k:Int) (b:Nat),r= .tup [.val (.int .i64 k), .val (.int .i64 b)]∧own= []∧TokQ s a k b:=by
 refine CallA.of pg ord256 Tryz.func256 rfl Tryz.ntmps256 Tryz.results256 rfl fun h0 G0 O0=>?_
 by_cases hl:isLetter (byteAt s a)
 ·repeat'(first|apply Sp.h|refine Lk.r rfl ?_|refine Rf.mk rfl ?_|refine xA ?_|(apply Sx.r;(focus exact rfl);(focus first|omega|(simp;omega)))|(apply Cl.p (letter_p _);focus repeat' constructor))
  refine CA.loop (fun b:Nat=>⟨[(0,sv s),(1, .val (.int .i64 a)),(6, .val (.int .i64 b))],[]⟩) (fun b=>a≤b∧b≤s.size∧WordTo s a b) (fun b=>s.size - b) a xE ⟨Nat.le_refl _,by omega,fun i h1 h2=>by omega⟩ ?_
  rintro b ⟨hb1,hb2,hbw⟩
  by_cases hba:b=a
  ·subst hba
   repeat'(first|apply Sp.h|refine Lk.r rfl ?_|refine Rf.mk rfl ?_|refine xA ?_|(apply Sx.r;(focus exact rfl);(focus first|omega|(simp;omega)))|refine xO ?_|(apply Cl.p (letter_p _);focus repeat' constructor))
   exact PA.lp (b+1) xE ⟨⟨by omega,by omega,word_succ hbw (.inl hl)⟩,by omega⟩
  ·by_cases hbs:b < s.size∧isWord (byteAt s b)
   ·obtain⟨hbs,hbw2⟩:=hbs
    have hbw3:=hbw2
    unfold isWord at hbw2
    repeat'(first|apply Sp.h|refine Lk.r rfl ?_|refine Rf.mk rfl ?_|refine xA ?_|refine xB ?_|(refine Bd.mk ?_ ?_ <;> intro _)|refine OpK.r rfl ?_|(apply Jx.r;(focus exact rfl);(focus first|omega|(simp;done)|(simp;omega)))|refine xD ?_|(apply Sx.r;(focus exact rfl);(focus first|omega|(simp;omega)))|refine xO ?_|(apply Cl.p (letter_p _);focus repeat' constructor)|(apply Cl.p (digit_p _);focus repeat' constructor))
    all_goals first
     | exact PA.lp (b+1) xE ⟨⟨by omega,by omega,word_succ hbw hbw3⟩,by omega⟩
     | exact False.elim (hbw2.elim (by assumption) (fun h=>h.elim (by assumption) (by omega)))
   ·have hq:∀k,(k=1↔¬HasS kwL (s.extract a b))→TokQ s a k b:=fun k hk=>⟨by omega,hb2,⟨fun h=>⟨hl,hk.1 h⟩,fun h=>hk.2 h.2⟩,fun _=>⟨hbw,fun h h2=>hbs ⟨h,h2⟩⟩⟩
    have hbs1:b < s.size→¬isLetter (byteAt s b)∧¬isDigit (byteAt s b)∧byteAt s b≠95:=fun h=>⟨fun h2=>hbs ⟨h, .inl h2⟩,fun h2=>hbs ⟨h, .inr (.inl h2)⟩,fun h2=>hbs ⟨h, .inr (.inr h2)⟩⟩
    by_cases hlt:b < s.size
    ·obtain⟨g1,g2,g3⟩:=hbs1 hlt
     repeat'(first|apply Sp.h|refine Lk.r rfl ?_|refine Rf.mk rfl ?_|refine xA ?_|refine xB ?_|refine OpK.r rfl ?_|(apply Jx.r;(focus exact rfl);(focus first|omega|(simp;done)|(simp;omega)))|refine xD ?_|(apply Sx.r;(focus exact rfl);(focus first|omega|(simp;omega)))|(apply Cl.p (letter_p _);focus repeat' constructor)|(apply Cl.p (digit_p _);focus repeat' constructor))
     all_goals repeat'(first|apply Sp.h|refine Lk.r rfl ?_|refine Rf.mk rfl ?_|(refine Bd.mk ?_ ?_ <;> intro _)|refine OpK.r rfl ?_|refine xN ?_|(apply Cl.p (keywords_p);focus repeat' constructor)|(apply Cl.p (has_p _ _);focus repeat' constructor))
     ·rename_i hh
      exact⟨_,_, .tup (.same (.same (.z))),_,b,rfl,rfl,hq _ ⟨fun h=>by omega,fun h=>absurd hh h⟩⟩
     ·rename_i hh
      exact⟨_,_, .tup (.same (.same (.z))),_,b,rfl,rfl,hq _ ⟨fun _=>hh,fun _=>rfl⟩⟩
    ·repeat'(first|apply Sp.h|refine Lk.r rfl ?_|refine Rf.mk rfl ?_|refine xB ?_|(refine Bd.mk ?_ ?_ <;> intro _)|refine OpK.r rfl ?_|refine xN ?_|(apply Jx.r;(focus exact rfl);(focus first|omega|(simp;done)|(simp;omega)))|refine xD ?_|(apply Cl.p (keywords_p);focus repeat' constructor)|(apply Cl.p (has_p _ _);focus repeat' constructor))
     ·rename_i hh
      exact⟨_,_, .tup (.same (.same (.z))),_,b,rfl,rfl,hq _ ⟨fun h=>by omega,fun h=>absurd hh h⟩⟩
     ·rename_i hh
      exact⟨_,_, .tup (.same (.same (.z))),_,b,rfl,rfl,hq _ ⟨fun _=>hh,fun _=>rfl⟩⟩
 ·have hq:∀(k:Int) (b:Nat),k≠1→a < b→b≤s.size→TokQ s a k b:=fun k b h1 h2 h3=>⟨h2,h3,⟨fun h=>absurd h h1,fun h=>absurd h.1 hl⟩,fun h=>absurd h hl⟩
  by_cases hd:isDigit (byteAt s a)
  ·repeat'(first|apply Sp.h|refine Lk.r rfl ?_|refine Rf.mk rfl ?_|refine xA ?_|refine xB ?_|(apply Sx.r;(focus exact rfl);(focus first|omega|(simp;omega)))|(apply Cl.p (letter_p _);focus repeat' constructor)|(apply Cl.p (digit_p _);focus repeat' constructor))
   refine CA.loop (fun b:Nat=>⟨[(0,sv s),(1, .val (.int .i64 a)),(6, .val (.int .i64 b))],[]⟩) (fun b=>a≤b∧b≤s.size) (fun b=>s.size - b) a xE ⟨Nat.le_refl _,by omega⟩ ?_
   rintro b ⟨hb1,hb2⟩
   by_cases hba:b=a
   ·subst hba
    repeat'(first|apply Sp.h|refine Lk.r rfl ?_|refine Rf.mk rfl ?_|refine xA ?_|(apply Sx.r;(focus exact rfl);(focus first|omega|(simp;omega)))|refine xO ?_|(apply Cl.p (digit_p _);focus repeat' constructor))
    exact PA.lp (b+1) xE ⟨⟨by omega,by omega⟩,by omega⟩
   ·repeat'(first|apply Sp.h|refine Lk.r rfl ?_|refine Rf.mk rfl ?_|refine xA ?_|refine xB ?_|(refine Bd.mk ?_ ?_ <;> intro _)|refine xN ?_|(apply Sx.r;(focus exact rfl);(focus first|omega|(simp;omega)))|refine xO ?_|(apply Cl.p (digit_p _);focus repeat' constructor))
    all_goals first
     | exact PA.lp (b+1) xE ⟨⟨by omega,by omega⟩,by omega⟩
     | exact⟨_,_, .tup (.same (.same (.z))),_,b,rfl,rfl,hq _ _ (by omega) (by omega) hb2⟩
  ·have hsy:=symF_le (s:=s) (a:=a) (by omega)
   have hsp:=symbol_p hs (Nat.le_of_lt ha)
   repeat'(first|apply Sp.h|refine Lk.r rfl ?_|refine Rf.mk rfl ?_|refine xB ?_|(apply Sx.r;(focus exact rfl);(focus first|omega|(simp;omega)))|(apply Cl.p (letter_p _);focus repeat' constructor)|(apply Cl.p (digit_p _);focus repeat' constructor))
   by_cases hp:0 < symF symL s a
   ·repeat'(first|apply Sp.h|refine Lk.r rfl ?_|refine Rf.mk rfl ?_|refine xA ?_|refine xN ?_|refine xO ?_|(apply Cl.p (hsp);focus repeat' constructor))
    exact⟨_,_, .tup (.same (.same (.z))),_,a+symF symL s a,rfl,rfl,hq _ _ (by omega) (by omega) hsy⟩
   ·repeat'(first|apply Sp.h|refine Lk.r rfl ?_|refine Rf.mk rfl ?_|refine xB ?_|(apply Cl.p (hsp);focus repeat' constructor))
    refine CA.loop (fun b:Nat=>⟨[(0,sv s),(1, .val (.int .i64 a)),(6, .val (.int .i64 b))],[]⟩) (fun b=>a≤b∧b≤s.size) (fun b=>s.size - b) a xE ⟨Nat.le_refl _,by omega⟩ ?_
    rintro b ⟨hb1,hb2⟩
    by_cases hba:b=a
    ·subst hba
     repeat'(first|apply Sp.h|refine Lk.r rfl ?_|refine Rf.mk rfl ?_|refine xA ?_|refine xB ?_|(apply Sx.r;(focus exact rfl);(focus first|omega|(simp;omega)))|(apply Cl.p (white_p _);focus repeat' constructor)|(apply Cl.p (letter_p _);focus repeat' constructor))
     repeat'(first|apply Sp.h|refine Lk.r rfl ?_|refine Rf.mk rfl ?_|refine xA ?_|refine xB ?_|refine xO ?_|(apply Cl.p (digit_p _);focus repeat' constructor)|(apply Cl.p (hsp);focus repeat' constructor))
     exact PA.lp (b+1) xE ⟨⟨by omega,by omega⟩,by omega⟩
    ·have hsb:=symbol_p hs hb2
     repeat'(first|apply Sp.h|refine Lk.r rfl ?_|refine Rf.mk rfl ?_|refine xA ?_|refine xB ?_|(refine Bd.mk ?_ ?_ <;> intro _)|refine xN ?_|(apply Sx.r;(focus exact rfl);(focus first|omega|(simp;omega)))|(apply Cl.p (white_p _);focus repeat' constructor)|(apply Cl.p (letter_p _);focus repeat' constructor))
     all_goals repeat'(first|apply Sp.h|refine Lk.r rfl ?_|refine Rf.mk rfl ?_|refine xA ?_|refine xB ?_|(refine Bd.mk ?_ ?_ <;> intro _)|refine xN ?_|refine xO ?_|(apply Cl.p (digit_p _);focus repeat' constructor)|(apply Cl.p (hsb);focus repeat' constructor))
     all_goals first
      | exact PA.lp (b+1) xE ⟨⟨by omega,by omega⟩,by omega⟩
      | exact⟨_,_, .tup (.same (.same (.z))),_,b,rfl,rfl,hq _ _ (by omega) (by omega) hb2⟩
def FstQ(s:ByteArray)(l:List TokT)(a:Nat) : Prop:=∃(j b:Nat) (k:Int) (rest:List TokT),Skip s 0 j∧j < s.size∧TokQ s j k b∧l=(k,0,(j:Int),(b:Int)) :: rest∧b≤a∧(b=s.size→rest= [])
def ScanQ(s:ByteArray)(l:List TokT) : Prop:=(Skip s 0 s.size∧l.length=1)∨∃(l0:List TokT) (x:TokT) (a:Nat),l=l0 ++ [x]∧FstQ s l0 a
theorem scan_e(s:ByteArray) : CallA Tryz.prog 216 [sv s] [] fun r own=>∃(l:List TokT) (e:Int),r= .tup [.sl 4 l tokC, .val (.int .i64 e)]∧own= []∧((e≠0∧4096 < s.size)∨(e=0∧ScanQ s l)):=by
 refine CallA.of pg ordZ Tryz.func216 rfl Tryz.ntmps216 Tryz.results216 rfl fun h0 G0 O0=>?_
 repeat'(first|apply Sp.h|refine Lk.r rfl ?_|refine Rf.mk rfl ?_|apply Bd.mk|apply All.mk|(apply Fk.r;focus repeat' first|infer_instance|constructor)|refine xN ?_|refine Rf.mk ⟨rfl,rfl,rfl⟩ ?_|intro _)
 ·exact⟨_,_, .tup (.nilr (.same (.z))),[],_,rfl,rfl, .inl ⟨by omega,by omega⟩⟩
 rename_i hsz v
 have hs:s.size≤1000000000:=by omega
 apply CA.retype (m:=([]:List TokT)) (g:=tokC)
 focus(repeat constructor)
 focus rfl
 refine CA.loop (fun x:Nat×Value×List TokT=>⟨[(0,sv s),(5, .val (.int .i64 x.1)),(4, .ow x.2.1)],[arrR x.2.1 272 4 x.2.2 tokC]⟩) (fun x=>x.1≤s.size∧x.2.2.length≤x.1∧((x.1=0∧x.2.2= [])∨FstQ s x.2.2 x.1)) (fun x=>s.size - x.1) (0,v,[]) xE ⟨zZ _,Nat.le_refl _, .inl ⟨rfl,rfl⟩⟩ ?_
 rintro⟨a,v,l⟩ ⟨ha,hl,hfq⟩
 simp only at ha hl hfq
 obtain⟨j,hj⟩:=Skip.ex s _ a rfl
 obtain⟨hj1,hj2,hj3⟩:=hj.le ha
 have hsk:=skip_p hs ha hj
 by_cases hjl:j < s.size
 ·obtain⟨hj4,hj5⟩:=hj3 hjl
  have htk:=token_e hs hjl hj4 hj5
  repeat'(first|apply Sp.h|refine Lk.r rfl ?_|refine Rf.mk rfl ?_|refine xA ?_|(apply Cl.p (hsk);focus repeat' constructor))
  refine xW (htk) ?_
  rintro _ _ ⟨k,b,rfl,rfl,hq⟩
  have hb1:=hq.lt
  have hb2:=hq.le
  repeat'(first|apply Sp.h|refine Lk.r rfl ?_|refine Rf.mk rfl ?_|refine xP ?_|apply All.mk|refine xU ?_|refine Ce.r ?_|(apply Fk.r;focus repeat' first|infer_instance|constructor)|refine Rf.mk ⟨rfl,rfl⟩ ?_|refine Rf.mk ⟨rfl,rfl,rfl⟩ ?_|(apply Mp.lit;(focus repeat(first|exact MpL.nil|(apply MpL.cons;(focus rfl))|(apply MpL.inv;(focus repeat constructor);(focus infer_instance)))))|intro _)
  refine PA.lp (b,_,l ++ [(k,(a:Int),(j:Int),(b:Int))]) xE ⟨⟨hb2,by simp only [zP,List.length_singleton];omega, .inr ?_⟩,by simp only;omega⟩
  rcases hfq with⟨rfl,rfl⟩|⟨j0,b0,k0,rest,h1,h2,h3,rfl,h5,h6⟩
  ·exact⟨j,b,k,[],hj,hjl,hq,rfl,Nat.le_refl _,fun _=>rfl⟩
  ·exact⟨j0,b0,k0,rest ++ [(k,(a:Int),(j:Int),(b:Int))],h1,h2,h3,rfl,by omega,fun h=>by omega⟩
 ·repeat'(first|apply Sp.h|refine Lk.r rfl ?_|refine Rf.mk rfl ?_|refine xB ?_|refine xP ?_|refine All.mk fun _=>?_|refine xU ?_|refine Ce.r ?_|(apply Fk.r;focus repeat' first|infer_instance|constructor)|refine xN ?_|refine Rf.mk ⟨rfl,rfl⟩ ?_|refine Rf.mk ⟨rfl,rfl,rfl⟩ ?_|(apply Mp.lit;(focus repeat(first|exact MpL.nil|(apply MpL.cons;(focus rfl))|(apply MpL.inv;(focus repeat constructor);(focus infer_instance)))))|(apply Cl.p (hsk);focus repeat' constructor))
  refine⟨_,_, .tup (.fz (by repeat constructor) (by simp only [zP,List.length_singleton];omega) (.same (.z))),_,_,rfl,rfl, .inr ⟨rfl, ?_⟩⟩
  rcases hfq with⟨rfl,rfl⟩|hfq
  ·have:j=s.size:=by omega
   subst this
   exact .inl ⟨hj,rfl⟩
  ·exact .inr ⟨l,_,a,rfl,hfq⟩
theorem Skip.fst{s:ByteArray}{j:Nat}(h:Skip s 0 j)(hl:isLetter (byteAt s 0)) : j=0:=by
 unfold isLetter at hl
 cases h with
 | stop=>rfl
 | white _ _ h3 _=>unfold isWhite at h3;omega
 | com _ h2 _ _=>omega
theorem extract_all(s:ByteArray) : s.extract 0 s.size=s:=ByteArray.extract_zero_size
theorem kind_e(s:ByteArray) : CallA Tryz.prog 168 [sv s] [] fun r own=>∃k:Int,r= .val (.int .i64 k)∧own= []∧(s.size≤4096→(k=1↔NmW s)):=by
 refine CallA.of pg ordZ Tryz.func168 rfl Tryz.ntmps168 Tryz.results168 rfl fun h0 G0 O0=>?_
 repeat'(first|apply Sp.h|refine Lk.r rfl ?_|refine Rf.mk rfl ?_|fail)
 refine xW (scan_e s) ?_
 rintro _ _ ⟨l,e,rfl,rfl,hq⟩
 rcases hq with⟨he,hsz⟩|⟨rfl,hq⟩
 ·repeat'(first|apply Sp.h|refine Lk.r rfl ?_|refine Rf.mk rfl ?_|refine xB ?_|refine xN ?_|fail)
  all_goals exact⟨_,_, .one (.same (.z)),_,rfl,rfl,fun h=>by omega⟩
 have hno:¬(∃x y:TokT,l= [x,y]∧x.2.2.1=0∧x.2.2.2=s.size∧x.1=1)→¬NmW s:=by
  rintro hn ⟨h0,h1,h2,h3⟩
  apply hn
  rcases hq with⟨h4,-⟩|⟨l0,x,a,rfl,j,b,k,rest,h5,h6,h7,rfl,h8,h9⟩
  ·have:=h4.fst h1;omega
  ·have h10:=h5.fst h1
   subst h10
   have hb:b=s.size:=by
    have h11:=h7.le
    by_cases hlt:b < s.size
    ·exact absurd (h2 b (zZ _) hlt) ((h7.w h1).2 hlt)
    ·omega
   have:=h9 hb
   subst this
   subst hb
   refine⟨_,x,rfl,rfl,rfl,h7.nm.2 ⟨h1, ?_⟩⟩
   rw [extract_all];exact h3
 have hyes:∀x y:TokT,l= [x,y]→x.2.2.1=0→x.2.2.2=s.size→x.1=1→NmW s:=by
  rintro x y hxy h1 h2 h3
  rcases hq with⟨-,h4⟩|⟨l0,z,a,hl,j,b,k,rest,h5,h6,h7,rfl,h8,h9⟩
  ·rw [hxy] at h4;simp at h4
  ·rw [hxy,List.cons_append] at hl
   injection hl with hx hy
   subst hx
   simp only at h1 h2 h3
   have h10:j=0:=by omega
   have h11:b=s.size:=by omega
   subst h10;subst h11
   have h12:=h7.nm.1 h3
   refine⟨h6,h12.1,(h7.w h12.1).1, ?_⟩
   rw [extract_all] at h12;exact h12.2
 by_cases hl:l.length=2
 ·match l,hl with
  | [x,y],_ =>
   have hx: [x,y][0]?=some x:=rfl
   by_cases h1:x.2.2.1=0
   ·by_cases h2:x.2.2.2=s.size
    ·repeat'(first|apply Sp.h|refine Lk.r rfl ?_|refine Rf.mk rfl ?_|refine xA ?_|apply Im.mk|refine xI ?_|refine xN ?_|intro _)
     refine⟨_,_, .one (.same (.z)),_,rfl,rfl,fun _=>⟨fun h=>hyes x y rfl h1 h2 h,fun h=>Classical.byContradiction fun h3=>hno ?_ h⟩⟩
     rintro⟨x',y',he,-,-,h4⟩
     cases he;exact h3 h4
    ·repeat'(first|apply Sp.h|refine Lk.r rfl ?_|refine Rf.mk rfl ?_|refine xA ?_|refine xB ?_|apply Im.mk|refine xI ?_|refine xN ?_|intro _)
     refine⟨_,_, .one (.same (.z)),_,rfl,rfl,fun _=>⟨fun h=>by omega,fun h=>(hno ?_ h).elim⟩⟩
     rintro⟨x',y',he,-,h4,-⟩
     cases he;exact h2 h4
   ·repeat'(first|apply Sp.h|refine Lk.r rfl ?_|refine Rf.mk rfl ?_|refine xA ?_|refine xB ?_|apply Im.mk|refine xI ?_|refine xN ?_|intro _)
    refine⟨_,_, .one (.same (.z)),_,rfl,rfl,fun _=>⟨fun h=>by omega,fun h=>(hno ?_ h).elim⟩⟩
    rintro⟨x',y',he,h4,-,-⟩
    cases he;exact h1 h4
 ·repeat'(first|apply Sp.h|refine Lk.r rfl ?_|refine Rf.mk rfl ?_|refine xA ?_|refine xB ?_|apply Im.mk|refine xN ?_|intro _)
  refine⟨_,_, .one (.same (.z)),_,rfl,rfl,fun _=>⟨fun h=>by omega,fun h=>(hno ?_ h).elim⟩⟩
  rintro⟨x',y',rfl,-,-,-⟩
  exact hl rfl
theorem name_e(s:ByteArray) : CallP Tryz.prog 114 [sv s] (.val (.bool (decide (NmOK s)))):=by
 refine CallA.of pg ordZ Tryz.func114 rfl Tryz.ntmps114 Tryz.results114 rfl fun h0 G0 O0=>?_
 repeat'(first|apply Sp.h|refine Lk.r rfl ?_|refine Rf.mk rfl ?_|fail)
 refine xW (kind_e s) ?_
 rintro _ _ ⟨k,rfl,rfl,hk⟩
 repeat'(first|apply Sp.h|refine Lk.r rfl ?_|refine Rf.mk rfl ?_|refine xA ?_|refine xB ?_|apply Bd.mk|refine xN ?_|intro _)
 ·rename_i h
  refine Fin.p rfl (vb ?_)
  by_cases h9:s.size≤16
  ·rw [zT (show NmOK s from⟨(hk (by omega)).1 h,h9⟩)]
   exact zT (by omega)
  ·rw [zF (show¬NmOK s from fun h8=>h9 h8.2)]
   exact zF (by omega)
 ·rename_i h
  exact Fin.p rfl (vb (zF fun h8=>h ((hk (by have:=h8.2;omega)).2 h8.1)).symm)
theorem alli_succ{α:Type}{l:List α}{P:Nat→α→Prop}{i:Nat}{x:α}(hx:l[i]?=some x)(h:∀j y,j < i→l[j]?=some y→P j y)(hp:P i x) :∀j y,j < i+1→l[j]?=some y→P j y:=by
 intro j y h1 h2
 by_cases hj:j=i
 ·subst hj;rw [hx] at h2;cases h2;exact hp
 ·exact h j y (by omega) h2
theorem alli_all{α:Type}{l:List α}{P:Nat→α→Prop}(h:∀j y,j < l.length→l[j]?=some y→P j y) :∀j y,l[j]?=some y→P j y :=
 fun j y hy=>h j y (zS.1 hy).1 hy
noncomputable def sumK(sizes:List Int)(s:Bool)(l:List TblS) : Int:=(l.map fun t=>if decide (isStrict t.kind)=s then numF sizes t.cols else 0).sum
theorem sumK_succ{sizes:List Int}{s:Bool}{l:List TblS}{i:Nat}{t:TblS}(h:l[i]?=some t) : sumK sizes s (l.take (i+1))=sumK sizes s (l.take i)+if decide (isStrict t.kind)=s then numF sizes t.cols else 0:=by
 unfold sumK;rw [zK,h];simp
theorem sumK_le{sizes:List Int}{s:Bool}{l:List TblS} :∀i,0≤sumK sizes s (l.take i)∧sumK sizes s (l.take i)≤216 * i:=by
 intro i
 induction i with
 | zero=>simp [sumK]
 | succ i ih =>
  by_cases hi:i < l.length
  ·obtain⟨t,ht⟩:=get_of hi
   rw [sumK_succ ht]
   have:=num_le sizes t.cols
   split <;> omega
  ·rw [show l.take (i+1)=l.take i by rw [List.take_of_length_le (by omega),List.take_of_length_le (by omega)]]
   omega
structure TabX (sizes:List Int) (l:List TblS) (i:Nat) (t:TblS):Prop where
 nm:NmOK t.name
 df:∀j u,j < i→l[j]?=some u→u.name.toList≠t.name.toList
 ok:TabOK sizes t
 rg:t.kind=0∨t.kind=2∨t.kind=3→t.lo=0∧t.hi=1
 fs:t.first=sumK sizes (decide (isStrict t.kind)) (l.take i)
structure LayX (sizes:List Int) (l:List TblS):Prop where
 sz:sizes.length≤4
 so:Sound sizes
 tl:l.length≤12
 t:∀i t,l[i]?=some t→TabX sizes l i t
 s:sumK sizes true l≤128
 m:sumK sizes false l≤64
noncomputable instance (sizes:List Int) (l:List TblS):Decidable (LayX sizes l):=zC _
theorem LayX.ok{sizes:List Int}{l:List TblS}(h:LayX sizes l) : LayOK sizes l:=⟨h.sz,h.so,h.tl,fun t ht=>by obtain⟨i,hi⟩:=zO ht;exact(h.t i t hi).ok⟩
theorem num_z{sizes cols:List Int}(h:¬numF sizes cols≠0) :¬ColOK sizes cols:=by
 intro hc
 apply h
 unfold numF
 rw [if_pos hc]
 have:=prod_le hc.2.1 cols
 omega
theorem valid9_e(sizes:List Int)(l:List TblS) : CallP Tryz.prog 51 [ints sizes,tbls l] (.val (.bool (decide (LayX sizes l)))):=by
 refine CallA.of pg ord51 Tryz.func51 rfl Tryz.ntmps51 Tryz.results51 rfl fun h0 G0 O0=>?_
 by_cases h0:sizes.length≤4∧Sound sizes∧l.length≤12
 rotate_left
 ·have hn:¬LayX sizes l:=fun h=>h0 ⟨h.sz,h.so,h.tl⟩
  repeat'(first|apply Sp.h|refine Lk.r rfl ?_|refine Rf.mk rfl ?_|refine xA ?_|refine xB ?_|(refine Bd.mk ?_ ?_ <;> intro _)|refine Im.mk fun _=>?_|refine xN ?_|(apply Cl.p (sound_p _);focus repeat' constructor))
  all_goals first
   | exact Fin.p rfl (vb (zF hn).symm)
   | exact(h0 ⟨by omega,by assumption,by omega⟩).elim
 obtain⟨hsz,hs,htl⟩:=h0
 repeat'(first|apply Sp.h|refine Lk.r rfl ?_|refine Rf.mk rfl ?_|refine xA ?_|refine xB ?_|refine Im.mk fun _=>?_|(apply Cl.p (sound_p _);focus repeat' constructor))
 refine CA.loop (fun i:Nat=>⟨[(0,ints sizes),(1,tbls l),(5,it (sumK sizes true (l.take i))),(6,it (sumK sizes false (l.take i))),(7,it i)],[]⟩) (fun i=>i≤l.length∧∀j t,j < i→l[j]?=some t→TabX sizes l j t) (fun i=>l.length - i) 0 xE ⟨zZ _,fun j t h=>by omega⟩ ?_
 rintro i ⟨hi,ht⟩
 by_cases hin:i < l.length
 ·obtain⟨t,hti⟩:=get_of hin
  have hno:¬TabX sizes l i t→¬LayX sizes l:=fun h h2=>h (h2.t i t hti)
  have hsu:=sumK_succ (sizes:=sizes) (s:=true) hti
  have hsv:=sumK_succ (sizes:=sizes) (s:=false) hti
  have hlu:=sumK_le (sizes:=sizes) (s:=true) (l:=l) i
  have hlv:=sumK_le (sizes:=sizes) (s:=false) (l:=l) i
  repeat'(first|apply Sp.h|refine Lk.r rfl ?_|refine Rf.mk rfl ?_|refine xA ?_|apply Im.mk|apply All.mk|refine xT ?_|refine xI ?_|refine Ch.l ⟨rfl,rfl⟩ ?_|(apply SetAsk.r;focus repeat' constructor)|refine xN ?_|intro _)
  rename_i b8
  refine CA.loop (fun k:Nat=>⟨[(0,ints sizes),(1,tbls l),(5,it (sumK sizes true (l.take i))),(6,it (sumK sizes false (l.take i))),(7,it i),(8, .val (.pointer (some ⟨b8,0,none⟩))),(9,it k)],[blkR b8 150 (tblC t)]⟩) (fun k=>k≤i∧∀j u,j < k→l[j]?=some u→u.name.toList≠t.name.toList) (fun k=>i - k) 0 xE ⟨zZ _,fun j u h=>by omega⟩ ?_
  rintro k ⟨hk,hdf⟩
  by_cases hki:k < i
  ·obtain⟨u,hu⟩:=get_of (l:=l) (i:=k) (by omega)
   repeat'(first|apply Sp.h|refine Lk.r rfl ?_|refine Rf.mk rfl ?_|refine xA ?_|apply Bd.mk|refine OpK.r rfl ?_|refine xT ?_|refine xI ?_|refine xN ?_|refine xD ?_|refine xO ?_|intro _)
   ·rename_i hx
    exact Fin.p rfl (vb (zF (hno fun h=>h.df k u hki hu hx)).symm)
   ·rename_i hx
    exact PA.lp (k+1) xE ⟨⟨hki,alli_succ hu hdf hx⟩,by omega⟩
  ·have hke:k=i:=by omega
   subst hke
   have hn:=num_le sizes t.cols
   by_cases hT:TabX sizes l k t
   ·have hnm:=hT.nm
    obtain⟨hc,hk0,hk5,hlo,hlh,hhi⟩:=hT.ok
    have hrg:=hT.rg
    have hfs:=hT.fs
    have hn0:numF sizes t.cols≠0:=fun h=>num_z (fun h2=>h2 h) hc
    by_cases hst:isStrict t.kind
    ·rw [zT hst] at hfs hsu hsv
     rw [if_pos rfl] at hsu
     rw [if_neg (by simp)] at hsv
     repeat'(first|apply Sp.h|refine Lk.r rfl ?_|refine Rf.mk rfl ?_|refine xA ?_|refine xB ?_|(refine Bd.mk ?_ ?_ <;> intro _)|refine xT ?_|refine xO ?_|(apply Cl.p (number_p _ _);focus(repeat' constructor);done)|(apply Cl.p (name_e _);focus(repeat' constructor);done)|(apply Cl.p (strict9_p _);focus(repeat' constructor);done)|(apply Cl.p (number_p sizes _);focus(repeat' constructor);done))
     all_goals try exact(by omega:False).elim
     all_goals
      rw [←hsu]
      rw [show sumK sizes false (l.take k)=sumK sizes false (l.take (k+1)) by omega]
      exact PA.lp (k+1) xE ⟨⟨hin,alli_succ hti ht hT⟩,by omega⟩
    ·rw [zF hst] at hfs hsu hsv
     rw [if_pos rfl] at hsv
     rw [if_neg (by simp)] at hsu
     repeat'(first|apply Sp.h|refine Lk.r rfl ?_|refine Rf.mk rfl ?_|refine xA ?_|refine xB ?_|(refine Bd.mk ?_ ?_ <;> intro _)|refine xT ?_|refine xO ?_|(apply Cl.p (number_p _ _);focus(repeat' constructor);done)|(apply Cl.p (name_e _);focus(repeat' constructor);done)|(apply Cl.p (strict9_p _);focus(repeat' constructor);done)|(apply Cl.p (number_p sizes _);focus(repeat' constructor);done))
     all_goals try exact(by omega:False).elim
     all_goals
      rw [←hsv]
      rw [show sumK sizes true (l.take k)=sumK sizes true (l.take (k+1)) by omega]
      exact PA.lp (k+1) xE ⟨⟨hin,alli_succ hti ht hT⟩,by omega⟩
   ·have hno:=hno hT
    have hst0:isStrict t.kind↔t.kind=0∨t.kind=1:=Iff.rfl
    repeat'(first|apply Sp.h|refine Lk.r rfl ?_|refine Rf.mk rfl ?_|refine xA ?_|refine xB ?_|(refine Bd.mk ?_ ?_ <;> intro _)|refine xT ?_|refine xN ?_|refine xO ?_|(apply Cl.p (number_p _ _);focus(repeat' constructor);done)|(apply Cl.p (name_e _);focus(repeat' constructor);done)|(apply Cl.p (strict9_p _);focus(repeat' constructor);done)|(apply Cl.p (number_p sizes _);focus(repeat' constructor);done))
    all_goals try exact Fin.p rfl (vb (zF hno).symm)
    all_goals exact(hT ⟨by assumption,hdf,⟨num_ne (by assumption),by omega,by omega,by omega,by omega,by omega⟩,fun h=>by omega,by first|(rw [zT (by assumption)];omega)|(rw [zF (by assumption)];omega)⟩).elim
 ·have:i=l.length:=by omega
  subst this
  rw [zL]
  have ht:=alli_all ht
  repeat'(first|apply Sp.h|refine Lk.r rfl ?_|refine Rf.mk rfl ?_|refine xA ?_|refine xB ?_|apply Bd.mk|apply Im.mk|refine xN ?_|intro _)
  ·rename_i h
   refine Fin.p rfl (vb ?_)
   by_cases h9:sumK sizes false l≤64
   ·rw [zT h9,zT (show LayX sizes l from⟨hsz,hs,htl,ht,by omega,h9⟩)]
   ·rw [zF h9,zF (fun h8:LayX sizes l=>h9 h8.m)]
  ·rename_i h
   exact Fin.p rfl (vb (zF fun h8=>h h8.s).symm)
noncomputable def rngL(sizes:List Int)(s:Bool)(l:List TblS) : List (Int×Int):=l.flatMap fun t=>if decide (isStrict t.kind)=s then List.replicate (numF sizes t.cols).toNat (t.lo,t.hi) else []
noncomputable def rngF(sizes:List Int)(s:Bool)(l:List TblS) : List (Int×Int):=if LayX sizes l then rngL sizes s l else []
theorem rngL_succ{sizes:List Int}{s:Bool}{l:List TblS}{i:Nat}{t:TblS}(h:l[i]?=some t) : rngL sizes s (l.take (i+1))=rngL sizes s (l.take i) ++ if decide (isStrict t.kind)=s then List.replicate (numF sizes t.cols).toNat (t.lo,t.hi) else []:=by
 unfold rngL;rw [zK,h];simp
theorem rngL_len(sizes:List Int)(s:Bool)(l:List TblS) : ((rngL sizes s l).length:Int)=sumK sizes s l:=by
 unfold rngL sumK
 induction l with
 | nil=>rfl
 | cons t l ih =>
  rw [List.flatMap_cons,zP,List.map_cons,List.sum_cons,←ih]
  have:=num_le sizes t.cols
  split
  ·rw [zR];omega
  ·simp
theorem rngF_len{sizes:List Int}{l:List TblS}{s:Bool} : (rngF sizes s l).length≤128:=by
 unfold rngF
 split
 ·rename_i h
  have:=rngL_len sizes s l
  cases s
  ·have:=h.m;omega
  ·have:=h.s;omega
 ·simp
theorem rngF_ok{sizes:List Int}{l:List TblS}{s:Bool} : RgOK (rngF sizes s l):=by
 unfold rngF
 split
 ·rename_i h
  intro p hp
  unfold rngL at hp
  obtain⟨t,ht,hp⟩:=List.mem_flatMap.1 hp
  split at hp
  ·have:=(h.ok.2.2.2 t ht).2
   rw [(List.mem_replicate.1 hp).2]
   simp only
   omega
  ·cases hp
 ·intro p hp;cases hp
theorem ranges_e(sizes:List Int)(l:List TblS)(s:Bool) : CallP Tryz.prog 169 [ints sizes,tbls l, .val (.bool s)] (.sl 2 (rngF sizes s l) rngC):=by
  have hv9:=valid9_e sizes l
  refine CallA.of pg ordZ Tryz.func169 rfl Tryz.ntmps169 Tryz.results169 rfl fun h0 G0 O0=>?_
  by_cases hlx:LayX sizes l
  rotate_left
  · rw [rngF,if_neg hlx]
    repeat'(first|apply Sp.h|refine Lk.r rfl ?_|refine Rf.mk rfl ?_|apply All.mk|(apply Fk.r;focus repeat' first|infer_instance|constructor)|refine Rf.mk ⟨rfl,rfl,rfl⟩ ?_|intro _)
    refine xQ (hv9) ?_
    apply OA.retype (m:=([]:List (Int×Int))) (g:=rngC)
    focus(repeat constructor)
    focus rfl
    repeat'(first|apply Sp.h|refine Lk.r rfl ?_|refine Rf.mk rfl ?_|refine xB ?_|refine xN ?_|fail)
    exact⟨_,_, .one (.fz (by repeat constructor) (by simp) (.z)),rfl,rfl⟩
  have hlen:=rngF_len (sizes:=sizes) (l:=l) (s:=s)
  rw [rngF,if_pos hlx] at hlen ⊢
  have hll:=hlx.tl
  repeat'(first|apply Sp.h|refine Lk.r rfl ?_|refine Rf.mk rfl ?_|refine xA ?_|refine All.mk fun _=>?_|(apply Fk.r;focus repeat' first|infer_instance|constructor)|refine Rf.mk ⟨rfl,rfl,rfl⟩ ?_|(apply Cl.p (hv9);focus repeat' constructor))
  rename_i v
  apply CA.retype (m:=([]:List (Int×Int))) (g:=rngC)
  focus(repeat constructor)
  focus rfl
  refine CA.loop (fun x:Nat×Value=>⟨[(0,ints sizes),(1,tbls l),(2, .val (.bool s)),(7, .ow x.2),(8,it x.1)],[arrR x.2 148 2 (rngL sizes s (l.take x.1)) rngC]⟩) (fun x=>x.1≤l.length) (fun x=>l.length - x.1) (0,v) xE (zZ _) ?_
  rintro⟨i,v⟩ hi
  simp only at hi
  simp only
  have hli:((rngL sizes s (l.take i)).length:Int)≤216 * i:=by rw [rngL_len];exact(sumK_le i).2
  by_cases hin:i < l.length
  · obtain⟨t,ht⟩:=get_of hin
    have hn:=num_le sizes t.cols
    have hsu:=rngL_succ (sizes:=sizes) (s:=s) ht
    repeat'(first|apply Sp.h|refine Lk.r rfl ?_|refine Rf.mk rfl ?_|refine xA ?_|apply Im.mk|intro _)
    refine CA.loop (fun x:Nat×Value=>⟨[(0,ints sizes),(1,tbls l),(2, .val (.bool s)),(7, .ow x.2),(8,it i),(9,it x.1)],[arrR x.2 148 2 (rngL sizes s (l.take i) ++ List.replicate x.1 (t.lo,t.hi)) rngC]⟩) (fun x=>(x.1:Int)≤numF sizes t.cols∧(decide (isStrict t.kind)≠s→x.1=0)) (fun x=>(numF sizes t.cols).toNat - x.1) (0,v) ?_ ⟨by simp only;omega,fun _=>rfl⟩ ?_
    · simp only [List.replicate_zero,List.append_nil]
      exact xE
    rintro⟨k,v⟩ ⟨hk,hk0⟩
    simp only at hk hk0
    simp only
    by_cases hst:decide (isStrict t.kind)=s
    · rw [if_pos hst] at hsu
      by_cases hkn:(k:Int) < numF sizes t.cols
      · repeat'(first|apply Sp.h|refine Lk.r rfl ?_|refine Rf.mk rfl ?_|refine xA ?_|refine xP ?_|refine All.mk fun _=>?_|refine xU ?_|refine xI ?_|refine Ce.r ?_|refine Ch.r ?_|(apply Fk.r;focus repeat' first|infer_instance|constructor)|refine Rf.mk ⟨rfl,rfl⟩ ?_|refine Rf.mk ⟨rfl,rfl,rfl⟩ ?_|(apply Mp.lit;(focus repeat(first|exact MpL.nil|(apply MpL.cons;(focus rfl))|(apply MpL.inv;(focus repeat constructor);(focus infer_instance)))))|refine xO ?_|(apply Cl.p (strict9_p _);focus repeat' constructor)|(apply Cl.p (number_p _ _);focus repeat' constructor))
        all_goals first
          | (rw [List.append_assoc,show List.replicate k (t.lo,t.hi) ++ [(t.lo,t.hi)]=List.replicate (k+1) (t.lo,t.hi) from List.replicate_succ'.symm]
             exact PA.lp (k+1,_) xE ⟨⟨by simp only;omega,fun h=>absurd hst h⟩,by simp only;omega⟩)
          | exact absurd hst (by assumption)
      · have hke:k=(numF sizes t.cols).toNat:=by omega
        subst hke
        rw [←hsu]
        repeat'(first|apply Sp.h|refine Lk.r rfl ?_|refine Rf.mk rfl ?_|refine xA ?_|refine xB ?_|refine xI ?_|refine xO ?_|(apply Cl.p (strict9_p _);focus repeat' constructor)|(apply Cl.p (number_p _ _);focus repeat' constructor))
        all_goals first
          | exact PA.lp (i+1,v) xE ⟨hin,by simp only;omega⟩
          | exact absurd hst (by assumption)
    · have hk0:=hk0 hst
      subst hk0
      rw [if_neg hst,List.append_nil] at hsu
      simp only [List.replicate_zero,List.append_nil]
      repeat'(first|apply Sp.h|refine Lk.r rfl ?_|refine Rf.mk rfl ?_|refine xB ?_|refine xI ?_|refine xO ?_|(apply Cl.p (strict9_p _);focus repeat' constructor)|(apply Cl.p (number_p _ _);focus repeat' constructor))
      all_goals first
        | (rw [←hsu]
           exact PA.lp (i+1,v) xE ⟨hin,by simp only;omega⟩)
        | exact absurd (by assumption) hst
  · have:i=l.length:=by omega
    subst this
    rw [zL]
    repeat'(first|apply Sp.h|refine Lk.r rfl ?_|refine Rf.mk rfl ?_|refine xB ?_|apply Im.mk|refine xN ?_|intro _)
    exact⟨_,_, .one (.fz (by repeat constructor) (by omega) (.z)),rfl,rfl⟩
def nthF(sizes:List Int) : List Int→Int→List Int×Int
 | [],k=>([],k)
 | c :: cs,k=>let q:=nthF sizes cs k;((q.2 % sizes[c.toNat]?.getD 1) :: q.1,q.2 / sizes[c.toNat]?.getD 1)
theorem nthF_len(sizes:List Int)(k:Int) :∀cols,(nthF sizes cols k).1.length=cols.length:=by
 intro cols
 induction cols with
 | nil=>rfl
 | cons c cs ih=>simp [nthF,ih]
theorem nthF_le{sizes:List Int}(hs:Sound sizes){k:Int}(hk:0≤k) :∀cols,0≤(nthF sizes cols k).2∧(nthF sizes cols k).2≤k:=by
 intro cols
 induction cols with
 | nil=>exact⟨hk,Int.le_refl _⟩
 | cons c cs ih =>
  simp only [nthF]
  have hy:1≤sizes[c.toNat]?.getD 1:=by
   cases h:sizes[c.toNat]? with
   | none=>simp
   | some y=>exact(hs y (zM h)).1
  exact⟨Int.ediv_nonneg ih.1 (by omega),Int.le_trans (Int.ediv_le_self _ ih.1) ih.2⟩
theorem set_repl{α:Type}(i:Nat)(a b:α)(r:List α) : (List.replicate (i+1) a ++ r).set i b=List.replicate i a ++ b :: r:=by
 rw [List.replicate_succ',List.append_assoc,List.set_append_right _ _ (by simp)]
 simp
theorem nth_e(sizes cols:List Int)(k:Int)(h:ColOK sizes cols)(hk:0≤k∧k≤1000) : CallP Tryz.prog 217 [ints sizes,ints cols,it k] (ints (nthF sizes cols k).1):=by
 have hl:=h.1
 refine CallA.of pg ordZ Tryz.func217 rfl Tryz.ntmps217 Tryz.results217 rfl fun h0 G0 O0=>?_
 repeat'(first|apply Sp.h|refine Lk.r rfl ?_|refine Rf.mk rfl ?_|apply Im.mk|apply All.mk|refine xN ?_|refine Rf.mk ⟨rfl,rfl,rfl⟩ ?_|(apply Jx.r;(focus exact rfl);(focus first|omega|(simp;done)|(simp;omega)))|refine MkS.r intC 0 rfl ?_|refine xO ?_|intro _)
 rename_i v _
 refine CA.loop (fun i:Nat=>⟨[(0,ints sizes),(1,ints cols),(2,it (nthF sizes (cols.drop i) k).2),(7, .ow v),(8,it ((i:Int) - 1))],[arrR v 3 1 (List.replicate i 0 ++ (nthF sizes (cols.drop i) k).1) intC]⟩) (fun i=>i≤cols.length) (fun i=>i) cols.length ?_ (Nat.le_refl _) ?_
 ·rw [List.drop_length]
  simp only [nthF,List.append_nil]
  exact xE
 intro i hi
 cases i with
 | zero =>
  rw [List.drop_zero]
  repeat'(first|apply Sp.h|refine Lk.r rfl ?_|refine Rf.mk rfl ?_|refine xB ?_|refine xN ?_|fail)
  exact⟨_,_, .one (.fz (by repeat constructor) (by simp [nthF_len];omega) (.z)),rfl,rfl⟩
 | succ i =>
  obtain⟨x,hx⟩:=get_of (l:=cols) (i:=i) (by omega)
  obtain⟨j,rfl,y,hy,hy1,hy2⟩:=col_get h hx
  have hle:=nthF_le h.2.1 hk.1 (cols.drop (i+1))
  have hlen:=nthF_len sizes k (cols.drop (i+1))
  obtain⟨q,hq⟩:∃q,nthF sizes (cols.drop (i+1)) k=q:=⟨_,rfl⟩
  have hd:nthF sizes (cols.drop i) k=(q.2 % y :: q.1,q.2 / y):=by
   rw [List.drop_eq_getElem_cons (by omega),(zS.1 hx).2]
   simp only [nthF,hq,Int.toNat_natCast,hy,Option.getD_some]
  have hz:(List.replicate (i+1) (0:Int) ++ q.1)[i]?=some 0:=by
   rw [zI (by simp),List.getElem?_replicate,if_pos (by omega)]
  rw [hq] at hle hlen ⊢
  obtain⟨q1,q2⟩:=q
  simp only at hle hlen hd hz ⊢
  have e:(((i+1:Nat):Int) - 1)=(i:Int):=by omega
  rw [e]
  repeat'(first|apply Sp.h|refine Lk.r rfl ?_|refine Rf.mk rfl ?_|refine xA ?_|refine xP ?_|refine xU ?_|refine xI ?_|refine xJ ?_|refine xV ?_|refine Up.r rfl ?_|refine xO ?_|fail)
  rw [set_repl]
  refine PA.lp i ?_ ⟨by omega,by omega⟩
  rw [hd]
  exact xE
def CelIn(sizes:List Int)(s:Bool)(cell:Int)(t:TblS) : Prop:=decide (isStrict t.kind)=s∧0≤cell - t.first∧cell - t.first < numF sizes t.cols
noncomputable instance (sizes:List Int) (s:Bool) (cell:Int) (t:TblS):Decidable (CelIn sizes s cell t):=zC _
noncomputable def tabF(sizes:List Int)(s:Bool)(l:List TblS)(cell:Int) : Option Nat:=l.findIdx? fun t=>decide (CelIn sizes s cell t)
noncomputable def tupF(sizes:List Int)(l:List TblS)(s:Bool)(cell:Int) : Option (Nat×List Int) :=
 if LayX sizes l∧0≤cell then(tabF sizes s l cell).bind fun i=>(l[i]?).map fun t=>(i,(nthF sizes t.cols (cell - t.first)).1) else none
def tupA : Option (Nat×List Int)→AV
 | some (i,q)=> .tup [it i,ints q, .val (.bool true)]
 | none=> .tup [it 0,ints [], .val (.bool false)]
theorem findIdx_at{α:Type}{p:α→Bool} :∀{l:List α} {i:Nat} {x:α},l[i]?=some x→p x=true→(∀j y,j < i→l[j]?=some y→p y=false)→l.findIdx? p=some i:=by
 intro l
 induction l with
 | nil=>intro i x h;cases h
 | cons a l ih =>
  intro i x h1 h2 h3
  cases i with
  | zero=>cases h1;simp [List.findIdx?_cons,h2]
  | succ i =>
   have h4:=h3 0 a (by omega) rfl
   rw [List.findIdx?_cons,h4,ih h1 h2 fun j y hj hy=>h3 (j+1) y (by omega) hy]
   rfl
theorem findIdx_no{α:Type}{p:α→Bool}{l:List α}(h:∀(j:Nat) (y:α),l[j]?=some y→p y=false) : l.findIdx? p=none:=by
 rw [List.findIdx?_eq_none_iff]
 intro y hy
 obtain⟨j,hj⟩:=zO hy
 exact h j y hj
theorem tupF_at{sizes:List Int}{l:List TblS}{s:Bool}{cell:Int}(hl:LayX sizes l)(hc:0≤cell){i:Nat}{t:TblS}(ht:l[i]?=some t)(h1:CelIn sizes s cell t)(h2:∀j y,j < i→l[j]?=some y→¬CelIn sizes s cell y) : tupF sizes l s cell=some (i,(nthF sizes t.cols (cell - t.first)).1):=by
 rw [tupF,if_pos ⟨hl,hc⟩,tabF,findIdx_at ht (zT h1) fun j y hj hy=>zF (h2 j y hj hy),Option.bind_some,ht]
 rfl
theorem tupF_no{sizes:List Int}{l:List TblS}{s:Bool}{cell:Int}(h2:0≤cell→∀(j:Nat) (y:TblS),l[j]?=some y→¬CelIn sizes s cell y) : tupF sizes l s cell=none:=by
 unfold tupF
 split
 ·rename_i h
  rw [tabF,findIdx_no fun j y hy=>zF (h2 h.2 j y hy)]
  rfl
 ·rfl
theorem LayX.first{sizes:List Int}{l:List TblS}(h:LayX sizes l){i:Nat}{t:TblS}(ht:l[i]?=some t) : 0≤t.first∧t.first≤2592:=by
 have h1:=(h.t i t ht).fs
 have h2:=sumK_le (sizes:=sizes) (s:=decide (isStrict t.kind)) (l:=l) i
 have h3:=(zS.1 ht).1
 have h4:=h.tl
 omega
theorem tuple_e(sizes:List Int)(l:List TblS)(s:Bool)(cell:Int)(hce:cell≤9223372036854775807) : CallP Tryz.prog 171 [ints sizes,tbls l, .val (.bool s),it cell] (tupA (tupF sizes l s cell)):=by
 have hv9:=valid9_e sizes l
 refine CallA.of pg ordZ Tryz.func171 rfl Tryz.ntmps171 Tryz.results171 rfl fun h0 G0 O0=>?_
 by_cases hx:LayX sizes l
 rotate_left
 ·rw [tupF,if_neg fun h=>hx h.1]
  repeat'(first|apply Sp.h|refine Lk.r rfl ?_|refine Rf.mk rfl ?_|refine xB ?_|refine xN ?_|(apply Cl.p (hv9);focus repeat' constructor))
  exact⟨_,_, .tup (.same (.nilr (.same (.z)))),rfl,rfl⟩
 repeat'(first|apply Sp.h|refine Lk.r rfl ?_|refine Rf.mk rfl ?_|refine xA ?_|(apply Cl.p (hv9);focus repeat' constructor))
 have hll:=hx.tl
 refine CA.loop (fun i:Nat=>⟨[(0,ints sizes),(1,tbls l),(2, .val (.bool s)),(3,it cell),(11,it i)],[]⟩) (fun i=>i≤l.length∧∀j t,j < i→l[j]?=some t→0≤cell→¬CelIn sizes s cell t) (fun i=>l.length - i) 0 xE ⟨zZ _,fun j t h=>by omega⟩ ?_
 rintro i ⟨hi,hno⟩
 by_cases hin:i < l.length
 ·obtain⟨t,ht⟩:=get_of hin
  have hT:=(hx.t i t ht).ok
  have hf:=hx.first ht
  have hn:=num_le sizes t.cols
  repeat'(first|apply Sp.h|refine Lk.r rfl ?_|refine Rf.mk rfl ?_|refine xA ?_|apply Im.mk|refine xI ?_|intro _)
  apply Ov.w
  intro r hr1 hr2 hr3
  by_cases hc:0≤cell
  ·have hr:r=cell - t.first:=by omega
   by_cases hin2:CelIn sizes s cell t
   ·obtain⟨g1,g2,g3⟩:=hin2
    have hnt:=nth_e sizes t.cols r hT.1 (by omega)
    have hres:=tupF_at hx hc ht ⟨g1,g2,g3⟩ fun j y hj hy=>hno j y hj hy hc
    rw [hres,←hr]
    repeat'(first|apply Sp.h|refine Lk.r rfl ?_|refine Rf.mk rfl ?_|refine xA ?_|refine xI ?_|refine xN ?_|(apply Cl.p (strict9_p _);focus(repeat' constructor);done)|(apply Cl.p (number_p _ _);focus(repeat' constructor);done)|(apply Cl.p (hnt);focus(repeat' constructor);done))
    all_goals first
     | exact⟨_,_, .tup (.same (.same (.same (.z)))),rfl,rfl⟩
     | exact absurd g1 (by assumption)
     | exact absurd (by assumption) (by assumption)
     | omega
   ·have hin3:∀h1:decide (isStrict t.kind)=s,¬(0≤r∧r < numF sizes t.cols):=fun h1 h2=>hin2 ⟨h1,by omega,by omega⟩
    have hgo:=alli_succ ht hno (fun _=>hin2)
    repeat'(first|apply Sp.h|refine Lk.r rfl ?_|refine Rf.mk rfl ?_|refine xA ?_|refine xB ?_|(refine Bd.mk ?_ ?_ <;> intro _)|refine xI ?_|refine xO ?_|(apply Cl.p (strict9_p _);focus(repeat' constructor);done)|(apply Cl.p (number_p _ _);focus(repeat' constructor);done)|(apply Cl.p (number_p _ _);focus(repeat' constructor);done))
    all_goals first
     | exact PA.lp (i+1) xE ⟨⟨hin,hgo⟩,by omega⟩
     | exact absurd ⟨by assumption,by assumption⟩ (hin3 (by assumption))
     | exact absurd ⟨by omega,by omega⟩ (hin3 (by assumption))
  ·have hgo:=alli_succ ht hno (fun h=>absurd h hc)
   repeat'(first|apply Sp.h|refine Lk.r rfl ?_|refine Rf.mk rfl ?_|refine xA ?_|refine xB ?_|(refine Bd.mk ?_ ?_ <;> intro _)|refine xI ?_|refine xO ?_|(apply Cl.p (strict9_p _);focus(repeat' constructor);done)|(apply Cl.p (number_p _ _);focus(repeat' constructor);done)|(apply Cl.p (number_p _ _);focus(repeat' constructor);done))
   all_goals exact PA.lp (i+1) xE ⟨⟨hin,hgo⟩,by omega⟩
 ·have:i=l.length:=by omega
  subst this
  rw [tupF_no fun hc j y hy=>hno j y (zS.1 hy).1 hy hc]
  repeat'(first|apply Sp.h|refine Lk.r rfl ?_|refine Rf.mk rfl ?_|refine xB ?_|apply Im.mk|refine xN ?_|intro _)
  exact⟨_,_, .tup (.same (.nilr (.same (.z)))),rfl,rfl⟩
def DisX(l:List ByteArray) : Prop:=∀(i:Nat) (s:ByteArray),l[i]?=some s→NmOK s∧∀(j:Nat) (q:ByteArray),j < i→l[j]?=some q→q.toList≠s.toList
noncomputable instance (l:List ByteArray):Decidable (DisX l):=zC _
theorem has_take{l:List ByteArray}{i:Nat}{s:ByteArray}(hi:i≤l.length) :¬HasS (l.take i) s↔∀(j:Nat) (q:ByteArray),j < i→l[j]?=some q→q.toList≠s.toList:=by
 constructor
 ·intro h j q hj hq he
  exact h ⟨q,zM (i:=j) (by rw [List.getElem?_take_of_lt hj];exact hq),he⟩
 ·rintro h ⟨q,hq,he⟩
  obtain⟨j,hj⟩:=zO hq
  have hlt:=(zS.1 hj).1
  rw [zN] at hlt
  rw [List.getElem?_take_of_lt (by omega)] at hj
  exact h j q (by omega) hj he
theorem distinct_e(l:List ByteArray) : CallP Tryz.prog 52 [.sl 1 l strC] (.val (.bool (decide (DisX l)))):=by
 refine CallA.of pg ord52 Tryz.func52 rfl Tryz.ntmps52 Tryz.results52 rfl fun h0 G0 O0=>?_
 repeat'(first|apply Sp.h|refine Lk.r rfl ?_|refine Rf.mk rfl ?_|fail)
 refine CA.loop (fun i:Nat=>⟨[(0, .sl 1 l strC),(3,it i)],[]⟩) (fun i=>i≤l.length∧∀j s,j < i→l[j]?=some s→NmOK s∧∀k q,k < j→l[k]?=some q→q.toList≠s.toList) (fun i=>l.length - i) 0 xE ⟨zZ _,fun j s h=>by omega⟩ ?_
 rintro i ⟨hi,ha⟩
 by_cases hin:i < l.length
 ·obtain⟨s,hs⟩:=get_of hin
  have hht:=has_take (l:=l) (s:=s) hi
  have hhp:=has_p (l.take i) s
  repeat'(first|apply Sp.h|refine Lk.r rfl ?_|refine Rf.mk rfl ?_|refine xA ?_|refine xB ?_|(refine Bd.mk ?_ ?_ <;> intro _)|refine OpK.r rfl ?_|refine Im.mk fun _=>?_|refine xI ?_|refine xN ?_|(apply Jx.r;(focus exact rfl);(focus first|omega|(simp;done)|(simp;omega)))|refine xD ?_|refine xO ?_|(apply Cl.p (name_e s);focus repeat' constructor)|(apply Cl.p (hhp);focus repeat' constructor))
  all_goals first
   | exact PA.lp (i+1) xE ⟨⟨hin,alli_succ hs ha ⟨by assumption,hht.1 (by assumption)⟩⟩,by omega⟩
   | exact Fin.p rfl (vb (zF fun h:DisX l=>absurd (h i s hs).1 (by assumption)).symm)
   | exact Fin.p rfl (vb (zF fun h:DisX l=>absurd (by assumption) (hht.2 (h i s hs).2)).symm)
 ·have:i=l.length:=by omega
  subst this
  repeat'(first|apply Sp.h|refine Lk.r rfl ?_|refine Rf.mk rfl ?_|refine xB ?_|apply Im.mk|refine xN ?_|intro _)
  exact Fin.p rfl (vb (zT (show DisX l from alli_all ha)).symm)
structure TrmX (n:Int) (l:List (Int×Int)) (i:Nat) (p:Int×Int):Prop where
 a:0≤p.1
 b:p.1 < n
 c:p.2≠0
 d: -1000≤p.2∧p.2≤1000
 e:∀q,0 < i→l[i - 1]?=some q→q.1 < p.1
structure RowX (n:Int) (r:RowS):Prop where
 t:∀i p,r.terms[i]?=some p→TrmX n r.terms i p
 b: -1000000000≤r.bound∧r.bound≤1000000000
noncomputable instance (n:Int) (r:RowS):Decidable (RowX n r):=zC _
theorem row_e(r:RowS)(n:Int) : CallP Tryz.prog 119 [.agg (rowC r),it n] (.val (.bool (decide (RowX n r)))):=by
 have hb1:=between13_p r.bound 1000000000 (by omega)
 refine CallA.of pg ord119 Tryz.func119 rfl Tryz.ntmps119 Tryz.results119 rfl fun h0 G0 O0=>?_
 repeat'(first|apply Sp.h|refine Lk.r rfl ?_|refine Rf.mk rfl ?_|apply All.mk|intro _)
 rename_i b2
 refine CA.loop (fun i:Nat=>⟨[(1,it n),(2, .val (.pointer (some ⟨b2,0,none⟩))),(5,it i)],[blkR b2 170 (rowC r)]⟩) (fun i=>i≤r.terms.length∧∀j p,j < i→r.terms[j]?=some p→TrmX n r.terms j p) (fun i=>r.terms.length - i) 0 xE ⟨zZ _,fun j p h=>by omega⟩ ?_
 rintro i ⟨hi,ha⟩
 by_cases hin:i < r.terms.length
 ·obtain⟨p,hp⟩:=get_of hin
  have hbp:=between13_p p.2 1000 (by omega)
  by_cases hT:TrmX n r.terms i p
  ·obtain⟨g1,g2,g3,g4,g5⟩:=hT
   rcases Nat.eq_zero_or_pos i with h0|h0
   ·subst h0
    repeat'(first|apply Sp.h|refine Lk.r rfl ?_|refine Rf.mk rfl ?_|refine xA ?_|refine xB ?_|refine OpK.r rfl ?_|refine Im.mk fun _=>?_|refine All.mk fun _=>?_|refine xT ?_|refine xI ?_|refine Ch.l ⟨rfl,rfl⟩ ?_|(apply SetAsk.r;focus repeat' constructor)|refine xN ?_|refine xD ?_|refine xO ?_|(apply Cl.p (hbp);focus repeat' constructor))
    exact PA.lp 1 xE ⟨⟨hin,alli_succ hp ha ⟨g1,g2,g3,g4,g5⟩⟩,by omega⟩
   ·obtain⟨k,rfl⟩:∃k,i=k+1:=⟨i - 1,by omega⟩
    obtain⟨q,hq⟩:=get_of (l:=r.terms) (i:=k) (by omega)
    have hqp:=g5 q h0 hq
    repeat'(first|apply Sp.h|refine Lk.r rfl ?_|refine Rf.mk rfl ?_|refine xA ?_|refine xB ?_|refine OpK.r rfl ?_|refine Im.mk fun _=>?_|refine All.mk fun _=>?_|refine xT ?_|refine xI ?_|(apply Ix.r;(focus assumption);(focus omega))|refine Ch.l ⟨rfl,rfl⟩ ?_|(apply SetAsk.r;focus repeat' constructor)|refine xN ?_|refine xD ?_|refine xO ?_|(apply Cl.p (hbp);focus repeat' constructor))
    exact PA.lp (k+1+1) xE ⟨⟨hin,alli_succ hp ha ⟨g1,g2,g3,g4,g5⟩⟩,by omega⟩
  ·have hno:¬RowX n r:=fun h=>hT (h.t i p hp)
   rcases Nat.eq_zero_or_pos i with h0|h0
   ·subst h0
    repeat'(first|apply Sp.h|refine Lk.r rfl ?_|refine Rf.mk rfl ?_|refine xA ?_|refine xB ?_|(refine Bd.mk ?_ ?_ <;> intro _)|refine OpK.r rfl ?_|refine Im.mk fun _=>?_|refine All.mk fun _=>?_|refine xT ?_|refine xI ?_|refine Ch.l ⟨rfl,rfl⟩ ?_|(apply SetAsk.r;focus repeat' constructor)|refine xN ?_|refine xD ?_|refine xO ?_|(apply Cl.p (hbp);focus repeat' constructor))
    all_goals first
     | exact Fin.p rfl (vb (zF hno).symm)
     | exact(hT ⟨by omega,by omega,by omega,by omega,fun q h=>by omega⟩).elim
   ·obtain⟨k,rfl⟩:∃k,i=k+1:=⟨i - 1,by omega⟩
    obtain⟨q,hq⟩:=get_of (l:=r.terms) (i:=k) (by omega)
    repeat'(first|apply Sp.h|refine Lk.r rfl ?_|refine Rf.mk rfl ?_|refine xA ?_|refine xB ?_|(refine Bd.mk ?_ ?_ <;> intro _)|refine OpK.r rfl ?_|refine Im.mk fun _=>?_|refine All.mk fun _=>?_|refine xT ?_|refine xI ?_|(apply Ix.r;(focus assumption);(focus omega))|refine Ch.l ⟨rfl,rfl⟩ ?_|(apply SetAsk.r;focus repeat' constructor)|refine xN ?_|refine xD ?_|refine xO ?_|(apply Cl.p (hbp);focus repeat' constructor))
    all_goals first
     | exact Fin.p rfl (vb (zF hno).symm)
     | exact(hT ⟨by omega,by omega,by omega,by omega,fun q' _ h=>by rw [show k+1 - 1=k by omega,hq] at h;cases h;omega⟩).elim
 ·have:i=r.terms.length:=by omega
  subst this
  repeat'(first|apply Sp.h|refine Lk.r rfl ?_|refine Rf.mk rfl ?_|refine xB ?_|refine Im.mk fun _=>?_|refine xT ?_|refine xN ?_|(apply Cl.p (hb1);focus repeat' constructor))
  refine Fin.p rfl (vb ?_)
  by_cases h9: -1000000000≤r.bound∧r.bound≤1000000000
  ·rw [zT h9,zT (show RowX n r from⟨alli_all ha,h9⟩)]
  ·rw [zF h9,zF (fun h8:RowX n r=>h9 h8.b)]
theorem sameTerms_e(a b:List (Int×Int)) : CallP Tryz.prog 170 [terms a,terms b] (.val (.bool (decide (a=b)))):=by
 refine CallA.of pg ord170 Tryz.func170 rfl Tryz.ntmps170 Tryz.results170 rfl fun h0 G0 O0=>?_
 by_cases hl:a.length=b.length
 ·repeat'(first|apply Sp.h|refine Lk.r rfl ?_|refine Rf.mk rfl ?_|refine xA ?_|apply Im.mk|intro _)
  refine CA.loop (fun i:Nat=>⟨[(0,terms a),(1,terms b),(5,it i)],[]⟩) (fun i=>i≤a.length∧a.take i=b.take i) (fun i=>a.length - i) 0 xE ⟨zZ _,rfl⟩ ?_
  rintro i ⟨hi,he⟩
  by_cases hin:i < a.length
  ·obtain⟨p,hp⟩:=get_of hin
   obtain⟨q,hq⟩:=get_of (l:=b) (i:=i) (by omega)
   by_cases hpq:p=q
   ·subst hpq
    repeat'(first|apply Sp.h|refine Lk.r rfl ?_|refine Rf.mk rfl ?_|refine xA ?_|refine OpK.r rfl ?_|apply Im.mk|refine xI ?_|refine Ch.l ⟨rfl,rfl⟩ ?_|refine xK ?_|(apply Kf.mk;(focus kernel_rfl))|refine xD ?_|refine xO ?_|intro _)
    all_goals first
     | exact PA.lp (i+1) xE ⟨⟨hin,by rw [zK,zK,he,hp,hq]⟩,by omega⟩
     | exact absurd rfl (by assumption)
   ·have hne:a≠b:=fun h=>hpq (by rw [h,hq] at hp;cases hp;rfl)
    repeat'(first|apply Sp.h|refine Lk.r rfl ?_|refine Rf.mk rfl ?_|refine xA ?_|apply Bd.mk|refine OpK.r rfl ?_|apply Im.mk|refine xI ?_|refine Ch.l ⟨rfl,rfl⟩ ?_|refine xN ?_|refine xK ?_|(apply Kf.mk;(focus kernel_rfl))|refine xD ?_|refine xO ?_|intro _)
    all_goals first
     | exact Fin.p rfl (vb (zF hne).symm)
     | (rename_i h9;injection h9 with h8 h9;injection h9 with h9;exact(hpq (Prod.ext h8 h9)).elim)
  ·have:i=a.length:=by omega
   rw [List.take_of_length_le (by omega),List.take_of_length_le (by omega)] at he
   repeat'(first|apply Sp.h|refine Lk.r rfl ?_|refine Rf.mk rfl ?_|refine xB ?_|apply Im.mk|refine xN ?_|intro _)
   exact Fin.p rfl (vb (zT he).symm)
 ·have hne:a≠b:=fun h=>hl (by rw [h])
  repeat'(first|apply Sp.h|refine Lk.r rfl ?_|refine Rf.mk rfl ?_|refine xB ?_|apply Im.mk|refine xN ?_|intro _)
  all_goals exact Fin.p rfl (vb (zF hne).symm)
theorem sameRow_e(a b:RowS) : CallP Tryz.prog 118 [.agg (rowC a), .agg (rowC b)] (.val (.bool (decide (a.terms=b.terms∧a.bound=b.bound)))):=by
 refine CallA.of pg ordZ Tryz.func118 rfl Tryz.ntmps118 Tryz.results118 rfl fun h0 G0 O0=>?_
 by_cases hb:a.bound=b.bound
 ·repeat'(first|apply Sp.h|refine Lk.r rfl ?_|refine Rf.mk rfl ?_|refine xA ?_|refine All.mk fun _=>?_|refine xT ?_|refine xN ?_|(apply Cl.p (sameTerms_e _ _);focus repeat' constructor))
  refine Fin.p rfl (vb ?_)
  exact zD.2 ⟨fun h=>⟨h,hb⟩,fun h=>h.1⟩
 ·repeat'(first|apply Sp.h|refine Lk.r rfl ?_|refine Rf.mk rfl ?_|refine xB ?_|refine All.mk fun _=>?_|refine xT ?_|refine xN ?_|(apply Cl.p (sameTerms_e _ _);(focus repeat'(first|fail))))
  exact Fin.p rfl (vb (zF fun h=>hb h.2).symm)
def GrfT(sorts:List Int)(c:CnsS)(t:TblS) : Prop:=t.kind=0∧t.first=c.first∧∃x:Nat,t.cols= [(x:Int),(x:Int)]∧sorts[x]?=some c.size
def GrfX(m:ModS)(c:CnsS) : Prop:=c.row.terms= []∧c.row.bound=0∧∃(i:Nat) (t:TblS),m.tables[i]?=some t∧GrfT m.sorts c t
noncomputable instance (m:ModS) (c:CnsS):Decidable (GrfX m c):=zC _
theorem graph_e(m:ModS)(c:CnsS)(hm:LayOK m.sorts m.tables) : CallP Tryz.prog 120 [mdl m, .agg (cnsC c)] (.val (.bool (decide (GrfX m c)))):=by
 refine CallA.of pg ord120 Tryz.func120 rfl Tryz.ntmps120 Tryz.results120 rfl fun h0 G0 O0=>?_
 by_cases h0:c.row.terms.length=0∧c.row.bound=0
 rotate_left
 ·have hno:¬GrfX m c:=fun h=>h0 ⟨by rw [h.1];rfl,h.2.1⟩
  repeat'(first|apply Sp.h|refine Lk.r rfl ?_|refine Rf.mk rfl ?_|refine xA ?_|refine xB ?_|apply Bd.mk|apply Im.mk|apply All.mk|refine xT ?_|refine xN ?_|intro _)
  all_goals first
   | exact Fin.p rfl (vb (zF hno).symm)
   | exact(h0 ⟨by omega,by assumption⟩).elim
 obtain⟨hl0,hb0⟩:=h0
 repeat'(first|apply Sp.h|refine Lk.r rfl ?_|refine Rf.mk rfl ?_|refine xA ?_|refine xB ?_|apply Im.mk|apply All.mk|refine xT ?_|intro _)
 rename_i b2 b3 _
 refine CA.loop (fun i:Nat=>⟨[(2, .val (.pointer (some ⟨b2,0,none⟩))),(3, .val (.pointer (some ⟨b3,0,none⟩))),(5,it i)],[blkR b3 172 (cnsC c),blkR b2 30 (modC m)]⟩) (fun i=>i≤m.tables.length∧∀j t,j < i→m.tables[j]?=some t→¬GrfT m.sorts c t) (fun i=>m.tables.length - i) 0 xE ⟨zZ _,fun j t h=>by omega⟩ ?_
 rintro i ⟨hi,hno⟩
 by_cases hin:i < m.tables.length
 ·obtain⟨t,ht⟩:=get_of hin
  obtain⟨⟨g1,g2,g3⟩,-⟩:=hm.2.2.2 t (zM ht)
  by_cases hl:t.cols.length=2
  ·obtain⟨x,hx⟩:=get_of (l:=t.cols) (i:=0) (by omega)
   obtain⟨y,hy⟩:=get_of (l:=t.cols) (i:=1) (by omega)
   have hcs:t.cols= [x,y]:=by
    match hc:t.cols,hl with
    | [u,v],_=>rw [hc] at hx hy;cases hx;cases hy;rfl
   obtain⟨hx1,hx2⟩:=g3 x (zM hx)
   obtain⟨k,rfl⟩:=Int.eq_ofNat_of_zero_le hx1
   obtain⟨z,hz⟩:=get_of (l:=m.sorts) (i:=k) (by omega)
   by_cases hT:GrfT m.sorts c t
   ·have hyes:GrfX m c:=⟨List.length_eq_zero_iff.1 hl0,hb0,i,t,ht,hT⟩
    obtain⟨h1,h2,w,h3,h4⟩:=hT
    rw [hcs] at h3
    injection h3 with e1 h3
    injection h3 with e2 h3
    subst e2
    obtain rfl:k=w:=by omega
    rw [hz] at h4
    injection h4 with h4
    repeat'(first|apply Sp.h|refine Lk.r rfl ?_|refine Rf.mk rfl ?_|refine xA ?_|refine OpK.r rfl ?_|apply Im.mk|apply All.mk|refine xT ?_|refine xI ?_|refine Ch.l ⟨rfl,rfl⟩ ?_|(apply SetAsk.r;focus repeat' constructor)|refine xN ?_|refine xD ?_|intro _)
    all_goals first
     | exact Fin.p rfl (vb (zT hyes).symm)
     | exact absurd (by assumption) (by assumption)
     | exact(by omega:False).elim
   ·have hgo:=alli_succ ht hno hT
    repeat'(first|apply Sp.h|refine Lk.r rfl ?_|refine Rf.mk rfl ?_|refine xA ?_|refine xB ?_|apply Bd.mk|refine OpK.r rfl ?_|apply Im.mk|apply All.mk|refine xT ?_|refine xI ?_|refine Ch.l ⟨rfl,rfl⟩ ?_|(apply SetAsk.r;focus repeat' constructor)|refine xN ?_|refine xD ?_|refine xO ?_|intro _)
    all_goals first
     | exact PA.lp (i+1) xE ⟨⟨hin,hgo⟩,by omega⟩
     | exact(hT ⟨by omega,by omega,k,by rw [hcs,show y=(k:Int) by omega],by rw [hz,show z=c.size by omega]⟩).elim
  ·have hT:¬GrfT m.sorts c t:=by
    rintro⟨-,-,x,h,-⟩
    exact hl (by rw [h];rfl)
   have hgo:=alli_succ ht hno hT
   repeat'(first|apply Sp.h|refine Lk.r rfl ?_|refine Rf.mk rfl ?_|refine xA ?_|refine xB ?_|apply Bd.mk|refine OpK.r rfl ?_|apply Im.mk|apply All.mk|refine xT ?_|refine xI ?_|refine Ch.l ⟨rfl,rfl⟩ ?_|(apply SetAsk.r;focus repeat' constructor)|refine xN ?_|refine xD ?_|refine xO ?_|intro _)
   all_goals exact PA.lp (i+1) xE ⟨⟨hin,hgo⟩,by omega⟩
 ·have:i=m.tables.length:=by omega
  subst this
  repeat'(first|apply Sp.h|refine Lk.r rfl ?_|refine Rf.mk rfl ?_|refine xB ?_|apply Im.mk|refine xT ?_|refine xN ?_|intro _)
  refine Fin.p rfl (vb (zF ?_).symm)
  rintro⟨-,-,j,t,ht,h⟩
  exact hno j t (zS.1 ht).1 ht h
noncomputable def strR(m:ModS) : List (Int×Int):=rngF m.sorts true m.tables
theorem strict13_e(m:ModS) : CallP Tryz.prog 117 [mdl m] (.sl 2 (strR m) rngC):=by
 have hr:=ranges_e m.sorts m.tables true
 refine CallA.of pg ordZ Tryz.func117 rfl Tryz.ntmps117 Tryz.results117 rfl fun h0 G0 O0=>?_
 repeat'(first|apply Sp.h|refine Lk.r rfl ?_|refine Rf.mk rfl ?_|refine All.mk fun _=>?_|refine xT ?_|refine xN ?_|(apply Cl.p (hr);focus repeat' constructor))
 exact Fin.p rfl rfl
def BndI(rs:List (Int×Int))(i:Nat)(c:CnsS) : Prop:=∀p,rs[i / 2]?=some p→c.row.terms= [(((i / 2:Nat):Int),if i % 2=0 then -1 else 1)]∧c.row.bound=if i % 2=0 then -p.1 else p.2
structure CnsI (m:ModS) (n:Nat) (i:Nat) (c:CnsS):Prop where
 f:0≤c.family∧c.family < m.families.length
 k:(c.kind=0∧c.first=0∧c.size=0∧RowX n c.row)∨(2 * n≤i∧c.kind=1∧GrfX m c)
structure ConX (m:ModS):Prop where
 a:2 * (strR m).length≤m.cons.length
 b:m.cons.length≤512
 c:∀i c,m.cons[i]?=some c→BndI (strR m) i c∧CnsI m (strR m).length i c
noncomputable instance (m:ModS):Decidable (ConX m):=zC _
theorem constraints_e(m:ModS)(hm:LayOK m.sorts m.tables) : CallP Tryz.prog 53 [mdl m] (.val (.bool (decide (ConX m)))):=by
 have hs:=strict13_e m
 have hr1:=rngF_len (sizes:=m.sorts) (s:=true) (l:=m.tables)
 have hr2:=rngF_ok (sizes:=m.sorts) (s:=true) (l:=m.tables)
 change (strR m).length≤128 at hr1
 change RgOK (strR m) at hr2
 have hx:∀h:ConX m,True:=fun _=>trivial
 have hdef:ConX m↔2 * (strR m).length≤m.cons.length∧m.cons.length≤512∧∀i c,m.cons[i]?=some c→BndI (strR m) i c∧CnsI m (strR m).length i c:=⟨fun h=>⟨h.a,h.b,h.c⟩,fun h=>⟨h.1,h.2.1,h.2.2⟩⟩
 obtain⟨rs,hrs⟩:∃rs,rs=strR m:=⟨_,rfl⟩
 rw [←hrs] at hs hr1 hr2 hdef
 clear hx
 refine CallA.of pg ord53 Tryz.func53 rfl Tryz.ntmps53 Tryz.results53 rfl fun h0 G0 O0=>?_
 by_cases h0:2 * rs.length≤m.cons.length∧m.cons.length≤512
 rotate_left
 ·have hno:¬ConX m:=fun h=>h0 ⟨(hdef.1 h).1,(hdef.1 h).2.1⟩
  repeat'(first|apply Sp.h|refine Lk.r rfl ?_|refine Rf.mk rfl ?_|refine xA ?_|refine xB ?_|(refine Bd.mk ?_ ?_ <;> intro _)|refine xP ?_|refine Im.mk fun _=>?_|refine All.mk fun _=>?_|refine xT ?_|refine Ch.l ⟨rfl,rfl⟩ ?_|refine xN ?_|(apply Cl.p (hs);focus repeat' constructor))
  all_goals first
   | exact Fin.p rfl (vb (zF hno).symm)
   | exact(h0 ⟨by omega,by omega⟩).elim
 obtain⟨hc1,hcl⟩:=h0
 repeat'(first|apply Sp.h|refine Lk.r rfl ?_|refine Rf.mk rfl ?_|refine xB ?_|refine xP ?_|refine Im.mk fun _=>?_|refine All.mk fun _=>?_|refine xT ?_|refine Ch.l ⟨rfl,rfl⟩ ?_|(apply Cl.p (hs);focus repeat' constructor))
 rename_i b1 _ _ _
 refine CA.loop (fun i:Nat=>⟨[(1, .val (.pointer (some ⟨b1,0,none⟩))),(3, .sl 2 rs rngC),(4,it i)],[blkR b1 30 (modC m)]⟩) (fun i=>i≤rs.length∧∀j c,j < 2 * i→m.cons[j]?=some c→BndI rs j c) (fun i=>rs.length - i) 0 xE ⟨zZ _,fun j c h=>by omega⟩ ?_
 rintro i ⟨hi,hbd⟩
 by_cases hin:i < rs.length
 ·obtain⟨p,hp⟩:=get_of hin
  obtain⟨h1,h2,h3⟩:=hr2 p (zM hp)
  obtain⟨c,hc⟩:=get_of (l:=m.cons) (i:=2 * i) (by omega)
  obtain⟨c2,hc2⟩:=get_of (l:=m.cons) (i:=2 * i+1) (by omega)
  have e1:2 * i / 2=i:=by omega
  have e2:(2 * i+1) / 2=i:=by omega
  have e3:2 * i % 2=0:=by omega
  have e4:(2 * i+1) % 2≠0:=by omega
  by_cases hA:c.row.terms= [((i:Int),-1)]∧c.row.bound= -p.1
  ·by_cases hB:c2.row.terms= [((i:Int),1)]∧c2.row.bound=p.2
   ·have hgo:=alli_succ hc2 (alli_succ hc hbd fun q hq=>by rw [e1,hp] at hq;cases hq;rw [e1,if_pos e3,if_pos e3];exact hA) fun q hq=>by rw [e2,hp] at hq;cases hq;rw [e2,if_neg e4,if_neg e4];exact hB
    have hc2':m.cons[2 * i+1]?=some c2:=hc2
    clear hc2
    repeat'(first|apply Sp.h|refine Lk.r rfl ?_|refine Rf.mk rfl ?_|refine xA ?_|refine OpK.r rfl ?_|refine xP ?_|apply Im.mk|apply All.mk|refine xT ?_|refine xI ?_|refine Ch.l ⟨rfl,rfl⟩ ?_|refine Ch.r ?_|(apply SetAsk.r;focus repeat' constructor)|(apply Fk.r;focus repeat' first|infer_instance|constructor)|refine xN ?_|refine Rf.mk ⟨rfl,rfl,rfl⟩ ?_|refine xD ?_|intro _)
    (apply Cl.fz;(focus repeat'(first|exact FZ.nil|(apply FZ.fz;(focus repeat constructor);(focus first|omega|decide|exact zB rfl|(simp <;> omega)))|apply FZ.agg|apply FZ.same)))
    apply Cl.p (sameRow_e c.row ⟨[((i:Int),-1)],-p.1⟩)
    focus exact .keep (.agg (.mp rfl (.keep .nil)) .nil)
    clear hc
    repeat'(first|apply Sp.h|refine Lk.r rfl ?_|refine Rf.mk rfl ?_|refine xA ?_|refine OpK.r rfl ?_|refine xP ?_|refine xT ?_|refine xI ?_|refine Ch.l ⟨rfl,rfl⟩ ?_|refine Ch.r ?_|refine xO ?_|fail)
    (apply Cl.fz;(focus repeat'(first|exact FZ.nil|(apply FZ.fz;(focus repeat constructor);(focus first|omega|decide|exact zB rfl|(simp <;> omega)))|apply FZ.agg|apply FZ.same)))
    apply Cl.p (sameRow_e c2.row ⟨[((i:Int),1)],p.2⟩)
    focus exact .keep (.agg (.mp rfl (.keep .nil)) .nil)
    repeat'(first|apply Sp.h|refine Lk.r rfl ?_|refine Rf.mk rfl ?_|refine xA ?_|refine OpK.r rfl ?_|refine xO ?_|fail)
    exact PA.lp (i+1) xE ⟨⟨hin,hgo⟩,by omega⟩
   ·have hno:¬ConX m:=fun h=>hB (by
     have h9:=((hdef.1 h).2.2 _ c2 hc2).1 p (by rw [e2];exact hp)
     rw [e2,if_neg e4,if_neg e4] at h9;exact h9)
    have hc2':m.cons[2 * i+1]?=some c2:=hc2
    clear hc2
    repeat'(first|apply Sp.h|refine Lk.r rfl ?_|refine Rf.mk rfl ?_|refine xA ?_|refine OpK.r rfl ?_|refine xP ?_|apply Im.mk|apply All.mk|refine xT ?_|refine xI ?_|refine Ch.l ⟨rfl,rfl⟩ ?_|refine Ch.r ?_|(apply SetAsk.r;focus repeat' constructor)|(apply Fk.r;focus repeat' first|infer_instance|constructor)|refine xN ?_|refine Rf.mk ⟨rfl,rfl,rfl⟩ ?_|refine xD ?_|intro _)
    (apply Cl.fz;(focus repeat'(first|exact FZ.nil|(apply FZ.fz;(focus repeat constructor);(focus first|omega|decide|exact zB rfl|(simp <;> omega)))|apply FZ.agg|apply FZ.same)))
    apply Cl.p (sameRow_e c.row ⟨[((i:Int),-1)],-p.1⟩)
    focus exact .keep (.agg (.mp rfl (.keep .nil)) .nil)
    clear hc
    repeat'(first|apply Sp.h|refine Lk.r rfl ?_|refine Rf.mk rfl ?_|refine xA ?_|refine OpK.r rfl ?_|refine xP ?_|refine xT ?_|refine xI ?_|refine Ch.l ⟨rfl,rfl⟩ ?_|refine Ch.r ?_|refine xO ?_|fail)
    (apply Cl.fz;(focus repeat'(first|exact FZ.nil|(apply FZ.fz;(focus repeat constructor);(focus first|omega|decide|exact zB rfl|(simp <;> omega)))|apply FZ.agg|apply FZ.same)))
    apply Cl.p (sameRow_e c2.row ⟨[((i:Int),1)],p.2⟩)
    focus exact .keep (.agg (.mp rfl (.keep .nil)) .nil)
    repeat'(first|apply Sp.h|refine Lk.r rfl ?_|refine Rf.mk rfl ?_|refine xA ?_|refine xB ?_|refine OpK.r rfl ?_|refine xN ?_|fail)
    exact Fin.p rfl (vb (zF hno).symm)
  ·have hno:¬ConX m:=fun h=>hA (by
    have h9:=((hdef.1 h).2.2 _ c hc).1 p (by rw [e1];exact hp)
    rw [e1,if_pos e3,if_pos e3] at h9;exact h9)
   clear hc2
   repeat'(first|apply Sp.h|refine Lk.r rfl ?_|refine Rf.mk rfl ?_|refine xA ?_|refine OpK.r rfl ?_|refine xP ?_|apply Im.mk|apply All.mk|refine xT ?_|refine xI ?_|refine Ch.l ⟨rfl,rfl⟩ ?_|refine Ch.r ?_|(apply SetAsk.r;focus repeat' constructor)|(apply Fk.r;focus repeat' first|infer_instance|constructor)|refine xN ?_|refine Rf.mk ⟨rfl,rfl,rfl⟩ ?_|refine xD ?_|intro _)
   (apply Cl.fz;(focus repeat'(first|exact FZ.nil|(apply FZ.fz;(focus repeat constructor);(focus first|omega|decide|exact zB rfl|(simp <;> omega)))|apply FZ.agg|apply FZ.same)))
   apply Cl.p (sameRow_e c.row ⟨[((i:Int),-1)],-p.1⟩)
   focus exact .keep (.agg (.mp rfl (.keep .nil)) .nil)
   repeat'(first|apply Sp.h|refine Lk.r rfl ?_|refine Rf.mk rfl ?_|refine xB ?_|refine OpK.r rfl ?_|refine xN ?_|fail)
   exact Fin.p rfl (vb (zF hno).symm)
 ·have:i=rs.length:=by omega
  subst this
  have hbd:∀j c,m.cons[j]?=some c→BndI rs j c:=by
   intro j c hj
   by_cases hjl:j < 2 * rs.length
   ·exact hbd j c hjl hj
   ·intro p hp
    have:=(zS.1 hp).1
    omega
  repeat'(first|apply Sp.h|refine Lk.r rfl ?_|refine Rf.mk rfl ?_|refine xB ?_|apply Im.mk|intro _)
  refine CA.loop (fun i:Nat=>⟨[(1, .val (.pointer (some ⟨b1,0,none⟩))),(3, .sl 2 rs rngC),(7,it i)],[blkR b1 30 (modC m)]⟩) (fun i=>i≤m.cons.length∧∀j c,j < i→m.cons[j]?=some c→CnsI m rs.length j c) (fun i=>m.cons.length - i) 0 xE ⟨zZ _,fun j c h=>by omega⟩ ?_
  rintro i ⟨hi,hci⟩
  by_cases hin:i < m.cons.length
  ·obtain⟨c,hc⟩:=get_of hin
   have hg:=graph_e m c hm
   have hrow:=row_e c.row (rs.length:Int)
   by_cases hC:CnsI m rs.length i c
   ·have hgo:=alli_succ hc hci hC
    obtain⟨⟨hf1,hf2⟩,hk⟩:=hC
    rcases hk with⟨k1,k2,k3,k4⟩|⟨k1,k2,k3⟩
    ·repeat'(first|apply Sp.h|refine Lk.r rfl ?_|refine Rf.mk rfl ?_|refine xA ?_|refine xB ?_|refine Im.mk fun _=>?_|refine All.mk fun _=>?_|refine xT ?_|refine xI ?_|refine Ch.l ⟨rfl,rfl⟩ ?_|refine Ch.r ?_|(apply SetAsk.r;focus repeat' constructor)|refine xN ?_|refine xO ?_|(apply Cl.p (hrow);focus repeat' constructor)|(apply Cl.p (hg);focus repeat' constructor))
     all_goals first
      | exact PA.lp (i+1) xE ⟨⟨hin,hgo⟩,by omega⟩
      | exact absurd k4 (by assumption)
      | exact(by omega:False).elim
    ·repeat'(first|apply Sp.h|refine Lk.r rfl ?_|refine Rf.mk rfl ?_|refine xA ?_|refine xB ?_|refine xP ?_|refine Im.mk fun _=>?_|refine All.mk fun _=>?_|refine xT ?_|refine xI ?_|refine Ch.l ⟨rfl,rfl⟩ ?_|(apply SetAsk.r;focus repeat' constructor)|refine xN ?_|refine xO ?_|(apply Cl.p (hrow);focus repeat' constructor)|(apply Cl.p (hg);focus repeat' constructor))
     all_goals first
      | exact PA.lp (i+1) xE ⟨⟨hin,hgo⟩,by omega⟩
      | exact absurd k3 (by assumption)
      | exact(by omega:False).elim
   ·have hno:¬ConX m:=fun h=>hC ((hdef.1 h).2.2 i c hc).2
    repeat'(first|apply Sp.h|refine Lk.r rfl ?_|refine Rf.mk rfl ?_|refine xA ?_|refine xB ?_|(refine Bd.mk ?_ ?_ <;> intro _)|refine xP ?_|refine Im.mk fun _=>?_|refine All.mk fun _=>?_|refine xT ?_|refine xI ?_|refine Ch.l ⟨rfl,rfl⟩ ?_|refine Ch.r ?_|(apply SetAsk.r;focus repeat' constructor)|refine xN ?_|refine xO ?_|(apply Cl.p (hrow);focus repeat' constructor)|(apply Cl.p (hg);focus repeat' constructor))
    all_goals first
     | exact Fin.p rfl (vb (zF hno).symm)
     | exact(hC ⟨⟨by omega,by omega⟩, .inl ⟨by omega,by omega,by omega,by assumption⟩⟩).elim
     | exact(hC ⟨⟨by omega,by omega⟩, .inr ⟨by omega,by omega,by assumption⟩⟩).elim
  ·have:i=m.cons.length:=by omega
   subst this
   repeat'(first|apply Sp.h|refine Lk.r rfl ?_|refine Rf.mk rfl ?_|refine xB ?_|apply Im.mk|refine xT ?_|refine xN ?_|intro _)
   exact Fin.p rfl (vb (zT (hdef.2 ⟨hc1,by assumption,fun j c hj=>⟨hbd j c hj,hci j c (zS.1 hj).1 hj⟩⟩)).symm)
structure DltI (n:Int) (l:List (Int×Int)) (i:Nat) (p:Int×Int):Prop where
 a:0≤p.1
 b:p.1 < n
 c:p.2≠0
 d: -1000000000≤p.2∧p.2≤1000000000
 e:∀q,0 < i→l[i - 1]?=some q→q.1 < p.1
def UpdT(t:TblS)(k v:Int) : Prop:=(isSet13 t.kind→(k=0∨k=1)∧v=0)∧(¬isSet13 t.kind→k=2∧t.lo≤v∧v≤t.hi)
def UpdI(m:ModS)(l:List (Int×Int×Int))(i:Nat)(u:Int×Int×Int) : Prop :=
 (∃ti q t,tupF m.sorts m.tables false u.2.1=some (ti,q)∧m.tables[ti]?=some t∧UpdT t u.1 u.2.2)∧∀q,0 < i→l[i - 1]?=some q→q.2.1 < u.2.1
structure EffX (m:ModS) (x:EffS):Prop where
 d:∀i p,x.delta[i]?=some p→DltI (strR m).length x.delta i p
 h:∀(i:Nat) (r:RowS),x.hold[i]?=some r→RowX (strR m).length r
 u:∀i p,x.updates[i]?=some p→UpdI m x.updates i p
 hl:x.hold.length≤8
 ul:x.updates.length≤32
noncomputable instance (m:ModS) (x:EffS):Decidable (EffX m x):=zC _
def UpdRg(x:EffS) : Prop:=∀u∈x.updates,u.2.1≤9223372036854775807
theorem tupF_lt{sizes:List Int}{l:List TblS}{s:Bool}{cell:Int}{i:Nat}{q:List Int}(h:tupF sizes l s cell=some (i,q)) :∃t,l[i]?=some t:=by
 unfold tupF at h
 split at h
 ·obtain⟨j,-,h2⟩:=Option.bind_eq_some_iff.1 h
  obtain⟨t,h3,h4⟩:=Option.map_eq_some_iff.1 h2
  injection h4 with h4 h5
  subst h4
  exact⟨t,h3⟩
 ·cases h
theorem effect_e(m:ModS)(x:EffS)(hu:UpdRg x) : CallP Tryz.prog 123 [mdl m, .agg (effC x)] (.val (.bool (decide (EffX m x)))):=by
 have hb:=fun p:Int×Int=>between13_p p.2 1000000000 (by omega)
 have hs:=strict13_e m
 have hdef:EffX m x↔(∀i p,x.delta[i]?=some p→DltI (strR m).length x.delta i p)∧(∀(i:Nat) (r:RowS),x.hold[i]?=some r→RowX (strR m).length r)∧(∀i p,x.updates[i]?=some p→UpdI m x.updates i p)∧x.hold.length≤8∧x.updates.length≤32:=⟨fun h=>⟨h.d,h.h,h.u,h.hl,h.ul⟩,fun h=>⟨h.1,h.2.1,h.2.2.1,h.2.2.2.1,h.2.2.2.2⟩⟩
 obtain⟨rs,hrs⟩:∃rs,rs=strR m:=⟨_,rfl⟩
 rw [←hrs] at hs hdef
 refine CallA.of pg ord123 Tryz.func123 rfl Tryz.ntmps123 Tryz.results123 rfl fun h0 G0 O0=>?_
 repeat'(first|apply Sp.h|refine Lk.r rfl ?_|refine Rf.mk rfl ?_|refine Im.mk fun _=>?_|refine All.mk fun _=>?_|refine xT ?_|refine Ch.l ⟨rfl,rfl⟩ ?_|(apply Cl.p (hs);focus repeat' constructor))
 rename_i b2 b3 _
 refine CA.loop (fun i:Nat=>⟨[(2,pm b2),(3,pm b3),(5,it (rs.length:Nat)),(6,it i)],[blkR b3 140 (effC x),blkR b2 30 (modC m)]⟩) (fun i=>i≤x.delta.length∧∀j p,j < i→x.delta[j]?=some p→DltI rs.length x.delta j p) (fun i=>x.delta.length - i) 0 xE ⟨zZ _,fun j p h=>by omega⟩ ?_
 rintro i ⟨hi,hd⟩
 by_cases hin:i < x.delta.length
 ·obtain⟨p,hp⟩:=get_of hin
  have hbp:=hb p
  by_cases hT:DltI rs.length x.delta i p
  ·obtain⟨g1,g2,g3,g4,g5⟩:=hT
   rcases Nat.eq_zero_or_pos i with h0|h0
   ·subst h0
    repeat'(first|apply Sp.h|refine Lk.r rfl ?_|refine Rf.mk rfl ?_|refine xA ?_|refine xB ?_|refine OpK.r rfl ?_|refine Im.mk fun _=>?_|refine All.mk fun _=>?_|refine xT ?_|refine xI ?_|refine Ch.l ⟨rfl,rfl⟩ ?_|(apply SetAsk.r;focus repeat' constructor)|refine xN ?_|refine xD ?_|refine xO ?_|(apply Cl.p (hbp);focus repeat' constructor))
    exact PA.lp 1 xE ⟨⟨hin,alli_succ hp hd ⟨g1,g2,g3,g4,g5⟩⟩,by omega⟩
   ·obtain⟨k,rfl⟩:∃k,i=k+1:=⟨i - 1,by omega⟩
    obtain⟨q,hq⟩:=get_of (l:=x.delta) (i:=k) (by omega)
    have hqp:=g5 q h0 hq
    repeat'(first|apply Sp.h|refine Lk.r rfl ?_|refine Rf.mk rfl ?_|refine xA ?_|refine xB ?_|refine OpK.r rfl ?_|refine Im.mk fun _=>?_|refine All.mk fun _=>?_|refine xT ?_|refine xI ?_|(apply Ix.r;(focus assumption);(focus omega))|refine Ch.l ⟨rfl,rfl⟩ ?_|(apply SetAsk.r;focus repeat' constructor)|refine xN ?_|refine xD ?_|refine xO ?_|(apply Cl.p (hbp);focus repeat' constructor))
    exact PA.lp (k+1+1) xE ⟨⟨hin,alli_succ hp hd ⟨g1,g2,g3,g4,g5⟩⟩,by omega⟩
  ·have hno:¬EffX m x:=fun h=>hT ((hdef.1 h).1 i p hp)
   rcases Nat.eq_zero_or_pos i with h0|h0
   ·subst h0
    repeat'(first|apply Sp.h|refine Lk.r rfl ?_|refine Rf.mk rfl ?_|refine xA ?_|refine xB ?_|(refine Bd.mk ?_ ?_ <;> intro _)|refine OpK.r rfl ?_|refine Im.mk fun _=>?_|refine All.mk fun _=>?_|refine xT ?_|refine xI ?_|refine Ch.l ⟨rfl,rfl⟩ ?_|(apply SetAsk.r;focus repeat' constructor)|refine xN ?_|refine xD ?_|refine xO ?_|(apply Cl.p (hbp);focus repeat' constructor))
    all_goals first
     | exact Fin.p rfl (vb (zF hno).symm)
     | exact(hT ⟨by omega,by omega,by omega,by omega,fun q h=>by omega⟩).elim
   ·obtain⟨k,rfl⟩:∃k,i=k+1:=⟨i - 1,by omega⟩
    obtain⟨q,hq⟩:=get_of (l:=x.delta) (i:=k) (by omega)
    repeat'(first|apply Sp.h|refine Lk.r rfl ?_|refine Rf.mk rfl ?_|refine xA ?_|refine xB ?_|(refine Bd.mk ?_ ?_ <;> intro _)|refine OpK.r rfl ?_|refine Im.mk fun _=>?_|refine All.mk fun _=>?_|refine xT ?_|refine xI ?_|(apply Ix.r;(focus assumption);(focus omega))|refine Ch.l ⟨rfl,rfl⟩ ?_|(apply SetAsk.r;focus repeat' constructor)|refine xN ?_|refine xD ?_|refine xO ?_|(apply Cl.p (hbp);focus repeat' constructor))
    all_goals first
     | exact Fin.p rfl (vb (zF hno).symm)
     | exact(hT ⟨by omega,by omega,by omega,by omega,fun q' _ h=>by rw [show k+1 - 1=k by omega,hq] at h;cases h;omega⟩).elim
 have:i=x.delta.length:=by omega
 subst this
 have hd:=alli_all hd
 repeat'(first|apply Sp.h|refine Lk.r rfl ?_|refine Rf.mk rfl ?_|refine xB ?_|apply Im.mk|refine xT ?_|intro _)
 refine CA.loop (fun i:Nat=>⟨[(2,pm b2),(3,pm b3),(5,it (rs.length:Nat)),(8,it i)],[blkR b3 140 (effC x),blkR b2 30 (modC m)]⟩) (fun i=>i≤x.hold.length∧∀(j:Nat) (r:RowS),j < i→x.hold[j]?=some r→RowX rs.length r) (fun i=>x.hold.length - i) 0 xE ⟨zZ _,fun j p h=>by omega⟩ ?_
 rintro i ⟨hi,hh⟩
 by_cases hin:i < x.hold.length
 ·obtain⟨r,hr⟩:=get_of hin
  have hrow:=row_e r (rs.length:Nat)
  by_cases hT:RowX rs.length r
  ·repeat'(first|apply Sp.h|refine Lk.r rfl ?_|refine Rf.mk rfl ?_|refine xA ?_|refine Im.mk fun _=>?_|refine xT ?_|refine xI ?_|refine Ch.l ⟨rfl,rfl⟩ ?_|refine xO ?_|(apply Cl.p (hrow);focus repeat' constructor))
   exact PA.lp (i+1) xE ⟨⟨hin,alli_succ hr hh hT⟩,by omega⟩
  ·repeat'(first|apply Sp.h|refine Lk.r rfl ?_|refine Rf.mk rfl ?_|refine xA ?_|refine xB ?_|refine Im.mk fun _=>?_|refine xT ?_|refine xI ?_|refine Ch.l ⟨rfl,rfl⟩ ?_|refine xN ?_|(apply Cl.p (hrow);focus repeat' constructor))
   exact Fin.p rfl (vb (zF fun h=>hT ((hdef.1 h).2.1 i r hr)).symm)
 have:i=x.hold.length:=by omega
 subst this
 have hh:=alli_all hh
 repeat'(first|apply Sp.h|refine Lk.r rfl ?_|refine Rf.mk rfl ?_|refine xB ?_|apply Im.mk|refine xT ?_|intro _)
 refine CA.loop (fun i:Nat=>⟨[(2,pm b2),(3,pm b3),(9,it i)],[blkR b3 140 (effC x),blkR b2 30 (modC m)]⟩) (fun i=>i≤x.updates.length∧∀j p,j < i→x.updates[j]?=some p→UpdI m x.updates j p) (fun i=>x.updates.length - i) 0 xE ⟨zZ _,fun j p h=>by omega⟩ ?_
 rintro i ⟨hi,hup⟩
 by_cases hin:i < x.updates.length
 ·obtain⟨⟨uk,uc,uv⟩,hui⟩:=get_of hin
  have htu:=tuple_e m.sorts m.tables false uc (hu _ (zM hui))
  have hno:¬UpdI m x.updates i (uk,uc,uv)→¬EffX m x:=fun hT h=>hT ((hdef.1 h).2.2.1 i _ hui)
  cases htf:tupF m.sorts m.tables false uc with
  | none =>
   rw [htf,tupA] at htu
   have hT:¬UpdI m x.updates i (uk,uc,uv):=by
    rintro⟨⟨ti,q,t,h,-⟩,-⟩
    simp only [htf] at h
    cases h
   repeat'(first|apply Sp.h|refine Lk.r rfl ?_|refine Rf.mk rfl ?_|refine xA ?_|refine xB ?_|refine OpK.r rfl ?_|refine Im.mk fun _=>?_|refine All.mk fun _=>?_|refine xT ?_|refine xI ?_|refine Ch.l ⟨rfl,rfl⟩ ?_|(apply SetAsk.r;focus repeat' constructor)|refine xN ?_|refine xD ?_|(apply Cl.p (htu);focus repeat' constructor))
   exact Fin.p rfl (vb (zF (hno hT)).symm)
  | some tq =>
   obtain⟨ti,tq⟩:=tq
   rw [htf,tupA] at htu
   obtain⟨t,ht⟩:=tupF_lt htf
   have hlt:=(zS.1 ht).1
   have hUT:UpdI m x.updates i (uk,uc,uv)↔UpdT t uk uv∧∀q,0 < i→x.updates[i - 1]?=some q→q.2.1 < uc:=by
    constructor
    ·rintro⟨⟨ti',q',t',h1,h2,h3⟩,h4⟩
     simp only [htf] at h1
     cases h1
     rw [ht] at h2;cases h2
     exact⟨h3,h4⟩
    ·rintro⟨h1,h2⟩
     exact⟨⟨ti,tq,t,htf,ht,h1⟩,h2⟩
   rcases Nat.eq_zero_or_pos i with h0|h0
   ·subst h0
    by_cases hT:UpdT t uk uv
    ·have hgo:=alli_succ hui hup (hUT.2 ⟨hT,fun q h=>by omega⟩)
     by_cases hst:isSet13 t.kind
     ·obtain⟨g1,g2⟩:=hT.1 hst
      repeat'(first|apply Sp.h|refine Lk.r rfl ?_|refine Rf.mk rfl ?_|refine xA ?_|refine xB ?_|(refine Bd.mk ?_ ?_ <;> intro _)|refine OpK.r rfl ?_|refine Im.mk fun _=>?_|refine All.mk fun _=>?_|refine xT ?_|refine xI ?_|refine Ch.l ⟨rfl,rfl⟩ ?_|(apply SetAsk.r;focus repeat' constructor)|refine xN ?_|refine xD ?_|refine xO ?_|(apply Cl.p (htu);focus repeat' constructor)|(apply Cl.p (set13_p _);focus repeat' constructor))
      all_goals first
       | exact PA.lp 1 xE ⟨⟨hin,hgo⟩,by omega⟩
       | exact absurd hst (by assumption)
       | exact(by omega:False).elim
     ·obtain⟨g1,g2,g3⟩:=hT.2 hst
      repeat'(first|apply Sp.h|refine Lk.r rfl ?_|refine Rf.mk rfl ?_|refine xA ?_|refine xB ?_|refine OpK.r rfl ?_|refine Im.mk fun _=>?_|refine All.mk fun _=>?_|refine xT ?_|refine xI ?_|refine Ch.l ⟨rfl,rfl⟩ ?_|(apply SetAsk.r;focus repeat' constructor)|refine xN ?_|refine xD ?_|refine xO ?_|(apply Cl.p (htu);focus repeat' constructor)|(apply Cl.p (set13_p _);focus repeat' constructor))
      all_goals first
       | exact PA.lp 1 xE ⟨⟨hin,hgo⟩,by omega⟩
       | exact absurd (by assumption) hst
       | exact(by omega:False).elim
    ·have hno:=hno fun h=>hT (hUT.1 h).1
     by_cases hst:isSet13 t.kind
     ·repeat'(first|apply Sp.h|refine Lk.r rfl ?_|refine Rf.mk rfl ?_|refine xA ?_|refine xB ?_|(refine Bd.mk ?_ ?_ <;> intro _)|refine OpK.r rfl ?_|refine Im.mk fun _=>?_|refine All.mk fun _=>?_|refine xT ?_|refine xI ?_|refine Ch.l ⟨rfl,rfl⟩ ?_|(apply SetAsk.r;focus repeat' constructor)|refine xN ?_|refine xD ?_|refine xO ?_|(apply Cl.p (htu);focus repeat' constructor)|(apply Cl.p (set13_p _);focus repeat' constructor))
      all_goals first
       | exact Fin.p rfl (vb (zF hno).symm)
       | exact absurd hst (by assumption)
       | exact(hT ⟨fun _=>⟨by omega,by omega⟩,fun h=>absurd hst h⟩).elim
     ·repeat'(first|apply Sp.h|refine Lk.r rfl ?_|refine Rf.mk rfl ?_|refine xA ?_|refine xB ?_|(refine Bd.mk ?_ ?_ <;> intro _)|refine OpK.r rfl ?_|refine Im.mk fun _=>?_|refine All.mk fun _=>?_|refine xT ?_|refine xI ?_|refine Ch.l ⟨rfl,rfl⟩ ?_|(apply SetAsk.r;focus repeat' constructor)|refine xN ?_|refine xD ?_|refine xO ?_|(apply Cl.p (htu);focus repeat' constructor)|(apply Cl.p (set13_p _);focus repeat' constructor))
      all_goals first
       | exact Fin.p rfl (vb (zF hno).symm)
       | exact absurd (by assumption) hst
       | exact(hT ⟨fun h=>absurd h hst,fun _=>⟨by omega,by omega,by omega⟩⟩).elim
   ·obtain⟨k,rfl⟩:∃k,i=k+1:=⟨i - 1,by omega⟩
    obtain⟨⟨wk,wc,wv⟩,hw⟩:=get_of (l:=x.updates) (i:=k) (by omega)
    by_cases hT:UpdT t uk uv∧wc < uc
    ·obtain⟨hT,hwu⟩:=hT
     have hgo:=alli_succ hui hup (hUT.2 ⟨hT,fun q _ h=>by rw [show k+1 - 1=k by omega,hw] at h;cases h;exact hwu⟩)
     by_cases hst:isSet13 t.kind
     ·obtain⟨g1,g2⟩:=hT.1 hst
      repeat'(first|apply Sp.h|refine Lk.r rfl ?_|refine Rf.mk rfl ?_|refine xA ?_|refine xB ?_|(refine Bd.mk ?_ ?_ <;> intro _)|refine OpK.r rfl ?_|refine Im.mk fun _=>?_|refine All.mk fun _=>?_|refine xT ?_|refine xI ?_|(apply Ix.r;(focus assumption);(focus omega))|refine Ch.l ⟨rfl,rfl⟩ ?_|(apply SetAsk.r;focus repeat' constructor)|refine xN ?_|refine xD ?_|refine xO ?_|(apply Cl.p (htu);focus repeat' constructor)|(apply Cl.p (set13_p _);focus repeat' constructor))
      all_goals first
       | exact PA.lp (k+1+1) xE ⟨⟨hin,hgo⟩,by omega⟩
       | exact absurd hst (by assumption)
       | exact(by omega:False).elim
     ·obtain⟨g1,g2,g3⟩:=hT.2 hst
      repeat'(first|apply Sp.h|refine Lk.r rfl ?_|refine Rf.mk rfl ?_|refine xA ?_|refine xB ?_|refine OpK.r rfl ?_|refine Im.mk fun _=>?_|refine All.mk fun _=>?_|refine xT ?_|refine xI ?_|(apply Ix.r;(focus assumption);(focus omega))|refine Ch.l ⟨rfl,rfl⟩ ?_|(apply SetAsk.r;focus repeat' constructor)|refine xN ?_|refine xD ?_|refine xO ?_|(apply Cl.p (htu);focus repeat' constructor)|(apply Cl.p (set13_p _);focus repeat' constructor))
      all_goals first
       | exact PA.lp (k+1+1) xE ⟨⟨hin,hgo⟩,by omega⟩
       | exact absurd (by assumption) hst
       | exact(by omega:False).elim
    ·have hno:=hno fun h=>hT ⟨(hUT.1 h).1,(hUT.1 h).2 _ h0 (by rw [show k+1 - 1=k by omega];exact hw)⟩
     by_cases hst:isSet13 t.kind
     ·repeat'(first|apply Sp.h|refine Lk.r rfl ?_|refine Rf.mk rfl ?_|refine xA ?_|refine xB ?_|(refine Bd.mk ?_ ?_ <;> intro _)|refine OpK.r rfl ?_|refine Im.mk fun _=>?_|refine All.mk fun _=>?_|refine xT ?_|refine xI ?_|(apply Ix.r;(focus assumption);(focus omega))|refine Ch.l ⟨rfl,rfl⟩ ?_|(apply SetAsk.r;focus repeat' constructor)|refine xN ?_|refine xD ?_|refine xO ?_|(apply Cl.p (htu);focus repeat' constructor)|(apply Cl.p (set13_p _);focus repeat' constructor))
      all_goals first
       | exact Fin.p rfl (vb (zF hno).symm)
       | exact absurd hst (by assumption)
       | exact(hT ⟨⟨fun _=>⟨by omega,by omega⟩,fun h=>absurd hst h⟩,by omega⟩).elim
     ·repeat'(first|apply Sp.h|refine Lk.r rfl ?_|refine Rf.mk rfl ?_|refine xA ?_|refine xB ?_|(refine Bd.mk ?_ ?_ <;> intro _)|refine OpK.r rfl ?_|refine Im.mk fun _=>?_|refine All.mk fun _=>?_|refine xT ?_|refine xI ?_|(apply Ix.r;(focus assumption);(focus omega))|refine Ch.l ⟨rfl,rfl⟩ ?_|(apply SetAsk.r;focus repeat' constructor)|refine xN ?_|refine xD ?_|refine xO ?_|(apply Cl.p (htu);focus repeat' constructor)|(apply Cl.p (set13_p _);focus repeat' constructor))
      all_goals first
       | exact Fin.p rfl (vb (zF hno).symm)
       | exact absurd (by assumption) hst
       | exact(hT ⟨⟨fun h=>absurd h hst,fun _=>⟨by omega,by omega,by omega⟩⟩,by omega⟩).elim
 have:i=x.updates.length:=by omega
 subst this
 have hup:=alli_all hup
 repeat'(first|apply Sp.h|refine Lk.r rfl ?_|refine Rf.mk rfl ?_|refine xA ?_|refine xB ?_|apply Bd.mk|apply Im.mk|refine xT ?_|refine xN ?_|intro _)
 ·rename_i h
  refine Fin.p rfl (vb ?_)
  by_cases h9:x.updates.length≤32
  ·rw [zT (show EffX m x from hdef.2 ⟨hd,hh,hup,by omega,h9⟩)]
   exact zT (by omega)
  ·rw [zF fun h8:EffX m x=>h9 h8.ul]
   exact zF (by omega)
 ·rename_i h
  exact Fin.p rfl (vb (zF fun h8:EffX m x=>h (by have:=h8.hl;omega)).symm)
def lexB : List Int→List Int→Bool
 | [],[]=>false
 | [],_ :: _=>true
 | _ :: _,[]=>false
 | x :: a,y :: b=>if x=y then lexB a b else decide (x < y)
theorem less_e(a b:List Int) : CallP Tryz.prog 122 [ints a,ints b] (.val (.bool (lexB a b))):=by
 refine CallA.of pg ord122 Tryz.func122 rfl Tryz.ntmps122 Tryz.results122 rfl fun h0 G0 O0=>?_
 repeat'(first|apply Sp.h|refine Lk.r rfl ?_|refine Rf.mk rfl ?_|fail)
 refine CA.loop (fun i:Nat=>⟨[(0,ints a),(1,ints b),(5,it i)],[]⟩) (fun i=>i≤a.length∧i≤b.length∧lexB (a.drop i) (b.drop i)=lexB a b) (fun i=>a.length - i) 0 xE ⟨zZ _,zZ _,rfl⟩ ?_
 rintro i ⟨hi1,hi2,he⟩
 by_cases ha:i < a.length
 ·obtain⟨x,hx⟩:=get_of ha
  rw [List.drop_eq_getElem_cons ha,(zS.1 hx).2] at he
  by_cases hb:i < b.length
  ·obtain⟨y,hy⟩:=get_of hb
   rw [List.drop_eq_getElem_cons hb,(zS.1 hy).2,lexB] at he
   by_cases hxy:x=y
   ·rw [if_pos hxy] at he
    repeat'(first|apply Sp.h|refine Lk.r rfl ?_|refine Rf.mk rfl ?_|refine xA ?_|refine OpK.r rfl ?_|apply Im.mk|refine xI ?_|refine xD ?_|refine xO ?_|intro _)
    all_goals first
     | exact PA.lp (i+1) xE ⟨⟨ha,hb,he⟩,by omega⟩
     | exact(by omega:False).elim
   ·rw [if_neg hxy] at he
    repeat'(first|apply Sp.h|refine Lk.r rfl ?_|refine Rf.mk rfl ?_|refine xA ?_|refine xB ?_|refine OpK.r rfl ?_|apply Im.mk|refine xI ?_|refine xN ?_|refine xD ?_|intro _)
    all_goals first
     | exact Fin.p rfl (vb he)
     | exact(by omega:False).elim
  ·rw [List.drop_of_length_le (l:=b) (by omega),lexB] at he
   repeat'(first|apply Sp.h|refine Lk.r rfl ?_|refine Rf.mk rfl ?_|refine xA ?_|refine xB ?_|apply Im.mk|refine xN ?_|intro _)
   exact Fin.p rfl (vb (by rw [←he];exact zF (by omega)))
 ·rw [List.drop_of_length_le (l:=a) (by omega)] at he
  by_cases hb:i < b.length
  ·rw [List.drop_eq_getElem_cons hb,lexB] at he
   repeat'(first|apply Sp.h|refine Lk.r rfl ?_|refine Rf.mk rfl ?_|refine xB ?_|apply Im.mk|refine xN ?_|intro _)
   exact Fin.p rfl (vb (by rw [←he];exact zT (by omega)))
  ·rw [List.drop_of_length_le (l:=b) (by omega),lexB] at he
   repeat'(first|apply Sp.h|refine Lk.r rfl ?_|refine Rf.mk rfl ?_|refine xB ?_|apply Im.mk|refine xN ?_|intro _)
   exact Fin.p rfl (vb (by rw [←he];exact zF (by omega)))
def SrtX(m:ModS)(o:OpS) : Prop:=∀(k:Nat) (s:Int),o.sorts[k]?=some s→ -1≤s∧s < m.sorts.length
structure OpsX (m:ModS):Prop where
 s:∀(i:Nat) (o:OpS),m.ops[i]?=some o→SrtX m o∧o.sorts.length≤3
 l:m.ops.length≤8
 d:DisX (m.ops.map OpS.name)
def ArgI(m:ModS)(s x:Int) : Prop:=(s < 0→ -9999≤x∧x≤9999)∧(0≤s→0≤x∧∃y,m.sorts[s.toNat]?=some y∧x < y)
structure ActI (m:ModS) (i:Nat) (a:ActS):Prop where
 o:∃j:Nat,a.op=(j:Int)∧∃o,m.ops[j]?=some o∧a.args.length=o.sorts.length∧∀(k:Nat) (x s:Int),a.args[k]?=some x→o.sorts[k]?=some s→ArgI m s x
 b:∀b,0 < i→m.acts[i - 1]?=some b→b.op < a.op∨(b.op=a.op∧lexB b.args a.args=true)
 e:EffX m a.eff
structure ActX (m:ModS):Prop where
 o:OpsX m
 l:m.acts.length≤256
 a:∀(i:Nat) (a:ActS),m.acts[i]?=some a→ActI m i a
noncomputable instance (m:ModS):Decidable (ActX m):=zC _
def UpdsRg(m:ModS) : Prop:=∀a∈m.acts,UpdRg a.eff
theorem actions_e(m:ModS)(hol:m.ops.length≤1000000000)(hur:UpdsRg m) : CallP Tryz.prog 54 [mdl m] (.val (.bool (decide (ActX m)))):=by
 have hd:=distinct_e (m.ops.map OpS.name)
 refine CallA.of pg ord54 Tryz.func54 rfl Tryz.ntmps54 Tryz.results54 rfl fun h0 G0 O0=>?_
 repeat'(first|apply Sp.h|refine Lk.r rfl ?_|refine Rf.mk rfl ?_|apply All.mk|(apply Fk.r;focus repeat' first|infer_instance|constructor)|refine Rf.mk ⟨rfl,rfl,rfl⟩ ?_|intro _)
 rename_i b1 v
 apply CA.retype (m:=([]:List ByteArray)) (g:=strC)
 focus(repeat constructor)
 focus rfl
 refine CA.loop (fun x:Nat×Value=>⟨[(1,pm b1),(3, .ow x.2),(4,it x.1)],[mR b1 m,arrR x.2 9 1 ((m.ops.take x.1).map OpS.name) strC]⟩) (fun x=>x.1≤m.ops.length∧x.1≤1000000000∧∀j o,j < x.1→m.ops[j]?=some o→SrtX m o∧o.sorts.length≤3) (fun x=>m.ops.length - x.1) (0,v) xE ⟨zZ _,by simp,fun j o h=>by simp at h⟩ ?_
 rintro⟨i,v⟩ ⟨hi,hib,hso⟩
 simp only at hi hib hso
 simp only
 have hnm:((m.ops.take i).map OpS.name).length=i:=by rw [List.length_map,zN];omega
 by_cases hin:i < m.ops.length
 ·obtain⟨o,ho⟩:=get_of hin
  have hbig:i < 1000000000:=by omega
  have hns:(m.ops.take (i+1)).map OpS.name=(m.ops.take i).map OpS.name ++ [o.name]:=by rw [zK,ho,List.map_append];rfl
  generalize hgn:(m.ops.take i).map OpS.name=names at hnm hns ⊢
  repeat'(first|apply Sp.h|refine Lk.r rfl ?_|refine Rf.mk rfl ?_|refine xA ?_|refine xP ?_|apply Im.mk|apply All.mk|refine xU ?_|refine xT ?_|refine xI ?_|refine Ce.r ?_|refine Ch.l ⟨rfl,rfl⟩ ?_|(apply SetAsk.r;focus repeat' constructor)|(apply Fk.r;focus repeat' first|infer_instance|constructor)|refine xN ?_|refine Rf.mk ⟨rfl,rfl⟩ ?_|refine Rf.mk ⟨rfl,rfl,rfl⟩ ?_|(apply Mp.lit;(focus repeat(first|exact MpL.nil|(apply MpL.cons;(focus rfl))|(apply MpL.inv;(focus repeat constructor);(focus infer_instance)))))|intro _)
  rename_i b5 _ v2
  refine CA.loop (fun k:Nat=>⟨[(1,pm b1),(3, .ow v2),(4,it i),(5,pm b5),(6,it k)],[mR b1 m,arrR v2 9 1 (names ++ [o.name]) strC,blkR b5 174 (opC o)]⟩) (fun k=>k≤o.sorts.length∧∀j s,j < k→o.sorts[j]?=some s→ -1≤s∧s < m.sorts.length) (fun k=>o.sorts.length - k) 0 xE ⟨zZ _,fun j s h=>by omega⟩ ?_
  rintro k ⟨hk,hks⟩
  by_cases hkn:k < o.sorts.length
  ·obtain⟨s,hs⟩:=get_of hkn
   repeat'(first|apply Sp.h|refine Lk.r rfl ?_|refine Rf.mk rfl ?_|refine xA ?_|refine xB ?_|apply Bd.mk|refine OpK.r rfl ?_|apply Im.mk|refine xT ?_|refine xI ?_|refine xN ?_|refine xD ?_|refine xO ?_|intro _)
   all_goals first
    | exact Fin.p rfl (vb (zF fun h:ActX m=>by have:=(h.o.s i o ho).1 k s hs;omega).symm)
    | exact PA.lp (k+1) xE ⟨⟨hkn,alli_succ hs hks ⟨by omega,by omega⟩⟩,by omega⟩
  ·have:k=o.sorts.length:=by omega
   subst this
   have hks:=alli_all hks
   repeat'(first|apply Sp.h|refine Lk.r rfl ?_|refine Rf.mk rfl ?_|refine xB ?_|apply Bd.mk|apply Im.mk|refine xT ?_|refine xN ?_|refine xO ?_|intro _)
   ·exact Fin.p rfl (vb (zF fun h:ActX m=>by have:=(h.o.s i o ho).2;omega).symm)
   ·refine PA.lp (i+1,v2) ?_ ⟨⟨hin,by simp only;omega,alli_succ ho hso ⟨hks,by omega⟩⟩,by simp only;omega⟩
    simp only
    rw [hns]
    exact xE
 have hie:i=m.ops.length:=by omega
 subst hie
 have hso:=alli_all hso
 rw [zL]
 rw [zL] at hnm
 by_cases hl8:m.ops.length≤8
 rotate_left
 ·generalize m.ops.map OpS.name=names at hd ⊢
  repeat'(first|apply Sp.h|refine Lk.r rfl ?_|refine Rf.mk rfl ?_|refine xA ?_|refine xB ?_|apply Im.mk|refine xT ?_|refine xN ?_|intro _)
  exact Fin.p rfl (vb (zF fun h:ActX m=>hl8 h.o.l).symm)
 by_cases hdx:DisX (m.ops.map OpS.name)
 rotate_left
 ·have hno:¬ActX m:=fun h=>hdx h.o.d
  generalize m.ops.map OpS.name=names at hd hnm hdx ⊢
  repeat'(first|apply Sp.h|refine Lk.r rfl ?_|refine Rf.mk rfl ?_|refine xB ?_|apply Im.mk|refine xT ?_|intro _)
  (apply Cl.fz;(focus repeat'(first|exact FZ.nil|(apply FZ.fz;(focus repeat constructor);(focus first|omega|decide|exact zB rfl|(simp <;> omega)))|apply FZ.agg|apply FZ.same)))
  refine xQ (hd) ?_
  repeat'(first|apply Sp.h|refine Lk.r rfl ?_|refine Rf.mk rfl ?_|refine xB ?_|refine xN ?_|fail)
  exact Fin.p rfl (vb (zF hno).symm)
 have hops:OpsX m:=⟨hso,hl8,hdx⟩
 generalize m.ops.map OpS.name=names at hd hnm hdx ⊢
 repeat'(first|apply Sp.h|refine Lk.r rfl ?_|refine Rf.mk rfl ?_|refine xB ?_|apply Im.mk|refine xT ?_|intro _)
 (apply Cl.fz;(focus repeat'(first|exact FZ.nil|(apply FZ.fz;(focus repeat constructor);(focus first|omega|decide|exact zB rfl|(simp <;> omega)))|apply FZ.agg|apply FZ.same)))
 refine xQ (hd) ?_
 by_cases hal:m.acts.length≤256
 rotate_left
 ·repeat'(first|apply Sp.h|refine Lk.r rfl ?_|refine Rf.mk rfl ?_|refine xA ?_|refine xB ?_|apply Im.mk|refine xT ?_|refine xN ?_|intro _)
  exact Fin.p rfl (vb (zF fun h:ActX m=>hal h.l).symm)
 repeat'(first|apply Sp.h|refine Lk.r rfl ?_|refine Rf.mk rfl ?_|refine xA ?_|refine xB ?_|apply Im.mk|refine xT ?_|intro _)
 refine CA.loop (fun i:Nat=>⟨[(1,pm b1),(7,it i)],[mR b1 m]⟩) (fun i=>i≤m.acts.length∧∀j a,j < i→m.acts[j]?=some a→ActI m j a) (fun i=>m.acts.length - i) 0 xE ⟨zZ _,fun j a h=>by omega⟩ ?_
 rintro i ⟨hi,hai⟩
 by_cases hin:i < m.acts.length
 ·obtain⟨a,ha⟩:=get_of hin
  have hno:¬ActI m i a→¬ActX m:=fun h h2=>h (h2.a i a ha)
  by_cases hb:0≤a.op∧a.op < m.ops.length
  rotate_left
  ·have hno:=hno fun h=>hb (by obtain⟨j,h1,o,h2,-⟩:=h.o;have:=(zS.1 h2).1;omega)
   repeat'(first|apply Sp.h|refine Lk.r rfl ?_|refine Rf.mk rfl ?_|refine xA ?_|refine xB ?_|apply Bd.mk|refine OpK.r rfl ?_|apply Im.mk|apply All.mk|refine xT ?_|refine xI ?_|refine Ch.l ⟨rfl,rfl⟩ ?_|(apply SetAsk.r;focus repeat' constructor)|refine xN ?_|refine xD ?_|intro _)
   all_goals first
    | exact Fin.p rfl (vb (zF hno).symm)
    | exact(hb ⟨by omega,by omega⟩).elim
  obtain⟨j,hj⟩:=Int.eq_ofNat_of_zero_le hb.1
  obtain⟨o,ho⟩:=get_of (l:=m.ops) (i:=j) (by omega)
  have hos:=(hso j o ho).1
  have hj0:0≤a.op:=hb.1
  have hj1:a.op < m.ops.length:=hb.2
  clear hb
  have hao:ActI m i a→a.args.length=o.sorts.length∧∀(k:Nat) (x s:Int),a.args[k]?=some x→o.sorts[k]?=some s→ArgI m s x:=by
   intro h
   obtain⟨j',h1,o',h2,h3⟩:=h.o
   obtain rfl:j=j':=by omega
   rw [ho] at h2;cases h2
   exact h3
  by_cases hlen:a.args.length=o.sorts.length
  rotate_left
  ·have hno:=hno fun h=>hlen (hao h).1
   repeat'(first|apply Sp.h|refine Lk.r rfl ?_|refine Rf.mk rfl ?_|refine xA ?_|refine xB ?_|refine OpK.r rfl ?_|apply Im.mk|apply All.mk|refine xT ?_|refine xI ?_|(apply Ix.r;(focus assumption);(focus omega))|refine Ch.l ⟨rfl,rfl⟩ ?_|(apply SetAsk.r;focus repeat' constructor)|refine xN ?_|refine xD ?_|intro _)
   all_goals exact Fin.p rfl (vb (zF hno).symm)
  repeat'(first|apply Sp.h|refine Lk.r rfl ?_|refine Rf.mk rfl ?_|refine xA ?_|refine xB ?_|refine OpK.r rfl ?_|apply Im.mk|apply All.mk|refine xT ?_|refine xI ?_|(apply Ix.r;(focus assumption);(focus omega))|refine Ch.l ⟨rfl,rfl⟩ ?_|(apply SetAsk.r;focus repeat' constructor)|refine xN ?_|refine xD ?_|intro _)
  rename_i b8 _ _ _
  refine CA.loop (fun k:Nat=>⟨[(1,pm b1),(7,it i),(8,pm b8),(9,it k)],[mR b1 m,blkR b8 142 (actC a)]⟩) (fun k=>k≤a.args.length∧∀q x,q < k→a.args[q]?=some x→∀s,o.sorts[q]?=some s→ArgI m s x) (fun k=>a.args.length - k) 0 xE ⟨zZ _,fun q x h=>by omega⟩ ?_
  rintro k ⟨hk,hka⟩
  by_cases hkn:k < a.args.length
  ·obtain⟨x,hx⟩:=get_of hkn
   obtain⟨s,hs⟩:=get_of (l:=o.sorts) (i:=k) (by omega)
   obtain⟨hs1,hs2⟩:=hos k s hs
   have hbw:=between13_p x 9999 (by omega)
   by_cases hA:ArgI m s x
   ·have hgo:=alli_succ hx hka fun s' h=>by rw [hs] at h;cases h;exact hA
    by_cases hs0:s < 0
    ·have hA1:=hA.1 hs0
     repeat'(first|apply Sp.h|refine Lk.r rfl ?_|refine Rf.mk rfl ?_|refine xA ?_|refine xB ?_|refine OpK.r rfl ?_|refine Im.mk fun _=>?_|refine xT ?_|refine xI ?_|(apply Ix.r;(focus assumption);(focus omega))|refine xD ?_|refine xO ?_|(apply Cl.p (hbw);focus repeat' constructor))
     all_goals first
      | exact PA.lp (k+1) xE ⟨⟨hkn,hgo⟩,by omega⟩
      | exact absurd hA1 (by assumption)
    ·obtain⟨hA1,y,hy,hA2⟩:=hA.2 (by omega)
     obtain⟨q,rfl⟩:=Int.eq_ofNat_of_zero_le (show 0≤s by omega)
     rw [Int.toNat_natCast] at hy
     repeat'(first|apply Sp.h|refine Lk.r rfl ?_|refine Rf.mk rfl ?_|refine xA ?_|refine xB ?_|refine OpK.r rfl ?_|refine Im.mk fun _=>?_|refine xT ?_|refine xI ?_|(apply Ix.r;(focus assumption);(focus omega))|refine xD ?_|refine xO ?_|(apply Cl.p (hbw);(focus repeat'(first|fail))))
     all_goals first
      | exact PA.lp (k+1) xE ⟨⟨hkn,hgo⟩,by omega⟩
      | exact(by omega:False).elim
   ·have hno:=hno fun h=>hA ((hao h).2 k x s hx hs)
    by_cases hs0:s < 0
    ·repeat'(first|apply Sp.h|refine Lk.r rfl ?_|refine Rf.mk rfl ?_|refine xA ?_|refine xB ?_|(refine Bd.mk ?_ ?_ <;> intro _)|refine OpK.r rfl ?_|refine Im.mk fun _=>?_|refine xT ?_|refine xI ?_|(apply Ix.r;(focus assumption);(focus omega))|refine xN ?_|refine xD ?_|refine xO ?_|(apply Cl.p (hbw);focus repeat' constructor))
     all_goals first
      | exact Fin.p rfl (vb (zF hno).symm)
      | exact(hA ⟨fun _=>by assumption,fun h=>by omega⟩).elim
    ·obtain⟨q,rfl⟩:=Int.eq_ofNat_of_zero_le (show 0≤s by omega)
     obtain⟨y,hy⟩:=get_of (l:=m.sorts) (i:=q) (by omega)
     repeat'(first|apply Sp.h|refine Lk.r rfl ?_|refine Rf.mk rfl ?_|refine xA ?_|refine xB ?_|(refine Bd.mk ?_ ?_ <;> intro _)|refine OpK.r rfl ?_|refine Im.mk fun _=>?_|refine xT ?_|refine xI ?_|(apply Ix.r;(focus assumption);(focus omega))|refine xN ?_|refine xD ?_|refine xO ?_|(apply Cl.p (hbw);(focus repeat'(first|fail))))
     all_goals first
      | exact Fin.p rfl (vb (zF hno).symm)
      | exact(hA ⟨fun h=>by omega,fun _=>⟨by omega,y,by rw [Int.toNat_natCast];exact hy,by omega⟩⟩).elim
  ·have hke:k=a.args.length:=by omega
   subst hke
   have hka:=alli_all hka
   have hef:=effect_e m a.eff (hur a (zM ha))
   have hyes:(∀b,0 < i→m.acts[i - 1]?=some b→b.op < a.op∨(b.op=a.op∧lexB b.args a.args=true))→EffX m a.eff→ActI m i a:=fun h1 h2=>⟨⟨j,hj,o,ho,hlen,fun k x s h3 h4=>hka k x h3 s h4⟩,h1,h2⟩
   rcases Nat.eq_zero_or_pos i with h0|h0
   ·subst h0
    by_cases hE:EffX m a.eff
    ·have hgo:=alli_succ ha hai (hyes (fun b h=>by omega) hE)
     repeat'(first|apply Sp.h|refine Lk.r rfl ?_|refine Rf.mk rfl ?_|refine xA ?_|refine xB ?_|refine Im.mk fun _=>?_|refine xT ?_|refine Ch.l ⟨rfl,rfl⟩ ?_|refine Ch.r ?_|refine xO ?_|(apply Cl.p (hef);focus repeat' constructor))
     exact PA.lp 1 xE ⟨⟨hin,hgo⟩,by omega⟩
    ·have hno:=hno fun h=>hE h.e
     repeat'(first|apply Sp.h|refine Lk.r rfl ?_|refine Rf.mk rfl ?_|refine xB ?_|refine Im.mk fun _=>?_|refine xT ?_|refine Ch.l ⟨rfl,rfl⟩ ?_|refine Ch.r ?_|refine xN ?_|(apply Cl.p (hef);focus repeat' constructor))
     exact Fin.p rfl (vb (zF hno).symm)
   ·obtain⟨q,rfl⟩:∃q,i=q+1:=⟨i - 1,by omega⟩
    obtain⟨b,hbb⟩:=get_of (l:=m.acts) (i:=q) (by omega)
    have hls:=less_e b.args a.args
    by_cases hL:b.op < a.op∨(b.op=a.op∧lexB b.args a.args=true)
    ·by_cases hE:EffX m a.eff
     ·have hgo:=alli_succ ha hai (hyes (fun b' _ h=>by rw [show q+1 - 1=q by omega,hbb] at h;cases h;exact hL) hE)
      rcases hL with hL|⟨hL1,hL2⟩
      ·repeat'(first|apply Sp.h|refine Lk.r rfl ?_|refine Rf.mk rfl ?_|refine xA ?_|refine xB ?_|refine Im.mk fun _=>?_|refine All.mk fun _=>?_|refine xT ?_|(apply Ix.r;(focus assumption);(focus omega))|refine Ch.l ⟨rfl,rfl⟩ ?_|refine Ch.r ?_|(apply SetAsk.r;focus repeat' constructor)|refine xN ?_|refine xO ?_|(apply Cl.p (hls);focus repeat' constructor)|(apply Cl.p (hef);focus repeat' constructor))
       all_goals first
        | exact PA.lp (q+1+1) xE ⟨⟨hin,hgo⟩,by omega⟩
        | exact(by omega:False).elim
      ·rw [hL2] at hls
       repeat'(first|apply Sp.h|refine Lk.r rfl ?_|refine Rf.mk rfl ?_|refine xA ?_|refine xB ?_|refine Im.mk fun _=>?_|refine All.mk fun _=>?_|refine xT ?_|(apply Ix.r;(focus assumption);(focus omega))|refine Ch.l ⟨rfl,rfl⟩ ?_|refine Ch.r ?_|(apply SetAsk.r;focus repeat' constructor)|refine xN ?_|refine xO ?_|(apply Cl.p (hls);focus repeat' constructor)|(apply Cl.p (hef);focus repeat' constructor))
       all_goals first
        | exact PA.lp (q+1+1) xE ⟨⟨hin,hgo⟩,by omega⟩
        | exact(by omega:False).elim
     ·have hno:=hno fun h=>hE h.e
      rcases hL with hL|⟨hL1,hL2⟩
      ·repeat'(first|apply Sp.h|refine Lk.r rfl ?_|refine Rf.mk rfl ?_|refine xA ?_|refine xB ?_|refine Im.mk fun _=>?_|refine All.mk fun _=>?_|refine xT ?_|(apply Ix.r;(focus assumption);(focus omega))|refine Ch.l ⟨rfl,rfl⟩ ?_|refine Ch.r ?_|(apply SetAsk.r;focus repeat' constructor)|refine xN ?_|refine xO ?_|(apply Cl.p (hls);focus repeat' constructor)|(apply Cl.p (hef);focus repeat' constructor))
       all_goals first
        | exact Fin.p rfl (vb (zF hno).symm)
        | exact(by omega:False).elim
      ·rw [hL2] at hls
       repeat'(first|apply Sp.h|refine Lk.r rfl ?_|refine Rf.mk rfl ?_|refine xA ?_|refine xB ?_|refine Im.mk fun _=>?_|refine All.mk fun _=>?_|refine xT ?_|(apply Ix.r;(focus assumption);(focus omega))|refine Ch.l ⟨rfl,rfl⟩ ?_|refine Ch.r ?_|(apply SetAsk.r;focus repeat' constructor)|refine xN ?_|refine xO ?_|(apply Cl.p (hls);focus repeat' constructor)|(apply Cl.p (hef);focus repeat' constructor))
       all_goals first
        | exact Fin.p rfl (vb (zF hno).symm)
        | exact(by omega:False).elim
    ·have hno:=hno fun h=>hL (h.b b h0 (by rw [show q+1 - 1=q by omega];exact hbb))
     cases hlx:lexB b.args a.args
     ·rw [hlx] at hls
      repeat'(first|apply Sp.h|refine Lk.r rfl ?_|refine Rf.mk rfl ?_|refine xA ?_|refine xB ?_|(refine Bd.mk ?_ ?_ <;> intro _)|refine Im.mk fun _=>?_|refine All.mk fun _=>?_|refine xT ?_|(apply Ix.r;(focus assumption);(focus omega))|refine Ch.l ⟨rfl,rfl⟩ ?_|(apply SetAsk.r;focus repeat' constructor)|refine xN ?_|refine xO ?_|(apply Cl.p (hls);focus repeat' constructor)|(apply Cl.p (hef);focus repeat' constructor))
      all_goals first
       | exact Fin.p rfl (vb (zF hno).symm)
       | exact(hL (.inl (by omega))).elim
     ·rw [hlx] at hls
      repeat'(first|apply Sp.h|refine Lk.r rfl ?_|refine Rf.mk rfl ?_|refine xA ?_|refine xB ?_|(refine Bd.mk ?_ ?_ <;> intro _)|refine Im.mk fun _=>?_|refine All.mk fun _=>?_|refine xT ?_|(apply Ix.r;(focus assumption);(focus omega))|refine Ch.l ⟨rfl,rfl⟩ ?_|refine Ch.r ?_|(apply SetAsk.r;focus repeat' constructor)|refine xN ?_|refine xO ?_|(apply Cl.p (hls);focus repeat' constructor)|(apply Cl.p (hef);focus repeat' constructor))
      all_goals first
       | exact Fin.p rfl (vb (zF hno).symm)
       | exact(hL (.inl (by omega))).elim
       | exact(hL (.inr ⟨by omega,hlx⟩)).elim
 ·have:i=m.acts.length:=by omega
  subst this
  repeat'(first|apply Sp.h|refine Lk.r rfl ?_|refine Rf.mk rfl ?_|refine xB ?_|apply Im.mk|refine xT ?_|refine xN ?_|intro _)
  exact Fin.p rfl (vb (zT (show ActX m from⟨hops,hal,alli_all hai⟩)).symm)
end Go.Proofs.YtmjllbjfkafhdaaGreatDoor
namespace Go.Proofs.YtmjllbjfkafhdaaGreatDoor
open Go Go.CF Go.ChangeShapes Go.WideShapes Go.ChangeAt Go.RowKit
theorem slice_mem{α:Type}{r:Rp α}{h:Heap}{F:Nat→Prop}{cs:List Value}{l:List α}(hr:r.slice.R h F cs l){x:α}(hx:x∈l) :∃row,r.R h F row x:=by
 obtain⟨v,rfl,hb,hl,rows,hs,hlen,hrow⟩:=hr
 obtain⟨i,hi⟩:=List.mem_iff_getElem?.1 hx
 obtain⟨row,hi2⟩:∃row,rows[i]?=some row:=⟨_,zE (by have:=(zS.1 hi).1;omega)⟩
 exact⟨row,hrow i row x hi2 hi⟩
theorem model_upds{h:Heap}{F:Nat→Prop}{cs:List Value}{m:ModS}(hr:Rp.model.R h F cs m) : UpdsRg m:=by
 intro a ha u hu
 obtain⟨_,_,_,_,_,_,_,_,_,_,_,_,_,_,_,_,_,_,_,_,_,_,_,h1,_⟩:=hr
 obtain⟨_,h2⟩:=slice_mem h1 ha
 obtain⟨_,_,_,_,_,_,_,_,_,_,_,h3,_⟩:=h2
 obtain⟨_,_,_,_,_,_,_,_,_,_,_,h4,_⟩:=h3
 obtain⟨_,h5⟩:=slice_mem h4 hu
 obtain⟨_,_,_,_,_,_,_,h6,_⟩:=h5
 exact(wf_i64.1 h6.2).2
end Go.Proofs.YtmjllbjfkafhdaaGreatDoor
namespace Go.Proofs.YtmjllbjfkafhdaaGreatDoor
open Go Go.CF
def idxN{α:Type}(p:α→Bool) : List α→Nat
 | []=>0
 | a :: l=>if p a then 0 else idxN p l+1
def idxI{α:Type}(p:α→Bool)(l:List α) : Int:=if idxN p l < l.length then idxN p l else -1
theorem idxN_of{α:Type}{p:α→Bool} :∀{l:List α} {i:Nat} {x:α},l[i]?=some x→p x=true→(∀j y,j < i→l[j]?=some y→p y=false)→idxN p l=i:=by
 intro l
 induction l with
 | nil=>intro i x h;cases h
 | cons a l ih =>
  intro i x h1 h2 h3
  cases i with
  | zero=>cases h1;simp [idxN,h2]
  | succ i =>
   have:=h3 0 a (by omega) rfl
   simp [idxN,this,ih h1 h2 fun j y hj hy=>h3 (j+1) y (by omega) hy]
theorem idxN_none{α:Type}{p:α→Bool} :∀{l:List α},(∀x∈l,p x=false)→idxN p l=l.length:=by
 intro l
 induction l with
 | nil=>intro _;rfl
 | cons a l ih=>intro h;simp [idxN,h a (by simp),ih fun x hx=>h x (by simp [hx])]
theorem idxN_at{α:Type}{p:α→Bool} :∀{l:List α},idxN p l < l.length→∃x,l[idxN p l]?=some x∧p x=true∧∀j y,j < idxN p l→l[j]?=some y→p y=false:=by
 intro l
 induction l with
 | nil=>intro h;simp at h
 | cons a l ih =>
  intro h
  by_cases ha:p a=true
  ·exact⟨a,by simp [idxN,ha],ha,fun j y hj=>by simp [idxN,ha] at hj⟩
  ·have he:idxN p (a :: l)=idxN p l+1:=by simp [idxN,ha]
   obtain⟨x,h1,h2,h3⟩:=ih (by rw [he] at h;simpa using h)
   refine⟨x,by rw [he];exact h1,h2,fun j y hj hy=>?_⟩
   cases j with
   | zero=>cases hy;simpa using ha
   | succ j=>exact h3 j y (by omega) hy
theorem idxN_le{α:Type}(p:α→Bool) :∀l:List α,idxN p l≤l.length:=by
 intro l
 induction l with
 | nil=>exact Nat.le_refl _
 | cons a l ih=>simp only [idxN,List.length_cons];split <;> omega
theorem idx_mem{α:Type}{p:α→Bool}{e:α} :∀{l:List α},e∈l→p e=true→idxN p l < l.length:=by
 intro l
 induction l with
 | nil=>intro h;cases h
 | cons a l ih =>
  intro h ho
  by_cases ha:p a=true
  ·simp [idxN,ha]
  ·rcases List.mem_cons.1 h with rfl|h9
   ·exact absurd ho ha
   ·simp [idxN,ha,ih h9 ho]
theorem lendAll{o:List Res} :∀l:List AV,Lend o l l
 | []=> .nil
 | _ :: l=> .keep (lendAll l)
theorem idxB_lt{α:Type}{p:α→Bool}{l:List α} : idxN p l < l.length↔∃x∈l,p x=true:=by
 constructor
 ·intro h
  obtain⟨x,h1,h2,-⟩:=idxN_at h
  exact⟨x,zM h1,h2⟩
 ·rintro⟨x,h1,h2⟩
  exact idx_mem h1 h2
/-! ### Lists of bools -/
def boolC(b:Bool) : List AV:= [.val (.bool b)]
abbrev bools (l:List Bool):AV:= .sl 1 l boolC
theorem indexB_p(l:List Bool)(a:Bool) : CallP Tryz.prog 257 [bools l, .val (.bool a)] (it (idxI (fun b=>decide (a=b)) l)):=by
 refine CallA.of pg ordZ Tryz.func257 rfl Tryz.ntmps257 Tryz.results257 rfl fun h0 G0 O0=>?_
 repeat'(first|apply Sp.h|refine Lk.r rfl ?_|refine Rf.mk rfl ?_|apply Im.mk|intro _)
 refine CA.loop (fun i:Nat=>⟨[(0,bools l),(1, .val (.bool a)),(7,it (l.length:Nat)),(8,it i)],[]⟩)
  (fun i=>i≤l.length∧∀j y,j < i→l[j]?=some y→decide (a=y)=false) (fun i=>l.length - i) 0 xE ⟨zZ _,fun j y h=>by omega⟩ ?_
 rintro i ⟨hi,hj⟩
 by_cases hin:i < l.length
 ·obtain⟨e,hx⟩:=get_of hin
  by_cases hp:a=e
  ·repeat'(first|apply Sp.h|refine Lk.r rfl ?_|refine Rf.mk rfl ?_|refine xA ?_|refine xI ?_|refine xN ?_|fail)
   exact Fin.p rfl (by rw [idxI,idxN_of hx (zT hp) hj,if_pos hin])
  ·repeat'(first|apply Sp.h|refine Lk.r rfl ?_|refine Rf.mk rfl ?_|refine xA ?_|refine xB ?_|refine xI ?_|refine xO ?_|fail)
   exact PA.lp (i+1) xE ⟨⟨hin,alli_succ hx hj (zF hp)⟩,by omega⟩
 ·repeat'(first|apply Sp.h|refine Lk.r rfl ?_|refine Rf.mk rfl ?_|refine xB ?_|refine xN ?_|fail)
  exact Fin.p rfl (by rw [idxI,idxN_none (fun x hx=>by obtain⟨j,hx⟩:=zO hx;exact hj j x (by have:=(zS.1 hx).1;omega) hx),if_neg (by omega)])
theorem all_p(l:List Bool) : CallP Tryz.prog 173 [bools l] (.val (.bool (l.all id))):=by
 have h:CallP Tryz.prog 218 [bools l, .val (.bool false)] (.val (.bool (decide (idxN (fun b=>decide (false=b)) l < l.length)))):=by
  have hi:=indexB_p l false
  refine CallA.of pg ordZ Tryz.func218 rfl Tryz.ntmps218 Tryz.results218 rfl fun h0 G0 O0=>?_
  repeat'(first|apply Sp.h|refine Lk.r rfl ?_|refine Rf.mk rfl ?_|refine xN ?_|(apply Cl.p (hi);focus repeat' constructor))
  refine Fin.p rfl (vb (zD.2 ?_))
  unfold idxI
  split <;> omega
 refine CallA.of pg ordZ Tryz.func173 rfl Tryz.ntmps173 Tryz.results173 rfl fun h0 G0 O0=>?_
 repeat'(first|apply Sp.h|refine Lk.r rfl ?_|refine Rf.mk rfl ?_|refine xN ?_|(apply Cl.p (h);focus repeat' constructor))
 refine Fin.p rfl (vb ?_)
 rw [Bool.eq_iff_iff,decide_eq_true_eq,idxB_lt,List.all_eq_true]
 constructor
 ·intro h x hx
  cases x
  ·exact(h ⟨_,hx,rfl⟩).elim
  ·rfl
 ·rintro h ⟨x,hx,h2⟩
  have:=h x hx
  rw [←of_decide_eq_true h2] at this
  cases this
/-! ### Searches in numbers, by closures with any captures -/
theorem indexI_c{g:FuncId}{caps:List AV}{p:Int→Bool}(hg:∀x,CallP Tryz.prog g (it x :: caps) (.val (.bool (p x))))(he:en g=true)(l:List Int) :
  CallP Tryz.prog 203 [ints l, .fn g caps] (it (idxI p l)):=by
 refine CallA.of pg ordZ Tryz.func203 rfl Tryz.ntmps203 Tryz.results203 rfl fun h0 G0 O0=>?_
 repeat'(first|apply Sp.h|refine Lk.r rfl ?_|refine Rf.mk rfl ?_|apply Im.mk|intro _)
 refine CA.loop (fun i:Nat=>⟨[(0,ints l),(1, .fn g caps),(7,it (l.length:Nat)),(8,it i)],[]⟩)
  (fun i=>i≤l.length∧∀j y,j < i→l[j]?=some y→p y=false) (fun i=>l.length - i) 0 xE ⟨zZ _,fun j y h=>by omega⟩ ?_
 rintro i ⟨hi,hj⟩
 by_cases hin:i < l.length
 ·obtain⟨e,hx⟩:=get_of hin
  repeat'(first|apply Sp.h|refine Lk.r rfl ?_|refine Rf.mk rfl ?_|refine xA ?_|(refine Bd.mk ?_ ?_ <;> intro _)|refine xI ?_|refine xN ?_|(apply Rf.mk;(focus assumption))|refine xO ?_|(apply Cl.p (hg e);(focus repeat'(first|apply Lend.keep|fail))))
  ·exact lendAll _
  ·rename_i hp
   exact Fin.p rfl (by rw [idxI,idxN_of hx hp hj,if_pos hin])
  ·rename_i hp
   exact PA.lp (i+1) xE ⟨⟨hin,alli_succ hx hj (by simpa using hp)⟩,by omega⟩
 ·repeat'(first|apply Sp.h|refine Lk.r rfl ?_|refine Rf.mk rfl ?_|refine xB ?_|refine xN ?_|fail)
  exact Fin.p rfl (by rw [idxI,idxN_none (fun x hx=>by obtain⟨j,hx⟩:=zO hx;exact hj j x (by have:=(zS.1 hx).1;omega) hx),if_neg (by omega)])
theorem containsI_c{g:FuncId}{caps:List AV}{p:Int→Bool}(hg:∀x,CallP Tryz.prog g (it x :: caps) (.val (.bool (p x))))(he:en g=true)(l:List Int) :
  CallP Tryz.prog 152 [ints l, .fn g caps] (.val (.bool (decide (idxN p l < l.length)))):=by
 have hi:=indexI_c hg he l
 refine CallA.of pg ordZ Tryz.func152 rfl Tryz.ntmps152 Tryz.results152 rfl fun h0 G0 O0=>?_
 repeat'(first|apply Sp.h|refine Lk.r rfl ?_|refine Rf.mk rfl ?_|refine xN ?_|(apply Cl.p (hi);focus repeat' constructor))
 refine Fin.p rfl (vb (zD.2 ?_))
 unfold idxI
 split <;> omega
/-! ### The tests of cells.Valid -/
theorem within_c(x lo hi:Int) : CallP Tryz.prog 176 [it x,it lo,it hi] (.val (.bool (decide (lo≤x∧x≤hi)))):=by
 refine CallA.of pg ordZ Tryz.func176 rfl Tryz.ntmps176 Tryz.results176 rfl fun h0 G0 O0=>?_
 repeat'(first|apply Sp.h|refine Lk.r rfl ?_|refine Rf.mk rfl ?_|refine xA ?_|refine xB ?_|apply Bd.mk|refine xN ?_|intro _)
 all_goals exact Fin.p rfl (vb (by first|exact(zT (by omega)).symm|exact(zF (by omega)).symm|exact zD.2 (by omega)))
theorem sized_p(sizes:List Int) : CallP Tryz.prog 174 [ints sizes] (.val (.bool (decide (Sound sizes)))):=by
 have h1:∀x,CallP Tryz.prog 219 [it x] (.val (.bool (!decide (1≤x∧x≤6)))):=by
  intro x
  have hw:=within_c x 1 6
  refine CallA.of pg ordZ Tryz.func219 rfl Tryz.ntmps219 Tryz.results219 rfl fun h0 G0 O0=>?_
  repeat'(first|apply Sp.h|refine Lk.r rfl ?_|refine Rf.mk rfl ?_|refine xN ?_|(apply Cl.p (hw);focus repeat' constructor))
  exact Fin.p rfl (vb decide_not)
 have h2:=containsI_c h1 rfl sizes
 refine CallA.of pg ordZ Tryz.func174 rfl Tryz.ntmps174 Tryz.results174 rfl fun h0 G0 O0=>?_
 repeat'(first|apply Sp.h|refine Lk.r rfl ?_|refine Rf.mk rfl ?_|refine xN ?_|(apply Cl.p (h2);focus repeat' constructor))
 refine Fin.p rfl (vb ?_)
 rw [Bool.eq_iff_iff,decide_eq_true_eq,idxB_lt,decide_eq_true_eq]
 constructor
 ·intro h x hx
  exact Classical.byContradiction fun h9=>h ⟨x,hx,by rw [zF h9];rfl⟩
 ·rintro h ⟨x,hx,h9⟩
  have:=h x hx
  simp at h9
  omega
theorem columned1_p(sizes:List Int)(x:Int) : CallP Tryz.prog 221 [it x, .ad [ints sizes] 0] (.val (.bool (!decide (0≤x∧x < sizes.length)))):=by
 refine CallA.of pg ordZ Tryz.func221 rfl Tryz.ntmps221 Tryz.results221 rfl fun h0 G0 O0=>?_
 repeat'(first|apply Sp.h|refine Lk.r rfl ?_|refine Rf.mk rfl ?_|refine xA ?_|refine xB ?_|apply Bd.mk|apply Im.mk|refine xN ?_|intro _)
 all_goals
  refine Fin.p rfl (vb ?_)
  by_cases hc:0≤x∧x < sizes.length
  ·rw [zT hc]
   first
    | exact zF (by omega)
    | (exfalso;omega)
  ·rw [zF hc]
   first
    | exact zT (by omega)
    | rfl
    | (exfalso;omega)
def ColC(sizes cols:List Int) : Prop:=cols.length≤3∧∀x∈cols,0≤x∧x < sizes.length
noncomputable instance (sizes cols:List Int):Decidable (ColC sizes cols):=zC _
theorem columned_p(sizes cols:List Int) : CallP Tryz.prog 177 [ints sizes,ints cols] (.val (.bool (decide (ColC sizes cols)))):=by
 have hc:=containsI_c (columned1_p sizes) rfl cols
 have hq:¬idxN (fun x:Int=> !decide (0≤x∧x < sizes.length)) cols < cols.length↔∀x∈cols,0≤x∧x < sizes.length:=by
  rw [idxB_lt]
  constructor
  ·intro h x hx
   exact Classical.byContradiction fun h9=>h ⟨x,hx,by rw [zF h9];rfl⟩
  ·rintro h ⟨x,hx,h9⟩
   have:=h x hx
   rw [zT this] at h9
   cases h9
 refine CallA.of pg ordZ Tryz.func177 rfl Tryz.ntmps177 Tryz.results177 rfl fun h0 G0 O0=>?_
 (repeat'(first|(show CA _ _ (Code.region 1 _ _) _ _;apply Stopped.out)|apply Sp.h|refine Lk.r rfl ?_|refine Rf.mk rfl ?_|apply All.mk|intro _));any_goals apply Stopped.mk
 refine CA.freezeB 2 rfl (by repeat constructor) ?_
 repeat'(first|apply Sp.h|refine Lk.r rfl ?_|refine Rf.mk rfl ?_|refine xA ?_|refine xB ?_|(refine Bd.mk ?_ ?_ <;> intro _)|refine Im.mk fun _=>?_|refine xN ?_|(apply Cl.p (hc);focus repeat' constructor))
 all_goals refine Fin.p rfl (vb ?_)
 ·rw [Bool.eq_iff_iff,decide_eq_true_eq,hq,decide_eq_true_eq]
  exact⟨fun h=>⟨by omega,h⟩,fun h=>h.2⟩
 ·exact(zF (fun h=>by have:=h.1;omega)).symm
def RngT(t:TblS) : Prop:=if t.kind=1∨t.kind=4∨t.kind=5 then t.lo≤t.hi∧ -9999≤t.lo∧t.hi≤9999 else t.lo=0∧t.hi=1
noncomputable instance (t:TblS):Decidable (RngT t):=zC _
theorem rngT_1{t:TblS}(h:t.kind=1∨t.kind=4∨t.kind=5) : RngT t↔t.lo≤t.hi∧ -9999≤t.lo∧t.hi≤9999:=by rw [RngT,if_pos h]
theorem rngT_0{t:TblS}(h:¬(t.kind=1∨t.kind=4∨t.kind=5)) : RngT t↔t.lo=0∧t.hi=1:=by rw [RngT,if_neg h]
theorem ranged_p(t:TblS) : CallP Tryz.prog 178 [.agg (tblC t)] (.val (.bool (decide (RngT t)))):=by
 refine CallA.of pg ordZ Tryz.func178 rfl Tryz.ntmps178 Tryz.results178 rfl fun h0 G0 O0=>?_
 repeat'(first|apply Sp.h|refine Lk.r rfl ?_|refine Rf.mk rfl ?_|refine xA ?_|refine xB ?_|apply Bd.mk|apply All.mk|refine xT ?_|refine Ch.r ?_|(apply Fk.r;focus repeat' first|infer_instance|constructor)|refine xN ?_|refine xK ?_|(apply Kf.mk;(focus kernel_rfl))|intro _)
 all_goals
  refine Fin.p rfl (vb ?_)
  first
   | exact zD.2 (by rw [rngT_1 (by omega)];omega)
   | exact(zT (by rw [rngT_1 (by omega)];omega)).symm
   | exact(zF (by rw [rngT_1 (by omega)];omega)).symm
   | exact zD.2 (by rw [rngT_0 (by omega)];omega)
   | exact(zT (by rw [rngT_0 (by omega)];omega)).symm
   | exact(zF (by rw [rngT_0 (by omega)];omega)).symm
   | exact zD.2 (by rw [rngT_0 (by omega)];simp)
theorem isStrict_p(t:TblS) : CallP Tryz.prog 179 [.agg (tblC t)] (.val (.bool (decide (isStrict t.kind)))):=by
 refine CallA.of pg ordZ Tryz.func179 rfl Tryz.ntmps179 Tryz.results179 rfl fun h0 G0 O0=>?_
 repeat'(first|apply Sp.h|refine Lk.r rfl ?_|refine Rf.mk rfl ?_|refine xA ?_|refine xB ?_|apply Bd.mk|apply All.mk|refine xT ?_|refine xN ?_|intro _)
 all_goals
  refine Fin.p rfl (vb ?_)
  first
   | exact zD.2 (by unfold isStrict;omega)
   | exact(zT (by unfold isStrict;omega)).symm
theorem width_p(sizes cols:List Int)(h:ColOK sizes cols) : CallP Tryz.prog 180 [ints sizes,ints cols] (it (prodF sizes cols)):=by
 obtain⟨hl,hs,ha⟩:=h
 refine CallA.of pg ordZ Tryz.func180 rfl Tryz.ntmps180 Tryz.results180 rfl fun h0 G0 O0=>?_
 repeat'(first|apply Sp.h|refine Lk.r rfl ?_|refine Rf.mk rfl ?_|apply Im.mk|intro _)
 refine CA.loop (fun i:Nat=>⟨[(0,ints sizes),(5,it (prodF sizes (cols.take i))),(8,ints cols),(9,it (cols.length:Nat)),(10,it i)],[]⟩) (fun i=>i≤cols.length) (fun i=>cols.length - i) 0 xE (zZ _) ?_
 rintro i hi
 by_cases hin:i < cols.length
 ·obtain⟨x,hx⟩:=get_of hin
  have hb:=ha x (zM hx)
  have hb1:=hb.1
  obtain⟨y,hy⟩:=get_of (l:=sizes) (i:=x.toNat) (by omega)
  have hys:=hs y (zM hy)
  have hp:=prod_le hs (cols.take i)
  have hp2:=prod_succ hx hy
  have hp3:=prod_le hs (cols.take (i+1))
  have h216:∀n:Nat,n≤3→(6:Int) ^ n≤216:=fun n hn=>by match n,hn with | 0,_=>decide | 1,_=>decide | 2,_=>decide | 3,_=>decide
  have h1:=h216 (cols.take i).length (by simp;omega)
  have h2:=h216 (cols.take (i+1)).length (by simp;omega)
  rw [hp2] at hp3
  repeat'(first|apply Sp.h|refine Lk.r rfl ?_|refine Rf.mk rfl ?_|refine xA ?_|refine xP ?_|refine xI ?_|(apply Ix.r;(focus assumption);(focus omega))|refine xO ?_|fail)
  rw [←hp2]
  exact PA.lp (i+1) xE ⟨hin,by omega⟩
 ·have:i=cols.length:=by omega
  subst this
  rw [zL]
  repeat'(first|apply Sp.h|refine Lk.r rfl ?_|refine Rf.mk rfl ?_|refine xB ?_|refine xN ?_|fail)
  exact Fin.p rfl rfl
end Go.Proofs.YtmjllbjfkafhdaaGreatDoor
namespace Go.CF
open Go
section
variable {P:Program} {tt:Nat→Option TI} {en:Nat→Bool} {n:Nat} {ty t u:TypeId} {env:Env} {h:Heap} {x y:Operand}
theorem ld_copy0(G:PgOK P tt en){ti te:TI}{e dl dc m:Nat}{p:Option Addr}{news:List Value}{xv:Value}{K:Value→Heap→Prop}(ht:tt t=some ti)(hk:ti.kind= .slice e)(hte:tt e=some te)
  (hx:ev env x=some (.slice p dl dc)) (hy:ev env y=some xv) (hs:Sl h xv m news) (hm:min m dl=0) (k:K (.int .i64 (0:Nat)) h):Ld P n (.call { callee:= .builtin .copy,args:=#[x,y],argTypes:=#[t,u] }) ty env h K:=by
 intro a w oo next Q ha hw hop hty hn
 obtain⟨i,dd,hi,hd,hi1,hi2,hi3,_⟩:=(G.ok _ _ hte).ok
 have hu:=(G.ok _ _ ht).slice hk
 obtain⟨q,qc,rfl⟩:=hs.shape
 have hr:=run_copy0 (P:=P) w t u ty e p q dl dc m qc hu hi hm
 have hrun:(execOp a.eval (mkOp (.call { callee:= .builtin .copy,args:=#[x,y],argTypes:=#[t,u] }) ty)).run P w= .ok (.value (goInt (0:Nat))) w:=by
  simp [mkOp,execOp,resolve,invoke,builtin,ha.ev hx,ha.ev hy,hr]
 unfold Oper.wp
 rw [exec_mk,hop,hty,hrun]
 exact hn _ w (Same.refl w) (hw▸k)
end
section
variable {Γ:Cx} {k:List KI} {e:EA} {o:List Res} {N:NA} {c:Cls} {d:Tmp} {ty:TypeId} {x y z:Operand} {t u:TypeId} {kk:IntKind} {i:Int}
structure Cpy (Γ:Cx) (c:Cls) (d:Tmp) (t u:TypeId) (x y:Operand) (ty:TypeId) (e:EA) (o:List Res) (N:NA) (a b:AV):Prop where
 h:evA e x=some a→evA e y=some b→isLoud c=true→SA Γ c (some d) (.call { callee:= .builtin .copy,args:=#[x,y],argTypes:=#[t,u] }) ty e o N
instance : Sp (SA Γ c (some d) (.call { callee:= .builtin .copy,args:=#[x,y],argTypes:=#[t,u] }) ty e o N) (Rf (isLoud c=true) (Lk (evA e x) fun a=>Lk (evA e y) fun b=>Cpy Γ c d t u x y ty e o N a b)):=⟨fun⟨hc,_,ha,_,hb,h⟩=>h.h ha hb hc⟩
theorem own_seg{h h':Heap}{b of cap len T sz:Nat}{l X:List Value}{R:List Value}{j cnt:Nat}(hw:Own h (.slice (some ⟨b,of,none⟩) len cap) T sz len R)(hX:X.length=cnt * sz)(hj:j+cnt≤len)
  (hu:Upd h b T (l.take (of+j * sz) ++ X ++ l.drop (of+j * sz+cnt * sz)) h') (hfit:of+cap * sz≤l.length) (hlc:len≤cap) (hR:(l.drop of).take (len * sz)=R):Own h' (.slice (some ⟨b,of,none⟩) len cap) T sz len (R.take (j * sz) ++ X ++ R.drop (j * sz+cnt * sz)):=by
 have hjs:j * sz+cnt * sz≤len * sz:=by rw [←Nat.add_mul];exact zU _ hj
 have hls:len * sz≤cap * sz:=zU _ hlc
 have hl:=hw.len_vs
 refine⟨by simp only [zP,zN,List.length_drop];omega, .inr ⟨b,of,cap,_,rfl,hu.blk, ?_,hlc, ?_⟩⟩
 ·simp only [zP,zN,List.length_drop];omega
 ·rw [←hX,own_write (by rw [hX];exact hjs) (by omega),hR]
theorem Upd.fpx{h h':Heap}{b:Nat}{T:TypeId}{l:List Value}(hu:Upd h b T l h'){O:Nat→Prop}(ho:O b) : FPx (fun y=>¬O y) h h' :=
 ⟨hu.stp.size,fun y hy hl=>hu.stp.same y hl (fun hm=>hy (by rw [zH.1 hm];exact ho))⟩
theorem con_seg{h':Heap}{hh:Heap}{env:Env}{G:Nat→Prop}{R R':Res}{rest:List Res}{O:Nat→Prop}{Os:List (Nat→Prop)}{b:Nat}{T:TypeId}{l:List Value}(cn:Con Γ ⟨e,R :: rest⟩ env hh G (O :: Os))(hu:Upd hh b T l h')(ho:O b)(hr:FPx G hh h'→R'.R h' O G) : Con Γ ⟨e,R' :: rest⟩ env h' G (O :: Os):=by
 have hx:=hu.fpx ho
 have hg:FPx G hh h':=hx.mono fun y hy hoy=>(cn.hp.o O (by simp) y hoy).2.2 hy
 exact cn.upd (R':=R') (O':=O) hx (fun y hy=>⟨Nat.lt_of_lt_of_le (cn.hp.o O (by simp) y hy).1 hu.stp.size, .inl hy⟩) (hr hg)
instance {v:Value} {s j m:Nat} {b:AV} : Sp (Cpy Γ c d t u x y ty e o N (.os v s j m) b) (Lk (slE Γ.tt t) fun p=>Src o b p.2.size fun q g=>TkA o v fun T sz l f rest=>Rf (T=p.1∧sz=p.2.size∧s=sz) (Mp q g f fun q' =>
  N ((d, .val (.int .i64 (min q'.length m:Nat))) :: e) (arrR v T sz (l.take j ++ q'.take (min q'.length m) ++ l.drop (j+min q'.length m)) f :: rest))):=⟨fun⟨p,hp,β,q,g,⟨α,T,sz,l,f,rest,tk,⟨hT,hz,hs⟩,q',hq',hn⟩,hsrc⟩=>⟨fun ha hb hc=>⟨fun env hh G Os cn=>by
 obtain⟨w,g1,p0,len,cap,rfl,hjm,rfl⟩:=cn.get ha
 obtain⟨w2,g2,r2⟩:=cn.get hb
 obtain⟨srows,hsl,hsr⟩:=hsrc cn.hp r2
 have hql:q'.length=q.length:=by have:=congrArg List.length hq';simpa using this
 have hsr':=hsr.map hq'
 subst hs;subst hT;subst hz
 obtain⟨ti,t1,t2,t3⟩:=slE_spec hp
 obtain⟨O,Os',cn2⟩:=cn.take tk
 obtain⟨⟨ho,rows,hw,hr⟩,hrest⟩:=cn2.hp.own
 by_cases h0:min q'.length m=0
 ·refine .ofLd hc (ld_copy0 Γ.ok t1 t2 t3 g1 g2 hsl (by rw [←hql];exact h0) ?_)
  rw [h0,List.take_zero,List.append_nil,Nat.add_zero,List.take_append_drop] at hn
  exact CN.mk (cn2.put d (a:= .val (.int .i64 (0:Nat))) rfl) hn
 ·rcases hw.ok with⟨e1,e2⟩|⟨b,of,cap',L,e1,hbk,h1,h2,h3⟩
  ·cases e1;omega
  ·cases e1
   have hsub:subA (some ⟨b,of,none⟩) p.2.size j cap=some ⟨b,of+j * p.2.size,none⟩:=by
    unfold subA;rw [if_neg (by omega)];simp [addr_add]
   rw [hsub] at g1
   have hlen:=hw.len_vs
   have hssz:=hsr.sz
   have hsfl:srows.flatten.length=q.length * p.2.size:=by rw [hsr.flen]
   have hmin:min q'.length m * p.2.size≤q.length * p.2.size:=zU _ (by omega)
   have hjs:j * p.2.size+min q'.length m * p.2.size≤l.length * p.2.size:=by rw [←Nat.add_mul];exact zU _ (by omega)
   have hls:l.length * p.2.size≤cap * p.2.size:=zU _ h2
   refine .ofLd hc (ld_copy Γ.ok t1 t2 t3 g1 g2 hbk hsl hsfl (fun v hv=>hsr.one v (zW hv)) (by rw [←hql];omega) fun h' hsz hu=>?_)
   rw [←hql] at hu ⊢
   have hob:O b:=(ho b).2 (by simp [blkOf])
   have hX:(srows.flatten.take (min q'.length m * p.2.size)).length=min q'.length m * p.2.size:=by rw [zN];omega
   have hown:=own_seg (j:=j) hw hX (by omega) hu h1 h2 h3
   have hlen2:(l.take j ++ q'.take (min q'.length m) ++ l.drop (j+min q'.length m)).length=l.length:=by simp;omega
   have hfl:(rows.take j ++ srows.take (min q'.length m) ++ rows.drop (j+min q'.length m)).flatten=rows.flatten.take (j * p.2.size) ++ srows.flatten.take (min q'.length m * p.2.size) ++ rows.flatten.drop (j * p.2.size+min q'.length m * p.2.size):=by
    rw [List.flatten_append,List.flatten_append,flat_take rows j hr.sz,flat_take srows _ hssz,flat_drop rows _ hr.sz,Nat.add_mul]
   have c3:=con_seg (R':=arrR (.slice (some ⟨b,of,none⟩) l.length cap) p.1 p.2.size (l.take j ++ q'.take (min q'.length m) ++ l.drop (j+min q'.length m)) f) cn2 hu hob (fun hg=>⟨ho,rows.take j ++ srows.take (min q'.length m) ++ rows.drop (j+min q'.length m),by rw [hlen2,hfl];exact hown,(((hr.take j).app (hsr'.take _)).app (hr.drop _)).stp hg⟩)
   exact CN.mk (c3.put d (a:= .val _) rfl) hn⟩⟩⟩
end
end Go.CF
