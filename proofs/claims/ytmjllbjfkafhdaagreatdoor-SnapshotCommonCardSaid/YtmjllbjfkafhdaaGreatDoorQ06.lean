/- Part 6 of the ground of this proof: what its texts say of the model, the program and the plain data; conditions: those that are named. -/
import Derived.Test.YtmjllbjfkafhdaaGreatDoorQ05
namespace Go.CF
open Go Go.ChangeShapes Go.WideShapes Go.ChangeAt Go.RowKit
def Rp.str : Rp ByteArray where
 sz:=1
 R:=fun _ _ cs a=>cs= [.string a]
 len:=by rintro _ _ _ _ rfl;rfl
 one:=by rintro _ _ _ _ rfl u hu;simp at hu;subst hu;rfl
 stp:=fun _ _ h=>h
 mono:=fun _ h=>h
 lt:=fun h=>h
theorem RdT.str{P:Program}{t:TypeId}(ht:P.underlying t=some .string)(hc:P.cellsOf t=1) : RdT P t Rp.str :=
 ⟨hc,fun h=>by obtain⟨b,h1,_⟩:=DataW.trod_string ht h;exact⟨b,h1⟩⟩
theorem Avr.str : Avr Rp.str fun s=> [.val (.string s)]:=⟨by rintro _ _ _ _ rfl;exact⟨⟨rfl,trivial⟩,fun u hu=>by rw [zH.1 hu];rfl⟩⟩
theorem Avr.bool : Avr Rp.bool fun b=> [.val (.bool b)]:=⟨by rintro _ _ _ _ rfl;exact⟨⟨rfl,trivial⟩,fun u hu=>by rw [zH.1 hu];rfl⟩⟩
theorem Avr.agg{α:Type}{r:Rp α}{f:α→List AV}(ha:Avr r f){h:Heap}{F:Nat→Prop}{v:Value}{a:α}(hv:v= .agg v.cells)(hr:r.R h F v.cells.toList a) : (AV.agg (f a)).R h F v:=⟨v.cells.toList,by simpa using hv,ha.rep hr⟩
end Go.CF
set_option maxRecDepth 100000
set_option maxHeartbeats 80000000
namespace Go.Proofs.YtmjllbjfkafhdaaGreatDoor
open Go Go.CF
abbrev sv (s:ByteArray):AV:= .val (.string s)
def isWhite(x:Int) : Prop:=x=9∨x=10∨x=13∨x=32
noncomputable instance (x:Int):Decidable (isWhite x):=zC _
theorem white_p(x:Int) : CallP Tryz.prog 275 [.val (.int .u8 x)] (.val (.bool (decide (isWhite x)))):=by
 refine CallA.of pg ordZ Tryz.func275 rfl Tryz.ntmps275 Tryz.results275 rfl fun h0 G0 O0=>?_
 repeat'(first|apply Sp.h|refine Lk.r rfl ?_|refine Rf.mk rfl ?_|refine xA ?_|refine xB ?_|apply Bd.mk|refine xN ?_|intro _)
 all_goals refine Fin.p rfl (vb ?_)
 all_goals first
  | exact zD.2 (by unfold isWhite;omega)
  | exact(zT (by unfold isWhite;omega)).symm
def isLetter(x:Int) : Prop:=97≤x∧x≤122
noncomputable instance (x:Int):Decidable (isLetter x):=zC _
theorem letter_p(x:Int) : CallP Tryz.prog 276 [.val (.int .u8 x)] (.val (.bool (decide (isLetter x)))):=by
 refine CallA.of pg ordZ Tryz.func276 rfl Tryz.ntmps276 Tryz.results276 rfl fun h0 G0 O0=>?_
 repeat'(first|apply Sp.h|refine Lk.r rfl ?_|refine Rf.mk rfl ?_|refine xA ?_|refine xB ?_|apply Bd.mk|refine xN ?_|intro _)
 all_goals refine Fin.p rfl (vb ?_)
 all_goals first
  | exact zD.2 (by unfold isLetter;omega)
  | exact(zF (by unfold isLetter;omega)).symm
def isDigit(x:Int) : Prop:=48≤x∧x≤57
noncomputable instance (x:Int):Decidable (isDigit x):=zC _
theorem digit_p(x:Int) : CallP Tryz.prog 277 [.val (.int .u8 x)] (.val (.bool (decide (isDigit x)))):=by
 refine CallA.of pg ordZ Tryz.func277 rfl Tryz.ntmps277 Tryz.results277 rfl fun h0 G0 O0=>?_
 repeat'(first|apply Sp.h|refine Lk.r rfl ?_|refine Rf.mk rfl ?_|refine xA ?_|refine xB ?_|apply Bd.mk|refine xN ?_|intro _)
 all_goals refine Fin.p rfl (vb ?_)
 all_goals first
  | exact zD.2 (by unfold isDigit;omega)
  | exact(zF (by unfold isDigit;omega)).symm
inductive Comm (s:ByteArray):Nat→Nat→Prop where
 | stop {a:Nat} :¬(a < s.size∧byteAt s a≠10)→Comm s a a
 | step {a j:Nat} : a < s.size→byteAt s a≠10→Comm s (a+1) j→Comm s a j
inductive Skip (s:ByteArray):Nat→Nat→Prop where
 | stop {a:Nat} :¬(a < s.size∧(isWhite (byteAt s a)∨byteAt s a=35))→Skip s a a
 | white {a j:Nat} : a < s.size→byteAt s a≠35→isWhite (byteAt s a)→Skip s (a+1) j→Skip s a j
 | com {a b j:Nat} : a < s.size→byteAt s a=35→Comm s a b→Skip s b j→Skip s a j
theorem Comm.le{s:ByteArray}{a j:Nat}(h:Comm s a j)(ha:a≤s.size) : a≤j∧j≤s.size:=by
 induction h with
 | stop=>exact⟨Nat.le_refl _,ha⟩
 | step h1 _ _ ih=>have:=ih h1;omega
theorem Comm.lt{s:ByteArray}{a j:Nat}(h:Comm s a j)(ha:a < s.size)(hb:byteAt s a=35) : a < j∧j≤s.size:=by
 cases h with
 | stop h=>exact absurd ⟨ha,by omega⟩ h
 | step h1 _ h3=>have:=h3.le h1;omega
theorem Comm.ex(s:ByteArray) :∀(n a:Nat),s.size - a=n→∃j,Comm s a j:=by
 intro n
 induction n with
 | zero=>exact fun a h=>⟨a, .stop (by omega)⟩
 | succ n ih =>
  intro a h
  by_cases h1:byteAt s a=10
  ·exact⟨a, .stop (by omega)⟩
  ·obtain⟨j,hj⟩:=ih (a+1) (by omega)
   exact⟨j, .step (by omega) h1 hj⟩
theorem Skip.le{s:ByteArray}{a j:Nat}(h:Skip s a j) : a≤s.size→a≤j∧j≤s.size∧(j < s.size→¬isWhite (byteAt s j)∧byteAt s j≠35):=by
 induction h with
 | stop h=>exact fun ha=>⟨Nat.le_refl _,ha,fun hl=>⟨fun h9=>h ⟨hl, .inl h9⟩,fun h9=>h ⟨hl, .inr h9⟩⟩⟩
 | white h1 _ _ _ ih=>intro ha;have:=ih h1;exact⟨by omega,this.2⟩
 | com h1 h2 h3 _ ih=>intro ha;have h9:=h3.lt h1 h2;have:=ih h9.2;exact⟨by omega,this.2⟩
theorem Skip.ex(s:ByteArray)(n:Nat) :∀a:Nat,s.size - a=n→∃j,Skip s a j:=by
 induction n using Nat.strongRecOn with
 | ind n ih =>
  intro a h
  by_cases hc:a < s.size∧(isWhite (byteAt s a)∨byteAt s a=35)
  ·by_cases h2:byteAt s a=35
   ·obtain⟨b,hb⟩:=Comm.ex s _ a rfl
    have h9:=hb.lt hc.1 h2
    obtain⟨j,hj⟩:=ih (s.size - b) (by omega) b rfl
    exact⟨j, .com hc.1 h2 hb hj⟩
   ·obtain⟨j,hj⟩:=ih (s.size - (a+1)) (by omega) (a+1) rfl
    exact⟨j, .white hc.1 h2 (hc.2.resolve_right h2) hj⟩
  ·exact⟨a, .stop hc⟩
theorem skip_p{s:ByteArray}{a j:Nat}(hs:s.size≤1000000000)(ha:a≤s.size)(h:Skip s a j) : CallP Tryz.prog 255 [sv s, .val (.int .i64 a)] (.val (.int .i64 j)):=by
 refine CallA.of pg ordZ Tryz.func255 rfl Tryz.ntmps255 Tryz.results255 rfl fun h0 G0 O0=>?_
 repeat'(first|apply Sp.h|refine Lk.r rfl ?_|refine Rf.mk rfl ?_|fail)
 refine CA.loop (fun a:Nat=>⟨[(0,sv s),(1, .val (.int .i64 a))],[]⟩) (fun a=>a≤s.size∧Skip s a j) (fun a=>s.size - a) a xE ⟨ha,h⟩ ?_
 rintro a ⟨ha,h⟩
 cases h with
 | stop hn =>
  by_cases hl:j < s.size
  ·have hw:¬isWhite (byteAt s j):=fun h9=>hn ⟨hl, .inl h9⟩
   have h35:byteAt s j≠35:=fun h9=>hn ⟨hl, .inr h9⟩
   repeat'(first|apply Sp.h|refine Lk.r rfl ?_|refine Rf.mk rfl ?_|refine xA ?_|refine xB ?_|refine xN ?_|(apply Sx.r;(focus exact rfl);(focus first|omega|(simp;omega)))|(apply Cl.p (white_p _);focus repeat' constructor))
   exact Fin.p rfl rfl
  ·repeat'(first|apply Sp.h|refine Lk.r rfl ?_|refine Rf.mk rfl ?_|refine xB ?_|refine xN ?_|(apply Cl.p (white_p _);(focus repeat'(first|fail))))
   exact Fin.p rfl rfl
 | white h1 h2 h3 h4 =>
  repeat'(first|apply Sp.h|refine Lk.r rfl ?_|refine Rf.mk rfl ?_|refine xA ?_|refine xB ?_|(apply Sx.r;(focus exact rfl);(focus first|omega|(simp;omega)))|refine xO ?_|(apply Cl.p (white_p _);focus repeat' constructor))
  exact PA.lp (a+1) xE ⟨⟨h1,h4⟩,by omega⟩
 | com h1 h2 h3 h4 =>
  rename_i b
  have hw:¬isWhite (byteAt s a):=by unfold isWhite;omega
  have hb:=h3.lt h1 h2
  repeat'(first|apply Sp.h|refine Lk.r rfl ?_|refine Rf.mk rfl ?_|refine xA ?_|refine xB ?_|(apply Sx.r;(focus exact rfl);(focus first|omega|(simp;omega)))|(apply Cl.p (white_p _);focus repeat' constructor))
  refine CA.loop (fun a:Nat=>⟨[(0,sv s),(1, .val (.int .i64 a))],[]⟩) (fun a=>a≤s.size∧Comm s a b) (fun a=>s.size - a) a xE ⟨ha,h3⟩ ?_
  rintro a2 ⟨ha2,h⟩
  cases h with
  | stop hn =>
   by_cases hl:b < s.size
   ·have h10:byteAt s b=10:=Classical.byContradiction fun h9=>hn ⟨hl,h9⟩
    repeat'(first|apply Sp.h|refine Lk.r rfl ?_|refine Rf.mk rfl ?_|refine xA ?_|(apply Sx.r;(focus exact rfl);(focus first|omega|(simp;omega)))|fail)
    exact PA.lp b xE ⟨⟨ha2,h4⟩,by omega⟩
   ·repeat'(first|apply Sp.h|refine Lk.r rfl ?_|refine Rf.mk rfl ?_|refine xB ?_|fail)
    exact PA.lp b xE ⟨⟨ha2,h4⟩,by omega⟩
  | step g1 g2 g3 =>
   repeat'(first|apply Sp.h|refine Lk.r rfl ?_|refine Rf.mk rfl ?_|refine xA ?_|refine xB ?_|(apply Sx.r;(focus exact rfl);(focus first|omega|(simp;omega)))|refine xO ?_|fail)
   exact PA.lp (a2+1) xE ⟨⟨g1,g3⟩,by omega⟩
def strC(q:ByteArray) : List AV:= [sv q]
def HasS(l:List ByteArray)(s:ByteArray) : Prop:=∃q∈l,q.toList=s.toList
noncomputable instance (l:List ByteArray) (s:ByteArray):Decidable (HasS l s):=zC _
theorem has_p(l:List ByteArray)(s:ByteArray) : CallP Tryz.prog 116 [.sl 1 l strC,sv s] (.val (.bool (decide (HasS l s)))):=by
 refine CallA.of pg ordZ Tryz.func116 rfl Tryz.ntmps116 Tryz.results116 rfl fun h0 G0 O0=>?_
 repeat'(first|apply Sp.h|refine Lk.r rfl ?_|refine Rf.mk rfl ?_|fail)
 refine CA.loop (fun i:Nat=>⟨[(0, .sl 1 l strC),(1,sv s),(5, .val (.int .i64 i))],[]⟩) (fun i=>i≤l.length∧∀j q,j < i→l[j]?=some q→q.toList≠s.toList) (fun i=>l.length - i) 0 xE ⟨zZ _,fun j q h=>by omega⟩ ?_
 rintro i ⟨hi,hj⟩
 by_cases hin:i < l.length
 ·obtain⟨q,hq⟩:=get_of hin
  repeat'(first|apply Sp.h|refine Lk.r rfl ?_|refine Rf.mk rfl ?_|refine xA ?_|apply Bd.mk|apply Im.mk|refine xI ?_|refine xN ?_|refine xO ?_|intro _)
  ·rename_i h
   exact Fin.p rfl (vb (zT (show HasS l s from⟨q,zM hq,h⟩)).symm)
  ·rename_i h
   refine PA.lp (i+1) xE ⟨⟨hin,fun j y h1 h2=>?_⟩,by omega⟩
   by_cases hij:j=i
   ·subst hij;rw [hq] at h2;cases h2;exact h
   ·exact hj j y (by omega) h2
 ·repeat'(first|apply Sp.h|refine Lk.r rfl ?_|refine Rf.mk rfl ?_|refine xB ?_|apply Im.mk|refine xN ?_|intro _)
  refine Fin.p rfl (vb (zF ?_).symm)
  rintro⟨q,hq,h⟩
  obtain⟨j,hq⟩:=zO hq
  exact hj j q (by have:=(zS.1 hq).1;omega) hq h
def symL : List ByteArray:= [⟨#[61,61]⟩,⟨#[33,61]⟩,⟨#[60,61]⟩,⟨#[62,61]⟩,⟨#[46,46]⟩,⟨#[60]⟩,⟨#[62]⟩,⟨#[61]⟩,⟨#[43]⟩,⟨#[45]⟩,⟨#[42]⟩,⟨#[40]⟩,⟨#[41]⟩,⟨#[123]⟩,⟨#[125]⟩,⟨#[44]⟩,⟨#[58]⟩,⟨#[59]⟩]
def kwL : List ByteArray:= [⟨#[115,111,114,116]⟩,⟨#[114,101,108,97,116,105,111,110]⟩,⟨#[99,111,117,110,116,101,114]⟩,⟨#[115,101,116]⟩,⟨#[114,101,103,105,115,116,101,114]⟩,⟨#[105,110,118,97,114,105,97,110,116]⟩,⟨#[111,112,101,114,97,116,105,111,110]⟩,⟨#[107,101,121]⟩,⟨#[114,101,102,101,114,101,110,99,101]⟩,⟨#[116,111]⟩,⟨#[99,111,117,110,116]⟩,⟨#[97,99,121,99,108,105,99]⟩,⟨#[97,108,108]⟩,⟨#[115,117,109]⟩,⟨#[105,110]⟩,⟨#[97,100,100,119,105,110,115]⟩,⟨#[114,101,109,111,118,101,119,105,110,115]⟩,⟨#[108,97,115,116]⟩,⟨#[109,117,108,116,105]⟩,⟨#[104,105,100,101]⟩,⟨#[111,114,100,101,114,101,100]⟩,⟨#[114,101,113,117,105,114,101]⟩,⟨#[104,111,108,100]⟩,⟨#[105,110,115,101,114,116]⟩,⟨#[100,101,108,101,116,101]⟩,⟨#[97,100,100]⟩,⟨#[102,114,111,109]⟩,⟨#[112,117,116]⟩,⟨#[100,114,111,112]⟩,⟨#[97,115,115,105,103,110]⟩,⟨#[102,111,114]⟩,⟨#[119,104,101,114,101]⟩,⟨#[97,110,100]⟩,⟨#[111,114]⟩,⟨#[110,111,116]⟩]
theorem symbols_o : CallO Tryz.prog 301 [] 9 1 (symL.map strC) id:=by
 refine CallA.of pg ordZ Tryz.func301 rfl Tryz.ntmps301 Tryz.results301 rfl fun h0 G0 O0=>?_
 repeat'(first|apply Sp.h|refine Lk.r rfl ?_|refine Rf.mk rfl ?_|apply All.mk|(apply Fk.r;focus repeat' first|infer_instance|constructor)|refine xN ?_|refine Rf.mk ⟨rfl,rfl,rfl⟩ ?_|intro _)
 exact⟨_,_, .one (.same (.z)),_,rfl,rfl⟩
theorem symbols_p : CallP Tryz.prog 301 [] (.sl 1 symL strC):=CallA.fzm (by decide) (List.map_id _).symm symbols_o
theorem keywords_o : CallO Tryz.prog 278 [] 9 1 (kwL.map strC) id:=by
 refine CallA.of pg ordZ Tryz.func278 rfl Tryz.ntmps278 Tryz.results278 rfl fun h0 G0 O0=>?_
 repeat'(first|apply Sp.h|refine Lk.r rfl ?_|refine Rf.mk rfl ?_|apply All.mk|(apply Fk.r;focus repeat' first|infer_instance|constructor)|refine xN ?_|refine Rf.mk ⟨rfl,rfl,rfl⟩ ?_|intro _)
 exact⟨_,_, .one (.same (.z)),_,rfl,rfl⟩
theorem keywords_p : CallP Tryz.prog 278 [] (.sl 1 kwL strC):=CallA.fzm (by decide) (List.map_id _).symm keywords_o
/-! ### Symbols -/
def symOK(s:ByteArray)(a:Nat)(q:ByteArray) : Prop:=a+q.size≤s.size∧(s.extract a (a+q.size)).toList=q.toList
noncomputable instance (s:ByteArray) (a:Nat) (q:ByteArray):Decidable (symOK s a q):=zC _
noncomputable def symF(L:List ByteArray)(s:ByteArray)(a:Nat) : Nat:=((L.find? fun q=>decide (symOK s a q)).map ByteArray.size).getD 0
theorem find_at{α:Type}{p:α→Bool} :∀{l:List α} {i:Nat} {x:α},l[i]?=some x→p x=true→(∀j y,j < i→l[j]?=some y→p y=false)→l.find? p=some x:=by
 intro l
 induction l with
 | nil=>intro i x h;cases h
 | cons a l ih =>
  intro i x h1 h2 h3
  cases i with
  | zero=>cases h1;simp [h2]
  | succ i =>
   have h4:=h3 0 a (by omega) rfl
   rw [List.find?_cons,h4]
   exact ih h1 h2 fun j y hj hy=>h3 (j+1) y (by omega) hy
theorem symL_size :∀q∈symL,q.size≤2:=by decide
theorem symF_le{s:ByteArray}{a:Nat}(ha:a≤s.size) : a+symF symL s a≤s.size:=by
 unfold symF
 cases h:symL.find? fun q=>decide (symOK s a q) with
 | none=>exact ha
 | some q=>exact(of_decide_eq_true (p:=symOK s a q) (List.find?_some (p:=fun q=>decide (symOK s a q)) h)).1
theorem symbol_p{s:ByteArray}{a:Nat}(hs:s.size≤1000000000)(ha:a≤s.size) : CallP Tryz.prog 279 [sv s, .val (.int .i64 a)] (.val (.int .i64 (symF symL s a))):=by
 obtain⟨L,hL⟩:∃L,L=symL:=⟨_,rfl⟩
 have hp:=symbols_p
 have hsz:=symL_size
 rw [←hL] at hp hsz ⊢
 refine CallA.of pg ord279 Tryz.func279 rfl Tryz.ntmps279 Tryz.results279 rfl fun h0 G0 O0=>?_
 repeat'(first|apply Sp.h|refine Lk.r rfl ?_|refine Rf.mk rfl ?_|(apply Cl.p (hp);(focus repeat'(first|exact Lend.nil|fail))))
 refine CA.loop (fun i:Nat=>⟨[(0,sv s),(1, .val (.int .i64 a)),(5, .sl 1 L strC),(6, .val (.int .i64 i))],[]⟩) (fun i=>i≤L.length∧∀j q,j < i→L[j]?=some q→¬symOK s a q) (fun i=>L.length - i) 0 xE ⟨zZ _,fun j q h=>by omega⟩ ?_
 rintro i ⟨hi,hj⟩
 by_cases hin:i < L.length
 ·obtain⟨q,hq⟩:=get_of hin
  have hqs:=hsz q (zM hq)
  repeat'(first|apply Sp.h|refine Lk.r rfl ?_|refine Rf.mk rfl ?_|refine xA ?_|refine xB ?_|apply Bd.mk|refine OpK.r rfl ?_|apply Im.mk|refine xI ?_|refine xN ?_|(apply Jx.r;(focus exact rfl);(focus first|omega|(simp;done)|(simp;omega)))|refine xD ?_|refine xO ?_|intro _)
  all_goals first
   | (rename_i h1 h2;exact Fin.p rfl (by rw [symF,find_at hq (zT (show symOK s a q from⟨by omega,h2⟩)) fun j y h8 h9=>zF (hj j y h8 h9)];rfl))
   | skip
  all_goals refine PA.lp (i+1) xE ⟨⟨hin,fun j y h8 h9=>?_⟩,by omega⟩
  all_goals
   by_cases hij:j=i
   ·subst hij;rw [hq] at h9;cases h9
    exact fun h7=>by have:=h7.1;have:=h7.2;first|contradiction|omega
   ·exact hj j y (by omega) h9
 ·repeat'(first|apply Sp.h|refine Lk.r rfl ?_|refine Rf.mk rfl ?_|refine xB ?_|apply Im.mk|refine xN ?_|intro _)
  have hn:L.find? (fun q=>decide (symOK s a q))=none:=List.find?_eq_none.2 fun q hq=>by
   obtain⟨j,hq⟩:=zO hq
   have:=hj j q (by have:=(zS.1 hq).1;omega) hq
   simpa using this
  exact Fin.p rfl (by rw [symF,hn];rfl)
/-! ### Tokens -/
def isWord(x:Int) : Prop:=isLetter x∨isDigit x∨x=95
/-! ### Scanning -/
abbrev TokT:=Int×Int×Int×Int
def tokC(x:TokT) : List AV:= [.val (.int .i64 x.1), .val (.int .i64 x.2.1), .val (.int .i64 x.2.2.1), .val (.int .i64 x.2.2.2)]
instance {a b c d:Int} : Inv tokC [.val (.int .i64 a), .val (.int .i64 b), .val (.int .i64 c), .val (.int .i64 d)] (a,b,c,d):=⟨rfl⟩
abbrev CallB (P:Program) (f:FuncId) (args:List AV):Prop:=CallA P f args [] fun r own=>∃b,r= .val (.bool b)∧own= []
structure TblS where
 name:ByteArray
 kind:Int
 cols:List Int
 lo:Int
 hi:Int
 first:Int
abbrev it (x:Int):AV:= .val (.int .i64 x)
def tblC(t:TblS) : List AV:= [sv t.name,it t.kind,ints t.cols,it t.lo,it t.hi,it t.first]
abbrev tbls (l:List TblS):AV:= .sl 6 l tblC
def Sound(sizes:List Int) : Prop:=∀x∈sizes,1≤x∧x≤6
noncomputable instance (sizes:List Int):Decidable (Sound sizes):=zC _
theorem sound_p(c:List Int) : CallP Tryz.prog 112 [ints c] (.val (.bool (decide (Sound c)))):=by
 refine CallA.of pg ordZ Tryz.func112 rfl Tryz.ntmps112 Tryz.results112 rfl fun h0 G0 O0=>?_
 repeat'(first|apply Sp.h|refine Lk.r rfl ?_|refine Rf.mk rfl ?_|fail)
 refine CA.loop (fun i:Nat=>⟨[(0,ints c),(3, .val (.int .i64 i))],[]⟩) (fun i=>i≤c.length∧∀x∈c.take i,1≤x∧x≤6) (fun i=>c.length - i) 0 xE ⟨zZ _,by simp⟩ ?_
 rintro i ⟨hi,ha⟩
 by_cases hin:i < c.length
 ·obtain⟨x,hx⟩:=get_of hin
  repeat'(first|apply Sp.h|refine Lk.r rfl ?_|refine Rf.mk rfl ?_|refine xA ?_|refine xB ?_|apply Bd.mk|apply Im.mk|refine xI ?_|refine xN ?_|refine xO ?_|intro _)
  all_goals first
   | exact PA.lp (i+1) xE ⟨⟨hin,all_succ hx ha ⟨by omega,by omega⟩⟩,by omega⟩
   | exact Fin.p rfl (vb (zF (fun h=>by have h1:=h x (zM hx);omega)).symm)
 ·have:i=c.length:=by omega
  subst this
  rw [zL] at ha
  repeat'(first|apply Sp.h|refine Lk.r rfl ?_|refine Rf.mk rfl ?_|refine xB ?_|apply Im.mk|refine xN ?_|intro _)
  exact Fin.p rfl (vb (zT (show Sound c from ha)).symm)
def ColOK(sizes cols:List Int) : Prop:=cols.length≤3∧Sound sizes∧∀x∈cols,0≤x∧x < sizes.length
noncomputable instance (sizes cols:List Int):Decidable (ColOK sizes cols):=zC _
def prodF(sizes cols:List Int) : Int:=cols.foldl (fun n c=>n * (sizes[c.toNat]?.getD 1)) 1
noncomputable def numF(sizes cols:List Int) : Int:=if ColOK sizes cols then prodF sizes cols else 0
theorem prod_succ{sizes cols:List Int}{i:Nat}{x y:Int}(hx:cols[i]?=some x)(hy:sizes[x.toNat]?=some y) : prodF sizes (cols.take (i+1))=prodF sizes (cols.take i) * y:=by
 unfold prodF;rw [zK,hx,List.foldl_append];simp [hy]
theorem prod_le{sizes:List Int}(hs:Sound sizes) :∀cols:List Int,1≤prodF sizes cols∧prodF sizes cols≤6 ^ cols.length:=by
 have key:∀(cols:List Int) (n:Int) (k:Nat),1≤n→n≤6 ^ k→1≤cols.foldl (fun n c=>n * (sizes[c.toNat]?.getD 1)) n∧cols.foldl (fun n c=>n * (sizes[c.toNat]?.getD 1)) n≤6 ^ (k+cols.length):=by
  intro cols
  induction cols with
  | nil=>exact fun n k h1 h2=>⟨h1,h2⟩
  | cons c cols ih =>
   intro n k h1 h2
   have hy:1≤sizes[c.toNat]?.getD 1∧sizes[c.toNat]?.getD 1≤6:=by
    cases h:sizes[c.toNat]? with
    | none=>simp
    | some y=>exact hs y (zM h)
   have:=ih (n * (sizes[c.toNat]?.getD 1)) (k+1) (by have:=Int.mul_le_mul h1 hy.1 (by omega) (by omega);omega) (by rw [Int.pow_succ];exact Int.mul_le_mul h2 hy.2 (by omega) (Int.le_trans (by omega) h2))
   rw [List.length_cons,show k+(cols.length+1)=k+1+cols.length by omega]
   exact this
 intro cols
 have:=key cols 1 0 (by omega) (by simp)
 rwa [Nat.zero_add] at this
theorem number_p(sizes cols:List Int) : CallP Tryz.prog 113 [ints sizes,ints cols] (it (numF sizes cols)):=by
 refine CallA.of pg ordZ Tryz.func113 rfl Tryz.ntmps113 Tryz.results113 rfl fun h0 G0 O0=>?_
 by_cases h1:cols.length≤3∧Sound sizes
 ·obtain⟨hl,hs⟩:=h1
  repeat'(first|apply Sp.h|refine Lk.r rfl ?_|refine Rf.mk rfl ?_|refine xA ?_|refine xB ?_|refine Im.mk fun _=>?_|(apply Cl.p (sound_p _);focus repeat' constructor))
  refine CA.loop (fun i:Nat=>⟨[(0,ints sizes),(1,ints cols),(5,it (prodF sizes (cols.take i))),(6,it i)],[]⟩) (fun i=>i≤cols.length∧∀x∈cols.take i,0≤x∧x < sizes.length) (fun i=>cols.length - i) 0 xE ⟨zZ _,by simp⟩ ?_
  rintro i ⟨hi,ha⟩
  by_cases hin:i < cols.length
  ·obtain⟨x,hx⟩:=get_of hin
   by_cases hb:0≤x∧x < sizes.length
   ·obtain⟨y,hy⟩:=get_of (l:=sizes) (i:=x.toNat) (by omega)
    have hb1:=hb.1
    have hys:=hs y (zM hy)
    have hp:=prod_le hs (cols.take i)
    have hp2:=prod_succ hx hy
    have hp3:=prod_le hs (cols.take (i+1))
    have h216:∀n:Nat,n≤3→(6:Int) ^ n≤216:=fun n hn=>by match n,hn with | 0,_=>decide | 1,_=>decide | 2,_=>decide | 3,_=>decide
    have hp4:prodF sizes (cols.take i) * y≤216:=by rw [←hp2];exact Int.le_trans hp3.2 (h216 _ (by rw [zN];omega))
    have hp5:1≤prodF sizes (cols.take i) * y:=by rw [←hp2];exact hp3.1
    repeat'(first|apply Sp.h|refine Lk.r rfl ?_|refine Rf.mk rfl ?_|refine xA ?_|refine xB ?_|refine xP ?_|apply Im.mk|refine xI ?_|(apply Ix.r;(focus assumption);(focus omega))|refine xO ?_|intro _)
    rw [←hp2]
    exact PA.lp (i+1) xE ⟨⟨hin,all_succ hx ha hb⟩,by omega⟩
   ·repeat'(first|apply Sp.h|refine Lk.r rfl ?_|refine Rf.mk rfl ?_|refine xA ?_|refine xB ?_|apply Bd.mk|apply Im.mk|refine xI ?_|refine xN ?_|intro _)
    all_goals exact Fin.p rfl (by rw [numF,if_neg (fun h=>hb (h.2.2 x (zM hx)))])
  ·have:i=cols.length:=by omega
   subst this
   rw [zL] at ha
   simp only [zL]
   repeat'(first|apply Sp.h|refine Lk.r rfl ?_|refine Rf.mk rfl ?_|refine xB ?_|apply Im.mk|refine xN ?_|intro _)
   exact Fin.p rfl (by rw [numF,if_pos ⟨hl,hs,ha⟩])
 ·repeat'(first|apply Sp.h|refine Lk.r rfl ?_|refine Rf.mk rfl ?_|refine xA ?_|refine xB ?_|(refine Bd.mk ?_ ?_ <;> intro _)|refine Im.mk fun _=>?_|refine xN ?_|(apply Cl.p (sound_p _);focus repeat' constructor))
  all_goals first
   | exact Fin.p rfl (by rw [numF,if_neg (fun h=>h1 ⟨h.1,h.2.1⟩)])
   | exact(h1 ⟨by omega,by assumption⟩).elim
def TabOK(sizes:List Int)(t:TblS) : Prop:=ColOK sizes t.cols∧0≤t.kind∧t.kind≤5∧ -9999≤t.lo∧t.lo≤t.hi∧t.hi≤9999
def LayOK(sizes:List Int)(l:List TblS) : Prop:=sizes.length≤4∧Sound sizes∧l.length≤12∧∀t∈l,TabOK sizes t
def isStrict(k:Int) : Prop:=k=0∨k=1
noncomputable instance (k:Int):Decidable (isStrict k):=zC _
theorem strict9_p(k:Int) : CallP Tryz.prog 115 [it k] (.val (.bool (decide (isStrict k)))):=by
 refine CallA.of pg ordZ Tryz.func115 rfl Tryz.ntmps115 Tryz.results115 rfl fun h0 G0 O0=>?_
 repeat'(first|apply Sp.h|refine Lk.r rfl ?_|refine Rf.mk rfl ?_|refine xA ?_|refine xB ?_|apply Bd.mk|refine xN ?_|intro _)
 all_goals refine Fin.p rfl (vb ?_)
 all_goals first
  | exact zD.2 (by unfold isStrict;omega)
  | exact(zT (by unfold isStrict;omega)).symm
theorem num_le(sizes cols:List Int) : 0≤numF sizes cols∧numF sizes cols≤216:=by
 unfold numF
 split
 ·rename_i h
  have hp:=prod_le h.2.1 cols
  have h216:∀n:Nat,n≤3→(6:Int) ^ n≤216:=fun n hn=>by match n,hn with | 0,_=>decide | 1,_=>decide | 2,_=>decide | 3,_=>decide
  have:=h216 _ h.1
  omega
 ·omega
theorem num_ne{sizes cols:List Int}(h:numF sizes cols≠0) : ColOK sizes cols:=by
 unfold numF at h
 split at h
 ·assumption
 ·exact absurd rfl h
abbrev CallF (P:Program) (f:FuncId) (args:List AV) (Q:Prop):Prop:=CallA P f args [] fun r own=>∃b,r= .val (.bool b)∧own= []∧(b=true→Q)
def rngC(p:Int×Int) : List AV:= [it p.1,it p.2]
def RgOK(rs:List (Int×Int)) : Prop:=∀p∈rs,-9999≤p.1∧p.1≤p.2∧p.2≤9999
structure RowS where
 terms:List (Int×Int)
 bound:Int
abbrev terms (l:List (Int×Int)):AV:= .sl 2 l rngC
def rowC(r:RowS) : List AV:= [terms r.terms,it r.bound]
theorem between13_p(x m:Int)(hm:0≤m∧m≤9223372036854775807) : CallP Tryz.prog 121 [it x,it m] (.val (.bool (decide (-m≤x∧x≤m)))):=by
 refine CallA.of pg ordZ Tryz.func121 rfl Tryz.ntmps121 Tryz.results121 rfl fun h0 G0 O0=>?_
 repeat'(first|apply Sp.h|refine Lk.r rfl ?_|refine Rf.mk rfl ?_|refine xA ?_|refine xB ?_|apply Bd.mk|refine xP ?_|refine xN ?_|intro _)
 all_goals refine Fin.p rfl (vb ?_)
 all_goals first
  | exact zD.2 (by omega)
  | exact(zF (by omega)).symm
structure CnsS where
 kind:Int
 family:Int
 row:RowS
 first:Int
 size:Int
def cnsC(c:CnsS) : List AV:= [it c.kind,it c.family,terms c.row.terms,it c.row.bound,it c.first,it c.size]
structure OpS where
 name:ByteArray
 ordered:Bool
 sorts:List Int
def opC(o:OpS) : List AV:= [sv o.name, .val (.bool o.ordered),ints o.sorts]
def updC : Int×Int×Int→List AV
 | (a,b,c)=> [it a,it b,it c]
structure EffS where
 delta:List (Int×Int)
 hold:List RowS
 updates:List (Int×Int×Int)
def effC(e:EffS) : List AV:= [terms e.delta, .sl 2 e.hold rowC, .sl 3 e.updates updC]
structure ActS where
 op:Int
 args:List Int
 eff:EffS
def actC(a:ActS) : List AV:= [it a.op,ints a.args,terms a.eff.delta, .sl 2 a.eff.hold rowC, .sl 3 a.eff.updates updC]
structure ModS where
 sorts:List Int
 tables:List TblS
 families:List ByteArray
 cons:List CnsS
 ops:List OpS
 acts:List ActS
 hides:List (Int×Int×Int)
def modC(m:ModS) : List AV:= [ints m.sorts,tbls m.tables, .sl 1 m.families strC, .sl 6 m.cons cnsC, .sl 3 m.ops opC, .sl 5 m.acts actC, .sl 3 m.hides updC]
abbrev mdl (m:ModS):AV:= .agg (modC m)
theorem col_get{sizes cols:List Int}(h:ColOK sizes cols){i:Nat}{x:Int}(hx:cols[i]?=some x) :∃j:Nat,x=(j:Int)∧∃y,sizes[j]?=some y∧1≤y∧y≤6:=by
 obtain⟨h1,h2⟩:=h.2.2 x (zM hx)
 obtain⟨j,rfl⟩:=Int.eq_ofNat_of_zero_le h1
 obtain⟨y,hy⟩:=get_of (l:=sizes) (i:=j) (by omega)
 exact⟨j,rfl,y,hy,h.2.1 y (zM hy)⟩
def isSet13(k:Int) : Prop:=k=2∨k=3
noncomputable instance (k:Int):Decidable (isSet13 k):=zC _
theorem set13_p(k:Int) : CallP Tryz.prog 172 [it k] (.val (.bool (decide (isSet13 k)))):=by
 refine CallA.of pg ordZ Tryz.func172 rfl Tryz.ntmps172 Tryz.results172 rfl fun h0 G0 O0=>?_
 repeat'(first|apply Sp.h|refine Lk.r rfl ?_|refine Rf.mk rfl ?_|refine xA ?_|refine xB ?_|apply Bd.mk|refine xN ?_|intro _)
 all_goals refine Fin.p rfl (vb ?_)
 all_goals first
  | exact zD.2 (by unfold isSet13;omega)
  | exact(zT (by unfold isSet13;omega)).symm
instance {a b:Int} : Inv rngC [it a,it b] (a,b):=⟨rfl⟩
abbrev pm (b:Nat):AV:= .val (.pointer (some ⟨b,0,none⟩))
abbrev mR (b:Nat) (m:ModS):Res:=blkR b 30 (modC m)
noncomputable instance (a b:EvS):Decidable (a=b):=zC _
theorem equalE_p(a b:EvS) : CallP Tryz.prog 243 [evA' a,evA' b] (.val (.bool (decide (a=b)))):=by
 refine CallA.of pg ordZ Tryz.func243 rfl Tryz.ntmps243 Tryz.results243 rfl fun h0 G0 O0=>?_
 repeat'(first|apply Sp.h|refine Lk.r rfl ?_|refine Rf.mk rfl ?_|refine xA ?_|refine xB ?_|apply Bd.mk|apply All.mk|refine xT ?_|refine xN ?_|intro _)
 refine xQ (equal_p _ _) ?_
 repeat'(first|apply Sp.h|refine Lk.r rfl ?_|refine Rf.mk rfl ?_|refine xA ?_|refine xB ?_|apply Bd.mk|refine xT ?_|refine Ch.r ?_|refine xN ?_|refine xK ?_|(apply Kf.mk;(focus kernel_rfl))|intro _)
 all_goals refine Fin.p rfl (vb ?_)
 ·refine zD.2 ⟨fun h=>?_,fun h=>by rw [h]⟩
  cases a;cases b;simp_all
 all_goals exact(zF (fun h=>by subst h;first|contradiction|simp_all)).symm
def GiveZ(e:EvS) : Prop:=e.gk=0∧e.gi=0∧e.ge=0∧e.ga=0∧e.to=0
def Sub0(e:EvS) : Prop:=Btw e.action 0 255∧Btw e.place 0 1024∧Btw e.serial 1 1048576
def Sub1(e:EvS) : Prop:=Btw e.gk 0 1∧Btw e.ge 0 (if e.gk=1 then 5 else 0)∧Btw e.gi 0 1023∧Btw e.ga 1 1000000∧Btw e.to 0 (e.past.length - 1)∧e.to≠e.rep
def Sub2(e:EvS) : Prop:=Btw e.place 1 1024∧Btw e.serial 1 1048576
noncomputable instance (e:EvS):Decidable (Sub0 e):=zC _
noncomputable instance (e:EvS):Decidable (Sub1 e):=zC _
noncomputable instance (e:EvS):Decidable (Sub2 e):=zC _
def KindOK(e:EvS) : Prop:=(e.kind=0∧Sub0 e∧GiveZ e)∨(e.kind=1∧Sub1 e∧e.action=0∧e.place=0∧e.serial=0)∨(e.kind=2∧Sub2 e∧e.action=0∧GiveZ e)
def FormedE(e:EvS) : Prop:=ValC e.past∧0≤e.rep∧(∃x,e.past[e.rep.toNat]?=some x∧e.num=x+1)∧e.num≤1024∧Btw e.time 1 1073741824∧KindOK e
noncomputable instance (e:EvS):Decidable (FormedE e):=zC _
theorem forms1_a(e:EvS)(b:Nat)(c0 c1 c2 c3 c4 c5 c6 c7 c8 c9 c10 c11 c12:AV) :
  CallA Tryz.prog 266 [.val (.pointer (some ⟨b,0,none⟩)), .ad (evC e) 0] [blkR b 66 [c0,c1,c2,c3,c4,c5,c6,c7,c8,c9,c10,c11,c12]] fun r own=>r= .val (.bool (decide (Sub0 e)))∧own= [blkR b 66 [c0,c1,c2,c3,c4,iv 0,c6,c7,c8,c9,c10,iv 0,iv 0]]:=by
 refine CallA.of pg ordZ Tryz.func266 rfl Tryz.ntmps266 Tryz.results266 rfl fun h0 G0 O0=>?_
 repeat'(first|apply Sp.h|refine Lk.r rfl ?_|refine Rf.mk rfl ?_|refine xA ?_|refine xB ?_|(refine Bd.mk ?_ ?_ <;> intro _)|refine xT ?_|refine xV ?_|refine xN ?_|(apply Cl.p (between_p _ _ _);focus repeat' constructor))
 all_goals refine⟨_,_, .one (.same (.z)),vb ?_,rfl⟩
 ·exact zD.2 ⟨fun h=>⟨by assumption,by assumption,h⟩,fun h=>h.2.2⟩
 all_goals exact(zF (fun h=>by unfold Sub0 at h;simp_all)).symm
theorem forms2_a(e:EvS)(b:Nat)(c0 c1 c2 c3 c4 c5 c6 c7 c8 c9 c10 c11 c12:AV)(hl:e.past.length≤9223372036854775807) :
  CallA Tryz.prog 267 [.val (.pointer (some ⟨b,0,none⟩)), .ad (evC e) 0] [blkR b 66 [c0,c1,c2,c3,c4,c5,c6,c7,c8,c9,c10,c11,c12]] fun r own=>r= .val (.bool (decide (Sub1 e)))∧own= [blkR b 66 [c0,c1,c2,c3,c4,c5,iv 0,iv 0,iv 0,iv 0,iv 0,c11,c12]]:=by
 refine CallA.of pg ordZ Tryz.func267 rfl Tryz.ntmps267 Tryz.results267 rfl fun h0 G0 O0=>?_
 repeat'(first|apply Sp.h|refine Lk.r rfl ?_|refine Rf.mk rfl ?_|refine xA ?_|refine xB ?_|(refine Bd.mk ?_ ?_ <;> intro _)|refine Im.mk fun _=>?_|refine All.mk fun _=>?_|refine xT ?_|refine Ch.r ?_|refine xV ?_|(apply SetAsk.r;focus repeat' constructor)|(apply Fk.r;focus repeat' first|infer_instance|constructor)|refine xN ?_|refine xO ?_|(apply Cl.p (between_p _ _ _);focus repeat' constructor))
 all_goals refine⟨_,_, .one (.same (.z)),vb ?_,rfl⟩
 all_goals first
  | exact(zF (by unfold Sub1;simp_all)).symm
  | exact zD.2 (by unfold Sub1;simp_all)
theorem forms3_a(e:EvS)(b:Nat)(c0 c1 c2 c3 c4 c5 c6 c7 c8 c9 c10 c11 c12:AV) :
  CallA Tryz.prog 268 [.val (.pointer (some ⟨b,0,none⟩)), .ad (evC e) 0] [blkR b 66 [c0,c1,c2,c3,c4,c5,c6,c7,c8,c9,c10,c11,c12]] fun r own=>r= .val (.bool (decide (Sub2 e)))∧own= [blkR b 66 [c0,c1,c2,c3,c4,c5,c6,c7,c8,c9,c10,iv 0,iv 0]]:=by
 refine CallA.of pg ordZ Tryz.func268 rfl Tryz.ntmps268 Tryz.results268 rfl fun h0 G0 O0=>?_
 repeat'(first|apply Sp.h|refine Lk.r rfl ?_|refine Rf.mk rfl ?_|refine xA ?_|refine xB ?_|(refine Bd.mk ?_ ?_ <;> intro _)|refine xT ?_|refine xV ?_|refine xN ?_|(apply Cl.p (between_p _ _ _);focus repeat' constructor))
 all_goals refine⟨_,_, .one (.same (.z)),vb ?_,rfl⟩
 ·exact zD.2 ⟨fun h=>⟨by assumption,h⟩,fun h=>h.2⟩
 all_goals exact(zF (fun h=>by unfold Sub2 at h;simp_all)).symm
abbrev fnE (f:FuncId) (e:EvS):AV:= .fn f [.ad (evC e) 0]
abbrev formM (e:EvS):List (List Int×AV):= [([0],fnE 266 e),([1],fnE 267 e),([2],fnE 268 e)]
theorem forms_a(e:EvS) : CallA Tryz.prog 242 [evA' e] [] fun r own=>∃M,r= .val (.map (some M))∧own= [mapR Tryz.prog M 3 (formM e) fun a:AV=>a]:=by
 refine CallA.of pg ordZ Tryz.func242 rfl Tryz.ntmps242 Tryz.results242 rfl fun h0 G0 O0=>?_
 repeat'(first|apply Sp.h|refine Lk.r rfl ?_|refine Rf.mk rfl ?_|apply All.mk|intro _)
 refine MkM.r (fun a:AV=>a) ?_
 refine⟨fun M=>?_⟩
 apply OA.freezeB 1
 focus rfl
 focus(repeat constructor)
 repeat'(first|apply Sp.h|refine Lk.r rfl ?_|refine Rf.mk rfl ?_|refine xN ?_|(apply Kf.mk;(focus kernel_rfl))|refine xM ?_|refine UpV.r rfl ?_|fail)
 exact⟨_,_, .one (.same (.z)),_,rfl,rfl⟩
def evZ : EvS:=⟨0,0,0,[],0,0,0,0,0,0,0,0,0⟩
theorem kind0{e:EvS}(h:e.kind=0) : KindOK e↔Sub0 e∧GiveZ e:=by unfold KindOK;rw [h];simp
theorem kind1{e:EvS}(h:e.kind=1) : KindOK e↔Sub1 e∧e.action=0∧e.place=0∧e.serial=0:=by unfold KindOK;rw [h];simp
theorem kind2{e:EvS}(h:e.kind=2) : KindOK e↔Sub2 e∧e.action=0∧GiveZ e:=by unfold KindOK;rw [h];simp
theorem formed_p(e:EvS) : CallP Tryz.prog 204 [evA' e] (.val (.bool (decide (FormedE e)))):=by
 refine CallA.of pg ord204 Tryz.func204 rfl Tryz.ntmps204 Tryz.results204 rfl fun h0 G0 O0=>?_
 by_cases hr:0≤e.rep∧e.rep < e.past.length
 ·obtain⟨x,hx⟩:=get_of (l:=e.past) (i:=e.rep.toNat) (by omega)
  by_cases hv:ValC e.past
  ·have hx2:=hv.1 x (zM hx)
   unfold rngK at hx2
   have hv2:=hv.2
   repeat'(first|apply Sp.h|refine Lk.r rfl ?_|refine Rf.mk rfl ?_|refine xA ?_|refine xB ?_|(refine Bd.mk ?_ ?_ <;> intro _)|refine OpK.r rfl ?_|refine Im.mk fun _=>?_|refine All.mk fun _=>?_|refine xT ?_|(apply Ix.r;(focus assumption);(focus omega))|refine Ch.l ⟨rfl,rfl⟩ ?_|refine xN ?_|refine xD ?_|refine xO ?_|(apply Cl.p (between_p _ _ _);focus repeat' constructor)|(apply Cl.p (validC_p _);focus repeat' constructor))
   all_goals try exact Fin.p rfl (vb (zF (fun⟨h1,h2,⟨y,hy,h3⟩,h4,h5,h6⟩=>by rw [hx] at hy;cases hy;first|contradiction|(unfold Btw at *;omega))).symm)
   rename_i hb1 hb2 hb3 hb4
   have hF:FormedE e↔KindOK e:=⟨fun h=>h.2.2.2.2.2,fun h=>⟨hv,hr.1,⟨x,hx,hb2⟩,by omega,hb4,h⟩⟩
   refine xW (forms_a e) ?_
   rintro _ _ ⟨M,rfl,rfl⟩
   by_cases hk0:e.kind=0
   ·have hl:lookL (formM e) [e.kind]=some (fnE 266 e):=by rw [hk0];rfl
    repeat'(first|apply Sp.h|refine Lk.r rfl ?_|refine Rf.mk rfl ?_|refine xA ?_|refine OpK.r rfl ?_|apply All.mk|refine xT ?_|refine Ch.r ?_|(apply SetAsk.r;focus repeat' constructor)|(apply Fk.r;focus repeat' first|infer_instance|constructor)|refine xN ?_|(apply Kf.mk;(focus kernel_rfl))|refine xM ?_|(apply LkM.s;(focus first|assumption|rfl))|intro _)
    refine xW (forms1_a e _ _ _ _ _ _ _ _ _ _ _ _ _ _) ?_
    rintro _ _ ⟨rfl,rfl⟩
    repeat'(first|apply Sp.h|refine Lk.r rfl ?_|refine Rf.mk rfl ?_|refine xA ?_|refine xB ?_|apply Bd.mk|refine xT ?_|refine Ch.l ⟨rfl,rfl⟩ ?_|(apply Fk.r;focus repeat' first|infer_instance|constructor)|refine xN ?_|intro _)
    ·(apply Cl.p (equalE_p { evZ with gk:=e.gk,gi:=e.gi,ge:=e.ge,ga:=e.ga,to:=e.to } evZ);(focus repeat'(first|exact Lend.nil|apply Lend.keep|apply Lend.nils|apply Lend.agg|fail)))
     repeat'(first|apply Sp.h|refine Lk.r rfl ?_|refine xA ?_|refine xN ?_|fail)
     exact Fin.p rfl (vb (zD.2 ((by simp [evZ,GiveZ, *]:_↔Sub0 e∧GiveZ e).trans ((kind0 hk0).symm.trans hF.symm))))
    ·exact Fin.p rfl (vb (zF (fun h=>by have:=(kind0 hk0).1 (hF.1 h);simp_all)).symm)
   by_cases hk1:e.kind=1
   ·have hl:lookL (formM e) [e.kind]=some (fnE 267 e):=by rw [hk1];rfl
    have hpl:e.past.length≤9223372036854775807:=by omega
    repeat'(first|apply Sp.h|refine Lk.r rfl ?_|refine Rf.mk rfl ?_|refine xA ?_|refine OpK.r rfl ?_|apply All.mk|refine xT ?_|refine Ch.r ?_|(apply SetAsk.r;focus repeat' constructor)|(apply Fk.r;focus repeat' first|infer_instance|constructor)|refine xN ?_|(apply Kf.mk;(focus kernel_rfl))|refine xM ?_|(apply LkM.s;(focus first|assumption|rfl))|intro _)
    refine xW (forms2_a e _ _ _ _ _ _ _ _ _ _ _ _ _ _ hpl) ?_
    rintro _ _ ⟨rfl,rfl⟩
    repeat'(first|apply Sp.h|refine Lk.r rfl ?_|refine Rf.mk rfl ?_|refine xA ?_|refine xB ?_|apply Bd.mk|refine xT ?_|refine Ch.l ⟨rfl,rfl⟩ ?_|(apply Fk.r;focus repeat' first|infer_instance|constructor)|refine xN ?_|intro _)
    ·(apply Cl.p (equalE_p { evZ with action:=e.action,place:=e.place,serial:=e.serial } evZ);(focus repeat'(first|exact Lend.nil|apply Lend.keep|apply Lend.nils|apply Lend.agg|fail)))
     repeat'(first|apply Sp.h|refine Lk.r rfl ?_|refine xA ?_|refine xN ?_|fail)
     exact Fin.p rfl (vb (zD.2 ((by simp [evZ, *]:_↔Sub1 e∧e.action=0∧e.place=0∧e.serial=0).trans ((kind1 hk1).symm.trans hF.symm))))
    ·exact Fin.p rfl (vb (zF (fun h=>by have:=(kind1 hk1).1 (hF.1 h);simp_all)).symm)
   by_cases hk2:e.kind=2
   ·have hl:lookL (formM e) [e.kind]=some (fnE 268 e):=by rw [hk2];rfl
    repeat'(first|apply Sp.h|refine Lk.r rfl ?_|refine Rf.mk rfl ?_|refine xA ?_|refine OpK.r rfl ?_|apply All.mk|refine xT ?_|refine Ch.r ?_|(apply SetAsk.r;focus repeat' constructor)|(apply Fk.r;focus repeat' first|infer_instance|constructor)|refine xN ?_|(apply Kf.mk;(focus kernel_rfl))|refine xM ?_|(apply LkM.s;(focus first|assumption|rfl))|intro _)
    refine xW (forms3_a e _ _ _ _ _ _ _ _ _ _ _ _ _ _) ?_
    rintro _ _ ⟨rfl,rfl⟩
    repeat'(first|apply Sp.h|refine Lk.r rfl ?_|refine Rf.mk rfl ?_|refine xA ?_|refine xB ?_|apply Bd.mk|refine xT ?_|refine Ch.l ⟨rfl,rfl⟩ ?_|(apply Fk.r;focus repeat' first|infer_instance|constructor)|refine xN ?_|intro _)
    ·(apply Cl.p (equalE_p { evZ with action:=e.action,gk:=e.gk,gi:=e.gi,ge:=e.ge,ga:=e.ga,to:=e.to } evZ);(focus repeat'(first|exact Lend.nil|apply Lend.keep|apply Lend.nils|apply Lend.agg|fail)))
     repeat'(first|apply Sp.h|refine Lk.r rfl ?_|refine xA ?_|refine xN ?_|fail)
     exact Fin.p rfl (vb (zD.2 ((by simp [evZ,GiveZ, *]:_↔Sub2 e∧e.action=0∧GiveZ e).trans ((kind2 hk2).symm.trans hF.symm))))
    ·exact Fin.p rfl (vb (zF (fun h=>by have:=(kind2 hk2).1 (hF.1 h);simp_all)).symm)
   ·have hl:lookL (formM e) [e.kind]=none:=by
     simp only [lookL,formM,List.find?_cons,List.find?_nil]
     simp [Ne.symm hk0,Ne.symm hk1,Ne.symm hk2]
    repeat'(first|apply Sp.h|refine Lk.r rfl ?_|refine Rf.mk rfl ?_|refine xB ?_|refine OpK.r rfl ?_|refine xN ?_|(apply Kf.mk;(focus kernel_rfl))|refine xM ?_|apply Zx.one|(apply LkM.n;(focus first|assumption|rfl))|fail)
    exact Fin.p rfl (vb (zF (fun h=>by have:=hF.1 h;unfold KindOK at this;omega)).symm)
  ·repeat'(first|apply Sp.h|refine Lk.r rfl ?_|refine Rf.mk rfl ?_|refine xB ?_|refine OpK.r rfl ?_|refine All.mk fun _=>?_|refine xT ?_|refine xN ?_|refine xD ?_|(apply Cl.p (validC_p _);focus repeat' constructor))
   exact Fin.p rfl (vb (zF (fun h=>hv h.1)).symm)
 ·have hnb:¬Btw e.rep 0 (e.past.length - 1):=by unfold Btw;omega
  by_cases hv:ValC e.past
  ·have hv2:=hv.2
   repeat'(first|apply Sp.h|refine Lk.r rfl ?_|refine Rf.mk rfl ?_|refine xA ?_|refine xB ?_|refine OpK.r rfl ?_|refine Im.mk fun _=>?_|refine All.mk fun _=>?_|refine xT ?_|refine xN ?_|refine xD ?_|refine xO ?_|(apply Cl.p (between_p _ _ _);focus repeat' constructor)|(apply Cl.p (validC_p _);focus repeat' constructor))
   all_goals exact Fin.p rfl (vb (zF (fun⟨h1,h2,⟨y,hy,h3⟩,_⟩=>by have:=(zS.1 hy).1;omega)).symm)
  ·repeat'(first|apply Sp.h|refine Lk.r rfl ?_|refine Rf.mk rfl ?_|refine xB ?_|refine OpK.r rfl ?_|refine All.mk fun _=>?_|refine xT ?_|refine xN ?_|refine xD ?_|(apply Cl.p (validC_p _);focus repeat' constructor))
   exact Fin.p rfl (vb (zF (fun h=>hv h.1)).symm)
def Cont(a b:List Int) : Prop:=AlikeC [a,b]∧Ins a b
def nm(e:EvS) : List Int:= [e.rep,e.num]
def Dep(l:List EvS)(e:EvS)(r:Nat)(n:Int) : Prop:=∀i:Int,1≤i→i≤n→∃x∈l,x.rep=r∧x.num=i∧Cont x.past e.past∧x.time < e.time
def Uniq(l:List EvS) : Prop:=∀(i j:Nat) (a b:EvS),l[i]?=some a→l[j]?=some b→nm a=nm b→i=j
def n0(l:List EvS) : Nat:=(l[0]?.map fun e=>e.past.length).getD 0
def ClosedE(l:List EvS) : Prop:=l.length≤1024∧Uniq l∧(∀e∈l,FormedE e∧e.past.length=n0 l)∧∀e∈l,∀(r:Nat) (n:Int),e.past[r]?=some n→Dep l e r n
theorem Uniq.eq{l:List EvS}(h:Uniq l){a b:EvS}(ha:a∈l)(hb:b∈l)(he:nm a=nm b) : a=b:=by
 obtain⟨i,hi⟩:=zO ha
 obtain⟨j,hj⟩:=zO hb
 have:=h i j a b hi hj he
 subst this
 rw [hi] at hj;cases hj;rfl
theorem filter_succ{α:Type}{l:List α}{p:α→Bool}{i:Nat}{x:α}(h:l[i]?=some x) : (l.take (i+1)).filter p=(l.take i).filter p ++ if p x then [x] else []:=by
 rw [zK,h]
 cases hp:p x <;> simp [hp]
noncomputable def clkE(n:Nat)(l:List EvS) : List Int:=l.foldl (fun c e=>c.set e.rep.toNat (max (c[e.rep.toNat]?.getD 0) e.num)) (List.replicate n 0)
theorem clkE_len(n:Nat)(l:List EvS) : (clkE n l).length=n:=by
 unfold clkE
 have:∀(l:List EvS) (c:List Int),(l.foldl (fun c e=>c.set e.rep.toNat (max (c[e.rep.toNat]?.getD 0) e.num)) c).length=c.length:=by
  intro l
  induction l with
  | nil=>intro c;rfl
  | cons a l ih=>intro c;rw [List.foldl_cons,ih,zY]
 rw [this,zR]
theorem zer4(a b c d:Int) : [a,b,c,d]= [0,0,0,0]↔a=0∧b=0∧c=0∧d=0:=by simp
theorem kindOK_num(e:EvS) : KindOK e↔
  (e.kind=0∧0≤e.action∧e.action≤255∧0≤e.place∧e.place≤1024∧1≤e.serial∧e.serial≤1048576∧e.gk=0∧e.gi=0∧e.ge=0∧e.ga=0∧e.to=0)∨
  (e.kind=1∧((e.gk=0∧e.ge=0)∨(e.gk=1∧0≤e.ge∧e.ge≤5))∧0≤e.gi∧e.gi≤1023∧1≤e.ga∧e.ga≤1000000∧0≤e.to∧e.to≤e.past.length - 1∧e.to≠e.rep∧e.action=0∧e.place=0∧e.serial=0)∨
  (e.kind=2∧1≤e.place∧e.place≤1024∧1≤e.serial∧e.serial≤1048576∧e.action=0∧e.gk=0∧e.gi=0∧e.ge=0∧e.ga=0∧e.to=0):=by
 unfold KindOK
 refine or_congr ?_ (or_congr (and_congr_right fun _=>?_) ?_)
 ·unfold Sub0 GiveZ Btw;simp only [and_assoc]
 ·unfold Sub1 Btw
  by_cases h:e.gk=1
  ·rw [if_pos h];omega
  ·rw [if_neg h];omega
 ·unfold Sub2 GiveZ Btw;simp only [and_assoc]
theorem formedR_p(e:EvS) : CallP Tryz.prog 73 [evA' e] (.val (.bool (decide (FormedE e)))):=by
 refine CallA.of pg ord73 Tryz.func73 rfl Tryz.ntmps73 Tryz.results73 rfl fun h0 G0 O0=>?_
 by_cases hv:ValC e.past
 ·have hv2:=hv.2
  by_cases hr:0≤e.rep∧e.rep < e.past.length
  ·obtain⟨x,hx⟩:=get_of (l:=e.past) (i:=e.rep.toNat) (by omega)
   have hx2:=hv.1 x (zM hx)
   unfold rngK at hx2
   have hr1:=hr.1
   have hr2:=hr.2
   by_cases hb:e.num=x+1∧e.num≤1024∧Btw e.time 1 1073741824
   ·have hF:FormedE e↔KindOK e:=⟨fun h=>h.2.2.2.2.2,fun h=>⟨hv,hr.1,⟨x,hx,hb.1⟩,hb.2.1,hb.2.2,h⟩⟩
    obtain⟨hb1,hb2,hb3,hb4⟩:=hb
    repeat'(first|apply Sp.h|refine Lk.r rfl ?_|refine Rf.mk rfl ?_|refine xA ?_|refine xB ?_|(refine Bd.mk ?_ ?_ <;> intro _)|refine OpK.r rfl ?_|refine Im.mk fun _=>?_|refine All.mk fun _=>?_|refine xT ?_|(apply Ix.r;(focus assumption);(focus omega))|refine Ch.r ?_|(apply SetAsk.r;focus repeat' constructor)|(apply Fk.r;focus repeat' first|infer_instance|constructor)|refine xN ?_|refine xK ?_|(apply Kf.mk;(focus kernel_rfl))|refine xD ?_|refine xO ?_|(apply Cl.p (validR_p _);focus repeat' constructor))
    all_goals try simp only [zer4] at *
    all_goals refine Fin.p rfl (vb ?_)
    all_goals first|refine zD.2 (Iff.trans ?_ hF.symm)|refine(zT (hF.2 ?_)).symm|refine(zF (fun h=>(?_:¬KindOK e) (hF.1 h))).symm
    all_goals rw [kindOK_num];omega
   ·unfold Btw at hb
    repeat'(first|apply Sp.h|refine Lk.r rfl ?_|refine Rf.mk rfl ?_|refine xA ?_|refine xB ?_|(refine Bd.mk ?_ ?_ <;> intro _)|refine OpK.r rfl ?_|refine Im.mk fun _=>?_|refine All.mk fun _=>?_|refine xT ?_|(apply Ix.r;(focus assumption);(focus omega))|refine xN ?_|refine xD ?_|refine xO ?_|(apply Cl.p (validR_p _);focus repeat' constructor))
    all_goals exact Fin.p rfl (vb (zF (fun⟨h1,h2,⟨y,hy,h3⟩,h4,⟨h5,h6⟩,_⟩=>by rw [hx] at hy;cases hy;omega)).symm)
  ·repeat'(first|apply Sp.h|refine Lk.r rfl ?_|refine Rf.mk rfl ?_|refine xA ?_|refine xB ?_|(refine Bd.mk ?_ ?_ <;> intro _)|refine OpK.r rfl ?_|refine Im.mk fun _=>?_|refine All.mk fun _=>?_|refine xT ?_|refine xN ?_|refine xD ?_|(apply Cl.p (validR_p _);focus repeat' constructor))
   all_goals exact Fin.p rfl (vb (zF (fun⟨h1,h2,⟨y,hy,h3⟩,_⟩=>by have:=(zS.1 hy).1;omega)).symm)
 ·repeat'(first|apply Sp.h|refine Lk.r rfl ?_|refine Rf.mk rfl ?_|refine xB ?_|refine OpK.r rfl ?_|refine All.mk fun _=>?_|refine xT ?_|refine xN ?_|refine xD ?_|(apply Cl.p (validR_p _);focus repeat' constructor))
  all_goals exact Fin.p rfl (vb (zF (fun h=>hv h.1)).symm)
theorem prod_fit{sizes cols:List Int}(h:ColOK sizes cols)(i:Nat) : 1≤prodF sizes (cols.take i)∧prodF sizes (cols.take i)≤216:=by
 have hp:=prod_le h.2.1 (cols.take i)
 have h216:∀n:Nat,n≤3→(6:Int) ^ n≤216:=fun n hn=>by match n,hn with | 0,_=>decide | 1,_=>decide | 2,_=>decide | 3,_=>decide
 have:=h216 _ (show(cols.take i).length≤3 by rw [zN];have:=h.1;omega)
 omega
theorem prod_fit'{sizes cols:List Int}(h:ColOK sizes cols) : 1≤prodF sizes cols∧prodF sizes cols≤216:=by
 have:=prod_fit h cols.length
 rwa [zL] at this
def szF(m:ModS)(t:TblS) : Nat:=(prodF m.sorts t.cols).toNat
noncomputable def strN(m:ModS)(l:List TblS) : Nat:=(l.map fun t=>if isStrict t.kind then szF m t else 0).sum
noncomputable def mrgL(m:ModS)(l:List TblS) : List TblS:=l.flatMap fun t=>if isStrict t.kind then [] else List.replicate (szF m t) t
noncomputable def strF(m:ModS) : Nat:=strN m m.tables
noncomputable def mrgF(m:ModS) : List TblS:=mrgL m m.tables
theorem sz_fit{m:ModS}{t:TblS}(h:ColOK m.sorts t.cols) : (prodF m.sorts t.cols=(szF m t:Nat))∧szF m t≤216∧1≤szF m t:=by
 have:=prod_fit' h
 unfold szF
 omega
theorem strN_succ{m:ModS}{l:List TblS}{i:Nat}{t:TblS}(h:l[i]?=some t) : strN m (l.take (i+1))=strN m (l.take i)+if isStrict t.kind then szF m t else 0:=by
 unfold strN;rw [zK,h];simp
theorem mrgL_succ{m:ModS}{l:List TblS}{i:Nat}{t:TblS}(h:l[i]?=some t) : mrgL m (l.take (i+1))=mrgL m (l.take i) ++ if isStrict t.kind then [] else List.replicate (szF m t) t:=by
 unfold mrgL;rw [zK,h];simp
theorem strN_le{m:ModS}(hm:LayOK m.sorts m.tables) :∀i,i≤m.tables.length→strN m (m.tables.take i)≤216 * i:=by
 intro i
 induction i with
 | zero=>simp [strN]
 | succ i ih =>
  intro hi
  obtain⟨t,ht⟩:=get_of (l:=m.tables) (i:=i) (by omega)
  have h1:=sz_fit (m:=m) (hm.2.2.2 t (zM ht)).1
  have:=ih (by omega)
  rw [strN_succ ht]
  split <;> omega
theorem mrgL_le{m:ModS}(hm:LayOK m.sorts m.tables) :∀i,i≤m.tables.length→(mrgL m (m.tables.take i)).length≤216 * i:=by
 intro i
 induction i with
 | zero=>simp [mrgL]
 | succ i ih =>
  intro hi
  obtain⟨t,ht⟩:=get_of (l:=m.tables) (i:=i) (by omega)
  have h1:=sz_fit (m:=m) (hm.2.2.2 t (zM ht)).1
  have:=ih (by omega)
  rw [mrgL_succ ht]
  split <;> simp <;> omega
theorem mrgF_le{m:ModS}(hm:LayOK m.sorts m.tables) : (mrgF m).length≤2592:=by
 have:=mrgL_le hm m.tables.length (Nat.le_refl _)
 rw [zL] at this
 have:=hm.2.2.1
 unfold mrgF
 omega
def FewV(l:List EvS) : Prop:=l.length≤60∧∀e∈l,e.past.length≤8
structure EffOK (m:ModS) (x:EffS):Prop where
 dl:x.delta.length≤128
 hl:x.hold.length≤8
 ul:x.updates.length≤32
 d:∀p∈x.delta,0≤p.1∧p.1 < (strF m:Nat)
 u:∀p∈x.updates,0≤p.2.1∧p.2.1 < ((mrgF m).length:Nat)
structure MOK (m:ModS):Prop where
 lay:LayOK m.sorts m.tables
 ops:m.ops.length≤8
 acts:m.acts.length≤256
 eff:∀a∈m.acts,EffOK m a.eff
 str:strF m≤128
 mrg:(mrgF m).length≤64
theorem cells_o(m:ModS)(hm:LayOK m.sorts m.tables) : CallO Tryz.prog 154 [mdl m] 150 6 (mrgF m) tblC:=by
 have hml:=hm.2.2.1
 refine CallA.of pg ordZ Tryz.func154 rfl Tryz.ntmps154 Tryz.results154 rfl fun h0 G0 O0=>?_
 repeat'(first|apply Sp.h|refine Lk.r rfl ?_|refine Rf.mk rfl ?_|apply Im.mk|apply All.mk|refine xT ?_|intro _)
 rename_i b1 _
 refine CA.nilOwn 3 150 6 tblC rfl fun v=>?_
 refine CA.loop (fun x:Nat×Value=>⟨[(1,pm b1),(3, .ow x.2),(10,tbls m.tables),(11,it (m.tables.length:Nat)),(12,it x.1)],[mR b1 m,arrR x.2 150 6 (mrgL m (m.tables.take x.1)) tblC]⟩) (fun x=>x.1≤m.tables.length) (fun x=>m.tables.length - x.1) (0,v) xE (zZ _) ?_
 rintro⟨i,v⟩ hi
 simp only at hi
 simp only
 by_cases hin:i < m.tables.length
 ·obtain⟨t,ht⟩:=get_of hin
  have hc:=(hm.2.2.2 t (zM ht)).1
  have h1:=sz_fit (m:=m) hc
  have hn:=mrgL_le hm i hi
  have hsu:=mrgL_succ (m:=m) ht
  by_cases hst:isStrict t.kind
  ·rw [if_pos hst,List.append_nil] at hsu
   unfold isStrict at hst
   repeat'(first|apply Sp.h|refine Lk.r rfl ?_|refine Rf.mk rfl ?_|refine xA ?_|refine xB ?_|apply Bd.mk|apply All.mk|refine xT ?_|refine xI ?_|refine Ch.l ⟨rfl,rfl⟩ ?_|(apply SetAsk.r;focus repeat' constructor)|refine xN ?_|refine xO ?_|intro _)
   all_goals rw [←hsu]
   all_goals exact PA.lp (i+1,v) xE ⟨hin,by simp only;omega⟩
  ·rw [if_neg hst] at hsu
   unfold isStrict at hst
   repeat'(first|apply Sp.h|refine Lk.r rfl ?_|refine Rf.mk rfl ?_|refine xA ?_|refine xB ?_|apply Im.mk|apply All.mk|refine xT ?_|refine xI ?_|refine Ch.l ⟨rfl,rfl⟩ ?_|(apply SetAsk.r;focus repeat' constructor)|refine xN ?_|intro _)
   rename_i b5 _
   refine CA.loop (fun k:Nat=>⟨[(1,pm b1),(3, .ow v),(5,pm b5),(6,it (prodF m.sorts (t.cols.take k))),(10,tbls m.tables),(11,it (m.tables.length:Nat)),(12,it i),(25,ints t.cols),(26,it (t.cols.length:Nat)),(27,it k)],[mR b1 m,arrR v 150 6 (mrgL m (m.tables.take i)) tblC,blkR b5 150 (tblC t)]⟩) (fun k=>k≤t.cols.length) (fun k=>t.cols.length - k) 0 xE (zZ _) ?_
   intro k hk
   by_cases hkn:k < t.cols.length
   ·obtain⟨x,hx⟩:=get_of hkn
    obtain⟨j,rfl,y,hy,hy1,hy2⟩:=col_get hc hx
    have hb:=prod_succ hx (show m.sorts[((j:Int)).toNat]?=some y by simpa using hy)
    have hp:=prod_fit hc k
    have hp2:=prod_fit hc (k+1)
    rw [hb] at hp2
    have hj:=(zS.1 hy).1
    repeat'(first|apply Sp.h|refine Lk.r rfl ?_|refine Rf.mk rfl ?_|refine xA ?_|refine xP ?_|refine xT ?_|refine xI ?_|refine xO ?_|fail)
    rw [←hb]
    exact PA.lp (k+1) xE ⟨hkn,by omega⟩
   have hke:k=t.cols.length:=by omega
   subst hke
   simp only [zL]
   rw [h1.1]
   repeat'(first|apply Sp.h|refine Lk.r rfl ?_|refine Rf.mk rfl ?_|refine xB ?_|fail)
   refine CA.loop (fun x:Nat×Value=>⟨[(1,pm b1),(3, .ow x.2),(5,pm b5),(10,tbls m.tables),(11,it (m.tables.length:Nat)),(12,it i),(39,it (szF m t:Nat)),(40,it x.1)],[mR b1 m,arrR x.2 150 6 (mrgL m (m.tables.take i) ++ List.replicate x.1 t) tblC,blkR b5 150 (tblC t)]⟩) (fun x=>x.1≤szF m t) (fun x=>szF m t - x.1) (0,v) ?_ (zZ _) ?_
   ·simp only [List.replicate_zero,List.append_nil]
    exact xE
   rintro⟨q,v⟩ hq
   simp only at hq
   simp only
   by_cases hqn:q < szF m t
   ·repeat'(first|apply Sp.h|refine Lk.r rfl ?_|refine Rf.mk rfl ?_|refine xA ?_|refine xP ?_|apply All.mk|refine xU ?_|refine xT ?_|refine Ce.r ?_|refine Ch.l ⟨rfl,rfl⟩ ?_|(apply Fk.r;focus repeat' first|infer_instance|constructor)|refine Rf.mk ⟨rfl,rfl⟩ ?_|refine Rf.mk ⟨rfl,rfl,rfl⟩ ?_|(apply Mp.lit;(focus repeat(first|exact MpL.nil|(apply MpL.cons;(focus rfl))|(apply MpL.inv;(focus repeat constructor);(focus infer_instance)))))|refine xO ?_|intro _)
    rw [List.append_assoc,show List.replicate q t ++ [t]=List.replicate (q+1) t from List.replicate_succ'.symm]
    exact PA.lp (q+1,_) xE ⟨hqn,by simp only;omega⟩
   have hqe:q=szF m t:=by omega
   subst hqe
   rw [←hsu]
   repeat'(first|apply Sp.h|refine Lk.r rfl ?_|refine Rf.mk rfl ?_|refine xB ?_|refine xO ?_|fail)
   exact PA.lp (i+1,v) xE ⟨hin,by simp only;omega⟩
 have hie:i=m.tables.length:=by omega
 subst hie
 simp only [zL]
 repeat'(first|apply Sp.h|refine Lk.r rfl ?_|refine Rf.mk rfl ?_|refine xB ?_|refine xN ?_|fail)
 exact⟨_,_, .one (.same (.z)),_,rfl,rfl⟩
theorem cells_p(m:ModS)(hm:LayOK m.sorts m.tables) : CallP Tryz.prog 154 [mdl m] (tbls (mrgF m)) :=
 CallA.fz (by have:=mrgF_le hm;omega) (cells_o m hm)
structure MkS where
 rep:Int
 num:Int
 time:Int
 val:Int
def mkC(x:MkS) : List AV:= [it x.rep,it x.num,it x.time,it x.val]
structure MgS where
 put:Bool
 drop:Bool
 marks:List MkS
abbrev bl (b:Bool):AV:= .val (.bool b)
abbrev mks (l:List MkS):AV:= .sl 4 l mkC
def mgC(g:MgS) : List AV:= [bl g.put,bl g.drop,mks g.marks]
abbrev mgs (l:List MgS):AV:= .sl 3 l mgC
def isReg(k:Int) : Prop:=k=4∨k=5
noncomputable instance (k:Int):Decidable (isReg k):=zC _
theorem register_p(t:TblS) : CallP Tryz.prog 163 [.agg (tblC t)] (bl (decide (isReg t.kind))):=by
 refine CallA.of pg ordZ Tryz.func163 rfl Tryz.ntmps163 Tryz.results163 rfl fun h0 G0 O0=>?_
 repeat'(first|apply Sp.h|refine Lk.r rfl ?_|refine Rf.mk rfl ?_|refine xA ?_|refine xB ?_|apply Bd.mk|apply All.mk|refine xT ?_|refine xN ?_|intro _)
 all_goals refine Fin.p rfl (vb ?_)
 all_goals first
  | exact zD.2 (by unfold isReg;omega)
  | exact(zT (by unfold isReg;omega)).symm
theorem dot_p(x:MkS) : CallP Tryz.prog 245 [.agg (mkC x)] (dotC x.rep x.num):=by
 refine CallA.of pg ordZ Tryz.func245 rfl Tryz.ntmps245 Tryz.results245 rfl fun h0 G0 O0=>?_
 repeat'(first|apply Sp.h|refine Lk.r rfl ?_|refine Rf.mk rfl ?_|apply All.mk|refine xT ?_|(apply SetAsk.r;focus repeat' constructor)|(apply Fk.r;focus repeat' first|infer_instance|constructor)|refine xN ?_|intro _)
 exact Fin.p rfl rfl
noncomputable def lowT(t:TblS) : Int:=if isReg t.kind then t.lo else 0
noncomputable def highT(t:TblS) : Int:=if isReg t.kind then t.hi else 0
def RightK(t:TblS)(x:MkS) : Prop:=(0≤x.rep∧x.rep≤4)∧(1≤x.num∧x.num≤1024)∧(1≤x.time∧x.time≤1073741824)∧lowT t≤x.val∧x.val≤highT t
noncomputable instance (t:TblS) (x:MkS):Decidable (RightK t x):=zC _
theorem right_p(t:TblS)(x:MkS) : CallP Tryz.prog 244 [.agg (tblC t), .agg (mkC x)] (bl (decide (RightK t x))):=by
 refine CallA.of pg ord244 Tryz.func244 rfl Tryz.ntmps244 Tryz.results244 rfl fun h0 G0 O0=>?_
 by_cases hr:isReg t.kind
 ·have hlo:lowT t=t.lo:=if_pos hr
  have hhi:highT t=t.hi:=if_pos hr
  repeat'(first|apply Sp.h|refine Lk.r rfl ?_|refine Rf.mk rfl ?_|refine xA ?_|refine xB ?_|(refine Bd.mk ?_ ?_ <;> intro _)|refine OpK.r rfl ?_|refine All.mk fun _=>?_|refine xT ?_|refine Ch.l ⟨rfl,rfl⟩ ?_|refine xN ?_|refine xD ?_|(apply Cl.p (register_p _);focus repeat' constructor))
  all_goals refine Fin.p rfl (vb ?_)
  all_goals first
   | exact zD.2 (by unfold RightK;omega)
   | exact(zF (by unfold RightK;omega)).symm
 ·have hlo:lowT t=0:=if_neg hr
  have hhi:highT t=0:=if_neg hr
  repeat'(first|apply Sp.h|refine Lk.r rfl ?_|refine Rf.mk rfl ?_|refine xA ?_|refine xB ?_|(refine Bd.mk ?_ ?_ <;> intro _)|refine All.mk fun _=>?_|refine xT ?_|refine Ch.l ⟨rfl,rfl⟩ ?_|refine xN ?_|(apply Cl.p (register_p _);focus repeat' constructor))
  all_goals refine Fin.p rfl (vb ?_)
  all_goals first
   | exact zD.2 (by unfold RightK;omega)
   | exact(zF (by unfold RightK;omega)).symm
theorem isNaN_p(x:Int) : CallP Tryz.prog 253 [it x] (bl false):=by
 refine CallA.of pg ordZ Tryz.func253 rfl Tryz.ntmps253 Tryz.results253 rfl fun h0 G0 O0=>?_
 repeat'(first|apply Sp.h|refine Lk.r rfl ?_|refine Rf.mk rfl ?_|refine xN ?_|fail)
 exact Fin.p rfl (vb (by simp))
def cmpI(x y:Int) : Int:=if x < y then -1 else if y < x then 1 else 0
theorem compareI_p(x y:Int) : CallP Tryz.prog 226 [it x,it y] (it (cmpI x y)):=by
 refine CallA.of pg ordZ Tryz.func226 rfl Tryz.ntmps226 Tryz.results226 rfl fun h0 G0 O0=>?_
 repeat'(first|apply Sp.h|refine Lk.r rfl ?_|refine Rf.mk rfl ?_|(refine Bd.mk ?_ ?_ <;> intro _)|refine xN ?_|(apply Cl.p (isNaN_p _);focus repeat' constructor))
 all_goals refine Fin.p rfl ?_
 all_goals unfold cmpI
 all_goals congr 2
 all_goals repeat' split
 all_goals omega
def orI(l:List Int) : Int:=(l.find? (fun x=>decide (x≠0))).getD 0
theorem orI_p(l:List Int) : CallP Tryz.prog 252 [ints l] (it (orI l)):=by
 refine CallA.of pg ordZ Tryz.func252 rfl Tryz.ntmps252 Tryz.results252 rfl fun h0 G0 O0=>?_
 repeat'(first|apply Sp.h|refine Lk.r rfl ?_|refine Rf.mk rfl ?_|apply Im.mk|intro _)
 refine CA.loop (fun i:Nat=>⟨[(3,it 0),(6,ints l),(7,it (l.length:Nat)),(8,it i)],[]⟩) (fun i=>i≤l.length∧∀x∈l.take i,x=0) (fun i=>l.length - i) 0 xE ⟨zZ _,by simp⟩ ?_
 rintro i ⟨hi,ha⟩
 by_cases hin:i < l.length
 ·obtain⟨x,hx⟩:=get_of hin
  repeat'(first|apply Sp.h|refine Lk.r rfl ?_|refine Rf.mk rfl ?_|refine xA ?_|apply Bd.mk|refine xI ?_|refine xN ?_|refine xO ?_|intro _)
  ·exact PA.lp (i+1) xE ⟨⟨hin,all_succ hx ha (by omega)⟩,by omega⟩
  ·rename_i h
   refine Fin.p rfl ?_
   have hf:l.find? (fun x=>decide (x≠0))=some x:=find_at hx (by simpa using h) fun j y hj hy=>by
    have:=ha y (zM (i:=j) (by rw [List.getElem?_take,if_pos hj];exact hy))
    simp [this]
   rw [orI,hf];rfl
 have hie:i=l.length:=by omega
 subst hie
 rw [zL] at ha
 repeat'(first|apply Sp.h|refine Lk.r rfl ?_|refine Rf.mk rfl ?_|refine xB ?_|refine xN ?_|fail)
 refine Fin.p rfl ?_
 have hf:l.find? (fun x=>decide (x≠0))=none:=List.find?_eq_none.2 fun x hx=>by simp [ha x hx]
 rw [orI,hf];rfl
def cmpK(a b:MkS) : Int:=orI [cmpI a.time b.time,cmpI a.rep b.rep,cmpI a.num b.num]
theorem compareK_p(a b:MkS) : CallP Tryz.prog 246 [.agg (mkC a), .agg (mkC b)] (it (cmpK a b)):=by
 refine CallA.of pg ord246 Tryz.func246 rfl Tryz.ntmps246 Tryz.results246 rfl fun h0 G0 O0=>?_
 repeat'(first|apply Sp.h|refine Lk.r rfl ?_|refine Rf.mk rfl ?_|refine OpK.r rfl ?_|refine All.mk fun _=>?_|refine xT ?_|(apply Fk.r;focus repeat' first|infer_instance|constructor)|refine Rf.mk ⟨rfl,rfl,rfl⟩ ?_|refine xD ?_|(apply Cl.p (compareI_p _ _);focus repeat' constructor))
 have h:=orI_p [cmpI a.time b.time,cmpI a.rep b.rep,cmpI a.num b.num]
 (apply Cl.lend (h);(focus repeat'(first|exact Lend.nil|(apply Lend.lendm;(focus repeat constructor);(focus rfl);(focus first|omega|decide|(simp;omega)|exact zB rfl))|fail)))
 repeat'(first|apply Sp.h|refine Lk.r rfl ?_|refine OpK.r rfl ?_|refine xN ?_|fail)
 exact Fin.p rfl rfl
def LtK(a b:MkS) : Prop:=a.time < b.time∨a.time=b.time∧(a.rep < b.rep∨a.rep=b.rep∧a.num < b.num)
noncomputable instance (a b:MkS):Decidable (LtK a b):=zC _
theorem cmpK_neg{a b:MkS} : cmpK a b < 0↔LtK a b:=by
 unfold cmpK orI LtK cmpI
 by_cases h1:a.time < b.time
 ·simp [h1]
 by_cases h2:b.time < a.time
 ·simp [h1,h2];omega
 have h3:a.time=b.time:=by omega
 by_cases h4:a.rep < b.rep
 ·simp [h3,h4]
 by_cases h5:b.rep < a.rep
 ·simp [h3,h4,h5];omega
 have h6:a.rep=b.rep:=by omega
 by_cases h7:a.num < b.num
 ·simp [h3,h6,h7]
 by_cases h8:b.num < a.num
 ·simp [h3,h6,h7,h8]
 ·simp [h3,h6,h7,h8]
theorem cmpK_pos{a b:MkS} : 0 < cmpK a b↔LtK b a:=by
 unfold cmpK orI LtK cmpI
 by_cases h1:a.time < b.time
 ·simp [h1];omega
 by_cases h2:b.time < a.time
 ·simp [h1,h2]
 have h3:a.time=b.time:=by omega
 by_cases h4:a.rep < b.rep
 ·simp [h3,h4];omega
 by_cases h5:b.rep < a.rep
 ·simp [h3,h4,h5]
 have h6:a.rep=b.rep:=by omega
 by_cases h7:a.num < b.num
 ·simp [h3,h6,h7];omega
 by_cases h8:b.num < a.num
 ·simp [h3,h6,h7,h8]
 ·simp [h3,h6,h7,h8]
abbrev rI:Rp Int:=Rp.int .i64
theorem rdStr : RdT Tryz.prog 9 Rp.str:=RdT.str Tryz.underlying9 (by kernel_rfl)
theorem rdBool : RdT Tryz.prog 4 Rp.bool:=RdT.bool Tryz.underlying4 (by kernel_rfl)
def Rp.rng : Rp (Int×Int×Unit):=rI.pair (rI.pair Rp.unit)
theorem rdRng : RdT Tryz.prog 148 Rp.rng:=RdT.struct Tryz.underlying148 rfl (by kernel_rfl) (RdF.cons rfl rdInt rfl (RdF.cons rfl rdInt rfl RdF.nil))
def Rp.table : Rp TblS:=(Rp.str.pair (rI.pair (rI.slice.pair (Rp.rng.pair (rI.pair Rp.unit))))).iso fun t:TblS=>(t.name,t.kind,t.cols,(t.lo,t.hi,()),t.first,())
theorem rdTable : RdT Tryz.prog 150 Rp.table:=RdT.iso (RdT.struct Tryz.underlying150 rfl (by kernel_rfl) (RdF.cons rfl rdStr rfl (RdF.cons rfl rdInt rfl (RdF.cons rfl rdInts rfl (RdF.cons rfl rdRng rfl (RdF.cons rfl rdInt rfl RdF.nil)))))) _ (fun x=>⟨x.1,x.2.1,x.2.2.1,x.2.2.2.1.1,x.2.2.2.1.2.1,x.2.2.2.2.1⟩) (fun _=>rfl)
theorem avTable : Avr Rp.table tblC:=((Avr.str.pair (Avr.int.pair (avInts.pair ((Avr.int.pair (Avr.int.pair Avr.unit)).pair (Avr.int.pair Avr.unit))))).iso _).cast fun _=>rfl
def Rp.term : Rp (Int×Int):=(rI.pair (rI.pair Rp.unit)).iso fun t:Int×Int=>(t.1,t.2,())
theorem avTerm : Avr Rp.term rngC:=((Avr.int.pair (Avr.int.pair Avr.unit)).iso _).cast fun _=>rfl
theorem rdTerm : RdT Tryz.prog 167 Rp.term:=RdT.iso (RdT.struct Tryz.underlying167 rfl (by kernel_rfl) (RdF.cons rfl rdInt rfl (RdF.cons rfl rdInt rfl RdF.nil))) _ (fun x=>(x.1,x.2.1)) (fun _=>rfl)
theorem rdChange : RdT Tryz.prog 144 Rp.term:=RdT.iso (RdT.struct Tryz.underlying144 rfl (by kernel_rfl) (RdF.cons rfl rdInt rfl (RdF.cons rfl rdInt rfl RdF.nil))) _ (fun x=>(x.1,x.2.1)) (fun _=>rfl)
def Rp.row : Rp RowS:=(Rp.term.slice.pair (rI.pair Rp.unit)).iso fun r:RowS=>(r.terms,r.bound,())
theorem rdRow : RdT Tryz.prog 170 Rp.row:=RdT.iso (RdT.struct Tryz.underlying170 rfl (by kernel_rfl) (RdF.cons rfl (RdT.slice Tryz.underlying168 (by kernel_rfl) rdTerm (by decide)) rfl (RdF.cons rfl rdInt rfl RdF.nil))) _ (fun x=>⟨x.1,x.2.1⟩) (fun _=>rfl)
theorem avRow : Avr Rp.row rowC:=((avTerm.slice.pair (Avr.int.pair Avr.unit)).iso _).cast fun _=>rfl
def Rp.cns : Rp CnsS:=(rI.pair (rI.pair (Rp.row.pair (rI.pair (rI.pair Rp.unit))))).iso fun c:CnsS=>(c.kind,c.family,c.row,c.first,c.size,())
theorem rdCns : RdT Tryz.prog 172 Rp.cns:=RdT.iso (RdT.struct Tryz.underlying172 rfl (by kernel_rfl) (RdF.cons rfl rdInt rfl (RdF.cons rfl rdInt rfl (RdF.cons rfl rdRow rfl (RdF.cons rfl rdInt rfl (RdF.cons rfl rdInt rfl RdF.nil)))))) _ (fun x=>⟨x.1,x.2.1,x.2.2.1,x.2.2.2.1,x.2.2.2.2.1⟩) (fun _=>rfl)
theorem avCns : Avr Rp.cns cnsC:=((Avr.int.pair (Avr.int.pair (avRow.pair (Avr.int.pair (Avr.int.pair Avr.unit))))).iso _).cast fun _=>rfl
def Rp.op : Rp OpS:=(Rp.str.pair (Rp.bool.pair (rI.slice.pair Rp.unit))).iso fun o:OpS=>(o.name,o.ordered,o.sorts,())
theorem rdOp : RdT Tryz.prog 174 Rp.op:=RdT.iso (RdT.struct Tryz.underlying174 rfl (by kernel_rfl) (RdF.cons rfl rdStr rfl (RdF.cons rfl rdBool rfl (RdF.cons rfl rdInts rfl RdF.nil)))) _ (fun x=>⟨x.1,x.2.1,x.2.2.1⟩) (fun _=>rfl)
theorem avOp : Avr Rp.op opC:=((Avr.str.pair (Avr.bool.pair (avInts.pair Avr.unit))).iso _).cast fun _=>rfl
def Rp.upd : Rp (Int×Int×Int):=(rI.pair (rI.pair (rI.pair Rp.unit))).iso fun u:Int×Int×Int=>(u.1,u.2.1,u.2.2,())
theorem rdUpd : RdT Tryz.prog 206 Rp.upd:=RdT.iso (RdT.struct Tryz.underlying206 rfl (by kernel_rfl) (RdF.cons rfl rdInt rfl (RdF.cons rfl rdInt rfl (RdF.cons rfl rdInt rfl RdF.nil)))) _ (fun x=>(x.1,x.2.1,x.2.2.1)) (fun _=>rfl)
theorem rdHide : RdT Tryz.prog 192 Rp.upd:=RdT.iso (RdT.struct Tryz.underlying192 rfl (by kernel_rfl) (RdF.cons rfl rdInt rfl (RdF.cons rfl rdInt rfl (RdF.cons rfl rdInt rfl RdF.nil)))) _ (fun x=>(x.1,x.2.1,x.2.2.1)) (fun _=>rfl)
theorem avUpd : Avr Rp.upd updC:=((Avr.int.pair (Avr.int.pair (Avr.int.pair Avr.unit))).iso _).cast fun _=>rfl
def Rp.eff : Rp EffS:=(Rp.term.slice.pair (Rp.row.slice.pair (Rp.upd.slice.pair Rp.unit))).iso fun x:EffS=>(x.delta,x.hold,x.updates,())
theorem rdEff : RdT Tryz.prog 140 Rp.eff:=RdT.iso (RdT.struct Tryz.underlying140 rfl (by kernel_rfl) (RdF.cons rfl (RdT.slice Tryz.underlying136 (by kernel_rfl) rdChange (by decide)) rfl (RdF.cons rfl (RdT.slice Tryz.underlying137 (by kernel_rfl) rdRow (by decide)) rfl (RdF.cons rfl (RdT.slice Tryz.underlying138 (by kernel_rfl) rdUpd (by decide)) rfl RdF.nil)))) _ (fun x=>⟨x.1,x.2.1,x.2.2.1⟩) (fun _=>rfl)
theorem avEff : Avr Rp.eff effC:=((avTerm.slice.pair (avRow.slice.pair (avUpd.slice.pair Avr.unit))).iso _).cast fun _=>rfl
def Rp.act : Rp ActS:=(rI.pair (rI.slice.pair (Rp.eff.pair Rp.unit))).iso fun a:ActS=>(a.op,a.args,a.eff,())
theorem rdAct : RdT Tryz.prog 142 Rp.act:=RdT.iso (RdT.struct Tryz.underlying142 rfl (by kernel_rfl) (RdF.cons rfl rdInt rfl (RdF.cons rfl rdInts rfl (RdF.cons rfl rdEff rfl RdF.nil)))) _ (fun x=>⟨x.1,x.2.1,x.2.2.1⟩) (fun _=>rfl)
theorem avAct : Avr Rp.act actC:=((Avr.int.pair (avInts.pair (avEff.pair Avr.unit))).iso _).cast fun _=>rfl
def Rp.model : Rp ModS:=(rI.slice.pair (Rp.table.slice.pair (Rp.str.slice.pair (Rp.cns.slice.pair (Rp.op.slice.pair (Rp.act.slice.pair (Rp.upd.slice.pair Rp.unit))))))).iso fun m:ModS=>(m.sorts,m.tables,m.families,m.cons,m.ops,m.acts,m.hides,())
theorem rdModel : RdT Tryz.prog 30 Rp.model:=RdT.iso (RdT.struct Tryz.underlying30 rfl (by kernel_rfl) (RdF.cons rfl rdInts rfl
 (RdF.cons rfl (RdT.slice Tryz.underlying23 (by kernel_rfl) rdTable (by decide)) rfl (RdF.cons rfl (RdT.slice Tryz.underlying24 (by kernel_rfl) rdStr (by decide)) rfl
 (RdF.cons rfl (RdT.slice Tryz.underlying25 (by kernel_rfl) rdCns (by decide)) rfl (RdF.cons rfl (RdT.slice Tryz.underlying26 (by kernel_rfl) rdOp (by decide)) rfl
 (RdF.cons rfl (RdT.slice Tryz.underlying27 (by kernel_rfl) rdAct (by decide)) rfl (RdF.cons rfl (RdT.slice Tryz.underlying28 (by kernel_rfl) rdHide (by decide)) rfl RdF.nil)))))))) _
 (fun x=>⟨x.1,x.2.1,x.2.2.1,x.2.2.2.1,x.2.2.2.2.1,x.2.2.2.2.2.1,x.2.2.2.2.2.2.1⟩) (fun _=>rfl)
theorem avModel : Avr Rp.model modC:=((avInts.pair (avTable.slice.pair (Avr.str.slice.pair (avCns.slice.pair (avOp.slice.pair (avAct.slice.pair (avUpd.slice.pair Avr.unit))))))).iso _).cast fun _=>rfl
end Go.Proofs.YtmjllbjfkafhdaaGreatDoor
namespace Go.Proofs.YtmjllbjfkafhdaaGreatDoor
open Go Go.CF Go.ChangeShapes Go.WideShapes Go.ChangeAt Go.RowKit
theorem aggArg{W:World}{r:Reach}{b:Nat}{t:TypeId}{v:Value}{fs:Array Field}(ht:Tryz.prog.underlying t=some (.struct fs))(hv:Value.okWide Tryz.prog W r b t v) : v= .agg v.cells:=by
 cases v with
 | agg c=>rfl
 | _=>simp [Value.okWide,ht] at hv
end Go.Proofs.YtmjllbjfkafhdaaGreatDoor
namespace Go.Proofs.YtmjllbjfkafhdaaGreatDoor
open Go Go.CF
def WordTo(s:ByteArray)(a b:Nat) : Prop:=∀i,a≤i→i < b→isWord (byteAt s i)
def NmW(s:ByteArray) : Prop:=0 < s.size∧isLetter (byteAt s 0)∧WordTo s 0 s.size∧¬HasS kwL s
def NmOK(s:ByteArray) : Prop:=NmW s∧s.size≤16
noncomputable instance (s:ByteArray):Decidable (NmOK s):=zC _
structure TokQ (s:ByteArray) (a:Nat) (k:Int) (b:Nat):Prop where
 lt:a < b
 le:b≤s.size
 nm:k=1↔isLetter (byteAt s a)∧¬HasS kwL (s.extract a b)
 w:isLetter (byteAt s a)→WordTo s a b∧(b < s.size→¬isWord (byteAt s b))
theorem word_succ{s:ByteArray}{a b:Nat}(h:WordTo s a b)(hb:isWord (byteAt s b)) : WordTo s a (b+1):=by
 intro i h1 h2
 by_cases h3:i=b
 ·subst h3;exact hb
 ·exact h i h1 (by omega)
theorem token_e{s:ByteArray}{a:Nat}(hs:s.size≤1000000000)(ha:a < s.size)(hw:¬isWhite (byteAt s a))(h35:byteAt s a≠35) :
  CallA Tryz.prog 256 [sv s, .val (.int .i64 a)] [] fun r own=>∃(k:Int) (b:Nat),r= .tup [.val (.int .i64 k), .val (.int .i64 b)]∧own= []∧TokQ s a k b:=by
 refine CallA.of pg ord256 Tryz.func256 rfl Tryz.ntmps256 Tryz.results256 rfl fun h0 G0 O0=>?_
 by_cases hl:isLetter (byteAt s a)
 ·repeat'(first|apply Sp.h|refine Lk.r rfl ?_|refine Rf.mk rfl ?_|refine xA ?_|(apply Sx.r;(focus exact rfl);(focus first|omega|(simp;omega)))|(apply Cl.p (letter_p _);focus repeat' constructor))
  refine CA.loop (fun b:Nat=>⟨[(0,sv s),(1, .val (.int .i64 a)),(6, .val (.int .i64 b))],[]⟩) (fun b=>a≤b∧b≤s.size∧WordTo s a b) (fun b=>s.size - b) a xE ⟨Nat.le_refl _,by omega,fun i h1 h2=>by omega⟩ ?_
  rintro b ⟨hb1,hb2,hbw⟩
  by_cases hba:b=a
  ·subst hba
   repeat'(first|apply Sp.h|refine Lk.r rfl ?_|refine Rf.mk rfl ?_|refine xA ?_|(apply Sx.r;(focus exact rfl);(focus first|omega|(simp;omega)))|refine xO ?_|(apply Cl.p (letter_p _);focus repeat' constructor))
   exact PA.lp (b+1) xE ⟨⟨by omega,by omega,word_succ hbw (.inl hl)⟩,by omega⟩
  ·by_cases hbs:b < s.size∧isWord (byteAt s b)
   ·obtain⟨hbs,hbw2⟩:=hbs
    have hbw3:=hbw2
    unfold isWord at hbw2
    repeat'(first|apply Sp.h|refine Lk.r rfl ?_|refine Rf.mk rfl ?_|refine xA ?_|refine xB ?_|(refine Bd.mk ?_ ?_ <;> intro _)|refine OpK.r rfl ?_|(apply Jx.r;(focus exact rfl);(focus first|omega|(simp;done)|(simp;omega)))|refine xD ?_|(apply Sx.r;(focus exact rfl);(focus first|omega|(simp;omega)))|refine xO ?_|(apply Cl.p (letter_p _);focus repeat' constructor)|(apply Cl.p (digit_p _);focus repeat' constructor))
    all_goals first
     | exact PA.lp (b+1) xE ⟨⟨by omega,by omega,word_succ hbw hbw3⟩,by omega⟩
     | exact False.elim (hbw2.elim (by assumption) (fun h=>h.elim (by assumption) (by omega)))
   ·have hq:∀k,(k=1↔¬HasS kwL (s.extract a b))→TokQ s a k b:=fun k hk=>⟨by omega,hb2,⟨fun h=>⟨hl,hk.1 h⟩,fun h=>hk.2 h.2⟩,fun _=>⟨hbw,fun h h2=>hbs ⟨h,h2⟩⟩⟩
    have hbs1:b < s.size→¬isLetter (byteAt s b)∧¬isDigit (byteAt s b)∧byteAt s b≠95:=fun h=>⟨fun h2=>hbs ⟨h, .inl h2⟩,fun h2=>hbs ⟨h, .inr (.inl h2)⟩,fun h2=>hbs ⟨h, .inr (.inr h2)⟩⟩
    by_cases hlt:b < s.size
    ·obtain⟨g1,g2,g3⟩:=hbs1 hlt
     repeat'(first|apply Sp.h|refine Lk.r rfl ?_|refine Rf.mk rfl ?_|refine xA ?_|refine xB ?_|refine OpK.r rfl ?_|(apply Jx.r;(focus exact rfl);(focus first|omega|(simp;done)|(simp;omega)))|refine xD ?_|(apply Sx.r;(focus exact rfl);(focus first|omega|(simp;omega)))|(apply Cl.p (letter_p _);focus repeat' constructor)|(apply Cl.p (digit_p _);focus repeat' constructor))
     all_goals repeat'(first|apply Sp.h|refine Lk.r rfl ?_|refine Rf.mk rfl ?_|(refine Bd.mk ?_ ?_ <;> intro _)|refine OpK.r rfl ?_|refine xN ?_|(apply Cl.p (keywords_p);focus repeat' constructor)|(apply Cl.p (has_p _ _);focus repeat' constructor))
     ·rename_i hh
      exact⟨_,_, .tup (.same (.same (.z))),_,b,rfl,rfl,hq _ ⟨fun h=>by omega,fun h=>absurd hh h⟩⟩
     ·rename_i hh
      exact⟨_,_, .tup (.same (.same (.z))),_,b,rfl,rfl,hq _ ⟨fun _=>hh,fun _=>rfl⟩⟩
    ·repeat'(first|apply Sp.h|refine Lk.r rfl ?_|refine Rf.mk rfl ?_|refine xB ?_|(refine Bd.mk ?_ ?_ <;> intro _)|refine OpK.r rfl ?_|refine xN ?_|(apply Jx.r;(focus exact rfl);(focus first|omega|(simp;done)|(simp;omega)))|refine xD ?_|(apply Cl.p (keywords_p);focus repeat' constructor)|(apply Cl.p (has_p _ _);focus repeat' constructor))
     ·rename_i hh
      exact⟨_,_, .tup (.same (.same (.z))),_,b,rfl,rfl,hq _ ⟨fun h=>by omega,fun h=>absurd hh h⟩⟩
     ·rename_i hh
      exact⟨_,_, .tup (.same (.same (.z))),_,b,rfl,rfl,hq _ ⟨fun _=>hh,fun _=>rfl⟩⟩
 ·have hq:∀(k:Int) (b:Nat),k≠1→a < b→b≤s.size→TokQ s a k b:=fun k b h1 h2 h3=>⟨h2,h3,⟨fun h=>absurd h h1,fun h=>absurd h.1 hl⟩,fun h=>absurd h hl⟩
  by_cases hd:isDigit (byteAt s a)
  ·repeat'(first|apply Sp.h|refine Lk.r rfl ?_|refine Rf.mk rfl ?_|refine xA ?_|refine xB ?_|(apply Sx.r;(focus exact rfl);(focus first|omega|(simp;omega)))|(apply Cl.p (letter_p _);focus repeat' constructor)|(apply Cl.p (digit_p _);focus repeat' constructor))
   refine CA.loop (fun b:Nat=>⟨[(0,sv s),(1, .val (.int .i64 a)),(6, .val (.int .i64 b))],[]⟩) (fun b=>a≤b∧b≤s.size) (fun b=>s.size - b) a xE ⟨Nat.le_refl _,by omega⟩ ?_
   rintro b ⟨hb1,hb2⟩
   by_cases hba:b=a
   ·subst hba
    repeat'(first|apply Sp.h|refine Lk.r rfl ?_|refine Rf.mk rfl ?_|refine xA ?_|(apply Sx.r;(focus exact rfl);(focus first|omega|(simp;omega)))|refine xO ?_|(apply Cl.p (digit_p _);focus repeat' constructor))
    exact PA.lp (b+1) xE ⟨⟨by omega,by omega⟩,by omega⟩
   ·repeat'(first|apply Sp.h|refine Lk.r rfl ?_|refine Rf.mk rfl ?_|refine xA ?_|refine xB ?_|(refine Bd.mk ?_ ?_ <;> intro _)|refine xN ?_|(apply Sx.r;(focus exact rfl);(focus first|omega|(simp;omega)))|refine xO ?_|(apply Cl.p (digit_p _);focus repeat' constructor))
    all_goals first
     | exact PA.lp (b+1) xE ⟨⟨by omega,by omega⟩,by omega⟩
     | exact⟨_,_, .tup (.same (.same (.z))),_,b,rfl,rfl,hq _ _ (by omega) (by omega) hb2⟩
  ·have hsy:=symF_le (s:=s) (a:=a) (by omega)
   have hsp:=symbol_p hs (Nat.le_of_lt ha)
   repeat'(first|apply Sp.h|refine Lk.r rfl ?_|refine Rf.mk rfl ?_|refine xB ?_|(apply Sx.r;(focus exact rfl);(focus first|omega|(simp;omega)))|(apply Cl.p (letter_p _);focus repeat' constructor)|(apply Cl.p (digit_p _);focus repeat' constructor))
   by_cases hp:0 < symF symL s a
   ·repeat'(first|apply Sp.h|refine Lk.r rfl ?_|refine Rf.mk rfl ?_|refine xA ?_|refine xN ?_|refine xO ?_|(apply Cl.p (hsp);focus repeat' constructor))
    exact⟨_,_, .tup (.same (.same (.z))),_,a+symF symL s a,rfl,rfl,hq _ _ (by omega) (by omega) hsy⟩
   ·repeat'(first|apply Sp.h|refine Lk.r rfl ?_|refine Rf.mk rfl ?_|refine xB ?_|(apply Cl.p (hsp);focus repeat' constructor))
    refine CA.loop (fun b:Nat=>⟨[(0,sv s),(1, .val (.int .i64 a)),(6, .val (.int .i64 b))],[]⟩) (fun b=>a≤b∧b≤s.size) (fun b=>s.size - b) a xE ⟨Nat.le_refl _,by omega⟩ ?_
    rintro b ⟨hb1,hb2⟩
    by_cases hba:b=a
    ·subst hba
     repeat'(first|apply Sp.h|refine Lk.r rfl ?_|refine Rf.mk rfl ?_|refine xA ?_|refine xB ?_|(apply Sx.r;(focus exact rfl);(focus first|omega|(simp;omega)))|(apply Cl.p (white_p _);focus repeat' constructor)|(apply Cl.p (letter_p _);focus repeat' constructor))
     repeat'(first|apply Sp.h|refine Lk.r rfl ?_|refine Rf.mk rfl ?_|refine xA ?_|refine xB ?_|refine xO ?_|(apply Cl.p (digit_p _);focus repeat' constructor)|(apply Cl.p (hsp);focus repeat' constructor))
     exact PA.lp (b+1) xE ⟨⟨by omega,by omega⟩,by omega⟩
    ·have hsb:=symbol_p hs hb2
     repeat'(first|apply Sp.h|refine Lk.r rfl ?_|refine Rf.mk rfl ?_|refine xA ?_|refine xB ?_|(refine Bd.mk ?_ ?_ <;> intro _)|refine xN ?_|(apply Sx.r;(focus exact rfl);(focus first|omega|(simp;omega)))|(apply Cl.p (white_p _);focus repeat' constructor)|(apply Cl.p (letter_p _);focus repeat' constructor))
     all_goals repeat'(first|apply Sp.h|refine Lk.r rfl ?_|refine Rf.mk rfl ?_|refine xA ?_|refine xB ?_|(refine Bd.mk ?_ ?_ <;> intro _)|refine xN ?_|refine xO ?_|(apply Cl.p (digit_p _);focus repeat' constructor)|(apply Cl.p (hsb);focus repeat' constructor))
     all_goals first
      | exact PA.lp (b+1) xE ⟨⟨by omega,by omega⟩,by omega⟩
      | exact⟨_,_, .tup (.same (.same (.z))),_,b,rfl,rfl,hq _ _ (by omega) (by omega) hb2⟩
def FstQ(s:ByteArray)(l:List TokT)(a:Nat) : Prop:=∃(j b:Nat) (k:Int) (rest:List TokT),Skip s 0 j∧j < s.size∧TokQ s j k b∧l=(k,0,(j:Int),(b:Int)) :: rest∧b≤a∧(b=s.size→rest= [])
def ScanQ(s:ByteArray)(l:List TokT) : Prop:=(Skip s 0 s.size∧l.length=1)∨∃(l0:List TokT) (x:TokT) (a:Nat),l=l0 ++ [x]∧FstQ s l0 a
theorem scan_e(s:ByteArray) : CallA Tryz.prog 216 [sv s] [] fun r own=>∃(l:List TokT) (e:Int),r= .tup [.sl 4 l tokC, .val (.int .i64 e)]∧own= []∧((e≠0∧4096 < s.size)∨(e=0∧ScanQ s l)):=by
 refine CallA.of pg ordZ Tryz.func216 rfl Tryz.ntmps216 Tryz.results216 rfl fun h0 G0 O0=>?_
 repeat'(first|apply Sp.h|refine Lk.r rfl ?_|refine Rf.mk rfl ?_|apply Bd.mk|apply All.mk|(apply Fk.r;focus repeat' first|infer_instance|constructor)|refine xN ?_|refine Rf.mk ⟨rfl,rfl,rfl⟩ ?_|intro _)
 ·exact⟨_,_, .tup (.nilr (.same (.z))),[],_,rfl,rfl, .inl ⟨by omega,by omega⟩⟩
 rename_i hsz v
 have hs:s.size≤1000000000:=by omega
 apply CA.retype (m:=([]:List TokT)) (g:=tokC)
 focus(repeat constructor)
 focus rfl
 refine CA.loop (fun x:Nat×Value×List TokT=>⟨[(0,sv s),(5, .val (.int .i64 x.1)),(4, .ow x.2.1)],[arrR x.2.1 272 4 x.2.2 tokC]⟩) (fun x=>x.1≤s.size∧x.2.2.length≤x.1∧((x.1=0∧x.2.2= [])∨FstQ s x.2.2 x.1)) (fun x=>s.size - x.1) (0,v,[]) xE ⟨zZ _,Nat.le_refl _, .inl ⟨rfl,rfl⟩⟩ ?_
 rintro⟨a,v,l⟩ ⟨ha,hl,hfq⟩
 simp only at ha hl hfq
 obtain⟨j,hj⟩:=Skip.ex s _ a rfl
 obtain⟨hj1,hj2,hj3⟩:=hj.le ha
 have hsk:=skip_p hs ha hj
 by_cases hjl:j < s.size
 ·obtain⟨hj4,hj5⟩:=hj3 hjl
  have htk:=token_e hs hjl hj4 hj5
  repeat'(first|apply Sp.h|refine Lk.r rfl ?_|refine Rf.mk rfl ?_|refine xA ?_|(apply Cl.p (hsk);focus repeat' constructor))
  refine xW (htk) ?_
  rintro _ _ ⟨k,b,rfl,rfl,hq⟩
  have hb1:=hq.lt
  have hb2:=hq.le
  repeat'(first|apply Sp.h|refine Lk.r rfl ?_|refine Rf.mk rfl ?_|refine xP ?_|apply All.mk|refine xU ?_|refine Ce.r ?_|(apply Fk.r;focus repeat' first|infer_instance|constructor)|refine Rf.mk ⟨rfl,rfl⟩ ?_|refine Rf.mk ⟨rfl,rfl,rfl⟩ ?_|(apply Mp.lit;(focus repeat(first|exact MpL.nil|(apply MpL.cons;(focus rfl))|(apply MpL.inv;(focus repeat constructor);(focus infer_instance)))))|intro _)
  refine PA.lp (b,_,l ++ [(k,(a:Int),(j:Int),(b:Int))]) xE ⟨⟨hb2,by simp only [zP,List.length_singleton];omega, .inr ?_⟩,by simp only;omega⟩
  rcases hfq with⟨rfl,rfl⟩|⟨j0,b0,k0,rest,h1,h2,h3,rfl,h5,h6⟩
  ·exact⟨j,b,k,[],hj,hjl,hq,rfl,Nat.le_refl _,fun _=>rfl⟩
  ·exact⟨j0,b0,k0,rest ++ [(k,(a:Int),(j:Int),(b:Int))],h1,h2,h3,rfl,by omega,fun h=>by omega⟩
 ·repeat'(first|apply Sp.h|refine Lk.r rfl ?_|refine Rf.mk rfl ?_|refine xB ?_|refine xP ?_|refine All.mk fun _=>?_|refine xU ?_|refine Ce.r ?_|(apply Fk.r;focus repeat' first|infer_instance|constructor)|refine xN ?_|refine Rf.mk ⟨rfl,rfl⟩ ?_|refine Rf.mk ⟨rfl,rfl,rfl⟩ ?_|(apply Mp.lit;(focus repeat(first|exact MpL.nil|(apply MpL.cons;(focus rfl))|(apply MpL.inv;(focus repeat constructor);(focus infer_instance)))))|(apply Cl.p (hsk);focus repeat' constructor))
  refine⟨_,_, .tup (.fz (by repeat constructor) (by simp only [zP,List.length_singleton];omega) (.same (.z))),_,_,rfl,rfl, .inr ⟨rfl, ?_⟩⟩
  rcases hfq with⟨rfl,rfl⟩|hfq
  ·have:j=s.size:=by omega
   subst this
   exact .inl ⟨hj,rfl⟩
  ·exact .inr ⟨l,_,a,rfl,hfq⟩
theorem Skip.fst{s:ByteArray}{j:Nat}(h:Skip s 0 j)(hl:isLetter (byteAt s 0)) : j=0:=by
 unfold isLetter at hl
 cases h with
 | stop=>rfl
 | white _ _ h3 _=>unfold isWhite at h3;omega
 | com _ h2 _ _=>omega
theorem extract_all(s:ByteArray) : s.extract 0 s.size=s:=ByteArray.extract_zero_size
theorem kind_e(s:ByteArray) : CallA Tryz.prog 168 [sv s] [] fun r own=>∃k:Int,r= .val (.int .i64 k)∧own= []∧(s.size≤4096→(k=1↔NmW s)):=by
 refine CallA.of pg ordZ Tryz.func168 rfl Tryz.ntmps168 Tryz.results168 rfl fun h0 G0 O0=>?_
 repeat'(first|apply Sp.h|refine Lk.r rfl ?_|refine Rf.mk rfl ?_|fail)
 refine xW (scan_e s) ?_
 rintro _ _ ⟨l,e,rfl,rfl,hq⟩
 rcases hq with⟨he,hsz⟩|⟨rfl,hq⟩
 ·repeat'(first|apply Sp.h|refine Lk.r rfl ?_|refine Rf.mk rfl ?_|refine xB ?_|refine xN ?_|fail)
  all_goals exact⟨_,_, .one (.same (.z)),_,rfl,rfl,fun h=>by omega⟩
 have hno:¬(∃x y:TokT,l= [x,y]∧x.2.2.1=0∧x.2.2.2=s.size∧x.1=1)→¬NmW s:=by
  rintro hn ⟨h0,h1,h2,h3⟩
  apply hn
  rcases hq with⟨h4,-⟩|⟨l0,x,a,rfl,j,b,k,rest,h5,h6,h7,rfl,h8,h9⟩
  ·have:=h4.fst h1;omega
  ·have h10:=h5.fst h1
   subst h10
   have hb:b=s.size:=by
    have h11:=h7.le
    by_cases hlt:b < s.size
    ·exact absurd (h2 b (zZ _) hlt) ((h7.w h1).2 hlt)
    ·omega
   have:=h9 hb
   subst this
   subst hb
   refine⟨_,x,rfl,rfl,rfl,h7.nm.2 ⟨h1, ?_⟩⟩
   rw [extract_all];exact h3
 have hyes:∀x y:TokT,l= [x,y]→x.2.2.1=0→x.2.2.2=s.size→x.1=1→NmW s:=by
  rintro x y hxy h1 h2 h3
  rcases hq with⟨-,h4⟩|⟨l0,z,a,hl,j,b,k,rest,h5,h6,h7,rfl,h8,h9⟩
  ·rw [hxy] at h4;simp at h4
  ·rw [hxy,List.cons_append] at hl
   injection hl with hx hy
   subst hx
   simp only at h1 h2 h3
   have h10:j=0:=by omega
   have h11:b=s.size:=by omega
   subst h10;subst h11
   have h12:=h7.nm.1 h3
   refine⟨h6,h12.1,(h7.w h12.1).1, ?_⟩
   rw [extract_all] at h12;exact h12.2
 by_cases hl:l.length=2
 ·match l,hl with
  | [x,y],_ =>
   have hx: [x,y][0]?=some x:=rfl
   by_cases h1:x.2.2.1=0
   ·by_cases h2:x.2.2.2=s.size
    ·repeat'(first|apply Sp.h|refine Lk.r rfl ?_|refine Rf.mk rfl ?_|refine xA ?_|apply Im.mk|refine xI ?_|refine xN ?_|intro _)
     refine⟨_,_, .one (.same (.z)),_,rfl,rfl,fun _=>⟨fun h=>hyes x y rfl h1 h2 h,fun h=>Classical.byContradiction fun h3=>hno ?_ h⟩⟩
     rintro⟨x',y',he,-,-,h4⟩
     cases he;exact h3 h4
    ·repeat'(first|apply Sp.h|refine Lk.r rfl ?_|refine Rf.mk rfl ?_|refine xA ?_|refine xB ?_|apply Im.mk|refine xI ?_|refine xN ?_|intro _)
     refine⟨_,_, .one (.same (.z)),_,rfl,rfl,fun _=>⟨fun h=>by omega,fun h=>(hno ?_ h).elim⟩⟩
     rintro⟨x',y',he,-,h4,-⟩
     cases he;exact h2 h4
   ·repeat'(first|apply Sp.h|refine Lk.r rfl ?_|refine Rf.mk rfl ?_|refine xA ?_|refine xB ?_|apply Im.mk|refine xI ?_|refine xN ?_|intro _)
    refine⟨_,_, .one (.same (.z)),_,rfl,rfl,fun _=>⟨fun h=>by omega,fun h=>(hno ?_ h).elim⟩⟩
    rintro⟨x',y',he,h4,-,-⟩
    cases he;exact h1 h4
 ·repeat'(first|apply Sp.h|refine Lk.r rfl ?_|refine Rf.mk rfl ?_|refine xA ?_|refine xB ?_|apply Im.mk|refine xN ?_|intro _)
  refine⟨_,_, .one (.same (.z)),_,rfl,rfl,fun _=>⟨fun h=>by omega,fun h=>(hno ?_ h).elim⟩⟩
  rintro⟨x',y',rfl,-,-,-⟩
  exact hl rfl
theorem name_e(s:ByteArray) : CallP Tryz.prog 114 [sv s] (.val (.bool (decide (NmOK s)))):=by
 refine CallA.of pg ordZ Tryz.func114 rfl Tryz.ntmps114 Tryz.results114 rfl fun h0 G0 O0=>?_
 repeat'(first|apply Sp.h|refine Lk.r rfl ?_|refine Rf.mk rfl ?_|fail)
 refine xW (kind_e s) ?_
 rintro _ _ ⟨k,rfl,rfl,hk⟩
 repeat'(first|apply Sp.h|refine Lk.r rfl ?_|refine Rf.mk rfl ?_|refine xA ?_|refine xB ?_|apply Bd.mk|refine xN ?_|intro _)
 ·rename_i h
  refine Fin.p rfl (vb ?_)
  by_cases h9:s.size≤16
  ·rw [zT (show NmOK s from⟨(hk (by omega)).1 h,h9⟩)]
   exact zT (by omega)
  ·rw [zF (show¬NmOK s from fun h8=>h9 h8.2)]
   exact zF (by omega)
 ·rename_i h
  exact Fin.p rfl (vb (zF fun h8=>h ((hk (by have:=h8.2;omega)).2 h8.1)).symm)
theorem alli_succ{α:Type}{l:List α}{P:Nat→α→Prop}{i:Nat}{x:α}(hx:l[i]?=some x)(h:∀j y,j < i→l[j]?=some y→P j y)(hp:P i x) :∀j y,j < i+1→l[j]?=some y→P j y:=by
 intro j y h1 h2
 by_cases hj:j=i
 ·subst hj;rw [hx] at h2;cases h2;exact hp
 ·exact h j y (by omega) h2
theorem alli_all{α:Type}{l:List α}{P:Nat→α→Prop}(h:∀j y,j < l.length→l[j]?=some y→P j y) :∀j y,l[j]?=some y→P j y :=
 fun j y hy=>h j y (zS.1 hy).1 hy
noncomputable def sumK(sizes:List Int)(s:Bool)(l:List TblS) : Int:=(l.map fun t=>if decide (isStrict t.kind)=s then numF sizes t.cols else 0).sum
theorem sumK_succ{sizes:List Int}{s:Bool}{l:List TblS}{i:Nat}{t:TblS}(h:l[i]?=some t) : sumK sizes s (l.take (i+1))=sumK sizes s (l.take i)+if decide (isStrict t.kind)=s then numF sizes t.cols else 0:=by
 unfold sumK;rw [zK,h];simp
theorem sumK_le{sizes:List Int}{s:Bool}{l:List TblS} :∀i,0≤sumK sizes s (l.take i)∧sumK sizes s (l.take i)≤216 * i:=by
 intro i
 induction i with
 | zero=>simp [sumK]
 | succ i ih =>
  by_cases hi:i < l.length
  ·obtain⟨t,ht⟩:=get_of hi
   rw [sumK_succ ht]
   have:=num_le sizes t.cols
   split <;> omega
  ·rw [show l.take (i+1)=l.take i by rw [List.take_of_length_le (by omega),List.take_of_length_le (by omega)]]
   omega
structure TabX (sizes:List Int) (l:List TblS) (i:Nat) (t:TblS):Prop where
 nm:NmOK t.name
 df:∀j u,j < i→l[j]?=some u→u.name.toList≠t.name.toList
 ok:TabOK sizes t
 rg:t.kind=0∨t.kind=2∨t.kind=3→t.lo=0∧t.hi=1
 fs:t.first=sumK sizes (decide (isStrict t.kind)) (l.take i)
structure LayX (sizes:List Int) (l:List TblS):Prop where
 sz:sizes.length≤4
 so:Sound sizes
 tl:l.length≤12
 t:∀i t,l[i]?=some t→TabX sizes l i t
 s:sumK sizes true l≤128
 m:sumK sizes false l≤64
noncomputable instance (sizes:List Int) (l:List TblS):Decidable (LayX sizes l):=zC _
theorem LayX.ok{sizes:List Int}{l:List TblS}(h:LayX sizes l) : LayOK sizes l:=⟨h.sz,h.so,h.tl,fun t ht=>by obtain⟨i,hi⟩:=zO ht;exact(h.t i t hi).ok⟩
theorem num_z{sizes cols:List Int}(h:¬numF sizes cols≠0) :¬ColOK sizes cols:=by
 intro hc
 apply h
 unfold numF
 rw [if_pos hc]
 have:=prod_le hc.2.1 cols
 omega
theorem valid9_e(sizes:List Int)(l:List TblS) : CallP Tryz.prog 51 [ints sizes,tbls l] (.val (.bool (decide (LayX sizes l)))):=by
 refine CallA.of pg ord51 Tryz.func51 rfl Tryz.ntmps51 Tryz.results51 rfl fun h0 G0 O0=>?_
 by_cases h0:sizes.length≤4∧Sound sizes∧l.length≤12
 rotate_left
 ·have hn:¬LayX sizes l:=fun h=>h0 ⟨h.sz,h.so,h.tl⟩
  repeat'(first|apply Sp.h|refine Lk.r rfl ?_|refine Rf.mk rfl ?_|refine xA ?_|refine xB ?_|(refine Bd.mk ?_ ?_ <;> intro _)|refine Im.mk fun _=>?_|refine xN ?_|(apply Cl.p (sound_p _);focus repeat' constructor))
  all_goals first
   | exact Fin.p rfl (vb (zF hn).symm)
   | exact(h0 ⟨by omega,by assumption,by omega⟩).elim
 obtain⟨hsz,hs,htl⟩:=h0
 repeat'(first|apply Sp.h|refine Lk.r rfl ?_|refine Rf.mk rfl ?_|refine xA ?_|refine xB ?_|refine Im.mk fun _=>?_|(apply Cl.p (sound_p _);focus repeat' constructor))
 refine CA.loop (fun i:Nat=>⟨[(0,ints sizes),(1,tbls l),(5,it (sumK sizes true (l.take i))),(6,it (sumK sizes false (l.take i))),(7,it i)],[]⟩) (fun i=>i≤l.length∧∀j t,j < i→l[j]?=some t→TabX sizes l j t) (fun i=>l.length - i) 0 xE ⟨zZ _,fun j t h=>by omega⟩ ?_
 rintro i ⟨hi,ht⟩
 by_cases hin:i < l.length
 ·obtain⟨t,hti⟩:=get_of hin
  have hno:¬TabX sizes l i t→¬LayX sizes l:=fun h h2=>h (h2.t i t hti)
  have hsu:=sumK_succ (sizes:=sizes) (s:=true) hti
  have hsv:=sumK_succ (sizes:=sizes) (s:=false) hti
  have hlu:=sumK_le (sizes:=sizes) (s:=true) (l:=l) i
  have hlv:=sumK_le (sizes:=sizes) (s:=false) (l:=l) i
  repeat'(first|apply Sp.h|refine Lk.r rfl ?_|refine Rf.mk rfl ?_|refine xA ?_|apply Im.mk|apply All.mk|refine xT ?_|refine xI ?_|refine Ch.l ⟨rfl,rfl⟩ ?_|(apply SetAsk.r;focus repeat' constructor)|refine xN ?_|intro _)
  rename_i b8
  refine CA.loop (fun k:Nat=>⟨[(0,ints sizes),(1,tbls l),(5,it (sumK sizes true (l.take i))),(6,it (sumK sizes false (l.take i))),(7,it i),(8, .val (.pointer (some ⟨b8,0,none⟩))),(9,it k)],[blkR b8 150 (tblC t)]⟩) (fun k=>k≤i∧∀j u,j < k→l[j]?=some u→u.name.toList≠t.name.toList) (fun k=>i - k) 0 xE ⟨zZ _,fun j u h=>by omega⟩ ?_
  rintro k ⟨hk,hdf⟩
  by_cases hki:k < i
  ·obtain⟨u,hu⟩:=get_of (l:=l) (i:=k) (by omega)
   repeat'(first|apply Sp.h|refine Lk.r rfl ?_|refine Rf.mk rfl ?_|refine xA ?_|apply Bd.mk|refine OpK.r rfl ?_|refine xT ?_|refine xI ?_|refine xN ?_|refine xD ?_|refine xO ?_|intro _)
   ·rename_i hx
    exact Fin.p rfl (vb (zF (hno fun h=>h.df k u hki hu hx)).symm)
   ·rename_i hx
    exact PA.lp (k+1) xE ⟨⟨hki,alli_succ hu hdf hx⟩,by omega⟩
  ·have hke:k=i:=by omega
   subst hke
   have hn:=num_le sizes t.cols
   by_cases hT:TabX sizes l k t
   ·have hnm:=hT.nm
    obtain⟨hc,hk0,hk5,hlo,hlh,hhi⟩:=hT.ok
    have hrg:=hT.rg
    have hfs:=hT.fs
    have hn0:numF sizes t.cols≠0:=fun h=>num_z (fun h2=>h2 h) hc
    by_cases hst:isStrict t.kind
    ·rw [zT hst] at hfs hsu hsv
     rw [if_pos rfl] at hsu
     rw [if_neg (by simp)] at hsv
     repeat'(first|apply Sp.h|refine Lk.r rfl ?_|refine Rf.mk rfl ?_|refine xA ?_|refine xB ?_|(refine Bd.mk ?_ ?_ <;> intro _)|refine xT ?_|refine xO ?_|(apply Cl.p (number_p _ _);focus(repeat' constructor);done)|(apply Cl.p (name_e _);focus(repeat' constructor);done)|(apply Cl.p (strict9_p _);focus(repeat' constructor);done)|(apply Cl.p (number_p sizes _);focus(repeat' constructor);done))
     all_goals try exact(by omega:False).elim
     all_goals
      rw [←hsu]
      rw [show sumK sizes false (l.take k)=sumK sizes false (l.take (k+1)) by omega]
      exact PA.lp (k+1) xE ⟨⟨hin,alli_succ hti ht hT⟩,by omega⟩
    ·rw [zF hst] at hfs hsu hsv
     rw [if_pos rfl] at hsv
     rw [if_neg (by simp)] at hsu
     repeat'(first|apply Sp.h|refine Lk.r rfl ?_|refine Rf.mk rfl ?_|refine xA ?_|refine xB ?_|(refine Bd.mk ?_ ?_ <;> intro _)|refine xT ?_|refine xO ?_|(apply Cl.p (number_p _ _);focus(repeat' constructor);done)|(apply Cl.p (name_e _);focus(repeat' constructor);done)|(apply Cl.p (strict9_p _);focus(repeat' constructor);done)|(apply Cl.p (number_p sizes _);focus(repeat' constructor);done))
     all_goals try exact(by omega:False).elim
     all_goals
      rw [←hsv]
      rw [show sumK sizes true (l.take k)=sumK sizes true (l.take (k+1)) by omega]
      exact PA.lp (k+1) xE ⟨⟨hin,alli_succ hti ht hT⟩,by omega⟩
   ·have hno:=hno hT
    have hst0:isStrict t.kind↔t.kind=0∨t.kind=1:=Iff.rfl
    repeat'(first|apply Sp.h|refine Lk.r rfl ?_|refine Rf.mk rfl ?_|refine xA ?_|refine xB ?_|(refine Bd.mk ?_ ?_ <;> intro _)|refine xT ?_|refine xN ?_|refine xO ?_|(apply Cl.p (number_p _ _);focus(repeat' constructor);done)|(apply Cl.p (name_e _);focus(repeat' constructor);done)|(apply Cl.p (strict9_p _);focus(repeat' constructor);done)|(apply Cl.p (number_p sizes _);focus(repeat' constructor);done))
    all_goals try exact Fin.p rfl (vb (zF hno).symm)
    all_goals exact(hT ⟨by assumption,hdf,⟨num_ne (by assumption),by omega,by omega,by omega,by omega,by omega⟩,fun h=>by omega,by first|(rw [zT (by assumption)];omega)|(rw [zF (by assumption)];omega)⟩).elim
 ·have:i=l.length:=by omega
  subst this
  rw [zL]
  have ht:=alli_all ht
  repeat'(first|apply Sp.h|refine Lk.r rfl ?_|refine Rf.mk rfl ?_|refine xA ?_|refine xB ?_|apply Bd.mk|apply Im.mk|refine xN ?_|intro _)
  ·rename_i h
   refine Fin.p rfl (vb ?_)
   by_cases h9:sumK sizes false l≤64
   ·rw [zT h9,zT (show LayX sizes l from⟨hsz,hs,htl,ht,by omega,h9⟩)]
   ·rw [zF h9,zF (fun h8:LayX sizes l=>h9 h8.m)]
  ·rename_i h
   exact Fin.p rfl (vb (zF fun h8=>h h8.s).symm)
noncomputable def rngL(sizes:List Int)(s:Bool)(l:List TblS) : List (Int×Int):=l.flatMap fun t=>if decide (isStrict t.kind)=s then List.replicate (numF sizes t.cols).toNat (t.lo,t.hi) else []
noncomputable def rngF(sizes:List Int)(s:Bool)(l:List TblS) : List (Int×Int):=if LayX sizes l then rngL sizes s l else []
theorem rngL_succ{sizes:List Int}{s:Bool}{l:List TblS}{i:Nat}{t:TblS}(h:l[i]?=some t) : rngL sizes s (l.take (i+1))=rngL sizes s (l.take i) ++ if decide (isStrict t.kind)=s then List.replicate (numF sizes t.cols).toNat (t.lo,t.hi) else []:=by
 unfold rngL;rw [zK,h];simp
theorem rngL_len(sizes:List Int)(s:Bool)(l:List TblS) : ((rngL sizes s l).length:Int)=sumK sizes s l:=by
 unfold rngL sumK
 induction l with
 | nil=>rfl
 | cons t l ih =>
  rw [List.flatMap_cons,zP,List.map_cons,List.sum_cons,←ih]
  have:=num_le sizes t.cols
  split
  ·rw [zR];omega
  ·simp
theorem rngF_len{sizes:List Int}{l:List TblS}{s:Bool} : (rngF sizes s l).length≤128:=by
 unfold rngF
 split
 ·rename_i h
  have:=rngL_len sizes s l
  cases s
  ·have:=h.m;omega
  ·have:=h.s;omega
 ·simp
theorem rngF_ok{sizes:List Int}{l:List TblS}{s:Bool} : RgOK (rngF sizes s l):=by
 unfold rngF
 split
 ·rename_i h
  intro p hp
  unfold rngL at hp
  obtain⟨t,ht,hp⟩:=List.mem_flatMap.1 hp
  split at hp
  ·have:=(h.ok.2.2.2 t ht).2
   rw [(List.mem_replicate.1 hp).2]
   simp only
   omega
  ·cases hp
 ·intro p hp;cases hp
theorem ranges_e(sizes:List Int)(l:List TblS)(s:Bool) : CallP Tryz.prog 169 [ints sizes,tbls l, .val (.bool s)] (.sl 2 (rngF sizes s l) rngC):=by
  have hv9:=valid9_e sizes l
  refine CallA.of pg ordZ Tryz.func169 rfl Tryz.ntmps169 Tryz.results169 rfl fun h0 G0 O0=>?_
  by_cases hlx:LayX sizes l
  rotate_left
  · rw [rngF,if_neg hlx]
    repeat'(first|apply Sp.h|refine Lk.r rfl ?_|refine Rf.mk rfl ?_|apply All.mk|(apply Fk.r;focus repeat' first|infer_instance|constructor)|refine Rf.mk ⟨rfl,rfl,rfl⟩ ?_|intro _)
    refine xQ (hv9) ?_
    apply OA.retype (m:=([]:List (Int×Int))) (g:=rngC)
    focus(repeat constructor)
    focus rfl
    repeat'(first|apply Sp.h|refine Lk.r rfl ?_|refine Rf.mk rfl ?_|refine xB ?_|refine xN ?_|fail)
    exact⟨_,_, .one (.fz (by repeat constructor) (by simp) (.z)),rfl,rfl⟩
  have hlen:=rngF_len (sizes:=sizes) (l:=l) (s:=s)
  rw [rngF,if_pos hlx] at hlen ⊢
  have hll:=hlx.tl
  repeat'(first|apply Sp.h|refine Lk.r rfl ?_|refine Rf.mk rfl ?_|refine xA ?_|refine All.mk fun _=>?_|(apply Fk.r;focus repeat' first|infer_instance|constructor)|refine Rf.mk ⟨rfl,rfl,rfl⟩ ?_|(apply Cl.p (hv9);focus repeat' constructor))
  rename_i v
  apply CA.retype (m:=([]:List (Int×Int))) (g:=rngC)
  focus(repeat constructor)
  focus rfl
  refine CA.loop (fun x:Nat×Value=>⟨[(0,ints sizes),(1,tbls l),(2, .val (.bool s)),(7, .ow x.2),(8,it x.1)],[arrR x.2 148 2 (rngL sizes s (l.take x.1)) rngC]⟩) (fun x=>x.1≤l.length) (fun x=>l.length - x.1) (0,v) xE (zZ _) ?_
  rintro⟨i,v⟩ hi
  simp only at hi
  simp only
  have hli:((rngL sizes s (l.take i)).length:Int)≤216 * i:=by rw [rngL_len];exact(sumK_le i).2
  by_cases hin:i < l.length
  · obtain⟨t,ht⟩:=get_of hin
    have hn:=num_le sizes t.cols
    have hsu:=rngL_succ (sizes:=sizes) (s:=s) ht
    repeat'(first|apply Sp.h|refine Lk.r rfl ?_|refine Rf.mk rfl ?_|refine xA ?_|apply Im.mk|intro _)
    refine CA.loop (fun x:Nat×Value=>⟨[(0,ints sizes),(1,tbls l),(2, .val (.bool s)),(7, .ow x.2),(8,it i),(9,it x.1)],[arrR x.2 148 2 (rngL sizes s (l.take i) ++ List.replicate x.1 (t.lo,t.hi)) rngC]⟩) (fun x=>(x.1:Int)≤numF sizes t.cols∧(decide (isStrict t.kind)≠s→x.1=0)) (fun x=>(numF sizes t.cols).toNat - x.1) (0,v) ?_ ⟨by simp only;omega,fun _=>rfl⟩ ?_
    · simp only [List.replicate_zero,List.append_nil]
      exact xE
    rintro⟨k,v⟩ ⟨hk,hk0⟩
    simp only at hk hk0
    simp only
    by_cases hst:decide (isStrict t.kind)=s
    · rw [if_pos hst] at hsu
      by_cases hkn:(k:Int) < numF sizes t.cols
      · repeat'(first|apply Sp.h|refine Lk.r rfl ?_|refine Rf.mk rfl ?_|refine xA ?_|refine xP ?_|refine All.mk fun _=>?_|refine xU ?_|refine xI ?_|refine Ce.r ?_|refine Ch.r ?_|(apply Fk.r;focus repeat' first|infer_instance|constructor)|refine Rf.mk ⟨rfl,rfl⟩ ?_|refine Rf.mk ⟨rfl,rfl,rfl⟩ ?_|(apply Mp.lit;(focus repeat(first|exact MpL.nil|(apply MpL.cons;(focus rfl))|(apply MpL.inv;(focus repeat constructor);(focus infer_instance)))))|refine xO ?_|(apply Cl.p (strict9_p _);focus repeat' constructor)|(apply Cl.p (number_p _ _);focus repeat' constructor))
        all_goals first
          | (rw [List.append_assoc,show List.replicate k (t.lo,t.hi) ++ [(t.lo,t.hi)]=List.replicate (k+1) (t.lo,t.hi) from List.replicate_succ'.symm]
             exact PA.lp (k+1,_) xE ⟨⟨by simp only;omega,fun h=>absurd hst h⟩,by simp only;omega⟩)
          | exact absurd hst (by assumption)
      · have hke:k=(numF sizes t.cols).toNat:=by omega
        subst hke
        rw [←hsu]
        repeat'(first|apply Sp.h|refine Lk.r rfl ?_|refine Rf.mk rfl ?_|refine xA ?_|refine xB ?_|refine xI ?_|refine xO ?_|(apply Cl.p (strict9_p _);focus repeat' constructor)|(apply Cl.p (number_p _ _);focus repeat' constructor))
        all_goals first
          | exact PA.lp (i+1,v) xE ⟨hin,by simp only;omega⟩
          | exact absurd hst (by assumption)
    · have hk0:=hk0 hst
      subst hk0
      rw [if_neg hst,List.append_nil] at hsu
      simp only [List.replicate_zero,List.append_nil]
      repeat'(first|apply Sp.h|refine Lk.r rfl ?_|refine Rf.mk rfl ?_|refine xB ?_|refine xI ?_|refine xO ?_|(apply Cl.p (strict9_p _);focus repeat' constructor)|(apply Cl.p (number_p _ _);focus repeat' constructor))
      all_goals first
        | (rw [←hsu]
           exact PA.lp (i+1,v) xE ⟨hin,by simp only;omega⟩)
        | exact absurd (by assumption) hst
  · have:i=l.length:=by omega
    subst this
    rw [zL]
    repeat'(first|apply Sp.h|refine Lk.r rfl ?_|refine Rf.mk rfl ?_|refine xB ?_|apply Im.mk|refine xN ?_|intro _)
    exact⟨_,_, .one (.fz (by repeat constructor) (by omega) (.z)),rfl,rfl⟩
def nthF(sizes:List Int) : List Int→Int→List Int×Int
 | [],k=>([],k)
 | c :: cs,k=>let q:=nthF sizes cs k;((q.2 % sizes[c.toNat]?.getD 1) :: q.1,q.2 / sizes[c.toNat]?.getD 1)
theorem nthF_len(sizes:List Int)(k:Int) :∀cols,(nthF sizes cols k).1.length=cols.length:=by
 intro cols
 induction cols with
 | nil=>rfl
 | cons c cs ih=>simp [nthF,ih]
theorem nthF_le{sizes:List Int}(hs:Sound sizes){k:Int}(hk:0≤k) :∀cols,0≤(nthF sizes cols k).2∧(nthF sizes cols k).2≤k:=by
 intro cols
 induction cols with
 | nil=>exact⟨hk,Int.le_refl _⟩
 | cons c cs ih =>
  simp only [nthF]
  have hy:1≤sizes[c.toNat]?.getD 1:=by
   cases h:sizes[c.toNat]? with
   | none=>simp
   | some y=>exact(hs y (zM h)).1
  exact⟨Int.ediv_nonneg ih.1 (by omega),Int.le_trans (Int.ediv_le_self _ ih.1) ih.2⟩
theorem set_repl{α:Type}(i:Nat)(a b:α)(r:List α) : (List.replicate (i+1) a ++ r).set i b=List.replicate i a ++ b :: r:=by
 rw [List.replicate_succ',List.append_assoc,List.set_append_right _ _ (by simp)]
 simp
theorem nth_e(sizes cols:List Int)(k:Int)(h:ColOK sizes cols)(hk:0≤k∧k≤1000) : CallP Tryz.prog 217 [ints sizes,ints cols,it k] (ints (nthF sizes cols k).1):=by
 have hl:=h.1
 refine CallA.of pg ordZ Tryz.func217 rfl Tryz.ntmps217 Tryz.results217 rfl fun h0 G0 O0=>?_
 repeat'(first|apply Sp.h|refine Lk.r rfl ?_|refine Rf.mk rfl ?_|apply Im.mk|apply All.mk|refine xN ?_|refine Rf.mk ⟨rfl,rfl,rfl⟩ ?_|(apply Jx.r;(focus exact rfl);(focus first|omega|(simp;done)|(simp;omega)))|refine MkS.r intC 0 rfl ?_|refine xO ?_|intro _)
 rename_i v _
 refine CA.loop (fun i:Nat=>⟨[(0,ints sizes),(1,ints cols),(2,it (nthF sizes (cols.drop i) k).2),(7, .ow v),(8,it ((i:Int) - 1))],[arrR v 3 1 (List.replicate i 0 ++ (nthF sizes (cols.drop i) k).1) intC]⟩) (fun i=>i≤cols.length) (fun i=>i) cols.length ?_ (Nat.le_refl _) ?_
 ·rw [List.drop_length]
  simp only [nthF,List.append_nil]
  exact xE
 intro i hi
 cases i with
 | zero =>
  rw [List.drop_zero]
  repeat'(first|apply Sp.h|refine Lk.r rfl ?_|refine Rf.mk rfl ?_|refine xB ?_|refine xN ?_|fail)
  exact⟨_,_, .one (.fz (by repeat constructor) (by simp [nthF_len];omega) (.z)),rfl,rfl⟩
 | succ i =>
  obtain⟨x,hx⟩:=get_of (l:=cols) (i:=i) (by omega)
  obtain⟨j,rfl,y,hy,hy1,hy2⟩:=col_get h hx
  have hle:=nthF_le h.2.1 hk.1 (cols.drop (i+1))
  have hlen:=nthF_len sizes k (cols.drop (i+1))
  obtain⟨q,hq⟩:∃q,nthF sizes (cols.drop (i+1)) k=q:=⟨_,rfl⟩
  have hd:nthF sizes (cols.drop i) k=(q.2 % y :: q.1,q.2 / y):=by
   rw [List.drop_eq_getElem_cons (by omega),(zS.1 hx).2]
   simp only [nthF,hq,Int.toNat_natCast,hy,Option.getD_some]
  have hz:(List.replicate (i+1) (0:Int) ++ q.1)[i]?=some 0:=by
   rw [zI (by simp),List.getElem?_replicate,if_pos (by omega)]
  rw [hq] at hle hlen ⊢
  obtain⟨q1,q2⟩:=q
  simp only at hle hlen hd hz ⊢
  have e:(((i+1:Nat):Int) - 1)=(i:Int):=by omega
  rw [e]
  repeat'(first|apply Sp.h|refine Lk.r rfl ?_|refine Rf.mk rfl ?_|refine xA ?_|refine xP ?_|refine xU ?_|refine xI ?_|refine xJ ?_|refine xV ?_|refine Up.r rfl ?_|refine xO ?_|fail)
  rw [set_repl]
  refine PA.lp i ?_ ⟨by omega,by omega⟩
  rw [hd]
  exact xE
def CelIn(sizes:List Int)(s:Bool)(cell:Int)(t:TblS) : Prop:=decide (isStrict t.kind)=s∧0≤cell - t.first∧cell - t.first < numF sizes t.cols
noncomputable instance (sizes:List Int) (s:Bool) (cell:Int) (t:TblS):Decidable (CelIn sizes s cell t):=zC _
noncomputable def tabF(sizes:List Int)(s:Bool)(l:List TblS)(cell:Int) : Option Nat:=l.findIdx? fun t=>decide (CelIn sizes s cell t)
noncomputable def tupF(sizes:List Int)(l:List TblS)(s:Bool)(cell:Int) : Option (Nat×List Int) :=
 if LayX sizes l∧0≤cell then(tabF sizes s l cell).bind fun i=>(l[i]?).map fun t=>(i,(nthF sizes t.cols (cell - t.first)).1) else none
def tupA : Option (Nat×List Int)→AV
 | some (i,q)=> .tup [it i,ints q, .val (.bool true)]
 | none=> .tup [it 0,ints [], .val (.bool false)]
theorem findIdx_at{α:Type}{p:α→Bool} :∀{l:List α} {i:Nat} {x:α},l[i]?=some x→p x=true→(∀j y,j < i→l[j]?=some y→p y=false)→l.findIdx? p=some i:=by
 intro l
 induction l with
 | nil=>intro i x h;cases h
 | cons a l ih =>
  intro i x h1 h2 h3
  cases i with
  | zero=>cases h1;simp [List.findIdx?_cons,h2]
  | succ i =>
   have h4:=h3 0 a (by omega) rfl
   rw [List.findIdx?_cons,h4,ih h1 h2 fun j y hj hy=>h3 (j+1) y (by omega) hy]
   rfl
theorem findIdx_no{α:Type}{p:α→Bool}{l:List α}(h:∀(j:Nat) (y:α),l[j]?=some y→p y=false) : l.findIdx? p=none:=by
 rw [List.findIdx?_eq_none_iff]
 intro y hy
 obtain⟨j,hj⟩:=zO hy
 exact h j y hj
theorem tupF_at{sizes:List Int}{l:List TblS}{s:Bool}{cell:Int}(hl:LayX sizes l)(hc:0≤cell){i:Nat}{t:TblS}(ht:l[i]?=some t)(h1:CelIn sizes s cell t)(h2:∀j y,j < i→l[j]?=some y→¬CelIn sizes s cell y) : tupF sizes l s cell=some (i,(nthF sizes t.cols (cell - t.first)).1):=by
 rw [tupF,if_pos ⟨hl,hc⟩,tabF,findIdx_at ht (zT h1) fun j y hj hy=>zF (h2 j y hj hy),Option.bind_some,ht]
 rfl
theorem tupF_no{sizes:List Int}{l:List TblS}{s:Bool}{cell:Int}(h2:0≤cell→∀(j:Nat) (y:TblS),l[j]?=some y→¬CelIn sizes s cell y) : tupF sizes l s cell=none:=by
 unfold tupF
 split
 ·rename_i h
  rw [tabF,findIdx_no fun j y hy=>zF (h2 h.2 j y hy)]
  rfl
 ·rfl
theorem LayX.first{sizes:List Int}{l:List TblS}(h:LayX sizes l){i:Nat}{t:TblS}(ht:l[i]?=some t) : 0≤t.first∧t.first≤2592:=by
 have h1:=(h.t i t ht).fs
 have h2:=sumK_le (sizes:=sizes) (s:=decide (isStrict t.kind)) (l:=l) i
 have h3:=(zS.1 ht).1
 have h4:=h.tl
 omega
theorem tuple_e(sizes:List Int)(l:List TblS)(s:Bool)(cell:Int)(hce:cell≤9223372036854775807) : CallP Tryz.prog 171 [ints sizes,tbls l, .val (.bool s),it cell] (tupA (tupF sizes l s cell)):=by
 have hv9:=valid9_e sizes l
 refine CallA.of pg ordZ Tryz.func171 rfl Tryz.ntmps171 Tryz.results171 rfl fun h0 G0 O0=>?_
 by_cases hx:LayX sizes l
 rotate_left
 ·rw [tupF,if_neg fun h=>hx h.1]
  repeat'(first|apply Sp.h|refine Lk.r rfl ?_|refine Rf.mk rfl ?_|refine xB ?_|refine xN ?_|(apply Cl.p (hv9);focus repeat' constructor))
  exact⟨_,_, .tup (.same (.nilr (.same (.z)))),rfl,rfl⟩
 repeat'(first|apply Sp.h|refine Lk.r rfl ?_|refine Rf.mk rfl ?_|refine xA ?_|(apply Cl.p (hv9);focus repeat' constructor))
 have hll:=hx.tl
 refine CA.loop (fun i:Nat=>⟨[(0,ints sizes),(1,tbls l),(2, .val (.bool s)),(3,it cell),(11,it i)],[]⟩) (fun i=>i≤l.length∧∀j t,j < i→l[j]?=some t→0≤cell→¬CelIn sizes s cell t) (fun i=>l.length - i) 0 xE ⟨zZ _,fun j t h=>by omega⟩ ?_
 rintro i ⟨hi,hno⟩
 by_cases hin:i < l.length
 ·obtain⟨t,ht⟩:=get_of hin
  have hT:=(hx.t i t ht).ok
  have hf:=hx.first ht
  have hn:=num_le sizes t.cols
  repeat'(first|apply Sp.h|refine Lk.r rfl ?_|refine Rf.mk rfl ?_|refine xA ?_|apply Im.mk|refine xI ?_|intro _)
  apply Ov.w
  intro r hr1 hr2 hr3
  by_cases hc:0≤cell
  ·have hr:r=cell - t.first:=by omega
   by_cases hin2:CelIn sizes s cell t
   ·obtain⟨g1,g2,g3⟩:=hin2
    have hnt:=nth_e sizes t.cols r hT.1 (by omega)
    have hres:=tupF_at hx hc ht ⟨g1,g2,g3⟩ fun j y hj hy=>hno j y hj hy hc
    rw [hres,←hr]
    repeat'(first|apply Sp.h|refine Lk.r rfl ?_|refine Rf.mk rfl ?_|refine xA ?_|refine xI ?_|refine xN ?_|(apply Cl.p (strict9_p _);focus(repeat' constructor);done)|(apply Cl.p (number_p _ _);focus(repeat' constructor);done)|(apply Cl.p (hnt);focus(repeat' constructor);done))
    all_goals first
     | exact⟨_,_, .tup (.same (.same (.same (.z)))),rfl,rfl⟩
     | exact absurd g1 (by assumption)
     | exact absurd (by assumption) (by assumption)
     | omega
   ·have hin3:∀h1:decide (isStrict t.kind)=s,¬(0≤r∧r < numF sizes t.cols):=fun h1 h2=>hin2 ⟨h1,by omega,by omega⟩
    have hgo:=alli_succ ht hno (fun _=>hin2)
    repeat'(first|apply Sp.h|refine Lk.r rfl ?_|refine Rf.mk rfl ?_|refine xA ?_|refine xB ?_|(refine Bd.mk ?_ ?_ <;> intro _)|refine xI ?_|refine xO ?_|(apply Cl.p (strict9_p _);focus(repeat' constructor);done)|(apply Cl.p (number_p _ _);focus(repeat' constructor);done)|(apply Cl.p (number_p _ _);focus(repeat' constructor);done))
    all_goals first
     | exact PA.lp (i+1) xE ⟨⟨hin,hgo⟩,by omega⟩
     | exact absurd ⟨by assumption,by assumption⟩ (hin3 (by assumption))
     | exact absurd ⟨by omega,by omega⟩ (hin3 (by assumption))
  ·have hgo:=alli_succ ht hno (fun h=>absurd h hc)
   repeat'(first|apply Sp.h|refine Lk.r rfl ?_|refine Rf.mk rfl ?_|refine xA ?_|refine xB ?_|(refine Bd.mk ?_ ?_ <;> intro _)|refine xI ?_|refine xO ?_|(apply Cl.p (strict9_p _);focus(repeat' constructor);done)|(apply Cl.p (number_p _ _);focus(repeat' constructor);done)|(apply Cl.p (number_p _ _);focus(repeat' constructor);done))
   all_goals exact PA.lp (i+1) xE ⟨⟨hin,hgo⟩,by omega⟩
 ·have:i=l.length:=by omega
  subst this
  rw [tupF_no fun hc j y hy=>hno j y (zS.1 hy).1 hy hc]
  repeat'(first|apply Sp.h|refine Lk.r rfl ?_|refine Rf.mk rfl ?_|refine xB ?_|apply Im.mk|refine xN ?_|intro _)
  exact⟨_,_, .tup (.same (.nilr (.same (.z)))),rfl,rfl⟩
def idxN{α:Type}(p:α→Bool) : List α→Nat
 | []=>0
 | a :: l=>if p a then 0 else idxN p l+1
def idxI{α:Type}(p:α→Bool)(l:List α) : Int:=if idxN p l < l.length then idxN p l else -1
theorem idxN_of{α:Type}{p:α→Bool} :∀{l:List α} {i:Nat} {x:α},l[i]?=some x→p x=true→(∀j y,j < i→l[j]?=some y→p y=false)→idxN p l=i:=by
 intro l
 induction l with
 | nil=>intro i x h;cases h
 | cons a l ih =>
  intro i x h1 h2 h3
  cases i with
  | zero=>cases h1;simp [idxN,h2]
  | succ i =>
   have:=h3 0 a (by omega) rfl
   simp [idxN,this,ih h1 h2 fun j y hj hy=>h3 (j+1) y (by omega) hy]
theorem idxN_none{α:Type}{p:α→Bool} :∀{l:List α},(∀x∈l,p x=false)→idxN p l=l.length:=by
 intro l
 induction l with
 | nil=>intro _;rfl
 | cons a l ih=>intro h;simp [idxN,h a (by simp),ih fun x hx=>h x (by simp [hx])]
theorem idxN_at{α:Type}{p:α→Bool} :∀{l:List α},idxN p l < l.length→∃x,l[idxN p l]?=some x∧p x=true∧∀j y,j < idxN p l→l[j]?=some y→p y=false:=by
 intro l
 induction l with
 | nil=>intro h;simp at h
 | cons a l ih =>
  intro h
  by_cases ha:p a=true
  ·exact⟨a,by simp [idxN,ha],ha,fun j y hj=>by simp [idxN,ha] at hj⟩
  ·have he:idxN p (a :: l)=idxN p l+1:=by simp [idxN,ha]
   obtain⟨x,h1,h2,h3⟩:=ih (by rw [he] at h;simpa using h)
   refine⟨x,by rw [he];exact h1,h2,fun j y hj hy=>?_⟩
   cases j with
   | zero=>cases hy;simpa using ha
   | succ j=>exact h3 j y (by omega) hy
theorem idxN_le{α:Type}(p:α→Bool) :∀l:List α,idxN p l≤l.length:=by
 intro l
 induction l with
 | nil=>exact Nat.le_refl _
 | cons a l ih=>simp only [idxN,List.length_cons];split <;> omega
theorem idx_mem{α:Type}{p:α→Bool}{e:α} :∀{l:List α},e∈l→p e=true→idxN p l < l.length:=by
 intro l
 induction l with
 | nil=>intro h;cases h
 | cons a l ih =>
  intro h ho
  by_cases ha:p a=true
  ·simp [idxN,ha]
  ·rcases List.mem_cons.1 h with rfl|h9
   ·exact absurd ho ha
   ·simp [idxN,ha,ih h9 ho]
theorem lendAll{o:List Res} :∀l:List AV,Lend o l l
 | []=> .nil
 | _ :: l=> .keep (lendAll l)
theorem idxB_lt{α:Type}{p:α→Bool}{l:List α} : idxN p l < l.length↔∃x∈l,p x=true:=by
 constructor
 ·intro h
  obtain⟨x,h1,h2,-⟩:=idxN_at h
  exact⟨x,zM h1,h2⟩
 ·rintro⟨x,h1,h2⟩
  exact idx_mem h1 h2
/-! ### Lists of bools -/
def boolC(b:Bool) : List AV:= [.val (.bool b)]
abbrev bools (l:List Bool):AV:= .sl 1 l boolC
theorem indexB_p(l:List Bool)(a:Bool) : CallP Tryz.prog 257 [bools l, .val (.bool a)] (it (idxI (fun b=>decide (a=b)) l)):=by
 refine CallA.of pg ordZ Tryz.func257 rfl Tryz.ntmps257 Tryz.results257 rfl fun h0 G0 O0=>?_
 repeat'(first|apply Sp.h|refine Lk.r rfl ?_|refine Rf.mk rfl ?_|apply Im.mk|intro _)
 refine CA.loop (fun i:Nat=>⟨[(0,bools l),(1, .val (.bool a)),(7,it (l.length:Nat)),(8,it i)],[]⟩)
  (fun i=>i≤l.length∧∀j y,j < i→l[j]?=some y→decide (a=y)=false) (fun i=>l.length - i) 0 xE ⟨zZ _,fun j y h=>by omega⟩ ?_
 rintro i ⟨hi,hj⟩
 by_cases hin:i < l.length
 ·obtain⟨e,hx⟩:=get_of hin
  by_cases hp:a=e
  ·repeat'(first|apply Sp.h|refine Lk.r rfl ?_|refine Rf.mk rfl ?_|refine xA ?_|refine xI ?_|refine xN ?_|fail)
   exact Fin.p rfl (by rw [idxI,idxN_of hx (zT hp) hj,if_pos hin])
  ·repeat'(first|apply Sp.h|refine Lk.r rfl ?_|refine Rf.mk rfl ?_|refine xA ?_|refine xB ?_|refine xI ?_|refine xO ?_|fail)
   exact PA.lp (i+1) xE ⟨⟨hin,alli_succ hx hj (zF hp)⟩,by omega⟩
 ·repeat'(first|apply Sp.h|refine Lk.r rfl ?_|refine Rf.mk rfl ?_|refine xB ?_|refine xN ?_|fail)
  exact Fin.p rfl (by rw [idxI,idxN_none (fun x hx=>by obtain⟨j,hx⟩:=zO hx;exact hj j x (by have:=(zS.1 hx).1;omega) hx),if_neg (by omega)])
theorem all_p(l:List Bool) : CallP Tryz.prog 173 [bools l] (.val (.bool (l.all id))):=by
 have h:CallP Tryz.prog 218 [bools l, .val (.bool false)] (.val (.bool (decide (idxN (fun b=>decide (false=b)) l < l.length)))):=by
  have hi:=indexB_p l false
  refine CallA.of pg ordZ Tryz.func218 rfl Tryz.ntmps218 Tryz.results218 rfl fun h0 G0 O0=>?_
  repeat'(first|apply Sp.h|refine Lk.r rfl ?_|refine Rf.mk rfl ?_|refine xN ?_|(apply Cl.p (hi);focus repeat' constructor))
  refine Fin.p rfl (vb (zD.2 ?_))
  unfold idxI
  split <;> omega
 refine CallA.of pg ordZ Tryz.func173 rfl Tryz.ntmps173 Tryz.results173 rfl fun h0 G0 O0=>?_
 repeat'(first|apply Sp.h|refine Lk.r rfl ?_|refine Rf.mk rfl ?_|refine xN ?_|(apply Cl.p (h);focus repeat' constructor))
 refine Fin.p rfl (vb ?_)
 rw [Bool.eq_iff_iff,decide_eq_true_eq,idxB_lt,List.all_eq_true]
 constructor
 ·intro h x hx
  cases x
  ·exact(h ⟨_,hx,rfl⟩).elim
  ·rfl
 ·rintro h ⟨x,hx,h2⟩
  have:=h x hx
  rw [←of_decide_eq_true h2] at this
  cases this
/-! ### Searches in numbers, by closures with any captures -/
theorem indexI_c{g:FuncId}{caps:List AV}{p:Int→Bool}(hg:∀x,CallP Tryz.prog g (it x :: caps) (.val (.bool (p x))))(he:en g=true)(l:List Int) :
  CallP Tryz.prog 203 [ints l, .fn g caps] (it (idxI p l)):=by
 refine CallA.of pg ordZ Tryz.func203 rfl Tryz.ntmps203 Tryz.results203 rfl fun h0 G0 O0=>?_
 repeat'(first|apply Sp.h|refine Lk.r rfl ?_|refine Rf.mk rfl ?_|apply Im.mk|intro _)
 refine CA.loop (fun i:Nat=>⟨[(0,ints l),(1, .fn g caps),(7,it (l.length:Nat)),(8,it i)],[]⟩)
  (fun i=>i≤l.length∧∀j y,j < i→l[j]?=some y→p y=false) (fun i=>l.length - i) 0 xE ⟨zZ _,fun j y h=>by omega⟩ ?_
 rintro i ⟨hi,hj⟩
 by_cases hin:i < l.length
 ·obtain⟨e,hx⟩:=get_of hin
  repeat'(first|apply Sp.h|refine Lk.r rfl ?_|refine Rf.mk rfl ?_|refine xA ?_|(refine Bd.mk ?_ ?_ <;> intro _)|refine xI ?_|refine xN ?_|(apply Rf.mk;(focus assumption))|refine xO ?_|(apply Cl.p (hg e);(focus repeat'(first|apply Lend.keep|fail))))
  ·exact lendAll _
  ·rename_i hp
   exact Fin.p rfl (by rw [idxI,idxN_of hx hp hj,if_pos hin])
  ·rename_i hp
   exact PA.lp (i+1) xE ⟨⟨hin,alli_succ hx hj (by simpa using hp)⟩,by omega⟩
 ·repeat'(first|apply Sp.h|refine Lk.r rfl ?_|refine Rf.mk rfl ?_|refine xB ?_|refine xN ?_|fail)
  exact Fin.p rfl (by rw [idxI,idxN_none (fun x hx=>by obtain⟨j,hx⟩:=zO hx;exact hj j x (by have:=(zS.1 hx).1;omega) hx),if_neg (by omega)])
theorem containsI_c{g:FuncId}{caps:List AV}{p:Int→Bool}(hg:∀x,CallP Tryz.prog g (it x :: caps) (.val (.bool (p x))))(he:en g=true)(l:List Int) :
  CallP Tryz.prog 152 [ints l, .fn g caps] (.val (.bool (decide (idxN p l < l.length)))):=by
 have hi:=indexI_c hg he l
 refine CallA.of pg ordZ Tryz.func152 rfl Tryz.ntmps152 Tryz.results152 rfl fun h0 G0 O0=>?_
 repeat'(first|apply Sp.h|refine Lk.r rfl ?_|refine Rf.mk rfl ?_|refine xN ?_|(apply Cl.p (hi);focus repeat' constructor))
 refine Fin.p rfl (vb (zD.2 ?_))
 unfold idxI
 split <;> omega
/-! ### The tests of cells.Valid -/
theorem within_c(x lo hi:Int) : CallP Tryz.prog 176 [it x,it lo,it hi] (.val (.bool (decide (lo≤x∧x≤hi)))):=by
 refine CallA.of pg ordZ Tryz.func176 rfl Tryz.ntmps176 Tryz.results176 rfl fun h0 G0 O0=>?_
 repeat'(first|apply Sp.h|refine Lk.r rfl ?_|refine Rf.mk rfl ?_|refine xA ?_|refine xB ?_|apply Bd.mk|refine xN ?_|intro _)
 all_goals exact Fin.p rfl (vb (by first|exact(zT (by omega)).symm|exact(zF (by omega)).symm|exact zD.2 (by omega)))
theorem sized_p(sizes:List Int) : CallP Tryz.prog 174 [ints sizes] (.val (.bool (decide (Sound sizes)))):=by
 have h1:∀x,CallP Tryz.prog 219 [it x] (.val (.bool (!decide (1≤x∧x≤6)))):=by
  intro x
  have hw:=within_c x 1 6
  refine CallA.of pg ordZ Tryz.func219 rfl Tryz.ntmps219 Tryz.results219 rfl fun h0 G0 O0=>?_
  repeat'(first|apply Sp.h|refine Lk.r rfl ?_|refine Rf.mk rfl ?_|refine xN ?_|(apply Cl.p (hw);focus repeat' constructor))
  exact Fin.p rfl (vb decide_not)
 have h2:=containsI_c h1 rfl sizes
 refine CallA.of pg ordZ Tryz.func174 rfl Tryz.ntmps174 Tryz.results174 rfl fun h0 G0 O0=>?_
 repeat'(first|apply Sp.h|refine Lk.r rfl ?_|refine Rf.mk rfl ?_|refine xN ?_|(apply Cl.p (h2);focus repeat' constructor))
 refine Fin.p rfl (vb ?_)
 rw [Bool.eq_iff_iff,decide_eq_true_eq,idxB_lt,decide_eq_true_eq]
 constructor
 ·intro h x hx
  exact Classical.byContradiction fun h9=>h ⟨x,hx,by rw [zF h9];rfl⟩
 ·rintro h ⟨x,hx,h9⟩
  have:=h x hx
  simp at h9
  omega
theorem columned1_p(sizes:List Int)(x:Int) : CallP Tryz.prog 221 [it x, .ad [ints sizes] 0] (.val (.bool (!decide (0≤x∧x < sizes.length)))):=by
 refine CallA.of pg ordZ Tryz.func221 rfl Tryz.ntmps221 Tryz.results221 rfl fun h0 G0 O0=>?_
 repeat'(first|apply Sp.h|refine Lk.r rfl ?_|refine Rf.mk rfl ?_|refine xA ?_|refine xB ?_|apply Bd.mk|apply Im.mk|refine xN ?_|intro _)
 all_goals
  refine Fin.p rfl (vb ?_)
  by_cases hc:0≤x∧x < sizes.length
  ·rw [zT hc]
   first
    | exact zF (by omega)
    | (exfalso;omega)
  ·rw [zF hc]
   first
    | exact zT (by omega)
    | rfl
    | (exfalso;omega)
def ColC(sizes cols:List Int) : Prop:=cols.length≤3∧∀x∈cols,0≤x∧x < sizes.length
noncomputable instance (sizes cols:List Int):Decidable (ColC sizes cols):=zC _
theorem columned_p(sizes cols:List Int) : CallP Tryz.prog 177 [ints sizes,ints cols] (.val (.bool (decide (ColC sizes cols)))):=by
 have hc:=containsI_c (columned1_p sizes) rfl cols
 have hq:¬idxN (fun x:Int=> !decide (0≤x∧x < sizes.length)) cols < cols.length↔∀x∈cols,0≤x∧x < sizes.length:=by
  rw [idxB_lt]
  constructor
  ·intro h x hx
   exact Classical.byContradiction fun h9=>h ⟨x,hx,by rw [zF h9];rfl⟩
  ·rintro h ⟨x,hx,h9⟩
   have:=h x hx
   rw [zT this] at h9
   cases h9
 refine CallA.of pg ordZ Tryz.func177 rfl Tryz.ntmps177 Tryz.results177 rfl fun h0 G0 O0=>?_
 (repeat'(first|(show CA _ _ (Code.region 1 _ _) _ _;apply Stopped.out)|apply Sp.h|refine Lk.r rfl ?_|refine Rf.mk rfl ?_|apply All.mk|intro _));any_goals apply Stopped.mk
 refine CA.freezeB 2 rfl (by repeat constructor) ?_
 repeat'(first|apply Sp.h|refine Lk.r rfl ?_|refine Rf.mk rfl ?_|refine xA ?_|refine xB ?_|(refine Bd.mk ?_ ?_ <;> intro _)|refine Im.mk fun _=>?_|refine xN ?_|(apply Cl.p (hc);focus repeat' constructor))
 all_goals refine Fin.p rfl (vb ?_)
 ·rw [Bool.eq_iff_iff,decide_eq_true_eq,hq,decide_eq_true_eq]
  exact⟨fun h=>⟨by omega,h⟩,fun h=>h.2⟩
 ·exact(zF (fun h=>by have:=h.1;omega)).symm
def RngT(t:TblS) : Prop:=if t.kind=1∨t.kind=4∨t.kind=5 then t.lo≤t.hi∧ -9999≤t.lo∧t.hi≤9999 else t.lo=0∧t.hi=1
noncomputable instance (t:TblS):Decidable (RngT t):=zC _
theorem rngT_1{t:TblS}(h:t.kind=1∨t.kind=4∨t.kind=5) : RngT t↔t.lo≤t.hi∧ -9999≤t.lo∧t.hi≤9999:=by rw [RngT,if_pos h]
theorem rngT_0{t:TblS}(h:¬(t.kind=1∨t.kind=4∨t.kind=5)) : RngT t↔t.lo=0∧t.hi=1:=by rw [RngT,if_neg h]
theorem ranged_p(t:TblS) : CallP Tryz.prog 178 [.agg (tblC t)] (.val (.bool (decide (RngT t)))):=by
 refine CallA.of pg ordZ Tryz.func178 rfl Tryz.ntmps178 Tryz.results178 rfl fun h0 G0 O0=>?_
 repeat'(first|apply Sp.h|refine Lk.r rfl ?_|refine Rf.mk rfl ?_|refine xA ?_|refine xB ?_|apply Bd.mk|apply All.mk|refine xT ?_|refine Ch.r ?_|(apply Fk.r;focus repeat' first|infer_instance|constructor)|refine xN ?_|refine xK ?_|(apply Kf.mk;(focus kernel_rfl))|intro _)
 all_goals
  refine Fin.p rfl (vb ?_)
  first
   | exact zD.2 (by rw [rngT_1 (by omega)];omega)
   | exact(zT (by rw [rngT_1 (by omega)];omega)).symm
   | exact(zF (by rw [rngT_1 (by omega)];omega)).symm
   | exact zD.2 (by rw [rngT_0 (by omega)];omega)
   | exact(zT (by rw [rngT_0 (by omega)];omega)).symm
   | exact(zF (by rw [rngT_0 (by omega)];omega)).symm
   | exact zD.2 (by rw [rngT_0 (by omega)];simp)
theorem isStrict_p(t:TblS) : CallP Tryz.prog 179 [.agg (tblC t)] (.val (.bool (decide (isStrict t.kind)))):=by
 refine CallA.of pg ordZ Tryz.func179 rfl Tryz.ntmps179 Tryz.results179 rfl fun h0 G0 O0=>?_
 repeat'(first|apply Sp.h|refine Lk.r rfl ?_|refine Rf.mk rfl ?_|refine xA ?_|refine xB ?_|apply Bd.mk|apply All.mk|refine xT ?_|refine xN ?_|intro _)
 all_goals
  refine Fin.p rfl (vb ?_)
  first
   | exact zD.2 (by unfold isStrict;omega)
   | exact(zT (by unfold isStrict;omega)).symm
theorem width_p(sizes cols:List Int)(h:ColOK sizes cols) : CallP Tryz.prog 180 [ints sizes,ints cols] (it (prodF sizes cols)):=by
 obtain⟨hl,hs,ha⟩:=h
 refine CallA.of pg ordZ Tryz.func180 rfl Tryz.ntmps180 Tryz.results180 rfl fun h0 G0 O0=>?_
 repeat'(first|apply Sp.h|refine Lk.r rfl ?_|refine Rf.mk rfl ?_|apply Im.mk|intro _)
 refine CA.loop (fun i:Nat=>⟨[(0,ints sizes),(5,it (prodF sizes (cols.take i))),(8,ints cols),(9,it (cols.length:Nat)),(10,it i)],[]⟩) (fun i=>i≤cols.length) (fun i=>cols.length - i) 0 xE (zZ _) ?_
 rintro i hi
 by_cases hin:i < cols.length
 ·obtain⟨x,hx⟩:=get_of hin
  have hb:=ha x (zM hx)
  have hb1:=hb.1
  obtain⟨y,hy⟩:=get_of (l:=sizes) (i:=x.toNat) (by omega)
  have hys:=hs y (zM hy)
  have hp:=prod_le hs (cols.take i)
  have hp2:=prod_succ hx hy
  have hp3:=prod_le hs (cols.take (i+1))
  have h216:∀n:Nat,n≤3→(6:Int) ^ n≤216:=fun n hn=>by match n,hn with | 0,_=>decide | 1,_=>decide | 2,_=>decide | 3,_=>decide
  have h1:=h216 (cols.take i).length (by simp;omega)
  have h2:=h216 (cols.take (i+1)).length (by simp;omega)
  rw [hp2] at hp3
  repeat'(first|apply Sp.h|refine Lk.r rfl ?_|refine Rf.mk rfl ?_|refine xA ?_|refine xP ?_|refine xI ?_|(apply Ix.r;(focus assumption);(focus omega))|refine xO ?_|fail)
  rw [←hp2]
  exact PA.lp (i+1) xE ⟨hin,by omega⟩
 ·have:i=cols.length:=by omega
  subst this
  rw [zL]
  repeat'(first|apply Sp.h|refine Lk.r rfl ?_|refine Rf.mk rfl ?_|refine xB ?_|refine xN ?_|fail)
  exact Fin.p rfl rfl
end Go.Proofs.YtmjllbjfkafhdaaGreatDoor
