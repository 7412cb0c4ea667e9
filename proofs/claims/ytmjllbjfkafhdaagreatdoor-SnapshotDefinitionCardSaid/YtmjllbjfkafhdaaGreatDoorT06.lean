/- Part 6 of the ground of this proof: what its texts say of the model, the program and the plain data; conditions: those that are named. -/
import Derived.Test.YtmjllbjfkafhdaaGreatDoorT05
namespace Go.CF
open Go Go.ChangeShapes Go.WideShapes Go.ChangeAt Go.RowKit
def Rp.str:Rp ByteArray where
 sz:=1
 R:=λ_ _ cs a=>cs= [.string a]
 len:=by rintro _ _ _ _ rfl;rfl
 one:=by rintro _ _ _ _ rfl u hu;simp at hu;subst hu;rfl
 wm:=λ_ _ h=>h
 mono:=λ_ h=>h
 lt:=λh=>h
theorem wJ.str{P:Program}{t:TypeId}(ht:P.underlying t=some .string)(hc:P.cellsOf t=1):wJ P t Rp.str :=
 ⟨hc,λh=>by obtain⟨b,h1,_⟩:=DataW.trod_string ht h;exact⟨b,h1⟩⟩
theorem wK.str:wK Rp.str λs=> [.val (.string s)]:=⟨by rintro _ _ _ _ rfl;exact⟨⟨rfl,trivial⟩,λu hu=>by rw [zH.1 hu];rfl⟩⟩
theorem wK.bool:wK Rp.bool λb=> [.val (.bool b)]:=⟨by rintro _ _ _ _ rfl;exact⟨⟨rfl,trivial⟩,λu hu=>by rw [zH.1 hu];rfl⟩⟩
theorem wK.agg{α:Type}{r:Rp α}{f:α->List AV}(ha:wK r f){h:y7}{F:Nat->Prop}{v:Value}{a:α}(hv:v= .agg v.cells)(hr:r.R h F v.cells.toList a):(AV.agg (f a)).R h F v:=⟨v.cells.toList,by simpa using hv,ha.rep hr⟩
end Go.CF
set_option maxRecDepth 100000
set_option maxHeartbeats 80000000
namespace Go.Proofs.YtmjllbjfkafhdaaGreatDoor
open Go Go.CF
abbrev sv (s:ByteArray):AV:= .val (.string s)
def wb(x:Int):Prop:=x=9∨x=10∨x=13∨x=32
noncomputable instance (x:Int):Decidable (wb x):=zC _
theorem p8(x:Int):y6 Tryz.prog 275 [.val (.int .u8 x)] (.val (.bool (decide (wb x)))):=by
 refine zy.of pg ye Tryz.func275 rfl Tryz.ntmps275 Tryz.results275 rfl λh0 G0 O0=>?_
 repeat'(first|apply Sp.h|refine Lk.r rfl ?_|refine Rf.mk rfl ?_|refine xA ?_|refine xB ?_|apply Bd.mk|refine xN ?_|intro _)
 all_goals refine Fin.p rfl (vb ?_)
 all_goals first
  | exact zD.2 (by unfold wb;omega)
  | exact(zT (by unfold wb;omega)).symm
def yH(x:Int):Prop:=97<=x/\x<=122
noncomputable instance (x:Int):Decidable (yH x):=zC _
theorem tv(x:Int):y6 Tryz.prog 276 [.val (.int .u8 x)] (.val (.bool (decide (yH x)))):=by
 refine zy.of pg ye Tryz.func276 rfl Tryz.ntmps276 Tryz.results276 rfl λh0 G0 O0=>?_
 repeat'(first|apply Sp.h|refine Lk.r rfl ?_|refine Rf.mk rfl ?_|refine xA ?_|refine xB ?_|apply Bd.mk|refine xN ?_|intro _)
 all_goals refine Fin.p rfl (vb ?_)
 all_goals first
  | exact zD.2 (by unfold yH;omega)
  | exact(zF (by unfold yH;omega)).symm
def isDigit(x:Int):Prop:=48<=x/\x<=57
noncomputable instance (x:Int):Decidable (isDigit x):=zC _
theorem sI(x:Int):y6 Tryz.prog 277 [.val (.int .u8 x)] (.val (.bool (decide (isDigit x)))):=by
 refine zy.of pg ye Tryz.func277 rfl Tryz.ntmps277 Tryz.results277 rfl λh0 G0 O0=>?_
 repeat'(first|apply Sp.h|refine Lk.r rfl ?_|refine Rf.mk rfl ?_|refine xA ?_|refine xB ?_|apply Bd.mk|refine xN ?_|intro _)
 all_goals refine Fin.p rfl (vb ?_)
 all_goals first
  | exact zD.2 (by unfold isDigit;omega)
  | exact(zF (by unfold isDigit;omega)).symm
inductive Comm (s:ByteArray):Nat->Nat->Prop where
 | stop {a:Nat} :¬(a < s.size/\yf s a≠10)->Comm s a a
 | step {a j:Nat}:a < s.size->yf s a≠10->Comm s (a+1) j->Comm s a j
inductive sy (s:ByteArray):Nat->Nat->Prop where
 | stop {a:Nat} :¬(a < s.size/\(wb (yf s a)∨yf s a=35))->sy s a a
 | da {a j:Nat}:a < s.size->yf s a≠35->wb (yf s a)->sy s (a+1) j->sy s a j
 | GB {a b j:Nat}:a < s.size->yf s a=35->Comm s a b->sy s b j->sy s a j
theorem Comm.le{s:ByteArray}{a j:Nat}(h:Comm s a j)(ha:a<=s.size):a<=j/\j<=s.size:=by
 induction h with
 | stop=>exact⟨Nat.le_refl _,ha⟩
 | step h1 _ _ ih=>have:=ih h1;omega
theorem Comm.lt{s:ByteArray}{a j:Nat}(h:Comm s a j)(ha:a < s.size)(hb:yf s a=35):a < j/\j<=s.size:=by
 cases h with
 | stop h=>exact absurd ⟨ha,z6⟩ h
 | step h1 _ h3=>have:=h3.le h1;omega
theorem Comm.ex(s:ByteArray) :∀(n a:Nat),s.size - a=n->∃j,Comm s a j:=by
 intro n
 induction n with
 | zero=>exact λa h=>⟨a,.stop z6⟩
 | succ n ih =>
  intro a h
  by_cases h1:yf s a=10
  ·exact⟨a,.stop z6⟩
  ·obtain⟨j,hj⟩:=ih (a+1) z6
   exact⟨j,.step z6 h1 hj⟩
theorem sy.le{s:ByteArray}{a j:Nat}(h:sy s a j):a<=s.size->a<=j/\j<=s.size/\(j < s.size->¬wb (yf s j)/\yf s j≠35):=by
 induction h with
 | stop h=>exact λha=>⟨Nat.le_refl _,ha,λhl=>⟨λh9=>h ⟨hl,.inl h9⟩,λh9=>h ⟨hl,.inr h9⟩⟩⟩
 | da h1 _ _ _ ih=>intro ha;have:=ih h1;exact⟨z6,this.2⟩
 | GB h1 h2 h3 _ ih=>intro ha;have h9:=h3.lt h1 h2;have:=ih h9.2;exact⟨z6,this.2⟩
theorem sy.ex(s:ByteArray)(n:Nat) :∀a:Nat,s.size - a=n->∃j,sy s a j:=by
 induction n using Nat.strongRecOn with
 | ind n ih =>
  intro a h
  by_cases hc:a < s.size/\(wb (yf s a)∨yf s a=35)
  ·by_cases h2:yf s a=35
   ·obtain⟨b,hb⟩:=Comm.ex s _ a rfl
    have h9:=hb.lt hc.1 h2
    obtain⟨j,hj⟩:=ih (s.size - b) z6 b rfl
    exact⟨j,.GB hc.1 h2 hb hj⟩
   ·obtain⟨j,hj⟩:=ih (s.size - (a+1)) z6 (a+1) rfl
    exact⟨j,.da hc.1 h2 (hc.2.resolve_right h2) hj⟩
  ·exact⟨a,.stop hc⟩
theorem _root_.Go.CF.zc {p:Prop}(h:p:=by first|omega|(simp;omega)):p:=h
theorem Jc{s:ByteArray}{a j:Nat}(hs:s.size<=1000000000)(ha:a<=s.size)(h:sy s a j):y6 Tryz.prog 255 [sv s,.val (.int .i64 a)] (.val (.int .i64 j)):=by
 refine zy.of pg ye Tryz.func255 rfl Tryz.ntmps255 Tryz.results255 rfl λh0 G0 O0=>?_
 repeat'(first|apply Sp.h|refine Lk.r rfl ?_|refine Rf.mk rfl ?_|fail)
 refine CA.loop (λa:Nat=>⟨[(0,sv s),(1,.val (.int .i64 a))],[]⟩) (λa=>a<=s.size/\sy s a j) (λa=>s.size - a) a xE ⟨ha,h⟩ ?_
 rintro a ⟨ha,h⟩
 cases h with
 | stop hn =>
  by_cases hl:j < s.size
  ·have hw:¬wb (yf s j):=λh9=>hn ⟨hl,.inl h9⟩
   have h35:yf s j≠35:=λh9=>hn ⟨hl,.inr h9⟩
   repeat'(first|apply Sp.h|refine Lk.r rfl ?_|refine Rf.mk rfl ?_|refine xA ?_|refine xB ?_|refine xN ?_|(apply Sx.r;{exact zj};{exact zc})|(apply Cl.p (p8 _);focus repeat' constructor))
   exact Fin.p rfl rfl
  ·repeat'(first|apply Sp.h|refine Lk.r rfl ?_|refine Rf.mk rfl ?_|refine xB ?_|refine xN ?_|(apply Cl.p (p8 _);(focus repeat'(first|fail))))
   exact Fin.p rfl rfl
 | da h1 h2 h3 h4 =>
  repeat'(first|apply Sp.h|refine Lk.r rfl ?_|refine Rf.mk rfl ?_|refine xA ?_|refine xB ?_|(apply Sx.r;{exact zj};{exact zc})|refine xO ?_|(apply Cl.p (p8 _);focus repeat' constructor))
  exact PA.lp (a+1) xE ⟨⟨h1,h4⟩,z6⟩
 | GB h1 h2 h3 h4 =>
  rename_i b
  have hw:¬wb (yf s a):=by unfold wb;omega
  have hb:=h3.lt h1 h2
  repeat'(first|apply Sp.h|refine Lk.r rfl ?_|refine Rf.mk rfl ?_|refine xA ?_|refine xB ?_|(apply Sx.r;{exact zj};{exact zc})|(apply Cl.p (p8 _);focus repeat' constructor))
  refine CA.loop (λa:Nat=>⟨[(0,sv s),(1,.val (.int .i64 a))],[]⟩) (λa=>a<=s.size/\Comm s a b) (λa=>s.size - a) a xE ⟨ha,h3⟩ ?_
  rintro a2 ⟨Vb,h⟩
  cases h with
  | stop hn =>
   by_cases hl:b < s.size
   ·have Y_:yf s b=10:=Classical.byContradiction λh9=>hn ⟨hl,h9⟩
    repeat'(first|apply Sp.h|refine Lk.r rfl ?_|refine Rf.mk rfl ?_|refine xA ?_|(apply Sx.r;{exact zj};{exact zc})|fail)
    exact PA.lp b xE ⟨⟨Vb,h4⟩,z6⟩
   ·repeat'(first|apply Sp.h|refine Lk.r rfl ?_|refine Rf.mk rfl ?_|refine xB ?_|fail)
    exact PA.lp b xE ⟨⟨Vb,h4⟩,z6⟩
  | step g1 g2 g3 =>
   repeat'(first|apply Sp.h|refine Lk.r rfl ?_|refine Rf.mk rfl ?_|refine xA ?_|refine xB ?_|(apply Sx.r;{exact zj};{exact zc})|refine xO ?_|fail)
   exact PA.lp (a2+1) xE ⟨⟨g1,g3⟩,z6⟩
def ur(q:ByteArray):List AV:= [sv q]
def kR(l:List ByteArray)(s:ByteArray):Prop:=∃q∈l,q.toList=s.toList
noncomputable instance (l:List ByteArray) (s:ByteArray):Decidable (kR l s):=zC _
theorem VP(l:List ByteArray)(s:ByteArray):y6 Tryz.prog 116 [.sl 1 l ur,sv s] (.val (.bool (decide (kR l s)))):=by
 refine zy.of pg ye Tryz.func116 rfl Tryz.ntmps116 Tryz.results116 rfl λh0 G0 O0=>?_
 repeat'(first|apply Sp.h|refine Lk.r rfl ?_|refine Rf.mk rfl ?_|fail)
 refine CA.loop (λi:Nat=>⟨[(0,.sl 1 l ur),(1,sv s),(5,.val (.int .i64 i))],[]⟩) (λi=>i<=l.length/\∀j q,j < i->l[j]?=some q->q.toList≠s.toList) (λi=>l.length - i) 0 xE ⟨zZ _,λj q h=>z6⟩ ?_
 rintro i ⟨hi,hj⟩
 by_cases yd:i < l.length
 ·obtain⟨q,hq⟩:=zz yd
  repeat'(first|apply Sp.h|refine Lk.r rfl ?_|refine Rf.mk rfl ?_|refine xA ?_|apply Bd.mk|apply Im.mk|refine xI ?_|refine xN ?_|refine xO ?_|intro _)
  ·rename_i h
   exact Fin.p rfl (vb (zT (show kR l s from⟨q,zM hq,h⟩)).symm)
  ·rename_i h
   refine PA.lp (i+1) xE ⟨⟨yd,λj y h1 h2=>?_⟩,z6⟩
   by_cases u5:j=i
   ·subst u5;rw [hq] at h2;cases h2;exact h
   ·exact hj j y z6 h2
 ·repeat'(first|apply Sp.h|refine Lk.r rfl ?_|refine Rf.mk rfl ?_|refine xB ?_|apply Im.mk|refine xN ?_|intro _)
  refine Fin.p rfl (vb (zF ?_).symm)
  rintro⟨q,hq,h⟩
  obtain⟨j,hq⟩:=zO hq
  exact hj j q (by have:=(zS.1 hq).1;omega) hq h
def gX:List ByteArray:= [⟨#[61,61]⟩,⟨#[33,61]⟩,⟨#[60,61]⟩,⟨#[62,61]⟩,⟨#[46,46]⟩,⟨#[60]⟩,⟨#[62]⟩,⟨#[61]⟩,⟨#[43]⟩,⟨#[45]⟩,⟨#[42]⟩,⟨#[40]⟩,⟨#[41]⟩,⟨#[123]⟩,⟨#[125]⟩,⟨#[44]⟩,⟨#[58]⟩,⟨#[59]⟩]
def cZ:List ByteArray:= [⟨#[115,111,114,116]⟩,⟨#[114,101,108,97,116,105,111,110]⟩,⟨#[99,111,117,110,116,101,114]⟩,⟨#[115,101,116]⟩,⟨#[114,101,103,105,115,116,101,114]⟩,⟨#[105,110,118,97,114,105,97,110,116]⟩,⟨#[111,112,101,114,97,116,105,111,110]⟩,⟨#[107,101,121]⟩,⟨#[114,101,102,101,114,101,110,99,101]⟩,⟨#[116,111]⟩,⟨#[99,111,117,110,116]⟩,⟨#[97,99,121,99,108,105,99]⟩,⟨#[97,108,108]⟩,⟨#[115,117,109]⟩,⟨#[105,110]⟩,⟨#[97,100,100,119,105,110,115]⟩,⟨#[114,101,109,111,118,101,119,105,110,115]⟩,⟨#[108,97,115,116]⟩,⟨#[109,117,108,116,105]⟩,⟨#[104,105,100,101]⟩,⟨#[111,114,100,101,114,101,100]⟩,⟨#[114,101,113,117,105,114,101]⟩,⟨#[104,111,108,100]⟩,⟨#[105,110,115,101,114,116]⟩,⟨#[100,101,108,101,116,101]⟩,⟨#[97,100,100]⟩,⟨#[102,114,111,109]⟩,⟨#[112,117,116]⟩,⟨#[100,114,111,112]⟩,⟨#[97,115,115,105,103,110]⟩,⟨#[102,111,114]⟩,⟨#[119,104,101,114,101]⟩,⟨#[97,110,100]⟩,⟨#[111,114]⟩,⟨#[110,111,116]⟩]
theorem XC:tJ Tryz.prog 301 [] 9 1 (gX.map ur) id:=by
 refine zy.of pg ye Tryz.func301 rfl Tryz.ntmps301 Tryz.results301 rfl λh0 G0 O0=>?_
 repeat'(first|apply Sp.h|refine Lk.r rfl ?_|refine Rf.mk rfl ?_|apply yc.mk|(apply Fk.r;focus repeat' first|infer_instance|constructor)|refine xN ?_|refine Rf.mk ⟨rfl,rfl,rfl⟩ ?_|intro _)
 exact⟨_,_,.one (.same (.z)),_,rfl,rfl⟩
theorem XB:y6 Tryz.prog 301 [] (.sl 1 gX ur):=zy.Cp zf (List.map_id _).symm XC
theorem aY:tJ Tryz.prog 278 [] 9 1 (cZ.map ur) id:=by
 refine zy.of pg ye Tryz.func278 rfl Tryz.ntmps278 Tryz.results278 rfl λh0 G0 O0=>?_
 repeat'(first|apply Sp.h|refine Lk.r rfl ?_|refine Rf.mk rfl ?_|apply yc.mk|(apply Fk.r;focus repeat' first|infer_instance|constructor)|refine xN ?_|refine Rf.mk ⟨rfl,rfl,rfl⟩ ?_|intro _)
 exact⟨_,_,.one (.same (.z)),_,rfl,rfl⟩
theorem jA:y6 Tryz.prog 278 [] (.sl 1 cZ ur):=zy.Cp zf (List.map_id _).symm aY
/-! ### PE -/
def mT(s:ByteArray)(a:Nat)(q:ByteArray):Prop:=a+q.size<=s.size/\(s.extract a (a+q.size)).toList=q.toList
noncomputable instance (s:ByteArray) (a:Nat) (q:ByteArray):Decidable (mT s a q):=zC _
noncomputable def bM(L:List ByteArray)(s:ByteArray)(a:Nat):Nat:=((L.find? λq=>decide (mT s a q)).map ByteArray.size).getD 0
theorem fR{α:Type}{p:α->Bool} :∀{l:List α} {i:Nat} {x:α},l[i]?=some x->p x=true->(∀j y,j < i->l[j]?=some y->p y=false)->l.find? p=some x:=by
 intro l
 induction l with
 | nil=>intro i x h;cases h
 | cons a l ih =>
  intro i x h1 h2 h3
  cases i with
  | zero=>cases h1;simp [h2]
  | succ i =>
   have h4:=h3 0 a z6 rfl
   rw [List.find?_cons,h4]
   exact ih h1 h2 λj y hj hy=>h3 (j+1) y z6 hy
theorem XD :∀q∈gX,q.size<=2:=by decide
theorem Q1{s:ByteArray}{a:Nat}(ha:a<=s.size):a+bM gX s a<=s.size:=by
 unfold bM
 cases h:gX.find? λq=>decide (mT s a q) with
 | none=>exact ha
 | some q=>exact(of_decide_eq_true (p:=mT s a q) (List.find?_some (p:=λq=>decide (mT s a q)) h)).1
theorem dA{s:ByteArray}{a:Nat}(hs:s.size<=1000000000)(ha:a<=s.size):y6 Tryz.prog 279 [sv s,.val (.int .i64 a)] (.val (.int .i64 (bM gX s a))):=by
 obtain⟨L,hL⟩:∃L,L=gX:=⟨_,rfl⟩
 have hp:=XB
 have u4:=XD
 rw [<-hL] at hp u4 ⊢
 refine zy.of pg Jv Tryz.func279 rfl Tryz.ntmps279 Tryz.results279 rfl λh0 G0 O0=>?_
 repeat'(first|apply Sp.h|refine Lk.r rfl ?_|refine Rf.mk rfl ?_|(apply Cl.p (hp);(focus repeat'(first|exact y3.nil|fail))))
 refine CA.loop (λi:Nat=>⟨[(0,sv s),(1,.val (.int .i64 a)),(5,.sl 1 L ur),(6,.val (.int .i64 i))],[]⟩) (λi=>i<=L.length/\∀j q,j < i->L[j]?=some q->¬mT s a q) (λi=>L.length - i) 0 xE ⟨zZ _,λj q h=>z6⟩ ?_
 rintro i ⟨hi,hj⟩
 by_cases yd:i < L.length
 ·obtain⟨q,hq⟩:=zz yd
  have hqs:=u4 q (zM hq)
  repeat'(first|apply Sp.h|refine Lk.r rfl ?_|refine Rf.mk rfl ?_|refine xA ?_|refine xB ?_|apply Bd.mk|refine yu.r rfl ?_|apply Im.mk|refine xI ?_|refine xN ?_|(apply Jx.r;{exact zj};{exact zb})|refine xD ?_|refine xO ?_|intro _)
  all_goals first
   | (rename_i h1 h2;exact Fin.p rfl (by rw [bM,fR hq (zT (show mT s a q from⟨z6,h2⟩)) λj y h8 h9=>zF (hj j y h8 h9)];rfl))
   | skip
  all_goals refine PA.lp (i+1) xE ⟨⟨yd,λj y h8 h9=>?_⟩,z6⟩
  all_goals
   by_cases u5:j=i
   ·subst u5;rw [hq] at h9;cases h9
    exact λh7=>by have:=h7.1;have:=h7.2;first|contradiction|omega
   ·exact hj j y z6 h9
 ·repeat'(first|apply Sp.h|refine Lk.r rfl ?_|refine Rf.mk rfl ?_|refine xB ?_|apply Im.mk|refine xN ?_|intro _)
  have hn:L.find? (λq=>decide (mT s a q))=none:=List.find?_eq_none.2 λq hq=>by
   obtain⟨j,hq⟩:=zO hq
   have:=hj j q (by have:=(zS.1 hq).1;omega) hq
   simpa using this
  exact Fin.p rfl (by rw [bM,hn];rfl)
/-! ### z0E -/
def isWord(x:Int):Prop:=yH x∨isDigit x∨x=95
/-! ### DI -/
abbrev kN:=Int×Int×Int×Int
def Rj(x:kN):List AV:= [.val (.int .i64 x.1),.val (.int .i64 x.2.1),.val (.int .i64 x.2.2.1),.val (.int .i64 x.2.2.2)]
instance {a b c d:Int}:Inv Rj [.val (.int .i64 a),.val (.int .i64 b),.val (.int .i64 c),.val (.int .i64 d)] (a,b,c,d):=⟨rfl⟩
abbrev VY (P:Program) (f:FuncId) (args:List AV):Prop:=zy P f args [] λr own=>∃b,r= .val (.bool b)/\own= []
structure ym where
 name:ByteArray
 kind:Int
 ya:List Int
 lo:Int
 hi:Int
 first:Int
abbrev it (x:Int):AV:= .val (.int .i64 x)
def v8(t:ym):List AV:= [sv t.name,it t.kind,ints t.ya,it t.lo,it t.hi,it t.first]
abbrev xG (l:List ym):AV:= .sl 6 l v8
def Sound(sizes:List Int):Prop:=∀x∈sizes,1<=x/\x<=6
noncomputable instance (sizes:List Int):Decidable (Sound sizes):=zC _
theorem oZ(c:List Int):y6 Tryz.prog 112 [ints c] (.val (.bool (decide (Sound c)))):=by
 refine zy.of pg ye Tryz.func112 rfl Tryz.ntmps112 Tryz.results112 rfl λh0 G0 O0=>?_
 repeat'(first|apply Sp.h|refine Lk.r rfl ?_|refine Rf.mk rfl ?_|fail)
 refine CA.loop (λi:Nat=>⟨[(0,ints c),(3,.val (.int .i64 i))],[]⟩) (λi=>i<=c.length/\∀x∈c.take i,1<=x/\x<=6) (λi=>c.length - i) 0 xE ⟨zZ _,by simp⟩ ?_
 rintro i ⟨hi,ha⟩
 by_cases yd:i < c.length
 ·obtain⟨x,hx⟩:=zz yd
  repeat'(first|apply Sp.h|refine Lk.r rfl ?_|refine Rf.mk rfl ?_|refine xA ?_|refine xB ?_|apply Bd.mk|apply Im.mk|refine xI ?_|refine xN ?_|refine xO ?_|intro _)
  all_goals first
   | exact PA.lp (i+1) xE ⟨⟨yd,all_succ hx ha ⟨z6,z6⟩⟩,z6⟩
   | exact Fin.p rfl (vb (zF (λh=>by have h1:=h x (zM hx);omega)).symm)
 ·have:i=c.length:=z6
  subst this
  rw [zL] at ha
  repeat'(first|apply Sp.h|refine Lk.r rfl ?_|refine Rf.mk rfl ?_|refine xB ?_|apply Im.mk|refine xN ?_|intro _)
  exact Fin.p rfl (vb (zT (show Sound c from ha)).symm)
def uO(sizes ya:List Int):Prop:=ya.length<=3/\Sound sizes/\∀x∈ya,0<=x/\x < sizes.length
noncomputable instance (sizes ya:List Int):Decidable (uO sizes ya):=zC _
def wD(sizes ya:List Int):Int:=ya.foldl (λn c=>n * (sizes[c.toNat]?.getD 1)) 1
noncomputable def wF(sizes ya:List Int):Int:=if uO sizes ya then wD sizes ya else 0
theorem rv{sizes ya:List Int}{i:Nat}{x y:Int}(hx:ya[i]?=some x)(hy:sizes[x.toNat]?=some y):wD sizes (ya.take (i+1))=wD sizes (ya.take i) * y:=by
 unfold wD;rw [zK,hx,List.foldl_append];simp [hy]
theorem sG{sizes:List Int}(hs:Sound sizes) :∀ya:List Int,1<=wD sizes ya/\wD sizes ya<=6 ^ ya.length:=by
 have key:∀(ya:List Int) (n:Int) (k:Nat),1<=n->n<=6 ^ k->1<=ya.foldl (λn c=>n * (sizes[c.toNat]?.getD 1)) n/\ya.foldl (λn c=>n * (sizes[c.toNat]?.getD 1)) n<=6 ^ (k+ya.length):=by
  intro ya
  induction ya with
  | nil=>exact λn k h1 h2=>⟨h1,h2⟩
  | cons c ya ih =>
   intro n k h1 h2
   have hy:1<=sizes[c.toNat]?.getD 1/\sizes[c.toNat]?.getD 1<=6:=by
    cases h:sizes[c.toNat]? with
    | none=>simp
    | some y=>exact hs y (zM h)
   have:=ih (n * (sizes[c.toNat]?.getD 1)) (k+1) (by have:=Int.mul_le_mul h1 hy.1 z6 z6;omega) (by rw [Int.pow_succ];exact Int.mul_le_mul h2 hy.2 z6 (Int.le_trans z6 h2))
   rw [List.length_cons,show k+(ya.length+1)=k+1+ya.length by omega]
   exact this
 intro ya
 have:=key ya 1 0 z6 zd
 rwa [Nat.zero_add] at this
theorem wz(sizes ya:List Int):y6 Tryz.prog 113 [ints sizes,ints ya] (it (wF sizes ya)):=by
 refine zy.of pg ye Tryz.func113 rfl Tryz.ntmps113 Tryz.results113 rfl λh0 G0 O0=>?_
 by_cases h1:ya.length<=3/\Sound sizes
 ·obtain⟨hl,hs⟩:=h1
  repeat'(first|apply Sp.h|refine Lk.r rfl ?_|refine Rf.mk rfl ?_|refine xA ?_|refine xB ?_|refine Im.mk λ_=>?_|(apply Cl.p (oZ _);focus repeat' constructor))
  refine CA.loop (λi:Nat=>⟨[(0,ints sizes),(1,ints ya),(5,it (wD sizes (ya.take i))),(6,it i)],[]⟩) (λi=>i<=ya.length/\∀x∈ya.take i,0<=x/\x < sizes.length) (λi=>ya.length - i) 0 xE ⟨zZ _,by simp⟩ ?_
  rintro i ⟨hi,ha⟩
  by_cases yd:i < ya.length
  ·obtain⟨x,hx⟩:=zz yd
   by_cases hb:0<=x/\x < sizes.length
   ·obtain⟨y,hy⟩:=zz (l:=sizes) (i:=x.toNat) z6
    have q_:=hb.1
    have hys:=hs y (zM hy)
    have hp:=sG hs (ya.take i)
    have kr:=rv hx hy
    have C2:=sG hs (ya.take (i+1))
    have eO:∀n:Nat,n<=3->(6:Int) ^ n<=216:=λn hn=>by match n,hn with | 0,_=>decide | 1,_=>decide | 2,_=>decide | 3,_=>decide
    have hp4:wD sizes (ya.take i) * y<=216:=by rw [<-kr];exact Int.le_trans C2.2 (eO _ (by rw [zN];omega))
    have hp5:1<=wD sizes (ya.take i) * y:=by rw [<-kr];exact C2.1
    repeat'(first|apply Sp.h|refine Lk.r rfl ?_|refine Rf.mk rfl ?_|refine xA ?_|refine xB ?_|refine xP ?_|apply Im.mk|refine xI ?_|(apply Ix.r;{exact z8};{exact z6})|refine xO ?_|intro _)
    rw [<-kr]
    exact PA.lp (i+1) xE ⟨⟨yd,all_succ hx ha hb⟩,z6⟩
   ·repeat'(first|apply Sp.h|refine Lk.r rfl ?_|refine Rf.mk rfl ?_|refine xA ?_|refine xB ?_|apply Bd.mk|apply Im.mk|refine xI ?_|refine xN ?_|intro _)
    all_goals exact Fin.p rfl (by rw [wF,if_neg (λh=>hb (h.2.2 x (zM hx)))])
  ·have:i=ya.length:=z6
   subst this
   rw [zL] at ha
   simp only [zL]
   repeat'(first|apply Sp.h|refine Lk.r rfl ?_|refine Rf.mk rfl ?_|refine xB ?_|apply Im.mk|refine xN ?_|intro _)
   exact Fin.p rfl (by rw [wF,if_pos ⟨hl,hs,ha⟩])
 ·repeat'(first|apply Sp.h|refine Lk.r rfl ?_|refine Rf.mk rfl ?_|refine xA ?_|refine xB ?_|(refine Bd.mk ?_ ?_ <;> intro _)|refine Im.mk λ_=>?_|refine xN ?_|(apply Cl.p (oZ _);focus repeat' constructor))
  all_goals first
   | exact Fin.p rfl (by rw [wF,if_neg (λh=>h1 ⟨h.1,h.2.1⟩)])
   | exact(h1 ⟨z6,by assumption⟩).elim
def VT(sizes:List Int)(t:ym):Prop:=uO sizes t.ya/\0<=t.kind/\t.kind<=5/\ -9999<=t.lo/\t.lo<=t.hi/\t.hi<=9999
def xS(sizes:List Int)(l:List ym):Prop:=sizes.length<=4/\Sound sizes/\l.length<=12/\∀t∈l,VT sizes t
def yi(k:Int):Prop:=k=0∨k=1
noncomputable instance (k:Int):Decidable (yi k):=zC _
theorem vP(k:Int):y6 Tryz.prog 115 [it k] (.val (.bool (decide (yi k)))):=by
 refine zy.of pg ye Tryz.func115 rfl Tryz.ntmps115 Tryz.results115 rfl λh0 G0 O0=>?_
 repeat'(first|apply Sp.h|refine Lk.r rfl ?_|refine Rf.mk rfl ?_|refine xA ?_|refine xB ?_|apply Bd.mk|refine xN ?_|intro _)
 all_goals refine Fin.p rfl (vb ?_)
 all_goals first
  | exact zD.2 (by unfold yi;omega)
  | exact(zT (by unfold yi;omega)).symm
theorem rN(sizes ya:List Int):0<=wF sizes ya/\wF sizes ya<=216:=by
 unfold wF
 split
 ·rename_i h
  have hp:=sG h.2.1 ya
  have eO:∀n:Nat,n<=3->(6:Int) ^ n<=216:=λn hn=>by match n,hn with | 0,_=>decide | 1,_=>decide | 2,_=>decide | 3,_=>decide
  have:=eO _ h.1
  omega
 ·omega
theorem Ic{sizes ya:List Int}(h:wF sizes ya≠0):uO sizes ya:=by
 unfold wF at h
 split at h
 ·assumption
 ·exact absurd rfl h
abbrev VX (P:Program) (f:FuncId) (args:List AV) (Q:Prop):Prop:=zy P f args [] λr own=>∃b,r= .val (.bool b)/\own= []/\(b=true->Q)
def vT(p:Int×Int):List AV:= [it p.1,it p.2]
def LC(rs:List (Int×Int)):Prop:=∀p∈rs,-9999<=p.1/\p.1<=p.2/\p.2<=9999
structure sU where
 yO:List (Int×Int)
 bound:Int
abbrev yO (l:List (Int×Int)):AV:= .sl 2 l vT
def pA(r:sU):List AV:= [yO r.yO,it r.bound]
theorem sL(x m:Int)(hm:0<=m/\m<=9223372036854775807):y6 Tryz.prog 121 [it x,it m] (.val (.bool (decide (-m<=x/\x<=m)))):=by
 refine zy.of pg ye Tryz.func121 rfl Tryz.ntmps121 Tryz.results121 rfl λh0 G0 O0=>?_
 repeat'(first|apply Sp.h|refine Lk.r rfl ?_|refine Rf.mk rfl ?_|refine xA ?_|refine xB ?_|apply Bd.mk|refine xP ?_|refine xN ?_|intro _)
 all_goals refine Fin.p rfl (vb ?_)
 all_goals first
  | exact zD.2 z6
  | exact(zF z6).symm
structure mh where
 kind:Int
 family:Int
 row:sU
 first:Int
 size:Int
def lE(c:mh):List AV:= [it c.kind,it c.family,yO c.row.yO,it c.row.bound,it c.first,it c.size]
structure mQ where
 name:ByteArray
 ordered:Bool
 y9:List Int
def PM(o:mQ):List AV:= [sv o.name,.val (.bool o.ordered),ints o.y9]
def tL:Int×Int×Int->List AV
 | (a,b,c)=> [it a,it b,it c]
structure iA where
 delta:List (Int×Int)
 hold:List sU
 yk:List (Int×Int×Int)
def il(e:iA):List AV:= [yO e.delta,.sl 2 e.hold pA,.sl 3 e.yk tL]
structure e_ where
 op:Int
 args:List Int
 xu:iA
def iq(a:e_):List AV:= [it a.op,ints a.args,yO a.xu.delta,.sl 2 a.xu.hold pA,.sl 3 a.xu.yk tL]
structure y8 where
 y9:List Int
 tables:List ym
 xm:List ByteArray
 cons:List mh
 ops:List mQ
 yP:List e_
 yp:List (Int×Int×Int)
def s_(m:y8):List AV:= [ints m.y9,xG m.tables,.sl 1 m.xm ur,.sl 6 m.cons lE,.sl 3 m.ops PM,.sl 5 m.yP iq,.sl 3 m.yp tL]
abbrev wH (m:y8):AV:= .agg (s_ m)
theorem ni{sizes ya:List Int}(h:uO sizes ya){i:Nat}{x:Int}(hx:ya[i]?=some x) :∃j:Nat,x=(j:Int)/\∃y,sizes[j]?=some y/\1<=y/\y<=6:=by
 obtain⟨h1,h2⟩:=h.2.2 x (zM hx)
 obtain⟨j,rfl⟩:=Int.eq_ofNat_of_zero_le h1
 obtain⟨y,hy⟩:=zz (l:=sizes) (i:=j) z6
 exact⟨j,rfl,y,hy,h.2.1 y (zM hy)⟩
def uz(k:Int):Prop:=k=2∨k=3
noncomputable instance (k:Int):Decidable (uz k):=zC _
theorem sF(k:Int):y6 Tryz.prog 172 [it k] (.val (.bool (decide (uz k)))):=by
 refine zy.of pg ye Tryz.func172 rfl Tryz.ntmps172 Tryz.results172 rfl λh0 G0 O0=>?_
 repeat'(first|apply Sp.h|refine Lk.r rfl ?_|refine Rf.mk rfl ?_|refine xA ?_|refine xB ?_|apply Bd.mk|refine xN ?_|intro _)
 all_goals refine Fin.p rfl (vb ?_)
 all_goals first
  | exact zD.2 (by unfold uz;omega)
  | exact(zT (by unfold uz;omega)).symm
instance {a b:Int}:Inv vT [it a,it b] (a,b):=⟨rfl⟩
abbrev pm (b:Nat):AV:= .val (.pointer (some ⟨b,0,none⟩))
abbrev mR (b:Nat) (m:y8):yh:=yr b 30 (s_ m)
noncomputable instance (a b:yo):Decidable (a=b):=zC _
theorem jh(a b:yo):y6 Tryz.prog 243 [uL a,uL b] (.val (.bool (decide (a=b)))):=by
 refine zy.of pg ye Tryz.func243 rfl Tryz.ntmps243 Tryz.results243 rfl λh0 G0 O0=>?_
 repeat'(first|apply Sp.h|refine Lk.r rfl ?_|refine Rf.mk rfl ?_|refine xA ?_|refine xB ?_|apply Bd.mk|apply yc.mk|refine xT ?_|refine xN ?_|intro _)
 refine xQ (kg _ _) ?_
 repeat'(first|apply Sp.h|refine Lk.r rfl ?_|refine Rf.mk rfl ?_|refine xA ?_|refine xB ?_|apply Bd.mk|refine xT ?_|refine Ch.r ?_|refine xN ?_|refine xK ?_|(apply Kf.mk;{exact z7})|intro _)
 all_goals refine Fin.p rfl (vb ?_)
 ·refine zD.2 ⟨λh=>?_,λh=>by rw [h]⟩
  cases a;cases b;simp_all
 all_goals exact(zF (λh=>by subst h;first|contradiction|simp_all)).symm
def fc(e:yo):Prop:=e.gk=0/\e.gi=0/\e.ge=0/\e.ga=0/\e.to=0
def kO(e:yo):Prop:=pV e.action 0 255/\pV e.place 0 1024/\pV e.wx 1 1048576
def eT(e:yo):Prop:=pV e.gk 0 1/\pV e.ge 0 (if e.gk=1 then 5 else 0)/\pV e.gi 0 1023/\pV e.ga 1 1000000/\pV e.to 0 (e.yj.length - 1)/\e.to≠e.rep
def a7(e:yo):Prop:=pV e.place 1 1024/\pV e.wx 1 1048576
noncomputable instance (e:yo):Decidable (kO e):=zC _
noncomputable instance (e:yo):Decidable (eT e):=zC _
noncomputable instance (e:yo):Decidable (a7 e):=zC _
def ux(e:yo):Prop:=(e.kind=0/\kO e/\fc e)∨(e.kind=1/\eT e/\e.action=0/\e.place=0/\e.wx=0)∨(e.kind=2/\a7 e/\e.action=0/\fc e)
def we(e:yo):Prop:=vY e.yj/\0<=e.rep/\(∃x,e.yj[e.rep.toNat]?=some x/\e.num=x+1)/\e.num<=1024/\pV e.time 1 1073741824/\ux e
noncomputable instance (e:yo):Decidable (we e):=zC _
theorem TA(e:yo)(b:Nat)(c0 c1 c2 c3 c4 c5 c6 c7 c8 c9 MZ HG HF:AV) :
  zy Tryz.prog 266 [.val (.pointer (some ⟨b,0,none⟩)),.ad (uf e) 0] [yr b 66 [c0,c1,c2,c3,c4,c5,c6,c7,c8,c9,MZ,HG,HF]] λr own=>r= .val (.bool (decide (kO e)))/\own= [yr b 66 [c0,c1,c2,c3,c4,iv 0,c6,c7,c8,c9,MZ,iv 0,iv 0]]:=by
 refine zy.of pg ye Tryz.func266 rfl Tryz.ntmps266 Tryz.results266 rfl λh0 G0 O0=>?_
 repeat'(first|apply Sp.h|refine Lk.r rfl ?_|refine Rf.mk rfl ?_|refine xA ?_|refine xB ?_|(refine Bd.mk ?_ ?_ <;> intro _)|refine xT ?_|refine xV ?_|refine xN ?_|(apply Cl.p (ry _ _ _);focus repeat' constructor))
 all_goals refine⟨_,_,.one (.same (.z)),vb ?_,rfl⟩
 ·exact zD.2 ⟨λh=>⟨by assumption,by assumption,h⟩,λh=>h.2.2⟩
 all_goals exact(zF (λh=>by unfold kO at h;simp_all)).symm
theorem Tz(e:yo)(b:Nat)(c0 c1 c2 c3 c4 c5 c6 c7 c8 c9 MZ HG HF:AV)(hl:e.yj.length<=9223372036854775807) :
  zy Tryz.prog 267 [.val (.pointer (some ⟨b,0,none⟩)),.ad (uf e) 0] [yr b 66 [c0,c1,c2,c3,c4,c5,c6,c7,c8,c9,MZ,HG,HF]] λr own=>r= .val (.bool (decide (eT e)))/\own= [yr b 66 [c0,c1,c2,c3,c4,c5,iv 0,iv 0,iv 0,iv 0,iv 0,HG,HF]]:=by
 refine zy.of pg ye Tryz.func267 rfl Tryz.ntmps267 Tryz.results267 rfl λh0 G0 O0=>?_
 repeat'(first|apply Sp.h|refine Lk.r rfl ?_|refine Rf.mk rfl ?_|refine xA ?_|refine xB ?_|(refine Bd.mk ?_ ?_ <;> intro _)|refine Im.mk λ_=>?_|refine yc.mk λ_=>?_|refine xT ?_|refine Ch.r ?_|refine xV ?_|(apply y4.r;focus repeat' constructor)|(apply Fk.r;focus repeat' first|infer_instance|constructor)|refine xN ?_|refine xO ?_|(apply Cl.p (ry _ _ _);focus repeat' constructor))
 all_goals refine⟨_,_,.one (.same (.z)),vb ?_,rfl⟩
 all_goals first
  | exact(zF (by unfold eT;simp_all)).symm
  | exact zD.2 (by unfold eT;simp_all)
theorem Ty(e:yo)(b:Nat)(c0 c1 c2 c3 c4 c5 c6 c7 c8 c9 MZ HG HF:AV) :
  zy Tryz.prog 268 [.val (.pointer (some ⟨b,0,none⟩)),.ad (uf e) 0] [yr b 66 [c0,c1,c2,c3,c4,c5,c6,c7,c8,c9,MZ,HG,HF]] λr own=>r= .val (.bool (decide (a7 e)))/\own= [yr b 66 [c0,c1,c2,c3,c4,c5,c6,c7,c8,c9,MZ,iv 0,iv 0]]:=by
 refine zy.of pg ye Tryz.func268 rfl Tryz.ntmps268 Tryz.results268 rfl λh0 G0 O0=>?_
 repeat'(first|apply Sp.h|refine Lk.r rfl ?_|refine Rf.mk rfl ?_|refine xA ?_|refine xB ?_|(refine Bd.mk ?_ ?_ <;> intro _)|refine xT ?_|refine xV ?_|refine xN ?_|(apply Cl.p (ry _ _ _);focus repeat' constructor))
 all_goals refine⟨_,_,.one (.same (.z)),vb ?_,rfl⟩
 ·exact zD.2 ⟨λh=>⟨by assumption,h⟩,λh=>h.2⟩
 all_goals exact(zF (λh=>by unfold a7 at h;simp_all)).symm
abbrev HE (f:FuncId) (e:yo):AV:= .fn f [.ad (uf e) 0]
abbrev iQ (e:yo):List (List Int×AV):= [([0],HE 266 e),([1],HE 267 e),([2],HE 268 e)]
theorem P2(e:yo):zy Tryz.prog 242 [uL e] [] λr own=>∃M,r= .val (.map (some M))/\own= [vg Tryz.prog M 3 (iQ e) λa:AV=>a]:=by
 refine zy.of pg ye Tryz.func242 rfl Tryz.ntmps242 Tryz.results242 rfl λh0 G0 O0=>?_
 repeat'(first|apply Sp.h|refine Lk.r rfl ?_|refine Rf.mk rfl ?_|apply yc.mk|intro _)
 refine X2.r (λa:AV=>a) ?_
 refine⟨λM=>?_⟩
 apply OA.xt 1
 focus rfl
 focus(repeat constructor)
 repeat'(first|apply Sp.h|refine Lk.r rfl ?_|refine Rf.mk rfl ?_|refine xN ?_|(apply Kf.mk;{exact z7})|refine xM ?_|refine eo.r rfl ?_|fail)
 exact⟨_,_,.one (.same (.z)),_,rfl,rfl⟩
def Rb:yo:=⟨0,0,0,[],0,0,0,0,0,0,0,0,0⟩
theorem VI{e:yo}(h:e.kind=0):ux e↔kO e/\fc e:=by unfold ux;rw [h];simp
theorem Mj{e:yo}(h:e.kind=1):ux e↔eT e/\e.action=0/\e.place=0/\e.wx=0:=by unfold ux;rw [h];simp
theorem Mi{e:yo}(h:e.kind=2):ux e↔a7 e/\e.action=0/\fc e:=by unfold ux;rw [h];simp
theorem _root_.Go.CF.zi {p:Prop}(h:p:=by first|assumption|rfl):p:=h
theorem TB(e:yo):y6 Tryz.prog 204 [uL e] (.val (.bool (decide (we e)))):=by
 refine zy.of pg JN Tryz.func204 rfl Tryz.ntmps204 Tryz.results204 rfl λh0 G0 O0=>?_
 by_cases hr:0<=e.rep/\e.rep < e.yj.length
 ·obtain⟨x,hx⟩:=zz (l:=e.yj) (i:=e.rep.toNat) z6
  by_cases hv:vY e.yj
  ·have Zl:=hv.1 x (zM hx)
   unfold tg at Zl
   have YJ:=hv.2
   repeat'(first|apply Sp.h|refine Lk.r rfl ?_|refine Rf.mk rfl ?_|refine xA ?_|refine xB ?_|(refine Bd.mk ?_ ?_ <;> intro _)|refine yu.r rfl ?_|refine Im.mk λ_=>?_|refine yc.mk λ_=>?_|refine xT ?_|(apply Ix.r;{exact z8};{exact z6})|refine Ch.l ⟨rfl,rfl⟩ ?_|refine xN ?_|refine xD ?_|refine xO ?_|(apply Cl.p (ry _ _ _);focus repeat' constructor)|(apply Cl.p (uC _);focus repeat' constructor))
   all_goals try exact Fin.p rfl (vb (zF (λ⟨h1,h2,⟨y,hy,h3⟩,h4,h5,h6⟩=>by rw [hx] at hy;cases hy;first|contradiction|(unfold pV at *;omega))).symm)
   rename_i q_ rC hb3 hb4
   have hF:we e↔ux e:=⟨λh=>h.2.2.2.2.2,λh=>⟨hv,hr.1,⟨x,hx,rC⟩,z6,hb4,h⟩⟩
   refine xW (P2 e) ?_
   rintro _ _ ⟨M,rfl,rfl⟩
   by_cases kx:e.kind=0
   ·have hl:yG (iQ e) [e.kind]=some (HE 266 e):=by rw [kx];rfl
    repeat'(first|apply Sp.h|refine Lk.r rfl ?_|refine Rf.mk rfl ?_|refine xA ?_|refine yu.r rfl ?_|apply yc.mk|refine xT ?_|refine Ch.r ?_|(apply y4.r;focus repeat' constructor)|(apply Fk.r;focus repeat' first|infer_instance|constructor)|refine xN ?_|(apply Kf.mk;{exact z7})|refine xM ?_|(apply sf.s;{exact zi})|intro _)
    refine xW (TA e _ _ _ _ _ _ _ _ _ _ _ _ _ _) ?_
    rintro _ _ ⟨rfl,rfl⟩
    repeat'(first|apply Sp.h|refine Lk.r rfl ?_|refine Rf.mk rfl ?_|refine xA ?_|refine xB ?_|apply Bd.mk|refine xT ?_|refine Ch.l ⟨rfl,rfl⟩ ?_|(apply Fk.r;focus repeat' first|infer_instance|constructor)|refine xN ?_|intro _)
    ·(apply Cl.p (jh { Rb with gk:=e.gk,gi:=e.gi,ge:=e.ge,ga:=e.ga,to:=e.to } Rb);(focus repeat'(first|exact y3.nil|apply y3.yB|apply y3.vC|apply y3.agg|fail)))
     repeat'(first|apply Sp.h|refine Lk.r rfl ?_|refine xA ?_|refine xN ?_|fail)
     exact Fin.p rfl (vb (zD.2 ((by simp [Rb,fc, *]:_↔kO e/\fc e).trans ((VI kx).symm.trans hF.symm))))
    ·exact Fin.p rfl (vb (zF (λh=>by have:=(VI kx).1 (hF.1 h);simp_all)).symm)
   by_cases WU:e.kind=1
   ·have hl:yG (iQ e) [e.kind]=some (HE 267 e):=by rw [WU];rfl
    have kq:e.yj.length<=9223372036854775807:=z6
    repeat'(first|apply Sp.h|refine Lk.r rfl ?_|refine Rf.mk rfl ?_|refine xA ?_|refine yu.r rfl ?_|apply yc.mk|refine xT ?_|refine Ch.r ?_|(apply y4.r;focus repeat' constructor)|(apply Fk.r;focus repeat' first|infer_instance|constructor)|refine xN ?_|(apply Kf.mk;{exact z7})|refine xM ?_|(apply sf.s;{exact zi})|intro _)
    refine xW (Tz e _ _ _ _ _ _ _ _ _ _ _ _ _ _ kq) ?_
    rintro _ _ ⟨rfl,rfl⟩
    repeat'(first|apply Sp.h|refine Lk.r rfl ?_|refine Rf.mk rfl ?_|refine xA ?_|refine xB ?_|apply Bd.mk|refine xT ?_|refine Ch.l ⟨rfl,rfl⟩ ?_|(apply Fk.r;focus repeat' first|infer_instance|constructor)|refine xN ?_|intro _)
    ·(apply Cl.p (jh { Rb with action:=e.action,place:=e.place,wx:=e.wx } Rb);(focus repeat'(first|exact y3.nil|apply y3.yB|apply y3.vC|apply y3.agg|fail)))
     repeat'(first|apply Sp.h|refine Lk.r rfl ?_|refine xA ?_|refine xN ?_|fail)
     exact Fin.p rfl (vb (zD.2 ((by simp [Rb, *]:_↔eT e/\e.action=0/\e.place=0/\e.wx=0).trans ((Mj WU).symm.trans hF.symm))))
    ·exact Fin.p rfl (vb (zF (λh=>by have:=(Mj WU).1 (hF.1 h);simp_all)).symm)
   by_cases lK:e.kind=2
   ·have hl:yG (iQ e) [e.kind]=some (HE 268 e):=by rw [lK];rfl
    repeat'(first|apply Sp.h|refine Lk.r rfl ?_|refine Rf.mk rfl ?_|refine xA ?_|refine yu.r rfl ?_|apply yc.mk|refine xT ?_|refine Ch.r ?_|(apply y4.r;focus repeat' constructor)|(apply Fk.r;focus repeat' first|infer_instance|constructor)|refine xN ?_|(apply Kf.mk;{exact z7})|refine xM ?_|(apply sf.s;{exact zi})|intro _)
    refine xW (Ty e _ _ _ _ _ _ _ _ _ _ _ _ _ _) ?_
    rintro _ _ ⟨rfl,rfl⟩
    repeat'(first|apply Sp.h|refine Lk.r rfl ?_|refine Rf.mk rfl ?_|refine xA ?_|refine xB ?_|apply Bd.mk|refine xT ?_|refine Ch.l ⟨rfl,rfl⟩ ?_|(apply Fk.r;focus repeat' first|infer_instance|constructor)|refine xN ?_|intro _)
    ·(apply Cl.p (jh { Rb with action:=e.action,gk:=e.gk,gi:=e.gi,ge:=e.ge,ga:=e.ga,to:=e.to } Rb);(focus repeat'(first|exact y3.nil|apply y3.yB|apply y3.vC|apply y3.agg|fail)))
     repeat'(first|apply Sp.h|refine Lk.r rfl ?_|refine xA ?_|refine xN ?_|fail)
     exact Fin.p rfl (vb (zD.2 ((by simp [Rb,fc, *]:_↔a7 e/\e.action=0/\fc e).trans ((Mi lK).symm.trans hF.symm))))
    ·exact Fin.p rfl (vb (zF (λh=>by have:=(Mi lK).1 (hF.1 h);simp_all)).symm)
   ·have hl:yG (iQ e) [e.kind]=none:=by
     simp only [yG,iQ,List.find?_cons,List.find?_nil]
     simp [Ne.symm kx,Ne.symm WU,Ne.symm lK]
    repeat'(first|apply Sp.h|refine Lk.r rfl ?_|refine Rf.mk rfl ?_|refine xB ?_|refine yu.r rfl ?_|refine xN ?_|(apply Kf.mk;{exact z7})|refine xM ?_|apply Zx.one|(apply sf.n;{exact zi})|fail)
    exact Fin.p rfl (vb (zF (λh=>by have:=hF.1 h;unfold ux at this;omega)).symm)
  ·repeat'(first|apply Sp.h|refine Lk.r rfl ?_|refine Rf.mk rfl ?_|refine xB ?_|refine yu.r rfl ?_|refine yc.mk λ_=>?_|refine xT ?_|refine xN ?_|refine xD ?_|(apply Cl.p (uC _);focus repeat' constructor))
   exact Fin.p rfl (vb (zF (λh=>hv h.1)).symm)
 ·have Zq:¬pV e.rep 0 (e.yj.length - 1):=by unfold pV;omega
  by_cases hv:vY e.yj
  ·have YJ:=hv.2
   repeat'(first|apply Sp.h|refine Lk.r rfl ?_|refine Rf.mk rfl ?_|refine xA ?_|refine xB ?_|refine yu.r rfl ?_|refine Im.mk λ_=>?_|refine yc.mk λ_=>?_|refine xT ?_|refine xN ?_|refine xD ?_|refine xO ?_|(apply Cl.p (ry _ _ _);focus repeat' constructor)|(apply Cl.p (uC _);focus repeat' constructor))
   all_goals exact Fin.p rfl (vb (zF (λ⟨h1,h2,⟨y,hy,h3⟩,_⟩=>by have:=(zS.1 hy).1;omega)).symm)
  ·repeat'(first|apply Sp.h|refine Lk.r rfl ?_|refine Rf.mk rfl ?_|refine xB ?_|refine yu.r rfl ?_|refine yc.mk λ_=>?_|refine xT ?_|refine xN ?_|refine xD ?_|(apply Cl.p (uC _);focus repeat' constructor))
   exact Fin.p rfl (vb (zF (λh=>hv h.1)).symm)
def FJ(a b:List Int):Prop:=w9 [a,b]/\Ins a b
def nm(e:yo):List Int:= [e.rep,e.num]
def Dep(l:List yo)(e:yo)(r:Nat)(n:Int):Prop:=∀i:Int,1<=i->i<=n->∃x∈l,x.rep=r/\x.num=i/\FJ x.yj e.yj/\x.time < e.time
def RH(l:List yo):Prop:=∀(i j:Nat) (a b:yo),l[i]?=some a->l[j]?=some b->nm a=nm b->i=j
def n0(l:List yo):Nat:=(l[0]?.map λe=>e.yj.length).getD 0
def ta(l:List yo):Prop:=l.length<=1024/\RH l/\(∀e∈l,we e/\e.yj.length=n0 l)/\∀e∈l,∀(r:Nat) (n:Int),e.yj[r]?=some n->Dep l e r n
theorem RH.eq{l:List yo}(h:RH l){a b:yo}(ha:a∈l)(hb:b∈l)(he:nm a=nm b):a=b:=by
 obtain⟨i,hi⟩:=zO ha
 obtain⟨j,hj⟩:=zO hb
 have:=h i j a b hi hj he
 subst this
 rw [hi] at hj;cases hj;rfl
theorem lj{α:Type}{l:List α}{p:α->Bool}{i:Nat}{x:α}(h:l[i]?=some x):(l.take (i+1)).filter p=(l.take i).filter p ++ if p x then [x] else []:=by
 rw [zK,h]
 cases hp:p x <;> simp [hp]
noncomputable def p_(n:Nat)(l:List yo):List Int:=l.foldl (λc e=>c.set e.rep.toNat (max (c[e.rep.toNat]?.getD 0) e.num)) (List.replicate n 0)
theorem sb(n:Nat)(l:List yo):(p_ n l).length=n:=by
 unfold p_
 have:∀(l:List yo) (c:List Int),(l.foldl (λc e=>c.set e.rep.toNat (max (c[e.rep.toNat]?.getD 0) e.num)) c).length=c.length:=by
  intro l
  induction l with
  | nil=>intro c;rfl
  | cons a l ih=>intro c;rw [List.foldl_cons,ih,zY]
 rw [this,zR]
theorem z2c(n:Nat){l:List yo}{i:Nat}{e:yo}(he:l[i]?=some e){y:Int}(hy:(p_ n (l.take i))[e.rep.toNat]?=some y):p_ n (l.take (i+1))=(p_ n (l.take i)).set e.rep.toNat (max y e.num):=by
 rw [zK,he,p_,List.foldl_append]
 change List.set _ _ (max ((p_ n (l.take i))[e.rep.toNat]?.getD 0) e.num)=_
 rw [hy]
 rfl
theorem z2C{e:yo}(h:we e):e.rep.toNat < e.yj.length:=by
 obtain⟨x,hx,-⟩:=h.2.2.1
 exact(zS.1 hx).1
theorem BS(a b c d:Int):[a,b,c,d]= [0,0,0,0]↔a=0/\b=0/\c=0/\d=0:=by simp
theorem aW(e:yo):ux e↔
  (e.kind=0/\0<=e.action/\e.action<=255/\0<=e.place/\e.place<=1024/\1<=e.wx/\e.wx<=1048576/\e.gk=0/\e.gi=0/\e.ge=0/\e.ga=0/\e.to=0)∨
  (e.kind=1/\((e.gk=0/\e.ge=0)∨(e.gk=1/\0<=e.ge/\e.ge<=5))/\0<=e.gi/\e.gi<=1023/\1<=e.ga/\e.ga<=1000000/\0<=e.to/\e.to<=e.yj.length - 1/\e.to≠e.rep/\e.action=0/\e.place=0/\e.wx=0)∨
  (e.kind=2/\1<=e.place/\e.place<=1024/\1<=e.wx/\e.wx<=1048576/\e.action=0/\e.gk=0/\e.gi=0/\e.ge=0/\e.ga=0/\e.to=0):=by
 unfold ux
 refine or_congr ?_ (or_congr (and_congr_right λ_=>?_) ?_)
 ·unfold kO fc pV;simp only [and_assoc]
 ·unfold eT pV
  by_cases h:e.gk=1
  ·rw [if_pos h];omega
  ·rw [if_neg h];omega
 ·unfold a7 fc pV;simp only [and_assoc]
theorem mD(e:yo):y6 Tryz.prog 73 [uL e] (.val (.bool (decide (we e)))):=by
 refine zy.of pg EB Tryz.func73 rfl Tryz.ntmps73 Tryz.results73 rfl λh0 G0 O0=>?_
 by_cases hv:vY e.yj
 ·have YJ:=hv.2
  by_cases hr:0<=e.rep/\e.rep < e.yj.length
  ·obtain⟨x,hx⟩:=zz (l:=e.yj) (i:=e.rep.toNat) z6
   have Zl:=hv.1 x (zM hx)
   unfold tg at Zl
   have R0:=hr.1
   have bj:=hr.2
   by_cases hb:e.num=x+1/\e.num<=1024/\pV e.time 1 1073741824
   ·have hF:we e↔ux e:=⟨λh=>h.2.2.2.2.2,λh=>⟨hv,hr.1,⟨x,hx,hb.1⟩,hb.2.1,hb.2.2,h⟩⟩
    obtain⟨q_,rC,hb3,hb4⟩:=hb
    repeat'(first|apply Sp.h|refine Lk.r rfl ?_|refine Rf.mk rfl ?_|refine xA ?_|refine xB ?_|(refine Bd.mk ?_ ?_ <;> intro _)|refine yu.r rfl ?_|refine Im.mk λ_=>?_|refine yc.mk λ_=>?_|refine xT ?_|(apply Ix.r;{exact z8};{exact z6})|refine Ch.r ?_|(apply y4.r;focus repeat' constructor)|(apply Fk.r;focus repeat' first|infer_instance|constructor)|refine xN ?_|refine xK ?_|(apply Kf.mk;{exact z7})|refine xD ?_|refine xO ?_|(apply Cl.p (uB _);focus repeat' constructor))
    all_goals try simp only [BS] at *
    all_goals refine Fin.p rfl (vb ?_)
    all_goals first|refine zD.2 (Iff.trans ?_ hF.symm)|refine(zT (hF.2 ?_)).symm|refine(zF (λh=>(?_:¬ux e) (hF.1 h))).symm
    all_goals rw [aW];omega
   ·unfold pV at hb
    repeat'(first|apply Sp.h|refine Lk.r rfl ?_|refine Rf.mk rfl ?_|refine xA ?_|refine xB ?_|(refine Bd.mk ?_ ?_ <;> intro _)|refine yu.r rfl ?_|refine Im.mk λ_=>?_|refine yc.mk λ_=>?_|refine xT ?_|(apply Ix.r;{exact z8};{exact z6})|refine xN ?_|refine xD ?_|refine xO ?_|(apply Cl.p (uB _);focus repeat' constructor))
    all_goals exact Fin.p rfl (vb (zF (λ⟨h1,h2,⟨y,hy,h3⟩,h4,⟨h5,h6⟩,_⟩=>by rw [hx] at hy;cases hy;omega)).symm)
  ·repeat'(first|apply Sp.h|refine Lk.r rfl ?_|refine Rf.mk rfl ?_|refine xA ?_|refine xB ?_|(refine Bd.mk ?_ ?_ <;> intro _)|refine yu.r rfl ?_|refine Im.mk λ_=>?_|refine yc.mk λ_=>?_|refine xT ?_|refine xN ?_|refine xD ?_|(apply Cl.p (uB _);focus repeat' constructor))
   all_goals exact Fin.p rfl (vb (zF (λ⟨h1,h2,⟨y,hy,h3⟩,_⟩=>by have:=(zS.1 hy).1;omega)).symm)
 ·repeat'(first|apply Sp.h|refine Lk.r rfl ?_|refine Rf.mk rfl ?_|refine xB ?_|refine yu.r rfl ?_|refine yc.mk λ_=>?_|refine xT ?_|refine xN ?_|refine xD ?_|(apply Cl.p (uB _);focus repeat' constructor))
  all_goals exact Fin.p rfl (vb (zF (λh=>hv h.1)).symm)
theorem uF(k:Int):y6 Tryz.prog 145 [it k] (.val (.bool (decide (yi k)))):=by
 refine zy.of pg ye Tryz.func145 rfl Tryz.ntmps145 Tryz.results145 rfl λh0 G0 O0=>?_
 repeat'(first|apply Sp.h|refine Lk.r rfl ?_|refine Rf.mk rfl ?_|refine xA ?_|refine xB ?_|apply Bd.mk|refine xN ?_|intro _)
 all_goals refine Fin.p rfl (vb ?_)
 all_goals first
  | exact zD.2 (by unfold yi;omega)
  | exact(zT (by unfold yi;omega)).symm
theorem s8{sizes ya:List Int}(h:uO sizes ya)(i:Nat):1<=wD sizes (ya.take i)/\wD sizes (ya.take i)<=216:=by
 have hp:=sG h.2.1 (ya.take i)
 have eO:∀n:Nat,n<=3->(6:Int) ^ n<=216:=λn hn=>by match n,hn with | 0,_=>decide | 1,_=>decide | 2,_=>decide | 3,_=>decide
 have:=eO _ (show(ya.take i).length<=3 by rw [zN];have:=h.1;omega)
 omega
theorem XQ{sizes ya:List Int}(h:uO sizes ya):1<=wD sizes ya/\wD sizes ya<=216:=by
 have:=s8 h ya.length
 rwa [zL] at this
theorem dD(m:y8)(t:ym)(h:uO m.y9 t.ya):y6 Tryz.prog 146 [wH m,.agg (v8 t)] (it (wD m.y9 t.ya)):=by
 refine zy.of pg JV Tryz.func146 rfl Tryz.ntmps146 Tryz.results146 rfl λh0 G0 O0=>?_
 repeat'(first|apply Sp.h|refine Lk.r rfl ?_|refine Rf.mk rfl ?_|apply yc.mk|intro _)
 rename_i b2 b3
 refine CA.loop (λi:Nat=>⟨[(2,pm b2),(3,pm b3),(5,it (wD m.y9 (t.ya.take i))),(6,it i)],[yr b3 150 (v8 t),mR b2 m]⟩) (λi=>i<=t.ya.length) (λi=>t.ya.length - i) 0 xE (zZ _) ?_
 intro i hi
 by_cases yd:i < t.ya.length
 ·obtain⟨x,hx⟩:=zz yd
  obtain⟨j,rfl,y,hy,PQ,DX⟩:=ni h hx
  have hb:=rv hx (show m.y9[((j:Int)).toNat]?=some y by simpa using hy)
  have hp:=s8 h i
  have kr:=s8 h (i+1)
  rw [hb] at kr
  have hj:=(zS.1 hy).1
  repeat'(first|apply Sp.h|refine Lk.r rfl ?_|refine Rf.mk rfl ?_|refine xA ?_|refine xB ?_|refine yu.r rfl ?_|refine xP ?_|apply Im.mk|refine xT ?_|refine xI ?_|refine xD ?_|refine xO ?_|intro _)
  rw [<-hb]
  exact PA.lp (i+1) xE ⟨yd,z6⟩
 ·have:i=t.ya.length:=z6
  subst this
  simp only [zL]
  repeat'(first|apply Sp.h|refine Lk.r rfl ?_|refine Rf.mk rfl ?_|refine xB ?_|apply Im.mk|refine xT ?_|refine xN ?_|intro _)
  exact Fin.p rfl rfl
def jM(m:y8)(t:ym):Nat:=(wD m.y9 t.ya).toNat
noncomputable def sN(m:y8)(l:List ym):Nat:=(l.map λt=>if yi t.kind then jM m t else 0).sum
noncomputable def tM(m:y8)(l:List ym):List ym:=l.flatMap λt=>if yi t.kind then [] else List.replicate (jM m t) t
noncomputable def xk(m:y8):Nat:=sN m m.tables
noncomputable def yw(m:y8):List ym:=tM m m.tables
theorem sX{m:y8}{t:ym}(h:uO m.y9 t.ya):(wD m.y9 t.ya=(jM m t:Nat))/\jM m t<=216/\1<=jM m t:=by
 have:=XQ h
 unfold jM
 omega
theorem mv{m:y8}{l:List ym}{i:Nat}{t:ym}(h:l[i]?=some t):sN m (l.take (i+1))=sN m (l.take i)+if yi t.kind then jM m t else 0:=by
 unfold sN;rw [zK,h];simp
theorem pf{m:y8}{l:List ym}{i:Nat}{t:ym}(h:l[i]?=some t):tM m (l.take (i+1))=tM m (l.take i) ++ if yi t.kind then [] else List.replicate (jM m t) t:=by
 unfold tM;rw [zK,h];simp
theorem Y2{m:y8}(hm:xS m.y9 m.tables) :∀i,i<=m.tables.length->sN m (m.tables.take i)<=216 * i:=by
 intro i
 induction i with
 | zero=>simp [sN]
 | succ i ih =>
  intro hi
  obtain⟨t,ht⟩:=zz (l:=m.tables) (i:=i) z6
  have h1:=sX (m:=m) (hm.2.2.2 t (zM ht)).1
  have:=ih z6
  rw [mv ht]
  split <;> omega
theorem fP{m:y8}(hm:xS m.y9 m.tables) :∀i,i<=m.tables.length->(tM m (m.tables.take i)).length<=216 * i:=by
 intro i
 induction i with
 | zero=>simp [tM]
 | succ i ih =>
  intro hi
  obtain⟨t,ht⟩:=zz (l:=m.tables) (i:=i) z6
  have h1:=sX (m:=m) (hm.2.2.2 t (zM ht)).1
  have:=ih z6
  rw [pf ht]
  split <;> simp <;> omega
theorem aH(m:y8)(hm:xS m.y9 m.tables):y6 Tryz.prog 80 [wH m] (it (xk m:Nat)):=by
 have ly:=hm.2.2.1
 refine zy.of pg Ez Tryz.func80 rfl Tryz.ntmps80 Tryz.results80 rfl λh0 G0 O0=>?_
 repeat'(first|apply Sp.h|refine Lk.r rfl ?_|refine Rf.mk rfl ?_|apply yc.mk|intro _)
 rename_i b1
 refine CA.loop (λi:Nat=>⟨[(1,pm b1),(3,it (sN m (m.tables.take i):Nat)),(4,it i)],[mR b1 m]⟩) (λi=>i<=m.tables.length) (λi=>m.tables.length - i) 0 xE (zZ _) ?_
 intro i hi
 by_cases yd:i < m.tables.length
 ·obtain⟨t,ht⟩:=zz yd
  have hc:=(hm.2.2.2 t (zM ht)).1
  have h1:=sX (m:=m) hc
  have hs:=dD m t hc
  have hn:=Y2 hm i hi
  have xe:=mv (m:=m) ht
  rw [h1.1] at hs
  by_cases yL:yi t.kind
  ·rw [if_pos yL] at xe
   repeat'(first|apply Sp.h|refine Lk.r rfl ?_|refine Rf.mk rfl ?_|refine xA ?_|refine yu.r rfl ?_|refine Im.mk λ_=>?_|refine xT ?_|refine xI ?_|refine Ch.l ⟨rfl,rfl⟩ ?_|refine xD ?_|refine xO ?_|(apply Cl.p (uF _);focus repeat' constructor)|(apply Cl.p (hs);focus repeat' constructor))
   rw [show((sN m (m.tables.take i):Nat):Int)+(jM m t:Nat)=(sN m (m.tables.take (i+1)):Nat) by omega]
   exact PA.lp (i+1) xE ⟨yd,z6⟩
  ·rw [if_neg yL] at xe
   repeat'(first|apply Sp.h|refine Lk.r rfl ?_|refine Rf.mk rfl ?_|refine xA ?_|refine xB ?_|refine Im.mk λ_=>?_|refine xT ?_|refine xI ?_|refine xO ?_|(apply Cl.p (uF _);focus repeat' constructor)|(apply Cl.p (hs);focus repeat' constructor))
   rw [show sN m (m.tables.take i)=sN m (m.tables.take (i+1)) by omega]
   exact PA.lp (i+1) xE ⟨yd,z6⟩
 ·have:i=m.tables.length:=z6
  subst this
  simp only [zL]
  repeat'(first|apply Sp.h|refine Lk.r rfl ?_|refine Rf.mk rfl ?_|refine xB ?_|apply Im.mk|refine xT ?_|refine xN ?_|intro _)
  exact Fin.p rfl rfl
theorem aQ(m:y8)(hm:xS m.y9 m.tables):tJ Tryz.prog 81 [wH m] 150 6 (yw m) v8:=by
 have ly:=hm.2.2.1
 refine zy.of pg Ey Tryz.func81 rfl Tryz.ntmps81 Tryz.results81 rfl λh0 G0 O0=>?_
 repeat'(first|apply Sp.h|refine Lk.r rfl ?_|refine Rf.mk rfl ?_|apply yc.mk|(apply Fk.r;focus repeat' first|infer_instance|constructor)|refine Rf.mk ⟨rfl,rfl,rfl⟩ ?_|intro _)
 rename_i b1 v
 apply CA.yR (m:=([]:List ym)) (g:=v8)
 focus(repeat constructor)
 focus rfl
 refine CA.loop (λx:Nat×Value=>⟨[(1,pm b1),(3,.ow x.2),(4,it x.1)],[mR b1 m,yb x.2 150 6 (tM m (m.tables.take x.1)) v8]⟩) (λx=>x.1<=m.tables.length) (λx=>m.tables.length - x.1) (0,v) xE (zZ _) ?_
 rintro⟨i,v⟩ hi
 simp only at hi
 simp only
 by_cases yd:i < m.tables.length
 ·obtain⟨t,ht⟩:=zz yd
  have hc:=(hm.2.2.2 t (zM ht)).1
  have h1:=sX (m:=m) hc
  have hs:=dD m t hc
  have hn:=fP hm i hi
  have xe:=pf (m:=m) ht
  rw [h1.1] at hs
  repeat'(first|apply Sp.h|refine Lk.r rfl ?_|refine Rf.mk rfl ?_|refine xA ?_|apply Im.mk|refine xT ?_|intro _)
  refine CA.loop (λx:Nat×Value=>⟨[(1,pm b1),(3,.ow x.2),(4,it i),(5,it x.1)],[mR b1 m,yb x.2 150 6 (tM m (m.tables.take i) ++ List.replicate x.1 t) v8]⟩) (λx=>x.1<=jM m t/\(yi t.kind->x.1=0)) (λx=>jM m t - x.1) (0,v) ?_ ⟨zZ _,λ_=>rfl⟩ ?_
  ·simp only [List.replicate_zero,List.append_nil]
   exact xE
  rintro⟨k,v⟩ ⟨hk,kx⟩
  simp only at hk kx
  simp only
  by_cases yL:yi t.kind
  ·have kx:=kx yL
   subst kx
   rw [if_pos yL,List.append_nil] at xe
   simp only [List.replicate_zero,List.append_nil]
   repeat'(first|apply Sp.h|refine Lk.r rfl ?_|refine Rf.mk rfl ?_|refine xA ?_|refine yu.r rfl ?_|refine xT ?_|refine xI ?_|refine Ch.l ⟨rfl,rfl⟩ ?_|refine xD ?_|refine xO ?_|(apply Cl.p (uF _);focus repeat' constructor)|(apply Cl.p (hs);focus repeat' constructor))
   rw [<-xe]
   exact PA.lp (i+1,v) xE ⟨yd,by simp only;omega⟩
  ·rw [if_neg yL] at xe
   by_cases rz:k < jM m t
   ·repeat'(first|apply Sp.h|refine Lk.r rfl ?_|refine Rf.mk rfl ?_|refine xA ?_|refine xB ?_|refine yu.r rfl ?_|refine xP ?_|refine yc.mk λ_=>?_|refine xU ?_|refine xT ?_|refine xI ?_|refine Ce.r ?_|refine Ch.l ⟨rfl,rfl⟩ ?_|(apply Fk.r;focus repeat' first|infer_instance|constructor)|refine Rf.mk ⟨rfl,rfl⟩ ?_|refine Rf.mk ⟨rfl,rfl,rfl⟩ ?_|(apply Mp.lit;(focus repeat(first|exact yK.nil|(apply yK.cons;{exact zu})|(apply yK.inv;{exact z1};{exact zh}))))|refine xD ?_|refine xO ?_|(apply Cl.p (uF _);focus repeat' constructor)|(apply Cl.p (hs);focus repeat' constructor))
    rw [List.append_assoc,show List.replicate k t ++ [t]=List.replicate (k+1) t from List.replicate_succ'.symm]
    exact PA.lp (k+1,_) xE ⟨⟨rz,λh=>absurd h yL⟩,by simp only;omega⟩
   ·have mO:k=jM m t:=z6
    subst mO
    rw [<-xe]
    repeat'(first|apply Sp.h|refine Lk.r rfl ?_|refine Rf.mk rfl ?_|refine xB ?_|refine yu.r rfl ?_|refine xT ?_|refine xI ?_|refine Ch.l ⟨rfl,rfl⟩ ?_|refine xD ?_|refine xO ?_|(apply Cl.p (uF _);focus repeat' constructor)|(apply Cl.p (hs);focus repeat' constructor))
    exact PA.lp (i+1,v) xE ⟨yd,by simp only;omega⟩
 ·have:i=m.tables.length:=z6
  subst this
  simp only [zL]
  repeat'(first|apply Sp.h|refine Lk.r rfl ?_|refine Rf.mk rfl ?_|refine xB ?_|apply Im.mk|refine xT ?_|refine xN ?_|intro _)
  exact⟨_,_,.one (.same (.z)),_,rfl,rfl⟩
theorem lX{m:y8}(hm:xS m.y9 m.tables):(yw m).length<=2592:=by
 have:=fP hm m.tables.length (Nat.le_refl _)
 rw [zL] at this
 have:=hm.2.2.1
 unfold yw
 omega
theorem oq(m:y8)(hm:xS m.y9 m.tables):y6 Tryz.prog 81 [wH m] (xG (yw m)) :=
 zy.fz (by have:=lX hm;omega) (aQ m hm)
def z0u(l:List yo):Prop:=l.length<=60/\∀e∈l,e.yj.length<=8
structure DE (m:y8) (x:iA):Prop where
 dl:x.delta.length<=128
 hl:x.hold.length<=8
 ul:x.yk.length<=32
 d:∀p∈x.delta,0<=p.1/\p.1 < (xk m:Nat)
 u:∀p∈x.yk,0<=p.2.1/\p.2.1 < ((yw m).length:Nat)
structure nR (m:y8):Prop where
 lay:xS m.y9 m.tables
 ops:m.ops.length<=8
 yP:m.yP.length<=256
 xu:∀a∈m.yP,DE m a.xu
 str:xk m<=128
 Sq:(yw m).length<=64
theorem Pn(m:y8)(hm:xS m.y9 m.tables):tJ Tryz.prog 154 [wH m] 150 6 (yw m) v8:=by
 have ly:=hm.2.2.1
 refine zy.of pg ye Tryz.func154 rfl Tryz.ntmps154 Tryz.results154 rfl λh0 G0 O0=>?_
 repeat'(first|apply Sp.h|refine Lk.r rfl ?_|refine Rf.mk rfl ?_|apply Im.mk|apply yc.mk|refine xT ?_|intro _)
 rename_i b1 _
 refine CA.uV 3 150 6 v8 rfl λv=>?_
 refine CA.loop (λx:Nat×Value=>⟨[(1,pm b1),(3,.ow x.2),(10,xG m.tables),(11,it (m.tables.length:Nat)),(12,it x.1)],[mR b1 m,yb x.2 150 6 (tM m (m.tables.take x.1)) v8]⟩) (λx=>x.1<=m.tables.length) (λx=>m.tables.length - x.1) (0,v) xE (zZ _) ?_
 rintro⟨i,v⟩ hi
 simp only at hi
 simp only
 by_cases yd:i < m.tables.length
 ·obtain⟨t,ht⟩:=zz yd
  have hc:=(hm.2.2.2 t (zM ht)).1
  have h1:=sX (m:=m) hc
  have hn:=fP hm i hi
  have xe:=pf (m:=m) ht
  by_cases yL:yi t.kind
  ·rw [if_pos yL,List.append_nil] at xe
   unfold yi at yL
   repeat'(first|apply Sp.h|refine Lk.r rfl ?_|refine Rf.mk rfl ?_|refine xA ?_|refine xB ?_|apply Bd.mk|apply yc.mk|refine xT ?_|refine xI ?_|refine Ch.l ⟨rfl,rfl⟩ ?_|(apply y4.r;focus repeat' constructor)|refine xN ?_|refine xO ?_|intro _)
   all_goals rw [<-xe]
   all_goals exact PA.lp (i+1,v) xE ⟨yd,by simp only;omega⟩
  ·rw [if_neg yL] at xe
   unfold yi at yL
   repeat'(first|apply Sp.h|refine Lk.r rfl ?_|refine Rf.mk rfl ?_|refine xA ?_|refine xB ?_|apply Im.mk|apply yc.mk|refine xT ?_|refine xI ?_|refine Ch.l ⟨rfl,rfl⟩ ?_|(apply y4.r;focus repeat' constructor)|refine xN ?_|intro _)
   rename_i b5 _
   refine CA.loop (λk:Nat=>⟨[(1,pm b1),(3,.ow v),(5,pm b5),(6,it (wD m.y9 (t.ya.take k))),(10,xG m.tables),(11,it (m.tables.length:Nat)),(12,it i),(25,ints t.ya),(26,it (t.ya.length:Nat)),(27,it k)],[mR b1 m,yb v 150 6 (tM m (m.tables.take i)) v8,yr b5 150 (v8 t)]⟩) (λk=>k<=t.ya.length) (λk=>t.ya.length - k) 0 xE (zZ _) ?_
   intro k hk
   by_cases rz:k < t.ya.length
   ·obtain⟨x,hx⟩:=zz rz
    obtain⟨j,rfl,y,hy,PQ,DX⟩:=ni hc hx
    have hb:=rv hx (show m.y9[((j:Int)).toNat]?=some y by simpa using hy)
    have hp:=s8 hc k
    have kr:=s8 hc (k+1)
    rw [hb] at kr
    have hj:=(zS.1 hy).1
    repeat'(first|apply Sp.h|refine Lk.r rfl ?_|refine Rf.mk rfl ?_|refine xA ?_|refine xP ?_|refine xT ?_|refine xI ?_|refine xO ?_|fail)
    rw [<-hb]
    exact PA.lp (k+1) xE ⟨rz,z6⟩
   have mO:k=t.ya.length:=z6
   subst mO
   simp only [zL]
   rw [h1.1]
   repeat'(first|apply Sp.h|refine Lk.r rfl ?_|refine Rf.mk rfl ?_|refine xB ?_|fail)
   refine CA.loop (λx:Nat×Value=>⟨[(1,pm b1),(3,.ow x.2),(5,pm b5),(10,xG m.tables),(11,it (m.tables.length:Nat)),(12,it i),(39,it (jM m t:Nat)),(40,it x.1)],[mR b1 m,yb x.2 150 6 (tM m (m.tables.take i) ++ List.replicate x.1 t) v8,yr b5 150 (v8 t)]⟩) (λx=>x.1<=jM m t) (λx=>jM m t - x.1) (0,v) ?_ (zZ _) ?_
   ·simp only [List.replicate_zero,List.append_nil]
    exact xE
   rintro⟨q,v⟩ hq
   simp only at hq
   simp only
   by_cases H_:q < jM m t
   ·repeat'(first|apply Sp.h|refine Lk.r rfl ?_|refine Rf.mk rfl ?_|refine xA ?_|refine xP ?_|apply yc.mk|refine xU ?_|refine xT ?_|refine Ce.r ?_|refine Ch.l ⟨rfl,rfl⟩ ?_|(apply Fk.r;focus repeat' first|infer_instance|constructor)|refine Rf.mk ⟨rfl,rfl⟩ ?_|refine Rf.mk ⟨rfl,rfl,rfl⟩ ?_|(apply Mp.lit;(focus repeat(first|exact yK.nil|(apply yK.cons;{exact zu})|(apply yK.inv;{exact z1};{exact zh}))))|refine xO ?_|intro _)
    rw [List.append_assoc,show List.replicate q t ++ [t]=List.replicate (q+1) t from List.replicate_succ'.symm]
    exact PA.lp (q+1,_) xE ⟨H_,by simp only;omega⟩
   have ML:q=jM m t:=z6
   subst ML
   rw [<-xe]
   repeat'(first|apply Sp.h|refine Lk.r rfl ?_|refine Rf.mk rfl ?_|refine xB ?_|refine xO ?_|fail)
   exact PA.lp (i+1,v) xE ⟨yd,by simp only;omega⟩
 have vk:i=m.tables.length:=z6
 subst vk
 simp only [zL]
 repeat'(first|apply Sp.h|refine Lk.r rfl ?_|refine Rf.mk rfl ?_|refine xB ?_|refine xN ?_|fail)
 exact⟨_,_,.one (.same (.z)),_,rfl,rfl⟩
theorem kj(m:y8)(hm:xS m.y9 m.tables):y6 Tryz.prog 154 [wH m] (xG (yw m)) :=
 zy.fz (by have:=lX hm;omega) (Pn m hm)
structure yC where
 rep:Int
 num:Int
 time:Int
 val:Int
def qX(x:yC):List AV:= [it x.rep,it x.num,it x.time,it x.val]
structure xp where
 put:Bool
 drop:Bool
 marks:List yC
abbrev bl (b:Bool):AV:= .val (.bool b)
abbrev oK (l:List yC):AV:= .sl 4 l qX
def jN(g:xp):List AV:= [bl g.put,bl g.drop,oK g.marks]
abbrev uH (l:List xp):AV:= .sl 3 l jN
def x8(k:Int):Prop:=k=4∨k=5
noncomputable instance (k:Int):Decidable (x8 k):=zC _
theorem sc(t:ym):y6 Tryz.prog 163 [.agg (v8 t)] (bl (decide (x8 t.kind))):=by
 refine zy.of pg ye Tryz.func163 rfl Tryz.ntmps163 Tryz.results163 rfl λh0 G0 O0=>?_
 repeat'(first|apply Sp.h|refine Lk.r rfl ?_|refine Rf.mk rfl ?_|refine xA ?_|refine xB ?_|apply Bd.mk|apply yc.mk|refine xT ?_|refine xN ?_|intro _)
 all_goals refine Fin.p rfl (vb ?_)
 all_goals first
  | exact zD.2 (by unfold x8;omega)
  | exact(zT (by unfold x8;omega)).symm
theorem iR(x:yC):y6 Tryz.prog 245 [.agg (qX x)] (Vr x.rep x.num):=by
 refine zy.of pg ye Tryz.func245 rfl Tryz.ntmps245 Tryz.results245 rfl λh0 G0 O0=>?_
 repeat'(first|apply Sp.h|refine Lk.r rfl ?_|refine Rf.mk rfl ?_|apply yc.mk|refine xT ?_|(apply y4.r;focus repeat' constructor)|(apply Fk.r;focus repeat' first|infer_instance|constructor)|refine xN ?_|intro _)
 exact Fin.p rfl rfl
noncomputable def X9(t:ym):Int:=if x8 t.kind then t.lo else 0
noncomputable def iP(t:ym):Int:=if x8 t.kind then t.hi else 0
def wy(t:ym)(x:yC):Prop:=(0<=x.rep/\x.rep<=4)/\(1<=x.num/\x.num<=1024)/\(1<=x.time/\x.time<=1073741824)/\X9 t<=x.val/\x.val<=iP t
noncomputable instance (t:ym) (x:yC):Decidable (wy t x):=zC _
theorem fN(t:ym)(x:yC):y6 Tryz.prog 244 [.agg (v8 t),.agg (qX x)] (bl (decide (wy t x))):=by
 refine zy.of pg JF Tryz.func244 rfl Tryz.ntmps244 Tryz.results244 rfl λh0 G0 O0=>?_
 by_cases hr:x8 t.kind
 ·have YS:X9 t=t.lo:=if_pos hr
  have Zs:iP t=t.hi:=if_pos hr
  repeat'(first|apply Sp.h|refine Lk.r rfl ?_|refine Rf.mk rfl ?_|refine xA ?_|refine xB ?_|(refine Bd.mk ?_ ?_ <;> intro _)|refine yu.r rfl ?_|refine yc.mk λ_=>?_|refine xT ?_|refine Ch.l ⟨rfl,rfl⟩ ?_|refine xN ?_|refine xD ?_|(apply Cl.p (sc _);focus repeat' constructor))
  all_goals refine Fin.p rfl (vb ?_)
  all_goals first
   | exact zD.2 (by unfold wy;omega)
   | exact(zF (by unfold wy;omega)).symm
 ·have YS:X9 t=0:=if_neg hr
  have Zs:iP t=0:=if_neg hr
  repeat'(first|apply Sp.h|refine Lk.r rfl ?_|refine Rf.mk rfl ?_|refine xA ?_|refine xB ?_|(refine Bd.mk ?_ ?_ <;> intro _)|refine yc.mk λ_=>?_|refine xT ?_|refine Ch.l ⟨rfl,rfl⟩ ?_|refine xN ?_|(apply Cl.p (sc _);focus repeat' constructor))
  all_goals refine Fin.p rfl (vb ?_)
  all_goals first
   | exact zD.2 (by unfold wy;omega)
   | exact(zF (by unfold wy;omega)).symm
theorem Yn(x:Int):y6 Tryz.prog 253 [it x] (bl false):=by
 refine zy.of pg ye Tryz.func253 rfl Tryz.ntmps253 Tryz.results253 rfl λh0 G0 O0=>?_
 repeat'(first|apply Sp.h|refine Lk.r rfl ?_|refine Rf.mk rfl ?_|refine xN ?_|fail)
 exact Fin.p rfl (vb zd)
def r4(x y:Int):Int:=if x < y then -1 else if y < x then 1 else 0
theorem oy(x y:Int):y6 Tryz.prog 226 [it x,it y] (it (r4 x y)):=by
 refine zy.of pg ye Tryz.func226 rfl Tryz.ntmps226 Tryz.results226 rfl λh0 G0 O0=>?_
 repeat'(first|apply Sp.h|refine Lk.r rfl ?_|refine Rf.mk rfl ?_|(refine Bd.mk ?_ ?_ <;> intro _)|refine xN ?_|(apply Cl.p (Yn _);focus repeat' constructor))
 all_goals refine Fin.p rfl ?_
 all_goals unfold r4
 all_goals congr 2
 all_goals repeat' split
 all_goals omega
def W_(l:List Int):Int:=(l.find? (λx=>decide (x≠0))).getD 0
theorem Mb(l:List Int):y6 Tryz.prog 252 [ints l] (it (W_ l)):=by
 refine zy.of pg ye Tryz.func252 rfl Tryz.ntmps252 Tryz.results252 rfl λh0 G0 O0=>?_
 repeat'(first|apply Sp.h|refine Lk.r rfl ?_|refine Rf.mk rfl ?_|apply Im.mk|intro _)
 refine CA.loop (λi:Nat=>⟨[(3,it 0),(6,ints l),(7,it (l.length:Nat)),(8,it i)],[]⟩) (λi=>i<=l.length/\∀x∈l.take i,x=0) (λi=>l.length - i) 0 xE ⟨zZ _,by simp⟩ ?_
 rintro i ⟨hi,ha⟩
 by_cases yd:i < l.length
 ·obtain⟨x,hx⟩:=zz yd
  repeat'(first|apply Sp.h|refine Lk.r rfl ?_|refine Rf.mk rfl ?_|refine xA ?_|apply Bd.mk|refine xI ?_|refine xN ?_|refine xO ?_|intro _)
  ·exact PA.lp (i+1) xE ⟨⟨yd,all_succ hx ha z6⟩,z6⟩
  ·rename_i h
   refine Fin.p rfl ?_
   have hf:l.find? (λx=>decide (x≠0))=some x:=fR hx (by simpa using h) λj y hj hy=>by
    have:=ha y (zM (i:=j) (by rw [List.getElem?_take,if_pos hj];exact hy))
    simp [this]
   rw [W_,hf];rfl
 have vk:i=l.length:=z6
 subst vk
 rw [zL] at ha
 repeat'(first|apply Sp.h|refine Lk.r rfl ?_|refine Rf.mk rfl ?_|refine xB ?_|refine xN ?_|fail)
 refine Fin.p rfl ?_
 have hf:l.find? (λx=>decide (x≠0))=none:=List.find?_eq_none.2 λx hx=>by simp [ha x hx]
 rw [W_,hf];rfl
def bW(a b:yC):Int:=W_ [r4 a.time b.time,r4 a.rep b.rep,r4 a.num b.num]
theorem rU(a b:yC):y6 Tryz.prog 246 [.agg (qX a),.agg (qX b)] (it (bW a b)):=by
 refine zy.of pg JE Tryz.func246 rfl Tryz.ntmps246 Tryz.results246 rfl λh0 G0 O0=>?_
 repeat'(first|apply Sp.h|refine Lk.r rfl ?_|refine Rf.mk rfl ?_|refine yu.r rfl ?_|refine yc.mk λ_=>?_|refine xT ?_|(apply Fk.r;focus repeat' first|infer_instance|constructor)|refine Rf.mk ⟨rfl,rfl,rfl⟩ ?_|refine xD ?_|(apply Cl.p (oy _ _);focus repeat' constructor))
 have h:=Mb [r4 a.time b.time,r4 a.rep b.rep,r4 a.num b.num]
 (apply Cl.yY (h);(focus repeat'(first|exact y3.nil|(apply y3.yX;{exact z1};{exact zu};{exact za})|fail)))
 repeat'(first|apply Sp.h|refine Lk.r rfl ?_|refine yu.r rfl ?_|refine xN ?_|fail)
 exact Fin.p rfl rfl
def wC(a b:yC):Prop:=a.time < b.time∨a.time=b.time/\(a.rep < b.rep∨a.rep=b.rep/\a.num < b.num)
noncomputable instance (a b:yC):Decidable (wC a b):=zC _
theorem TV{a b:yC}:bW a b < 0↔wC a b:=by
 unfold bW W_ wC r4
 by_cases h1:a.time < b.time
 ·simp [h1]
 by_cases h2:b.time < a.time
 ·simp [h1,h2];omega
 have h3:a.time=b.time:=z6
 by_cases h4:a.rep < b.rep
 ·simp [h3,h4]
 by_cases h5:b.rep < a.rep
 ·simp [h3,h4,h5];omega
 have h6:a.rep=b.rep:=z6
 by_cases h7:a.num < b.num
 ·simp [h3,h6,h7]
 by_cases h8:b.num < a.num
 ·simp [h3,h6,h7,h8]
 ·simp [h3,h6,h7,h8]
theorem TU{a b:yC}:0 < bW a b↔wC b a:=by
 unfold bW W_ wC r4
 by_cases h1:a.time < b.time
 ·simp [h1];omega
 by_cases h2:b.time < a.time
 ·simp [h1,h2]
 have h3:a.time=b.time:=z6
 by_cases h4:a.rep < b.rep
 ·simp [h3,h4];omega
 by_cases h5:b.rep < a.rep
 ·simp [h3,h4,h5]
 have h6:a.rep=b.rep:=z6
 by_cases h7:a.num < b.num
 ·simp [h3,h6,h7];omega
 by_cases h8:b.num < a.num
 ·simp [h3,h6,h7,h8]
 ·simp [h3,h6,h7,h8]
abbrev rI:Rp Int:=Rp.int .i64
theorem rdStr:wJ Tryz.prog 9 Rp.str:=wJ.str Tryz.underlying9 z7
theorem rdBool:wJ Tryz.prog 4 Rp.bool:=wJ.bool Tryz.underlying4 z7
def Rp.HP:Rp (Int×Int×Unit):=rI.pair (rI.pair Rp.unit)
theorem Ei:wJ Tryz.prog 148 Rp.HP:=wJ.struct Tryz.underlying148 rfl z7 (wY.cons rfl x_ rfl (wY.cons rfl x_ rfl wY.nil))
def Rp.table:Rp ym:=(Rp.str.pair (rI.pair (rI.slice.pair (Rp.HP.pair (rI.pair Rp.unit))))).qd λt:ym=>(t.name,t.kind,t.ya,(t.lo,t.hi,()),t.first,())
theorem Qj:wJ Tryz.prog 150 Rp.table:=wJ.qd (wJ.struct Tryz.underlying150 rfl z7 (wY.cons rfl rdStr rfl (wY.cons rfl x_ rfl (wY.cons rfl rL rfl (wY.cons rfl Ei rfl (wY.cons rfl x_ rfl wY.nil)))))) _ (λx=>⟨x.1,x.2.1,x.2.2.1,x.2.2.2.1.1,x.2.2.2.1.2.1,x.2.2.2.2.1⟩) (λ_=>rfl)
theorem Pt:wK Rp.table v8:=((wK.str.pair (wK.int.pair (rO.pair ((wK.int.pair (wK.int.pair wK.unit)).pair (wK.int.pair wK.unit))))).qd _).cast λ_=>rfl
def Rp.term:Rp (Int×Int):=(rI.pair (rI.pair Rp.unit)).qd λt:Int×Int=>(t.1,t.2,())
theorem Uv:wK Rp.term vT:=((wK.int.pair (wK.int.pair wK.unit)).qd _).cast λ_=>rfl
theorem Jl:wJ Tryz.prog 167 Rp.term:=wJ.qd (wJ.struct Tryz.underlying167 rfl z7 (wY.cons rfl x_ rfl (wY.cons rfl x_ rfl wY.nil))) _ (λx=>(x.1,x.2.1)) (λ_=>rfl)
theorem UY:wJ Tryz.prog 144 Rp.term:=wJ.qd (wJ.struct Tryz.underlying144 rfl z7 (wY.cons rfl x_ rfl (wY.cons rfl x_ rfl wY.nil))) _ (λx=>(x.1,x.2.1)) (λ_=>rfl)
def Rp.row:Rp sU:=(Rp.term.slice.pair (rI.pair Rp.unit)).qd λr:sU=>(r.yO,r.bound,())
theorem M6:wJ Tryz.prog 170 Rp.row:=wJ.qd (wJ.struct Tryz.underlying170 rfl z7 (wY.cons rfl (wJ.slice Tryz.underlying168 z7 Jl zf) rfl (wY.cons rfl x_ rfl wY.nil))) _ (λx=>⟨x.1,x.2.1⟩) (λ_=>rfl)
theorem Mv:wK Rp.row pA:=((Uv.slice.pair (wK.int.pair wK.unit)).qd _).cast λ_=>rfl
def Rp.BH:Rp mh:=(rI.pair (rI.pair (Rp.row.pair (rI.pair (rI.pair Rp.unit))))).qd λc:mh=>(c.kind,c.family,c.row,c.first,c.size,())
theorem El:wJ Tryz.prog 172 Rp.BH:=wJ.qd (wJ.struct Tryz.underlying172 rfl z7 (wY.cons rfl x_ rfl (wY.cons rfl x_ rfl (wY.cons rfl M6 rfl (wY.cons rfl x_ rfl (wY.cons rfl x_ rfl wY.nil)))))) _ (λx=>⟨x.1,x.2.1,x.2.2.1,x.2.2.2.1,x.2.2.2.2.1⟩) (λ_=>rfl)
theorem Dy:wK Rp.BH lE:=((wK.int.pair (wK.int.pair (Mv.pair (wK.int.pair (wK.int.pair wK.unit))))).qd _).cast λ_=>rfl
def Rp.op:Rp mQ:=(Rp.str.pair (Rp.bool.pair (rI.slice.pair Rp.unit))).qd λo:mQ=>(o.name,o.ordered,o.y9,())
theorem A9:wJ Tryz.prog 174 Rp.op:=wJ.qd (wJ.struct Tryz.underlying174 rfl z7 (wY.cons rfl rdStr rfl (wY.cons rfl rdBool rfl (wY.cons rfl rL rfl wY.nil)))) _ (λx=>⟨x.1,x.2.1,x.2.2.1⟩) (λ_=>rfl)
theorem z0q:wK Rp.op PM:=((wK.str.pair (wK.bool.pair (rO.pair wK.unit))).qd _).cast λ_=>rfl
def Rp.jT:Rp (Int×Int×Int):=(rI.pair (rI.pair (rI.pair Rp.unit))).qd λu:Int×Int×Int=>(u.1,u.2.1,u.2.2,())
theorem Eh:wJ Tryz.prog 206 Rp.jT:=wJ.qd (wJ.struct Tryz.underlying206 rfl z7 (wY.cons rfl x_ rfl (wY.cons rfl x_ rfl (wY.cons rfl x_ rfl wY.nil)))) _ (λx=>(x.1,x.2.1,x.2.2.1)) (λ_=>rfl)
theorem Jn:wJ Tryz.prog 192 Rp.jT:=wJ.qd (wJ.struct Tryz.underlying192 rfl z7 (wY.cons rfl x_ rfl (wY.cons rfl x_ rfl (wY.cons rfl x_ rfl wY.nil)))) _ (λx=>(x.1,x.2.1,x.2.2.1)) (λ_=>rfl)
theorem Mu:wK Rp.jT tL:=((wK.int.pair (wK.int.pair (wK.int.pair wK.unit))).qd _).cast λ_=>rfl
def Rp.xu:Rp iA:=(Rp.term.slice.pair (Rp.row.slice.pair (Rp.jT.slice.pair Rp.unit))).qd λx:iA=>(x.delta,x.hold,x.yk,())
theorem Ek:wJ Tryz.prog 140 Rp.xu:=wJ.qd (wJ.struct Tryz.underlying140 rfl z7 (wY.cons rfl (wJ.slice Tryz.underlying136 z7 UY zf) rfl (wY.cons rfl (wJ.slice Tryz.underlying137 z7 M6 zf) rfl (wY.cons rfl (wJ.slice Tryz.underlying138 z7 Eh zf) rfl wY.nil)))) _ (λx=>⟨x.1,x.2.1,x.2.2.1⟩) (λ_=>rfl)
theorem Dx:wK Rp.xu il:=((Uv.slice.pair (Mv.slice.pair (Mu.slice.pair wK.unit))).qd _).cast λ_=>rfl
def Rp.act:Rp e_:=(rI.pair (rI.slice.pair (Rp.xu.pair Rp.unit))).qd λa:e_=>(a.op,a.args,a.xu,())
theorem Em:wJ Tryz.prog 142 Rp.act:=wJ.qd (wJ.struct Tryz.underlying142 rfl z7 (wY.cons rfl x_ rfl (wY.cons rfl rL rfl (wY.cons rfl Ek rfl wY.nil)))) _ (λx=>⟨x.1,x.2.1,x.2.2.1⟩) (λ_=>rfl)
theorem Dz:wK Rp.act iq:=((wK.int.pair (rO.pair (Dx.pair wK.unit))).qd _).cast λ_=>rfl
def Rp.model:Rp y8:=(rI.slice.pair (Rp.table.slice.pair (Rp.str.slice.pair (Rp.BH.slice.pair (Rp.op.slice.pair (Rp.act.slice.pair (Rp.jT.slice.pair Rp.unit))))))).qd λm:y8=>(m.y9,m.tables,m.xm,m.cons,m.ops,m.yP,m.yp,())
theorem Ql:wJ Tryz.prog 30 Rp.model:=wJ.qd (wJ.struct Tryz.underlying30 rfl z7 (wY.cons rfl rL rfl
 (wY.cons rfl (wJ.slice Tryz.underlying23 z7 Qj zf) rfl (wY.cons rfl (wJ.slice Tryz.underlying24 z7 rdStr zf) rfl
 (wY.cons rfl (wJ.slice Tryz.underlying25 z7 El zf) rfl (wY.cons rfl (wJ.slice Tryz.underlying26 z7 A9 zf) rfl
 (wY.cons rfl (wJ.slice Tryz.underlying27 z7 Em zf) rfl (wY.cons rfl (wJ.slice Tryz.underlying28 z7 Jn zf) rfl wY.nil)))))))) _
 (λx=>⟨x.1,x.2.1,x.2.2.1,x.2.2.2.1,x.2.2.2.2.1,x.2.2.2.2.2.1,x.2.2.2.2.2.2.1⟩) (λ_=>rfl)
theorem Pv:wK Rp.model s_:=((rO.pair (Pt.slice.pair (wK.str.slice.pair (Dy.slice.pair (z0q.slice.pair (Dz.slice.pair (Mu.slice.pair wK.unit))))))).qd _).cast λ_=>rfl
end Go.Proofs.YtmjllbjfkafhdaaGreatDoor
namespace Go.Proofs.YtmjllbjfkafhdaaGreatDoor
open Go Go.CF Go.ChangeShapes Go.WideShapes Go.ChangeAt Go.RowKit
theorem H5{W:World}{r:Reach}{b:Nat}{t:TypeId}{v:Value}{fs:Array Field}(ht:Tryz.prog.underlying t=some (.struct fs))(hv:Value.okWide Tryz.prog W r b t v):v= .agg v.cells:=by
 cases v with
 | agg c=>rfl
 | _=>simp [Value.okWide,ht] at hv
theorem A8:wJ Tryz.prog 5 (Rp.int .u8):=wJ.int Tryz.underlying5 z7
theorem Qn:wJ Tryz.prog 32 (Rp.int .u8).slice:=wJ.slice Tryz.underlying32 z7 A8 zf
theorem wK.u8:wK (Rp.int .u8) λx=> [.val (.int .u8 x)]:=⟨by rintro _ _ _ _ ⟨rfl,_⟩;exact⟨⟨rfl,trivial⟩,λu hu=>by rw [zH.1 hu];rfl⟩⟩
theorem Px:wK (Rp.int .u8).slice λl=> [.sl 1 l λx=> [.val (.int .u8 x)]]:=wK.u8.slice
theorem Wx{h:y7}{F:Nat->Prop}{cs:List Value}{l:List Int}(hr:(Rp.int .u8).slice.R h F cs l) :∀x∈l,0<=x/\x<=255:=by
 intro x hx
 obtain⟨v,rfl,hb,hl,rows,hs,hlen,tN⟩:=hr
 obtain⟨i,hi⟩:=List.mem_iff_getElem?.1 hx
 obtain⟨row,pU⟩:∃row,rows[i]?=some row:=⟨_,zE (by have:=(zS.1 hi).1;omega)⟩
 exact wf_u8.1 (tN i row x pU hi).2
theorem gm(os:Os)(started:os.Started)(H:Type)(enc:TypeId×Value->H)
  (walk:∀(h:y7) (v0:Value) (l0:y8) (v1:Value) (l1:(List Int)) (v2:Value) (l2:(List yo)) (v3:Value) (l3:(List Int)) (v4:Value) (l4:(List Int)) (v5:Value) (l5:(List Int)),v0= .agg v0.cells->Rp.model.R h (Old h) v0.cells.toList l0->(Rp.int .i64).slice.R h (Old h) [v1] l1->Rp.event.slice.R h (Old h) [v2] l2->(Rp.int .u8).slice.R h (Old h) [v3] l3->(Rp.int .i64).slice.R h (Old h) [v4] l4->(Rp.int .i64).slice.R h (Old h) [v5] l5->oY Tryz.prog h (Old h)->wS Tryz.prog 4 #[v0,v1,v2,v3,v4,v5] h λx h'=>x= .bool true/\tc ([]:List Nat) h h') :
  ReturnsInHanded {} Tryz.checked os 4 .any (λw args=>(Rows.snapshotDefinitionSpec.pre enc Tryz.prog Tryz.f4 Rows.snapshotDefinitionRow.domain false w args/\laidMetH Tryz.prog dj w)/\sizedMet enc Tryz.prog Tryz.f4 (OpenSpec.ofChange Rows.snapshotDefinitionSpec) false w args)
   (Rows.snapshotDefinitionSpec.post enc Tryz.prog Tryz.f4 false true false false):=by
 refine returnsInHanded_of_change_and (C:=Tryz.checked) (X:=λw _=>laidMetH Tryz.prog dj w) (λ_ _ _ hh h=>h.of_heap hh) Aj started z7 Tryz.func4
  (ChangeSpec.witness_shaped (enc:=enc) (C:=Tryz.checked) (os:=os) (X:=λw _=>laidMetH Tryz.prog dj w) false (World.doorLaid Tryz.prog 33 os) #[.agg #[.slice none 0 0,.slice none 0 0,.slice none 0 0,.slice none 0 0,.slice none 0 0,.slice none 0 0,.slice none 0 0],.slice none 0 0,.slice none 0 0,.slice none 0 0,.slice none 0 0,.slice none 0 0] 8 rfl (World.shaped_of_RefB z7 z7) z7 z7 z7 (TQ os _)) ?_
 intro W base args ds gs before D4 hW z4q _ hL _
 have hW':=hW
 have su:∀(j:Nat) t v,Tryz.f4.params[j]?=some t->args[j]?=some v->Value.okWide Tryz.prog W .any base t v:=D4
 obtain⟨p,q,hA0,hV,rfl,hfz,Zp⟩:=hW
 have hA:DataW.TrodAll enc Tryz.prog W 0 (λ_=>true) true Tryz.f4.params.toList args.toList ds p:=hA0
 rw [Tryz.params4] at hA su
 obtain⟨v0,vs0,d0,ds0,p0,q0,e0,rfl,h0,hA⟩:=CF.trodAll_cons hA
 obtain⟨v1,CC,d1,ds1,p1,q1,rfl,rfl,h1,hA⟩:=CF.trodAll_cons hA
 obtain⟨v2,SQ,d2,ds2,p2,q2,rfl,rfl,h2,hA⟩:=CF.trodAll_cons hA
 obtain⟨v3,vs3,d3,ds3,p3,q3,rfl,rfl,h3,hA⟩:=CF.trodAll_cons hA
 obtain⟨v4,vs4,d4,ds4,p4,q4,rfl,rfl,h4,hA⟩:=CF.trodAll_cons hA
 obtain⟨v5,vs5,d5,ds5,p5,q5,rfl,rfl,h5,hA⟩:=CF.trodAll_cons hA
 obtain⟨rfl,rfl⟩:=CF.cE hA
 obtain rfl:args=#[v0,v1,v2,v3,v4,v5]:=Array.ext' e0
 obtain⟨l0,eg⟩:=Ql.arg h0
 have Gs:=H5 Tryz.underlying30 (su 0 30 v0 rfl rfl)
 obtain⟨l1,WT⟩:=rL.arg h1
 have WT:=rf Tryz.underlying22 (su 1 22 v1 rfl rfl) WT
 obtain⟨l2,ku⟩:=Ej.arg h2
 have ku:=rf Tryz.underlying31 (su 2 31 v2 rfl rfl) ku
 obtain⟨l3,Hr⟩:=Qn.arg h3
 have Hr:=rf Tryz.underlying32 (su 3 32 v3 rfl rfl) Hr
 obtain⟨l4,SE⟩:=rL.arg h4
 have SE:=rf Tryz.underlying22 (su 4 22 v4 rfl rfl) SE
 obtain⟨l5,B8⟩:=rL.arg h5
 have B8:=rf Tryz.underlying22 (su 5 22 v5 rfl rfl) B8
 refine fY laid (tb:=4) (by rw [Tryz.params4];intro t ht;simp at ht;(repeat'(rcases ht with rfl|ht)) <;> exact⟨by kernel_rfl,of_decide_eq_true z7⟩) rfl zu Tryz.underlying4 rfl hW' ?_
 exact walk W.heap v0 l0 v1 l1 v2 l2 v3 l3 v4 l4 v5 l5 Gs eg WT ku Hr SE B8 (H2 hL)
theorem b9(walk:∀(h:y7) (v0:Value) (l0:y8) (v1:Value) (l1:(List Int)) (v2:Value) (l2:(List yo)) (v3:Value) (l3:(List Int)) (v4:Value) (l4:(List Int)) (v5:Value) (l5:(List Int)),v0= .agg v0.cells->Rp.model.R h (Old h) v0.cells.toList l0->(Rp.int .i64).slice.R h (Old h) [v1] l1->Rp.event.slice.R h (Old h) [v2] l2->(Rp.int .u8).slice.R h (Old h) [v3] l3->(Rp.int .i64).slice.R h (Old h) [v4] l4->(Rp.int .i64).slice.R h (Old h) [v5] l5->oY Tryz.prog h (Old h)->wS Tryz.prog 4 #[v0,v1,v2,v3,v4,v5] h λx h'=>x= .bool true/\tc ([]:List Nat) h h') :
  Rows.SnapshotDefinitionSaid :=
 OpenClaim.holds_of_wide (p:=Tryz.pinned) (s:=Rows.snapshotDefinitionSpec) (c:=Rows.snapshotDefinitionRow) 4 Tryz.f4 rfl rfl rfl rfl rfl rfl rfl ⟨rfl,rfl,rfl,rfl,rfl⟩ rfl rfl rfl rfl rfl z7 Tryz.func4 p7
  (of_decide_eq_true z7) (by unfold Func.isWrapper;first|(rw [if_pos (by decide +kernel)];kernel_rfl)|(rw [if_neg (by decide +kernel)];exact⟨rfl,rfl⟩))
  (λos started H enc _=>gm os started H enc walk)
end Go.Proofs.YtmjllbjfkafhdaaGreatDoor
