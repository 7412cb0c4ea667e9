/- Part 8 of the ground of this proof: what its texts say of the model, the program and the plain data; conditions: those that are named. -/
import Derived.RangeFuncSeq
import Derived.Test.YtmjllbjfkafhdaaGreatDoorS07
namespace Go.Proofs.YtmjllbjfkafhdaaGreatDoor
open Go Go.CF
def lu(s:ByteArray)(i:Nat):Bool:=dk (yf s i).toNat
theorem gH(s:ByteArray)(i:Nat):0<=yf s i/\yf s i<=255:=by
 unfold yf
 cases s[i]? with
 | none=>simp
 | some b=>simp;have:=b.toNat_lt;omega
theorem ES{x y:Int}(hx:0<=x/\x < 128)(hy:0<=y/\y < 128):0<=bits .or .u8 x y/\bits .or .u8 x y < 128:=by
 obtain⟨a,rfl⟩:=Int.eq_ofNat_of_zero_le hx.1
 obtain⟨b,rfl⟩:=Int.eq_ofNat_of_zero_le hy.1
 have h1:(BitVec.ofInt 8 (a:Int) ||| BitVec.ofInt 8 (b:Int)).toNat=a ||| b:=by
  rw [BitVec.ofInt_natCast,BitVec.ofInt_natCast,BitVec.toNat_or,BitVec.toNat_ofNat,BitVec.toNat_ofNat,Nat.mod_eq_of_lt z6,Nat.mod_eq_of_lt z6]
 have h2:a ||| b < 128:=Nat.or_lt_two_pow (n:=7) z6 z6
 have h3:bits .or .u8 (a:Int) (b:Int)=((a ||| b:Nat):Int):=by
  show IntKind.wrap .u8 ((BitVec.ofInt 8 (a:Int) ||| BitVec.ofInt 8 (b:Int)).toNat:Int)=_
  rw [h1]
  exact wrap_u8 z6
 rw [h3]
 omega
def im(s:ByteArray):Nat->Nat
 | 0=>0
 | i+1=>im s i+(bif lu s i then 0 else match i with | 0=>1|j+1=>bif lu s j then 1 else 0)
def eD(s:ByteArray):Nat->Int
 | 0=>1
 | i+1=>bif lu s i then 1 else 0
theorem aB(s:ByteArray)(i:Nat):eD s i=0∨eD s i=1:=by
 cases i with
 | zero=>exact .inr rfl
 | succ i=>simp only [eD];cases lu s i <;> simp
theorem IY{w sp:Int}(hw:w=0∨w=1)(hs:sp=0∨sp=1):bits .and .i64 w (bits .xor .i64 (-1) sp)=if w=1/\sp=0 then 1 else 0:=by
 rcases hw with rfl|rfl <;> rcases hs with rfl|rfl <;> decide
theorem Wr(s:ByteArray)(i:Nat):(im s (i+1):Int)=im s i+bits .and .i64 (eD s i) (bits .xor .i64 (-1) (bif lu s i then 1 else 0)):=by
 rw [IY (aB s i) (by cases lu s i <;> simp)]
 simp only [im]
 cases hs:lu s i
 ·simp only [cond_false,and_true]
  cases i with
  | zero=>simp [eD]
  | succ j=>simp only [eD];rcases Bool.eq_false_or_eq_true (lu s j) with h|h <;> simp [h]
 ·simp
theorem fV(s:ByteArray) :∀i,im s i<=i:=by
 intro i
 induction i with
 | zero=>exact Nat.le_refl _
 | succ i ih =>
  simp only [im]
  have:(bif lu s i then 0 else match i with | 0=>1|j+1=>bif lu s j then 1 else 0)<=1:=by
   cases lu s i
   ·simp only [cond_false]
    split
    ·exact Nat.le_refl _
    ·rename_i j;cases lu s j <;> simp
   ·simp
  omega
structure HJ (s:ByteArray) (a j:Nat):Prop where
 le:a<=j/\j<=s.size
 a:∀i,a<=i->i < j->lu s i=true
 b:j < s.size->lu s j=false
inductive X5 (s:ByteArray):Nat->Nat->List (Nat×Nat)->Prop where
 | done {start:Nat} :¬start < s.size->X5 s s.size start []
 | last {start:Nat}:start < s.size->X5 s s.size start [(start,s.size)]
 | word {i start:Nat} {out:List (Nat×Nat)}:i < s.size->lu s i=false->X5 s (i+1) start out->X5 s i start out
 | cut {i start j:Nat} {out:List (Nat×Nat)}:i < s.size->lu s i=true->HJ s (i+1) j->X5 s j j out->X5 s i start ((start,i) :: out)
def PL(s:ByteArray):Nat->Nat->Nat
 | 0,a=>a
 | f+1,a=>bif Nat.blt a s.size && lu s a then PL s f (a+1) else a
theorem Uu{a b:Nat}(h:¬a < b):Nat.blt a b=false:=by
 rw [Bool.eq_false_iff]
 intro h2
 rw [Nat.blt_eq] at h2
 exact h h2
theorem Jd{s:ByteArray} :∀(f a:Nat),s.size - a<=f->a<=s.size->HJ s a (PL s f a):=by
 intro f
 induction f with
 | zero=>exact λa h1 h2=>⟨⟨Nat.le_refl _,h2⟩,λi h3 h4=>by simp only [PL] at h4;omega,λh=>by simp only [PL] at h;omega⟩
 | succ f ih =>
  intro a h1 h2
  simp only [PL]
  by_cases hc:(Nat.blt a s.size && lu s a)=true
  ·rw [hc]
   show HJ s a (PL s f (a+1))
   simp only [Bool.and_eq_true,Nat.blt_eq] at hc
   have:=ih (a+1) z6 z6
   refine⟨⟨by have:=this.le.1;omega,this.le.2⟩,λi h3 h4=>?_,this.b⟩
   by_cases hi:i=a
   ·subst hi;exact hc.2
   ·exact this.a i z6 h4
  ·have tE:(Nat.blt a s.size && lu s a)=false:=by rw [Bool.eq_false_iff];exact hc
   rw [tE]
   show HJ s a a
   refine⟨⟨Nat.le_refl _,h2⟩,λi h3 h4=>z6,λh=>?_⟩
   cases hs:lu s a
   ·rfl
   ·exact absurd (by simp [hs,h]) hc
def Vp(s:ByteArray):Nat->Nat->Nat->List (Nat×Nat)
 | 0,_,_=> []
 | f+1,i,start=>bif Nat.blt i s.size then(bif lu s i then(start,i) :: Vp s f (PL s s.size (i+1)) (PL s s.size (i+1)) else Vp s f (i+1) start) else bif Nat.blt start s.size then [(start,s.size)] else []
theorem P3{s:ByteArray} :∀(f i start:Nat),s.size - i < f->i<=s.size->X5 s i start (Vp s f i start):=by
 intro f
 induction f with
 | zero=>intro i start h;omega
 | succ f ih =>
  intro i start h1 h2
  simp only [Vp]
  by_cases hi:i < s.size
  ·rw [show Nat.blt i s.size=true by simpa using hi,cond_true]
   cases hs:lu s i
   ·exact .word hi hs (ih _ _ z6 z6)
   ·have hk:=Jd (s:=s) s.size (i+1) z6 z6
    have h3:=hk.le
    exact .cut hi hs hk (ih _ _ z6 h3.2)
  ·have:i=s.size:=z6
   subst this
   rw [Uu z6,cond_false]
   by_cases yL:start < s.size
   ·rw [show Nat.blt start s.size=true by simpa using yL];exact .last yL
   ·rw [Uu yL];exact .done yL
theorem X5.le{s:ByteArray}{i start:Nat}{out:List (Nat×Nat)}(h:X5 s i start out):i<=s.size:=by
 cases h with
 | done=>exact Nat.le_refl _
 | last=>exact Nat.le_refl _
 | word h=>omega
 | cut h=>omega
def gV(s:ByteArray)(out:List (Nat×Nat)):List ByteArray:=out.map λp=>s.extract p.1 p.2
theorem dK{α:Type}(acc:List α)(m:Nat)(z y:α):(acc ++ List.replicate (m+1) z).set acc.length y=(acc ++ [y]) ++ List.replicate m z:=by
 rw [List.set_append_right _ _ (Nat.le_refl _),Nat.sub_self,List.replicate_succ,List.set_cons_zero,List.append_assoc]
 rfl
theorem dL{α:Type}(acc:List α)(m:Nat)(z:α):(acc ++ List.replicate (m+1) z)[acc.length]?=some z:=by
 rw [zJ (Nat.le_refl _),Nat.sub_self,List.replicate_succ]
 rfl
theorem z0r:0∈Vv Tryz.prog:=by
 have h:Vv Tryz.prog= [0]:=by kernel_rfl
 rw [h];simp
theorem TL(s:ByteArray)(i0:Nat)(out:List (Nat×Nat))(h7:∀i,i < s.size->yf s i < 128)(hs:s.size<=1000)(kx:HJ s 0 i0)(Gm:X5 s i0 i0 out)(hn:im s s.size=out.length) :
  yJ Tryz.prog 302 [sv s] [] λr own=>∃v,r= .ow v/\own= [yb v 9 1 (gV s out) ur]:=by
 have Va:=z0r
 have Hi:∀k,k < 256->(q9.map AV.val)[k]?=some (.val (.int .u8 (bif dk k then 1 else 0))):=λk hk=>S8 hk
 obtain⟨M_,eM⟩:∃M_,M_=q9.map AV.val:=⟨_,rfl⟩
 rw [<-eM] at Hi
 refine yJ.of pg ye Tryz.func302 rfl Tryz.ntmps302 Tryz.results302 rfl λh0 G0 O0 ga=>?_
 repeat'(first|apply Sp.h|refine Lk.r rfl ?_|refine Rf.mk rfl ?_|fail)
 refine CA.loop (λx:Nat×Int=>⟨[(0,sv s),(3,it (im s x.1:Nat)),(4,it (eD s x.1)),(5,.val (.int .u8 x.2)),(6,it x.1)],[]⟩) (λx=>x.1<=s.size/\0<=x.2/\x.2 < 128) (λx=>s.size - x.1) (0,0) xE ⟨zZ _,by simp,by simp⟩ ?_
 rintro⟨i,b⟩ ⟨hi,q_,rC⟩
 simp only at hi q_ rC
 simp only
 by_cases yd:i < s.size
 ·have hr:=gH s i
  have h9:=h7 i yd
  have hbq:yf s i=(((yf s i).toNat:Nat):Int):=z6
  have rY:=Wr s i
  have ue:=fV s i
  have z4r:=fV s (i+1)
  have WR:=ES ⟨q_,rC⟩ ⟨hr.1,h9⟩
  have ht:=Hi (0+(yf s i).toNat) z6
  rw [Nat.zero_add] at ht
  have Su:eD s (i+1)=bif lu s i then 1 else 0:=rfl
  cases pI:lu s i
  all_goals
   have Av:dk (yf s i).toNat=_:=pI
   rw [pI] at rY Su
   rw [Av] at ht
   simp only [cond_true,cond_false] at ht rY Su
   have ht':=ht
   rw [<-Nat.zero_add (yf s i).toNat] at ht'
   repeat'(first|(apply Lk.r;(focus with_reducible exact ht'))|(apply Jx.r;(focus with_reducible exact hbq);{exact z6})|(apply X4.bT;{exact ga};{exact Va};{exact eM})|apply Sp.h|refine Lk.r rfl ?_|refine Rf.mk rfl ?_|refine xA ?_|(apply Sx.r;{exact zj};{exact zc})|refine xO ?_|(apply r_.i64;{exact zu};{exact z6})|fail)
   rw [<-rY]
   refine PA.lp (i+1,_) ?_ ⟨⟨yd,WR.1,WR.2⟩,by simp only;omega⟩
   simp only [Su]
   exact xE
 have vk:i=s.size:=z6
 subst vk
 have ue:=fV s s.size
 -- what the table says of a byte
 have Xb:∀q,q < s.size->yf s q=(((yf s q).toNat:Nat):Int)/\yf s q < 128/\M_[0+(yf s q).toNat]?=some (.val (.int .u8 (bif lu s q then 1 else 0))):=λq hq=>by
  have hr:=gH s q
  have h9:=h7 q hq
  refine⟨z6,h9, ?_⟩
  rw [Nat.zero_add,Hi _ z6]
  rfl
 repeat'(first|apply Sp.h|refine Lk.r rfl ?_|refine Rf.mk rfl ?_|refine xB ?_|refine xN ?_|refine Rf.mk ⟨rfl,rfl,rfl⟩ ?_|(apply Jx.r;{exact zj};{exact zb})|fail)
 refine yC.r ur ⟨#[]⟩ rfl ?_
 refine⟨λv=>?_⟩
 repeat'(first|apply Sp.h|refine Lk.r rfl ?_|refine Rf.mk rfl ?_|fail)
 refine CA.loop (λi:Nat=>⟨[(0,sv s),(9,.ow v),(10,it (0:Nat)),(12,it i)],[yb v 9 1 (List.replicate (im s s.size) ⟨#[]⟩) ur]⟩) (λi=>i<=i0) (λi=>i0 - i) 0 xE (zZ _) ?_
 intro i nV
 have hi0:=kx.le.2
 by_cases yd:i < i0
 ·obtain⟨g1,g2,g3⟩:=Xb i z6
  rw [kx.a i (zZ _) yd,cond_true] at g3
  repeat'(first|(apply Lk.r;(focus with_reducible exact g3))|(apply Jx.r;(focus with_reducible exact g1);{exact z6})|(apply X4.bT;{exact ga};{exact Va};{exact eM})|apply Sp.h|refine Lk.r rfl ?_|refine Rf.mk rfl ?_|refine xA ?_|refine xB ?_|(apply Sx.r;{exact zj};{exact zc})|refine xO ?_|fail)
  exact PA.lp (i+1) xE ⟨yd,z6⟩
 have vk:i=i0:=z6
 subst vk
 have kT:(i < s.size/\yf s i=(((yf s i).toNat:Nat):Int)/\yf s i < 128/\M_[0+(yf s i).toNat]?=some (.val (.int .u8 0)))∨¬i < s.size:=by
  by_cases u4:i < s.size
  ·obtain⟨g1,g2,g3⟩:=Xb i u4
   rw [kx.b u4,cond_false] at g3
   exact .inl ⟨u4,g1,g2,g3⟩
  ·exact .inr u4
 have g1:yf s i=yf s i:=rfl
 have g3:M_[0]?=M_[0]?:=rfl
 rcases kT with⟨u4,g1,g2,g3⟩|u4
 all_goals
  repeat'(first|(apply Lk.r;(focus with_reducible exact g3))|(apply Jx.r;(focus with_reducible exact g1);{exact z6})|(apply X4.bT;{exact ga};{exact Va};{exact eM})|apply Sp.h|refine Lk.r rfl ?_|refine Rf.mk rfl ?_|refine xA ?_|refine xB ?_|(apply Sx.r;{exact zj};{exact zc})|fail)
  refine CA.loop (λx:Nat×Nat×List ByteArray×List (Nat×Nat)=>⟨[(0,sv s),(9,.ow v),(10,it (x.2.2.1.length:Nat)),(11,it x.2.1),(12,it x.1)],[yb v 9 1 (x.2.2.1 ++ List.replicate x.2.2.2.length ⟨#[]⟩) ur]⟩) (λx=>X5 s x.1 x.2.1 x.2.2.2/\x.2.1<=x.1/\x.2.2.1 ++ gV s x.2.2.2=gV s out/\x.2.2.1.length<=x.1) (λx=>s.size - x.1) (i,i,[],out) ?_ ⟨Gm,Nat.le_refl _,rfl,zZ _⟩ ?_
  ·simp only [List.nil_append,<-hn,List.length_nil]
   exact xE
  rintro⟨i,start,acc,Ac⟩ ⟨hF,yL,bS,rZ⟩
  simp only at hF yL bS rZ
  simp only
  have z4o:=hF.le
  cases hF with
  | done bE =>
   repeat'(first|apply Sp.h|refine Lk.r rfl ?_|refine Rf.mk rfl ?_|refine xB ?_|refine xN ?_|fail)
   simp only [List.length_nil,List.replicate_zero,List.append_nil]
   simp only [gV,List.map_nil,List.append_nil] at bS
   rw [bS]
   exact⟨_,_,.one (.same (.z)),_,rfl,rfl⟩
  | last bf =>
   rw [show [(start,s.size)].length=0+1 from rfl]
   have bo:=dL acc 0 (⟨#[]⟩:ByteArray)
   repeat'(first|apply Sp.h|refine Lk.r rfl ?_|refine Rf.mk rfl ?_|refine xA ?_|refine xB ?_|refine xU ?_|refine xI ?_|refine xJ ?_|refine xV ?_|refine xN ?_|(apply Jx.r;{exact zj};{exact zb})|refine Up.r rfl ?_|fail)
   rw [dK]
   simp only [List.replicate_zero,List.append_nil]
   simp only [gV,List.map_cons,List.map_nil] at bS
   rw [bS]
   exact⟨_,_,.one (.same (.z)),_,rfl,rfl⟩
  | word pU pI Bz =>
   obtain⟨g1,g2,g3⟩:=Xb i pU
   rw [pI,cond_false] at g3
   repeat'(first|(apply Lk.r;(focus with_reducible exact g3))|(apply Jx.r;(focus with_reducible exact g1);{exact z6})|(apply X4.bT;{exact ga};{exact Va};{exact eM})|apply Sp.h|refine Lk.r rfl ?_|refine Rf.mk rfl ?_|refine xA ?_|(apply Sx.r;{exact zj};{exact zc})|refine xO ?_|fail)
   exact PA.lp (i+1,start,acc,Ac) xE ⟨⟨Bz,by simp only;omega,bS,by simp only;omega⟩,by simp only;omega⟩
  | @cut _ _ j bO pU pI SC Bz =>
   obtain⟨g1,g2,g3⟩:=Xb i pU
   rw [pI,cond_true] at g3
   rw [show((start,i) :: bO).length=bO.length+1 from rfl]
   have bo:=dL acc bO.length (⟨#[]⟩:ByteArray)
   repeat'(first|(apply Lk.r;(focus with_reducible exact g3))|(apply Jx.r;(focus with_reducible exact g1);{exact z6})|(apply X4.bT;{exact ga};{exact Va};{exact eM})|apply Sp.h|refine Lk.r rfl ?_|refine Rf.mk rfl ?_|refine xA ?_|refine xB ?_|refine xU ?_|refine xI ?_|refine xJ ?_|refine xV ?_|(apply Jx.r;{exact zj};{exact zb})|refine Up.r rfl ?_|(apply Sx.r;{exact zj};{exact zc})|refine xO ?_|fail)
   rw [dK]
   refine CA.loop (λk:Nat=>⟨[(0,sv s),(9,.ow v),(10,it ((acc.length:Nat)+1)),(12,it k)],[yb v 9 1 (acc ++ [s.extract start i] ++ List.replicate bO.length ⟨#[]⟩) ur]⟩) (λk=>i+1<=k/\k<=j) (λk=>j - k) (i+1) xE ⟨Nat.le_refl _,SC.le.1⟩ ?_
   rintro k ⟨WU,lK⟩
   have Ht:=SC.le.2
   by_cases Cb:k < j
   ·obtain⟨g1,g2,g3⟩:=Xb k z6
    rw [SC.a k WU Cb,cond_true] at g3
    repeat'(first|(apply Lk.r;(focus with_reducible exact g3))|(apply Jx.r;(focus with_reducible exact g1);{exact z6})|(apply X4.bT;{exact ga};{exact Va};{exact eM})|apply Sp.h|refine Lk.r rfl ?_|refine Rf.mk rfl ?_|refine xA ?_|refine xB ?_|(apply Sx.r;{exact zj};{exact zc})|refine xO ?_|fail)
    exact PA.lp (k+1) xE ⟨⟨z6,Cb⟩,z6⟩
   ·have:k=j:=z6
    subst this
    have vu:X5 s k k bO/\k<=k/\(acc ++ [s.extract start i]) ++ gV s bO=gV s out/\(acc ++ [s.extract start i]).length<=k:=by
     refine⟨Bz,Nat.le_refl _, ?_,by simp;omega⟩
     rw [<-bS]
     simp [gV]
    have kT:(k < s.size/\yf s k=(((yf s k).toNat:Nat):Int)/\yf s k < 128/\M_[0+(yf s k).toNat]?=some (.val (.int .u8 0)))∨¬k < s.size:=by
     by_cases u4:k < s.size
     ·obtain⟨g1,g2,g3⟩:=Xb k u4
      rw [SC.b u4,cond_false] at g3
      exact .inl ⟨u4,g1,g2,g3⟩
     ·exact .inr u4
    rcases kT with⟨u4,g1,g2,g3⟩|u4
    all_goals
     repeat'(first|(apply Lk.r;(focus with_reducible exact g3))|(apply Jx.r;(focus with_reducible exact g1);{exact z6})|(apply X4.bT;{exact ga};{exact Va};{exact eM})|apply Sp.h|refine Lk.r rfl ?_|refine Rf.mk rfl ?_|refine xA ?_|refine xB ?_|(apply Sx.r;{exact zj};{exact zc})|fail)
     refine PA.lp (k,k,acc ++ [s.extract start i],bO) ?_ ⟨vu,by simp only;omega⟩
     simp only [zP,List.length_singleton]
     exact xE
end Go.Proofs.YtmjllbjfkafhdaaGreatDoor
set_option maxRecDepth 100000
set_option maxHeartbeats 80000000
namespace Go.Proofs.YtmjllbjfkafhdaaGreatDoor
open Go Go.CF
def WN:ByteArray:=⟨#[115,111,114,116,32,114,101,108,97,116,105,111,110,32,99,111,117,110,116,101,114,32,115,101,116,32,114,101,103,105,115,116,101,114,32,105,110,118,97,114,105,97,110,116,32,111,112,101,114,97,116,105,111,110,32,107,101,121,32,114,101,102,101,114,101,110,99,101,32,116,111,32,99,111,117,110,116,32,97,99,121,99,108,105,99,32,97,108,108,32,115,117,109,32,105,110,32,97,100,100,119,105,110,115,32,114,101,109,111,118,101,119,105,110,115,32,108,97,115,116,32,109,117,108,116,105,32,104,105,100,101,32,111,114,100,101,114,101,100,32,114,101,113,117,105,114,101,32,104,111,108,100,32,105,110,115,101,114,116,32,100,101,108,101,116,101,32,97,100,100,32,102,114,111,109,32,112,117,116,32,100,114,111,112,32,97,115,115,105,103,110,32,102,111,114,32,119,104,101,114,101,32,97,110,100,32,111,114,32,110,111,116]⟩
def DU:List (Nat×Nat):=Vp WN 300 0 0
theorem Yl:WN.size=212:=by kernel_rfl
theorem D1 :∀i,i < WN.size->yf WN i < 128:=λi hi=>by
 have h:(List.range WN.size).all (λi=>decide (yf WN i < 128))=true:=by kernel_rfl
 exact of_decide_eq_true (List.all_eq_true.1 h i (List.mem_range.2 hi))
theorem D0:HJ WN 0 0:=⟨⟨Nat.le_refl _,zZ _⟩,λi h1 h2=>z6,λ_=>by kernel_rfl⟩
theorem Ir:X5 WN 0 0 DU:=P3 300 0 0 (by rw [Yl];omega) (zZ _)
theorem It:im WN WN.size=DU.length:=by kernel_rfl
theorem Ip:gV WN DU=cZ:=by kernel_rfl
theorem Iq:cZ.length=35:=rfl
theorem _root_.Go.CF.zo {p:Prop}(h:p:=by (repeat' constructor);first|done|fail):p:=h
theorem aX:yJ Tryz.prog 280 [] [] λr own=>∃b,r= .val (.map (some b))/\own= [ib b cZ]:=by
 have hf:=TL WN 0 DU D1 (by rw [Yl];omega) D0 Ir It
 rw [Ip] at hf
 have hlen:=Iq
 generalize cZ=L at hf hlen ⊢
 refine yJ.of pg ye Tryz.func280 rfl Tryz.ntmps280 Tryz.results280 rfl λh0 G0 O0 ga=>?_
 repeat'(first|apply Sp.h|refine Lk.r rfl ?_|refine Rf.mk rfl ?_|fail)
 refine X2.r (λx:AV=>x) ?_
 refine⟨λb=>?_⟩
 (repeat'(first|(show CA _ _ (Code.region 2 _ _) _ _;apply z_.out)|apply Sp.h|refine Lk.r rfl ?_|fail));any_goals apply z_.mk
 refine CA.own (OX.set z1) ?_
 repeat'(first|apply Sp.h|refine Lk.r rfl ?_|refine Rf.mk rfl ?_|fail)
 (apply Cl.Ve (hf);{exact ga};{exact zo};{exact zo};focus rfl)
 rintro _ _ ⟨v,rfl,rfl⟩
 repeat'(first|apply Sp.h|refine Lk.r rfl ?_|refine xU ?_|fail)
 refine CA.loop (λi:Nat=>⟨[(1,.val (.map (some b))),(5,.ow v),(6,it (L.length:Nat)),(7,it i)],[ib b (L.take i),yb v 9 1 L ur]⟩) (λi=>i<=L.length) (λi=>L.length - i) 0 xE (zZ _) ?_
 intro i hi
 by_cases yd:i < L.length
 ·obtain⟨q,hq⟩:=zz yd
  have hs:L.take (i+1)=L.take i ++ [q]:=by rw [zK,hq];rfl
  repeat'(first|apply Sp.h|refine Lk.r rfl ?_|refine Rf.mk rfl ?_|refine xA ?_|refine xU ?_|refine xI ?_|refine xJ ?_|refine xO ?_|(apply bz.r;{exact z1})|fail)
  rw [<-hs]
  exact PA.lp (i+1) xE ⟨yd,z6⟩
 ·have:i=L.length:=z6
  subst this
  rw [zL]
  repeat'(first|apply Sp.h|refine Lk.r rfl ?_|refine Rf.mk rfl ?_|refine xB ?_|refine xN ?_|fail)
  exact⟨_,_,.one (.same (.z)),_,rfl,rfl⟩
theorem aZ:yV Tryz.prog 280 [] (.rs cZ):=yJ.fzS aX
theorem UL(s:ByteArray):yV Tryz.prog 258 [sv s] (.fn 281 [.ad [sv s] 0,.ad [.rs cZ] 0]):=by
 have hk:=aZ
 generalize cZ=L at hk ⊢
 refine yJ.of pg ye Tryz.func258 rfl Tryz.ntmps258 Tryz.results258 rfl λh0 G0 O0 ga=>?_
 (repeat'(first|(show CA _ _ (Code.region 2 _ _) _ _;apply z_.out)|apply Sp.h|refine Lk.r rfl ?_|refine Rf.mk rfl ?_|refine yc.mk λ_=>?_|refine xT ?_|refine xV ?_|refine xN ?_|(apply Cl.pG (hk);{exact ga};(focus((repeat'(first|exact y3.nil|fail));done)))));any_goals apply z_.mk
 refine CA.xt 1 rfl z1 ?_
 refine CA.xt 3 rfl z1 ?_
 repeat'(first|apply Sp.h|refine Lk.r rfl ?_|refine Rf.mk rfl ?_|refine xN ?_|fail)
 exact Fin.p rfl rfl
/-! ### PE -/
theorem An:FI Tryz.prog 318 Extern.BytealgIndexByte.indexByte :=
 ⟨_,Tryz.func318,by kernel_rfl,by kernel_rfl,by kernel_rfl,by kernel_rfl⟩
instance (priority:=2000) {T:Nat->Ord×(Nat->xa)} {n:Nat} {rs:Array ResultVar} {K:AV->List yh->Prop} {h0:y7} {G0 O0:Nat->Prop} {d:Tmp} {x y:Operand} {sg:Array TypeId} {ty:TypeId} {e:EA} {o:List yh} {N:NA} :
  Sp (SA ⟨Tryz.prog,tt,en,pg,T,n,rs,K,h0,G0,O0,⟨none⟩⟩ .uJ (some d) (.call { callee:= .value (.func 318),args:=#[x,y],argTypes:=sg }) ty e o N)
   (Lk (xr e x) λa=>Lk (xr e y) λb=>BO a b λr=>N ((d,.val (.int .i64 r)) :: e) o):=⟨λh=>SA.Am An rfl h⟩
theorem Iw(s:ByteArray)(x:Int):zy Tryz.prog 315 [sv s,.val (.int .u8 x)] [] λr own=>∃i:Int,r=it i/\own= []:=by
 refine zy.of pg ye Tryz.func315 rfl Tryz.ntmps315 Tryz.results315 rfl λh0 G0 O0=>?_
 repeat'(first|apply Sp.h|refine Lk.r rfl ?_|refine Rf.mk rfl ?_|refine xN ?_|fail)
 exact⟨_,_,.one (.same (.z)),_,rfl,rfl⟩
theorem D3(s:ByteArray)(x:Int):zy Tryz.prog 305 [sv s,.val (.int .u8 x)] [] λr own=>∃i:Int,r=it i/\own= []:=by
 refine zy.of pg ye Tryz.func305 rfl Tryz.ntmps305 Tryz.results305 rfl λh0 G0 O0=>?_
 repeat'(first|apply Sp.h|refine Lk.r rfl ?_|refine Rf.mk rfl ?_|fail)
 refine xW (Iw s x) ?_
 rintro _ _ ⟨i,rfl,rfl⟩
 repeat'(first|apply Sp.h|refine Lk.r rfl ?_|refine xN ?_|fail)
 exact⟨_,_,.one (.same (.z)),_,rfl,rfl⟩
theorem Jr(s q:ByteArray):VY Tryz.prog 314 [sv s,sv q]:=by
 refine zy.of pg ye Tryz.func314 rfl Tryz.ntmps314 Tryz.results314 rfl λh0 G0 O0=>?_
 by_cases h:q.size<=s.size
 ·repeat'(first|apply Sp.h|refine Lk.r rfl ?_|refine Rf.mk rfl ?_|refine xA ?_|refine xN ?_|(apply Jx.r;{exact zj};{exact zb})|fail)
  all_goals exact⟨_,_,.one (.same (.z)),_,rfl,rfl⟩
 ·repeat'(first|apply Sp.h|refine Lk.r rfl ?_|refine Rf.mk rfl ?_|refine xB ?_|refine xN ?_|fail)
  all_goals exact⟨_,_,.one (.same (.z)),_,rfl,rfl⟩
theorem Eo(s q:ByteArray):VY Tryz.prog 304 [sv s,sv q]:=by
 refine zy.of pg ye Tryz.func304 rfl Tryz.ntmps304 Tryz.results304 rfl λh0 G0 O0=>?_
 repeat'(first|apply Sp.h|refine Lk.r rfl ?_|refine Rf.mk rfl ?_|fail)
 refine xW (Jr s q) ?_
 rintro _ _ ⟨b,rfl,rfl⟩
 repeat'(first|apply Sp.h|refine Lk.r rfl ?_|refine xN ?_|fail)
 exact⟨_,_,.one (.same (.z)),_,rfl,rfl⟩
def sy2:List ByteArray:= [⟨#[61,61]⟩,⟨#[33,61]⟩,⟨#[60,61]⟩,⟨#[62,61]⟩,⟨#[46,46]⟩]
theorem mH(s:ByteArray):s.toList=(⟨#[]⟩:ByteArray).toList↔s.size=0:=by
 rw [ByteArray.toList_eq,ByteArray.toList_eq]
 show s.data.toList= []↔s.data.size=0
 rw [<-Array.length_toList,List.length_eq_zero_iff]
theorem mr(s:ByteArray)(hs:s.size<=1000000000):zy Tryz.prog 287 [sv s] [] λr own=>∃n:Nat,r=it n/\own= []/\n<=2:=by
 obtain⟨L,hL⟩:∃L,L=sy2:=⟨_,rfl⟩
 have vB:=mH s
 refine zy.of pg ye Tryz.func287 rfl Tryz.ntmps287 Tryz.results287 rfl λh0 G0 O0=>?_
 (repeat'(first|(show CA _ _ (Code.region 1 _ _) _ _;apply z_.out)|apply Sp.h|refine Lk.r rfl ?_|refine Rf.mk rfl ?_|fail));any_goals apply z_.mk
 (repeat'(first|(show CA _ _ (Code.block 0 _) _ _;apply z_.out)|apply Sp.h|refine Lk.r rfl ?_|refine Rf.mk rfl ?_|apply yc.mk|refine xU ?_|(apply Fk.r;focus repeat' first|infer_instance|constructor)|refine Rf.mk ⟨rfl,rfl,rfl⟩ ?_|intro _));any_goals apply z_.mk
 rename_i v
 apply CA.yR (m:=sy2) (g:=ur)
 focus(repeat constructor)
 focus rfl
 rw [<-hL]
 have hlen:L.length=5:=by rw [hL];rfl
 apply Sp.h
 refine CA.loop (λi:Nat=>⟨[(0,sv s),(5,.ow v),(6,it (5:Int)),(7,it i)],[yb v 9 1 L ur]⟩) (λi=>i<=L.length) (λi=>L.length - i) 0 xE (zZ _) ?_
 intro i hi
 by_cases yd:i < L.length
 ·obtain⟨q,hq⟩:=zz yd
  repeat'(first|apply Sp.h|refine Lk.r rfl ?_|refine Rf.mk rfl ?_|refine xA ?_|refine xU ?_|refine xI ?_|refine xJ ?_|fail)
  refine xW (Eo s q) ?_
  rintro _ _ ⟨b,rfl,rfl⟩
  cases b
  ·repeat'(first|apply Sp.h|refine Lk.r rfl ?_|refine Rf.mk rfl ?_|refine xO ?_|fail)
   exact PA.lp (i+1) xE ⟨yd,z6⟩
  ·repeat'(first|apply Sp.h|refine Lk.r rfl ?_|refine Rf.mk rfl ?_|refine xN ?_|fail)
   exact⟨_,_,.one (.same (.z)),2,rfl,rfl,z6⟩
 ·by_cases hz:s.size=0
  ·have HW:=vB.2 hz
   repeat'(first|apply Sp.h|refine Lk.r rfl ?_|refine Rf.mk rfl ?_|refine xA ?_|refine xB ?_|refine xN ?_|fail)
   exact⟨_,_,.one (.same (.z)),0,rfl,rfl,z6⟩
  ·have HW:¬s.toList=(⟨#[]⟩:ByteArray).toList:=λh=>hz (vB.1 h)
   repeat'(first|apply Sp.h|refine Lk.r rfl ?_|refine Rf.mk rfl ?_|refine xB ?_|(apply Sx.r;{exact zj};{exact zc})|fail)
   refine xW (D3 _ _) ?_
   rintro _ _ ⟨j,rfl,rfl⟩
   repeat'(first|apply Sp.h|refine Lk.r rfl ?_|refine Rf.mk rfl ?_|refine xB ?_|apply Bd.mk|refine xN ?_|intro _)
   ·exact⟨_,_,.one (.same (.z)),1,rfl,rfl,z6⟩
   ·exact⟨_,_,.one (.same (.z)),0,rfl,rfl,z6⟩
theorem WA(s:ByteArray)(h0:0 < s.size)(hs:s.size<=1000000000):VY Tryz.prog 289 [sv s]:=by
 have CT:=mr s hs
 refine zy.of pg ye Tryz.func289 rfl Tryz.ntmps289 Tryz.results289 rfl λh0 G0 O0=>?_
 by_cases hl:yH (yf s 0)
 ·repeat'(first|apply Sp.h|refine Lk.r rfl ?_|refine Rf.mk rfl ?_|refine xA ?_|refine xN ?_|(apply Sx.r;{exact zj};{exact zc})|(apply Cl.p (vQ _);focus repeat' constructor)|(apply Cl.p (uD _);focus repeat' constructor))
  exact⟨_,_,.one (.same (.z)),_,rfl,rfl⟩
 ·by_cases hd:isDigit (yf s 0)
  ·repeat'(first|apply Sp.h|refine Lk.r rfl ?_|refine Rf.mk rfl ?_|refine xA ?_|refine xB ?_|refine xN ?_|(apply Sx.r;{exact zj};{exact zc})|(apply Cl.p (vQ _);focus repeat' constructor)|(apply Cl.p (uD _);focus repeat' constructor))
   exact⟨_,_,.one (.same (.z)),_,rfl,rfl⟩
  ·repeat'(first|apply Sp.h|refine Lk.r rfl ?_|refine Rf.mk rfl ?_|refine xB ?_|(apply Sx.r;{exact zj};{exact zc})|(apply Cl.p (vQ _);focus repeat' constructor)|(apply Cl.p (uD _);focus repeat' constructor))
   refine xW (CT) ?_
   rintro _ _ ⟨n,rfl,rfl,hn⟩
   repeat'(first|apply Sp.h|refine Lk.r rfl ?_|refine xB ?_|refine xN ?_|fail)
   exact⟨_,_,.one (.same (.z)),_,rfl,rfl⟩
end Go.Proofs.YtmjllbjfkafhdaaGreatDoor
namespace Go.CF
open Go

structure Sm (w w':World):Prop where
 os:w'.os=w.os
 tape:w'.tape=w.tape
 output:w'.output=w.output
 drawn:w.drawn<=w'.drawn
 size:w.heap.size<=w'.heap.size
theorem Sm.trans{a b c:World}(h:Sm a b)(k:Sm b c):Sm a c:=⟨k.os.trans h.os,k.tape.trans h.tape,k.output.trans h.output,Nat.le_trans h.drawn k.drawn,Nat.le_trans h.size k.size⟩
theorem yW.sm{w w':World}(h:yW w w'):Sm w w':=⟨h.os,h.tape,h.output,h.drawn,h.size⟩
theorem Sm.put(w:World)(l:Nat)(o:Obj):Sm w (w.putObj l o):=⟨rfl,rfl,rfl,Nat.le_refl _,by simp⟩

structure MA (st:Bool) (P:Program) (gf:FuncId) (lb:List Value) (X:Nat->List Value->Prop) (N:Nat) (C:y7->Prop):Prop where
 run:∀(l:Nat) (J Jx:Nat->y7->Prop) (w:World),(∀i h,J i h->C h)->(∀i h1 h2,J i h1->tc ([]:List Nat) h1 h2->J i h2)->(st=true->∀h,¬J N h)->
  (∀i x w1,X i x->J i w1.heap->Sm w w1->YieldAt Fence.wide 0 P l x.toArray w1 λe w'=>Sm w1 w'/\((e= .returned (.bool true)/\J (i+1) w'.heap)∨(e= .returned (.bool false)/\Jx (i+1) w'.heap)))->
  J 0 w.heap->Calls P gf ((.func (.yield l) #[] #[]) :: lb).toArray w λe w'=>(∃v,e= .returned v)/\Sm w w'/\(J N w'.heap∨∃i,i<=N/\Jx i w'.heap)
def lB:List Tmp->List Value->Env->Env
 | p :: ps,v :: vs,e=>lB ps vs ((p,v) :: e)
 | _,_,e=>e
theorem xf.par{n:Nat}{ds:List Deferred} :∀(ps:List Tmp) (vs:List Value) (e:Env) (t:Array Value),(∀p∈ps,p < n)->xf n e { tmps:=t,defers:=ds }->
  xf n (lB ps vs e) { tmps:=(ps.zip vs).foldl (λt p=>t.setIfInBounds p.1 p.2) t,defers:=ds }
 | [],_,_,_,_,h=>by simpa [lB] using h
 | _ :: _,[],_,_,_,h=>by simpa [lB] using h
 | p :: ps,v :: vs,e,t,hp,h=>by
  simp only [lB,List.zip_cons_cons,List.foldl_cons]
  refine xf.par ps vs _ _ (λq hq=>hp q (by simp [hq])) ?_
  exact h.put (d:=some p) (by simpa [eB] using hp p zd) v

theorem XM{P:Program}{rd:Option Nat}{B:Option Nat}{ds:List Deferred}{w:World}(hB:B.isSome=true)(hr:HK rd w.heap)(hf:Fr B ds w.heap)(fn:FuncId)(tmps:Array Value)(ps:Array Tmp)(assign body:Code) :
  ∃l mark W1 D,(Instr.enterLoop fn tmps ps assign body rd).run P w= .ok (l,mark) W1/\w.heap.size<=l/\W1.heap[l]?=some (.loop { state:= .ready,pending:=none,fn:=fn,tmps:=tmps,params:=ps,assign:=assign,body:=body,defers:=D })/\
   yW w W1/\(∀k,k < w.heap.size->W1.heap[k]?=w.heap[k]?)/\Fr B (mark ++ ds) W1.heap:=by
 cases rd with
 | none =>
  have hs:yW w ((w.alloc (.deferred (some []))).alloc (.loop { state:= .ready,pending:=none,fn,tmps,params:=ps,assign,body,defers:=w.heap.size })):=(yW.sH (w':=w.alloc (.deferred (some []))) rfl).trans (yW.sH rfl)
  have hold:∀k,k < w.heap.size->((w.heap.push (.deferred (some []))).push (.loop { state:= .ready,pending:=none,fn,tmps,params:=ps,assign,body,defers:=w.heap.size }))[k]?=w.heap[k]?:=λk hk=>by
   rw [Array.getElem?_push,if_neg zk,Array.getElem?_push,if_neg z6]
  have hd:((w.heap.push (.deferred (some []))).push (.loop { state:= .ready,pending:=none,fn,tmps,params:=ps,assign,body,defers:=w.heap.size }))[w.heap.size]?=some (.deferred (some [])):=by
   rw [Array.getElem?_push,if_neg zd,Array.getElem?_push,if_pos rfl]
  refine⟨_,_,_,w.heap.size,run_enterLoop_outer fn tmps ps assign body,z6, ?_,hs,hold,⟨λb hb=>Nat.le_trans (hf.le b hb) hs.size, ?_,λd hm=>?_⟩⟩
  ·show((w.heap.push _).push _)[w.heap.size+1]?=_
   rw [Array.getElem?_push,if_pos zd]
  ·refine List.nodup_cons.2 ⟨λhm=>?_,hf.nd⟩
   obtain⟨D,_,h1,_,_,h3⟩:=hf.oK _ hm
   have hD:=(zA.1 h3).1
   simp only [Deferred.mk.injEq,Target.collected.injEq] at h1
   omega
  ·rcases List.mem_cons.1 hm with rfl|hm
   ·obtain⟨b,rfl⟩:=Option.isSome_iff_exists.1 hB
    exact⟨_,b,rfl,rfl,hf.le b rfl,hd⟩
   ·obtain⟨D,b,h1,h0,h2,h3⟩:=hf.oK _ hm
    exact⟨D,b,h1,h0,h2,(hold D (zA.1 h3).1).trans h3⟩
 | some l0 =>
  obtain⟨r,hr⟩:=hr l0 rfl
  have hs:yW w (w.alloc (.loop { state:= .ready,pending:=none,fn,tmps,params:=ps,assign,body,defers:=r.defers })):=yW.sH rfl
  refine⟨w.heap.size,[],w.alloc (.loop { state:= .ready,pending:=none,fn,tmps,params:=ps,assign,body,defers:=r.defers }),r.defers, ?_,Nat.le_refl _,World.alloc_heap_new w _,hs,λk hk=>?_,⟨λb hb=>Nat.le_trans (hf.le b hb) hs.size,hf.nd,λd hm=>?_⟩⟩
  ·unfold Instr.enterLoop
   simp only [Sem.run_bind,run_getLoop hr,run_newObj_alloc,Result.andThen,Sem.run_pure]
  ·show(w.heap.push _)[k]?=_
   rw [Array.getElem?_push,if_neg z6]
  ·obtain⟨D,b,h1,h0,h2,h3⟩:=hf.oK _ hm
   exact⟨D,b,h1,h0,h2,hs.SN D _ h3 rfl⟩

section
variable {P:Program} {n:Nat} {R:Env->y7->Prop} {k:List KI} {env:Env} {h:y7}

def aj(I:y7->Prop)(E:Exit->y7->Prop):Exit->Env->y7->Prop
 | .normal,_,h=>I h
 | x,_,h=>E x h
def Ml(E:Exit->y7->Prop):Code->y7->Prop
 | .ret,h=>E .ret h
 | .exit i,h=>E (.exit i) h
 | .goto i,h=>E (.goto i) h
 | _,_=>False

theorem uu.put{B l:Nat}{w:World}{o o':Obj}(hl:w.heap[l]?=some o)(ho:mU o=true)(hb:B<=l):uu B w.heap (w.putObj l o').heap :=
 ⟨by simp,λk _=>by
  by_cases hk:k=l
  ·subst hk;exact .inr ⟨hb,o,hl,ho⟩
  ·exact .inl (World.putObj_heap_other hk)⟩

theorem CW.rangeFunc{st:Bool}{g:Operand}{ps:Array Tmp}{SO body:Code}{gf:FuncId}{lb:List Value}{X:Nat->List Value->Prop}{N:Nat}{C:y7->Prop}(hg:ev env g=some (.func (.func gf) #[] lb.toArray))(he:∀args w,(callFunc gf args).run P w= .ok (.enter gf args) w)
    (Hu:MA st P gf lb X N C) (Zn:∀i x,X i x->x.length=ps.size) (C_:∀p∈ps.toList,p < n) (I:Nat->y7->Prop) (E:Exit->y7->Prop)
    (hI:∀i h1 h2,uu h.size h1 h2->I i h1->I i h2) (hE:∀x h1 h2,uu h.size h1 h2->E x h1->E x h2) (hC:∀i h',I i h'->C h') (hI2:∀i h1 h2,I i h1->tc ([]:List Nat) h1 h2->I i h2) (yL:st=true->∀h',¬I N h') (h0:I 0 h)
    (Df:∀i x h',X i x->I i h'->CW P n SO (λe fk h1=>e= .normal/\∀h2,uu h.size h1 h2->CW P n body (aj (I (i+1)) E) fk h2) (lB ps.toList x env) h')
    (Dc:∀h',I N h'->PK P n R k .normal env h') (Vk:∀h',E .ret h'->PK P n R k .ret env h') (hex:∀i h',E (.exit i) h'->PK P n R k (.exit i) env h') (vu:∀i h',¬E (.goto i) h') :
    CW P n (.rangeFunc g ps SO body) (PK P n R k) env h:=by
  refine⟨λrd m B a w ha hf hr hw hB=>wpIn_rangeFunc λfn hfn=>?_⟩
  subst hw
  obtain⟨l,mark,W1,D,AU,hl,MV,nP,hold,lM⟩:=XM (P:=P) (hB rfl) hr hf fn a.tmps ps SO body
  have Ax:uu w.heap.size w.heap W1.heap:=⟨nP.size,λk hk=> .inl (hold k hk)⟩
  refine⟨l,mark,W1,{ target:= .fn (.func gf) lb.toArray,args:=#[.func (.yield l) #[] #[]] },W1,gf,((.func (.yield l) #[] #[]) :: lb).toArray,W1,AU, ?_,λ_ _=>trivial, ?_,λh=>(by cases h), ?_⟩
  · simp only [resolve,ha.ev hg]
    simp [go_sem]
  · simp [invoke,go_sem,he]
  · -- what stands through the rounds: the Ii record, and all else that loops yB
    let sP:LoopState->Option Code->Loop:=λst pe=>{ state:=st,pending:=pe,fn:=fn,tmps:=a.tmps,params:=ps,assign:=SO,body:=body,defers:=D }
    let Kp:y7->Prop:=λh'=>W1.heap.size<=h'.size/\∀q o,q≠l->W1.heap[q]?=some o->mU o=true->h'[q]?=some o
    have ZN:∀(W:World) (o:Obj),Kp W.heap->Kp (W.putObj l o).heap:=λW o hk=>⟨by simpa using hk.1,λq o' hq h1 h2=>(World.putObj_heap_other hq).trans (hk.2 q o' hq h1 h2)⟩
    have Un:∀W W':World,yW W W'->Kp W.heap->Kp W'.heap:=λW W' hs hk=>⟨Nat.le_trans hk.1 hs.size,λq o hq h1 h2=>hs.SN q o (hk.2 q o hq h1 h2) h2⟩
    have Vo:∀(W:World),Sm W1 W->Kp W.heap->yW w W/\Fr B (mark ++ a.defers) W.heap:=λW hs hk =>
      ⟨⟨hs.os.trans nP.os,hs.tape.trans nP.tape,hs.output.trans nP.output,Nat.le_trans nP.drawn hs.drawn,Nat.le_trans nP.size hk.1,λq o h1 h2=>hk.2 q o (by have:=(zA.1 h1).1;omega) (nP.SN q o h1 h2) h2⟩,
       ⟨λb hb=>Nat.le_trans (lM.le b hb) hk.1,lM.nd,λd hd=>by
          obtain⟨D',b,h1,h0,h2,h3⟩:=lM.oK d hd
          exact⟨D',b,h1,h0,h2,hk.2 D' _ (λe=>by subst e;rw [MV] at h3;cases h3) h3 rfl⟩⟩⟩
    have ei:xf n env { a with defers:=mark ++ a.defers }:=⟨ha.size,ha.val⟩
    have De:=Hu.run l (λi h'=>h'[l]?=some (.loop (sP .ready none))/\Kp h'/\I i h') (λ_ h'=>∃c,h'[l]?=some (.loop (sP .done (some c)))/\Kp h'/\Ml E c h') W1 (λi h' hj=>hC i h' hj.2.2)
      (λi h1 h2 ⟨j1,j2,j3⟩ hs=>by
        have Rv:∀(k:Nat) (o:Obj),h1[k]?=some o->h2[k]?=some o:=λk o hk=>(hs.same k (zA.1 hk).1 zd).trans hk
        exact⟨Rv _ _ j1,⟨Nat.le_trans j2.1 hs.size,λq o hq g1 g2=>Rv _ _ (j2.2 q o hq g1 g2)⟩,hI2 i h1 h2 j3 hs⟩)
      (λh9 h' hj=>yL h9 h' hj.2.2) ?_
      ⟨MV,⟨Nat.le_refl _,λ_ _ _ h _=>h⟩,hI 0 _ _ Ax h0⟩
    · have h2:CallsIn (wide rd) (m - 1) P gf ((.func (.yield l) #[] #[]) :: lb).toArray W1 _:=(callsIn_wide (n:=m - 1)).2 (De.mono (R':=rangePost (wide rd) m P l (lift n B w (PK P n R k)) { a with defers:=mark ++ a.defers }) ?_)
      · exact h2
      rintro e W2 ⟨⟨v,rfl⟩,bf,(⟨ku,lK,pU⟩|⟨i,hi,c,ku,lK,pU⟩)⟩
      · have gO:uu w.heap.size W2.heap (W2.putObj l (.loop { sP .ready none with state:= .exhausted })).heap:=uu.put ku rfl hl
        obtain⟨g1,g2⟩:=Vo _ (bf.trans (Sm.put W2 l (.loop { sP .ready none with state:= .exhausted }))) (ZN W2 _ lK)
        exact⟨none,_,run_endLoop (P:=P) ku (by simp [sP]),g1,g2,env,ei,Dc _ (hI _ _ _ gO pU)⟩
      · have gO:uu w.heap.size W2.heap (W2.putObj l (.loop { sP .done (some c) with state:= .exhausted })).heap:=uu.put ku rfl hl
        obtain⟨g1,g2⟩:=Vo _ (bf.trans (Sm.put W2 l (.loop { sP .done (some c) with state:= .exhausted }))) (ZN W2 _ lK)
        refine⟨some c,_,run_endLoop (P:=P) ku (by simp [sP]), ?_⟩
        show c.wpIn (wide rd) m P _ _ _
        cases c <;> simp only [Ml] at pU
        case ret=>exact wpIn_ret ⟨g1,g2,env,ei,Vk _ (hE _ _ _ gO pU)⟩
        case exit i=>exact wpIn_exit ⟨g1,g2,env,ei,hex i _ (hE _ _ _ gO pU)⟩
        case goto i=>exact absurd pU (vu i _)
    · -- one round
      rintro i x w1 hx ⟨ku,lK,pU⟩ tV
      have hlen:x.toArray.size=(sP .ready none).params.size:=by simpa [sP] using Zn i x hx
      have z09:xf n (lB ps.toList x env) { tmps:=(ps.zip x.toArray).foldl (λt p=>t.setIfInBounds p.1 p.2) a.tmps,defers:= [] }:=by
        have:=xf.par (ds:= []) ps.toList x env a.tmps C_ ⟨ha.size,ha.val⟩
        have e9:(ps.zip x.toArray).foldl (λt p=>t.setIfInBounds p.1 p.2) a.tmps=(ps.toList.zip x).foldl (λt p=>t.setIfInBounds p.1 p.2) a.tmps:=by cases ps;simp
        rw [e9];exact this
      have AP:∀H:y7,Fr (some 0) [] H:=λH=>⟨λb hb=>by cases hb;exact zZ _,List.nodup_nil,λd hd=>by cases hd⟩
      refine⟨fn,_,SO,body,run_yield (P:=P) ku hlen,roundIn_of_wpIn trivial (wpIn_mono ((Df i x _ hx pU).run (some l) 0 (some 0) _ w1 z09 (AP _) (λl' Gh=>by cases Gh;exact⟨_,ku⟩) rfl λ_=>rfl) λea aa wa WS=>?_)⟩
      have AJ:ea= .normal/\yW w1 wa/\Fr (some 0) aa.defers wa.heap/\∃fk,xf n fk aa/\∀h2,uu w.heap.size wa.heap h2->CW P n body (aj (I (i+1)) E) fk h2:=by
        cases ea <;> simp only [lift] at WS
        case normal=>obtain⟨q1,q2,e1,q3,_,q4⟩:=WS;exact⟨rfl,q1,q2,e1,q3,q4⟩
        all_goals(obtain⟨_,_,_,_,q,_⟩:=WS;cases q)
      obtain⟨rfl,jO,Bf,fk,z08,hbo⟩:=AJ
      have Ru:=jO.SN l _ ku rfl
      have bn:=Un _ _ jO lK
      refine⟨_,run_beginRound Ru rfl, ?_⟩
      have xC:=(zA.1 Ru).1
      have Hr:(wa.putObj l (.loop { sP .ready none with state:= .busy })).heap[l]?=some (.loop { sP .ready none with state:= .busy }):=World.putObj_heap_same xC
      have wq:=(hbo _ (uu.put (o':= .loop { sP .ready none with state:= .busy }) Ru rfl hl)).run (some l) 0 (some 0) aa (wa.putObj l (.loop { sP .ready none with state:= .busy })) z08 ⟨λb hb=>by cases hb;exact zZ _,Bf.nd,λd hd=>by
          obtain⟨D',b,r1,r0,r2,r3⟩:=Bf.oK d hd
          exact⟨D',b,r1,r0,r2,(World.putObj_heap_other (λe=>by subst e;rw [Ru] at r3;cases r3)).trans r3⟩⟩ (λl' Gh=>by cases Gh;exact⟨_,Hr⟩) rfl λ_=>rfl
      refine wpIn_mono wq λe a2 w2 SE=>?_
      have fin:∀(jump:Option Code),yW (wa.putObj l (.loop { sP .ready none with state:= .busy })) w2->
          (Instr.endRound l jump).run P w2= .ok (.bool jump.isNone) (w2.putObj l (.loop (sP (if jump.isNone then .ready else .done) jump)))/\uu w.heap.size w2.heap (w2.putObj l (.loop (sP (if jump.isNone then .ready else .done) jump))).heap/\
          (w2.putObj l (.loop (sP (if jump.isNone then .ready else .done) jump))).heap[l]?=some (.loop (sP (if jump.isNone then .ready else .done) jump))/\Kp (w2.putObj l (.loop (sP (if jump.isNone then .ready else .done) jump))).heap/\
          Sm w1 (w2.putObj l (.loop (sP (if jump.isNone then .ready else .done) jump))):=λjump hs=>by
        have h9:=hs.SN l _ Hr rfl
        exact⟨run_endRound (P:=P) jump h9,uu.put h9 rfl hl,World.putObj_heap_same (zA.1 h9).1,ZN _ _ (Un _ _ hs (ZN _ _ bn)),jO.sm.trans ((Sm.put _ _ _).trans (hs.sm.trans (Sm.put _ _ _)))⟩
      cases e with
      | normal =>
        obtain⟨hs,_,_,_,hq⟩:=SE
        obtain⟨g1,g2,g3,g4,g5⟩:=fin none hs
        exact⟨_,_,g1,g5,.inl ⟨rfl,g3,g4,hI _ _ _ g2 hq⟩⟩
      | ret =>
        obtain⟨hs,_,_,_,hq⟩:=SE
        obtain⟨g1,g2,g3,g4,g5⟩:=fin (some .ret) hs
        exact⟨_,_,g1,g5,.inr ⟨rfl,_,g3,g4,hE _ _ _ g2 hq⟩⟩
      | exit q =>
        obtain⟨hs,_,_,_,hq⟩:=SE
        obtain⟨g1,g2,g3,g4,g5⟩:=fin (some (.exit q)) hs
        exact⟨_,_,g1,g5,.inr ⟨rfl,_,g3,g4,hE _ _ _ g2 hq⟩⟩
      | goto q =>
        obtain⟨hs,_,_,_,hq⟩:=SE
        exact absurd hq (vu q _)
      | panic c=>exact SE.elim
      | outgrown=>exact SE.elim
end

structure ItG (st:Bool) (P:Program) (gf:FuncId) (caps:List AV) (X:Nat->List AV->Prop) (N:Nat):Prop where
 run:∀h G vs,(∀b,G b->b < h.size)->xb h G vs caps->MA st P gf vs (λi y=>∃x,X i x/\xb h G y x) N (λh'=>uo G h h')
def X8:List Tmp->List AV->EA->EA
 | p :: ps,v :: vs,e=>X8 ps vs ((p,v) :: e)
 | _,_,e=>e
theorem dP{h:y7}{G:Nat->Prop} :∀(ps:List Tmp) (vs:List Value) (yM:List AV) (e:EA) (env:Env),xb h G vs yM->(∀t a,xd e t=some a->∃v,look env t=some v/\a.R h G v)->∀t a,xd (X8 ps yM e) t=some a->∃v,look (lB ps vs env) t=some v/\a.R h G v
 | [],_,_,_,_,_,he=>by simpa [X8,lB] using he
 | _ :: _,[],[],_,_,_,he=>by simpa [X8,lB] using he
 | p :: ps,v :: vs,a :: yM,e,env,⟨h1,h2⟩,he=>by
  simp only [X8,lB]
  refine dP ps vs yM _ _ h2 λt b hb=>?_
  rw [vJ] at hb
  rw [uW]
  by_cases hk:p=t
  ·rw [if_pos hk] at hb ⊢;cases hb;exact⟨v,rfl,h1⟩
  ·rw [if_neg hk] at hb ⊢;exact he t b hb
theorem yF.grow{h0:y7}{G0 O0:Nat->Prop}{own:List yh}{h h2:y7}{G:Nat->Prop}{Os:List (Nat->Prop)}(c:yF h0 G0 O0 own h G Os)(s:tc ([]:List Nat) h h2):yF h0 G0 O0 own h2 G Os:=by
 have hx:∀S,uo S h h2:=λS=>⟨s.size,λb _ hb=>s.same b hb zd⟩
 have h1:=c.fp.size
 have h3:=s.size
 refine⟨xy.wm (λO _=>hx _) c.own,λb hb=>⟨by have:=(c.g b hb).1;omega,(c.g b hb).2.imp id λq=>⟨q.1,q.2.eq (s.same b (c.g b hb).1 zd)⟩⟩,c.g0,λO hO b hb=>⟨by have:=(c.o O hO b hb).1;omega,(c.o O hO b hb).2⟩,c.d,⟨z6,λb hb hl=>?_⟩⟩
 rw [s.same b z6 zd]
 exact c.fp.same b hb hl
def DS(h0:y7)(G0 O0:Nat->Prop)(M:Exit->List yh->Prop):Exit->Env->y7->Prop:=λx _ h=>∃own G Os,M x own/\yF h0 G0 O0 own h G Os
section
variable {Γ:Cx} {k:List KI} {e:EA} {o:List yh}
theorem PA.rd{x:Exit}{M:Exit->List yh->Prop}(o':List yh)(hs:lF o o')(hm:M x o'):PA Γ (.rd (DS Γ.h0 Γ.G0 Γ.O0 M) :: k) x e o :=
 ⟨λ_ _ G _ cn=>PK.rd (let ⟨yz,c,_⟩:=cn.hp.sub hs;⟨o',G,yz,hm,c⟩)⟩
theorem PA.brk(Oj:∀b,Γ.G0 b->b < Γ.h0.size)(bH:Γ.fp.n=none)(h:PA Γ k .normal e o):PA Γ (.brk Γ.h0.size :: k) .normal e o :=
 ⟨λenv _hh G Os cn=>PK.brk λh' hs=>h.h env h' G Os ⟨cn.hp.shut Oj hs,λt a ha=>let ⟨v,h1,h2⟩:=cn.env t a ha;⟨v,h1,a.wm (cn.hp.ZF Oj hs) h2⟩,r5.none bH⟩⟩
def CE(J:List yh->Prop)(E:Exit->List yh->Prop):Exit->List yh->Prop
 | .normal,o=>J o
 | x,o=>E x o
theorem CA.Jo{st:Bool}{P:Program}{tt:Nat->Option TI}{en:Nat->Bool}{ok:xh P tt en}{T:Nat->Ord×(Nat->xa)}{n:Nat}{rs:Array ResultVar}{K:AV->List yh->Prop}{h0:y7}{G0 O0:Nat->Prop}{g:Operand}{ps:Array Tmp}{SO body:Code}{gf:FuncId}{caps:List AV}{X:Nat->List AV->Prop}{N:Nat}
  (hg:xr e g=some (.fn gf caps)) (he:en gf=true) (Hu:ItG st P gf caps X N) (Zn:∀i x,X i x->x.length=ps.size) (C_:(ps.toList.all (Nat.blt · n))=true) (J:Nat->List yh->Prop) (E:Exit->List yh->Prop) (yL:st=true->∀o',¬J N o') (hj:J 0 o)
  (hb:∀i x o',X i x->J i o'->∀h0 G0 O0,(∀b,G0 b->b < h0.size)->CA ⟨P,tt,en,ok,T,n,rs,K,h0,G0,O0,⟨none⟩⟩ [.brk h0.size,.code body,.rd (DS h0 G0 O0 (CE (J (i+1)) E))] SO (X8 ps.toList x e) o')
  (hd:∀o',J N o'->PA ⟨P,tt,en,ok,T,n,rs,K,h0,G0,O0,⟨none⟩⟩ k .normal e o') (Vk:∀o',E .ret o'->PA ⟨P,tt,en,ok,T,n,rs,K,h0,G0,O0,⟨none⟩⟩ k .ret e o') (hex:∀i o',E (.exit i) o'->PA ⟨P,tt,en,ok,T,n,rs,K,h0,G0,O0,⟨none⟩⟩ k (.exit i) e o') (vu:∀i o',¬E (.goto i) o') :
  CA ⟨P,tt,en,ok,T,n,rs,K,h0,G0,O0,⟨none⟩⟩ k (.rangeFunc g ps SO body) e o:=by
 refine⟨λenv h G Os cn=>?_⟩
 obtain⟨v,g1,vs,rfl,g2⟩:=cn.get hg
 have AM:=Hu.run h G vs (λb hb=>(cn.hp.g b hb).1) g2
 have hp0:yF h0 G0 O0 (o ++ []) h G (Os ++ []):=by simpa using cn.hp
 have Bw:∀b,G b->b < h.size:=λb hb=>(cn.hp.g b hb).1
 have hGU:∀b,G b->¬U Os b:=λb hb ⟨O,hO,ho⟩=>(cn.hp.o O hO b ho).2.2 hb
 have inn:yF h G (U Os) o h G Os:=hp0.inner cn.hp.own
 have back:∀h' o' G' yz,yF h G (U Os) o' h' G' yz->vM ⟨P,tt,en,ok,T,n,rs,K,h0,G0,O0,⟨none⟩⟩ ⟨e,o'⟩ env h' G' yz:=λh' o' G' yz c'=>by
  obtain⟨k1,k2,k3⟩:=hp0.call (r2:= []) (o2:= []) trivial c'
  refine⟨by simpa using k1,λt a ha=>?_,r5.none rfl⟩
  obtain⟨u,h1,h2⟩:=cn.env t a ha
  exact⟨u,h1,a.mono k3 (a.wm k2 h2)⟩
 refine CW.rangeFunc g1 (λargs w=>ok.Ms gf he args w) AM (λi y ⟨x,hx,hr⟩=>by rw [hr.len];exact Zn i x hx) (λp hp=>by simpa using List.all_eq_true.1 C_ p hp)
  (λi h'=>∃o' G' yz,J i o'/\yF h G (U Os) o' h' G' yz) (λx h'=>∃o' G' yz,E x o'/\yF h G (U Os) o' h' G' yz)
  (λi h1 h2 hs ⟨o',G',yz,a1,a2⟩=>⟨o',G',yz,a1,a2.shut Bw hs⟩) (λi h1 h2 hs ⟨o',G',yz,a1,a2⟩=>⟨o',G',yz,a1,a2.shut Bw hs⟩)
  (λi h' ⟨o',G',yz,a1,a2⟩=>a2.fp.mono hGU) (λi h1 h2 ⟨o',G',yz,a1,a2⟩ hs=>⟨o',G',yz,a1,a2.grow hs⟩) (λh9 h' ⟨o',G',yz,a1,a2⟩=>yL h9 o' a1) ⟨o,G,Os,hj,inn⟩ ?_ ?_ ?_ ?_ ?_
 ·rintro i y h' ⟨x,hx,Ss⟩ ⟨o',G',yz,a1,a2⟩
  have hc:=back h' o' G' yz a2
  have hr:xb h' G' y x:=(Ss.wm (a2.fp.mono hGU)).mono a2.g0
  have yd:yF h G (U Os) o' h' G' yz:=a2
  have YN:∀x' e' h2,PK P n (fm ⟨P,tt,en,ok,T,n,rs,K,h,G,U Os,⟨none⟩⟩) [.rd (DS h G (U Os) (CE (J (i+1)) E))] x' e' h2->aj (λh'=>∃o' G' yz,J (i+1) o'/\yF h G (U Os) o' h' G' yz) (λx h'=>∃o' G' yz,E x o'/\yF h G (U Os) o' h' G' yz) x' e' h2:=λx' e' h2 hq=>by
   have hq:DS h G (U Os) (CE (J (i+1)) E) x' e' h2:=by
    unfold PK at hq;cases x' <;> exact hq
   obtain⟨o2,G2,qi,b1,b2⟩:=hq
   cases x' <;> exact⟨o2,G2,qi,b1,b2⟩
  refine CW.mono (λx' e' h2 hq=>?_) ((hb i x o' hx a1 h G (U Os) Bw).h (lB ps.toList y env) h' G' yz ⟨yd,dP ps.toList y x e env hr hc.env,r5.none rfl⟩)
  unfold PK at hq
  cases x' <;> simp only at hq
  case normal =>
   refine⟨rfl,λh3 hs=>?_⟩
   have:=hq h3 hs
   unfold PK at this
   exact CW.mono YN this
 ·rintro h' ⟨o',G',yz,a1,a2⟩
  exact(hd o' a1).h env h' G' yz (back h' o' G' yz a2)
 ·rintro h' ⟨o',G',yz,a1,a2⟩
  exact(Vk o' a1).h env h' G' yz (back h' o' G' yz a2)
 ·rintro i h' ⟨o',G',yz,a1,a2⟩
  exact(hex i o' a1).h env h' G' yz (back h' o' G' yz a2)
 ·rintro i h' ⟨o',G',yz,a1,a2⟩
  exact vu i o' a1
theorem CA.QH{α:Type}{y:Code}{b i:Nat}{T:TypeId}{cs:List AV}{rest:List yh}(tk:Take o (yr b T cs) rest)(hi:cs[i]?=some (.val (.slice none 0 0)))(T' sz:Nat)(f:α->List AV)
  (h:∀v,CA Γ k y e (yr b T (cs.set i (.ow v)) :: yb v T' sz [] f :: rest)):CA Γ k y e o:=by
 refine⟨λenv hh G Os cn=>?_⟩
 obtain⟨O,yz,yT⟩:=cn.take tk
 have hp:yF Γ.h0 Γ.G0 Γ.O0 (yb (.slice none 0 0) T' sz [] f :: yr b T cs :: rest) hh G ((λ_=>False) :: O :: yz):=yF.Rn yT.hp T' sz f
 obtain⟨h1,⟨ho,vs,hb,hr⟩,h2⟩:=hp.own
 obtain⟨u,hu,CR⟩:=hr.t.get hi
 have CR:u= .slice none 0 0:=CR
 subst CR
 have pC:vs.set i (.slice none 0 0)=vs:=by
  apply List.ext_getElem?
  intro j
  rw [List.getElem?_set]
  by_cases u5:i=j
  ·subst u5;rw [if_pos rfl,if_pos (zS.1 hu).1,hu]
  ·rw [if_neg u5]
 have bj:=hr.t.set i (v:= .slice none 0 0) (a:= .ow (.slice none 0 0)) ⟨rfl,none,0,0,rfl⟩
 rw [pC] at bj
 have kr:yF Γ.h0 Γ.G0 Γ.O0 (yr b T (cs.set i (.ow (.slice none 0 0))) :: yb (.slice none 0 0) T' sz [] f :: rest) hh G (O :: (λ_=>False) :: yz):=hp.perm ⟨⟨ho,vs,hb,bj,hr.one⟩,h1,h2⟩ (List.Perm.swap _ _ _)
 exact(h (.slice none 0 0)).h env hh G _ ⟨kr,cn.env,cn.nf⟩
end
def yl(n:Nat)(Q:Exit->Env->World->Prop):Exit->Act->World->Prop
 | .panic _,_,_=>False
 | .outgrown,_,_=>False
 | .normal,a,w=>a.defers= []/\∃env,xf n env a/\Q .normal env w
 | .ret,a,w=>a.defers= []/\∃env,xf n env a/\Q .ret env w
 | .exit i,a,w=>a.defers= []/\∃env,xf n env a/\Q (.exit i) env w
 | .goto i,a,w=>a.defers= []/\∃env,xf n env a/\Q (.goto i) env w
structure YC (P:Program) (n:Nat) (c:Code) (Q:Exit->Env->World->Prop) (env:Env) (w:World):Prop where
 run:∀a,xf n env a->a.defers= []->c.wpIn (wide none) 0 P (yl n Q) a w
structure YO (P:Program) (n:Nat) (ops:Array Oper) (Q:Exit->Env->World->Prop) (l:List Oper) (env:Env) (w:World):Prop where
 run:∀a,xf n env a->a.defers= []->wpListIn (wide none) 0 P ops (yl n Q) l a w
def DO(K:Env->World->Prop)(Q:Exit->Env->World->Prop):Exit->Env->World->Prop
 | .normal,e,w=>K e w
 | x,e,w=>Q x e w
def FD(id:Nat)(Q:Exit->Env->World->Prop):Exit->Env->World->Prop
 | .exit i,e,w=>if i=id then Q .normal e w else Q (.exit i) e w
 | x,e,w=>Q x e w
section
variable {P:Program} {n:Nat} {Q:Exit->Env->World->Prop} {env:Env} {w:World} {ops:Array Oper} {l:List Oper}
theorem YC.seq{x y:Code}(hx:YC P n x (DO (λe w=>YC P n y Q e w) Q) env w):YC P n (.seq x y) Q env w:=by
 refine⟨λa ha hd=>wpIn_seq (wpIn_mono (hx.run a ha hd) λe a1 w1 hl=>?_)⟩
 cases e <;> simp only [yl,DO,Exit.then] at hl ⊢
 case normal=>obtain⟨h1,e1,h2,h3⟩:=hl;exact h3.run a1 h2 h1
 all_goals exact hl
theorem YC.ret(hk:Q .ret env w):YC P n .ret Q env w:=⟨λ_ ha hd=>wpIn_ret ⟨hd,env,ha,hk⟩⟩
theorem YC.cond{c:Operand}{x y:Code}{b:Bool}(hc:ev env c=some (.bool b))(hx:b=true->YC P n x Q env w)(hy:b=false->YC P n y Q env w):YC P n (.cond c x y) Q env w :=
 ⟨λa ha hd=>wpIn_cond_split (ha.ev hc) (λhb=>(hx hb).run a ha hd) (λhb=>(hy hb).run a ha hd)⟩
theorem YC.block{id:Nat}{c:Code}(hc:YC P n c (FD id Q) env w):YC P n (.block id c) Q env w:=by
 refine⟨λa ha hd=>wpIn_block (wpIn_mono (hc.run a ha hd) λe a1 w1 hl=>?_)⟩
 cases e <;> simp only [yl,FD,Exit.inBlock] at hl ⊢
 case exit i =>
  obtain⟨h1,e1,h2,h3⟩:=hl
  split
  ·rename_i hi;rw [if_pos hi] at h3;exact⟨h1,e1,h2,h3⟩
  ·rename_i hi;rw [if_neg hi] at h3;exact⟨h1,e1,h2,h3⟩
 all_goals exact hl
theorem YC.loop{c:Code}(I:Nat->Env->World->Prop)(m0:Nat)(h0:I m0 env w)(round:∀m e w,I m e w->YC P n c (DO (λe' w'=>∃m',m' < m/\I m' e' w') Q) e w):YC P n (.loop c) Q env w:=by
 refine⟨λa0 Gs Bm b kk cs PV hb hr=>?_⟩
 have key:∀m e a w,I m e w->xf n e a->a.defers= []->
   ∃e a' w',yl n Q e a' w'/\ArrivesIn (Machine.fenced P (wide none)) P (lone (b.atR a (.code c :: .inLoop c :: kk)) cs w) b kk cs e a' w':=by
  intro m
  induction m using Nat.strongRecOn with
  | _ m ih =>
   intro e a w hI ei SJ
   obtain⟨x,a1,w1,hq,nZ⟩:=(round m e w hI).run a ei SJ b (.inLoop c :: kk) cs PV hb hr
   cases x with
   | normal =>
    simp only [yl,DO] at hq
    obtain⟨Og,e1,Lr,m',xC,Bv⟩:=hq
    obtain⟨e2,a2,w2,lJ,VQ⟩:=ih m' xC e1 a1 w1 Bv Lr Og
    exact⟨e2,a2,w2,lJ,.of_steps (StepsIn.trans nZ (.one (fenced_calm hb hr rfl) stepR_inLoop)) VQ⟩
   | exit id=>exact⟨(.exit id),a1,w1,(show yl n Q (.exit id) a1 w1 from hq),.pass (x:= .inLoop c) rfl (λ_ _=> .inl zd) nZ⟩
   | goto l=>exact⟨(.goto l),a1,w1,(show yl n Q (.goto l) a1 w1 from hq),.pass (x:= .inLoop c) rfl (λ_ _=> .inl zd) nZ⟩
   | ret=>exact⟨.ret,a1,w1,(show yl n Q .ret a1 w1 from hq),.pass (x:= .inLoop c) rfl (λ_ _=> .inl zd) nZ⟩
   | panic ch=>exact hq.elim
   | outgrown=>exact hq.elim
 obtain⟨e,a',w',hq,nZ⟩:=key m0 env a0 w h0 Gs Bm
 exact⟨e,a',w',hq,.of_steps (.one (fenced_calm hb hr rfl) stepR_loop) nZ⟩
theorem YC.region{id:Nat}(hr:YO P n l.toArray Q l env w):YC P n (.region id l.toArray false) Q env w:=⟨λa ha hd=>wpIn_region_lit (hr.run a ha hd)⟩
theorem YO.nil(hq:Q .normal env w):YO P n ops Q [] env w:=⟨λ_ ha hd=>⟨hd,env,ha,hq⟩⟩
theorem YO.step{o:Oper}(hg:o.guard=none)(hd:eB n o.dst=true)(hn:∀c,o.op≠ .defer c)(hs:St P n ([]:List Nat) .read o.dst o.op o.type env w.heap (λe _=>YO P n ops Q l e w)):YO P n ops Q (o :: l) env w:=by
 obtain⟨v,h1,h2⟩:=hs.rd rfl
 refine⟨λa ha SJ=>wpListIn_plain hg λK hK=>⟨λ_ _=>trivial, ?_⟩⟩
 rw [Oper.semAt_eq _ _ _ hn,xj,h1 a w ha (tc.refl _)]
 exact hK _ _ (h2.run _ (ha.put hd v) (by rw [lV];exact SJ))
theorem YO.yield{o:Oper}{lp:Nat}{x:Operand}{args:Array Operand}{at':Array TypeId}{vs:List Value}(ho:o.op= .call { callee:= .value x,args:=args,argTypes:=at' })(hg:o.guard=none)(hd:eB n o.dst=true)(hx:ev env x=some (.func (.yield lp) #[] #[]))(hv:vm env args.toList=some vs)
  (hy:YieldAt Fence.wide 0 P lp vs.toArray w λe w'=>∃v,e= .returned v/\YO P n ops Q l (rG env o.dst v) w'):YO P n ops Q (o :: l) env w:=by
 obtain⟨fn,tmps,assign,body,wq,Iy⟩:=hy
 refine⟨λa ha SJ=>wpListIn_plain hg λK hK=>⟨λ_ _=>trivial, ?_⟩⟩
 have ZM:args.map a.eval=vs.toArray:=by
  apply Array.ext'
  rw [Array.toList_map]
  exact ha.vm hv
 have h2:(execOp a.eval (yI o.op o.type)).run P w= .ok (.round lp fn tmps assign body) w:=by
  rw [ho]
  simp [yI,execOp,resolve,invoke,ha.ev hx,ZM,wq,Deferred.ofValue]
 rw [Oper.semAt_eq _ _ _ (λc h=>by rw [ho] at h;cases h),xj,h2]
 refine⟨λh=>(by cases h),RoundIn.mono (show RoundIn (wide none) (0 - 1) P lp fn tmps assign body w _ from Iy) λe w' ⟨v,he,hk⟩=>?_⟩
 subst he
 exact hK _ _ (hk.run _ (ha.put hd v) (by rw [lV];exact SJ))
theorem YC.calls{f:FuncId}{fn:Func}{c:Code}{vs:List Value}{R:World->Prop}(hf:P.funcs[f]?=some fn)(hb:fn.body=some c)(hn:fn.ntmps=n)(hr:fn.results=#[])(hl:Nat.ble vs.length n=true)
  (hc:YC P n c (λe _ w'=>(e= .normal∨e= .ret)/\R w') (kL 0 vs) w):Calls P f vs.toArray w λe w'=>(∃v,e= .returned v)/\R w':=by
 refine calls_of_wp hf hb ((wpIn_wide (n:=0)).1 (wpIn_mono (hc.run _ ⟨?_,λt v hv=>?_⟩ rfl) λe a w1 hl=>?_))
 ·have:=zB hl
  simp only [Array.size_append,List.size_toArray,Array.size_replicate,hn]
  omega
 ·obtain⟨_,h2⟩:=mz vs 0 t v hv
  have xC:t < vs.length:=by
   have:=(zS.1 h2).1
   omega
  rw [Array.getElem?_append_left (by simpa using xC)]
  simpa using h2
 ·cases e <;> simp only [yl] at hl <;> simp only [bodyPost]
  case normal=>obtain⟨hd,env,ha,_,hq⟩:=hl;exact⟨hd,_,results_none hr _ _ _,⟨_,rfl⟩,hq⟩
  case ret=>obtain⟨hd,env,ha,_,hq⟩:=hl;exact⟨hd,_,results_none hr _ _ _,⟨_,rfl⟩,hq⟩
  case exit=>obtain⟨_,_,_,h,_⟩:=hl;rcases h with h|h <;> cases h
  case goto=>obtain⟨_,_,_,h,_⟩:=hl;rcases h with h|h <;> cases h
theorem YC.bP{Γ:Cx}{c:Code}{e:EA}{o:List yh}{env:Env}{w:World}{G:Nat->Prop}{Os:List (Nat->Prop)}{Q:Exit->Env->World->Prop}{α:Type}(st:α->AS)(J:α->Prop)(hr:WL c=false)(hK:Γ.K=λ_ _=>False)
  (hc:CA Γ [.lp (HS Γ st J)] c e o) (cn:vM Γ ⟨e,o⟩ env w.heap G Os) (hk:∀x rH w' G' yz,J x->yW w w'->vM Γ (st x) rH w'.heap G' yz->Q .normal rH w'):YC Γ.P Γ.n c Q env w:=by
 refine⟨λa ha hd=>wpIn_mono ((hc.h env w.heap G Os cn).run none 0 none a w ha ⟨λb hb=>(by cases hb),by rw [hd];exact List.nodup_nil,λd hm=>(by rw [hd] at hm;cases hm)⟩ (λl hl=>by cases hl) rfl λh=>(by rw [hr] at h;cases h)) λx a' w' hl=>?_⟩
 have Vk:∀e h,¬PK Γ.P Γ.n (fm Γ) [.lp (HS Γ st J)] .ret e h:=λe h hp=>by
  unfold PK at hp;unfold PK at hp
  obtain⟨v,r,wE,G',yz,-,h1,-⟩:=hp
  rw [hK] at h1;exact h1
 cases x <;> simp only [lift,yl] at hl ⊢
 case normal =>
  obtain⟨hs,hf,e1,ei,hp⟩:=hl
  unfold PK at hp
  obtain⟨p,qm,⟨G',yz,cn'⟩,hj⟩:=hp
  exact⟨hf.nil,p.2,ei.sub qm,hk p.1 p.2 w' G' yz hj hs cn'⟩
 case ret=>obtain⟨_,_,e1,_,hp⟩:=hl;exact(Vk _ _ hp).elim
 case exit=>obtain⟨_,_,e1,_,hp⟩:=hl;unfold PK at hp;unfold PK at hp;exact hp.elim
 case goto=>obtain⟨_,_,e1,_,hp⟩:=hl;unfold PK at hp;unfold PK at hp;exact hp.elim
theorem YO.pass{o:Oper}(hg:gd ops env o false)(hd:eB n o.dst=true)(hs:YO P n ops Q l (rG env o.dst undef) w):YO P n ops Q (o :: l) env w:=by
 refine⟨λa ha SJ=>?_⟩
 unfold wpListIn
 rw [if_neg (by rw [hg n a ha];exact Bool.false_ne_true)]
 exact⟨λ_ _=>trivial,hs.run _ (ha.put hd undef) (by rw [lV];exact SJ)⟩
end
end Go.CF
namespace Go.Proofs.YtmjllbjfkafhdaaGreatDoor
open Go Go.CF
structure Xm (s:ByteArray) (k:Int) (j n:Nat):Prop where
 sk:sy s 0 j
 nm:k=1↔(j < s.size/\yH (yf s j)/\¬kR cZ (s.extract j (j+n)))
 w:j < s.size->yH (yf s j)->j+n<=s.size/\ob s j (j+n)/\(j+n < s.size->¬isWord (yf s (j+n)))
theorem sy.le'{s:ByteArray}{j:Nat}(h:sy s 0 j):j<=s.size:=(h.le (zZ _)).2.1
def Zi(k:Int)(j e:Int):List AV:= [it k,it 0,it j,it e]
abbrev yv (lp:Nat):AV:= .val (.func (.yield lp) #[] #[])
theorem LI(s:ByteArray)(hs:s.size<=4096):ItG true Tryz.prog 281 [.ad [sv s] 0,.ad [.rs cZ] 0] (λi x=>i=0/\∃(k:Int) (j n:Nat),x= [.agg (Zi k j ((j:Int)+n))]/\Xm s k j n) 1:=by
 obtain⟨j,hj⟩:=sy.ex s _ 0 rfl
 have lL:=hj.le'
 have SC:y6 Tryz.prog 282 [sv (s.extract 0 s.size)] (it j):=by rw [sK];exact Qa z6 hj
 have DZ:=ub s j
 have D8:en 285=true:=rfl
 have AX:en 286=true:=rfl
 have SZ:∀(k:Int) (n:Nat),(j < s.size->yH (yf s j)->False)->k≠1->Xm s k j n:=λk n h1 h2=>⟨hj,⟨λh=>absurd h h2,λh=>(h1 h.1 h.2.1).elim⟩,λh3 h4=>(h1 h3 h4).elim⟩
 obtain⟨L,hL⟩:∃L,L=cZ:=⟨_,rfl⟩
 have hkw:∀(q:ByteArray),kR cZ q↔q∈L:=λq=>by rw [hL];exact Tt
 rw [<-hL]
 refine⟨λh G vs hg hr=>?_⟩
 match vs,hr with
 | [v1,v2],⟨r1,r2,_⟩ =>
 refine⟨λlp J Jq w hC hgr yL hY hJ=>?_⟩
 have bH:=hC 0 _ hJ
 refine YC.calls (vs:= [.func (.yield lp) #[] #[],v1,v2]) (R:=λw'=>Sm w w'/\(J 1 w'.heap∨∃i,i<=1/\Jq i w'.heap)) Tryz.func281 rfl Tryz.ntmps281 Tryz.results281 rfl ?_
 obtain⟨Γ,hΓ⟩:∃Γ:Cx,Γ=⟨Tryz.prog,tt,en,pg,U8,93,#[],λ_ _=>False,w.heap,G,λ_=>False,⟨none⟩⟩:=⟨_,rfl⟩
 have cn0:vM ⟨Tryz.prog,tt,en,pg,U8,93,#[],λ_ _=>False,w.heap,G,λ_=>False,⟨none⟩⟩ ⟨bZ 0 [yv lp,.ad [sv s] 0,.ad [.rs L] 0],[]⟩ (kL 0 [.func (.yield lp) #[] #[],v1,v2]) w.heap G [] :=
  ⟨⟨trivial,λb hb=>⟨Nat.lt_of_lt_of_le (hg b hb) bH.size,.inl hb⟩,λ_ h=>h,λO hO=>(by cases hO),List.Pairwise.nil,uo.refl _⟩,pj _ _ 0 ⟨rfl,AV.wm _ bH r1,AV.wm _ bH r2,trivial⟩,r5.none rfl⟩
 refine YC.seq (YC.bP (α:=Unit) (λ_=>⟨[(0,yv lp),(1,.ad [sv s] 0),(2,.ad [.rs L] 0),(4,it (0:Nat))],[]⟩) (λ_=>True) rfl rfl ?_ cn0 ?_)
 ·repeat'(first|apply Sp.h|refine Lk.r rfl ?_|refine Rf.mk rfl ?_|fail)
  exact PA.lp () xE trivial
 rintro _ fk w1 G1 Os1 _ nP cn1
 refine YC.block (YC.loop (λ_ e w'=>e=fk/\w'=w1) 0 ⟨rfl,rfl⟩ ?_)
 rintro m e w' ⟨rfl,rfl⟩
 -- region 1: the token z0C
 refine YC.block (YC.seq (YC.bP (α:=Nat) (λb=>⟨[(0,yv lp),(1,.ad [sv s] 0),(2,.ad [.rs L] 0),(5,pm b)],[yr b 272 (Zi 0 j 0)]⟩) (λ_=>True) rfl rfl ?_ cn1 ?_))
 ·repeat'(first|apply Sp.h|refine Lk.r rfl ?_|refine Rf.mk rfl ?_|refine yc.mk λ_=>?_|refine xT ?_|(apply y4.r;focus repeat' constructor)|(apply Fk.r;focus repeat' first|infer_instance|constructor)|refine xN ?_|(apply Jx.r;{exact zj};{exact zb})|refine xO ?_|(apply Cl.p (SC);focus repeat' constructor))
  rw [show((0:Nat):Int)+(j:Int)=(j:Int) by omega]
  rename_i b
  exact PA.lp b xE trivial
 rintro b z4z w2 G2 qi _ bf yT
 refine YC.seq (YC.bP (α:=Unit) (λ_=>⟨[(0,yv lp),(1,.ad [sv s] 0),(2,.ad [.rs L] 0),(5,pm b),(6,sv (s.extract j s.size))],[yr b 272 (Zi 0 j 0)]⟩) (λ_=>True) rfl rfl ?_ yT ?_)
 ·unfold Zi
  repeat'(first|apply Sp.h|refine Lk.r rfl ?_|refine Rf.mk rfl ?_|refine xT ?_|(apply Jx.r;{exact zj};{exact zb})|fail)
  exact PA.lp () xE trivial
 rintro _ z4y w3 G3 L6 _ hs3 On
 refine YC.seq (YC.bP (α:=Unit) (λ_=>⟨[(0,yv lp),(2,.ad [.rs L] 0),(5,pm b),(6,sv (s.extract j s.size)),(7,it (0:Nat))],[yr b 272 (Zi 0 j 0)]⟩) (λ_=>True) rfl rfl ?_ On ?_)
 ·repeat'(first|apply Sp.h|refine Lk.r rfl ?_|refine Rf.mk rfl ?_|fail)
  exact PA.lp () xE trivial
 rintro _ z4x w4 G4 Os4 _ hs4 cn4
 -- the kind of the token, and its length
 refine YC.seq (YC.bP (α:=Int×Nat) (λx=>⟨[(0,yv lp),(5,pm b),(7,it x.2)],[yr b 272 (Zi x.1 j 0)]⟩) (λx=>Xm s x.1 j x.2/\x.2<=4096) rfl rfl ?_ cn4 ?_)
 ·clear hY hC hgr yL cn0 cn1 yT On cn4
  have Hh:∀i,j+i < s.size->yf (s.extract j s.size) i=yf s (j+i):=λi hi=>se s j s.size i (Nat.le_refl _) hi
  have hue:∀n,j+n<=s.size->(s.extract j s.size).extract 0 n=s.extract j (j+n):=λn hn=>by rw [P8 s j s.size 0 n hn,Nat.add_zero]
  have Oe:=mH (s.extract j s.size)
  generalize s.extract j s.size=u at DZ Hh hue Oe ⊢
  have PU:u.size<=1000000000:=z6
  unfold Zi
  by_cases hz:u.size=0
  ·have HW:=Oe.2 hz
   repeat'(first|apply Sp.h|refine Lk.r rfl ?_|refine Rf.mk rfl ?_|refine xA ?_|fail)
   exact PA.lp ((0:Int),(0:Nat)) xE ⟨SZ 0 0 (λh=>z6) z6,by simp only;omega⟩
  have HW:¬u.toList=(⟨#[]⟩:ByteArray).toList:=λh=>hz (Oe.1 h)
  have qg:=Hh 0 z6
  rw [Nat.add_zero] at qg
  by_cases hl:yH (yf u 0)
  ·obtain⟨n,hn⟩:=ab.ex isWord u
   have wq:=VB D8 Ju PU hn
   have Zo:=hn.le
   have hw:j+n<=s.size/\ob s j (j+n)/\(j+n < s.size->¬isWord (yf s (j+n))):=by
    refine⟨z6,λi h1 h2=>?_,λh=>?_⟩
    ·have:=hn.a (i - j) z6
     rw [Hh _ z6] at this
     rwa [show i=j+(i - j) by omega]
    ·have:=hn.b z6
     rwa [Hh _ z6] at this
   have hx:=hue n hw.1
   have bm:yH (yf s j):=by rw [<-qg];exact hl
   repeat'(first|apply Sp.h|refine Lk.r rfl ?_|refine Rf.mk rfl ?_|refine xA ?_|refine xB ?_|(refine Bd.mk ?_ ?_ <;> intro _)|refine yu.r rfl ?_|refine xT ?_|refine xV ?_|(apply Jx.r;{exact zj};{exact zb})|refine xD ?_|(apply Sx.r;{exact zj};{exact zc})|(apply Cl.p (vQ _);focus repeat' constructor)|(apply Cl.p (wq);focus repeat' constructor))
   all_goals rename_i hm
   ·rw [hx] at hm
    exact PA.lp ((2:Int),n) xE ⟨⟨hj,⟨λh=>z6,λh=>(h.2.2 ((hkw _).2 hm)).elim⟩,λ_ _=>hw⟩,by simp only;omega⟩
   ·rw [hx] at hm
    exact PA.lp ((1:Int),n) xE ⟨⟨hj,⟨λ_=>⟨z6,bm,λh=>hm ((hkw _).1 h)⟩,λ_=>rfl⟩,λ_ _=>hw⟩,by simp only;omega⟩
  have Zo:∀(k:Int) (n:Nat),k≠1->Xm s k j n:=λk n hk=>SZ k n (λ_ h=>hl (by rw [qg];exact h)) hk
  by_cases hd:isDigit (yf u 0)
  ·obtain⟨n,hn⟩:=ab.ex isDigit u
   have wq:=VB AX uD PU hn
   have:=hn.le
   repeat'(first|apply Sp.h|refine Lk.r rfl ?_|refine Rf.mk rfl ?_|refine xA ?_|refine xB ?_|refine xT ?_|refine xV ?_|(apply Sx.r;{exact zj};{exact zc})|(apply Cl.p (vQ _);focus(repeat' constructor);done)|(apply Cl.p (uD _);focus(repeat' constructor);done)|(apply Cl.p (wq);focus(repeat' constructor);done))
   exact PA.lp ((3:Int),n) xE ⟨Zo _ _ z6,by simp only;omega⟩
  repeat'(first|apply Sp.h|refine Lk.r rfl ?_|refine Rf.mk rfl ?_|refine xB ?_|(apply Sx.r;{exact zj};{exact zc})|(apply Cl.p (vQ _);focus repeat' constructor)|(apply Cl.p (uD _);focus repeat' constructor))
  refine xW (mr u PU) ?_
  rintro _ _ ⟨n1,rfl,rfl,C4⟩
  by_cases hp:0 < n1
  ·repeat'(first|apply Sp.h|refine Lk.r rfl ?_|refine Rf.mk rfl ?_|refine xA ?_|fail)
   refine xW (mr u PU) ?_
   rintro _ _ ⟨n2,rfl,rfl,B3⟩
   repeat'(first|apply Sp.h|refine Lk.r rfl ?_|refine Rf.mk rfl ?_|refine xT ?_|refine xV ?_|fail)
   exact PA.lp ((4:Int),n2) xE ⟨Zo _ _ z6,by simp only;omega⟩
  repeat'(first|apply Sp.h|refine Lk.r rfl ?_|refine Rf.mk rfl ?_|refine xB ?_|refine xT ?_|refine xV ?_|fail)
  refine CA.loop (λn:Nat=>⟨[(0,yv lp),(5,pm b),(6,sv u),(7,it n)],[yr b 272 (Zi 5 j 0)]⟩) (λn=>1<=n/\n<=u.size) (λn=>u.size - n) 1 xE ⟨Nat.le_refl _,z6⟩ ?_
  rintro n ⟨C4,B3⟩
  by_cases yd:n < u.size
  ·have hbg:=WA (u.extract n u.size) (by rw [ub];omega) (by rw [ub];omega)
   repeat'(first|apply Sp.h|refine Lk.r rfl ?_|refine Rf.mk rfl ?_|refine xA ?_|refine xB ?_|(refine Bd.mk ?_ ?_ <;> intro _)|(apply Jx.r;{exact zj};{exact zb})|(apply Sx.r;{exact zj};{exact zc})|(apply Cl.p (re _);focus repeat' constructor))
   all_goals try exact PA.lp ((5:Int),n) xE ⟨Zo _ _ z6,by simp only;omega⟩
   refine xW (hbg) ?_
   rintro _ _ ⟨bb,rfl,rfl⟩
   cases bb
   ·repeat'(first|apply Sp.h|refine Lk.r rfl ?_|refine Rf.mk rfl ?_|refine xB ?_|refine xO ?_|fail)
    exact PA.lp (n+1) xE ⟨⟨z6,yd⟩,z6⟩
   ·repeat'(first|apply Sp.h|refine Lk.r rfl ?_|refine xA ?_|refine xB ?_|fail)
    exact PA.lp ((5:Int),n) xE ⟨Zo _ _ z6,by simp only;omega⟩
  ·repeat'(first|apply Sp.h|refine Lk.r rfl ?_|refine Rf.mk rfl ?_|refine xB ?_|(apply Cl.p (re _);(focus repeat'(first|fail))))
   exact PA.lp ((5:Int),n) xE ⟨Zo _ _ z6,by simp only;omega⟩
 rintro⟨k,n⟩ z4w w5 G5 Os5 ⟨hT,hn9⟩ hs5 cn5
 simp only at hT hn9 cn5
 refine YC.seq (YC.bP (α:=Unit) (λ_=>⟨[(0,yv lp),(5,pm b)],[yr b 272 (Zi k j ((j:Int)+n))]⟩) (λ_=>True) rfl rfl ?_ cn5 ?_)
 ·unfold Zi
  repeat'(first|apply Sp.h|refine Lk.r rfl ?_|refine Rf.mk rfl ?_|refine xT ?_|refine xV ?_|refine xO ?_|fail)
  exact PA.lp () xE trivial
 rintro _ z4v w6 G6 Os6 _ hs6 cn6
 refine YC.seq (YC.bP (α:=Unit) (λ_=>⟨[(0,yv lp),(5,pm b)],[yr b 272 (Zi k j ((j:Int)+n))]⟩) (λ_=>True) rfl rfl ?_ cn6 ?_)
 ·unfold Zi
  repeat'(first|apply Sp.h|refine Lk.r rfl ?_|refine Rf.mk rfl ?_|refine xT ?_|fail)
  exact PA.lp () xE trivial
 rintro _ z4u w7 G7 Os7 _ hs7 GC
 -- the Ii body is called
 have tV:Sm w w7:=(nP.trans (bf.trans (hs3.trans (hs4.trans (hs5.trans (hs6.trans hs7)))))).sm
 have Au:tc ([]:List Nat) w.heap w7.heap:=⟨GC.hp.fp.size,λb hb _=>GC.hp.fp.same b (λh=>h) hb⟩
 obtain⟨y0,k0,rfl⟩:=GC.env 0 _ rfl
 obtain⟨y5,k5,rfl⟩:=GC.env 5 _ rfl
 obtain⟨O,Os8,cn8⟩:=GC.take .here
 obtain⟨⟨_,cs,hb,bg⟩,_⟩:=cn8.hp.own
 have rY:cs= [.int .i64 k,.int .i64 0,.int .i64 j,.int .i64 ((j:Int)+n)]:=nA (r:= [.int .i64 k,.int .i64 0,.int .i64 j,.int .i64 ((j:Int)+n)]) bg.t
 subst rY
 have Rq:xb h G [.agg [Value.int .i64 k,.int .i64 0,.int .i64 j,.int .i64 ((j:Int)+n)].toArray] [.agg (Zi k j ((j:Int)+n))]:=⟨⟨_,rfl,⟨pd [Value.int .i64 k,.int .i64 0,.int .i64 j,.int .i64 ((j:Int)+n)],λu hu=>by simp at hu;rcases hu with rfl|rfl|rfl|rfl <;> rfl⟩⟩,trivial⟩
 refine YC.seq (YC.region ?_)
 refine YO.step rfl rfl (by intro c h;cases h) (St.move k0 ?_)
 refine YO.step rfl rfl (by intro c h;cases h) (St.Mf pg (ti:=VA) rfl rfl k5 hb.pM zd rfl rfl ?_)
 refine YO.yield rfl rfl rfl rfl rfl ?_
 obtain⟨fn,tm,SO,bd,y1,y2⟩:=hY 0 _ w7 ⟨_,⟨rfl,k,j,n,rfl,hT⟩,Rq⟩ (hgr 0 _ _ hJ Au) tV
 refine⟨fn,tm,SO,bd,y1,y2.mono λe' WJ ⟨q1,q2⟩=>?_⟩
 rcases q2 with⟨rfl,q2⟩|⟨rfl,q2⟩
 ·exact(yL rfl _ q2).elim
 refine⟨_,rfl, ?_⟩
 refine YO.step rfl rfl (by intro c h;cases h) (St.not rfl ?_)
 refine YO.step rfl rfl (by intro c h;cases h) (St.move rfl ?_)
 refine YO.pass (show gd _ _ _ (true == false) from na (b:=true) (want:=false) rfl rfl rfl) rfl ?_
 refine YO.pass (show gd _ _ _ (true == false) from na (b:=true) (want:=false) rfl rfl rfl) rfl ?_
 refine YO.pass (show gd _ _ _ (true == false) from na (b:=true) (want:=false) rfl rfl rfl) rfl ?_
 refine YO.step rfl rfl (by intro c h;cases h) (St.gl rfl rfl rfl ?_)
 refine YO.nil ?_
 refine YC.cond (b:=true) rfl (λ_=>YC.ret ?_) (λhb=>by cases hb)
 exact⟨.inr rfl,tV.trans q1,.inr ⟨1,Nat.le_refl _,q2⟩⟩
theorem XA{s:ByteArray}{k:Int}{n:Nat}(hT:Xm s k 0 n)(hn:n=s.size):k=1↔Rh s:=by
 have hx:s.extract 0 (0+n)=s:=by rw [Nat.zero_add,hn,sK]
 constructor
 ·intro h
  obtain⟨h1,h2,h3⟩:=hT.nm.1 h
  rw [hx] at h3
  obtain⟨-,h4,-⟩:=hT.w h1 h2
  rw [Nat.zero_add,hn] at h4
  exact⟨h1,h2,h4,h3⟩
 ·rintro⟨h1,h2,h3,h4⟩
  exact hT.nm.2 ⟨h1,h2,by rw [hx];exact h4⟩
theorem UM{s:ByteArray}{k:Int}{j n:Nat}(hT:Xm s k j n)(hn:¬(j=0/\j+n=s.size)) :¬Rh s:=by
 rintro⟨h1,h2,h3,h4⟩
 have hj:=hT.sk.fst h2
 subst hj
 obtain⟨w1,w2,w3⟩:=hT.w h1 h2
 by_cases xC:0+n < s.size
 ·exact w3 xC (h3 _ (zZ _) xC)
 ·exact hn ⟨rfl,z6⟩
theorem QT(s:ByteArray):yJ Tryz.prog 220 [sv s] [] λr own=>∃k:Int,r=it k/\own= []/\(s.size<=4096->(k=1↔Rh s)):=by
 have ba:=UL s
 have Oe:=mH s
 refine yJ.of pg ye Tryz.func220 rfl Tryz.ntmps220 Tryz.results220 rfl λh0 G0 O0 ga=>?_
 by_cases hz:s.size=0
 ·have HW:=Oe.2 hz
  repeat'(first|(apply sV.ZO;{exact zu};{exact z1};{exact zu};{exact zu})|apply Sp.h|refine Lk.r rfl ?_|refine Rf.mk rfl ?_|refine xA ?_|apply yc.mk|refine xT ?_|refine xV ?_|refine xN ?_|intro _)
  exact⟨_,_,.one (.same (.z)),0,rfl,rfl,λ_=>⟨λh=>z6,λh=>by have:=h.1;omega⟩⟩
 have HW:¬s.toList=(⟨#[]⟩:ByteArray).toList:=λh=>hz (Oe.1 h)
 by_cases hs:s.size<=4096
 rotate_left
 ·repeat'(first|(apply sV.ZO;{exact zu};{exact z1};{exact zu};{exact zu})|apply Sp.h|refine Lk.r rfl ?_|refine Rf.mk rfl ?_|refine xA ?_|refine xB ?_|apply yc.mk|refine xT ?_|refine xV ?_|refine xN ?_|intro _)
  exact⟨_,_,.one (.same (.z)),0,rfl,rfl,λh=>absurd h hs⟩
 (repeat'(first|(show CA _ _ (Code.block 0 _) _ _;apply z_.out)|apply Sp.h|refine Lk.r rfl ?_|refine Rf.mk rfl ?_|refine xB ?_|refine yc.mk λ_=>?_|refine xT ?_|refine xN ?_|(apply Cl.pG (ba);{exact ga};focus(repeat' constructor);done)));any_goals apply z_.mk
 rename_i b1 b2
 apply Sp.h
 refine CA.Jo rfl rfl (LI s hs) (λi x hx=>by obtain⟨-,k,j,n,rfl,-⟩:=hx;rfl) rfl
  (λi o'=>i=0/\o'= [yr b2 3 [it 0],yr b1 9 [sv s]])
  (λx o'=>(x= .exit 0/\¬Rh s/\o'= [yr b2 3 [it 0],yr b1 9 [sv s]])∨(x= .ret/\∃k:Int,(k=1↔Rh s)/\o'= [yr b2 3 [it k],yr b1 9 [sv s]]))
  (λ_ o' h=>by have:=h.1;omega) ⟨rfl,rfl⟩ ?_ ?_ ?_ ?_ ?_
 ·rintro i x o' ⟨hi,k,j,n,rfl,hT⟩ ⟨-,rfl⟩ h0' G0' O0' Oj
  have SC:=hT.sk.le'
  unfold Zi
  repeat'(first|apply Sp.h|refine Lk.r rfl ?_|refine Rf.mk rfl ?_|apply yc.mk|refine xT ?_|(apply y4.r;focus repeat' constructor)|refine xN ?_|intro _)
  apply PA.brk Oj rfl
  by_cases hc:j=0/\j+n=s.size
  ·obtain⟨nQ,tE⟩:=hc
   subst nQ
   have hk:=XA hT z6
   repeat'(first|apply Sp.h|refine Lk.r rfl ?_|refine Rf.mk rfl ?_|refine xA ?_|refine xT ?_|refine xV ?_|fail)
   all_goals try exact(by omega:False).elim
   exact PA.rd [yr b2 3 [it k],yr b1 9 [sv s]] (by(repeat first|exact .nil|refine .cons z1 ?_)) (.inr ⟨rfl,k,hk,rfl⟩)
  ·have yD:=UM hT hc
   repeat'(first|apply Sp.h|refine Lk.r rfl ?_|refine Rf.mk rfl ?_|refine xA ?_|refine xB ?_|apply Bd.mk|refine xT ?_|intro _)
   all_goals first
    | exact PA.rd [yr b2 3 [it 0],yr b1 9 [sv s]] (by(repeat first|exact .nil|refine .cons z1 ?_)) (.inl ⟨rfl,yD,rfl⟩)
    | exact(hc ⟨z6,z6⟩).elim
 ·rintro o' ⟨h,-⟩;omega
 ·rintro o' (⟨h,-⟩|⟨-,k,hk,rfl⟩)
  ·cases h
  ·repeat'(first|(apply sV.ZO;{exact zu};{exact z1};{exact zu};{exact zu})|apply Sp.h|refine xN ?_|fail)
   exact⟨_,_,.one (.same (.z)),k,rfl,rfl,λ_=>hk⟩
 ·rintro i o' (⟨h,yD,rfl⟩|⟨h,-⟩)
  ·cases h
   repeat'(first|(apply sV.ZO;{exact zu};{exact z1};{exact zu};{exact zu})|apply Sp.h|refine Lk.r rfl ?_|refine Rf.mk rfl ?_|refine xT ?_|refine xV ?_|refine xN ?_|fail)
   exact⟨_,_,.one (.same (.z)),0,rfl,rfl,λ_=>⟨λh=>z6,λh=>absurd h yD⟩⟩
  ·cases h
 ·rintro i o' (⟨h,-⟩|⟨h,-⟩) <;> cases h
theorem Yj(s:ByteArray):yV Tryz.prog 175 [sv s] (.val (.bool (decide (o4 s)))):=by
 have hk:=QT s
 refine yJ.of pg ye Tryz.func175 rfl Tryz.ntmps175 Tryz.results175 rfl λh0 G0 O0 ga=>?_
 by_cases hs:s.size<=16
 ·repeat'(first|apply Sp.h|refine Lk.r rfl ?_|refine Rf.mk rfl ?_|refine xA ?_|fail)
  (apply Cl.Ve (hk);{exact ga};{exact zo};{exact zo};focus rfl)
  rintro _ _ ⟨k,rfl,rfl,hk⟩
  have hk:=hk z6
  repeat'(first|apply Sp.h|refine Lk.r rfl ?_|refine xA ?_|refine xN ?_|fail)
  refine Fin.p rfl (vb (zD.2 ?_))
  exact⟨λh=>⟨hk.1 h,hs⟩,λh=>hk.2 h.1⟩
 ·repeat'(first|apply Sp.h|refine Lk.r rfl ?_|refine Rf.mk rfl ?_|refine xB ?_|refine xN ?_|fail)
  exact Fin.p rfl (vb (zF λh:o4 s=>hs h.2).symm)
theorem H4(a b c:Prop)[Decidable a][Decidable b][Decidable c]:y6 Tryz.prog 173 [q8 [decide a,decide b,decide c]] (.val (.bool (decide (a/\b/\c)))):=by
 have h:=Mw [decide a,decide b,decide c]
 rwa [show [decide a,decide b,decide c].all id=decide (a/\b/\c) by simp] at h
theorem H3(a b c d e:Prop)[Decidable a][Decidable b][Decidable c][Decidable d][Decidable e]:y6 Tryz.prog 173 [q8 [decide a,decide b,decide c,decide d,decide e]] (.val (.bool (decide (a/\b/\c/\d/\e)))):=by
 have h:=Mw [decide a,decide b,decide c,decide d,decide e]
 rwa [show [decide a,decide b,decide c,decide d,decide e].all id=decide (a/\b/\c/\d/\e) by simp] at h
theorem oh{l:List ym}{i:Nat}{t:ym} :¬t.name∈(l.take i).map ym.name↔∀j u,j < i->l[j]?=some u->u.name.toList≠t.name.toList:=by
 constructor
 ·intro h j u hj hu he
  exact h (List.mem_map.2 ⟨u,zM (i:=j) (by rw [List.getElem?_take,if_pos hj,hu]),aw he⟩)
 ·intro h hm
  obtain⟨u,hu,he⟩:=List.mem_map.1 hm
  obtain⟨j,hj⟩:=zO hu
  rw [List.getElem?_take] at hj
  split at hj
  ·rename_i py
   exact h j u py hj (by rw [he])
  ·cases hj
abbrev Mx (sizes:List Int) (l:List ym) (i:Nat) (t:ym):Prop:=o4 t.name/\(¬t.name∈(l.take i).map ym.name)/\(0<=t.kind/\t.kind<=5)/\RQ sizes t.ya/\eV t
theorem Q0{sizes:List Int}{l:List ym}{i:Nat}{t:ym}(hs:Sound sizes):b_ sizes l i t↔Mx sizes l i t/\t.first=xZ sizes (decide (yi t.kind)) (l.take i):=by
 constructor
 ·rintro⟨h1,h2,⟨⟨h3,-,h4⟩,h5,h6,h7,h8,h9⟩,Y_,SM⟩
  refine⟨⟨h1,oh.2 h2,⟨h5,h6⟩,⟨h3,h4⟩, ?_⟩,SM⟩
  by_cases hk:t.kind=1∨t.kind=4∨t.kind=5
  ·exact(kX hk).2 ⟨h8,h7,h9⟩
  ·exact(mj hk).2 (Y_ z6)
 ·rintro⟨⟨h1,h2,⟨h5,h6⟩,⟨h3,h4⟩,h7⟩,SM⟩
  by_cases hk:t.kind=1∨t.kind=4∨t.kind=5
  ·have h8:=(kX hk).1 h7
   exact⟨h1,oh.1 h2,⟨⟨h3,hs,h4⟩,h5,h6,h8.2.1,h8.1,h8.2.2⟩,λh=>z6,SM⟩
  ·have h8:=(mj hk).1 h7
   exact⟨h1,oh.1 h2,⟨⟨h3,hs,h4⟩,h5,h6,z6,z6,z6⟩,λ_=>h8,SM⟩
theorem _root_.Go.CF.zr {p:Prop}(h:p:=by ((repeat'(first|fail)));first|done|fail):p:=h
theorem nD(sizes:List Int)(l:List ym):yV Tryz.prog 125 [ints sizes,xG l] (.val (.bool (decide (vh sizes l)))):=by
  have u4:=Qb sizes
  have Gr:=H4 ((sizes.length:Int)<=4) ((l.length:Int)<=12) (Sound sizes)
  refine yJ.of pg I0 Tryz.func125 rfl Tryz.ntmps125 Tryz.results125 rfl λh0 G0 O0 ga=>?_
  by_cases h0:(sizes.length:Int)<=4/\(l.length:Int)<=12/\Sound sizes
  rotate_left
  · have hn:¬vh sizes l:=λh=>h0 ⟨by have:=h.sz;omega,by have:=h.tl;omega,h.so⟩
    (repeat'(first|apply Sp.h|refine Lk.r rfl ?_|refine Rf.mk rfl ?_|refine xB ?_|refine Im.mk λ_=>?_|refine yc.mk λ_=>?_|(apply Fk.r;focus repeat' first|infer_instance|constructor)|refine xN ?_|refine Rf.mk ⟨rfl,rfl,rfl⟩ ?_|(apply Cl.p (u4);focus(repeat' constructor);done)|(apply Cl.yY (Gr);(focus((repeat'(first|exact y3.nil|(apply y3.yX;{exact z1};{exact zu};{exact za})|fail));done)))))
    exact Fin.p rfl (vb (zF hn).symm)
  have hs:=h0.2.2
  have V8:=h0.2.1
  (repeat'(first|apply Sp.h|refine Lk.r rfl ?_|refine Rf.mk rfl ?_|refine xA ?_|refine Im.mk λ_=>?_|refine yc.mk λ_=>?_|(apply Fk.r;focus repeat' first|infer_instance|constructor)|refine Rf.mk ⟨rfl,rfl,rfl⟩ ?_|(apply Cl.p (u4);focus(repeat' constructor);done)|(apply Cl.yY (Gr);(focus((repeat'(first|exact y3.nil|(apply y3.yX;{exact z1};{exact zu};{exact za})|fail));done)))))
  refine X2.r (λx:AV=>x) ?_
  refine⟨λb=>?_⟩
  (repeat'(first|(show CA _ _ (Code.region 4 _ _) _ _;apply z_.out)|apply Sp.h|refine Lk.r rfl ?_|fail));any_goals apply z_.mk
  refine CA.own (OX.set z1) ?_
  repeat'(first|apply Sp.h|refine Lk.r rfl ?_|refine Rf.mk rfl ?_|apply Im.mk|apply yc.mk|refine xT ?_|refine xV ?_|refine xN ?_|intro _)
  rename_i b6 b7 hl9
  refine CA.loop (λi:Nat=>⟨[(0,ints sizes),(5,.val (.map (some b))),(6,pm b6),(7,pm b7),(23,xG l),(24,it (l.length:Nat)),(25,it i)],[ib b ((l.take i).map ym.name),yr b6 3 [it (xZ sizes true (l.take i))],yr b7 3 [it (xZ sizes false (l.take i))]]⟩) (λi=>i<=l.length/\∀j t,j < i->l[j]?=some t->b_ sizes l j t) (λi=>l.length - i) 0 xE ⟨zZ _,λj t h=>z6⟩ ?_
  rintro i ⟨hi,ht⟩
  by_cases yd:i < l.length
  · obtain⟨t,ew⟩:=zz yd
    have yD:¬b_ sizes l i t->¬vh sizes l:=λh h2=>h (h2.t i t ew)
    have xe:=vO (sizes:=sizes) (s:=true) ew
    have ee:=vO (sizes:=sizes) (s:=false) ew
    have C8:=rQ (sizes:=sizes) (s:=true) (l:=l) i
    have YR:=rQ (sizes:=sizes) (s:=false) (l:=l) i
    have Gc:=rN sizes t.ya
    have vE:=Q0 (sizes:=sizes) (l:=l) (i:=i) (t:=t) hs
    have Bq:=H3 (o4 t.name) (¬t.name∈(l.take i).map ym.name) (0<=t.kind/\t.kind<=5) (RQ sizes t.ya) (eV t)
    have jQ:=Yj t.name
    have PR:=dw t.kind 0 5
    have YU:=Za sizes t.ya
    have nT:=UZ t
    by_cases hT:Mx sizes l i t
    rotate_left
    · repeat'(first|apply Sp.h|refine Lk.r rfl ?_|refine Rf.mk rfl ?_|refine xA ?_|refine xB ?_|refine yu.r rfl ?_|refine yc.mk λ_=>?_|refine xT ?_|refine xI ?_|refine Ch.l ⟨rfl,rfl⟩ ?_|(apply y4.r;focus repeat' constructor)|(apply Fk.r;focus repeat' first|infer_instance|constructor)|refine xN ?_|refine Rf.mk ⟨rfl,rfl,rfl⟩ ?_|refine xD ?_|(apply bz.r;{exact z1})|(apply Cl.pG (jQ);{exact ga};focus(repeat' constructor);done)|(apply Cl.p (PR);focus(repeat' constructor);done)|(apply Cl.p (YU);focus(repeat' constructor);done)|(apply Cl.p (nT);focus(repeat' constructor);done)|(apply Cl.yY (nT);{exact zr})|(apply Cl.yY (Bq);(focus((repeat'(first|exact y3.nil|(apply y3.yX;{exact z1};{exact zu};{exact za})|fail));done))))
      all_goals exact Fin.p rfl (vb (zF (yD λh=>hT (vE.1 h).1)).symm)
    have fg:=ot t
    have Fu:uO sizes t.ya:=⟨hT.2.2.2.1.1,hs,hT.2.2.2.1.2⟩
    have V4:=fI sizes t.ya Fu
    have B2:wF sizes t.ya=wD sizes t.ya:=by rw [wF,if_pos Fu]
    have bE:(l.take (i+1)).map ym.name=(l.take i).map ym.name ++ [t.name]:=by rw [zK,ew];simp
    rw [B2] at Gc xe ee
    by_cases yL:yi t.kind
    · rw [zT yL] at xe ee vE
      rw [if_pos rfl] at xe
      rw [if_neg zd] at ee
      repeat'(first|apply Sp.h|refine Lk.r rfl ?_|refine Rf.mk rfl ?_|refine xA ?_|(refine Bd.mk ?_ ?_ <;> intro _)|refine yu.r rfl ?_|refine yc.mk λ_=>?_|refine xT ?_|refine xI ?_|refine Ch.l ⟨rfl,rfl⟩ ?_|refine xV ?_|(apply y4.r;focus repeat' constructor)|(apply Fk.r;focus repeat' first|infer_instance|constructor)|refine xN ?_|refine Rf.mk ⟨rfl,rfl,rfl⟩ ?_|refine xD ?_|refine xO ?_|(apply bz.r;{exact z1})|(apply Cl.pG (jQ);{exact ga};focus(repeat' constructor);done)|(apply Cl.p (PR);focus(repeat' constructor);done)|(apply Cl.p (YU);focus(repeat' constructor);done)|(apply Cl.p (nT);focus(repeat' constructor);done)|(apply Cl.p (fg);focus(repeat' constructor);done)|(apply Cl.p (V4);focus(repeat' constructor);done)|(apply Cl.yY (nT);{exact zr})|(apply Cl.yY (Bq);(focus((repeat'(first|exact y3.nil|(apply y3.yX;{exact z1};{exact zu};{exact za})|fail));done))))
      all_goals first
        | (rw [<-xe,<-bE]
           rw [show xZ sizes false (l.take i)=xZ sizes false (l.take (i+1)) by omega]
           exact PA.lp (i+1) xE ⟨⟨yd,yg ew ht (vE.2 ⟨hT,by assumption⟩)⟩,z6⟩)
        | exact Fin.p rfl (vb (zF (yD λh=>absurd (vE.1 h).2 z8)).symm)
    · rw [zF yL] at xe ee vE
      rw [if_neg zd] at xe
      rw [if_pos rfl] at ee
      repeat'(first|apply Sp.h|refine Lk.r rfl ?_|refine Rf.mk rfl ?_|refine xA ?_|refine xB ?_|(refine Bd.mk ?_ ?_ <;> intro _)|refine yu.r rfl ?_|refine yc.mk λ_=>?_|refine xT ?_|refine xI ?_|refine Ch.l ⟨rfl,rfl⟩ ?_|refine xV ?_|(apply y4.r;focus repeat' constructor)|(apply Fk.r;focus repeat' first|infer_instance|constructor)|refine xN ?_|refine Rf.mk ⟨rfl,rfl,rfl⟩ ?_|refine xD ?_|refine xO ?_|(apply bz.r;{exact z1})|(apply Cl.pG (jQ);{exact ga};focus(repeat' constructor);done)|(apply Cl.p (PR);focus(repeat' constructor);done)|(apply Cl.p (YU);focus(repeat' constructor);done)|(apply Cl.p (nT);focus(repeat' constructor);done)|(apply Cl.p (fg);focus(repeat' constructor);done)|(apply Cl.p (V4);focus(repeat' constructor);done)|(apply Cl.yY (nT);{exact zr})|(apply Cl.yY (Bq);(focus((repeat'(first|exact y3.nil|(apply y3.yX;{exact z1};{exact zu};{exact za})|fail));done))))
      all_goals first
        | (rw [<-ee,<-bE]
           rw [show xZ sizes true (l.take i)=xZ sizes true (l.take (i+1)) by omega]
           exact PA.lp (i+1) xE ⟨⟨yd,yg ew ht (vE.2 ⟨hT,by assumption⟩)⟩,z6⟩)
        | exact Fin.p rfl (vb (zF (yD λh=>absurd (vE.1 h).2 z8)).symm)
  · have:i=l.length:=z6
    subst this
    rw [zL]
    have ht:=xc ht
    repeat'(first|apply Sp.h|refine Lk.r rfl ?_|refine Rf.mk rfl ?_|refine xA ?_|refine xB ?_|apply Bd.mk|refine xT ?_|refine xN ?_|intro _)
    · rename_i h
      refine Fin.p rfl (vb ?_)
      by_cases h9:xZ sizes false l<=64
      · rw [zT h9,zT (show vh sizes l from⟨z6,hs,z6,ht,z6,h9⟩)]
      · rw [zF h9,zF (λh8:vh sizes l=>h9 h8.m)]
    · rename_i h
      exact Fin.p rfl (vb (zF λh8=>h h8.s).symm)
def o6(l:List ByteArray):Prop:=∀(i:Nat) (s:ByteArray),l[i]?=some s->o4 s/\∀(j:Nat) (q:ByteArray),j < i->l[j]?=some q->q.toList≠s.toList
noncomputable instance (l:List ByteArray):Decidable (o6 l):=zC _
theorem d_{l:List ByteArray}{i:Nat}{s:ByteArray}(hi:i<=l.length) :¬kR (l.take i) s↔∀(j:Nat) (q:ByteArray),j < i->l[j]?=some q->q.toList≠s.toList:=by
 constructor
 ·intro h j q hj hq he
  exact h ⟨q,zM (i:=j) (by rw [List.getElem?_take_of_lt hj];exact hq),he⟩
 ·rintro h ⟨q,hq,he⟩
  obtain⟨j,hj⟩:=zO hq
  have xC:=(zS.1 hj).1
  rw [zN] at xC
  rw [List.getElem?_take_of_lt z6] at hj
  exact h j q z6 hj he
theorem jD(l:List ByteArray):y6 Tryz.prog 52 [.sl 1 l ur] (.val (.bool (decide (o6 l)))):=by
 refine zy.of pg EI Tryz.func52 rfl Tryz.ntmps52 Tryz.results52 rfl λh0 G0 O0=>?_
 repeat'(first|apply Sp.h|refine Lk.r rfl ?_|refine Rf.mk rfl ?_|fail)
 refine CA.loop (λi:Nat=>⟨[(0,.sl 1 l ur),(3,it i)],[]⟩) (λi=>i<=l.length/\∀j s,j < i->l[j]?=some s->o4 s/\∀k q,k < j->l[k]?=some q->q.toList≠s.toList) (λi=>l.length - i) 0 xE ⟨zZ _,λj s h=>z6⟩ ?_
 rintro i ⟨hi,ha⟩
 by_cases yd:i < l.length
 ·obtain⟨s,hs⟩:=zz yd
  have Hw:=d_ (l:=l) (s:=s) hi
  have hhp:=VP (l.take i) s
  repeat'(first|apply Sp.h|refine Lk.r rfl ?_|refine Rf.mk rfl ?_|refine xA ?_|refine xB ?_|(refine Bd.mk ?_ ?_ <;> intro _)|refine yu.r rfl ?_|refine Im.mk λ_=>?_|refine xI ?_|refine xN ?_|(apply Jx.r;{exact zj};{exact zb})|refine xD ?_|refine xO ?_|(apply Cl.p (fF s);focus repeat' constructor)|(apply Cl.p (hhp);focus repeat' constructor))
  all_goals first
   | exact PA.lp (i+1) xE ⟨⟨yd,yg hs ha ⟨by assumption,Hw.1 z8⟩⟩,z6⟩
   | exact Fin.p rfl (vb (zF λh:o6 l=>absurd (h i s hs).1 z8).symm)
   | exact Fin.p rfl (vb (zF λh:o6 l=>absurd z8 (Hw.2 (h i s hs).2)).symm)
 ·have:i=l.length:=z6
  subst this
  repeat'(first|apply Sp.h|refine Lk.r rfl ?_|refine Rf.mk rfl ?_|refine xB ?_|apply Im.mk|refine xN ?_|intro _)
  exact Fin.p rfl (vb (zT (show o6 l from xc ha)).symm)
structure Xl (n:Int) (l:List (Int×Int)) (i:Nat) (p:Int×Int):Prop where
 a:0<=p.1
 b:p.1 < n
 c:p.2≠0
 d: -1000<=p.2/\p.2<=1000
 e:∀q,0 < i->l[i - 1]?=some q->q.1 < p.1
structure rJ (n:Int) (r:sU):Prop where
 t:∀i p,r.yO[i]?=some p->Xl n r.yO i p
 b: -1000000000<=r.bound/\r.bound<=1000000000
noncomputable instance (n:Int) (r:sU):Decidable (rJ n r):=zC _
theorem M4(r:sU)(n:Int):y6 Tryz.prog 119 [.agg (pA r),it n] (.val (.bool (decide (rJ n r)))):=by
 have q_:=sL r.bound 1000000000 z6
 refine zy.of pg I6 Tryz.func119 rfl Tryz.ntmps119 Tryz.results119 rfl λh0 G0 O0=>?_
 repeat'(first|apply Sp.h|refine Lk.r rfl ?_|refine Rf.mk rfl ?_|apply yc.mk|intro _)
 rename_i b2
 refine CA.loop (λi:Nat=>⟨[(1,it n),(2,.val (.pointer (some ⟨b2,0,none⟩))),(5,it i)],[yr b2 170 (pA r)]⟩) (λi=>i<=r.yO.length/\∀j p,j < i->r.yO[j]?=some p->Xl n r.yO j p) (λi=>r.yO.length - i) 0 xE ⟨zZ _,λj p h=>z6⟩ ?_
 rintro i ⟨hi,ha⟩
 by_cases yd:i < r.yO.length
 ·obtain⟨p,hp⟩:=zz yd
  have bt:=sL p.2 1000 z6
  by_cases hT:Xl n r.yO i p
  ·obtain⟨g1,g2,g3,g4,g5⟩:=hT
   rcases Nat.eq_zero_or_pos i with h0|h0
   ·subst h0
    repeat'(first|apply Sp.h|refine Lk.r rfl ?_|refine Rf.mk rfl ?_|refine xA ?_|refine xB ?_|refine yu.r rfl ?_|refine Im.mk λ_=>?_|refine yc.mk λ_=>?_|refine xT ?_|refine xI ?_|refine Ch.l ⟨rfl,rfl⟩ ?_|(apply y4.r;focus repeat' constructor)|refine xN ?_|refine xD ?_|refine xO ?_|(apply Cl.p (bt);focus repeat' constructor))
    exact PA.lp 1 xE ⟨⟨yd,yg hp ha ⟨g1,g2,g3,g4,g5⟩⟩,z6⟩
   ·obtain⟨k,rfl⟩:∃k,i=k+1:=⟨i - 1,z6⟩
    obtain⟨q,hq⟩:=zz (l:=r.yO) (i:=k) z6
    have hqp:=g5 q h0 hq
    repeat'(first|apply Sp.h|refine Lk.r rfl ?_|refine Rf.mk rfl ?_|refine xA ?_|refine xB ?_|refine yu.r rfl ?_|refine Im.mk λ_=>?_|refine yc.mk λ_=>?_|refine xT ?_|refine xI ?_|(apply Ix.r;{exact z8};{exact z6})|refine Ch.l ⟨rfl,rfl⟩ ?_|(apply y4.r;focus repeat' constructor)|refine xN ?_|refine xD ?_|refine xO ?_|(apply Cl.p (bt);focus repeat' constructor))
    exact PA.lp (k+1+1) xE ⟨⟨yd,yg hp ha ⟨g1,g2,g3,g4,g5⟩⟩,z6⟩
  ·have yD:¬rJ n r:=λh=>hT (h.t i p hp)
   rcases Nat.eq_zero_or_pos i with h0|h0
   ·subst h0
    repeat'(first|apply Sp.h|refine Lk.r rfl ?_|refine Rf.mk rfl ?_|refine xA ?_|refine xB ?_|(refine Bd.mk ?_ ?_ <;> intro _)|refine yu.r rfl ?_|refine Im.mk λ_=>?_|refine yc.mk λ_=>?_|refine xT ?_|refine xI ?_|refine Ch.l ⟨rfl,rfl⟩ ?_|(apply y4.r;focus repeat' constructor)|refine xN ?_|refine xD ?_|refine xO ?_|(apply Cl.p (bt);focus repeat' constructor))
    all_goals first
     | exact Fin.p rfl (vb (zF yD).symm)
     | exact(hT ⟨z6,z6,z6,z6,λq h=>z6⟩).elim
   ·obtain⟨k,rfl⟩:∃k,i=k+1:=⟨i - 1,z6⟩
    obtain⟨q,hq⟩:=zz (l:=r.yO) (i:=k) z6
    repeat'(first|apply Sp.h|refine Lk.r rfl ?_|refine Rf.mk rfl ?_|refine xA ?_|refine xB ?_|(refine Bd.mk ?_ ?_ <;> intro _)|refine yu.r rfl ?_|refine Im.mk λ_=>?_|refine yc.mk λ_=>?_|refine xT ?_|refine xI ?_|(apply Ix.r;{exact z8};{exact z6})|refine Ch.l ⟨rfl,rfl⟩ ?_|(apply y4.r;focus repeat' constructor)|refine xN ?_|refine xD ?_|refine xO ?_|(apply Cl.p (bt);focus repeat' constructor))
    all_goals first
     | exact Fin.p rfl (vb (zF yD).symm)
     | exact(hT ⟨z6,z6,z6,z6,λq' _ h=>by rw [show k+1 - 1=k by omega,hq] at h;cases h;omega⟩).elim
 ·have:i=r.yO.length:=z6
  subst this
  repeat'(first|apply Sp.h|refine Lk.r rfl ?_|refine Rf.mk rfl ?_|refine xB ?_|refine Im.mk λ_=>?_|refine xT ?_|refine xN ?_|(apply Cl.p (q_);focus repeat' constructor))
  refine Fin.p rfl (vb ?_)
  by_cases h9: -1000000000<=r.bound/\r.bound<=1000000000
  ·rw [zT h9,zT (show rJ n r from⟨xc ha,h9⟩)]
  ·rw [zF h9,zF (λh8:rJ n r=>h9 h8.b)]
theorem mZ(a b:List (Int×Int)):y6 Tryz.prog 170 [yO a,yO b] (.val (.bool (decide (a=b)))):=by
 refine zy.of pg JS Tryz.func170 rfl Tryz.ntmps170 Tryz.results170 rfl λh0 G0 O0=>?_
 by_cases hl:a.length=b.length
 ·repeat'(first|apply Sp.h|refine Lk.r rfl ?_|refine Rf.mk rfl ?_|refine xA ?_|apply Im.mk|intro _)
  refine CA.loop (λi:Nat=>⟨[(0,yO a),(1,yO b),(5,it i)],[]⟩) (λi=>i<=a.length/\a.take i=b.take i) (λi=>a.length - i) 0 xE ⟨zZ _,rfl⟩ ?_
  rintro i ⟨hi,he⟩
  by_cases yd:i < a.length
  ·obtain⟨p,hp⟩:=zz yd
   obtain⟨q,hq⟩:=zz (l:=b) (i:=i) z6
   by_cases V6:p=q
   ·subst V6
    repeat'(first|apply Sp.h|refine Lk.r rfl ?_|refine Rf.mk rfl ?_|refine xA ?_|refine yu.r rfl ?_|apply Im.mk|refine xI ?_|refine Ch.l ⟨rfl,rfl⟩ ?_|refine xK ?_|(apply Kf.mk;{exact z7})|refine xD ?_|refine xO ?_|intro _)
    all_goals first
     | exact PA.lp (i+1) xE ⟨⟨yd,by rw [zK,zK,he,hp,hq]⟩,z6⟩
     | exact absurd rfl z8
   ·have vB:a≠b:=λh=>V6 (by rw [h,hq] at hp;cases hp;rfl)
    repeat'(first|apply Sp.h|refine Lk.r rfl ?_|refine Rf.mk rfl ?_|refine xA ?_|apply Bd.mk|refine yu.r rfl ?_|apply Im.mk|refine xI ?_|refine Ch.l ⟨rfl,rfl⟩ ?_|refine xN ?_|refine xK ?_|(apply Kf.mk;{exact z7})|refine xD ?_|refine xO ?_|intro _)
    all_goals first
     | exact Fin.p rfl (vb (zF vB).symm)
     | (rename_i h9;injection h9 with h8 h9;injection h9 with h9;exact(V6 (Prod.ext h8 h9)).elim)
  ·have:i=a.length:=z6
   rw [List.take_of_length_le z6,List.take_of_length_le z6] at he
   repeat'(first|apply Sp.h|refine Lk.r rfl ?_|refine Rf.mk rfl ?_|refine xB ?_|apply Im.mk|refine xN ?_|intro _)
   exact Fin.p rfl (vb (zT he).symm)
 ·have vB:a≠b:=λh=>hl (by rw [h])
  repeat'(first|apply Sp.h|refine Lk.r rfl ?_|refine Rf.mk rfl ?_|refine xB ?_|apply Im.mk|refine xN ?_|intro _)
  all_goals exact Fin.p rfl (vb (zF vB).symm)
theorem rr(a b:sU):y6 Tryz.prog 118 [.agg (pA a),.agg (pA b)] (.val (.bool (decide (a.yO=b.yO/\a.bound=b.bound)))):=by
 refine zy.of pg ye Tryz.func118 rfl Tryz.ntmps118 Tryz.results118 rfl λh0 G0 O0=>?_
 by_cases hb:a.bound=b.bound
 ·repeat'(first|apply Sp.h|refine Lk.r rfl ?_|refine Rf.mk rfl ?_|refine xA ?_|refine yc.mk λ_=>?_|refine xT ?_|refine xN ?_|(apply Cl.p (mZ _ _);focus repeat' constructor))
  refine Fin.p rfl (vb ?_)
  exact zD.2 ⟨λh=>⟨h,hb⟩,λh=>h.1⟩
 ·repeat'(first|apply Sp.h|refine Lk.r rfl ?_|refine Rf.mk rfl ?_|refine xB ?_|refine yc.mk λ_=>?_|refine xT ?_|refine xN ?_|(apply Cl.p (mZ _ _);(focus repeat'(first|fail))))
  exact Fin.p rfl (vb (zF λh=>hb h.2).symm)
def iy(y9:List Int)(c:mh)(t:ym):Prop:=t.kind=0/\t.first=c.first/\∃x:Nat,t.ya= [(x:Int),(x:Int)]/\y9[x]?=some c.size
def eX(m:y8)(c:mh):Prop:=c.row.yO= []/\c.row.bound=0/\∃(i:Nat) (t:ym),m.tables[i]?=some t/\iy m.y9 c t
noncomputable instance (m:y8) (c:mh):Decidable (eX m c):=zC _
theorem Q_(m:y8)(c:mh)(hm:xS m.y9 m.tables):y6 Tryz.prog 120 [wH m,.agg (lE c)] (.val (.bool (decide (eX m c)))):=by
 refine zy.of pg I5 Tryz.func120 rfl Tryz.ntmps120 Tryz.results120 rfl λh0 G0 O0=>?_
 by_cases h0:c.row.yO.length=0/\c.row.bound=0
 rotate_left
 ·have yD:¬eX m c:=λh=>h0 ⟨by rw [h.1];rfl,h.2.1⟩
  repeat'(first|apply Sp.h|refine Lk.r rfl ?_|refine Rf.mk rfl ?_|refine xA ?_|refine xB ?_|apply Bd.mk|apply Im.mk|apply yc.mk|refine xT ?_|refine xN ?_|intro _)
  all_goals first
   | exact Fin.p rfl (vb (zF yD).symm)
   | exact(h0 ⟨z6,by assumption⟩).elim
 obtain⟨eg,qg⟩:=h0
 repeat'(first|apply Sp.h|refine Lk.r rfl ?_|refine Rf.mk rfl ?_|refine xA ?_|refine xB ?_|apply Im.mk|apply yc.mk|refine xT ?_|intro _)
 rename_i b2 b3 _
 refine CA.loop (λi:Nat=>⟨[(2,.val (.pointer (some ⟨b2,0,none⟩))),(3,.val (.pointer (some ⟨b3,0,none⟩))),(5,it i)],[yr b3 172 (lE c),yr b2 30 (s_ m)]⟩) (λi=>i<=m.tables.length/\∀j t,j < i->m.tables[j]?=some t->¬iy m.y9 c t) (λi=>m.tables.length - i) 0 xE ⟨zZ _,λj t h=>z6⟩ ?_
 rintro i ⟨hi,yD⟩
 by_cases yd:i < m.tables.length
 ·obtain⟨t,ht⟩:=zz yd
  obtain⟨⟨g1,g2,g3⟩,-⟩:=hm.2.2.2 t (zM ht)
  by_cases hl:t.ya.length=2
  ·obtain⟨x,hx⟩:=zz (l:=t.ya) (i:=0) z6
   obtain⟨y,hy⟩:=zz (l:=t.ya) (i:=1) z6
   have rY:t.ya= [x,y]:=by
    match hc:t.ya,hl with
    | [u,v],_=>rw [hc] at hx hy;cases hx;cases hy;rfl
   obtain⟨lx,Zl⟩:=g3 x (zM hx)
   obtain⟨k,rfl⟩:=Int.eq_ofNat_of_zero_le lx
   obtain⟨z,hz⟩:=zz (l:=m.y9) (i:=k) z6
   by_cases hT:iy m.y9 c t
   ·have kF:eX m c:=⟨List.length_eq_zero_iff.1 eg,qg,i,t,ht,hT⟩
    obtain⟨h1,h2,w,h3,h4⟩:=hT
    rw [rY] at h3
    injection h3 with e1 h3
    injection h3 with e2 h3
    subst e2
    obtain rfl:k=w:=z6
    rw [hz] at h4
    injection h4 with h4
    repeat'(first|apply Sp.h|refine Lk.r rfl ?_|refine Rf.mk rfl ?_|refine xA ?_|refine yu.r rfl ?_|apply Im.mk|apply yc.mk|refine xT ?_|refine xI ?_|refine Ch.l ⟨rfl,rfl⟩ ?_|(apply y4.r;focus repeat' constructor)|refine xN ?_|refine xD ?_|intro _)
    all_goals first
     | exact Fin.p rfl (vb (zT kF).symm)
     | exact absurd z8 z8
     | exact(by omega:False).elim
   ·have vu:=yg ht yD hT
    repeat'(first|apply Sp.h|refine Lk.r rfl ?_|refine Rf.mk rfl ?_|refine xA ?_|refine xB ?_|apply Bd.mk|refine yu.r rfl ?_|apply Im.mk|apply yc.mk|refine xT ?_|refine xI ?_|refine Ch.l ⟨rfl,rfl⟩ ?_|(apply y4.r;focus repeat' constructor)|refine xN ?_|refine xD ?_|refine xO ?_|intro _)
    all_goals first
     | exact PA.lp (i+1) xE ⟨⟨yd,vu⟩,z6⟩
     | exact(hT ⟨z6,z6,k,by rw [rY,show y=(k:Int) by omega],by rw [hz,show z=c.size by omega]⟩).elim
  ·have hT:¬iy m.y9 c t:=by
    rintro⟨-,-,x,h,-⟩
    exact hl (by rw [h];rfl)
   have vu:=yg ht yD hT
   repeat'(first|apply Sp.h|refine Lk.r rfl ?_|refine Rf.mk rfl ?_|refine xA ?_|refine xB ?_|apply Bd.mk|refine yu.r rfl ?_|apply Im.mk|apply yc.mk|refine xT ?_|refine xI ?_|refine Ch.l ⟨rfl,rfl⟩ ?_|(apply y4.r;focus repeat' constructor)|refine xN ?_|refine xD ?_|refine xO ?_|intro _)
   all_goals exact PA.lp (i+1) xE ⟨⟨yd,vu⟩,z6⟩
 ·have:i=m.tables.length:=z6
  subst this
  repeat'(first|apply Sp.h|refine Lk.r rfl ?_|refine Rf.mk rfl ?_|refine xB ?_|apply Im.mk|refine xT ?_|refine xN ?_|intro _)
  refine Fin.p rfl (vb (zF ?_).symm)
  rintro⟨-,-,j,t,ht,h⟩
  exact yD j t (zS.1 ht).1 ht h
theorem QY{l:List ByteArray}{s:ByteArray}:kR l s↔s∈l :=
 ⟨λ⟨q,hq,he⟩=>by rw [<-aw he];exact hq,λh=>⟨s,h,rfl⟩⟩
theorem lf(l:List ByteArray):yV Tryz.prog 126 [.sl 1 l ur] (.val (.bool (decide (o6 l)))):=by
 refine yJ.of pg ye Tryz.func126 rfl Tryz.ntmps126 Tryz.results126 rfl λh0 G0 O0 ga=>?_
 repeat'(first|apply Sp.h|refine Lk.r rfl ?_|refine Rf.mk rfl ?_|fail)
 refine X2.r (λx:AV=>x) ?_
 refine⟨λb=>?_⟩
 (repeat'(first|(show CA _ _ (Code.region 2 _ _) _ _;apply z_.out)|apply Sp.h|refine Lk.r rfl ?_|fail));any_goals apply z_.mk
 refine CA.own (OX.set z1) ?_
 repeat'(first|apply Sp.h|refine Lk.r rfl ?_|refine Rf.mk rfl ?_|apply Im.mk|intro _)
 refine CA.loop (λi:Nat=>⟨[(3,.val (.map (some b))),(7,.sl 1 l ur),(8,it (l.length:Nat)),(9,it i)],[ib b (l.take i)]⟩) (λi=>i<=l.length/\∀j s,j < i->l[j]?=some s->o4 s/\∀k q,k < j->l[k]?=some q->q.toList≠s.toList) (λi=>l.length - i) 0 xE ⟨zZ _,λj s h=>z6⟩ ?_
 rintro i ⟨hi,ha⟩
 by_cases yd:i < l.length
 ·obtain⟨s,hs⟩:=zz yd
  have Hw:=d_ (l:=l) (s:=s) hi
  rw [QY] at Hw
  have hn:=Yj s
  have bE:l.take (i+1)=l.take i ++ [s]:=by rw [zK,hs];rfl
  repeat'(first|apply Sp.h|refine Lk.r rfl ?_|refine Rf.mk rfl ?_|refine xA ?_|refine xB ?_|(refine Bd.mk ?_ ?_ <;> intro _)|refine xI ?_|refine xN ?_|refine xO ?_|(apply bz.r;{exact z1})|(apply Cl.pG (hn);{exact ga};focus(repeat' constructor);done))
  all_goals first
   | (rw [<-bE];exact PA.lp (i+1) xE ⟨⟨yd,yg hs ha ⟨by assumption,Hw.1 z8⟩⟩,z6⟩)
   | exact Fin.p rfl (vb (zF λh:o6 l=>absurd (h i s hs).1 z8).symm)
   | exact Fin.p rfl (vb (zF λh:o6 l=>absurd z8 (Hw.2 (h i s hs).2)).symm)
 ·have:i=l.length:=z6
  subst this
  repeat'(first|apply Sp.h|refine Lk.r rfl ?_|refine Rf.mk rfl ?_|refine xB ?_|refine xN ?_|fail)
  exact Fin.p rfl (vb (zT (show o6 l from xc ha)).symm)
theorem cj(sizes:List Int)(l:List ym)(s:Bool)(cell:Int)(jW:cell<=9223372036854775807):yV Tryz.prog 196 [ints sizes,xG l,.val (.bool s),it cell] (X6 (uS sizes l s cell)):=by
 have hv:=nD sizes l
 refine yJ.of pg JP Tryz.func196 rfl Tryz.ntmps196 Tryz.results196 rfl λh0 G0 O0 ga=>?_
 by_cases hx:vh sizes l/\0<=cell
 rotate_left
 ·rw [uS,if_neg hx]
  repeat'(first|apply Sp.h|refine Lk.r rfl ?_|refine Rf.mk rfl ?_|refine xA ?_|refine xB ?_|(refine Bd.mk ?_ ?_ <;> intro _)|refine Im.mk λ_=>?_|refine xN ?_|(apply Cl.pG (hv);{exact ga};focus(repeat' constructor);done))
  all_goals first
   | exact⟨_,_,.yE (.same (.ic (.same (.z)))),rfl,rfl⟩
   | exact(hx ⟨by assumption,z6⟩).elim
 have hc:=hx.2
 have hx:=hx.1
 have V8:=hx.tl
 have qY:=hx.so
 repeat'(first|apply Sp.h|refine Lk.r rfl ?_|refine Rf.mk rfl ?_|refine xA ?_|refine xB ?_|refine Im.mk λ_=>?_|(apply Cl.pG (hv);{exact ga};focus(repeat' constructor);done))
 refine CA.loop (λi:Nat=>⟨[(0,ints sizes),(2,.val (.bool s)),(3,it cell),(25,xG l),(26,it (l.length:Nat)),(27,it i)],[]⟩) (λi=>i<=l.length/\∀j t,j < i->l[j]?=some t->¬oX sizes s cell t) (λi=>l.length - i) 0 xE ⟨zZ _,λj t h=>z6⟩ ?_
 rintro i ⟨hi,yD⟩
 by_cases yd:i < l.length
 ·obtain⟨t,ht⟩:=zz yd
  have hT:=(hx.t i t ht).ok
  have pD:=hT.1
  have ue:=pD.1
  have hf:=hx.first ht
  have yL:=ot t
  have V4:=fI sizes t.ya pD
  have bQ:wF sizes t.ya=wD sizes t.ya:=by rw [wF,if_pos pD]
  have kq:=rN sizes t.ya
  rw [bQ] at kq
  by_cases uU:oX sizes s cell t
  ·have eK:=fJ hx hc ht uU yD
   rw [eK]
   obtain⟨g1,g2,g3⟩:=uU
   rw [bQ] at g3
   repeat'(first|apply Sp.h|refine Lk.r rfl ?_|refine Rf.mk rfl ?_|refine xA ?_|refine xB ?_|refine Im.mk λ_=>?_|refine yc.mk λ_=>?_|refine xU ?_|refine xT ?_|refine xI ?_|refine Ch.l ⟨rfl,rfl⟩ ?_|(apply y4.r;focus repeat' constructor)|refine xN ?_|refine Rf.mk ⟨rfl,rfl,rfl⟩ ?_|(apply Jx.r;{exact zj};{exact zb})|refine yC.r xL 0 rfl ?_|refine xO ?_|(apply Cl.p (yL);focus(repeat' constructor);done)|(apply Cl.p (V4);focus(repeat' constructor);done)|(apply Cl.yY (yL);{exact zr})|(apply Cl.yY (V4);{exact zr}))
   all_goals try exact(by omega:False).elim
   all_goals try exact absurd g1 z8
   rename_i b12 _ v
   refine CA.loop (λi':Nat=>⟨[(0,ints sizes),(11,it i),(12,pm b12),(13,it (wM sizes (t.ya.drop i') (cell - t.first)).2),(14,.ow v),(15,it ((i':Int) - 1))],[yr b12 150 (v8 t),yb v 3 1 (List.replicate i' 0 ++ (wM sizes (t.ya.drop i') (cell - t.first)).1) xL]⟩) (λi'=>i'<=t.ya.length) (λi'=>i') t.ya.length ?_ (Nat.le_refl _) ?_
   ·rw [List.drop_length]
    simp only [wM,List.append_nil,zR]
    exact xE
   intro i' Gk
   cases i' with
   | zero =>
    rw [List.drop_zero]
    repeat'(first|apply Sp.h|refine Lk.r rfl ?_|refine Rf.mk rfl ?_|refine xB ?_|refine xN ?_|fail)
    exact⟨_,_,.yE (.same (.fz z1 (by simp [qN];omega) (.same (.z)))),rfl,rfl⟩
   | succ i' =>
    obtain⟨x,CO⟩:=zz (l:=t.ya) (i:=i') z6
    obtain⟨j,rfl,y,hy,PQ,DX⟩:=ni pD CO
    have hle:=Yg qY g2 (t.ya.drop (i'+1))
    have hlen:=qN sizes (cell - t.first) (t.ya.drop (i'+1))
    obtain⟨q,hq⟩:∃q,wM sizes (t.ya.drop (i'+1)) (cell - t.first)=q:=⟨_,rfl⟩
    have hd:wM sizes (t.ya.drop i') (cell - t.first)=(q.2 % y :: q.1,q.2 / y):=by
     rw [List.drop_eq_getElem_cons z6,(zS.1 CO).2]
     simp only [wM,hq,Int.toNat_natCast,hy,Option.getD_some]
    have hz:(List.replicate (i'+1) (0:Int) ++ q.1)[i']?=some 0:=by
     rw [zI zd,List.getElem?_replicate,if_pos z6]
    rw [hq] at hle hlen ⊢
    obtain⟨q1,q2⟩:=q
    simp only at hle hlen hd hz ⊢
    have e:(((i'+1:Nat):Int) - 1)=(i':Int):=z6
    rw [e]
    repeat'(first|apply Sp.h|refine Lk.r rfl ?_|refine Rf.mk rfl ?_|refine xA ?_|refine yu.r rfl ?_|refine xP ?_|refine xU ?_|refine xT ?_|refine xI ?_|refine xJ ?_|refine xV ?_|refine Up.r rfl ?_|refine xD ?_|refine xO ?_|fail)
    all_goals
     rw [dE]
     refine PA.lp i' ?_ ⟨z6,z6⟩
     rw [hd]
     exact xE
  ·have vu:=yg ht yD uU
   repeat'(first|apply Sp.h|refine Lk.r rfl ?_|refine Rf.mk rfl ?_|refine xA ?_|refine xB ?_|(refine Bd.mk ?_ ?_ <;> intro _)|refine Im.mk λ_=>?_|refine yc.mk λ_=>?_|refine xU ?_|refine xT ?_|refine xI ?_|refine Ch.l ⟨rfl,rfl⟩ ?_|(apply y4.r;focus repeat' constructor)|refine xN ?_|refine Rf.mk ⟨rfl,rfl,rfl⟩ ?_|(apply Jx.r;{exact zj};{exact zb})|refine yC.r xL 0 rfl ?_|refine xO ?_|(apply Cl.p (yL);focus(repeat' constructor);done)|(apply Cl.p (V4);focus(repeat' constructor);done)|(apply Cl.yY (yL);{exact zr})|(apply Cl.yY (V4);{exact zr}))
   all_goals first
    | exact PA.lp (i+1) xE ⟨⟨yd,vu⟩,z6⟩
    | exact(uU ⟨by assumption,z6,by rw [bQ];omega⟩).elim
 ·have:i=l.length:=z6
  subst this
  rw [ZY λ_ j y hy=>yD j y (zS.1 hy).1 hy]
  repeat'(first|apply Sp.h|refine Lk.r rfl ?_|refine Rf.mk rfl ?_|refine xB ?_|refine xN ?_|fail)
  exact⟨_,_,.yE (.same (.ic (.same (.z)))),rfl,rfl⟩
end Go.Proofs.YtmjllbjfkafhdaaGreatDoor
namespace Go.CF
open Go
section
variable {Γ:Cx} {k:List KI} {e:EA} {o:List yh} {N:NA} {c:xa} {d:Tmp} {ty:TypeId} {x y z:Operand} {t u:TypeId} {i j:Int}
theorem wrap_u64{i:Int}(h:0<=i/\i<=18446744073709551615):IntKind.u64.wrap i=i:=by
 simp [IntKind.wrap,IntKind.signed,IntKind.bits];omega
theorem Pz{i:Int}(h:0<=i/\i<=4294967295):bits .and .u64 i 4294967295=i:=by
 obtain⟨n,rfl⟩:=Int.eq_ofNat_of_zero_le h.1
 have:=bits_and_u64_nat n 4294967295 z6 z6
 rw [show(4294967295:Int)=((4294967295:Nat):Int) from rfl,this]
 congr 1
 have h2:=Nat.and_two_pow_sub_one_eq_mod n 32
 rw [show(2:Nat) ^ 32 - 1=4294967295 from rfl] at h2
 rw [h2]
 omega
instance (priority:=1100):Sp (tZ Γ c d (.binOp .and t x y u) ty e o N x (.val (.int .u64 i)) y (.val (.int .u64 4294967295))) (Om (0<=i/\i<=4294967295) (N ((d,.val (.int .u64 i)) :: e) o)):=⟨λhn=>uT hn.k λ_ _ _ h h' k=> .xH (vZ h h' λw=>by rw [binOp_and];show Result.ok (Value.int .u64 (bits .and .u64 i 4294967295)) w=_;rw [Pz hn.p]) k⟩
instance (priority:=1100) {k2:IntKind}:Sp (tZ Γ c d (.binOp .shr t x y u) ty e o N x (.val (.int .u64 i)) y (.val (.int k2 32))) (Om (0<=i/\i<=4294967295) (N ((d,.val (.int .u64 0)) :: e) o)):=⟨λhn=>uT hn.k λ_ _ _ h h' k=>St.F9 h h' (m:=32) rfl zf (by rw [show i / (2:Int) ^ 32=0 from by have:=hn.p;rw [show(2:Int) ^ 32=4294967296 from rfl];omega];exact k)⟩
instance:Sp (tZ Γ c d (.binOp .mul t x y u) ty e o N x (.val (.int .u64 i)) y (.val (.int .u64 j))) (Om (0<=i * j/\i * j<=18446744073709551615) (N ((d,.val (.int .u64 (i * j))) :: e) o)):=⟨λhn=>uT hn.k λ_ _ _ h h' k=> .xH (vZ h h' λw=>by
 simp only [binOp_mul,Op.intArith]
 show Result.ok (Value.int .u64 _) w=_
 rw [wrap_u64 hn.p]) k⟩
instance:Sp (tZ Γ c d (.binOp .add t x y u) ty e o N x (.val (.int .u64 i)) y (.val (.int .u64 j))) (Om (0<=i+j/\i+j<=18446744073709551615) (N ((d,.val (.int .u64 (i+j))) :: e) o)):=⟨λhn=>uT hn.k λ_ _ _ h h' k=> .xH (vZ h h' λw=>by
 simp only [binOp_add,Op.intArith]
 show Result.ok (Value.int .u64 _) w=_
 rw [wrap_u64 hn.p]) k⟩
end
end Go.CF
namespace Go.Proofs.YtmjllbjfkafhdaaGreatDoor
open Go Go.CF
abbrev u6 (x:Int):AV:= .val (.int .u64 x)
theorem QK(a b:Int)(ha:0<=a/\a<=65535)(hb:0<=b/\b<=65535):y6 Tryz.prog 260 [u6 a,u6 b] (.yE [u6 0,u6 (a * b)]):=by
 have h1:0<=a * b:=Int.mul_nonneg ha.1 hb.1
 have h2:a * b<=65535 * 65535:=Int.mul_le_mul ha.2 hb.2 hb.1 z6
 refine zy.of pg ye Tryz.func260 rfl Tryz.ntmps260 Tryz.results260 rfl λh0 G0 O0=>?_
 repeat'(first|apply Sp.h|refine Lk.r rfl ?_|refine Rf.mk rfl ?_|refine xP ?_|refine xN ?_|fail)
 simp only [Int.mul_zero,Int.add_zero]
 exact⟨_,_,.yE (.same (.same (.z))),rfl,rfl⟩
theorem EZ(a b:Int)(ha:0<=a/\a<=65535)(hb:0<=b/\b<=65535):y6 Tryz.prog 222 [u6 a,u6 b] (.yE [u6 0,u6 (a * b)]):=by
 have h:=QK a b ha hb
 refine zy.of pg ye Tryz.func222 rfl Tryz.ntmps222 Tryz.results222 rfl λh0 G0 O0=>?_
 repeat'(first|apply Sp.h|refine Lk.r rfl ?_|refine Rf.mk rfl ?_|refine xN ?_|(apply Cl.p (h);focus repeat' constructor))
 exact⟨_,_,.yE (.same (.same (.z))),rfl,rfl⟩
end Go.Proofs.YtmjllbjfkafhdaaGreatDoor
namespace Go.CF
open Go
section
variable {Γ:Cx} {k:List KI} {e:EA} {o:List yh} {N:NA} {c:xa} {d:Tmp} {ty:TypeId} {x y z:Operand} {t u:TypeId} {kk:IntKind} {i:Int}
instance {v:Value} {b:AV}:Sp (GG Γ c d t u x y ty e o N (.ow v) b) (Lk (nN Γ.tt t) λp=>Src o b p.2.size λq g=>gU o v λT sz l f rest=>Rf (T=p.1/\sz=p.2.size) (Mp q g f λq' =>
  N ((d,.val (.int .i64 (min q'.length l.length:Nat))) :: e) (yb v T sz (q'.take (min q'.length l.length) ++ l.drop (min q'.length l.length)) f :: rest))):=⟨λ⟨p,hp,β,q,g,⟨α,T,sz,l,f,rest,tk,⟨hT,hz⟩,q',PX,hn⟩,kG⟩=>⟨λha hb hc=>⟨λenv hh G Os cn=>by
 obtain⟨w,g1,hwv,-⟩:=cn.get ha
 rw [hwv] at g1
 clear hwv
 obtain⟨w2,g2,r2⟩:=cn.get hb
 obtain⟨wg,qZ,YK⟩:=kG cn.hp r2
 have gP:q'.length=q.length:=by have:=congrArg List.length PX;simpa using this
 have Xc:=YK.map PX
 subst hT;subst hz
 obtain⟨ti,t1,t2,t3⟩:=xg hp
 obtain⟨O,yz,yT⟩:=cn.take tk
 obtain⟨⟨ho,rows,hw,hr⟩,xq⟩:=yT.hp.own
 by_cases h0:min q'.length l.length=0
 ·obtain⟨dl,dc,pp,hv,hm⟩:∃dl dc pp,v= .slice pp dl dc/\dl=l.length:=by
   rcases hw.ok with⟨e1,e2⟩|⟨b,of,wR,L,e1,-⟩
   ·exact⟨_,_,_,e1,z6⟩
   ·exact⟨_,_,_,e1,rfl⟩
  subst hm
  rw [hv] at g1
  refine .th hc (rp Γ.ok t1 t2 t3 g1 g2 qZ (by rw [<-gP];exact h0) ?_)
  rw [h0,List.take_zero,List.nil_append,List.drop_zero] at hn
  exact CN.mk (yT.put d (a:= .val (.int .i64 (0:Nat))) rfl) hn
 ·rcases hw.ok with⟨e1,e2⟩|⟨b,of,wR,L,e1,oN,h1,h2,h3⟩
  ·omega
  ·subst e1
   have hlen:=hw.v_
   have Lh:=YK.sz
   have Vi:wg.flatten.length=q.length * p.2.size:=by rw [YK.pE]
   have Ln:min q'.length l.length * p.2.size<=q.length * p.2.size:=zU _ z6
   have O7:min q'.length l.length * p.2.size<=l.length * p.2.size:=zU _ z6
   have ey:l.length * p.2.size<=wR * p.2.size:=zU _ h2
   refine .th hc (k9 Γ.ok t1 t2 t3 g1 g2 oN qZ Vi (λv hv=>YK.one v (zW hv)) (by rw [<-gP];omega) λh' u4 hu=>?_)
   rw [<-gP] at hu ⊢
   have WR:O b:=(ho b).2 (by simp [xz])
   have hX:(wg.flatten.take (min q'.length l.length * p.2.size)).length=min q'.length l.length * p.2.size:=by rw [zN];omega
   have hu':ej hh b p.1 (L.take (of+0 * p.2.size) ++ wg.flatten.take (min q'.length l.length * p.2.size) ++ L.drop (of+0 * p.2.size+min q'.length l.length * p.2.size)) h':=by rw [Nat.zero_mul,Nat.add_zero];exact hu
   have oO:=lW (j:=0) hw hX z6 hu' h1 h2 h3
   rw [Nat.zero_mul,List.take_zero,List.nil_append,Nat.zero_add] at oO
   have VL:(q'.take (min q'.length l.length) ++ l.drop (min q'.length l.length)).length=l.length:=by simp;omega
   have qz:(wg.take (min q'.length l.length) ++ rows.drop (min q'.length l.length)).flatten=wg.flatten.take (min q'.length l.length * p.2.size) ++ rows.flatten.drop (min q'.length l.length * p.2.size):=by
    rw [List.flatten_append,xX wg _ Lh,pq rows _ hr.sz]
   have c3:=nh (R':=yb (.slice (some ⟨b,of,none⟩) l.length wR) p.1 p.2.size (q'.take (min q'.length l.length) ++ l.drop (min q'.length l.length)) f) yT hu WR (λhg=>⟨ho,wg.take (min q'.length l.length) ++ rows.drop (min q'.length l.length),by rw [VL,qz];exact oO,((Xc.take _).app (hr.drop _)).wm hg⟩)
   exact CN.mk (c3.put d (a:= .val _) rfl) hn⟩⟩⟩
end
end Go.CF
namespace Go.Proofs.YtmjllbjfkafhdaaGreatDoor
open Go Go.CF
theorem _root_.Go.CF.zm {p:Prop}(h:p:=by (repeat constructor);first|done|fail):p:=h
theorem UW(r:Int×Int)(n:Nat)(hn:1<=n/\n<=216):zy Tryz.prog 181 [.sl 2 [r] vT,it (n:Int)] [] λq own=>∃v,q= .ow v/\own= [yb v 148 2 (List.replicate n r) vT]:=by
 have hm:=EZ 1 (n:Int) z6 z6
 have C4:=hn.1
 have B3:=hn.2
 refine zy.of pg JR Tryz.func181 rfl Tryz.ntmps181 Tryz.results181 rfl λh0 G0 O0=>?_
 (repeat'(first|(show CA _ _ (Code.region 7 _ _) _ _;apply z_.out)|apply Sp.h|refine Lk.r rfl ?_|refine Rf.mk rfl ?_|refine xB ?_|refine Im.mk λ_=>?_|refine xN ?_|refine Rf.mk ⟨rfl,rfl,rfl⟩ ?_|(apply Jx.r;{exact zj};{exact zb})|(apply r_.i64;{exact zu};{exact z6})|(apply r_.u64;{exact zu};{exact z6})|(apply Cl.p (hm);focus(repeat' constructor);done)))
 refine yC.r vT ((0:Int),(0:Int)) rfl ?_
 refine⟨λv=>?_⟩
 repeat'(first|apply Sp.h|refine Lk.r rfl ?_|refine Rf.mk rfl ?_|refine xU ?_|refine Rf.mk ⟨rfl,rfl⟩ ?_|refine Mp.same ?_|fail)
 have e1:min [r].length (List.replicate n ((0:Int),(0:Int))).length=1:=by simp;omega
 have e2:List.take 1 [r] ++ (List.replicate n ((0:Int),(0:Int))).drop 1=List.replicate 1 r ++ List.replicate (n - 1) (0,0):=by simp
 rw [Nat.one_mul,e1,e2]
 refine CA.loop (λm:Nat=>⟨[(7,.ow v),(8,it m)],[yb v 148 2 (List.replicate m r ++ List.replicate (n - m) (0,0)) vT]⟩) (λm=>1<=m/\m<=n) (λm=>n - m) 1 xE ⟨Nat.le_refl _,C4⟩ ?_
 rintro m ⟨Hq,C7⟩
 have hl:(List.replicate m r ++ List.replicate (n - m) ((0:Int),(0:Int))).length=n:=by simp;omega
 by_cases hmn:m < n
 ·repeat'(first|apply Sp.h|refine Lk.r rfl ?_|refine Rf.mk rfl ?_|refine xA ?_|refine yu.r rfl ?_|refine xU ?_|refine Rf.mk ⟨rfl,rfl⟩ ?_|refine Rf.mk ⟨rfl,rfl,rfl⟩ ?_|(apply Jx.r;{exact zj};{exact zb})|refine Mp.same ?_|refine xD ?_|refine xO ?_|(apply nX.all;{exact zm})|fail)
  have q1:List.take (m - 0) (List.drop 0 (List.replicate m r ++ List.replicate (n - m) ((0:Int),(0:Int))))=List.replicate m r:=by simp
  have q2:List.take m (List.replicate m r ++ List.replicate (n - m) ((0:Int),(0:Int)))=List.replicate m r:=by simp
  have q3:∀k,k<=m->m+k<=n->List.replicate m r ++ List.take k (List.replicate m r) ++ List.drop (m+k) (List.replicate m r ++ List.replicate (n - m) ((0:Int),(0:Int)))=List.replicate (m+k) r ++ List.replicate (n - (m+k)) (0,0):=by
   intro k WU lK
   rw [List.take_replicate,Nat.min_eq_left WU,List.replicate_append_replicate,List.drop_append,zR,List.drop_eq_nil_of_le zd,List.nil_append,List.drop_replicate]
   congr 2
   omega
  rw [q1,q2,hl,zR]
  obtain⟨k,hk⟩:∃k,min m (n - m)=k:=⟨_,rfl⟩
  rw [hk,q3 k z6 z6]
  exact PA.lp (m+k) xE ⟨⟨z6,z6⟩,z6⟩
 ·have:m=n:=z6
  subst this
  rw [Nat.sub_self,List.replicate_zero,List.append_nil] at hl ⊢
  repeat'(first|apply Sp.h|refine Lk.r rfl ?_|refine Rf.mk rfl ?_|refine xB ?_|refine xU ?_|refine xN ?_|fail)
  exact⟨_,_,.one (.same (.z)),_,rfl,rfl⟩
theorem P4{r:AV}{own:List yh}{L:List (Int×Int)}(h:∃v,r= .ow v/\own= [yb v 148 2 L vT]):s7 r/\∀R∈own,vS R:=by
 obtain⟨v,rfl,rfl⟩:=h
 refine⟨.ow _,λR hR=>?_⟩
 rw [zH.1 hR]
 exact vS.arr λ_ _=> .cons (.val _) (.cons (.val _) .nil)
theorem mJ(sizes:List Int)(l:List ym)(s:Bool):yV Tryz.prog 127 [ints sizes,xG l,.val (.bool s)] (.sl 2 (sr sizes s l) vT):=by
 have hv:=nD sizes l
 refine yJ.of pg J_ Tryz.func127 rfl Tryz.ntmps127 Tryz.results127 rfl λh0 G0 O0 ga=>?_
 by_cases bm:vh sizes l
 rotate_left
 ·rw [sr,if_neg bm]
  repeat'(first|apply Sp.h|refine Lk.r rfl ?_|refine Rf.mk rfl ?_|refine xB ?_|refine xN ?_|(apply Cl.pG (hv);{exact ga};focus(repeat' constructor);done))
  exact⟨_,_,.one (.ic (.z)),rfl,rfl⟩
 have hlen:=tu (sizes:=sizes) (l:=l) (s:=s)
 rw [sr,if_pos bm] at hlen ⊢
 have V8:=bm.tl
 have qY:=bm.so
 repeat'(first|apply Sp.h|refine Lk.r rfl ?_|refine Rf.mk rfl ?_|refine xA ?_|refine Im.mk λ_=>?_|(apply Cl.pG (hv);{exact ga};focus(repeat' constructor);done))
 refine CA.uV 7 148 2 vT rfl λv=>?_
 refine CA.loop (λx:Nat×Value=>⟨[(0,ints sizes),(2,.val (.bool s)),(7,.ow x.2),(14,xG l),(15,it (l.length:Nat)),(16,it x.1)],[yb x.2 148 2 (pX sizes s (l.take x.1)) vT]⟩) (λx=>x.1<=l.length) (λx=>l.length - x.1) (0,v) xE (zZ _) ?_
 rintro⟨i,v⟩ hi
 simp only at hi
 simp only
 have Gf:((pX sizes s (l.take i)).length:Int)<=216 * i:=by rw [qM];exact(rQ i).2
 by_cases yd:i < l.length
 ·obtain⟨t,ht⟩:=zz yd
  have pD:=((bm.t i t ht).ok).1
  have fg:=ot t
  have V4:=fI sizes t.ya pD
  have bQ:wF sizes t.ya=wD sizes t.ya:=by rw [wF,if_pos pD]
  have kq:=rN sizes t.ya
  have hpo:=(sG qY t.ya).1
  rw [bQ] at kq
  obtain⟨w,hw⟩:∃w:Nat,wD sizes t.ya=(w:Int):=⟨_,(Int.toNat_of_nonneg kq.1).symm⟩
  have CX:=UW (t.lo,t.hi) w z6
  rw [hw] at V4 kq hpo
  have xe:=gh (sizes:=sizes) (s:=s) ht
  by_cases yL:decide (yi t.kind)=s
  ·rw [if_pos yL,bQ,hw,Int.toNat_natCast] at xe
   repeat'(first|apply Sp.h|refine Lk.r rfl ?_|refine Rf.mk rfl ?_|refine xA ?_|refine yu.r rfl ?_|refine xP ?_|refine yc.mk λ_=>?_|refine xU ?_|refine xT ?_|refine xI ?_|refine Ce.r ?_|refine Ch.l ⟨rfl,rfl⟩ ?_|refine Ch.r ?_|(apply y4.r;focus repeat' constructor)|(apply Fk.r;focus repeat' first|infer_instance|constructor)|refine xN ?_|refine Rf.mk ⟨rfl,rfl⟩ ?_|refine Rf.mk ⟨rfl,rfl,rfl⟩ ?_|refine Mp.same ?_|refine xD ?_|exact trivial|apply vn.both|refine xO ?_|(apply Cl.p (fg);focus(repeat' constructor);done)|(apply Cl.p (V4);focus(repeat' constructor);done)|(apply Cl.yY (fg);{exact zr})|(apply Cl.yY (V4);{exact zr})|(apply Cl.Mg CX;(focus((repeat'(first|exact y3.nil|apply y3.yB|(apply y3.yX;{exact z1};{exact zu};{exact za})|fail));done));{exact λ_ _=>P4};(rintro _ _ ⟨v2,rfl,rfl⟩)))
   all_goals first
    | (rw [<-xe];exact PA.lp (i+1,_) xE ⟨yd,by simp only;omega⟩)
    | exact absurd yL z8
  ·rw [if_neg yL,List.append_nil] at xe
   repeat'(first|apply Sp.h|refine Lk.r rfl ?_|refine Rf.mk rfl ?_|refine xA ?_|refine xB ?_|refine yc.mk λ_=>?_|refine xT ?_|refine xI ?_|refine Ch.l ⟨rfl,rfl⟩ ?_|(apply y4.r;focus repeat' constructor)|refine xN ?_|refine xO ?_|(apply Cl.p (fg);focus(repeat' constructor);done)|(apply Cl.yY (fg);{exact zr}))
   all_goals first
    | (rw [<-xe];exact PA.lp (i+1,v) xE ⟨yd,by simp only;omega⟩)
    | exact absurd z8 yL
 ·have:i=l.length:=z6
  subst this
  rw [zL]
  repeat'(first|apply Sp.h|refine Lk.r rfl ?_|refine Rf.mk rfl ?_|refine xB ?_|refine xN ?_|fail)
  exact⟨_,_,.one (.fz z1 z6 (.z)),rfl,rfl⟩
end Go.Proofs.YtmjllbjfkafhdaaGreatDoor
