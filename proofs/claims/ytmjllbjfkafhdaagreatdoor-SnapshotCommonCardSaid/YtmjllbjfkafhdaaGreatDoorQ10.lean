/- Part 10 of the ground of this proof: what its texts say of the model, the program and the plain data; conditions: those that are named. -/
import Derived.Test.YtmjllbjfkafhdaaGreatDoorQ09
namespace Go.Proofs.YtmjllbjfkafhdaaGreatDoor
open Go Go.CF
theorem mvalid_of(m:ModS)(hol:m.ops.length≤1000000000)(hur:UpdsRg m)(hhid:LayOK m.sorts m.tables→CallP Tryz.prog 131 [.agg (jdgC m (strR m))] (.val (.bool (decide (HidX m))))) : CallGP Tryz.prog 56 [mdl m] (.val (.bool (decide (ValX m)))):=by
 have h9:=cvalid_g m.sorts m.tables
 have hfd:=mdistinct_g m.families
 have hra:=cranges_g m.sorts m.tables true
 change CallGP _ _ _ (.sl 2 (strR m) rngC) at hra
 have hops:=moperations_g m (strR m) hol
 have hacx:OpsX m→CallGP Tryz.prog 130 [.agg (jdgC m (strR m))] (.val (.bool (decide (ActX m)))):=fun h=>mactions_g m h hur
 have hcox:=fun h=>mconstraints_p m h
 generalize strR m=rs at hra hops hacx hcox hhid
 refine CallG.of pg ord56 Tryz.func56 rfl Tryz.ntmps56 Tryz.results56 rfl fun h0 G0 O0 ga=>?_
 by_cases hx:LayX m.sorts m.tables∧m.families.length≤24∧DisX m.families
 rotate_left
 ·have hno:¬ValX m:=fun h=>hx ⟨h.lay,h.fl,h.fd⟩
  repeat'(first|apply Sp.h|refine Lk.r rfl ?_|refine Rf.mk rfl ?_|refine xA ?_|refine xB ?_|(refine Bd.mk ?_ ?_ <;> intro _)|refine OpK.r rfl ?_|refine xP ?_|refine Im.mk fun _=>?_|refine All.mk fun _=>?_|refine xU ?_|refine xT ?_|refine xI ?_|(apply Ix.r;(focus assumption);(focus omega))|refine xJ ?_|refine Ce.l rfl ?_|refine Ce.r ?_|refine Ch.l ⟨rfl,rfl⟩ ?_|refine Ch.r ?_|refine xV ?_|(apply SetAsk.r;focus repeat' constructor)|(apply Fk.r;focus repeat' first|infer_instance|constructor)|refine xN ?_|refine Rf.mk ⟨rfl,rfl⟩ ?_|refine Rf.mk ⟨rfl,rfl,rfl⟩ ?_|(apply Jx.r;(focus exact rfl);(focus first|omega|(simp;done)|(simp;omega)))|refine Up.r rfl ?_|(apply Up.inv;(focus repeat constructor);(focus infer_instance))|refine xK ?_|(apply Kf.mk;(focus kernel_rfl))|refine xM ?_|refine UpV.r rfl ?_|(apply Zx.agg;(focus rfl);(focus rfl);(focus repeat constructor))|(apply Zx.b;(focus rfl))|(apply Zx.i;(focus rfl))|apply Zx.one|(apply LkM.s;(focus first|assumption|rfl))|(apply LkM.n;(focus first|assumption|rfl))|(apply Rf.mk;(focus assumption))|refine MkS.r intC 0 rfl ?_|refine Mp.same ?_|(apply Mp.lit;(focus repeat(first|exact MpL.nil|(apply MpL.cons;(focus rfl))|(apply MpL.inv;(focus repeat constructor);(focus infer_instance)))))|refine xD ?_|exact trivial|(apply Lk.r;(focus assumption))|(apply Sx.r;(focus exact rfl);(focus first|omega|(simp;omega)))|(apply CA.drawF;(focus rfl);(focus kernel_rfl);(focus kernel_rfl);(focus repeat' constructor);(focus rfl);intro _n0 _hlt)|(apply NfK.nr;(focus rfl))|(apply NfK.lt;(focus first|assumption|omega|(apply _hlt;repeat constructor)))|(apply NfV.nr;(focus rfl))|apply RA'.both|refine xO ?_|(apply CpS.part;(focus(repeat constructor;done)))|(apply CpS.all;(focus(repeat constructor;done)))|(apply TkX.r;(focus repeat constructor))|(apply ExX.short;(focus rfl);(focus first|omega|(simp <;> omega));(focus first|omega|(simp <;> omega)))|(apply ExX.long;(focus rfl);(focus first|omega|(simp <;> omega));(focus first|omega|(simp <;> omega)))|(apply Ovl.mk';(focus repeat constructor);(focus repeat constructor);(focus decide))|(apply Cvk.i64;(focus rfl);(focus omega))|(apply Cvk.u64;(focus rfl);(focus omega))|(apply Cvk.u8;(focus rfl);(focus omega))|refine Rf.mk ⟨rfl,by decide⟩ ?_|(apply Rf.mk;(focus exact⟨by decide,rfl⟩))|(apply Sx.r;(focus assumption);(focus first|omega|(simp;omega)))|(apply Ix.q;(focus assumption);(focus assumption))|(apply TkJ.r;(focus repeat constructor))|(apply TkE.r;(focus repeat constructor))|(apply NxK.mk)|(apply Ix.q;(focus assumption);(focus assumption))|(apply TkS.r;(focus repeat constructor))|(apply Ix.q;(focus assumption);(focus assumption))|(apply Cl.pG (h9);(focus exact ga);(focus((repeat'(first|exact Lend.nil|apply Lend.keep|apply Lend.nils|(apply Lend.mp;(focus rfl))|(apply Lend.lend;(focus repeat constructor);(focus first|omega|(simp;omega)))|(apply Lend.lendm;(focus repeat constructor);(focus rfl);(focus first|omega|decide|(simp;omega)|exact zB rfl))|(apply Lend.cell;(focus repeat constructor))|refine Lend.fn ?_ ?_|apply Lend.agg));done)))|(apply Cl.pG (hfd);(focus exact ga);(focus((repeat'(first|exact Lend.nil|apply Lend.keep|apply Lend.nils|(apply Lend.mp;(focus rfl))|(apply Lend.lend;(focus repeat constructor);(focus first|omega|(simp;omega)))|(apply Lend.lendm;(focus repeat constructor);(focus rfl);(focus first|omega|decide|(simp;omega)|exact zB rfl))|(apply Lend.cell;(focus repeat constructor))|refine Lend.fn ?_ ?_|apply Lend.agg));done))))
  all_goals first
   | exact Fin.p rfl (vb (zF hno).symm)
   | exact(hx ⟨by assumption,by omega,by assumption⟩).elim
 obtain⟨x1,x2,x3⟩:=hx
 have hcon:=hcox x1.ok
 have hhid:=hhid x1.ok
 by_cases ho:OpsX m
 rotate_left
 ·have hno:¬ValX m:=fun h=>ho h.act.o
  repeat'(first|apply Sp.h|refine Lk.r rfl ?_|refine Rf.mk rfl ?_|refine xA ?_|refine xB ?_|(refine Bd.mk ?_ ?_ <;> intro _)|refine OpK.r rfl ?_|refine xP ?_|refine Im.mk fun _=>?_|refine All.mk fun _=>?_|refine xU ?_|refine xT ?_|refine xI ?_|(apply Ix.r;(focus assumption);(focus omega))|refine xJ ?_|refine Ce.l rfl ?_|refine Ce.r ?_|refine Ch.l ⟨rfl,rfl⟩ ?_|refine Ch.r ?_|refine xV ?_|(apply SetAsk.r;focus repeat' constructor)|(apply Fk.r;focus repeat' first|infer_instance|constructor)|refine xN ?_|refine Rf.mk ⟨rfl,rfl⟩ ?_|refine Rf.mk ⟨rfl,rfl,rfl⟩ ?_|(apply Jx.r;(focus exact rfl);(focus first|omega|(simp;done)|(simp;omega)))|refine Up.r rfl ?_|(apply Up.inv;(focus repeat constructor);(focus infer_instance))|refine xK ?_|(apply Kf.mk;(focus kernel_rfl))|refine xM ?_|refine UpV.r rfl ?_|(apply Zx.agg;(focus rfl);(focus rfl);(focus repeat constructor))|(apply Zx.b;(focus rfl))|(apply Zx.i;(focus rfl))|apply Zx.one|(apply LkM.s;(focus first|assumption|rfl))|(apply LkM.n;(focus first|assumption|rfl))|(apply Rf.mk;(focus assumption))|refine MkS.r intC 0 rfl ?_|refine Mp.same ?_|(apply Mp.lit;(focus repeat(first|exact MpL.nil|(apply MpL.cons;(focus rfl))|(apply MpL.inv;(focus repeat constructor);(focus infer_instance)))))|refine xD ?_|exact trivial|(apply Lk.r;(focus assumption))|(apply Sx.r;(focus exact rfl);(focus first|omega|(simp;omega)))|(apply CA.drawF;(focus rfl);(focus kernel_rfl);(focus kernel_rfl);(focus repeat' constructor);(focus rfl);intro _n0 _hlt)|(apply NfK.nr;(focus rfl))|(apply NfK.lt;(focus first|assumption|omega|(apply _hlt;repeat constructor)))|(apply NfV.nr;(focus rfl))|apply RA'.both|refine xO ?_|(apply CpS.part;(focus(repeat constructor;done)))|(apply CpS.all;(focus(repeat constructor;done)))|(apply TkX.r;(focus repeat constructor))|(apply ExX.short;(focus rfl);(focus first|omega|(simp <;> omega));(focus first|omega|(simp <;> omega)))|(apply ExX.long;(focus rfl);(focus first|omega|(simp <;> omega));(focus first|omega|(simp <;> omega)))|(apply Ovl.mk';(focus repeat constructor);(focus repeat constructor);(focus decide))|(apply Cvk.i64;(focus rfl);(focus omega))|(apply Cvk.u64;(focus rfl);(focus omega))|(apply Cvk.u8;(focus rfl);(focus omega))|refine Rf.mk ⟨rfl,by decide⟩ ?_|(apply Rf.mk;(focus exact⟨by decide,rfl⟩))|(apply Sx.r;(focus assumption);(focus first|omega|(simp;omega)))|(apply Ix.q;(focus assumption);(focus assumption))|(apply TkJ.r;(focus repeat constructor))|(apply TkE.r;(focus repeat constructor))|(apply NxK.mk)|(apply Ix.q;(focus assumption);(focus assumption))|(apply TkS.r;(focus repeat constructor))|(apply Ix.q;(focus assumption);(focus assumption))|(apply Cl.pG (h9);(focus exact ga);(focus((repeat'(first|exact Lend.nil|apply Lend.keep|apply Lend.nils|(apply Lend.mp;(focus rfl))|(apply Lend.lend;(focus repeat constructor);(focus first|omega|(simp;omega)))|(apply Lend.lendm;(focus repeat constructor);(focus rfl);(focus first|omega|decide|(simp;omega)|exact zB rfl))|(apply Lend.cell;(focus repeat constructor))|refine Lend.fn ?_ ?_|apply Lend.agg));done)))|(apply Cl.pG (hfd);(focus exact ga);(focus((repeat'(first|exact Lend.nil|apply Lend.keep|apply Lend.nils|(apply Lend.mp;(focus rfl))|(apply Lend.lend;(focus repeat constructor);(focus first|omega|(simp;omega)))|(apply Lend.lendm;(focus repeat constructor);(focus rfl);(focus first|omega|decide|(simp;omega)|exact zB rfl))|(apply Lend.cell;(focus repeat constructor))|refine Lend.fn ?_ ?_|apply Lend.agg));done)))|(apply Cl.pG (hra);(focus exact ga);(focus((repeat'(first|exact Lend.nil|apply Lend.keep|apply Lend.nils|(apply Lend.mp;(focus rfl))|(apply Lend.lend;(focus repeat constructor);(focus first|omega|(simp;omega)))|(apply Lend.lendm;(focus repeat constructor);(focus rfl);(focus first|omega|decide|(simp;omega)|exact zB rfl))|(apply Lend.cell;(focus repeat constructor))|refine Lend.fn ?_ ?_|apply Lend.agg));done)))|(apply Cl.p (hcon);(focus((repeat'(first|exact Lend.nil|apply Lend.keep|apply Lend.nils|(apply Lend.mp;(focus rfl))|(apply Lend.lend;(focus repeat constructor);(focus first|omega|(simp;omega)))|(apply Lend.lendm;(focus repeat constructor);(focus rfl);(focus first|omega|decide|(simp;omega)|exact zB rfl))|(apply Lend.cell;(focus repeat constructor))|refine Lend.fn ?_ ?_|apply Lend.agg));done)))|(apply Cl.pG (hops);(focus exact ga);(focus((repeat'(first|exact Lend.nil|apply Lend.keep|apply Lend.nils|(apply Lend.mp;(focus rfl))|(apply Lend.lend;(focus repeat constructor);(focus first|omega|(simp;omega)))|(apply Lend.lendm;(focus repeat constructor);(focus rfl);(focus first|omega|decide|(simp;omega)|exact zB rfl))|(apply Lend.cell;(focus repeat constructor))|refine Lend.fn ?_ ?_|apply Lend.agg));done))))
  all_goals first
   | exact Fin.p rfl (vb (zF hno).symm)
   | exact absurd (by assumption) ho
   | exact Fin.p rfl (vb (by rw [zF hno];exact zF ho))
 have hact:=hacx ho
 by_cases hv:ConX m∧ActX m
 ·have hiff:ValX m↔HidX m:=⟨fun h=>h.hid,fun h=>⟨x1,x2,x3,hv.1,hv.2,h⟩⟩
  obtain⟨hv1,hv2⟩:=hv
  repeat'(first|apply Sp.h|refine Lk.r rfl ?_|refine Rf.mk rfl ?_|refine xA ?_|refine xB ?_|(refine Bd.mk ?_ ?_ <;> intro _)|refine OpK.r rfl ?_|refine xP ?_|refine Im.mk fun _=>?_|refine All.mk fun _=>?_|refine xU ?_|refine xT ?_|refine xI ?_|(apply Ix.r;(focus assumption);(focus omega))|refine xJ ?_|refine Ce.l rfl ?_|refine Ce.r ?_|refine Ch.l ⟨rfl,rfl⟩ ?_|refine Ch.r ?_|refine xV ?_|(apply SetAsk.r;focus repeat' constructor)|(apply Fk.r;focus repeat' first|infer_instance|constructor)|refine xN ?_|refine Rf.mk ⟨rfl,rfl⟩ ?_|refine Rf.mk ⟨rfl,rfl,rfl⟩ ?_|(apply Jx.r;(focus exact rfl);(focus first|omega|(simp;done)|(simp;omega)))|refine Up.r rfl ?_|(apply Up.inv;(focus repeat constructor);(focus infer_instance))|refine xK ?_|(apply Kf.mk;(focus kernel_rfl))|refine xM ?_|refine UpV.r rfl ?_|(apply Zx.agg;(focus rfl);(focus rfl);(focus repeat constructor))|(apply Zx.b;(focus rfl))|(apply Zx.i;(focus rfl))|apply Zx.one|(apply LkM.s;(focus first|assumption|rfl))|(apply LkM.n;(focus first|assumption|rfl))|(apply Rf.mk;(focus assumption))|refine MkS.r intC 0 rfl ?_|refine Mp.same ?_|(apply Mp.lit;(focus repeat(first|exact MpL.nil|(apply MpL.cons;(focus rfl))|(apply MpL.inv;(focus repeat constructor);(focus infer_instance)))))|refine xD ?_|exact trivial|(apply Lk.r;(focus assumption))|(apply Sx.r;(focus exact rfl);(focus first|omega|(simp;omega)))|(apply CA.drawF;(focus rfl);(focus kernel_rfl);(focus kernel_rfl);(focus repeat' constructor);(focus rfl);intro _n0 _hlt)|(apply NfK.nr;(focus rfl))|(apply NfK.lt;(focus first|assumption|omega|(apply _hlt;repeat constructor)))|(apply NfV.nr;(focus rfl))|apply RA'.both|refine xO ?_|(apply CpS.part;(focus(repeat constructor;done)))|(apply CpS.all;(focus(repeat constructor;done)))|(apply TkX.r;(focus repeat constructor))|(apply ExX.short;(focus rfl);(focus first|omega|(simp <;> omega));(focus first|omega|(simp <;> omega)))|(apply ExX.long;(focus rfl);(focus first|omega|(simp <;> omega));(focus first|omega|(simp <;> omega)))|(apply Ovl.mk';(focus repeat constructor);(focus repeat constructor);(focus decide))|(apply Cvk.i64;(focus rfl);(focus omega))|(apply Cvk.u64;(focus rfl);(focus omega))|(apply Cvk.u8;(focus rfl);(focus omega))|refine Rf.mk ⟨rfl,by decide⟩ ?_|(apply Rf.mk;(focus exact⟨by decide,rfl⟩))|(apply Sx.r;(focus assumption);(focus first|omega|(simp;omega)))|(apply Ix.q;(focus assumption);(focus assumption))|(apply TkJ.r;(focus repeat constructor))|(apply TkE.r;(focus repeat constructor))|(apply NxK.mk)|(apply Ix.q;(focus assumption);(focus assumption))|(apply TkS.r;(focus repeat constructor))|(apply Ix.q;(focus assumption);(focus assumption))|(apply Cl.pG (h9);(focus exact ga);(focus((repeat'(first|exact Lend.nil|apply Lend.keep|apply Lend.nils|(apply Lend.mp;(focus rfl))|(apply Lend.lend;(focus repeat constructor);(focus first|omega|(simp;omega)))|(apply Lend.lendm;(focus repeat constructor);(focus rfl);(focus first|omega|decide|(simp;omega)|exact zB rfl))|(apply Lend.cell;(focus repeat constructor))|refine Lend.fn ?_ ?_|apply Lend.agg));done)))|(apply Cl.pG (hfd);(focus exact ga);(focus((repeat'(first|exact Lend.nil|apply Lend.keep|apply Lend.nils|(apply Lend.mp;(focus rfl))|(apply Lend.lend;(focus repeat constructor);(focus first|omega|(simp;omega)))|(apply Lend.lendm;(focus repeat constructor);(focus rfl);(focus first|omega|decide|(simp;omega)|exact zB rfl))|(apply Lend.cell;(focus repeat constructor))|refine Lend.fn ?_ ?_|apply Lend.agg));done)))|(apply Cl.pG (hra);(focus exact ga);(focus((repeat'(first|exact Lend.nil|apply Lend.keep|apply Lend.nils|(apply Lend.mp;(focus rfl))|(apply Lend.lend;(focus repeat constructor);(focus first|omega|(simp;omega)))|(apply Lend.lendm;(focus repeat constructor);(focus rfl);(focus first|omega|decide|(simp;omega)|exact zB rfl))|(apply Lend.cell;(focus repeat constructor))|refine Lend.fn ?_ ?_|apply Lend.agg));done)))|(apply Cl.p (hcon);(focus((repeat'(first|exact Lend.nil|apply Lend.keep|apply Lend.nils|(apply Lend.mp;(focus rfl))|(apply Lend.lend;(focus repeat constructor);(focus first|omega|(simp;omega)))|(apply Lend.lendm;(focus repeat constructor);(focus rfl);(focus first|omega|decide|(simp;omega)|exact zB rfl))|(apply Lend.cell;(focus repeat constructor))|refine Lend.fn ?_ ?_|apply Lend.agg));done)))|(apply Cl.pG (hops);(focus exact ga);(focus((repeat'(first|exact Lend.nil|apply Lend.keep|apply Lend.nils|(apply Lend.mp;(focus rfl))|(apply Lend.lend;(focus repeat constructor);(focus first|omega|(simp;omega)))|(apply Lend.lendm;(focus repeat constructor);(focus rfl);(focus first|omega|decide|(simp;omega)|exact zB rfl))|(apply Lend.cell;(focus repeat constructor))|refine Lend.fn ?_ ?_|apply Lend.agg));done)))|(apply Cl.pG (hact);(focus exact ga);(focus((repeat'(first|exact Lend.nil|apply Lend.keep|apply Lend.nils|(apply Lend.mp;(focus rfl))|(apply Lend.lend;(focus repeat constructor);(focus first|omega|(simp;omega)))|(apply Lend.lendm;(focus repeat constructor);(focus rfl);(focus first|omega|decide|(simp;omega)|exact zB rfl))|(apply Lend.cell;(focus repeat constructor))|refine Lend.fn ?_ ?_|apply Lend.agg));done)))|(apply Cl.p (hhid);(focus((repeat'(first|exact Lend.nil|apply Lend.keep|apply Lend.nils|(apply Lend.mp;(focus rfl))|(apply Lend.lend;(focus repeat constructor);(focus first|omega|(simp;omega)))|(apply Lend.lendm;(focus repeat constructor);(focus rfl);(focus first|omega|decide|(simp;omega)|exact zB rfl))|(apply Lend.cell;(focus repeat constructor))|refine Lend.fn ?_ ?_|apply Lend.agg));done))))
  all_goals first
   | exact Fin.p rfl (vb (zD.2 hiff.symm))
   | exact absurd hv1 (by assumption)
   | exact absurd hv2 (by assumption)
   | exact absurd ho (by assumption)
 ·have hno:¬ValX m:=fun h=>hv ⟨h.con,h.act⟩
  repeat'(first|apply Sp.h|refine Lk.r rfl ?_|refine Rf.mk rfl ?_|refine xA ?_|refine xB ?_|(refine Bd.mk ?_ ?_ <;> intro _)|refine OpK.r rfl ?_|refine xP ?_|refine Im.mk fun _=>?_|refine All.mk fun _=>?_|refine xU ?_|refine xT ?_|refine xI ?_|(apply Ix.r;(focus assumption);(focus omega))|refine xJ ?_|refine Ce.l rfl ?_|refine Ce.r ?_|refine Ch.l ⟨rfl,rfl⟩ ?_|refine Ch.r ?_|refine xV ?_|(apply SetAsk.r;focus repeat' constructor)|(apply Fk.r;focus repeat' first|infer_instance|constructor)|refine xN ?_|refine Rf.mk ⟨rfl,rfl⟩ ?_|refine Rf.mk ⟨rfl,rfl,rfl⟩ ?_|(apply Jx.r;(focus exact rfl);(focus first|omega|(simp;done)|(simp;omega)))|refine Up.r rfl ?_|(apply Up.inv;(focus repeat constructor);(focus infer_instance))|refine xK ?_|(apply Kf.mk;(focus kernel_rfl))|refine xM ?_|refine UpV.r rfl ?_|(apply Zx.agg;(focus rfl);(focus rfl);(focus repeat constructor))|(apply Zx.b;(focus rfl))|(apply Zx.i;(focus rfl))|apply Zx.one|(apply LkM.s;(focus first|assumption|rfl))|(apply LkM.n;(focus first|assumption|rfl))|(apply Rf.mk;(focus assumption))|refine MkS.r intC 0 rfl ?_|refine Mp.same ?_|(apply Mp.lit;(focus repeat(first|exact MpL.nil|(apply MpL.cons;(focus rfl))|(apply MpL.inv;(focus repeat constructor);(focus infer_instance)))))|refine xD ?_|exact trivial|(apply Lk.r;(focus assumption))|(apply Sx.r;(focus exact rfl);(focus first|omega|(simp;omega)))|(apply CA.drawF;(focus rfl);(focus kernel_rfl);(focus kernel_rfl);(focus repeat' constructor);(focus rfl);intro _n0 _hlt)|(apply NfK.nr;(focus rfl))|(apply NfK.lt;(focus first|assumption|omega|(apply _hlt;repeat constructor)))|(apply NfV.nr;(focus rfl))|apply RA'.both|refine xO ?_|(apply CpS.part;(focus(repeat constructor;done)))|(apply CpS.all;(focus(repeat constructor;done)))|(apply TkX.r;(focus repeat constructor))|(apply ExX.short;(focus rfl);(focus first|omega|(simp <;> omega));(focus first|omega|(simp <;> omega)))|(apply ExX.long;(focus rfl);(focus first|omega|(simp <;> omega));(focus first|omega|(simp <;> omega)))|(apply Ovl.mk';(focus repeat constructor);(focus repeat constructor);(focus decide))|(apply Cvk.i64;(focus rfl);(focus omega))|(apply Cvk.u64;(focus rfl);(focus omega))|(apply Cvk.u8;(focus rfl);(focus omega))|refine Rf.mk ⟨rfl,by decide⟩ ?_|(apply Rf.mk;(focus exact⟨by decide,rfl⟩))|(apply Sx.r;(focus assumption);(focus first|omega|(simp;omega)))|(apply Ix.q;(focus assumption);(focus assumption))|(apply TkJ.r;(focus repeat constructor))|(apply TkE.r;(focus repeat constructor))|(apply NxK.mk)|(apply Ix.q;(focus assumption);(focus assumption))|(apply TkS.r;(focus repeat constructor))|(apply Ix.q;(focus assumption);(focus assumption))|(apply Cl.pG (h9);(focus exact ga);(focus((repeat'(first|exact Lend.nil|apply Lend.keep|apply Lend.nils|(apply Lend.mp;(focus rfl))|(apply Lend.lend;(focus repeat constructor);(focus first|omega|(simp;omega)))|(apply Lend.lendm;(focus repeat constructor);(focus rfl);(focus first|omega|decide|(simp;omega)|exact zB rfl))|(apply Lend.cell;(focus repeat constructor))|refine Lend.fn ?_ ?_|apply Lend.agg));done)))|(apply Cl.pG (hfd);(focus exact ga);(focus((repeat'(first|exact Lend.nil|apply Lend.keep|apply Lend.nils|(apply Lend.mp;(focus rfl))|(apply Lend.lend;(focus repeat constructor);(focus first|omega|(simp;omega)))|(apply Lend.lendm;(focus repeat constructor);(focus rfl);(focus first|omega|decide|(simp;omega)|exact zB rfl))|(apply Lend.cell;(focus repeat constructor))|refine Lend.fn ?_ ?_|apply Lend.agg));done)))|(apply Cl.pG (hra);(focus exact ga);(focus((repeat'(first|exact Lend.nil|apply Lend.keep|apply Lend.nils|(apply Lend.mp;(focus rfl))|(apply Lend.lend;(focus repeat constructor);(focus first|omega|(simp;omega)))|(apply Lend.lendm;(focus repeat constructor);(focus rfl);(focus first|omega|decide|(simp;omega)|exact zB rfl))|(apply Lend.cell;(focus repeat constructor))|refine Lend.fn ?_ ?_|apply Lend.agg));done)))|(apply Cl.p (hcon);(focus((repeat'(first|exact Lend.nil|apply Lend.keep|apply Lend.nils|(apply Lend.mp;(focus rfl))|(apply Lend.lend;(focus repeat constructor);(focus first|omega|(simp;omega)))|(apply Lend.lendm;(focus repeat constructor);(focus rfl);(focus first|omega|decide|(simp;omega)|exact zB rfl))|(apply Lend.cell;(focus repeat constructor))|refine Lend.fn ?_ ?_|apply Lend.agg));done)))|(apply Cl.pG (hops);(focus exact ga);(focus((repeat'(first|exact Lend.nil|apply Lend.keep|apply Lend.nils|(apply Lend.mp;(focus rfl))|(apply Lend.lend;(focus repeat constructor);(focus first|omega|(simp;omega)))|(apply Lend.lendm;(focus repeat constructor);(focus rfl);(focus first|omega|decide|(simp;omega)|exact zB rfl))|(apply Lend.cell;(focus repeat constructor))|refine Lend.fn ?_ ?_|apply Lend.agg));done)))|(apply Cl.pG (hact);(focus exact ga);(focus((repeat'(first|exact Lend.nil|apply Lend.keep|apply Lend.nils|(apply Lend.mp;(focus rfl))|(apply Lend.lend;(focus repeat constructor);(focus first|omega|(simp;omega)))|(apply Lend.lendm;(focus repeat constructor);(focus rfl);(focus first|omega|decide|(simp;omega)|exact zB rfl))|(apply Lend.cell;(focus repeat constructor))|refine Lend.fn ?_ ?_|apply Lend.agg));done)))|(apply Cl.p (hhid);(focus((repeat'(first|exact Lend.nil|apply Lend.keep|apply Lend.nils|(apply Lend.mp;(focus rfl))|(apply Lend.lend;(focus repeat constructor);(focus first|omega|(simp;omega)))|(apply Lend.lendm;(focus repeat constructor);(focus rfl);(focus first|omega|decide|(simp;omega)|exact zB rfl))|(apply Lend.cell;(focus repeat constructor))|refine Lend.fn ?_ ?_|apply Lend.agg));done))))
  all_goals first
   | exact Fin.p rfl (vb (zF hno).symm)
   | exact absurd ho (by assumption)
   | exact(hv ⟨by assumption,by assumption⟩).elim
end Go.Proofs.YtmjllbjfkafhdaaGreatDoor
set_option maxRecDepth 100000
set_option maxHeartbeats 80000000
namespace Go.Proofs.YtmjllbjfkafhdaaGreatDoor
open Go Go.CF
abbrev hidesA (l:List (Int×Int×Int)):AV:= .sl 3 l updC
theorem indexH_p{g:FuncId}{caps:List AV}{p:Int×Int×Int→Bool}(hg:∀e,CallP Tryz.prog g (.agg (updC e) :: caps) (.val (.bool (p e))))(he:en g=true)(l:List (Int×Int×Int)) :
  CallP Tryz.prog 230 [hidesA l, .fn g caps] (it (idxI p l)):=by
 refine CallA.of pg ordZ Tryz.func230 rfl Tryz.ntmps230 Tryz.results230 rfl fun h0 G0 O0=>?_
 repeat'(first|apply Sp.h|refine Lk.r rfl ?_|refine Rf.mk rfl ?_|apply Im.mk|intro _)
 refine CA.loop (fun i:Nat=>⟨[(0,hidesA l),(1, .fn g caps),(7,it (l.length:Nat)),(8,it i)],[]⟩)
  (fun i=>i≤l.length∧∀j y,j < i→l[j]?=some y→p y=false) (fun i=>l.length - i) 0 xE ⟨zZ _,fun j y h=>by omega⟩ ?_
 rintro i ⟨hi,hj⟩
 by_cases hin:i < l.length
 ·obtain⟨⟨u0,u1,u2⟩,hx⟩:=get_of hin
  have hge:=hg (u0,u1,u2)
  repeat'(first|apply Sp.h|refine Lk.r rfl ?_|refine Rf.mk rfl ?_|refine xA ?_|(refine Bd.mk ?_ ?_ <;> intro _)|refine xI ?_|refine Ch.l ⟨rfl,rfl⟩ ?_|refine xN ?_|(apply Rf.mk;(focus assumption))|refine xO ?_|(apply Cl.p (hge);(focus repeat'(first|apply Lend.keep|fail))))
  ·exact lendAll _
  ·rename_i hp
   exact Fin.p rfl (by rw [idxI,idxN_of hx hp hj,if_pos hin])
  ·rename_i hp
   exact PA.lp (i+1) xE ⟨⟨hin,alli_succ hx hj (by simpa using hp)⟩,by omega⟩
 ·repeat'(first|apply Sp.h|refine Lk.r rfl ?_|refine Rf.mk rfl ?_|refine xB ?_|refine xN ?_|fail)
  exact Fin.p rfl (by rw [idxI,idxN_none (fun x hx=>by obtain⟨j,hx⟩:=zO hx;exact hj j x (by have:=(zS.1 hx).1;omega) hx),if_neg (by omega)])
theorem containsH_p{g:FuncId}{caps:List AV}{p:Int×Int×Int→Bool}(hg:∀e,CallP Tryz.prog g (.agg (updC e) :: caps) (.val (.bool (p e))))(he:en g=true)(l:List (Int×Int×Int)) :
  CallP Tryz.prog 190 [hidesA l, .fn g caps] (.val (.bool (decide (∃e∈l,p e=true)))):=by
 have hi:=indexH_p hg he l
 refine CallA.of pg ordZ Tryz.func190 rfl Tryz.ntmps190 Tryz.results190 rfl fun h0 G0 O0=>?_
 repeat'(first|apply Sp.h|refine Lk.r rfl ?_|refine Rf.mk rfl ?_|refine xN ?_|(apply Cl.p (hi);focus repeat' constructor))
 refine Fin.p rfl (vb (zD.2 ?_))
 rw [←idxB_lt]
 unfold idxI
 split <;> omega
def ClsH(hs:List (Int×Int×Int))(S:Int→Prop) : Prop:=∀k,S k→∃h∈hs,h.1=k∧S h.2.2
theorem leads_mono{hs:List (Int×Int×Int)} :∀{n:Nat} {a b:Int},Leads hs n a b→Leads hs (n+1) a b
 | 0,_,_,h=> .inl h
 | _+1,_,_, .inl h=> .inl h
 | _+1,_,_, .inr ⟨i,h,h1,h2,h3⟩=> .inr ⟨i,h,h1,h2,leads_mono h3⟩
theorem cyc_cls{hs:List (Int×Int×Int)}{n:Nat}{h:Int×Int×Int}(hm:h∈hs)(hl:Leads hs n h.2.2 h.1) :∃S:Int→Prop,S h.1∧ClsH hs S:=by
 refine⟨fun k=>(∃n,Leads hs n k h.1),⟨0,rfl⟩, ?_⟩
 rintro k ⟨q,hq⟩
 cases q with
 | zero =>
  have hk:k=h.1:=hq
  exact⟨h,hm,hk.symm,n,hl⟩
 | succ q =>
  rcases hq with hq|⟨i,g,g1,g2,g3⟩
  ·exact⟨h,hm,hq.symm,n,hl⟩
  ·exact⟨g,zM g1,g2,q,g3⟩
def Sup(hs:List (Int×Int×Int))(S:List Int)(k:Int) : Prop:=∃h∈hs,h.1=k∧h.2.2∈S
noncomputable instance (hs:List (Int×Int×Int)) (S:List Int) (k:Int):Decidable (Sup hs S k):=zC _
structure PassI (hs:List (Int×Int×Int)) (S0 cur rem:List Int):Prop where
 sub:∀k∈cur,k∈S0
 rm:∀k∈rem,k∈cur
 nd:cur.Nodup
 rn:rem.Nodup
 keep:∀T:Int→Prop,ClsH hs T→(∀k,T k→k∈S0)→∀k,T k→k∈cur
 seen:∀k∈cur,k∈rem∨Sup hs S0 k
theorem PassI.start{hs:List (Int×Int×Int)}{S:List Int}(h:S.Nodup) : PassI hs S S S:=⟨fun _ h=>h,fun _ h=>h,h,h,fun _ _ h=>h,fun _ h=> .inl h⟩
theorem PassI.stay{hs:List (Int×Int×Int)}{S0 cur rem rem':List Int}{k:Int}(x:PassI hs S0 cur rem)(hp:(k :: rem').Perm rem)(hs':Sup hs cur k) : PassI hs S0 cur rem':=by
 have hn:=List.nodup_cons.1 (hp.nodup_iff.2 x.rn)
 refine⟨x.sub,fun q hq=>x.rm q (hp.mem_iff.1 (List.mem_cons_of_mem _ hq)),x.nd,hn.2,x.keep,fun q hq=>?_⟩
 rcases x.seen q hq with h|h
 ·rcases List.mem_cons.1 (hp.mem_iff.2 h) with rfl|h
  ·obtain⟨h,h1,h2,h3⟩:=hs'
   exact .inr ⟨h,h1,h2,x.sub _ h3⟩
  ·exact .inl h
 ·exact .inr h
theorem PassI.away{hs:List (Int×Int×Int)}{S0 cur rem rem':List Int}{k:Int}(x:PassI hs S0 cur rem)(hp:(k :: rem').Perm rem)(hs':¬Sup hs cur k) : PassI hs S0 (cur.filter (fun q=>decide (q≠k))) rem':=by
 have hn:=List.nodup_cons.1 (hp.nodup_iff.2 x.rn)
 refine⟨fun q hq=>x.sub q (List.mem_filter.1 hq).1,fun q hq=>?_,x.nd.filter _,hn.2,fun T hT hS q hq=>?_,fun q hq=>?_⟩
 ·refine List.mem_filter.2 ⟨x.rm q (hp.mem_iff.1 (List.mem_cons_of_mem _ hq)),zT fun e=>hn.1 (e▸hq)⟩
 ·refine List.mem_filter.2 ⟨x.keep T hT hS q hq,zT fun e=>?_⟩
  subst e
  obtain⟨h,h1,h2,h3⟩:=hT q hq
  exact hs' ⟨h,h1,h2,x.keep T hT hS _ h3⟩
 ·obtain⟨h1,h2⟩:=List.mem_filter.1 hq
  have h2:=of_decide_eq_true h2
  rcases x.seen q h1 with h|h
  ·rcases List.mem_cons.1 (hp.mem_iff.2 h) with e|h
   ·exact absurd e h2
   ·exact .inl h
  ·exact .inr h
structure OutI (hs:List (Int×Int×Int)) (S:List Int) (i:Nat):Prop where
 nd:S.Nodup
 fst:∀k∈S,∃h∈hs,h.1=k
 keep:∀T:Int→Prop,ClsH hs T→∀k,T k→k∈S
 cnt:(∀k∈S,Sup hs S k)∨S.length+i≤hs.length
theorem OutI.step{hs:List (Int×Int×Int)}{S cur:List Int}{i:Nat}(x:OutI hs S i)(p:PassI hs S cur []) : OutI hs cur (i+1):=by
 refine⟨p.nd,fun k hk=>x.fst k (p.sub k hk),fun T hT k hk=>p.keep T hT (x.keep T hT) k hk, ?_⟩
 by_cases hc:∀k∈S,Sup hs S k
 ·left
  intro k hk
  obtain⟨h,h1,h2,h3⟩:=hc k (p.sub k hk)
  exact⟨h,h1,h2,p.keep (·∈S) (fun q hq=>hc q hq) (fun _ h=>h) _ h3⟩
 ·right
  obtain⟨k,hk⟩:=Classical.not_forall.1 hc
  obtain⟨hk,hn⟩:=Classical.not_imp.1 hk
  have hkc:k ∉ cur:=fun h=>by
   rcases p.seen k h with h|h
   ·cases h
   ·exact hn h
  have h1:=x.cnt.resolve_left hc
  have h2:=List.Nodup.length_le_of_subset (List.nodup_cons.2 ⟨hkc,p.nd⟩) (l₂:=S) fun q hq=>by
   rcases List.mem_cons.1 hq with rfl|hq
   ·exact hk
   ·exact p.sub q hq
  simp only [List.length_cons] at h2
  omega
theorem OutI.sup{hs:List (Int×Int×Int)}{S:List Int}(x:OutI hs S hs.length) :∀k∈S,Sup hs S k:=by
 rcases x.cnt with h|h
 ·exact h
 ·have:S= []:=zQ (by omega)
  subst this
  exact fun k hk=>by cases hk
theorem leads_le{hs:List (Int×Int×Int)}{n q:Nat}(hq:n≤q){a b:Int}(h:Leads hs n a b) : Leads hs q a b:=by
 obtain⟨d,rfl⟩:=Nat.exists_eq_add_of_le hq
 induction d with
 | zero=>exact h
 | succ d ih=>exact leads_mono (ih (by omega))
theorem sup_cyc{hs:List (Int×Int×Int)}{n:Nat}{S:List Int}(hr:∀h∈hs,0≤h.1∧h.1 < n)(hsup:∀k∈S,Sup hs S k)(hne:S≠ []) :∃h∈hs,Leads hs n h.2.2 h.1:=by
 obtain⟨k0,hk0⟩:=List.exists_mem_of_ne_nil S hne
 have hstep:∀x: { k // k∈S },∃y: { k // k∈S },∃h∈hs,h.1=x.1∧h.2.2=y.1:=fun x=>by
  obtain⟨h,h1,h2,h3⟩:=hsup x.1 x.2
  exact⟨⟨_,h3⟩,h,h1,h2,rfl⟩
 let nx: { k // k∈S }→{ k // k∈S }:=fun x=>Classical.choose (hstep x)
 have hnx:∀x,∃h∈hs,h.1=x.1∧h.2.2=(nx x).1:=fun x=>Classical.choose_spec (hstep x)
 let a:Nat→{ k // k∈S }:=fun i=>Nat.rec ⟨k0,hk0⟩ (fun _ x=>nx x) i
 have ha:∀i,∃h∈hs,h.1=(a i).1∧h.2.2=(a (i+1)).1:=fun i=>hnx (a i)
 have hrng:∀i,0≤(a i).1∧(a i).1 < n:=fun i=>by
  obtain⟨h,h1,h2,_⟩:=ha i
  have:=hr h h1
  rw [h2] at this;exact this
 have hlead:∀d i,Leads hs d (a i).1 (a (i+d)).1:=by
  intro d
  induction d with
  | zero=>intro i;rfl
  | succ d ih =>
   intro i
   obtain⟨h,h1,h2,h3⟩:=ha i
   obtain⟨j,hj⟩:=zO h1
   refine .inr ⟨j,h,hj,h2, ?_⟩
   rw [h3,show i+(d+1)=i+1+d by omega]
   exact ih (i+1)
 have hpig:∃i j,i < j∧j≤n∧(a i).1=(a j).1:=by
  refine Classical.byContradiction fun hno=>?_
  have hnd:((List.range (n+1)).map fun i=>(a i).1).Nodup:=by
   refine List.pairwise_iff_getElem.2 fun i j hi hj hij he=>?_
   simp only [List.length_map,List.length_range] at hi hj
   simp only [List.getElem_map,List.getElem_range] at he
   exact hno ⟨i,j,hij,by omega,he⟩
  have:=List.Nodup.length_le_of_subset hnd (l₂:=(List.range n).map Int.ofNat) fun q hq=>by
   obtain⟨i,_,rfl⟩:=List.mem_map.1 hq
   have:=hrng i
   exact List.mem_map.2 ⟨(a i).1.toNat,List.mem_range.2 (by omega),Int.toNat_of_nonneg (by omega)⟩
  simp only [List.length_map,List.length_range] at this
  omega
 obtain⟨i,j,hij,hj,he⟩:=hpig
 obtain⟨h,h1,h2,h3⟩:=ha i
 refine⟨h,h1, ?_⟩
 rw [h2,h3,he]
 have:=hlead (j - (i+1)) (i+1)
 rw [show i+1+(j - (i+1))=j by omega] at this
 exact leads_le (by omega) this
theorem OutI.fin{hs:List (Int×Int×Int)}{n:Nat}{S:List Int}(hr:∀h∈hs,0≤h.1∧h.1 < n)(x:OutI hs S hs.length) : S= []↔∀h∈hs,¬Leads hs n h.2.2 h.1:=by
 constructor
 ·rintro rfl h hm hl
  obtain⟨T,h1,h2⟩:=cyc_cls hm hl
  have:=x.keep T h2 _ h1
  cases this
 ·intro h
  refine Classical.byContradiction fun hne=>?_
  obtain⟨g,g1,g2⟩:=sup_cyc hr x.sup hne
  exact h g g1 g2
end Go.Proofs.YtmjllbjfkafhdaaGreatDoor
namespace Go.CF
open Go
def AV.rm(P:Program){β:Type}(kt:TypeId)(kvs:List (List Int×β))(f:β→AV) : AV :=
  ⟨fun h G v=>∃b es cl,v= .map (some b)∧G b∧b < h.size∧h[b]?=some (.map es cl)∧KeysOK P kt es.toList (kvs.map (·.1))∧∀(i:Nat) (e:MapEntry) (p:List Int×β),es.toList[i]?=some e→kvs[i]?=some p→(f p.2).R h G e.val,
   by rintro h h' G v x ⟨b,es,cl,h1,h2,h3,h4,h5,h6⟩;exact⟨b,es,cl,h1,h2,Nat.lt_of_lt_of_le h3 x.size,(x.same b h2 h3).trans h4,h5,fun i e p g1 g2=>(f p.2).stp x (h6 i e p g1 g2)⟩,
   by rintro h G G' v x ⟨b,es,cl,h1,h2,h3,h4,h5,h6⟩;exact⟨b,es,cl,h1,x b h2,h3,h4,h5,fun i e p g1 g2=>(f p.2).mono x (h6 i e p g1 g2)⟩⟩
section
variable {Γ:Cx} {k:List KI} {e:EA} {o:List Res} {N:NA} {c:Cls} {d:Tmp} {ty:TypeId} {x y z:Operand} {t u:TypeId}
theorem lup_rm{key:AV}{ok:Bool}{p:Nat×Nat×TI}(hp:mpE Γ.tt t=some p){β:Type}{kvs:List (List Int×β)}{f:β→AV}{xs:List Int}(hky:kyOK Γ.P p.1 xs.length=true)(h2:(∃x,xs= [x]∧key= .val (.int .i64 x))∨∃cs,key= .agg cs∧ILit cs xs∧2≤xs.length)(ha:evA e x=some (.rm Γ.P p.1 kvs f))(hb:evA e y=some key)(hc:notPure c=true)
  (hx:∀v,lookL kvs xs=some v→N ((d,if ok then .tup [f v, .val (.bool true)] else f v) :: e) o) (hy:lookL kvs xs=none→Zx p.2.2.zero fun z=>N ((d,if ok then .tup [z, .val (.bool false)] else z) :: e) o):SA Γ c (some d) (.lookup t x y ok) ty e o N:=⟨fun env hh G Os cn=>by
 obtain⟨m,g1,b,es,cl,rfl,b1,b2,hb0,hko,hvs⟩:=cn.get ha
 obtain⟨kv,g2,r2⟩:=cn.get hb
 obtain⟨hf,hl,hfv⟩:=kyOK_fv hky h2 r2
 have hlen:es.toList.length=kvs.length:=by have:=hko.len;simpa using this
 rcases fE_spec es.toList kvs xs 0 hlen with⟨q1,q2,_⟩|⟨j,en,v,q1,q2,q3,q4,_⟩
 ·refine St.unread hc (fun hc hnb=>St.lookupF Γ.ok hc hp hf hl hfv g1 g2 hb0 hko ok _ false (.inl ⟨q1,rfl,rfl⟩) hnb ?_) (fun _=>cn.nf.not_mem b1)
  obtain⟨z,hz1,hz2⟩:=(hy q2).ok
  cases ok with
  | true=>exact CN.mk (cn.put d (a:= .tup [z, .val (.bool false)]) ⟨[_,_],rfl,hz2 _ _,rfl,trivial⟩) hz1
  | false=>exact CN.mk (cn.put d (a:=z) (hz2 _ _)) hz1
 ·have hr:=hvs j en _ q2 q3
  refine St.unread hc (fun hc hnb=>St.lookupF Γ.ok hc hp hf hl hfv g1 g2 hb0 hko ok _ true (.inr ⟨_,q1,rfl⟩) hnb ?_) (fun _=>cn.nf.not_mem b1)
  cases ok with
  | true=>exact CN.mk (cn.put d (a:= .tup [f v, .val (.bool true)]) ⟨[_,_],rfl,hr,rfl,trivial⟩) (hx v q4)
  | false=>exact CN.mk (cn.put d (a:=f v) hr) (hx v q4)⟩
instance {P:Program} {β:Type} {kt:TypeId} {kvs:List (List Int×β)} {f:β→AV} {key:AV} : Sp (Lup Γ c d t x y false ty e o N (.rm P kt kvs f) key) (Rf (P=Γ.P) (Lk (mpE Γ.tt t) fun p=>Ky key fun xs=>Rf (kt=p.1) (Kf (kyOK Γ.P kt xs.length=true) (LkM (lookL kvs xs) (fun v=>N ((d,f v) :: e) o) (Zx p.2.2.zero fun z=>N ((d,z) :: e) o))))):=⟨fun⟨hP,p,hp,xs,⟨hkt,hky,hn⟩,h2⟩=>⟨fun ha hb hc=>by
 subst hP;subst hkt
 exact lup_rm (ok:=false) hp hky h2 ha hb hc hn.x hn.y⟩⟩
end
structure LendS (o:List Res) (asx as':List AV):Prop where
 r:∀{h:Heap} {G:Nat→Prop} {Os:List (Nat→Prop)} {vs:List Value},OwnL h G o Os→RepT h G vs asx→RepT h (fun b=>G b∨U Os b) vs as'
theorem Cl.lendS{Γ:Cx}{o:List Res}{c:Cls}{f:FuncId}{asx as':List AV}{r:AV}{M:AV→List Res→Prop}[hf:Flat r](hc:CallP Γ.P f as' r)(hl:LendS o asx as')(hm:M r o) : Cl Γ c f asx o M:=by
 refine⟨fun {h G Os vs} hp hr=>?_⟩
 have hin:HpOK h (fun b=>G b∨U Os b) (U []) [] h (fun b=>G b∨U Os b) [] :=
  ⟨trivial,fun b hb=>⟨hb.elim (fun h9=>(hp.g b h9).1) (fun⟨O,hO,h9⟩=>(hp.o O hO b h9).1), .inl hb⟩,fun _ h=>h,fun O hO=>(by cases hO),List.Pairwise.nil,FPx.refl h⟩
 refine(CallA.run hc h _ [] vs (hl.r hp.own hr) hin).mono fun v h' ⟨r',own',G',Os',⟨g1,g2⟩,g3,g4⟩=>?_
 subst g1;subst g2
 have hst:Stp ([]:List Nat) h h':=⟨g4.fp.size,fun b hb _=>g4.fp.same b (fun⟨O,hO,_⟩=>by cases hO) hb⟩
 have hx:∀S,FPx S h h':=fun S=>⟨hst.size,fun b _ hb=>hst.same b hb (by simp)⟩
 have hs:=hp.fp.size
 have hs':=hst.size
 refine⟨.inr hst,r',o,G,Os,hm,hf.h _ _ _ _ _ g3,⟨OwnL.stp (fun O _=>hx _) hp.own,fun b hb=>⟨by have:=(hp.g b hb).1;omega,(hp.g b hb).2.imp id fun q=>⟨q.1,q.2.eq (hst.same b (hp.g b hb).1 (by simp))⟩⟩,hp.g0,fun O hO b hb=>⟨by have:=(hp.o O hO b hb).1;omega,(hp.o O hO b hb).2⟩,hp.d,⟨by omega,fun b hb hl=>?_⟩⟩,hx G,fun _ h=>h⟩
 rw [hst.same b (by omega) (by simp)]
 exact hp.fp.same b hb hl
section
variable {Γ:Cx} {k:List KI} {e:EA} {o:List Res} {N:NA} {c:Cls} {d:Tmp} {ty:TypeId} {x y z:Operand} {t u:TypeId}
def itcR(P:Program){β:Type}(b r:Nat)(kt:TypeId)(kvs rem:List (List Int×β))(f:β→AV)(cur:Option (List Int×β)) : Res :=
  ⟨fun h O G=>(∀x,O x↔x=b∨x=r)∧r≠b∧∃es clock seen c0,h[b]?=some (.map es clock)∧KeysOK P kt es.toList (kvs.map (·.1))∧(∀(i:Nat) (e:MapEntry) (p:List Int×β),es.toList[i]?=some e→kvs[i]?=some p→(f p.2).R h G e.val)∧Stmp es.toList clock∧
      h[r]?=some (.mapIter (some b) clock seen c0)∧clock≤c0∧(((es.toList.zip kvs).filter fun p=> !seen.contains p.1.born).map (·.2)).Perm rem∧(∀p,cur=some p→∃(i:Nat) (en:MapEntry) (s0:Array Nat),es.toList[i]?=some en∧kvs[i]?=some p∧seen=s0.push en.born∧c0=clock),
   by rintro h h' O G x ⟨ho,hne,es,cl,seen,c0,h1,h2,h3,h4,h5,h6⟩;exact⟨ho,hne,es,cl,seen,c0,(x.same b (.inl ((ho b).2 (.inl rfl))) (zA.1 h1).1).trans h1,h2,fun i e p g1 g2=>(f p.2).stp (x.mono fun _=> .inr) (h3 i e p g1 g2),h4,(x.same r (.inl ((ho r).2 (.inr rfl))) (zA.1 h5).1).trans h5,h6⟩,
   by rintro h O G G' x ⟨ho,hne,es,cl,seen,c0,h1,h2,h3,h4,h5,h6⟩;exact⟨ho,hne,es,cl,seen,c0,h1,h2,fun i e p g1 g2=>(f p.2).mono x (h3 i e p g1 g2),h4,h5,h6⟩,
   by
    rintro h O G ⟨ho,hne,es,cl,seen,c0,h1,h2,h3,h4,h5,h6⟩ y hy
    rcases(ho y).1 hy with rfl|rfl
    · exact NC.of h1 rfl
    · exact NC.of h5 rfl⟩
structure TkJ (P:Program) (o:List Res) (r:Nat) (k:∀{β:Type},Nat→TypeId→List (List Int×β)→List (List Int×β)→(β→AV)→Option (List Int×β)→List Res→Prop):Prop where
 ok:∃(β:Type) (b:Nat) (kt:TypeId) (kvs rem:List (List Int×β)) (f:β→AV) (cur:Option (List Int×β)) (rest:List Res),Take o (itcR P b r kt kvs rem f cur) rest∧k b kt kvs rem f cur rest
theorem TkJ.r{β:Type}{P:Program}{o rest:List Res}{b r:Nat}{k:∀{β:Type},Nat→TypeId→List (List Int×β)→List (List Int×β)→(β→AV)→Option (List Int×β)→List Res→Prop}{kt:TypeId}{kvs rem:List (List Int×β)}{f:β→AV}{cur:Option (List Int×β)}(h:Take o (itcR P b r kt kvs rem f cur) rest)(hk:k b kt kvs rem f cur rest) : TkJ P o r k:=⟨β,b,kt,kvs,rem,f,cur,rest,h,hk⟩
instance (priority:=1100) {b:Nat} : Sp (Rng Γ c d t x ty e o N (.val (.map (some b)))) (Lk (mpE Γ.tt t) fun _p=>TkM Γ.P o b fun kt kvs f rest=>All fun r:Nat=>N ((d, .val (.pointer (some ⟨r,0,none⟩))) :: e) (itcR Γ.P b r kt kvs kvs f none :: rest)):=⟨fun⟨p,hp,β,kt,kvs,f,rest,tk,hn⟩=>⟨fun ha hc=>⟨fun env hh G Os cn=>by
 obtain⟨m,g1,rfl⟩:=cn.get ha
 obtain⟨O,Os',cn2⟩:=cn.take tk
 obtain⟨⟨ho,es,cl,hb0,hko,hvs,hsm⟩,_⟩:=cn2.hp.own
 have hlt:=(zA.1 hb0).1
 obtain⟨ti,t1,t2,t3⟩:=mpE_spec hp
 have hmu:=(Γ.ok.ok _ _ t1).map t2
 refine .ofLd hc fun a w oo next Q ha' hw hoo hty hn'=>?_
 have hb':w.heap[b]?=some (.map es cl):=hw▸hb0
 have hrun:(execOp a.eval (mkOp (.range t x) ty)).run Γ.P w= .ok (.value (.pointer (some ⟨w.heap.size,0,none⟩))) (w.alloc (.mapIter (some b) cl #[] cl)):=by
  simp [mkOp,execOp,ha'.ev g1,Go.run_range_map w t p.1 p.2.1 b es cl hmu hb']
 unfold Oper.wp
 rw [exec_mk,hoo,hty,hrun]
 refine hn' _ _ (Same.of_push rfl) ?_
 simp only [World.alloc,hw]
 have hx:FPx (fun _=>True) hh (hh.push (Obj.mapIter (some b) cl #[] cl)):=⟨by simp,fun y _ hl=>by rw [Array.getElem?_push,if_neg (by omega)]⟩
 have hfil:((es.toList.zip kvs).filter fun p=> !(#[]:Array Nat).contains p.1.born).map (·.2)=kvs:=by
  rw [List.filter_eq_self.2 (fun _ _=>by simp),List.map_snd_zip]
  have:=hko.len;simp at this;simp;omega
 have cn3:=(cn2.upd (R':=itcR Γ.P b hh.size kt kvs kvs f none) (O':=fun y=>O y∨y=hh.size) (h':=hh.push (Obj.mapIter (some b) cl #[] cl)) (hx.mono fun _ _=>trivial) (fun y hy=>by
   rcases hy with hy|rfl
   ·have:=(cn2.hp.o O (by simp) y hy).1
    exact⟨by simp;omega, .inl hy⟩
   ·exact⟨by simp, .inr (Nat.le_refl _)⟩)
  ⟨fun y=>or_congr (ho y) Iff.rfl,by omega,es,cl,#[],cl,by rw [Array.getElem?_push,if_neg (by omega)];exact hb0,hko,fun i en q h7 h8=>AV.stp _ (hx.mono fun _ _=>trivial) (hvs i en q h7 h8),hsm,by simp,Nat.le_refl _,by rw [hfil],fun _ hp=>by cases hp⟩)
 exact CN.mk (cn3.put d (a:= .val _) rfl) (hn.ok hh.size)⟩⟩⟩
instance (priority:=1100) {r:Nat} : Sp (Nxi Γ c d x ty e o N (.val (.pointer (some ⟨r,0,none⟩)))) (TkJ Γ.P o r fun b kt kvs rem f cur rest=>NxK rem (fun p rem'=>N ((d, .tup [.val (.bool true), .top,f p.2]) :: e) (itcR Γ.P b r kt kvs rem' f (some p) :: rest)) (N ((d, .tup [.val (.bool false)]) :: e) (itcR Γ.P b r kt kvs rem f cur :: rest))):=⟨fun⟨β,b,kt,kvs,rem,f,cur,rest,tk,hx,hy⟩=>⟨fun ha hc=>⟨fun env hh G Os cn=>by
 obtain⟨m,g1,rfl⟩:=cn.get ha
 obtain⟨O,Os',cn2⟩:=cn.take tk
 obtain⟨⟨ho,hne,es,cl,seen,c0,hb0,hko,hvs,hsm,hr0,hc0,hpm,_⟩,_⟩:=cn2.hp.own
 have hlen:es.toList.length=kvs.length:=by have:=hko.len;simpa using this
 have hrl:=(zA.1 hr0).1
 refine .ofLd hc fun a w oo next Q ha' hw hoo hty hn'=>?_
 have hb':w.heap[b]?=some (.map es cl):=hw▸hb0
 have hr':w.heap[r]?=some (.mapIter (some b) cl seen c0):=hw▸hr0
 unfold Oper.wp
 rw [exec_mk,hoo,hty]
 rcases Go.run_next_at (P:=Γ.P) w ty r b cl c0 seen es cl hr' hb' hsm.1 hc0 with⟨h0,hrun⟩|⟨en,hen,w1,hw1,hrun⟩
 ·have hrun2:(execOp a.eval (mkOp (.next x false) ty)).run Γ.P w= .ok (.value (.tuple #[.bool false])) w:=by
   simp [mkOp,execOp,ha'.ev g1,hrun]
  rw [hrun2]
  have hrem:rem= []:=by
   have h1:(es.toList.zip kvs).filter (fun p=> !seen.contains p.1.born)= []:=List.filter_eq_nil_iff.2 fun p hp h9=>by
    have h2:p.1∈(leftOf es seen).toList:=by
     unfold leftOf
     rw [Array.toList_filter,List.mem_filter]
     exact⟨(List.of_mem_zip hp).1,h9⟩
    have h3:(leftOf es seen).toList.length=0:=by simpa using h0
    rw [zQ h3] at h2
    cases h2
   rw [h1] at hpm
   exact List.nil_perm.1 hpm
  refine hn' _ _ (Same.refl w) ?_
  rw [hw]
  exact CN.mk (cn2.put d (a:= .tup [.val (.bool false)]) ⟨[_],rfl,rfl,trivial⟩) (hy hrem)
 ·have hrun2:(execOp a.eval (mkOp (.next x false) ty)).run Γ.P w= .ok (.value (.tuple #[.bool true,en.key,en.val])) (ChangeMaps.setBlock w1 r (.mapIter (some b) cl (seen.push en.born) cl)):=by
   simp [mkOp,execOp,ha'.ev g1,hrun]
  rw [hrun2]
  have hw1h:w1.heap=hh:=by rcases hw1 with rfl|rfl <;> exact hw
  obtain⟨hem,hes⟩:en∈es.toList∧seen.contains en.born=false:=by
   unfold leftOf at hen
   rw [Array.toList_filter,List.mem_filter] at hen
   exact⟨hen.1,by simpa using hen.2⟩
  obtain⟨i,hi⟩:=zO hem
  have hil:=(zS.1 hi).1
  obtain⟨p,hp⟩:∃p,kvs[i]?=some p:=⟨_,zE (by omega)⟩
  have hlp:=left_perm hsm.2 hlen seen hi hp hes
  refine hn' _ _ (by rcases hw1 with rfl|rfl <;> exact Same.of_set hr' rfl rfl) ?_
  have hheap:(ChangeMaps.setBlock w1 r (.mapIter (some b) cl (seen.push en.born) cl)).heap=hh.setIfInBounds r (.mapIter (some b) cl (seen.push en.born) cl):=by
   simp only [ChangeMaps.setBlock,hw1h]
  rw [hheap]
  have hxo:FPx (fun y=>¬O y) hh (hh.setIfInBounds r (.mapIter (some b) cl (seen.push en.born) cl)):=⟨by simp,fun y hy hl=>by rw [Array.getElem?_setIfInBounds,if_neg (fun e9=>hy ((ho y).2 (.inr e9.symm)))]⟩
  have hg:FPx G hh (hh.setIfInBounds r (.mapIter (some b) cl (seen.push en.born) cl)):=hxo.mono fun y hy hoy=>(cn2.hp.o O (by simp) y hoy).2.2 hy
  have cn3:=cn2.upd (R':=itcR Γ.P b r kt kvs (((es.toList.zip kvs).filter fun q=> !(seen.push en.born).contains q.1.born).map (·.2)) f (some p)) (O':=O) hxo (fun y hy=>⟨by have:=(cn2.hp.o O (by simp) y hy).1;simpa using this, .inl hy⟩)
   ⟨ho,hne,es,cl,seen.push en.born,cl,by rw [Array.getElem?_setIfInBounds,if_neg hne];exact hb0,hko,fun i en q h7 h8=>AV.stp _ hg (hvs i en q h7 h8),hsm,by simp [hrl],Nat.le_refl _,List.Perm.refl _,fun p' hp'=>by cases hp';exact⟨i,en,seen,hi,hp,rfl,rfl⟩⟩
  exact CN.mk (cn3.put d (a:= .tup [.val (.bool true), .top,f p.2]) ⟨[_,_,_],rfl,rfl,trivial,AV.stp _ hg (hvs i en p hi hp),trivial⟩) (hx p _ (hlp.trans hpm))⟩⟩⟩
theorem HpOK.itcDone{h0:Heap}{G0 O0:Nat→Prop}{h:Heap}{G:Nat→Prop}{Os:List (Nat→Prop)}{P:Program}{β:Type}{b r:Nat}{kt:TypeId}{kvs rem:List (List Int×β)}{f:β→AV}{cur:Option (List Int×β)}{rest:List Res}(tk:Take o (itcR P b r kt kvs rem f cur) rest)(c:HpOK h0 G0 O0 o h G Os) :∃Os',HpOK h0 G0 O0 (mapR P b kt kvs f :: rest) h G Os':=by
 obtain⟨O,Os',c2⟩:=c.take tk
 obtain⟨⟨ho,hne,es,cl,seen,c0,hb0,hko,hvs,hsm,_⟩,hrest⟩:=c2.own
 have hd:=List.pairwise_cons.1 c2.d
 refine⟨(fun y=>y=b) :: Os',⟨⟨fun y=>Iff.rfl,es,cl,hb0,hko,hvs,hsm⟩,hrest⟩,c2.g,c2.g0,fun X hX y hy=>?_,List.pairwise_cons.2 ⟨fun B hB y hy hyB=>?_,hd.2⟩,c2.fp⟩
 ·rcases List.mem_cons.1 hX with rfl|hX
  ·exact c2.o O (by simp) y ((ho y).2 (.inl hy))
  ·exact c2.o X (by simp [hX]) y hy
 ·exact hd.1 B hB y ((ho y).2 (.inl hy)) hyB
theorem OX.itc{P:Program}{β:Type}{b r:Nat}{kt:TypeId}{kvs rem:List (List Int×β)}{f:β→AV}{cur:Option (List Int×β)}{rest:List Res}(tk:Take o (itcR P b r kt kvs rem f cur) rest) : OX o (mapR P b kt kvs f :: rest):=⟨fun {h0 G0 O0 h G Os} c=>by
 obtain⟨Os',h1⟩:=HpOK.itcDone tk c
 exact⟨G,Os',h1,fun _ h=>h⟩⟩

structure Ent (Γ:Cx) (c:Cls) (d:Tmp) (x:Operand) (ty:TypeId) (e:EA) (o:List Res) (N:NA) (m:AV):Prop where
 h:evA e x=some m→isLoud c=true→SA Γ c (some d) (.entry x) ty e o N
instance : Sp (SA Γ c (some d) (.entry x) ty e o N) (Rf (isLoud c=true) (Lk (evA e x) fun m=>Ent Γ c d x ty e o N m)):=⟨fun⟨hc,_,h1,h⟩=>h.h h1 hc⟩
structure TkE (P:Program) (o:List Res) (r:Nat) (k:∀{β:Type},(β→AV)→(List Int×β)→Prop):Prop where
 ok:∃(β:Type) (b:Nat) (kt:TypeId) (kvs rem:List (List Int×β)) (f:β→AV) (p:List Int×β) (rest:List Res),Take o (itcR P b r kt kvs rem f (some p)) rest∧k f p
theorem TkE.r{β:Type}{P:Program}{o rest:List Res}{b r:Nat}{k:∀{β:Type},(β→AV)→(List Int×β)→Prop}{kt:TypeId}{kvs rem:List (List Int×β)}{f:β→AV}{p:List Int×β}(h:Take o (itcR P b r kt kvs rem f (some p)) rest)(hk:k f p) : TkE P o r k:=⟨β,b,kt,kvs,rem,f,p,rest,h,hk⟩
instance {b:Nat} : Sp (Ap1 Γ c d (.call { callee:= .builtin .len,args:=#[x],argTypes:=#[t] }) ty e o N x (.val (.map (some b)))) (Rf (isLoud c=true) (Lk (mpE Γ.tt t) fun _=>TkM Γ.P o b fun _ kvs _ _=>N ((d, .val (.int .i64 (kvs.length:Int))) :: e) o)):=⟨fun⟨hc,p,hp,β,kt,kvs,f,rest,tk,hn⟩=>⟨fun ha=>⟨fun env hh G Os cn=>by
 obtain⟨m,g1,rfl⟩:=cn.get ha
 obtain⟨O,Os',cn2⟩:=cn.take tk
 obtain⟨⟨ho,es,cl,hb0,hko,hvs,hsm⟩,_⟩:=cn2.hp.own
 obtain⟨ti,t1,t2,t3⟩:=mpE_spec hp
 have hmu:=(Γ.ok.ok _ _ t1).map t2
 have hlen:es.size=kvs.length:=by have:=hko.len;simpa using this
 refine .ofLd hc fun a w oo next Q ha' hw hoo hty hn'=>?_
 have hb':w.heap[b]?=some (.map es cl):=hw▸hb0
 have hrun:(execOp a.eval (mkOp (.call { callee:= .builtin .len,args:=#[x],argTypes:=#[t] }) ty)).run Γ.P w= .ok (.value (.int .i64 (kvs.length:Int))) w:=by
  simp [mkOp,execOp,resolve,invoke,builtin,ha'.ev g1,Builtin.len_,run_underlying hmu,getObj,Sem.run_bind,Sem.run,hb',Result.andThen,goInt,hlen]
 unfold Oper.wp
 rw [exec_mk,hoo,hty,hrun]
 refine hn' _ _ (Same.refl w) ?_
 rw [hw]
 exact CN.mk (cn.put d (a:= .val _) rfl) hn⟩⟩⟩
end
theorem zip_erase{α β:Type} :∀(a:List α) (b:List β) (j:Nat),(a.eraseIdx j).zip (b.eraseIdx j)=(a.zip b).eraseIdx j
 | [],b,j=>by simp
 | a :: asx,[],j=>by simp
 | a :: asx,b :: bs,0=>by simp
 | a :: asx,b :: bs,j+1=>by simp [zip_erase asx bs j]
theorem filter_erase{α:Type}(p:α→Bool) :∀(l:List α) (j:Nat),(∀x,l[j]?=some x→p x=false)→(l.eraseIdx j).filter p=l.filter p
 | [],_,_=>by simp
 | a :: l,0,h=>by simp [h a rfl]
 | a :: l,j+1,h=>by
  have ih:=filter_erase p l j fun x hx=>h x (by simpa using hx)
  simp only [List.eraseIdx_cons_succ,List.filter_cons,ih]
theorem fE_key{β:Type} :∀(es:List MapEntry) (kvs:List (List Int×β)) (xs:List Int) (i:Nat) {j:Nat} {u:Value},es.length=kvs.length→fE es (kvs.map (·.1)) xs i=some (i+j,u)→∃v,kvs[j]?=some (xs,v)
 | [],[],xs,i,j,u,_,h=>by simp [fE] at h
 | [],_ :: _,_,_,_,_,h,_=>by simp at h
 | _ :: _,[],_,_,_,_,h,_=>by simp at h
 | e :: es,(k,v) :: kvs,xs,i,j,u,h,h1=>by
  by_cases hx:xs=k
  ·subst hx
   simp only [List.map_cons,fE,if_true,Option.some.injEq,Prod.mk.injEq] at h1
   have:j=0:=by omega
   subst this
   exact⟨v,rfl⟩
  ·simp only [List.map_cons,fE,hx,if_false] at h1
   cases j with
   | zero =>
    have key:∀(es:List MapEntry) (ks:List (List Int)) (i0:Nat) (q:Nat) (u:Value),fE es ks xs i0=some (q,u)→i0≤q:=by
     intro es
     induction es with
     | nil=>intro ks i0 q u h;simp [fE] at h
     | cons e es ih =>
      intro ks i0 q u h
      cases ks with
      | nil=>simp [fE] at h
      | cons k ks =>
       simp only [fE] at h
       split at h
       ·simp only [Option.some.injEq,Prod.mk.injEq] at h;omega
       ·have:=ih _ _ _ _ h;omega
    have:=key _ _ _ _ _ h1
    omega
   | succ j =>
    obtain⟨v',h2⟩:=fE_key es kvs xs (i+1) (j:=j) (u:=u) (by simpa using h) (by rw [h1];congr 2;omega)
    exact⟨v',by simpa using h2⟩
section
variable {Γ:Cx} {k:List KI} {e:EA} {o:List Res} {N:NA} {c:Cls} {d:Tmp} {ty:TypeId} {x y z:Operand} {t u:TypeId}
structure TkJi (P:Program) (o:List Res) (b:Nat) (k:∀{β:Type},Nat→TypeId→List (List Int×β)→List (List Int×β)→(β→AV)→List Res→Prop):Prop where
 ok:∃(β:Type) (r:Nat) (kt:TypeId) (kvs rem:List (List Int×β)) (f:β→AV) (cur:Option (List Int×β)) (rest:List Res),Take o (itcR P b r kt kvs rem f cur) rest∧k r kt kvs rem f rest
theorem TkJi.r{β:Type}{P:Program}{o rest:List Res}{b r:Nat}{k:∀{β:Type},Nat→TypeId→List (List Int×β)→List (List Int×β)→(β→AV)→List Res→Prop}{kt:TypeId}{kvs rem:List (List Int×β)}{f:β→AV}{cur:Option (List Int×β)}(h:Take o (itcR P b r kt kvs rem f cur) rest)(hk:k r kt kvs rem f rest) : TkJi P o b k:=⟨β,r,kt,kvs,rem,f,cur,rest,h,hk⟩
theorem mde_itr{b r:Nat}{key:AV}{tys:Array TypeId}{β:Type}{kvs rem:List (List Int×β)}{f:β→AV}{cur:Option (List Int×β)}{rest:List Res}{p:Nat×Nat×TI}{xs:List Int}(hp:mpE Γ.tt t=some p)(tk:Take o (itcR Γ.P b r p.1 kvs rem f cur) rest)(h2:(∃x,xs= [x]∧key= .val (.int .i64 x))∨∃cs,key= .agg cs∧ILit cs xs∧2≤xs.length)(hky:kyOK Γ.P p.1 xs.length=true)(hnr:∀q∈rem,q.1≠xs)
  (hn:N e (itcR Γ.P b r p.1 (delL kvs xs) rem f none :: rest)):Mde Γ c t x y tys ty e o N (.val (.map (some b))) key:=⟨fun h0 ha hb hc=>⟨fun env hh G Os cn=>by
 obtain⟨m,g1,rfl⟩:=cn.get ha
 obtain⟨kv,g2,r2⟩:=cn.get hb
 obtain⟨hf,hl,hfv⟩:=kyOK_fv hky h2 r2
 obtain⟨O,Os',cn2⟩:=cn.take tk
 obtain⟨⟨ho,hne,es,cl,seen,c0,hb0,hko,hvs,hsm,hr0,hc0,hpm,_⟩,_⟩:=cn2.hp.own
 have hlt:=(zA.1 hb0).1
 have hlen:es.toList.length=kvs.length:=by have:=hko.len;simpa using this
 have fin:∀es' kvs',KeysOK Γ.P p.1 es'.toList (kvs'.map (·.1))→(∀(i:Nat) (en:MapEntry) (q:List Int×β),es'.toList[i]?=some en→kvs'[i]?=some q→(f q.2).R hh G en.val)→kvs'=delL kvs xs→Stmp es'.toList cl→(((es'.toList.zip kvs').filter fun p=> !seen.contains p.1.born).map (·.2)).Perm rem→CN Γ N env (hh.setIfInBounds b (.map es' cl)):=by
  intro es' kvs' hk' hv2 e2 hsm' hpm'
  subst e2
  have hx:FPx (fun y=>¬O y) hh (hh.setIfInBounds b (.map es' cl)):=⟨by simp,fun y hy hl=>by rw [Array.getElem?_setIfInBounds,if_neg (fun e9=>hy ((ho y).2 (.inl e9.symm)))]⟩
  have hg:FPx G hh (hh.setIfInBounds b (.map es' cl)):=hx.mono fun y hy hoy=>(cn2.hp.o O (by simp) y hoy).2.2 hy
  exact CN.mk (cn2.upd (R':=itcR Γ.P b r p.1 (delL kvs xs) rem f none) (O':=O) hx (fun y hy=>⟨by have:=(cn2.hp.o O (by simp) y hy).1;simpa using this, .inl hy⟩) ⟨ho,hne,es',cl,seen,c0,by simp [hlt],hk',fun i en q h7 h8=>AV.stp _ hg (hv2 i en q h7 h8),hsm',by rw [Array.getElem?_setIfInBounds,if_neg (fun e9=>hne e9.symm)];exact hr0,hc0,hpm',fun _ hp=>by cases hp⟩) hn
 refine .ofLd hc (ld_del Γ.ok h0 hp hf hl hfv g1 g2 hb0 hko (fun hfe=>?_) (fun j u hfe=>?_))
 ·rcases del_spec es.toList kvs xs 0 hlen with⟨_,q2⟩|⟨j,en,q1,_⟩
  ·exact fin es kvs hko hvs q2.symm hsm hpm
  ·rw [hfe] at q1;cases q1
 ·rcases del_spec es.toList kvs xs 0 hlen with⟨q1,_⟩|⟨j',en,q1,q2,q3⟩
  ·rw [hfe] at q1;cases q1
  ·have hfe':=q1
   rw [hfe] at q1
   simp only [Nat.zero_add,Option.some.injEq,Prod.mk.injEq] at q1
   obtain⟨rfl,_⟩:=q1
   have hel:(es.eraseIdxIfInBounds j).toList=es.toList.eraseIdx j:=by
    unfold Array.eraseIdxIfInBounds
    rw [dif_pos (by simpa using q2)]
    simp
   obtain⟨vj,hkj⟩:=fE_key es.toList kvs xs 0 hlen hfe'
   refine fin _ (kvs.eraseIdx j) ⟨by rw [hel,List.length_map,List.length_eraseIdx,List.length_eraseIdx,hlen],fun i e1 k h7 h8=>?_⟩ (fun i e1 q h7 h8=>?_) q3.symm ⟨fun e1 h7=>?_, ?_⟩ ?_
   ·rw [hel,List.getElem?_eraseIdx] at h7
    rw [erase_map,List.getElem?_eraseIdx] at h8
    split at h7 <;> rename_i hij
    ·rw [if_pos hij] at h8;exact hko.key i e1 k h7 h8
    ·rw [if_neg hij] at h8;exact hko.key _ e1 k h7 h8
   ·rw [hel,List.getElem?_eraseIdx] at h7
    rw [List.getElem?_eraseIdx] at h8
    split at h7 <;> rename_i hij
    ·rw [if_pos hij] at h8;exact hvs i e1 q h7 h8
    ·rw [if_neg hij] at h8;exact hvs _ e1 q h7 h8
   ·rw [hel] at h7
    exact hsm.1 e1 (List.mem_of_mem_eraseIdx h7)
   ·rw [hel,erase_map];exact nodup_erase hsm.2 j
   ·rw [hel,zip_erase,filter_erase]
    ·exact hpm
    ·intro q hq
     cases hs:seen.contains q.1.born with
     | true=>rfl
     | false =>
      have hm:q.2∈rem:=hpm.mem_iff.1 (List.mem_map.2 ⟨q,List.mem_filter.2 ⟨zM hq,by rw [hs];rfl⟩,rfl⟩)
      have hq2:kvs[j]?=some q.2:=by
       rw [List.getElem?_zip_eq_some] at hq
       exact hq.2
      rw [hkj] at hq2
      have:=hnr _ hm
      rw [←Option.some.inj hq2] at this
      exact absurd rfl this⟩⟩
instance (priority:=1200) {b:Nat} {key:AV} {tys:Array TypeId} : Sp (Mde Γ c t x y tys ty e o N (.val (.map (some b))) key) (Lk (mpE Γ.tt t) fun p=>TkJi Γ.P o b fun r kt kvs rem f rest=>Ky key fun xs=>Rf (kt=p.1) (Kf (kyOK Γ.P kt xs.length=true) (Rf (∀q∈rem,q.1≠xs) (N e (itcR Γ.P b r kt (delL kvs xs) rem f none :: rest))))):=⟨fun⟨p,hp,β,r,kt,kvs,rem,f,cur,rest,tk,xs,⟨hkt,hky,hnr,hn⟩,h2⟩=>by
 subst hkt
 exact mde_itr hp tk h2 hky hnr hn⟩
structure TkEk (P:Program) (o:List Res) (r:Nat) (k:∀{β:Type},TypeId→(β→AV)→(List Int×β)→Prop):Prop where
 ok:∃(β:Type) (b:Nat) (kt:TypeId) (kvs rem:List (List Int×β)) (f:β→AV) (p:List Int×β) (rest:List Res),Take o (itcR P b r kt kvs rem f (some p)) rest∧k kt f p
theorem TkEk.r{β:Type}{P:Program}{o rest:List Res}{b r:Nat}{k:∀{β:Type},TypeId→(β→AV)→(List Int×β)→Prop}{kt:TypeId}{kvs rem:List (List Int×β)}{f:β→AV}{p:List Int×β}(h:Take o (itcR P b r kt kvs rem f (some p)) rest)(hk:k kt f p) : TkEk P o r k:=⟨β,b,kt,kvs,rem,f,p,rest,h,hk⟩
instance (priority:=1200) {r:Nat} : Sp (Ent Γ c d x ty e o N (.val (.pointer (some ⟨r,0,none⟩)))) (TkEk Γ.P o r fun kt f p=>Kf (isI Γ.P kt=true) (N ((d, .tup [.val (.int .i64 (p.1.headD 0)),f p.2]) :: e) o)):=⟨fun⟨β,b,kt,kvs,rem,f,p,rest,tk,hi,hn⟩=>⟨fun ha hc=>⟨fun env hh G Os cn=>by
 obtain⟨m,g1,rfl⟩:=cn.get ha
 obtain⟨O,Os',cn2⟩:=cn.take tk
 obtain⟨⟨ho,hne,es,cl,seen,c0,hb0,hko,hvs,hsm,hr0,hc0,hpm,hcur⟩,_⟩:=cn2.hp.own
 obtain⟨i,en,s0,h1,h2,rfl,rfl⟩:=hcur p rfl
 refine .ofLd hc fun a w oo next Q ha' hw hoo hty hn'=>?_
 have hrun:=run_entry_at (P:=Γ.P) w r b _ s0 es _ en (hw▸hr0) (hw▸hb0) (zM h1) hsm.2
 have hrun2:(execOp a.eval (mkOp (.entry x) ty)).run Γ.P w= .ok (.value (.tuple #[en.key,en.val])) w:=by
  simp [mkOp,execOp,ha'.ev g1,hrun]
 have hkey:en.key= .int .i64 (p.1.headD 0):=by
  obtain⟨h3,_⟩:=hko.key i en p.1 h1 (by rw [zG,h2];rfl)
  have hu:=isI_spec hi
  generalize p.1=xs at h3
  generalize en.key=kv at h3
  cases h3 with
  | int _=>rfl
  | st h9=>rw [hu] at h9;cases h9
 unfold Oper.wp
 rw [exec_mk,hoo,hty,hrun2]
 refine hn' _ _ (Same.refl w) ?_
 rw [hw]
 exact CN.mk (cn.put d (a:= .tup [.val (.int .i64 (p.1.headD 0)),f p.2]) ⟨[_,_],rfl,hkey,hvs i en p h1 h2,trivial⟩) hn⟩⟩⟩
end
end Go.CF
namespace Go.Proofs.YtmjllbjfkafhdaaGreatDoor
open Go Go.CF
def kvS(S:List Int) : List (List Int×Int):=S.map fun k=>([k],k)
def kvf : Int→AV:=fun _=> .val (.bool true)
theorem look_S(S:List Int)(x:Int) : lookL (kvS S) [x]=if x∈S then some x else none:=by
 induction S with
 | nil=>rfl
 | cons a S ih =>
  unfold lookL kvS at ih ⊢
  simp only [List.map_cons,List.find?_cons]
  by_cases h:a=x
  ·subst h;simp
  ·have h':¬x=a:=fun e=>h e.symm
   simp only [List.cons.injEq,h,and_true,decide_false,ih,List.mem_cons,h',false_or]
theorem upd_S(S:List Int)(x:Int) : updL (kvS S) [x] x=kvS (if x∈S then S else S ++ [x]):=by
 induction S with
 | nil=>rfl
 | cons a S ih =>
  unfold kvS at ih ⊢
  simp only [List.map_cons,updL]
  by_cases h:a=x
  ·subst h;simp
  ·have h':¬x=a:=fun e=>h e.symm
   simp only [List.cons.injEq,h,and_true,if_false,ih,List.mem_cons,h',false_or]
   by_cases hm:x∈S <;> simp [hm]
theorem del_S{S:List Int}(hn:S.Nodup)(x:Int) : delL (kvS S) [x]=kvS (S.filter fun q=>decide (q≠x)):=by
 induction S with
 | nil=>rfl
 | cons a S ih =>
  obtain⟨h1,h2⟩:=List.nodup_cons.1 hn
  have ih:=ih h2
  unfold kvS at ih ⊢
  simp only [List.map_cons,delL]
  by_cases h:a=x
  ·subst h
   have:(a :: S).filter (fun q=>decide (q≠a))=S:=by
    rw [List.filter_cons,if_neg (by simp)]
    exact List.filter_eq_self.2 fun q hq=>zT fun e=>h1 (e▸hq)
   rw [this]
   simp
  ·simp only [List.cons.injEq,h,and_true,if_false,ih,List.filter_cons,ne_eq,not_false_eq_true,decide_true,if_true,List.map_cons]
theorem perm_S{p:List Int×Int}{rem':List (List Int×Int)}{rem:List Int}(h:(p :: rem').Perm (kvS rem)) :∃k rem2,p=([k],k)∧rem'=kvS rem2∧(k :: rem2).Perm rem:=by
 have hm:∀q∈p :: rem',q=([q.2],q.2):=fun q hq=>by
  obtain⟨k,_,rfl⟩:=List.mem_map.1 (h.mem_iff.1 hq)
  rfl
 have h2:=h.map Prod.snd
 have e1:(kvS rem).map Prod.snd=rem:=by unfold kvS;rw [List.map_map];exact List.map_id' _
 rw [e1,List.map_cons] at h2
 refine⟨p.2,rem'.map Prod.snd,hm p (by simp), ?_,h2⟩
 unfold kvS
 rw [List.map_map]
 have:∀l:List (List Int×Int),(∀q∈l,q=([q.2],q.2))→l=l.map ((fun k=>([k],k)) ∘ Prod.snd):=fun l hl=>by
  induction l with
  | nil=>rfl
  | cons a l ih=>rw [List.map_cons,←ih fun q hq=>hl q (by simp [hq])];congr 1;exact hl a (by simp)
 exact this _ fun q hq=>hm q (by simp [hq])
theorem hclo_p(S:List Int)(k:Int)(h:Int×Int×Int) : CallP Tryz.prog 191 [.agg (updC h), .ad [it k] 0, .ad [.rm Tryz.prog 3 (kvS S) kvf] 0] (.val (.bool (decide (h.1=k∧h.2.2∈S)))):=by
 obtain⟨h1,h2,h3⟩:=h
 refine CallA.of pg ordZ Tryz.func191 rfl Tryz.ntmps191 Tryz.results191 rfl fun h0 G0 O0=>?_
 by_cases hm:h3∈S
 ·have hl:lookL (kvS S) [h3]=some h3:=by rw [look_S,if_pos hm]
  repeat'(first|apply Sp.h|refine Lk.r rfl ?_|refine Rf.mk rfl ?_|refine xA ?_|refine xB ?_|apply Bd.mk|apply All.mk|refine xT ?_|refine xN ?_|(apply Kf.mk;(focus kernel_rfl))|(apply LkM.s;(focus first|assumption|rfl))|intro _)
  all_goals exact Fin.p rfl (vb (by by_cases e:h1=k <;> simp_all))
 ·have hl:lookL (kvS S) [h3]=none:=by rw [look_S,if_neg hm]
  repeat'(first|apply Sp.h|refine Lk.r rfl ?_|refine Rf.mk rfl ?_|refine xA ?_|refine xB ?_|apply Bd.mk|apply All.mk|refine xT ?_|refine xN ?_|(apply Kf.mk;(focus kernel_rfl))|(apply Zx.b;(focus rfl))|(apply LkM.n;(focus first|assumption|rfl))|intro _)
  all_goals exact Fin.p rfl (vb (by by_cases e:h1=k <;> simp_all))
theorem lendS_hid{o r1 r2 r3:List Res}{P:Program}{b10 b7 M r:Nat}{T1 T2 kt:TypeId}{k:Int}{β:Type}{kvs rem:List (List Int×β)}{f:β→AV}{cur:Option (List Int×β)}{a:AV}{g:FuncId}
  (t1:Take o (blkR b10 T1 [it k]) r1) (t2:Take o (blkR b7 T2 [.val (.map (some M))]) r2) (t3:Take o (itcR P M r kt kvs rem f cur) r3) :
  LendS o [a, .fn g [pm b10,pm b7]] [a, .fn g [.ad [it k] 0, .ad [.rm P kt kvs f] 0]]:=⟨fun {h G Os vs} ho hr=>by
 match vs,hr with
 | [v1,v2],⟨h1,⟨us,h2,h3⟩,_⟩ =>
  match us,h3 with
  | [u1,u2],⟨g1,g2,_⟩ =>
   have g1:u1=_:=g1
   have g2:u2=_:=g2
   subst g1;subst g2
   refine⟨AV.mono _ (fun _=> .inl) h1,⟨_,h2, ?_, ?_,trivial⟩,trivial⟩
   ·obtain⟨O,os',⟨g0,ws,gb,gr⟩,_,g3⟩:=t1.own ho
    exact⟨b10,0,ws,rfl, .inr ⟨O,g3.mem_iff.2 (by simp),(g0 _).2 rfl⟩,gb.lt,gb.cels0,gr.mono fun _=> .inl⟩
   ·obtain⟨O,os',⟨g0,ws,gb,gr⟩,_,g3⟩:=t2.own ho
    obtain⟨O3,os3,⟨q0,_,es,cl,seen,c0,q1,q2,q3,_⟩,_,q4⟩:=t3.own ho
    refine⟨b7,0,ws,rfl, .inr ⟨O,g3.mem_iff.2 (by simp),(g0 _).2 rfl⟩,gb.lt,gb.cels0, ?_,gr.one⟩
    match ws,gr.t with
    | [w],⟨e1,_⟩ =>
     exact⟨⟨M,es,cl,e1, .inr ⟨O3,q4.mem_iff.2 (by simp),(q0 _).2 (.inl rfl)⟩,(zA.1 q1).1,q1,q2,fun i e p k1 k2=>AV.mono _ (fun _=> .inl) (q3 i e p k1 k2)⟩,trivial⟩⟩
theorem mhidden_p(m:ModS)(R:List (Int×Int))(hm:LayOK m.sorts m.tables) : CallP Tryz.prog 131 [.agg (jdgC m R)] (.val (.bool (decide (HidX m)))):=by
 have hml:=hm.2.2.1
 refine CallA.of pg ord131 Tryz.func131 rfl Tryz.ntmps131 Tryz.results131 rfl fun h0 G0 O0=>?_
 (repeat'(first|(show CA _ _ (Code.region 1 _ _) _ _;apply Stopped.out)|apply Sp.h|refine Lk.r rfl ?_|refine Rf.mk rfl ?_|apply All.mk|intro _));any_goals apply Stopped.mk
 refine CA.freezeB 1 rfl (by repeat constructor) ?_
 by_cases hl:m.hides.length≤12
 rotate_left
 ·repeat'(first|apply Sp.h|refine Lk.r rfl ?_|refine Rf.mk rfl ?_|refine xA ?_|apply Im.mk|refine xN ?_|intro _)
  exact Fin.p rfl (vb (zF fun h:HidX m=>hl h.l).symm)
 repeat'(first|apply Sp.h|refine Lk.r rfl ?_|refine Rf.mk rfl ?_|refine xB ?_|apply Im.mk|intro _)
 refine CA.loop (fun i:Nat=>⟨[(1, .ad (jdgC m R) 0),(18,hidesA m.hides),(19,it (m.hides.length:Nat)),(20,it i)],[]⟩) (fun i=>i≤m.hides.length∧∀j h,j < i→m.hides[j]?=some h→HidI m h) (fun i=>m.hides.length - i) 0 xE ⟨zZ _,fun j h hj=>by omega⟩ ?_
 rintro i ⟨hi,hii⟩
 by_cases hin:i < m.hides.length
 ·obtain⟨⟨ht,hcol,hto⟩,hh⟩:=get_of hin
  have hno:¬HidI m (ht,hcol,hto)→¬HidX m:=fun h h2=>h (h2.i i _ hh)
  have hx1:=mindex_p ht (m.tables.length:Nat)
  have hx2:=mindex_p hto (m.tables.length:Nat)
  by_cases hb:0≤ht∧ht < m.tables.length∧0≤hto∧hto < m.tables.length
  ·obtain⟨j1,rfl⟩:=Int.eq_ofNat_of_zero_le hb.1
   obtain⟨j2,rfl⟩:=Int.eq_ofNat_of_zero_le hb.2.2.1
   obtain⟨-,hb1,-,hb2⟩:=hb
   obtain⟨t,htt⟩:=get_of (l:=m.tables) (i:=j1) (by omega)
   obtain⟨u,huu⟩:=get_of (l:=m.tables) (i:=j2) (by omega)
   have hx3:=mindex_p hcol (t.cols.length:Nat)
   by_cases hc:0≤hcol∧hcol < t.cols.length∧u.cols.length=1
   ·obtain⟨j3,rfl⟩:=Int.eq_ofNat_of_zero_le hc.1
    obtain⟨-,hc1,hc2⟩:=hc
    obtain⟨x,hx⟩:=get_of (l:=t.cols) (i:=j3) (by omega)
    obtain⟨y,hy⟩:=get_of (l:=u.cols) (i:=0) (by omega)
    have hu1:=cols_one hc2 hy
    by_cases hI:HidI m ((j1:Int),(j3:Int),(j2:Int))
    ·have hgo:=alli_succ hh hii hI
     obtain⟨k1,k2,k3,t',u',x',e1,e2,e3,e4,e5,e6,e7,e8,e9,e10⟩:=hI
     simp only at e1 e3 e8
     obtain rfl:j1=k1:=by omega
     obtain rfl:j2=k2:=by omega
     obtain rfl:j3=k3:=by omega
     rw [htt] at e2;cases e2
     rw [huu] at e4;cases e4
     rw [hx] at e9;cases e9
     rw [hu1] at e10;injection e10 with e10
     repeat'(first|apply Sp.h|refine Lk.r rfl ?_|refine Rf.mk rfl ?_|refine xA ?_|refine xB ?_|refine OpK.r rfl ?_|refine xP ?_|refine Im.mk fun _=>?_|refine All.mk fun _=>?_|refine xT ?_|refine xI ?_|refine Ch.l ⟨rfl,rfl⟩ ?_|(apply SetAsk.r;focus repeat' constructor)|refine xN ?_|refine xD ?_|exact trivial|(apply CA.drawF;(focus rfl);(focus kernel_rfl);(focus kernel_rfl);(focus repeat' constructor);(focus rfl);intro _n0 _hlt)|(apply NfK.lt;(focus first|assumption|omega|(apply _hlt;repeat constructor)))|apply RA'.both|refine xO ?_|(apply Cl.p (hx1);focus(repeat' constructor);done)|(apply Cl.p (hx2);focus(repeat' constructor);done)|(apply Cl.p (hx3);focus(repeat' constructor);done))
     all_goals first
      | exact PA.lp (i+1) xE ⟨⟨hin,hgo⟩,by omega⟩
      | exact(by omega:False).elim
    ·have hno:=hno hI
     repeat'(first|apply Sp.h|refine Lk.r rfl ?_|refine Rf.mk rfl ?_|refine xA ?_|refine xB ?_|(refine Bd.mk ?_ ?_ <;> intro _)|refine OpK.r rfl ?_|refine xP ?_|refine Im.mk fun _=>?_|refine All.mk fun _=>?_|refine xT ?_|refine xI ?_|refine Ch.l ⟨rfl,rfl⟩ ?_|(apply SetAsk.r;focus repeat' constructor)|refine xN ?_|refine xD ?_|exact trivial|(apply CA.drawF;(focus rfl);(focus kernel_rfl);(focus kernel_rfl);(focus repeat' constructor);(focus rfl);intro _n0 _hlt)|(apply NfK.lt;(focus first|assumption|omega|(apply _hlt;repeat constructor)))|apply RA'.both|refine xO ?_|(apply Cl.p (hx1);focus(repeat' constructor);done)|(apply Cl.p (hx2);focus(repeat' constructor);done)|(apply Cl.p (hx3);focus(repeat' constructor);done))
     all_goals first
      | exact Fin.p rfl (vb (zF hno).symm)
      | exact(hI ⟨j1,j2,j3,t,u,x,rfl,htt,rfl,huu,by omega,by omega,by omega,rfl,hx,by rw [hu1,show y=x by omega]⟩).elim
      | exact(by omega:False).elim
   ·have hno:=hno fun⟨k1,k2,k3,t',u',x',e1,e2,e3,e4,e5,e6,e7,e8,e9,e10⟩=>by
     simp only at e1 e3 e8
     obtain rfl:j1=k1:=by omega
     obtain rfl:j2=k2:=by omega
     rw [htt] at e2;cases e2
     rw [huu] at e4;cases e4
     have:=(zS.1 e9).1
     exact hc ⟨by omega,by omega,by rw [e10];rfl⟩
    repeat'(first|apply Sp.h|refine Lk.r rfl ?_|refine Rf.mk rfl ?_|refine xA ?_|refine xB ?_|(refine Bd.mk ?_ ?_ <;> intro _)|refine OpK.r rfl ?_|refine xP ?_|refine Im.mk fun _=>?_|refine All.mk fun _=>?_|refine xT ?_|refine xI ?_|refine Ch.l ⟨rfl,rfl⟩ ?_|(apply SetAsk.r;focus repeat' constructor)|refine xN ?_|refine xD ?_|exact trivial|(apply CA.drawF;(focus rfl);(focus kernel_rfl);(focus kernel_rfl);(focus repeat' constructor);(focus rfl);intro _n0 _hlt)|(apply NfK.lt;(focus first|assumption|omega|(apply _hlt;repeat constructor)))|apply RA'.both|(apply Cl.p (hx1);focus(repeat' constructor);done)|(apply Cl.p (hx2);focus(repeat' constructor);done)|(apply Cl.p (hx3);focus(repeat' constructor);done))
    all_goals first
     | exact Fin.p rfl (vb (zF hno).symm)
     | exact(hc ⟨by omega,by omega,by omega⟩).elim
     | exact(by omega:False).elim
  ·have hno:=hno fun⟨k1,k2,k3,t',u',x',e1,e2,e3,e4,_⟩=>by
    simp only at e1 e3
    have:=(zS.1 e2).1
    have:=(zS.1 e4).1
    exact hb ⟨by omega,by omega,by omega,by omega⟩
   by_cases hb1:0≤ht∧ht < m.tables.length
   ·have hb2:¬(0≤hto∧hto < m.tables.length):=fun h=>hb ⟨hb1.1,hb1.2,h.1,h.2⟩
    rw [zT hb1] at hx1
    rw [zF hb2] at hx2
    repeat'(first|apply Sp.h|refine Lk.r rfl ?_|refine Rf.mk rfl ?_|refine xA ?_|refine xB ?_|refine Im.mk fun _=>?_|refine All.mk fun _=>?_|refine xT ?_|refine xI ?_|refine Ch.l ⟨rfl,rfl⟩ ?_|(apply SetAsk.r;focus repeat' constructor)|refine xN ?_|(apply Cl.p (hx1);focus(repeat' constructor);done)|(apply Cl.p (hx2);focus(repeat' constructor);done))
    exact Fin.p rfl (vb (zF hno).symm)
   ·rw [zF hb1] at hx1
    repeat'(first|apply Sp.h|refine Lk.r rfl ?_|refine Rf.mk rfl ?_|refine xA ?_|refine xB ?_|refine Im.mk fun _=>?_|refine All.mk fun _=>?_|refine xT ?_|refine xI ?_|refine Ch.l ⟨rfl,rfl⟩ ?_|(apply SetAsk.r;focus repeat' constructor)|refine xN ?_|(apply Cl.p (hx1);focus(repeat' constructor);done)|(apply Cl.p (hx2);focus(repeat' constructor);done))
    exact Fin.p rfl (vb (zF hno).symm)
 have hie:i=m.hides.length:=by omega
 subst hie
 have hii:=alli_all hii
 repeat'(first|apply Sp.h|refine Lk.r rfl ?_|refine Rf.mk rfl ?_|refine xB ?_|fail)
 refine MkM.r kvf ?_
 repeat'(first|apply Sp.h|refine Lk.r rfl ?_|refine Rf.mk rfl ?_|apply Im.mk|apply All.mk|refine xT ?_|refine xV ?_|refine xN ?_|intro _)
 rename_i M b7 _
 refine CA.loop (fun x:Nat×List Int=>⟨[(1, .ad (jdgC m R) 0),(7,pm b7),(103,hidesA m.hides),(104,it (m.hides.length:Nat)),(105,it x.1)],[blkR b7 254 [.val (.map (some M))],mapR Tryz.prog M 3 (kvS x.2) kvf]⟩)
  (fun x=>x.1≤m.hides.length∧x.2.Nodup∧x.2.length≤x.1∧(∀k∈x.2,∃h∈m.hides,h.1=k)∧∀j h,j < x.1→m.hides[j]?=some h→h.1∈x.2) (fun x=>m.hides.length - x.1) (0,[]) xE ⟨zZ _,List.nodup_nil,zZ _,fun k h=>(by cases h),fun j h hj=>absurd hj (by omega)⟩ ?_
 rintro⟨i,S⟩ ⟨hi,hnd,hsl,hsf,hsa⟩
 simp only at hi hnd hsl hsf hsa
 simp only
 by_cases hin2:i < m.hides.length
 ·obtain⟨⟨h1,h2,h3⟩,hh⟩:=get_of hin2
  repeat'(first|apply Sp.h|refine Lk.r rfl ?_|refine Rf.mk rfl ?_|refine xA ?_|apply All.mk|refine xT ?_|refine xI ?_|refine Ch.l ⟨rfl,rfl⟩ ?_|(apply SetAsk.r;focus repeat' constructor)|refine xN ?_|(apply Kf.mk;(focus kernel_rfl))|refine xM ?_|intro _)
  refine UpV.r (v:=h1) rfl ?_
  rw [upd_S]
  repeat'(first|apply Sp.h|refine Lk.r rfl ?_|refine Rf.mk rfl ?_|refine xO ?_|fail)
  refine PA.lp (i+1,if h1∈S then S else S ++ [h1]) xE ⟨⟨hin2, ?_, ?_, ?_, ?_⟩,by simp only;omega⟩
  ·split
   ·exact hnd
   ·rename_i h9
    exact List.nodup_append.2 ⟨hnd,by simp,fun a ha b hb=>by rw [zH.1 hb];exact fun e=>h9 (e▸ha)⟩
  ·split <;> simp <;> omega
  ·intro k hk
   have:k∈S∨k=h1:=by
    split at hk
    ·exact .inl hk
    ·simpa using hk
   rcases this with h9|h9
   ·exact hsf k h9
   ·exact⟨_,zM hh,h9.symm⟩
  ·intro j h hj hjh
   have:h.1∈S∨h.1=h1:=by
    rcases Nat.lt_or_ge j i with h9|h9
    ·exact .inl (hsa j h h9 hjh)
    ·obtain rfl:j=i:=by simp only at hj;omega
     rw [hh] at hjh;cases hjh;exact .inr rfl
   split
   ·rename_i h9
    rcases this with h8|h8
    ·exact h8
    ·rw [h8];exact h9
   ·simpa using this
 have hie:i=m.hides.length:=by omega
 subst hie
 repeat'(first|apply Sp.h|refine Lk.r rfl ?_|refine Rf.mk rfl ?_|refine xB ?_|apply Im.mk|intro _)
 have hout:OutI m.hides S 0:=⟨hnd,hsf,fun T hT k hk=>by
  obtain⟨h,g1,g2,g3⟩:=hT k hk
  obtain⟨j,hj⟩:=zO g1
  rw [←g2]
  exact hsa j h (zS.1 hj).1 hj, .inr (by omega)⟩
 refine CA.loop (fun x:Nat×List Int=>⟨[(1, .ad (jdgC m R) 0),(7,pm b7),(115,hidesA m.hides),(116,it (m.hides.length:Nat)),(117,it x.1)],[blkR b7 254 [.val (.map (some M))],mapR Tryz.prog M 3 (kvS x.2) kvf]⟩)
  (fun x=>x.1≤m.hides.length∧OutI m.hides x.2 x.1) (fun x=>m.hides.length - x.1) (0,S) xE ⟨zZ _,hout⟩ ?_
 clear hout hsf hsa hnd hsl hin2
 rintro⟨i,S⟩ ⟨hi,hout⟩
 simp only at hi hout
 simp only
 by_cases hin2:i < m.hides.length
 ·repeat'(first|apply Sp.h|refine Lk.r rfl ?_|refine Rf.mk rfl ?_|refine xA ?_|apply All.mk|refine xT ?_|refine xM ?_|intro _)
  rename_i r
  refine CA.loop (fun x:List Int×List Int×Option (List Int×Int)=>⟨[(1, .ad (jdgC m R) 0),(7,pm b7),(115,hidesA m.hides),(116,it (m.hides.length:Nat)),(117,it i),(120,pm r)],[blkR b7 254 [.val (.map (some M))],itcR Tryz.prog M r 3 (kvS x.1) (kvS x.2.1) kvf x.2.2]⟩)
   (fun x=>PassI m.hides S x.1 x.2.1) (fun x=>x.2.1.length) (S,S,none) xE (PassI.start hout.nd) ?_
  rintro⟨cur,rem,c0⟩ hps
  simp only at hps
  simp only
  repeat'(first|apply Sp.h|refine Lk.r rfl ?_|refine Rf.mk rfl ?_|(apply TkJ.r;(focus repeat constructor))|(apply NxK.mk)|fail)
  ·intro p rem' hpm
   obtain⟨k,rem2,rfl,rfl,hpm2⟩:=perm_S hpm
   repeat'(first|apply Sp.h|refine Lk.r rfl ?_|refine Rf.mk rfl ?_|fail)
   refine TkEk.r (by repeat constructor) ?_
   repeat'(first|apply Sp.h|refine Lk.r rfl ?_|refine Rf.mk rfl ?_|apply All.mk|refine xT ?_|refine xV ?_|refine xN ?_|(apply Kf.mk;(focus kernel_rfl))|intro _)
   have hcon:=containsH_p (g:=191) (p:=fun h=>decide (h.1=k∧h.2.2∈cur)) (fun h=>hclo_p cur k h) rfl m.hides
   have hiff:(∃e∈m.hides,decide (e.1=k∧e.2.2∈cur)=true)↔Sup m.hides cur k:=⟨fun⟨e,e1,e2⟩=>⟨e,e1,of_decide_eq_true e2⟩,fun⟨e,e1,e2⟩=>⟨e,e1,zT e2⟩⟩
   have hnd:=List.nodup_cons.1 (hpm2.nodup_iff.2 hps.rn)
   have hnr:∀q∈kvS rem2,q.1≠ [k]:=fun q hq e=>by
    obtain⟨y,hy,rfl⟩:=List.mem_map.1 hq
    simp only [List.cons.injEq,and_true] at e
    exact hnd.1 (e▸hy)
   have hlr:rem2.length < rem.length:=by have:=hpm2.length_eq;simp only [List.length_cons] at this;omega
   by_cases hS:Sup m.hides cur k
   ·rw [zT (hiff.2 hS)] at hcon
    refine Cl.lendS hcon (lendS_hid (k:=k) (by repeat constructor) (by repeat constructor) (by repeat constructor)) ?_
    repeat'(first|apply Sp.h|refine Lk.r rfl ?_|refine xA ?_|fail)
    exact PA.lp (cur,rem2,some ([k],k)) xE ⟨hps.stay hpm2 hS,hlr⟩
   ·rw [zF (fun h=>hS (hiff.1 h))] at hcon
    refine Cl.lendS hcon (lendS_hid (k:=k) (by repeat constructor) (by repeat constructor) (by repeat constructor)) ?_
    repeat'(first|apply Sp.h|refine Lk.r rfl ?_|refine Rf.mk rfl ?_|refine xB ?_|refine xT ?_|fail)
    refine TkJi.r (by repeat constructor) ?_
    repeat'(first|apply Sp.h|refine Rf.mk rfl ?_|(apply Kf.mk;(focus kernel_rfl))|(apply Rf.mk;(focus assumption))|fail)
    have hdl:delL (kvS cur) [([k],k).fst.headD 0]=kvS (cur.filter fun q=>decide (q≠k)):=del_S hps.nd k
    rw [hdl]
    exact PA.lp (cur.filter (fun q=>decide (q≠k)),rem2,none) xE ⟨hps.away hpm2 hS,hlr⟩
  ·intro hrem
   have hr0:rem= []:=List.map_eq_nil_iff.1 hrem
   subst hr0
   repeat'(first|apply Sp.h|refine Lk.r rfl ?_|refine Rf.mk rfl ?_|refine xO ?_|fail)
   refine PA.own (OX.itc (by repeat constructor)) ?_
   exact PA.lp (i+1,cur) xE ⟨⟨hin2,hout.step hps⟩,by simp only;omega⟩
 have hie:i=m.hides.length:=by omega
 subst hie
 repeat'(first|apply Sp.h|refine Lk.r rfl ?_|refine Rf.mk rfl ?_|refine xB ?_|refine xT ?_|refine xN ?_|refine xM ?_|fail)
 refine Fin.p rfl (vb (zD.2 ?_))
 have hfin:=hout.fin (n:=m.tables.length) fun h hh=>by
  obtain⟨j,hj⟩:=zO hh
  obtain⟨j1,j2,j3,t,u,x,e1,e2,_⟩:=hii j h hj
  have:=(zS.1 e2).1
  omega
 constructor
 ·intro h
  have h0:S= []:=List.map_eq_nil_iff.1 (zQ (by omega):kvS S= [])
  exact⟨hl,hii,fun i h hi=>hfin.1 h0 h (zM hi)⟩
 ·intro h
  have h0:S= []:=hfin.2 fun g hg=>by
   obtain⟨j,hj⟩:=zO hg
   exact h.a j g hj
  subst h0
  rfl
theorem mvalid_g(m:ModS)(hol:m.ops.length≤1000000000)(hur:UpdsRg m) : CallGP Tryz.prog 56 [mdl m] (.val (.bool (decide (ValX m)))):=mvalid_of m hol hur fun h=>mhidden_p m (strR m) h
noncomputable def rgsF(m:ModS)(s:Bool) : List (Int×Int):=if ValX m then rngF m.sorts s m.tables else []
theorem mranges_g(m:ModS)(s:Bool)(hol:m.ops.length≤1000000000)(hur:UpdsRg m) : CallGP Tryz.prog 132 [mdl m, .val (.bool s)] (.sl 2 (rgsF m s) rngC):=by
 have hv:=mvalid_g m hol hur
 have hra:=cranges_g m.sorts m.tables s
 by_cases hx:ValX m
 ·rw [rgsF,if_pos hx]
  rw [zT hx] at hv
  refine CallG.of pg ordZ Tryz.func132 rfl Tryz.ntmps132 Tryz.results132 rfl fun h0 G0 O0 ga=>?_
  repeat'(first|apply Sp.h|refine Lk.r rfl ?_|refine Rf.mk rfl ?_|refine xA ?_|refine All.mk fun _=>?_|refine xT ?_|refine Ch.l ⟨rfl,rfl⟩ ?_|refine xN ?_|(apply Cl.pG (hv);(focus exact ga);focus(repeat' constructor);done)|(apply Cl.pG (hra);(focus exact ga);focus(repeat' constructor);done))
  exact Fin.p rfl rfl
 ·rw [rgsF,if_neg hx]
  rw [zF hx] at hv
  refine CallG.of pg ordZ Tryz.func132 rfl Tryz.ntmps132 Tryz.results132 rfl fun h0 G0 O0 ga=>?_
  repeat'(first|apply Sp.h|refine Lk.r rfl ?_|refine Rf.mk rfl ?_|refine xB ?_|refine All.mk fun _=>?_|refine xT ?_|refine Ch.l ⟨rfl,rfl⟩ ?_|refine xN ?_|(apply Cl.pG (hv);(focus exact ga);focus(repeat' constructor);done))
  exact⟨_,_, .one (.nilr (.z)),rfl,rfl⟩
theorem mstrict_g(m:ModS)(hol:m.ops.length≤1000000000)(hur:UpdsRg m) : CallGP Tryz.prog 57 [mdl m] (.sl 2 (rgsF m true) rngC):=by
 have h:=mranges_g m true hol hur
 refine CallG.of pg ordZ Tryz.func57 rfl Tryz.ntmps57 Tryz.results57 rfl fun h0 G0 O0 ga=>?_
 repeat'(first|apply Sp.h|refine Lk.r rfl ?_|refine Rf.mk rfl ?_|refine All.mk fun _=>?_|refine xT ?_|refine Ch.l ⟨rfl,rfl⟩ ?_|refine xN ?_|(apply Cl.pG (h);(focus exact ga);focus(repeat' constructor);done))
 exact Fin.p rfl rfl
theorem mmerged_g(m:ModS)(hol:m.ops.length≤1000000000)(hur:UpdsRg m) : CallGP Tryz.prog 58 [mdl m] (.sl 2 (rgsF m false) rngC):=by
 have h:=mranges_g m false hol hur
 refine CallG.of pg ordZ Tryz.func58 rfl Tryz.ntmps58 Tryz.results58 rfl fun h0 G0 O0 ga=>?_
 repeat'(first|apply Sp.h|refine Lk.r rfl ?_|refine Rf.mk rfl ?_|refine All.mk fun _=>?_|refine xT ?_|refine Ch.l ⟨rfl,rfl⟩ ?_|refine xN ?_|(apply Cl.pG (h);(focus exact ga);focus(repeat' constructor);done))
 exact Fin.p rfl rfl
theorem merged13_e(m:ModS) : CallP Tryz.prog 144 [mdl m] (.sl 2 (rngF m.sorts false m.tables) rngC):=by
 have h:=ranges_e m.sorts m.tables false
 refine CallA.of pg ordZ Tryz.func144 rfl Tryz.ntmps144 Tryz.results144 rfl fun h0 G0 O0=>?_
 repeat'(first|apply Sp.h|refine Lk.r rfl ?_|refine Rf.mk rfl ?_|refine All.mk fun _=>?_|refine xT ?_|refine xN ?_|(apply Cl.p (h);focus repeat' constructor))
 exact Fin.p rfl rfl
theorem rstrict13_e(m:ModS)(hol:m.ops.length≤1000000000)(hur:UpdsRg m) : CallP Tryz.prog 78 [mdl m] (.sl 2 (rgsF m true) rngC):=by
 have hv:=valid13_e m hol hur
 have hra:=strict13_e m
 by_cases hx:ValX m
 ·rw [rgsF,if_pos hx]
  change CallP _ _ _ (.sl 2 (rngF m.sorts true m.tables) rngC) at hra
  rw [zT hx] at hv
  refine CallA.of pg ordZ Tryz.func78 rfl Tryz.ntmps78 Tryz.results78 rfl fun h0 G0 O0=>?_
  repeat'(first|apply Sp.h|refine Lk.r rfl ?_|refine Rf.mk rfl ?_|refine xA ?_|refine All.mk fun _=>?_|refine xT ?_|refine Ch.l ⟨rfl,rfl⟩ ?_|refine xN ?_|(apply Cl.p (hv);focus(repeat' constructor);done)|(apply Cl.p (hra);focus(repeat' constructor);done))
  exact Fin.p rfl rfl
 ·rw [rgsF,if_neg hx]
  rw [zF hx] at hv
  refine CallA.of pg ordZ Tryz.func78 rfl Tryz.ntmps78 Tryz.results78 rfl fun h0 G0 O0=>?_
  repeat'(first|apply Sp.h|refine Lk.r rfl ?_|refine Rf.mk rfl ?_|refine xB ?_|refine All.mk fun _=>?_|refine xT ?_|refine Ch.l ⟨rfl,rfl⟩ ?_|refine xN ?_|(apply Cl.p (hv);focus repeat' constructor))
  exact⟨_,_, .one (.nilr (.z)),rfl,rfl⟩
theorem rmerged13_e(m:ModS)(hol:m.ops.length≤1000000000)(hur:UpdsRg m) : CallP Tryz.prog 79 [mdl m] (.sl 2 (rgsF m false) rngC):=by
 have hv:=valid13_e m hol hur
 have hra:=merged13_e m
 by_cases hx:ValX m
 ·rw [rgsF,if_pos hx]
  rw [zT hx] at hv
  refine CallA.of pg ordZ Tryz.func79 rfl Tryz.ntmps79 Tryz.results79 rfl fun h0 G0 O0=>?_
  repeat'(first|apply Sp.h|refine Lk.r rfl ?_|refine Rf.mk rfl ?_|refine xA ?_|refine All.mk fun _=>?_|refine xT ?_|refine Ch.l ⟨rfl,rfl⟩ ?_|refine xN ?_|(apply Cl.p (hv);focus(repeat' constructor);done)|(apply Cl.p (hra);focus(repeat' constructor);done))
  exact Fin.p rfl rfl
 ·rw [rgsF,if_neg hx]
  rw [zF hx] at hv
  refine CallA.of pg ordZ Tryz.func79 rfl Tryz.ntmps79 Tryz.results79 rfl fun h0 G0 O0=>?_
  repeat'(first|apply Sp.h|refine Lk.r rfl ?_|refine Rf.mk rfl ?_|refine xB ?_|refine All.mk fun _=>?_|refine xT ?_|refine Ch.l ⟨rfl,rfl⟩ ?_|refine xN ?_|(apply Cl.p (hv);focus repeat' constructor))
  exact⟨_,_, .one (.nilr (.z)),rfl,rfl⟩
abbrev QryS:=Int×Int
def qryC(q:QryS) : List AV:= [it q.1,it q.2]
abbrev qrys (l:List QryS):AV:= .sl 2 l qryC
theorem indexQ_p{g:FuncId}{caps:List AV}{p:QryS→Bool}(hg:∀e,CallP Tryz.prog g (.agg (qryC e) :: caps) (.val (.bool (p e))))(he:en g=true)(l:List QryS) :
  CallP Tryz.prog 133 [qrys l, .fn g caps] (it (idxI p l)):=by
 refine CallA.of pg ordZ Tryz.func133 rfl Tryz.ntmps133 Tryz.results133 rfl fun h0 G0 O0=>?_
 repeat'(first|apply Sp.h|refine Lk.r rfl ?_|refine Rf.mk rfl ?_|apply Im.mk|intro _)
 refine CA.loop (fun i:Nat=>⟨[(0,qrys l),(1, .fn g caps),(7,it (l.length:Nat)),(8,it i)],[]⟩)
  (fun i=>i≤l.length∧∀j y,j < i→l[j]?=some y→p y=false) (fun i=>l.length - i) 0 xE ⟨zZ _,fun j y h=>by omega⟩ ?_
 rintro i ⟨hi,hj⟩
 by_cases hin:i < l.length
 ·obtain⟨⟨u0,u1⟩,hx⟩:=get_of hin
  have hge:=hg (u0,u1)
  repeat'(first|apply Sp.h|refine Lk.r rfl ?_|refine Rf.mk rfl ?_|refine xA ?_|(refine Bd.mk ?_ ?_ <;> intro _)|refine xI ?_|refine Ch.l ⟨rfl,rfl⟩ ?_|refine xN ?_|(apply Rf.mk;(focus assumption))|refine xO ?_|(apply Cl.p (hge);(focus repeat'(first|apply Lend.keep|fail))))
  ·exact lendAll _
  ·rename_i hp
   exact Fin.p rfl (by rw [idxI,idxN_of hx hp hj,if_pos hin])
  ·rename_i hp
   exact PA.lp (i+1) xE ⟨⟨hin,alli_succ hx hj (by simpa using hp)⟩,by omega⟩
 ·repeat'(first|apply Sp.h|refine Lk.r rfl ?_|refine Rf.mk rfl ?_|refine xB ?_|refine xN ?_|fail)
  exact Fin.p rfl (by rw [idxI,idxN_none (fun x hx=>by obtain⟨j,hx⟩:=zO hx;exact hj j x (by have:=(zS.1 hx).1;omega) hx),if_neg (by omega)])
theorem containsQ_p{g:FuncId}{caps:List AV}{p:QryS→Bool}(hg:∀e,CallP Tryz.prog g (.agg (qryC e) :: caps) (.val (.bool (p e))))(he:en g=true)(l:List QryS) :
  CallP Tryz.prog 59 [qrys l, .fn g caps] (.val (.bool (decide (∃e∈l,p e=true)))):=by
 have hi:=indexQ_p hg he l
 refine CallA.of pg ordZ Tryz.func59 rfl Tryz.ntmps59 Tryz.results59 rfl fun h0 G0 O0=>?_
 repeat'(first|apply Sp.h|refine Lk.r rfl ?_|refine Rf.mk rfl ?_|refine xN ?_|(apply Cl.p (hi);focus repeat' constructor))
 refine Fin.p rfl (vb (zD.2 ?_))
 rw [←idxB_lt]
 unfold idxI
 split <;> omega
abbrev cntf:Int→AV:=fun x=>it x
def cntKd(s g:Nat)(k:Int) : Int:=if k=0∨k=1 then s else if k=2 then g else 0
def cntO(s g:Nat)(k:Int) : Option Int:=if k=0∨k=1 then some (s:Int) else if k=2 then some (g:Int) else none
def CntK(kvs:List (List Int×Int))(s g:Nat) : Prop:=∀x,lookL kvs [x]=cntO s g x
def QryK(s g:Nat)(q:QryS) : Prop:=0≤q.2∧q.2 < cntKd s g q.1
instance (s g:Nat) (q:QryS):Decidable (QryK s g q):=by unfold QryK;infer_instance
theorem qclo_p{kvs:List (List Int×Int)}{s g:Nat}(hk:CntK kvs s g)(q:QryS) : CallP Tryz.prog 60 [.agg (qryC q), .ad [.rm Tryz.prog 3 kvs cntf] 0] (.val (.bool (decide (¬QryK s g q)))):=by
 obtain⟨q1,q2⟩:=q
 have hk:=hk q1
 refine CallA.of pg ordZ Tryz.func60 rfl Tryz.ntmps60 Tryz.results60 rfl fun h0 G0 O0=>?_
 by_cases h1:q1=0∨q1=1
 ·rw [cntO,if_pos h1] at hk
  have hc:cntKd s g q1=s:=by rw [cntKd,if_pos h1]
  repeat'(first|apply Sp.h|refine Lk.r rfl ?_|refine Rf.mk rfl ?_|refine xA ?_|refine xB ?_|apply Bd.mk|apply All.mk|refine xT ?_|refine xN ?_|(apply Kf.mk;(focus kernel_rfl))|(apply LkM.s;(focus first|assumption|rfl))|intro _)
  all_goals exact Fin.p rfl (vb (by unfold QryK;simp only [hc];first|exact(zT (by omega)).symm|exact(zF (by omega)).symm|exact zD.2 (by omega)))
 ·by_cases h2:q1=2
  ·rw [cntO,if_neg h1,if_pos h2] at hk
   have hc:cntKd s g q1=g:=by rw [cntKd,if_neg h1,if_pos h2]
   repeat'(first|apply Sp.h|refine Lk.r rfl ?_|refine Rf.mk rfl ?_|refine xA ?_|refine xB ?_|apply Bd.mk|apply All.mk|refine xT ?_|refine xN ?_|(apply Kf.mk;(focus kernel_rfl))|(apply LkM.s;(focus first|assumption|rfl))|intro _)
   all_goals exact Fin.p rfl (vb (by unfold QryK;simp only [hc];first|exact(zT (by omega)).symm|exact(zF (by omega)).symm|exact zD.2 (by omega)))
  ·rw [cntO,if_neg h1,if_neg h2] at hk
   have hc:cntKd s g q1=0:=by rw [cntKd,if_neg h1,if_neg h2]
   repeat'(first|apply Sp.h|refine Lk.r rfl ?_|refine Rf.mk rfl ?_|refine xA ?_|refine xB ?_|apply Bd.mk|apply All.mk|refine xT ?_|refine xN ?_|(apply Kf.mk;(focus kernel_rfl))|(apply Zx.i;(focus rfl))|(apply LkM.n;(focus first|assumption|rfl))|intro _)
   all_goals exact Fin.p rfl (vb (by unfold QryK;simp only [hc];first|exact(zT (by omega)).symm|exact(zF (by omega)).symm|exact zD.2 (by omega)))
theorem lendS_map{o r2 r3:List Res}{P:Program}{b7 M:Nat}{T2 kt:TypeId}{β:Type}{kvs:List (List Int×β)}{f:β→AV}{a:AV}{g:FuncId}
  (t2:Take o (blkR b7 T2 [.val (.map (some M))]) r2) (t3:Take o (mapR P M kt kvs f) r3) :
  LendS o [a, .fn g [pm b7]] [a, .fn g [.ad [.rm P kt kvs f] 0]]:=⟨fun {h G Os vs} ho hr=>by
 match vs,hr with
 | [v1,v2],⟨h1,⟨us,h2,h3⟩,_⟩ =>
  match us,h3 with
  | [u2],⟨g2,_⟩ =>
   have g2:u2=_:=g2
   subst g2
   refine⟨AV.mono _ (fun _=> .inl) h1,⟨_,h2, ?_,trivial⟩,trivial⟩
   obtain⟨O,os',⟨g0,ws,gb,gr⟩,_,g3⟩:=t2.own ho
   obtain⟨O3,os3,⟨q0,es,cl,q1,q2,q3,_⟩,_,q4⟩:=t3.own ho
   refine⟨b7,0,ws,rfl, .inr ⟨O,g3.mem_iff.2 (by simp),(g0 _).2 rfl⟩,gb.lt,gb.cels0, ?_,gr.one⟩
   match ws,gr.t with
   | [w],⟨e1,_⟩ =>
    exact⟨⟨M,es,cl,e1, .inr ⟨O3,q4.mem_iff.2 (by simp),(q0 _).2 rfl⟩,(zA.1 q1).1,q1,q2,fun i e p k1 k2=>AV.mono _ (fun _=> .inl) (q3 i e p k1 k2)⟩,trivial⟩⟩
def QrysX(m:ModS)(l:List QryS) : Prop:=ValX m∧∀q∈l,QryK (rgsF m true).length (rgsF m false).length q
noncomputable instance (m:ModS) (l:List QryS):Decidable (QrysX m l):=zC _
theorem rgs_len(m:ModS)(s:Bool) : (rgsF m s).length≤128:=by
 unfold rgsF
 split
 ·exact rngF_len
 ·exact zZ _
theorem rdClks : RdT Tryz.prog 43 (Rp.int .i64).slice.slice:=RdT.slice Tryz.underlying43 (by kernel_rfl) rdInts (by decide)
theorem avClks : Avr (Rp.int .i64).slice.slice fun l=> [clks l]:=avInts.slice.cast fun _=>rfl
end Go.Proofs.YtmjllbjfkafhdaaGreatDoor
namespace Go.Proofs.YtmjllbjfkafhdaaGreatDoor
open Go Go.CF Go.ChangeShapes Go.WideShapes Go.ChangeAt Go.RowKit
theorem snapshotCommon_lift(os:Os)(started:os.Started)(H:Type)(enc:TypeId×Value→H)
  (walk:∀(h:Heap) (v0:Value) (l0:ModS) (v1:Value) (l1:(List Int)) (v2:Value) (l2:(List EvS)) (v3:Value) (l3:(List (List Int))),v0= .agg v0.cells→Rp.model.R h (Old h) v0.cells.toList l0→(Rp.int .i64).slice.R h (Old h) [v1] l1→Rp.event.slice.R h (Old h) [v2] l2→(Rp.int .i64).slice.slice.R h (Old h) [v3] l3→AmbOK Tryz.prog h (Old h)→CallsH Tryz.prog 6 #[v0,v1,v2,v3] h fun x h'=>x= .bool true∧Stp ([]:List Nat) h h') :
  ReturnsInHanded {} Tryz.checked os 6 .any (fun w args=>(Rows.snapshotCommonSpec.pre enc Tryz.prog Tryz.f6 Rows.snapshotCommonRow.domain false w args∧laidMetH Tryz.prog laidL w)∧sizedMet enc Tryz.prog Tryz.f6 (OpenSpec.ofChange Rows.snapshotCommonSpec) false w args)
   (Rows.snapshotCommonSpec.post enc Tryz.prog Tryz.f6 false true false false):=by
 refine returnsInHanded_of_change_and (C:=Tryz.checked) (X:=fun w _=>laidMetH Tryz.prog laidL w) (fun _ _ _ hh h=>h.of_heap hh) knob started (by kernel_rfl) Tryz.func6
  (ChangeSpec.witness_shaped (enc:=enc) (C:=Tryz.checked) (os:=os) (X:=fun w _=>laidMetH Tryz.prog laidL w) false (World.doorLaid Tryz.prog 33 os) #[.agg #[.slice none 0 0, .slice none 0 0, .slice none 0 0, .slice none 0 0, .slice none 0 0, .slice none 0 0, .slice none 0 0], .slice none 0 0, .slice none 0 0, .slice none 0 0] 8 rfl (World.shaped_of_RefB (by kernel_rfl) (by kernel_rfl)) (by kernel_rfl) (by kernel_rfl) (by kernel_rfl) (door_met os _)) ?_
 intro W base args ds gs before hval0 hW hcnd _ hL _
 have hW':=hW
 have hval:∀(j:Nat) t v,Tryz.f6.params[j]?=some t→args[j]?=some v→Value.okWide Tryz.prog W .any base t v:=hval0
 obtain⟨p,q,hA0,hV,rfl,hfz,hnd⟩:=hW
 have hA:DataW.TrodAll enc Tryz.prog W 0 (fun _=>true) true Tryz.f6.params.toList args.toList ds p:=hA0
 rw [Tryz.params6] at hA hval
 obtain⟨v0,vs0,d0,ds0,p0,q0,e0,rfl,h0,hA⟩:=CF.trodAll_cons hA
 obtain⟨v1,vs1,d1,ds1,p1,q1,rfl,rfl,h1,hA⟩:=CF.trodAll_cons hA
 obtain⟨v2,vs2,d2,ds2,p2,q2,rfl,rfl,h2,hA⟩:=CF.trodAll_cons hA
 obtain⟨v3,vs3,d3,ds3,p3,q3,rfl,rfl,h3,hA⟩:=CF.trodAll_cons hA
 obtain⟨rfl,rfl⟩:=CF.trodAll_end hA
 obtain rfl:args=#[v0,v1,v2,v3]:=Array.ext' e0
 obtain⟨l0,hl0⟩:=rdModel.arg h0
 have ha0:=aggArg Tryz.underlying30 (hval 0 30 v0 rfl rfl)
 obtain⟨l1,hl1⟩:=rdInts.arg h1
 have hl1:=sliceArg Tryz.underlying22 (hval 1 22 v1 rfl rfl) hl1
 obtain⟨l2,hl2⟩:=rdEvs.arg h2
 have hl2:=sliceArg Tryz.underlying31 (hval 2 31 v2 rfl rfl) hl2
 obtain⟨l3,hl3⟩:=rdClks.arg h3
 have hl3:=sliceArg Tryz.underlying43 (hval 3 43 v3 rfl rfl) hl3
 refine law_contract laid (tb:=4) (by rw [Tryz.params6];intro t ht;simp at ht;(repeat'(rcases ht with rfl|ht)) <;> exact⟨by kernel_rfl,of_decide_eq_true (by kernel_rfl)⟩) rfl (by rfl) Tryz.underlying4 rfl hW' ?_
 exact walk W.heap v0 l0 v1 l1 v2 l2 v3 l3 ha0 hl0 hl1 hl2 hl3 (amb_of hL)
theorem snapshotCommon_of(walk:∀(h:Heap) (v0:Value) (l0:ModS) (v1:Value) (l1:(List Int)) (v2:Value) (l2:(List EvS)) (v3:Value) (l3:(List (List Int))),v0= .agg v0.cells→Rp.model.R h (Old h) v0.cells.toList l0→(Rp.int .i64).slice.R h (Old h) [v1] l1→Rp.event.slice.R h (Old h) [v2] l2→(Rp.int .i64).slice.slice.R h (Old h) [v3] l3→AmbOK Tryz.prog h (Old h)→CallsH Tryz.prog 6 #[v0,v1,v2,v3] h fun x h'=>x= .bool true∧Stp ([]:List Nat) h h') :
  Rows.SnapshotCommonSaid :=
 OpenClaim.holds_of_wide (p:=Tryz.pinned) (s:=Rows.snapshotCommonSpec) (c:=Rows.snapshotCommonRow) 6 Tryz.f6 rfl rfl rfl rfl rfl rfl rfl ⟨rfl,rfl,rfl,rfl,rfl⟩ rfl rfl rfl rfl rfl (by kernel_rfl) Tryz.func6 snapshotCommon_joined
  (of_decide_eq_true (by kernel_rfl)) (by unfold Func.isWrapper;first|(rw [if_pos (by decide +kernel)];kernel_rfl)|(rw [if_neg (by decide +kernel)];exact⟨rfl,rfl⟩))
  (fun os started H enc _=>snapshotCommon_lift os started H enc walk)
end Go.Proofs.YtmjllbjfkafhdaaGreatDoor
