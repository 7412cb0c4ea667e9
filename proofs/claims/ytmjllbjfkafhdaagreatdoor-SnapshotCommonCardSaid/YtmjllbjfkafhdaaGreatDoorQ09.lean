/- Part 9 of the ground of this proof: what its texts say of the model, the program and the plain data; conditions: those that are named. -/
import Derived.Test.YtmjllbjfkafhdaaGreatDoorQ08
namespace Go.Proofs.YtmjllbjfkafhdaaGreatDoor
open Go Go.CF
noncomputable def strR(m:ModS) : List (Int×Int):=rngF m.sorts true m.tables
theorem strict13_e(m:ModS) : CallP Tryz.prog 117 [mdl m] (.sl 2 (strR m) rngC):=by
 have hr:=ranges_e m.sorts m.tables true
 refine CallA.of pg ordZ Tryz.func117 rfl Tryz.ntmps117 Tryz.results117 rfl fun h0 G0 O0=>?_
 repeat'(first|apply Sp.h|refine Lk.r rfl ?_|refine Rf.mk rfl ?_|refine All.mk fun _=>?_|refine xT ?_|refine xN ?_|(apply Cl.p (hr);focus repeat' constructor))
 exact Fin.p rfl rfl
def BndI(rs:List (Int×Int))(i:Nat)(c:CnsS) : Prop:=∀p,rs[i / 2]?=some p→c.row.terms= [(((i / 2:Nat):Int),if i % 2=0 then -1 else 1)]∧c.row.bound=if i % 2=0 then -p.1 else p.2
structure CnsI (m:ModS) (n:Nat) (i:Nat) (c:CnsS):Prop where
 f:0≤c.family∧c.family < m.families.length
 k:(c.kind=0∧c.first=0∧c.size=0∧RowX n c.row)∨(2 * n≤i∧c.kind=1∧GrfX m c)
structure ConX (m:ModS):Prop where
 a:2 * (strR m).length≤m.cons.length
 b:m.cons.length≤512
 c:∀i c,m.cons[i]?=some c→BndI (strR m) i c∧CnsI m (strR m).length i c
noncomputable instance (m:ModS):Decidable (ConX m):=zC _
theorem constraints_e(m:ModS)(hm:LayOK m.sorts m.tables) : CallP Tryz.prog 53 [mdl m] (.val (.bool (decide (ConX m)))):=by
 have hs:=strict13_e m
 have hr1:=rngF_len (sizes:=m.sorts) (s:=true) (l:=m.tables)
 have hr2:=rngF_ok (sizes:=m.sorts) (s:=true) (l:=m.tables)
 change (strR m).length≤128 at hr1
 change RgOK (strR m) at hr2
 have hx:∀h:ConX m,True:=fun _=>trivial
 have hdef:ConX m↔2 * (strR m).length≤m.cons.length∧m.cons.length≤512∧∀i c,m.cons[i]?=some c→BndI (strR m) i c∧CnsI m (strR m).length i c:=⟨fun h=>⟨h.a,h.b,h.c⟩,fun h=>⟨h.1,h.2.1,h.2.2⟩⟩
 obtain⟨rs,hrs⟩:∃rs,rs=strR m:=⟨_,rfl⟩
 rw [←hrs] at hs hr1 hr2 hdef
 clear hx
 refine CallA.of pg ord53 Tryz.func53 rfl Tryz.ntmps53 Tryz.results53 rfl fun h0 G0 O0=>?_
 by_cases h0:2 * rs.length≤m.cons.length∧m.cons.length≤512
 rotate_left
 ·have hno:¬ConX m:=fun h=>h0 ⟨(hdef.1 h).1,(hdef.1 h).2.1⟩
  repeat'(first|apply Sp.h|refine Lk.r rfl ?_|refine Rf.mk rfl ?_|refine xA ?_|refine xB ?_|(refine Bd.mk ?_ ?_ <;> intro _)|refine xP ?_|refine Im.mk fun _=>?_|refine All.mk fun _=>?_|refine xT ?_|refine Ch.l ⟨rfl,rfl⟩ ?_|refine xN ?_|(apply Cl.p (hs);focus repeat' constructor))
  all_goals first
   | exact Fin.p rfl (vb (zF hno).symm)
   | exact(h0 ⟨by omega,by omega⟩).elim
 obtain⟨hc1,hcl⟩:=h0
 repeat'(first|apply Sp.h|refine Lk.r rfl ?_|refine Rf.mk rfl ?_|refine xB ?_|refine xP ?_|refine Im.mk fun _=>?_|refine All.mk fun _=>?_|refine xT ?_|refine Ch.l ⟨rfl,rfl⟩ ?_|(apply Cl.p (hs);focus repeat' constructor))
 rename_i b1 _ _ _
 refine CA.loop (fun i:Nat=>⟨[(1, .val (.pointer (some ⟨b1,0,none⟩))),(3, .sl 2 rs rngC),(4,it i)],[blkR b1 30 (modC m)]⟩) (fun i=>i≤rs.length∧∀j c,j < 2 * i→m.cons[j]?=some c→BndI rs j c) (fun i=>rs.length - i) 0 xE ⟨zZ _,fun j c h=>by omega⟩ ?_
 rintro i ⟨hi,hbd⟩
 by_cases hin:i < rs.length
 ·obtain⟨p,hp⟩:=get_of hin
  obtain⟨h1,h2,h3⟩:=hr2 p (zM hp)
  obtain⟨c,hc⟩:=get_of (l:=m.cons) (i:=2 * i) (by omega)
  obtain⟨c2,hc2⟩:=get_of (l:=m.cons) (i:=2 * i+1) (by omega)
  have e1:2 * i / 2=i:=by omega
  have e2:(2 * i+1) / 2=i:=by omega
  have e3:2 * i % 2=0:=by omega
  have e4:(2 * i+1) % 2≠0:=by omega
  by_cases hA:c.row.terms= [((i:Int),-1)]∧c.row.bound= -p.1
  ·by_cases hB:c2.row.terms= [((i:Int),1)]∧c2.row.bound=p.2
   ·have hgo:=alli_succ hc2 (alli_succ hc hbd fun q hq=>by rw [e1,hp] at hq;cases hq;rw [e1,if_pos e3,if_pos e3];exact hA) fun q hq=>by rw [e2,hp] at hq;cases hq;rw [e2,if_neg e4,if_neg e4];exact hB
    have hc2':m.cons[2 * i+1]?=some c2:=hc2
    clear hc2
    repeat'(first|apply Sp.h|refine Lk.r rfl ?_|refine Rf.mk rfl ?_|refine xA ?_|refine OpK.r rfl ?_|refine xP ?_|apply Im.mk|apply All.mk|refine xT ?_|refine xI ?_|refine Ch.l ⟨rfl,rfl⟩ ?_|refine Ch.r ?_|(apply SetAsk.r;focus repeat' constructor)|(apply Fk.r;focus repeat' first|infer_instance|constructor)|refine xN ?_|refine Rf.mk ⟨rfl,rfl,rfl⟩ ?_|refine xD ?_|intro _)
    (apply Cl.fz;(focus repeat'(first|exact FZ.nil|(apply FZ.fz;(focus repeat constructor);(focus first|omega|decide|exact zB rfl|(simp <;> omega)))|apply FZ.agg|apply FZ.same)))
    apply Cl.p (sameRow_e c.row ⟨[((i:Int),-1)],-p.1⟩)
    focus exact .keep (.agg (.mp rfl (.keep .nil)) .nil)
    clear hc
    repeat'(first|apply Sp.h|refine Lk.r rfl ?_|refine Rf.mk rfl ?_|refine xA ?_|refine OpK.r rfl ?_|refine xP ?_|refine xT ?_|refine xI ?_|refine Ch.l ⟨rfl,rfl⟩ ?_|refine Ch.r ?_|refine xO ?_|fail)
    (apply Cl.fz;(focus repeat'(first|exact FZ.nil|(apply FZ.fz;(focus repeat constructor);(focus first|omega|decide|exact zB rfl|(simp <;> omega)))|apply FZ.agg|apply FZ.same)))
    apply Cl.p (sameRow_e c2.row ⟨[((i:Int),1)],p.2⟩)
    focus exact .keep (.agg (.mp rfl (.keep .nil)) .nil)
    repeat'(first|apply Sp.h|refine Lk.r rfl ?_|refine Rf.mk rfl ?_|refine xA ?_|refine OpK.r rfl ?_|refine xO ?_|fail)
    exact PA.lp (i+1) xE ⟨⟨hin,hgo⟩,by omega⟩
   ·have hno:¬ConX m:=fun h=>hB (by
     have h9:=((hdef.1 h).2.2 _ c2 hc2).1 p (by rw [e2];exact hp)
     rw [e2,if_neg e4,if_neg e4] at h9;exact h9)
    have hc2':m.cons[2 * i+1]?=some c2:=hc2
    clear hc2
    repeat'(first|apply Sp.h|refine Lk.r rfl ?_|refine Rf.mk rfl ?_|refine xA ?_|refine OpK.r rfl ?_|refine xP ?_|apply Im.mk|apply All.mk|refine xT ?_|refine xI ?_|refine Ch.l ⟨rfl,rfl⟩ ?_|refine Ch.r ?_|(apply SetAsk.r;focus repeat' constructor)|(apply Fk.r;focus repeat' first|infer_instance|constructor)|refine xN ?_|refine Rf.mk ⟨rfl,rfl,rfl⟩ ?_|refine xD ?_|intro _)
    (apply Cl.fz;(focus repeat'(first|exact FZ.nil|(apply FZ.fz;(focus repeat constructor);(focus first|omega|decide|exact zB rfl|(simp <;> omega)))|apply FZ.agg|apply FZ.same)))
    apply Cl.p (sameRow_e c.row ⟨[((i:Int),-1)],-p.1⟩)
    focus exact .keep (.agg (.mp rfl (.keep .nil)) .nil)
    clear hc
    repeat'(first|apply Sp.h|refine Lk.r rfl ?_|refine Rf.mk rfl ?_|refine xA ?_|refine OpK.r rfl ?_|refine xP ?_|refine xT ?_|refine xI ?_|refine Ch.l ⟨rfl,rfl⟩ ?_|refine Ch.r ?_|refine xO ?_|fail)
    (apply Cl.fz;(focus repeat'(first|exact FZ.nil|(apply FZ.fz;(focus repeat constructor);(focus first|omega|decide|exact zB rfl|(simp <;> omega)))|apply FZ.agg|apply FZ.same)))
    apply Cl.p (sameRow_e c2.row ⟨[((i:Int),1)],p.2⟩)
    focus exact .keep (.agg (.mp rfl (.keep .nil)) .nil)
    repeat'(first|apply Sp.h|refine Lk.r rfl ?_|refine Rf.mk rfl ?_|refine xA ?_|refine xB ?_|refine OpK.r rfl ?_|refine xN ?_|fail)
    exact Fin.p rfl (vb (zF hno).symm)
  ·have hno:¬ConX m:=fun h=>hA (by
    have h9:=((hdef.1 h).2.2 _ c hc).1 p (by rw [e1];exact hp)
    rw [e1,if_pos e3,if_pos e3] at h9;exact h9)
   clear hc2
   repeat'(first|apply Sp.h|refine Lk.r rfl ?_|refine Rf.mk rfl ?_|refine xA ?_|refine OpK.r rfl ?_|refine xP ?_|apply Im.mk|apply All.mk|refine xT ?_|refine xI ?_|refine Ch.l ⟨rfl,rfl⟩ ?_|refine Ch.r ?_|(apply SetAsk.r;focus repeat' constructor)|(apply Fk.r;focus repeat' first|infer_instance|constructor)|refine xN ?_|refine Rf.mk ⟨rfl,rfl,rfl⟩ ?_|refine xD ?_|intro _)
   (apply Cl.fz;(focus repeat'(first|exact FZ.nil|(apply FZ.fz;(focus repeat constructor);(focus first|omega|decide|exact zB rfl|(simp <;> omega)))|apply FZ.agg|apply FZ.same)))
   apply Cl.p (sameRow_e c.row ⟨[((i:Int),-1)],-p.1⟩)
   focus exact .keep (.agg (.mp rfl (.keep .nil)) .nil)
   repeat'(first|apply Sp.h|refine Lk.r rfl ?_|refine Rf.mk rfl ?_|refine xB ?_|refine OpK.r rfl ?_|refine xN ?_|fail)
   exact Fin.p rfl (vb (zF hno).symm)
 ·have:i=rs.length:=by omega
  subst this
  have hbd:∀j c,m.cons[j]?=some c→BndI rs j c:=by
   intro j c hj
   by_cases hjl:j < 2 * rs.length
   ·exact hbd j c hjl hj
   ·intro p hp
    have:=(zS.1 hp).1
    omega
  repeat'(first|apply Sp.h|refine Lk.r rfl ?_|refine Rf.mk rfl ?_|refine xB ?_|apply Im.mk|intro _)
  refine CA.loop (fun i:Nat=>⟨[(1, .val (.pointer (some ⟨b1,0,none⟩))),(3, .sl 2 rs rngC),(7,it i)],[blkR b1 30 (modC m)]⟩) (fun i=>i≤m.cons.length∧∀j c,j < i→m.cons[j]?=some c→CnsI m rs.length j c) (fun i=>m.cons.length - i) 0 xE ⟨zZ _,fun j c h=>by omega⟩ ?_
  rintro i ⟨hi,hci⟩
  by_cases hin:i < m.cons.length
  ·obtain⟨c,hc⟩:=get_of hin
   have hg:=graph_e m c hm
   have hrow:=row_e c.row (rs.length:Int)
   by_cases hC:CnsI m rs.length i c
   ·have hgo:=alli_succ hc hci hC
    obtain⟨⟨hf1,hf2⟩,hk⟩:=hC
    rcases hk with⟨k1,k2,k3,k4⟩|⟨k1,k2,k3⟩
    ·repeat'(first|apply Sp.h|refine Lk.r rfl ?_|refine Rf.mk rfl ?_|refine xA ?_|refine xB ?_|refine Im.mk fun _=>?_|refine All.mk fun _=>?_|refine xT ?_|refine xI ?_|refine Ch.l ⟨rfl,rfl⟩ ?_|refine Ch.r ?_|(apply SetAsk.r;focus repeat' constructor)|refine xN ?_|refine xO ?_|(apply Cl.p (hrow);focus repeat' constructor)|(apply Cl.p (hg);focus repeat' constructor))
     all_goals first
      | exact PA.lp (i+1) xE ⟨⟨hin,hgo⟩,by omega⟩
      | exact absurd k4 (by assumption)
      | exact(by omega:False).elim
    ·repeat'(first|apply Sp.h|refine Lk.r rfl ?_|refine Rf.mk rfl ?_|refine xA ?_|refine xB ?_|refine xP ?_|refine Im.mk fun _=>?_|refine All.mk fun _=>?_|refine xT ?_|refine xI ?_|refine Ch.l ⟨rfl,rfl⟩ ?_|(apply SetAsk.r;focus repeat' constructor)|refine xN ?_|refine xO ?_|(apply Cl.p (hrow);focus repeat' constructor)|(apply Cl.p (hg);focus repeat' constructor))
     all_goals first
      | exact PA.lp (i+1) xE ⟨⟨hin,hgo⟩,by omega⟩
      | exact absurd k3 (by assumption)
      | exact(by omega:False).elim
   ·have hno:¬ConX m:=fun h=>hC ((hdef.1 h).2.2 i c hc).2
    repeat'(first|apply Sp.h|refine Lk.r rfl ?_|refine Rf.mk rfl ?_|refine xA ?_|refine xB ?_|(refine Bd.mk ?_ ?_ <;> intro _)|refine xP ?_|refine Im.mk fun _=>?_|refine All.mk fun _=>?_|refine xT ?_|refine xI ?_|refine Ch.l ⟨rfl,rfl⟩ ?_|refine Ch.r ?_|(apply SetAsk.r;focus repeat' constructor)|refine xN ?_|refine xO ?_|(apply Cl.p (hrow);focus repeat' constructor)|(apply Cl.p (hg);focus repeat' constructor))
    all_goals first
     | exact Fin.p rfl (vb (zF hno).symm)
     | exact(hC ⟨⟨by omega,by omega⟩, .inl ⟨by omega,by omega,by omega,by assumption⟩⟩).elim
     | exact(hC ⟨⟨by omega,by omega⟩, .inr ⟨by omega,by omega,by assumption⟩⟩).elim
  ·have:i=m.cons.length:=by omega
   subst this
   repeat'(first|apply Sp.h|refine Lk.r rfl ?_|refine Rf.mk rfl ?_|refine xB ?_|apply Im.mk|refine xT ?_|refine xN ?_|intro _)
   exact Fin.p rfl (vb (zT (hdef.2 ⟨hc1,by assumption,fun j c hj=>⟨hbd j c hj,hci j c (zS.1 hj).1 hj⟩⟩)).symm)
end Go.Proofs.YtmjllbjfkafhdaaGreatDoor
set_option maxRecDepth 100000
set_option maxHeartbeats 80000000
namespace Go.Proofs.YtmjllbjfkafhdaaGreatDoor
open Go Go.CF
theorem mconstraints_p(m:ModS)(hm:LayOK m.sorts m.tables) : CallP Tryz.prog 128 [.agg (jdgC m (strR m))] (.val (.bool (decide (ConX m)))):=by
 have hr1:=rngF_len (sizes:=m.sorts) (s:=true) (l:=m.tables)
 have hr2:=rngF_ok (sizes:=m.sorts) (s:=true) (l:=m.tables)
 change (strR m).length≤128 at hr1
 change RgOK (strR m) at hr2
 have hdef:ConX m↔2 * (strR m).length≤m.cons.length∧m.cons.length≤512∧∀i c,m.cons[i]?=some c→BndI (strR m) i c∧CnsI m (strR m).length i c:=⟨fun h=>⟨h.a,h.b,h.c⟩,fun h=>⟨h.1,h.2.1,h.2.2⟩⟩
 obtain⟨rs,hrs⟩:∃rs,rs=strR m:=⟨_,rfl⟩
 rw [←hrs] at hr1 hr2 hdef ⊢
 refine CallA.of pg ord128 Tryz.func128 rfl Tryz.ntmps128 Tryz.results128 rfl fun h0 G0 O0=>?_
 by_cases h0:2 * rs.length≤m.cons.length∧m.cons.length≤512
 rotate_left
 ·have hno:¬ConX m:=fun h=>h0 ⟨(hdef.1 h).1,(hdef.1 h).2.1⟩
  repeat'(first|apply Sp.h|refine Lk.r rfl ?_|refine Rf.mk rfl ?_|refine xA ?_|refine xB ?_|apply Bd.mk|refine xP ?_|apply Im.mk|apply All.mk|refine xT ?_|refine xN ?_|intro _)
  all_goals first
   | exact Fin.p rfl (vb (zF hno).symm)
   | exact(h0 ⟨by omega,by omega⟩).elim
 obtain⟨hc1,hcl⟩:=h0
 repeat'(first|apply Sp.h|refine Lk.r rfl ?_|refine Rf.mk rfl ?_|refine xB ?_|refine xP ?_|apply Im.mk|apply All.mk|refine xT ?_|intro _)
 all_goals try exact(by omega:False).elim
 rename_i b1 _ _ _ _
 refine CA.loop (fun i:Nat=>⟨[(1,pm b1),(26, .sl 6 m.cons cnsC),(27,it (m.cons.length:Nat)),(28,it i)],[blkR b1 196 (jdgC m rs)]⟩) (fun i=>i≤m.cons.length∧∀j c,j < i→m.cons[j]?=some c→BndI rs j c∧CnsI m rs.length j c) (fun i=>m.cons.length - i) 0 xE ⟨zZ _,fun j c h=>by omega⟩ ?_
 rintro i ⟨hi,ha⟩
 by_cases hin:i < m.cons.length
 ·obtain⟨c,hc⟩:=get_of hin
  have hix:=mindex_p c.family (m.families.length:Nat)
  have hg:=mgraph_p m rs c hm
  have hrow:=mrow_p m rs c.row
  by_cases hin2:i / 2 < rs.length
  ·obtain⟨p,hp⟩:=get_of hin2
   obtain⟨p1,p2,p3⟩:=hr2 p (zM hp)
   have hp':rs[((i:Int) / 2).toNat]?=some p:=by rw [show((i:Int) / 2).toNat=i / 2 by omega];exact hp
   have hz:0≤(i:Int) / 2:=by omega
   have hzl:(i:Int) / 2 < rs.length:=by omega
   have hs0:=msingle_p c.row ((i:Int) / 2) (-1) (-p.1)
   have hs1:=msingle_p c.row ((i:Int) / 2) 1 p.2
   have hcast:((i / 2:Nat):Int)=(i:Int) / 2:=by omega
   have hB:BndI rs i c↔c.row.terms= [((i:Int) / 2,if i % 2=0 then -1 else 1)]∧c.row.bound=if i % 2=0 then -p.1 else p.2:=by
    constructor
    ·intro h
     have:=h p hp
     rwa [hcast] at this
    ·intro h q hq
     rw [hp] at hq
     cases hq
     rw [hcast]
     exact h
   by_cases hpar:i % 2=0
   ·rw [if_pos hpar,if_pos hpar] at hB
    have hpar':(i:Int) % 2=0:=by omega
    by_cases hC:BndI rs i c∧CnsI m rs.length i c
    ·have hgo:=alli_succ hc ha hC
     obtain⟨hb,⟨hf1,hf2⟩,hk⟩:=hC
     have hb:=hB.1 hb
     rcases hk with⟨k1,k2,k3,k4⟩|⟨k1,k2,k3⟩
     ·repeat'(first|apply Sp.h|refine Lk.r rfl ?_|refine Rf.mk rfl ?_|refine xA ?_|refine OpK.r rfl ?_|refine xP ?_|refine Im.mk fun _=>?_|refine All.mk fun _=>?_|refine xT ?_|refine xI ?_|refine Ch.l ⟨rfl,rfl⟩ ?_|refine Ch.r ?_|(apply SetAsk.r;focus repeat' constructor)|refine xN ?_|refine xD ?_|refine xO ?_|(apply Cl.p (hix);focus(repeat' constructor);done)|(apply Cl.p (hrow);focus(repeat' constructor);done)|(apply Cl.p (hg);focus(repeat' constructor);done)|(apply Cl.p (hs0);focus(repeat' constructor);done))
      all_goals first
       | exact PA.lp (i+1) xE ⟨⟨hin,hgo⟩,by omega⟩
       | exact absurd hb (by assumption)
       | exact absurd k4 (by assumption)
       | exact(by omega:False).elim
     ·omega
    ·have hno:¬ConX m:=fun h=>hC ((hdef.1 h).2.2 i c hc)
     repeat'(first|apply Sp.h|refine Lk.r rfl ?_|refine Rf.mk rfl ?_|refine xA ?_|refine xB ?_|(refine Bd.mk ?_ ?_ <;> intro _)|refine OpK.r rfl ?_|refine xP ?_|refine Im.mk fun _=>?_|refine All.mk fun _=>?_|refine xT ?_|refine xI ?_|refine Ch.l ⟨rfl,rfl⟩ ?_|refine Ch.r ?_|(apply SetAsk.r;focus repeat' constructor)|refine xN ?_|refine xD ?_|refine xO ?_|(apply Cl.p (hix);focus(repeat' constructor);done)|(apply Cl.p (hrow);focus(repeat' constructor);done)|(apply Cl.p (hg);focus(repeat' constructor);done)|(apply Cl.p (hs0);focus(repeat' constructor);done))
     all_goals first
      | exact Fin.p rfl (vb (zF hno).symm)
      | exact(hC ⟨hB.2 (by assumption),⟨by omega,by omega⟩, .inl ⟨by omega,by omega,by omega,by assumption⟩⟩).elim
      | exact(by omega:False).elim
   ·rw [if_neg hpar,if_neg hpar] at hB
    have hpar':¬(i:Int) % 2=0:=by omega
    by_cases hC:BndI rs i c∧CnsI m rs.length i c
    ·have hgo:=alli_succ hc ha hC
     obtain⟨hb,⟨hf1,hf2⟩,hk⟩:=hC
     have hb:=hB.1 hb
     rcases hk with⟨k1,k2,k3,k4⟩|⟨k1,k2,k3⟩
     ·repeat'(first|apply Sp.h|refine Lk.r rfl ?_|refine Rf.mk rfl ?_|refine xA ?_|refine xB ?_|refine xP ?_|refine Im.mk fun _=>?_|refine All.mk fun _=>?_|refine xT ?_|refine xI ?_|refine Ch.l ⟨rfl,rfl⟩ ?_|refine Ch.r ?_|(apply SetAsk.r;focus repeat' constructor)|refine xN ?_|refine xO ?_|(apply Cl.p (hix);focus(repeat' constructor);done)|(apply Cl.p (hrow);focus(repeat' constructor);done)|(apply Cl.p (hg);focus(repeat' constructor);done)|(apply Cl.p (hs1);focus(repeat' constructor);done))
      all_goals first
       | exact PA.lp (i+1) xE ⟨⟨hin,hgo⟩,by omega⟩
       | exact absurd hb (by assumption)
       | exact absurd k4 (by assumption)
       | exact(by omega:False).elim
     ·omega
    ·have hno:¬ConX m:=fun h=>hC ((hdef.1 h).2.2 i c hc)
     repeat'(first|apply Sp.h|refine Lk.r rfl ?_|refine Rf.mk rfl ?_|refine xA ?_|refine xB ?_|(refine Bd.mk ?_ ?_ <;> intro _)|refine xP ?_|refine Im.mk fun _=>?_|refine All.mk fun _=>?_|refine xT ?_|refine xI ?_|refine Ch.l ⟨rfl,rfl⟩ ?_|refine Ch.r ?_|(apply SetAsk.r;focus repeat' constructor)|refine xN ?_|refine xO ?_|(apply Cl.p (hix);focus(repeat' constructor);done)|(apply Cl.p (hrow);focus(repeat' constructor);done)|(apply Cl.p (hg);focus(repeat' constructor);done)|(apply Cl.p (hs1);focus(repeat' constructor);done))
     all_goals first
      | exact Fin.p rfl (vb (zF hno).symm)
      | exact(hC ⟨hB.2 (by assumption),⟨by omega,by omega⟩, .inl ⟨by omega,by omega,by omega,by assumption⟩⟩).elim
      | exact(by omega:False).elim
  ·have hbt:BndI rs i c:=fun p hp=>absurd (zS.1 hp).1 hin2
   have hzl:¬(i:Int) / 2 < rs.length:=by omega
   by_cases hC:CnsI m rs.length i c
   ·have hgo:=alli_succ hc ha ⟨hbt,hC⟩
    obtain⟨⟨hf1,hf2⟩,hk⟩:=hC
    rcases hk with⟨k1,k2,k3,k4⟩|⟨k1,k2,k3⟩
    ·repeat'(first|apply Sp.h|refine Lk.r rfl ?_|refine Rf.mk rfl ?_|refine xA ?_|refine xB ?_|refine xP ?_|refine Im.mk fun _=>?_|refine All.mk fun _=>?_|refine xT ?_|refine xI ?_|refine Ch.l ⟨rfl,rfl⟩ ?_|refine Ch.r ?_|(apply SetAsk.r;focus repeat' constructor)|refine xN ?_|refine xO ?_|(apply Cl.p (hix);focus(repeat' constructor);done)|(apply Cl.p (hrow);focus(repeat' constructor);done)|(apply Cl.p (hg);focus(repeat' constructor);done))
     all_goals first
      | exact PA.lp (i+1) xE ⟨⟨hin,hgo⟩,by omega⟩
      | exact absurd k4 (by assumption)
      | exact(by omega:False).elim
    ·repeat'(first|apply Sp.h|refine Lk.r rfl ?_|refine Rf.mk rfl ?_|refine xA ?_|refine xB ?_|refine xP ?_|refine Im.mk fun _=>?_|refine All.mk fun _=>?_|refine xT ?_|refine xI ?_|refine Ch.l ⟨rfl,rfl⟩ ?_|(apply SetAsk.r;focus repeat' constructor)|refine xN ?_|refine xO ?_|(apply Cl.p (hix);focus(repeat' constructor);done)|(apply Cl.p (hrow);focus(repeat' constructor);done)|(apply Cl.p (hg);focus(repeat' constructor);done))
     all_goals first
      | exact PA.lp (i+1) xE ⟨⟨hin,hgo⟩,by omega⟩
      | exact absurd k3 (by assumption)
      | exact(by omega:False).elim
   ·have hno:¬ConX m:=fun h=>hC ((hdef.1 h).2.2 i c hc).2
    repeat'(first|apply Sp.h|refine Lk.r rfl ?_|refine Rf.mk rfl ?_|refine xA ?_|refine xB ?_|(refine Bd.mk ?_ ?_ <;> intro _)|refine xP ?_|refine Im.mk fun _=>?_|refine All.mk fun _=>?_|refine xT ?_|refine xI ?_|refine Ch.l ⟨rfl,rfl⟩ ?_|refine Ch.r ?_|(apply SetAsk.r;focus repeat' constructor)|refine xN ?_|refine xO ?_|(apply Cl.p (hix);focus(repeat' constructor);done)|(apply Cl.p (hrow);focus(repeat' constructor);done)|(apply Cl.p (hg);focus(repeat' constructor);done))
    all_goals first
     | exact Fin.p rfl (vb (zF hno).symm)
     | exact(hC ⟨⟨by omega,by omega⟩, .inl ⟨by omega,by omega,by omega,by assumption⟩⟩).elim
     | exact(hC ⟨⟨by omega,by omega⟩, .inr ⟨by omega,by omega,by assumption⟩⟩).elim
     | exact(by omega:False).elim
 ·have:i=m.cons.length:=by omega
  subst this
  repeat'(first|apply Sp.h|refine Lk.r rfl ?_|refine Rf.mk rfl ?_|refine xB ?_|refine xN ?_|fail)
  exact Fin.p rfl (vb (zT (hdef.2 ⟨hc1,hcl,alli_all ha⟩)).symm)
structure DltI (n:Int) (l:List (Int×Int)) (i:Nat) (p:Int×Int):Prop where
 a:0≤p.1
 b:p.1 < n
 c:p.2≠0
 d: -1000000000≤p.2∧p.2≤1000000000
 e:∀q,0 < i→l[i - 1]?=some q→q.1 < p.1
def UpdT(t:TblS)(k v:Int) : Prop:=(isSet13 t.kind→(k=0∨k=1)∧v=0)∧(¬isSet13 t.kind→k=2∧t.lo≤v∧v≤t.hi)
def UpdI(m:ModS)(l:List (Int×Int×Int))(i:Nat)(u:Int×Int×Int) : Prop :=
 (∃ti q t,tupF m.sorts m.tables false u.2.1=some (ti,q)∧m.tables[ti]?=some t∧UpdT t u.1 u.2.2)∧∀q,0 < i→l[i - 1]?=some q→q.2.1 < u.2.1
structure EffX (m:ModS) (x:EffS):Prop where
 d:∀i p,x.delta[i]?=some p→DltI (strR m).length x.delta i p
 h:∀(i:Nat) (r:RowS),x.hold[i]?=some r→RowX (strR m).length r
 u:∀i p,x.updates[i]?=some p→UpdI m x.updates i p
 hl:x.hold.length≤8
 ul:x.updates.length≤32
noncomputable instance (m:ModS) (x:EffS):Decidable (EffX m x):=zC _
def UpdRg(x:EffS) : Prop:=∀u∈x.updates,u.2.1≤9223372036854775807
theorem tupF_lt{sizes:List Int}{l:List TblS}{s:Bool}{cell:Int}{i:Nat}{q:List Int}(h:tupF sizes l s cell=some (i,q)) :∃t,l[i]?=some t:=by
 unfold tupF at h
 split at h
 ·obtain⟨j,-,h2⟩:=Option.bind_eq_some_iff.1 h
  obtain⟨t,h3,h4⟩:=Option.map_eq_some_iff.1 h2
  injection h4 with h4 h5
  subst h4
  exact⟨t,h3⟩
 ·cases h
theorem effect_e(m:ModS)(x:EffS)(hu:UpdRg x) : CallP Tryz.prog 123 [mdl m, .agg (effC x)] (.val (.bool (decide (EffX m x)))):=by
 have hb:=fun p:Int×Int=>between13_p p.2 1000000000 (by omega)
 have hs:=strict13_e m
 have hdef:EffX m x↔(∀i p,x.delta[i]?=some p→DltI (strR m).length x.delta i p)∧(∀(i:Nat) (r:RowS),x.hold[i]?=some r→RowX (strR m).length r)∧(∀i p,x.updates[i]?=some p→UpdI m x.updates i p)∧x.hold.length≤8∧x.updates.length≤32:=⟨fun h=>⟨h.d,h.h,h.u,h.hl,h.ul⟩,fun h=>⟨h.1,h.2.1,h.2.2.1,h.2.2.2.1,h.2.2.2.2⟩⟩
 obtain⟨rs,hrs⟩:∃rs,rs=strR m:=⟨_,rfl⟩
 rw [←hrs] at hs hdef
 refine CallA.of pg ord123 Tryz.func123 rfl Tryz.ntmps123 Tryz.results123 rfl fun h0 G0 O0=>?_
 repeat'(first|apply Sp.h|refine Lk.r rfl ?_|refine Rf.mk rfl ?_|refine Im.mk fun _=>?_|refine All.mk fun _=>?_|refine xT ?_|refine Ch.l ⟨rfl,rfl⟩ ?_|(apply Cl.p (hs);focus repeat' constructor))
 rename_i b2 b3 _
 refine CA.loop (fun i:Nat=>⟨[(2,pm b2),(3,pm b3),(5,it (rs.length:Nat)),(6,it i)],[blkR b3 140 (effC x),blkR b2 30 (modC m)]⟩) (fun i=>i≤x.delta.length∧∀j p,j < i→x.delta[j]?=some p→DltI rs.length x.delta j p) (fun i=>x.delta.length - i) 0 xE ⟨zZ _,fun j p h=>by omega⟩ ?_
 rintro i ⟨hi,hd⟩
 by_cases hin:i < x.delta.length
 ·obtain⟨p,hp⟩:=get_of hin
  have hbp:=hb p
  by_cases hT:DltI rs.length x.delta i p
  ·obtain⟨g1,g2,g3,g4,g5⟩:=hT
   rcases Nat.eq_zero_or_pos i with h0|h0
   ·subst h0
    repeat'(first|apply Sp.h|refine Lk.r rfl ?_|refine Rf.mk rfl ?_|refine xA ?_|refine xB ?_|refine OpK.r rfl ?_|refine Im.mk fun _=>?_|refine All.mk fun _=>?_|refine xT ?_|refine xI ?_|refine Ch.l ⟨rfl,rfl⟩ ?_|(apply SetAsk.r;focus repeat' constructor)|refine xN ?_|refine xD ?_|refine xO ?_|(apply Cl.p (hbp);focus repeat' constructor))
    exact PA.lp 1 xE ⟨⟨hin,alli_succ hp hd ⟨g1,g2,g3,g4,g5⟩⟩,by omega⟩
   ·obtain⟨k,rfl⟩:∃k,i=k+1:=⟨i - 1,by omega⟩
    obtain⟨q,hq⟩:=get_of (l:=x.delta) (i:=k) (by omega)
    have hqp:=g5 q h0 hq
    repeat'(first|apply Sp.h|refine Lk.r rfl ?_|refine Rf.mk rfl ?_|refine xA ?_|refine xB ?_|refine OpK.r rfl ?_|refine Im.mk fun _=>?_|refine All.mk fun _=>?_|refine xT ?_|refine xI ?_|(apply Ix.r;(focus assumption);(focus omega))|refine Ch.l ⟨rfl,rfl⟩ ?_|(apply SetAsk.r;focus repeat' constructor)|refine xN ?_|refine xD ?_|refine xO ?_|(apply Cl.p (hbp);focus repeat' constructor))
    exact PA.lp (k+1+1) xE ⟨⟨hin,alli_succ hp hd ⟨g1,g2,g3,g4,g5⟩⟩,by omega⟩
  ·have hno:¬EffX m x:=fun h=>hT ((hdef.1 h).1 i p hp)
   rcases Nat.eq_zero_or_pos i with h0|h0
   ·subst h0
    repeat'(first|apply Sp.h|refine Lk.r rfl ?_|refine Rf.mk rfl ?_|refine xA ?_|refine xB ?_|(refine Bd.mk ?_ ?_ <;> intro _)|refine OpK.r rfl ?_|refine Im.mk fun _=>?_|refine All.mk fun _=>?_|refine xT ?_|refine xI ?_|refine Ch.l ⟨rfl,rfl⟩ ?_|(apply SetAsk.r;focus repeat' constructor)|refine xN ?_|refine xD ?_|refine xO ?_|(apply Cl.p (hbp);focus repeat' constructor))
    all_goals first
     | exact Fin.p rfl (vb (zF hno).symm)
     | exact(hT ⟨by omega,by omega,by omega,by omega,fun q h=>by omega⟩).elim
   ·obtain⟨k,rfl⟩:∃k,i=k+1:=⟨i - 1,by omega⟩
    obtain⟨q,hq⟩:=get_of (l:=x.delta) (i:=k) (by omega)
    repeat'(first|apply Sp.h|refine Lk.r rfl ?_|refine Rf.mk rfl ?_|refine xA ?_|refine xB ?_|(refine Bd.mk ?_ ?_ <;> intro _)|refine OpK.r rfl ?_|refine Im.mk fun _=>?_|refine All.mk fun _=>?_|refine xT ?_|refine xI ?_|(apply Ix.r;(focus assumption);(focus omega))|refine Ch.l ⟨rfl,rfl⟩ ?_|(apply SetAsk.r;focus repeat' constructor)|refine xN ?_|refine xD ?_|refine xO ?_|(apply Cl.p (hbp);focus repeat' constructor))
    all_goals first
     | exact Fin.p rfl (vb (zF hno).symm)
     | exact(hT ⟨by omega,by omega,by omega,by omega,fun q' _ h=>by rw [show k+1 - 1=k by omega,hq] at h;cases h;omega⟩).elim
 have:i=x.delta.length:=by omega
 subst this
 have hd:=alli_all hd
 repeat'(first|apply Sp.h|refine Lk.r rfl ?_|refine Rf.mk rfl ?_|refine xB ?_|apply Im.mk|refine xT ?_|intro _)
 refine CA.loop (fun i:Nat=>⟨[(2,pm b2),(3,pm b3),(5,it (rs.length:Nat)),(8,it i)],[blkR b3 140 (effC x),blkR b2 30 (modC m)]⟩) (fun i=>i≤x.hold.length∧∀(j:Nat) (r:RowS),j < i→x.hold[j]?=some r→RowX rs.length r) (fun i=>x.hold.length - i) 0 xE ⟨zZ _,fun j p h=>by omega⟩ ?_
 rintro i ⟨hi,hh⟩
 by_cases hin:i < x.hold.length
 ·obtain⟨r,hr⟩:=get_of hin
  have hrow:=row_e r (rs.length:Nat)
  by_cases hT:RowX rs.length r
  ·repeat'(first|apply Sp.h|refine Lk.r rfl ?_|refine Rf.mk rfl ?_|refine xA ?_|refine Im.mk fun _=>?_|refine xT ?_|refine xI ?_|refine Ch.l ⟨rfl,rfl⟩ ?_|refine xO ?_|(apply Cl.p (hrow);focus repeat' constructor))
   exact PA.lp (i+1) xE ⟨⟨hin,alli_succ hr hh hT⟩,by omega⟩
  ·repeat'(first|apply Sp.h|refine Lk.r rfl ?_|refine Rf.mk rfl ?_|refine xA ?_|refine xB ?_|refine Im.mk fun _=>?_|refine xT ?_|refine xI ?_|refine Ch.l ⟨rfl,rfl⟩ ?_|refine xN ?_|(apply Cl.p (hrow);focus repeat' constructor))
   exact Fin.p rfl (vb (zF fun h=>hT ((hdef.1 h).2.1 i r hr)).symm)
 have:i=x.hold.length:=by omega
 subst this
 have hh:=alli_all hh
 repeat'(first|apply Sp.h|refine Lk.r rfl ?_|refine Rf.mk rfl ?_|refine xB ?_|apply Im.mk|refine xT ?_|intro _)
 refine CA.loop (fun i:Nat=>⟨[(2,pm b2),(3,pm b3),(9,it i)],[blkR b3 140 (effC x),blkR b2 30 (modC m)]⟩) (fun i=>i≤x.updates.length∧∀j p,j < i→x.updates[j]?=some p→UpdI m x.updates j p) (fun i=>x.updates.length - i) 0 xE ⟨zZ _,fun j p h=>by omega⟩ ?_
 rintro i ⟨hi,hup⟩
 by_cases hin:i < x.updates.length
 ·obtain⟨⟨uk,uc,uv⟩,hui⟩:=get_of hin
  have htu:=tuple_e m.sorts m.tables false uc (hu _ (zM hui))
  have hno:¬UpdI m x.updates i (uk,uc,uv)→¬EffX m x:=fun hT h=>hT ((hdef.1 h).2.2.1 i _ hui)
  cases htf:tupF m.sorts m.tables false uc with
  | none =>
   rw [htf,tupA] at htu
   have hT:¬UpdI m x.updates i (uk,uc,uv):=by
    rintro⟨⟨ti,q,t,h,-⟩,-⟩
    simp only [htf] at h
    cases h
   repeat'(first|apply Sp.h|refine Lk.r rfl ?_|refine Rf.mk rfl ?_|refine xA ?_|refine xB ?_|refine OpK.r rfl ?_|refine Im.mk fun _=>?_|refine All.mk fun _=>?_|refine xT ?_|refine xI ?_|refine Ch.l ⟨rfl,rfl⟩ ?_|(apply SetAsk.r;focus repeat' constructor)|refine xN ?_|refine xD ?_|(apply Cl.p (htu);focus repeat' constructor))
   exact Fin.p rfl (vb (zF (hno hT)).symm)
  | some tq =>
   obtain⟨ti,tq⟩:=tq
   rw [htf,tupA] at htu
   obtain⟨t,ht⟩:=tupF_lt htf
   have hlt:=(zS.1 ht).1
   have hUT:UpdI m x.updates i (uk,uc,uv)↔UpdT t uk uv∧∀q,0 < i→x.updates[i - 1]?=some q→q.2.1 < uc:=by
    constructor
    ·rintro⟨⟨ti',q',t',h1,h2,h3⟩,h4⟩
     simp only [htf] at h1
     cases h1
     rw [ht] at h2;cases h2
     exact⟨h3,h4⟩
    ·rintro⟨h1,h2⟩
     exact⟨⟨ti,tq,t,htf,ht,h1⟩,h2⟩
   rcases Nat.eq_zero_or_pos i with h0|h0
   ·subst h0
    by_cases hT:UpdT t uk uv
    ·have hgo:=alli_succ hui hup (hUT.2 ⟨hT,fun q h=>by omega⟩)
     by_cases hst:isSet13 t.kind
     ·obtain⟨g1,g2⟩:=hT.1 hst
      repeat'(first|apply Sp.h|refine Lk.r rfl ?_|refine Rf.mk rfl ?_|refine xA ?_|refine xB ?_|(refine Bd.mk ?_ ?_ <;> intro _)|refine OpK.r rfl ?_|refine Im.mk fun _=>?_|refine All.mk fun _=>?_|refine xT ?_|refine xI ?_|refine Ch.l ⟨rfl,rfl⟩ ?_|(apply SetAsk.r;focus repeat' constructor)|refine xN ?_|refine xD ?_|refine xO ?_|(apply Cl.p (htu);focus repeat' constructor)|(apply Cl.p (set13_p _);focus repeat' constructor))
      all_goals first
       | exact PA.lp 1 xE ⟨⟨hin,hgo⟩,by omega⟩
       | exact absurd hst (by assumption)
       | exact(by omega:False).elim
     ·obtain⟨g1,g2,g3⟩:=hT.2 hst
      repeat'(first|apply Sp.h|refine Lk.r rfl ?_|refine Rf.mk rfl ?_|refine xA ?_|refine xB ?_|refine OpK.r rfl ?_|refine Im.mk fun _=>?_|refine All.mk fun _=>?_|refine xT ?_|refine xI ?_|refine Ch.l ⟨rfl,rfl⟩ ?_|(apply SetAsk.r;focus repeat' constructor)|refine xN ?_|refine xD ?_|refine xO ?_|(apply Cl.p (htu);focus repeat' constructor)|(apply Cl.p (set13_p _);focus repeat' constructor))
      all_goals first
       | exact PA.lp 1 xE ⟨⟨hin,hgo⟩,by omega⟩
       | exact absurd (by assumption) hst
       | exact(by omega:False).elim
    ·have hno:=hno fun h=>hT (hUT.1 h).1
     by_cases hst:isSet13 t.kind
     ·repeat'(first|apply Sp.h|refine Lk.r rfl ?_|refine Rf.mk rfl ?_|refine xA ?_|refine xB ?_|(refine Bd.mk ?_ ?_ <;> intro _)|refine OpK.r rfl ?_|refine Im.mk fun _=>?_|refine All.mk fun _=>?_|refine xT ?_|refine xI ?_|refine Ch.l ⟨rfl,rfl⟩ ?_|(apply SetAsk.r;focus repeat' constructor)|refine xN ?_|refine xD ?_|refine xO ?_|(apply Cl.p (htu);focus repeat' constructor)|(apply Cl.p (set13_p _);focus repeat' constructor))
      all_goals first
       | exact Fin.p rfl (vb (zF hno).symm)
       | exact absurd hst (by assumption)
       | exact(hT ⟨fun _=>⟨by omega,by omega⟩,fun h=>absurd hst h⟩).elim
     ·repeat'(first|apply Sp.h|refine Lk.r rfl ?_|refine Rf.mk rfl ?_|refine xA ?_|refine xB ?_|(refine Bd.mk ?_ ?_ <;> intro _)|refine OpK.r rfl ?_|refine Im.mk fun _=>?_|refine All.mk fun _=>?_|refine xT ?_|refine xI ?_|refine Ch.l ⟨rfl,rfl⟩ ?_|(apply SetAsk.r;focus repeat' constructor)|refine xN ?_|refine xD ?_|refine xO ?_|(apply Cl.p (htu);focus repeat' constructor)|(apply Cl.p (set13_p _);focus repeat' constructor))
      all_goals first
       | exact Fin.p rfl (vb (zF hno).symm)
       | exact absurd (by assumption) hst
       | exact(hT ⟨fun h=>absurd h hst,fun _=>⟨by omega,by omega,by omega⟩⟩).elim
   ·obtain⟨k,rfl⟩:∃k,i=k+1:=⟨i - 1,by omega⟩
    obtain⟨⟨wk,wc,wv⟩,hw⟩:=get_of (l:=x.updates) (i:=k) (by omega)
    by_cases hT:UpdT t uk uv∧wc < uc
    ·obtain⟨hT,hwu⟩:=hT
     have hgo:=alli_succ hui hup (hUT.2 ⟨hT,fun q _ h=>by rw [show k+1 - 1=k by omega,hw] at h;cases h;exact hwu⟩)
     by_cases hst:isSet13 t.kind
     ·obtain⟨g1,g2⟩:=hT.1 hst
      repeat'(first|apply Sp.h|refine Lk.r rfl ?_|refine Rf.mk rfl ?_|refine xA ?_|refine xB ?_|(refine Bd.mk ?_ ?_ <;> intro _)|refine OpK.r rfl ?_|refine Im.mk fun _=>?_|refine All.mk fun _=>?_|refine xT ?_|refine xI ?_|(apply Ix.r;(focus assumption);(focus omega))|refine Ch.l ⟨rfl,rfl⟩ ?_|(apply SetAsk.r;focus repeat' constructor)|refine xN ?_|refine xD ?_|refine xO ?_|(apply Cl.p (htu);focus repeat' constructor)|(apply Cl.p (set13_p _);focus repeat' constructor))
      all_goals first
       | exact PA.lp (k+1+1) xE ⟨⟨hin,hgo⟩,by omega⟩
       | exact absurd hst (by assumption)
       | exact(by omega:False).elim
     ·obtain⟨g1,g2,g3⟩:=hT.2 hst
      repeat'(first|apply Sp.h|refine Lk.r rfl ?_|refine Rf.mk rfl ?_|refine xA ?_|refine xB ?_|refine OpK.r rfl ?_|refine Im.mk fun _=>?_|refine All.mk fun _=>?_|refine xT ?_|refine xI ?_|(apply Ix.r;(focus assumption);(focus omega))|refine Ch.l ⟨rfl,rfl⟩ ?_|(apply SetAsk.r;focus repeat' constructor)|refine xN ?_|refine xD ?_|refine xO ?_|(apply Cl.p (htu);focus repeat' constructor)|(apply Cl.p (set13_p _);focus repeat' constructor))
      all_goals first
       | exact PA.lp (k+1+1) xE ⟨⟨hin,hgo⟩,by omega⟩
       | exact absurd (by assumption) hst
       | exact(by omega:False).elim
    ·have hno:=hno fun h=>hT ⟨(hUT.1 h).1,(hUT.1 h).2 _ h0 (by rw [show k+1 - 1=k by omega];exact hw)⟩
     by_cases hst:isSet13 t.kind
     ·repeat'(first|apply Sp.h|refine Lk.r rfl ?_|refine Rf.mk rfl ?_|refine xA ?_|refine xB ?_|(refine Bd.mk ?_ ?_ <;> intro _)|refine OpK.r rfl ?_|refine Im.mk fun _=>?_|refine All.mk fun _=>?_|refine xT ?_|refine xI ?_|(apply Ix.r;(focus assumption);(focus omega))|refine Ch.l ⟨rfl,rfl⟩ ?_|(apply SetAsk.r;focus repeat' constructor)|refine xN ?_|refine xD ?_|refine xO ?_|(apply Cl.p (htu);focus repeat' constructor)|(apply Cl.p (set13_p _);focus repeat' constructor))
      all_goals first
       | exact Fin.p rfl (vb (zF hno).symm)
       | exact absurd hst (by assumption)
       | exact(hT ⟨⟨fun _=>⟨by omega,by omega⟩,fun h=>absurd hst h⟩,by omega⟩).elim
     ·repeat'(first|apply Sp.h|refine Lk.r rfl ?_|refine Rf.mk rfl ?_|refine xA ?_|refine xB ?_|(refine Bd.mk ?_ ?_ <;> intro _)|refine OpK.r rfl ?_|refine Im.mk fun _=>?_|refine All.mk fun _=>?_|refine xT ?_|refine xI ?_|(apply Ix.r;(focus assumption);(focus omega))|refine Ch.l ⟨rfl,rfl⟩ ?_|(apply SetAsk.r;focus repeat' constructor)|refine xN ?_|refine xD ?_|refine xO ?_|(apply Cl.p (htu);focus repeat' constructor)|(apply Cl.p (set13_p _);focus repeat' constructor))
      all_goals first
       | exact Fin.p rfl (vb (zF hno).symm)
       | exact absurd (by assumption) hst
       | exact(hT ⟨⟨fun h=>absurd h hst,fun _=>⟨by omega,by omega,by omega⟩⟩,by omega⟩).elim
 have:i=x.updates.length:=by omega
 subst this
 have hup:=alli_all hup
 repeat'(first|apply Sp.h|refine Lk.r rfl ?_|refine Rf.mk rfl ?_|refine xA ?_|refine xB ?_|apply Bd.mk|apply Im.mk|refine xT ?_|refine xN ?_|intro _)
 ·rename_i h
  refine Fin.p rfl (vb ?_)
  by_cases h9:x.updates.length≤32
  ·rw [zT (show EffX m x from hdef.2 ⟨hd,hh,hup,by omega,h9⟩)]
   exact zT (by omega)
  ·rw [zF fun h8:EffX m x=>h9 h8.ul]
   exact zF (by omega)
 ·rename_i h
  exact Fin.p rfl (vb (zF fun h8:EffX m x=>h (by have:=h8.hl;omega)).symm)
def lexB : List Int→List Int→Bool
 | [],[]=>false
 | [],_ :: _=>true
 | _ :: _,[]=>false
 | x :: a,y :: b=>if x=y then lexB a b else decide (x < y)
theorem less_e(a b:List Int) : CallP Tryz.prog 122 [ints a,ints b] (.val (.bool (lexB a b))):=by
 refine CallA.of pg ord122 Tryz.func122 rfl Tryz.ntmps122 Tryz.results122 rfl fun h0 G0 O0=>?_
 repeat'(first|apply Sp.h|refine Lk.r rfl ?_|refine Rf.mk rfl ?_|fail)
 refine CA.loop (fun i:Nat=>⟨[(0,ints a),(1,ints b),(5,it i)],[]⟩) (fun i=>i≤a.length∧i≤b.length∧lexB (a.drop i) (b.drop i)=lexB a b) (fun i=>a.length - i) 0 xE ⟨zZ _,zZ _,rfl⟩ ?_
 rintro i ⟨hi1,hi2,he⟩
 by_cases ha:i < a.length
 ·obtain⟨x,hx⟩:=get_of ha
  rw [List.drop_eq_getElem_cons ha,(zS.1 hx).2] at he
  by_cases hb:i < b.length
  ·obtain⟨y,hy⟩:=get_of hb
   rw [List.drop_eq_getElem_cons hb,(zS.1 hy).2,lexB] at he
   by_cases hxy:x=y
   ·rw [if_pos hxy] at he
    repeat'(first|apply Sp.h|refine Lk.r rfl ?_|refine Rf.mk rfl ?_|refine xA ?_|refine OpK.r rfl ?_|apply Im.mk|refine xI ?_|refine xD ?_|refine xO ?_|intro _)
    all_goals first
     | exact PA.lp (i+1) xE ⟨⟨ha,hb,he⟩,by omega⟩
     | exact(by omega:False).elim
   ·rw [if_neg hxy] at he
    repeat'(first|apply Sp.h|refine Lk.r rfl ?_|refine Rf.mk rfl ?_|refine xA ?_|refine xB ?_|refine OpK.r rfl ?_|apply Im.mk|refine xI ?_|refine xN ?_|refine xD ?_|intro _)
    all_goals first
     | exact Fin.p rfl (vb he)
     | exact(by omega:False).elim
  ·rw [List.drop_of_length_le (l:=b) (by omega),lexB] at he
   repeat'(first|apply Sp.h|refine Lk.r rfl ?_|refine Rf.mk rfl ?_|refine xA ?_|refine xB ?_|apply Im.mk|refine xN ?_|intro _)
   exact Fin.p rfl (vb (by rw [←he];exact zF (by omega)))
 ·rw [List.drop_of_length_le (l:=a) (by omega)] at he
  by_cases hb:i < b.length
  ·rw [List.drop_eq_getElem_cons hb,lexB] at he
   repeat'(first|apply Sp.h|refine Lk.r rfl ?_|refine Rf.mk rfl ?_|refine xB ?_|apply Im.mk|refine xN ?_|intro _)
   exact Fin.p rfl (vb (by rw [←he];exact zT (by omega)))
  ·rw [List.drop_of_length_le (l:=b) (by omega),lexB] at he
   repeat'(first|apply Sp.h|refine Lk.r rfl ?_|refine Rf.mk rfl ?_|refine xB ?_|apply Im.mk|refine xN ?_|intro _)
   exact Fin.p rfl (vb (by rw [←he];exact zF (by omega)))
def SrtX(m:ModS)(o:OpS) : Prop:=∀(k:Nat) (s:Int),o.sorts[k]?=some s→ -1≤s∧s < m.sorts.length
structure OpsX (m:ModS):Prop where
 s:∀(i:Nat) (o:OpS),m.ops[i]?=some o→SrtX m o∧o.sorts.length≤3
 l:m.ops.length≤8
 d:DisX (m.ops.map OpS.name)
def ArgI(m:ModS)(s x:Int) : Prop:=(s < 0→ -9999≤x∧x≤9999)∧(0≤s→0≤x∧∃y,m.sorts[s.toNat]?=some y∧x < y)
structure ActI (m:ModS) (i:Nat) (a:ActS):Prop where
 o:∃j:Nat,a.op=(j:Int)∧∃o,m.ops[j]?=some o∧a.args.length=o.sorts.length∧∀(k:Nat) (x s:Int),a.args[k]?=some x→o.sorts[k]?=some s→ArgI m s x
 b:∀b,0 < i→m.acts[i - 1]?=some b→b.op < a.op∨(b.op=a.op∧lexB b.args a.args=true)
 e:EffX m a.eff
structure ActX (m:ModS):Prop where
 o:OpsX m
 l:m.acts.length≤256
 a:∀(i:Nat) (a:ActS),m.acts[i]?=some a→ActI m i a
noncomputable instance (m:ModS):Decidable (ActX m):=zC _
def UpdsRg(m:ModS) : Prop:=∀a∈m.acts,UpdRg a.eff
theorem actions_e(m:ModS)(hol:m.ops.length≤1000000000)(hur:UpdsRg m) : CallP Tryz.prog 54 [mdl m] (.val (.bool (decide (ActX m)))):=by
 have hd:=distinct_e (m.ops.map OpS.name)
 refine CallA.of pg ord54 Tryz.func54 rfl Tryz.ntmps54 Tryz.results54 rfl fun h0 G0 O0=>?_
 repeat'(first|apply Sp.h|refine Lk.r rfl ?_|refine Rf.mk rfl ?_|apply All.mk|(apply Fk.r;focus repeat' first|infer_instance|constructor)|refine Rf.mk ⟨rfl,rfl,rfl⟩ ?_|intro _)
 rename_i b1 v
 apply CA.retype (m:=([]:List ByteArray)) (g:=strC)
 focus(repeat constructor)
 focus rfl
 refine CA.loop (fun x:Nat×Value=>⟨[(1,pm b1),(3, .ow x.2),(4,it x.1)],[mR b1 m,arrR x.2 9 1 ((m.ops.take x.1).map OpS.name) strC]⟩) (fun x=>x.1≤m.ops.length∧x.1≤1000000000∧∀j o,j < x.1→m.ops[j]?=some o→SrtX m o∧o.sorts.length≤3) (fun x=>m.ops.length - x.1) (0,v) xE ⟨zZ _,by simp,fun j o h=>by simp at h⟩ ?_
 rintro⟨i,v⟩ ⟨hi,hib,hso⟩
 simp only at hi hib hso
 simp only
 have hnm:((m.ops.take i).map OpS.name).length=i:=by rw [List.length_map,zN];omega
 by_cases hin:i < m.ops.length
 ·obtain⟨o,ho⟩:=get_of hin
  have hbig:i < 1000000000:=by omega
  have hns:(m.ops.take (i+1)).map OpS.name=(m.ops.take i).map OpS.name ++ [o.name]:=by rw [zK,ho,List.map_append];rfl
  generalize hgn:(m.ops.take i).map OpS.name=names at hnm hns ⊢
  repeat'(first|apply Sp.h|refine Lk.r rfl ?_|refine Rf.mk rfl ?_|refine xA ?_|refine xP ?_|apply Im.mk|apply All.mk|refine xU ?_|refine xT ?_|refine xI ?_|refine Ce.r ?_|refine Ch.l ⟨rfl,rfl⟩ ?_|(apply SetAsk.r;focus repeat' constructor)|(apply Fk.r;focus repeat' first|infer_instance|constructor)|refine xN ?_|refine Rf.mk ⟨rfl,rfl⟩ ?_|refine Rf.mk ⟨rfl,rfl,rfl⟩ ?_|(apply Mp.lit;(focus repeat(first|exact MpL.nil|(apply MpL.cons;(focus rfl))|(apply MpL.inv;(focus repeat constructor);(focus infer_instance)))))|intro _)
  rename_i b5 _ v2
  refine CA.loop (fun k:Nat=>⟨[(1,pm b1),(3, .ow v2),(4,it i),(5,pm b5),(6,it k)],[mR b1 m,arrR v2 9 1 (names ++ [o.name]) strC,blkR b5 174 (opC o)]⟩) (fun k=>k≤o.sorts.length∧∀j s,j < k→o.sorts[j]?=some s→ -1≤s∧s < m.sorts.length) (fun k=>o.sorts.length - k) 0 xE ⟨zZ _,fun j s h=>by omega⟩ ?_
  rintro k ⟨hk,hks⟩
  by_cases hkn:k < o.sorts.length
  ·obtain⟨s,hs⟩:=get_of hkn
   repeat'(first|apply Sp.h|refine Lk.r rfl ?_|refine Rf.mk rfl ?_|refine xA ?_|refine xB ?_|apply Bd.mk|refine OpK.r rfl ?_|apply Im.mk|refine xT ?_|refine xI ?_|refine xN ?_|refine xD ?_|refine xO ?_|intro _)
   all_goals first
    | exact Fin.p rfl (vb (zF fun h:ActX m=>by have:=(h.o.s i o ho).1 k s hs;omega).symm)
    | exact PA.lp (k+1) xE ⟨⟨hkn,alli_succ hs hks ⟨by omega,by omega⟩⟩,by omega⟩
  ·have:k=o.sorts.length:=by omega
   subst this
   have hks:=alli_all hks
   repeat'(first|apply Sp.h|refine Lk.r rfl ?_|refine Rf.mk rfl ?_|refine xB ?_|apply Bd.mk|apply Im.mk|refine xT ?_|refine xN ?_|refine xO ?_|intro _)
   ·exact Fin.p rfl (vb (zF fun h:ActX m=>by have:=(h.o.s i o ho).2;omega).symm)
   ·refine PA.lp (i+1,v2) ?_ ⟨⟨hin,by simp only;omega,alli_succ ho hso ⟨hks,by omega⟩⟩,by simp only;omega⟩
    simp only
    rw [hns]
    exact xE
 have hie:i=m.ops.length:=by omega
 subst hie
 have hso:=alli_all hso
 rw [zL]
 rw [zL] at hnm
 by_cases hl8:m.ops.length≤8
 rotate_left
 ·generalize m.ops.map OpS.name=names at hd ⊢
  repeat'(first|apply Sp.h|refine Lk.r rfl ?_|refine Rf.mk rfl ?_|refine xA ?_|refine xB ?_|apply Im.mk|refine xT ?_|refine xN ?_|intro _)
  exact Fin.p rfl (vb (zF fun h:ActX m=>hl8 h.o.l).symm)
 by_cases hdx:DisX (m.ops.map OpS.name)
 rotate_left
 ·have hno:¬ActX m:=fun h=>hdx h.o.d
  generalize m.ops.map OpS.name=names at hd hnm hdx ⊢
  repeat'(first|apply Sp.h|refine Lk.r rfl ?_|refine Rf.mk rfl ?_|refine xB ?_|apply Im.mk|refine xT ?_|intro _)
  (apply Cl.fz;(focus repeat'(first|exact FZ.nil|(apply FZ.fz;(focus repeat constructor);(focus first|omega|decide|exact zB rfl|(simp <;> omega)))|apply FZ.agg|apply FZ.same)))
  refine xQ (hd) ?_
  repeat'(first|apply Sp.h|refine Lk.r rfl ?_|refine Rf.mk rfl ?_|refine xB ?_|refine xN ?_|fail)
  exact Fin.p rfl (vb (zF hno).symm)
 have hops:OpsX m:=⟨hso,hl8,hdx⟩
 generalize m.ops.map OpS.name=names at hd hnm hdx ⊢
 repeat'(first|apply Sp.h|refine Lk.r rfl ?_|refine Rf.mk rfl ?_|refine xB ?_|apply Im.mk|refine xT ?_|intro _)
 (apply Cl.fz;(focus repeat'(first|exact FZ.nil|(apply FZ.fz;(focus repeat constructor);(focus first|omega|decide|exact zB rfl|(simp <;> omega)))|apply FZ.agg|apply FZ.same)))
 refine xQ (hd) ?_
 by_cases hal:m.acts.length≤256
 rotate_left
 ·repeat'(first|apply Sp.h|refine Lk.r rfl ?_|refine Rf.mk rfl ?_|refine xA ?_|refine xB ?_|apply Im.mk|refine xT ?_|refine xN ?_|intro _)
  exact Fin.p rfl (vb (zF fun h:ActX m=>hal h.l).symm)
 repeat'(first|apply Sp.h|refine Lk.r rfl ?_|refine Rf.mk rfl ?_|refine xA ?_|refine xB ?_|apply Im.mk|refine xT ?_|intro _)
 refine CA.loop (fun i:Nat=>⟨[(1,pm b1),(7,it i)],[mR b1 m]⟩) (fun i=>i≤m.acts.length∧∀j a,j < i→m.acts[j]?=some a→ActI m j a) (fun i=>m.acts.length - i) 0 xE ⟨zZ _,fun j a h=>by omega⟩ ?_
 rintro i ⟨hi,hai⟩
 by_cases hin:i < m.acts.length
 ·obtain⟨a,ha⟩:=get_of hin
  have hno:¬ActI m i a→¬ActX m:=fun h h2=>h (h2.a i a ha)
  by_cases hb:0≤a.op∧a.op < m.ops.length
  rotate_left
  ·have hno:=hno fun h=>hb (by obtain⟨j,h1,o,h2,-⟩:=h.o;have:=(zS.1 h2).1;omega)
   repeat'(first|apply Sp.h|refine Lk.r rfl ?_|refine Rf.mk rfl ?_|refine xA ?_|refine xB ?_|apply Bd.mk|refine OpK.r rfl ?_|apply Im.mk|apply All.mk|refine xT ?_|refine xI ?_|refine Ch.l ⟨rfl,rfl⟩ ?_|(apply SetAsk.r;focus repeat' constructor)|refine xN ?_|refine xD ?_|intro _)
   all_goals first
    | exact Fin.p rfl (vb (zF hno).symm)
    | exact(hb ⟨by omega,by omega⟩).elim
  obtain⟨j,hj⟩:=Int.eq_ofNat_of_zero_le hb.1
  obtain⟨o,ho⟩:=get_of (l:=m.ops) (i:=j) (by omega)
  have hos:=(hso j o ho).1
  have hj0:0≤a.op:=hb.1
  have hj1:a.op < m.ops.length:=hb.2
  clear hb
  have hao:ActI m i a→a.args.length=o.sorts.length∧∀(k:Nat) (x s:Int),a.args[k]?=some x→o.sorts[k]?=some s→ArgI m s x:=by
   intro h
   obtain⟨j',h1,o',h2,h3⟩:=h.o
   obtain rfl:j=j':=by omega
   rw [ho] at h2;cases h2
   exact h3
  by_cases hlen:a.args.length=o.sorts.length
  rotate_left
  ·have hno:=hno fun h=>hlen (hao h).1
   repeat'(first|apply Sp.h|refine Lk.r rfl ?_|refine Rf.mk rfl ?_|refine xA ?_|refine xB ?_|refine OpK.r rfl ?_|apply Im.mk|apply All.mk|refine xT ?_|refine xI ?_|(apply Ix.r;(focus assumption);(focus omega))|refine Ch.l ⟨rfl,rfl⟩ ?_|(apply SetAsk.r;focus repeat' constructor)|refine xN ?_|refine xD ?_|intro _)
   all_goals exact Fin.p rfl (vb (zF hno).symm)
  repeat'(first|apply Sp.h|refine Lk.r rfl ?_|refine Rf.mk rfl ?_|refine xA ?_|refine xB ?_|refine OpK.r rfl ?_|apply Im.mk|apply All.mk|refine xT ?_|refine xI ?_|(apply Ix.r;(focus assumption);(focus omega))|refine Ch.l ⟨rfl,rfl⟩ ?_|(apply SetAsk.r;focus repeat' constructor)|refine xN ?_|refine xD ?_|intro _)
  rename_i b8 _ _ _
  refine CA.loop (fun k:Nat=>⟨[(1,pm b1),(7,it i),(8,pm b8),(9,it k)],[mR b1 m,blkR b8 142 (actC a)]⟩) (fun k=>k≤a.args.length∧∀q x,q < k→a.args[q]?=some x→∀s,o.sorts[q]?=some s→ArgI m s x) (fun k=>a.args.length - k) 0 xE ⟨zZ _,fun q x h=>by omega⟩ ?_
  rintro k ⟨hk,hka⟩
  by_cases hkn:k < a.args.length
  ·obtain⟨x,hx⟩:=get_of hkn
   obtain⟨s,hs⟩:=get_of (l:=o.sorts) (i:=k) (by omega)
   obtain⟨hs1,hs2⟩:=hos k s hs
   have hbw:=between13_p x 9999 (by omega)
   by_cases hA:ArgI m s x
   ·have hgo:=alli_succ hx hka fun s' h=>by rw [hs] at h;cases h;exact hA
    by_cases hs0:s < 0
    ·have hA1:=hA.1 hs0
     repeat'(first|apply Sp.h|refine Lk.r rfl ?_|refine Rf.mk rfl ?_|refine xA ?_|refine xB ?_|refine OpK.r rfl ?_|refine Im.mk fun _=>?_|refine xT ?_|refine xI ?_|(apply Ix.r;(focus assumption);(focus omega))|refine xD ?_|refine xO ?_|(apply Cl.p (hbw);focus repeat' constructor))
     all_goals first
      | exact PA.lp (k+1) xE ⟨⟨hkn,hgo⟩,by omega⟩
      | exact absurd hA1 (by assumption)
    ·obtain⟨hA1,y,hy,hA2⟩:=hA.2 (by omega)
     obtain⟨q,rfl⟩:=Int.eq_ofNat_of_zero_le (show 0≤s by omega)
     rw [Int.toNat_natCast] at hy
     repeat'(first|apply Sp.h|refine Lk.r rfl ?_|refine Rf.mk rfl ?_|refine xA ?_|refine xB ?_|refine OpK.r rfl ?_|refine Im.mk fun _=>?_|refine xT ?_|refine xI ?_|(apply Ix.r;(focus assumption);(focus omega))|refine xD ?_|refine xO ?_|(apply Cl.p (hbw);(focus repeat'(first|fail))))
     all_goals first
      | exact PA.lp (k+1) xE ⟨⟨hkn,hgo⟩,by omega⟩
      | exact(by omega:False).elim
   ·have hno:=hno fun h=>hA ((hao h).2 k x s hx hs)
    by_cases hs0:s < 0
    ·repeat'(first|apply Sp.h|refine Lk.r rfl ?_|refine Rf.mk rfl ?_|refine xA ?_|refine xB ?_|(refine Bd.mk ?_ ?_ <;> intro _)|refine OpK.r rfl ?_|refine Im.mk fun _=>?_|refine xT ?_|refine xI ?_|(apply Ix.r;(focus assumption);(focus omega))|refine xN ?_|refine xD ?_|refine xO ?_|(apply Cl.p (hbw);focus repeat' constructor))
     all_goals first
      | exact Fin.p rfl (vb (zF hno).symm)
      | exact(hA ⟨fun _=>by assumption,fun h=>by omega⟩).elim
    ·obtain⟨q,rfl⟩:=Int.eq_ofNat_of_zero_le (show 0≤s by omega)
     obtain⟨y,hy⟩:=get_of (l:=m.sorts) (i:=q) (by omega)
     repeat'(first|apply Sp.h|refine Lk.r rfl ?_|refine Rf.mk rfl ?_|refine xA ?_|refine xB ?_|(refine Bd.mk ?_ ?_ <;> intro _)|refine OpK.r rfl ?_|refine Im.mk fun _=>?_|refine xT ?_|refine xI ?_|(apply Ix.r;(focus assumption);(focus omega))|refine xN ?_|refine xD ?_|refine xO ?_|(apply Cl.p (hbw);(focus repeat'(first|fail))))
     all_goals first
      | exact Fin.p rfl (vb (zF hno).symm)
      | exact(hA ⟨fun h=>by omega,fun _=>⟨by omega,y,by rw [Int.toNat_natCast];exact hy,by omega⟩⟩).elim
  ·have hke:k=a.args.length:=by omega
   subst hke
   have hka:=alli_all hka
   have hef:=effect_e m a.eff (hur a (zM ha))
   have hyes:(∀b,0 < i→m.acts[i - 1]?=some b→b.op < a.op∨(b.op=a.op∧lexB b.args a.args=true))→EffX m a.eff→ActI m i a:=fun h1 h2=>⟨⟨j,hj,o,ho,hlen,fun k x s h3 h4=>hka k x h3 s h4⟩,h1,h2⟩
   rcases Nat.eq_zero_or_pos i with h0|h0
   ·subst h0
    by_cases hE:EffX m a.eff
    ·have hgo:=alli_succ ha hai (hyes (fun b h=>by omega) hE)
     repeat'(first|apply Sp.h|refine Lk.r rfl ?_|refine Rf.mk rfl ?_|refine xA ?_|refine xB ?_|refine Im.mk fun _=>?_|refine xT ?_|refine Ch.l ⟨rfl,rfl⟩ ?_|refine Ch.r ?_|refine xO ?_|(apply Cl.p (hef);focus repeat' constructor))
     exact PA.lp 1 xE ⟨⟨hin,hgo⟩,by omega⟩
    ·have hno:=hno fun h=>hE h.e
     repeat'(first|apply Sp.h|refine Lk.r rfl ?_|refine Rf.mk rfl ?_|refine xB ?_|refine Im.mk fun _=>?_|refine xT ?_|refine Ch.l ⟨rfl,rfl⟩ ?_|refine Ch.r ?_|refine xN ?_|(apply Cl.p (hef);focus repeat' constructor))
     exact Fin.p rfl (vb (zF hno).symm)
   ·obtain⟨q,rfl⟩:∃q,i=q+1:=⟨i - 1,by omega⟩
    obtain⟨b,hbb⟩:=get_of (l:=m.acts) (i:=q) (by omega)
    have hls:=less_e b.args a.args
    by_cases hL:b.op < a.op∨(b.op=a.op∧lexB b.args a.args=true)
    ·by_cases hE:EffX m a.eff
     ·have hgo:=alli_succ ha hai (hyes (fun b' _ h=>by rw [show q+1 - 1=q by omega,hbb] at h;cases h;exact hL) hE)
      rcases hL with hL|⟨hL1,hL2⟩
      ·repeat'(first|apply Sp.h|refine Lk.r rfl ?_|refine Rf.mk rfl ?_|refine xA ?_|refine xB ?_|refine Im.mk fun _=>?_|refine All.mk fun _=>?_|refine xT ?_|(apply Ix.r;(focus assumption);(focus omega))|refine Ch.l ⟨rfl,rfl⟩ ?_|refine Ch.r ?_|(apply SetAsk.r;focus repeat' constructor)|refine xN ?_|refine xO ?_|(apply Cl.p (hls);focus repeat' constructor)|(apply Cl.p (hef);focus repeat' constructor))
       all_goals first
        | exact PA.lp (q+1+1) xE ⟨⟨hin,hgo⟩,by omega⟩
        | exact(by omega:False).elim
      ·rw [hL2] at hls
       repeat'(first|apply Sp.h|refine Lk.r rfl ?_|refine Rf.mk rfl ?_|refine xA ?_|refine xB ?_|refine Im.mk fun _=>?_|refine All.mk fun _=>?_|refine xT ?_|(apply Ix.r;(focus assumption);(focus omega))|refine Ch.l ⟨rfl,rfl⟩ ?_|refine Ch.r ?_|(apply SetAsk.r;focus repeat' constructor)|refine xN ?_|refine xO ?_|(apply Cl.p (hls);focus repeat' constructor)|(apply Cl.p (hef);focus repeat' constructor))
       all_goals first
        | exact PA.lp (q+1+1) xE ⟨⟨hin,hgo⟩,by omega⟩
        | exact(by omega:False).elim
     ·have hno:=hno fun h=>hE h.e
      rcases hL with hL|⟨hL1,hL2⟩
      ·repeat'(first|apply Sp.h|refine Lk.r rfl ?_|refine Rf.mk rfl ?_|refine xA ?_|refine xB ?_|refine Im.mk fun _=>?_|refine All.mk fun _=>?_|refine xT ?_|(apply Ix.r;(focus assumption);(focus omega))|refine Ch.l ⟨rfl,rfl⟩ ?_|refine Ch.r ?_|(apply SetAsk.r;focus repeat' constructor)|refine xN ?_|refine xO ?_|(apply Cl.p (hls);focus repeat' constructor)|(apply Cl.p (hef);focus repeat' constructor))
       all_goals first
        | exact Fin.p rfl (vb (zF hno).symm)
        | exact(by omega:False).elim
      ·rw [hL2] at hls
       repeat'(first|apply Sp.h|refine Lk.r rfl ?_|refine Rf.mk rfl ?_|refine xA ?_|refine xB ?_|refine Im.mk fun _=>?_|refine All.mk fun _=>?_|refine xT ?_|(apply Ix.r;(focus assumption);(focus omega))|refine Ch.l ⟨rfl,rfl⟩ ?_|refine Ch.r ?_|(apply SetAsk.r;focus repeat' constructor)|refine xN ?_|refine xO ?_|(apply Cl.p (hls);focus repeat' constructor)|(apply Cl.p (hef);focus repeat' constructor))
       all_goals first
        | exact Fin.p rfl (vb (zF hno).symm)
        | exact(by omega:False).elim
    ·have hno:=hno fun h=>hL (h.b b h0 (by rw [show q+1 - 1=q by omega];exact hbb))
     cases hlx:lexB b.args a.args
     ·rw [hlx] at hls
      repeat'(first|apply Sp.h|refine Lk.r rfl ?_|refine Rf.mk rfl ?_|refine xA ?_|refine xB ?_|(refine Bd.mk ?_ ?_ <;> intro _)|refine Im.mk fun _=>?_|refine All.mk fun _=>?_|refine xT ?_|(apply Ix.r;(focus assumption);(focus omega))|refine Ch.l ⟨rfl,rfl⟩ ?_|(apply SetAsk.r;focus repeat' constructor)|refine xN ?_|refine xO ?_|(apply Cl.p (hls);focus repeat' constructor)|(apply Cl.p (hef);focus repeat' constructor))
      all_goals first
       | exact Fin.p rfl (vb (zF hno).symm)
       | exact(hL (.inl (by omega))).elim
     ·rw [hlx] at hls
      repeat'(first|apply Sp.h|refine Lk.r rfl ?_|refine Rf.mk rfl ?_|refine xA ?_|refine xB ?_|(refine Bd.mk ?_ ?_ <;> intro _)|refine Im.mk fun _=>?_|refine All.mk fun _=>?_|refine xT ?_|(apply Ix.r;(focus assumption);(focus omega))|refine Ch.l ⟨rfl,rfl⟩ ?_|refine Ch.r ?_|(apply SetAsk.r;focus repeat' constructor)|refine xN ?_|refine xO ?_|(apply Cl.p (hls);focus repeat' constructor)|(apply Cl.p (hef);focus repeat' constructor))
      all_goals first
       | exact Fin.p rfl (vb (zF hno).symm)
       | exact(hL (.inl (by omega))).elim
       | exact(hL (.inr ⟨by omega,hlx⟩)).elim
 ·have:i=m.acts.length:=by omega
  subst this
  repeat'(first|apply Sp.h|refine Lk.r rfl ?_|refine Rf.mk rfl ?_|refine xB ?_|apply Im.mk|refine xT ?_|refine xN ?_|intro _)
  exact Fin.p rfl (vb (zT (show ActX m from⟨hops,hal,alli_all hai⟩)).symm)
noncomputable instance (m:ModS):Decidable (OpsX m):=zC _
theorem ops1_p(m:ModS)(R:List (Int×Int))(x:Int) : CallP Tryz.prog 186 [it x, .ad (jdgC m R) 0] (.val (.bool (!decide (-1≤x∧x < m.sorts.length)))):=by
 refine CallA.of pg ordZ Tryz.func186 rfl Tryz.ntmps186 Tryz.results186 rfl fun h0 G0 O0=>?_
 repeat'(first|apply Sp.h|refine Lk.r rfl ?_|refine Rf.mk rfl ?_|refine xA ?_|refine xB ?_|apply Bd.mk|apply Im.mk|refine xN ?_|intro _)
 all_goals
  refine Fin.p rfl (vb ?_)
  by_cases hc: -1≤x∧x < m.sorts.length
  ·rw [zT hc]
   first
    | exact zF (by omega)
    | (exfalso;omega)
  ·rw [zF hc]
   first
    | exact zT (by omega)
    | rfl
    | (exfalso;omega)
theorem moperations_g(m:ModS)(R:List (Int×Int))(hol:m.ops.length≤1000000000) : CallGP Tryz.prog 129 [.agg (jdgC m R)] (.val (.bool (decide (OpsX m)))):=by
 have hd:=mdistinct_g (m.ops.map OpS.name)
 refine CallG.of pg ordZ Tryz.func129 rfl Tryz.ntmps129 Tryz.results129 rfl fun h0 G0 O0 ga=>?_
 (repeat'(first|(show CA _ _ (Code.region 1 _ _) _ _;apply Stopped.out)|apply Sp.h|refine Lk.r rfl ?_|refine Rf.mk rfl ?_|apply All.mk|intro _));any_goals apply Stopped.mk
 refine CA.freezeB 1 rfl (by repeat constructor) ?_
 repeat'(first|apply Sp.h|refine Lk.r rfl ?_|refine Rf.mk rfl ?_|apply Im.mk|intro _)
 refine CA.nilOwn 3 9 1 strC rfl fun v=>?_
 refine CA.loop (fun x:Nat×Value=>⟨[(1, .ad (jdgC m R) 0),(3, .ow x.2),(8, .sl 3 m.ops opC),(9,it (m.ops.length:Nat)),(10,it x.1)],[arrR x.2 9 1 ((m.ops.take x.1).map OpS.name) strC]⟩) (fun x=>x.1≤m.ops.length∧∀j o,j < x.1→m.ops[j]?=some o→SrtX m o∧o.sorts.length≤3) (fun x=>m.ops.length - x.1) (0,v) xE ⟨zZ _,fun j o h=>by simp at h⟩ ?_
 rintro⟨i,v⟩ ⟨hi,hso⟩
 simp only at hi hso
 simp only
 have hnm:((m.ops.take i).map OpS.name).length=i:=by rw [List.length_map,zN];omega
 by_cases hin:i < m.ops.length
 ·obtain⟨o,ho⟩:=get_of hin
  have hns:(m.ops.take (i+1)).map OpS.name=(m.ops.take i).map OpS.name ++ [o.name]:=by rw [zK,ho,List.map_append];rfl
  generalize hgn:(m.ops.take i).map OpS.name=names at hnm hns ⊢
  have hco:=containsI_c (ops1_p m R) rfl o.sorts
  have hq:¬idxN (fun x:Int=> !decide (-1≤x∧x < m.sorts.length)) o.sorts < o.sorts.length↔SrtX m o:=by
   rw [idxB_lt]
   constructor
   ·intro h k s hs
    exact Classical.byContradiction fun h9=>h ⟨s,zM hs,by rw [zF h9];rfl⟩
   ·rintro h ⟨x,hx,h9⟩
    obtain⟨k,hk⟩:=zO hx
    rw [zT (h k x hk)] at h9
    cases h9
  repeat'(first|apply Sp.h|refine Lk.r rfl ?_|refine Rf.mk rfl ?_|refine xA ?_|refine xB ?_|(refine Bd.mk ?_ ?_ <;> intro _)|refine xP ?_|refine Im.mk fun _=>?_|refine All.mk fun _=>?_|refine xU ?_|refine xT ?_|refine xI ?_|refine Ce.r ?_|refine Ch.l ⟨rfl,rfl⟩ ?_|(apply SetAsk.r;focus repeat' constructor)|(apply Fk.r;focus repeat' first|infer_instance|constructor)|refine xN ?_|refine Rf.mk ⟨rfl,rfl⟩ ?_|refine Rf.mk ⟨rfl,rfl,rfl⟩ ?_|(apply Mp.lit;(focus repeat(first|exact MpL.nil|(apply MpL.cons;(focus rfl))|(apply MpL.inv;(focus repeat constructor);(focus infer_instance)))))|refine xO ?_|(apply Cl.p (hco);focus repeat' constructor))
  ·exact Fin.p rfl (vb (zF fun h:OpsX m=>by have:=(h.s i o ho).2;omega).symm)
  ·exact Fin.p rfl (vb (zF fun h:OpsX m=>absurd (by assumption) (hq.2 (h.s i o ho).1)).symm)
  ·rename_i v2 _ h3 h4
   refine PA.lp (i+1,v2) ?_ ⟨⟨hin,alli_succ ho hso ⟨hq.1 h4,by omega⟩⟩,by simp only;omega⟩
   simp only
   rw [hns]
   exact xE
 have hie:i=m.ops.length:=by omega
 subst hie
 have hso:=alli_all hso
 rw [zL]
 rw [zL] at hnm
 by_cases hl8:m.ops.length≤8
 ·have hiff:OpsX m↔DisX (m.ops.map OpS.name):=⟨fun h=>h.d,fun h=>⟨hso,hl8,h⟩⟩
  generalize m.ops.map OpS.name=names at hd hnm hiff ⊢
  repeat'(first|apply Sp.h|refine Lk.r rfl ?_|refine Rf.mk rfl ?_|refine xA ?_|refine xB ?_|refine xU ?_|refine xN ?_|(apply Cl.lendG (hd);(focus exact ga);(focus((repeat'(first|exact Lend.nil|(apply Lend.lend;(focus repeat constructor);(focus first|omega|(simp;omega)))|fail));done))))
  all_goals first
   | exact Fin.p rfl (vb (zD.2 hiff.symm))
   | (exfalso;omega)
 ·have hno:¬OpsX m:=fun h=>hl8 h.l
  generalize m.ops.map OpS.name=names at hd hnm ⊢
  repeat'(first|apply Sp.h|refine Lk.r rfl ?_|refine Rf.mk rfl ?_|refine xB ?_|refine xU ?_|refine xN ?_|(apply Cl.lendG (hd);(focus exact ga);(focus((repeat'(first|fail));done))))
  all_goals first
   | exact Fin.p rfl (vb (zF hno).symm)
   | (exfalso;omega)
def UpdG(m:ModS)(u:Int×Int×Int) : Prop:=∃ti q t,tupF m.sorts m.tables false u.2.1=some (ti,q)∧m.tables[ti]?=some t∧UpdT t u.1 u.2.2
noncomputable instance (m:ModS) (u:Int×Int×Int):Decidable (UpdG m u):=zC _
theorem mupdate_g(m:ModS)(R:List (Int×Int))(u:Int×Int×Int)(hu:u.2.1≤9223372036854775807) : CallGP Tryz.prog 227 [.agg (jdgC m R), .agg (updC u)] (.val (.bool (decide (UpdG m u)))):=by
 have ht:=ctuple_g m.sorts m.tables false u.2.1 hu
 have hdef:UpdG m u↔∃ti q t,tupF m.sorts m.tables false u.2.1=some (ti,q)∧m.tables[ti]?=some t∧UpdT t u.1 u.2.2:=Iff.rfl
 have hlt:=@tupF_lt m.sorts m.tables false u.2.1
 obtain⟨k,ce,v⟩:=u
 simp only at ht hdef hlt
 generalize tupF m.sorts m.tables false ce=tf at ht hdef hlt
 refine CallG.of pg ordZ Tryz.func227 rfl Tryz.ntmps227 Tryz.results227 rfl fun h0 G0 O0 ga=>?_
 cases tf with
 | none =>
  have hno:¬UpdG m (k,ce,v):=fun h=>by obtain⟨_,_,_,h1,-⟩:=hdef.1 h;cases h1
  unfold tupA at ht
  repeat'(first|apply Sp.h|refine Lk.r rfl ?_|refine Rf.mk rfl ?_|refine xA ?_|refine xB ?_|(refine Bd.mk ?_ ?_ <;> intro _)|refine OpK.r rfl ?_|refine xP ?_|refine Im.mk fun _=>?_|refine All.mk fun _=>?_|refine xU ?_|refine xT ?_|refine xI ?_|(apply Ix.r;(focus assumption);(focus omega))|refine xJ ?_|refine Ce.l rfl ?_|refine Ce.r ?_|refine Ch.l ⟨rfl,rfl⟩ ?_|refine Ch.r ?_|refine xV ?_|(apply SetAsk.r;focus repeat' constructor)|(apply Fk.r;focus repeat' first|infer_instance|constructor)|refine xN ?_|refine Rf.mk ⟨rfl,rfl⟩ ?_|refine Rf.mk ⟨rfl,rfl,rfl⟩ ?_|(apply Jx.r;(focus exact rfl);(focus first|omega|(simp;done)|(simp;omega)))|refine Up.r rfl ?_|(apply Up.inv;(focus repeat constructor);(focus infer_instance))|refine xK ?_|(apply Kf.mk;(focus kernel_rfl))|refine xM ?_|refine UpV.r rfl ?_|(apply Zx.agg;(focus rfl);(focus rfl);(focus repeat constructor))|(apply Zx.b;(focus rfl))|(apply Zx.i;(focus rfl))|apply Zx.one|(apply LkM.s;(focus first|assumption|rfl))|(apply LkM.n;(focus first|assumption|rfl))|(apply Rf.mk;(focus assumption))|refine MkS.r intC 0 rfl ?_|refine Mp.same ?_|(apply Mp.lit;(focus repeat(first|exact MpL.nil|(apply MpL.cons;(focus rfl))|(apply MpL.inv;(focus repeat constructor);(focus infer_instance)))))|refine xD ?_|exact trivial|(apply Lk.r;(focus assumption))|(apply Sx.r;(focus exact rfl);(focus first|omega|(simp;omega)))|(apply CA.drawF;(focus rfl);(focus kernel_rfl);(focus kernel_rfl);(focus repeat' constructor);(focus rfl);intro _n0 _hlt)|(apply NfK.nr;(focus rfl))|(apply NfK.lt;(focus first|assumption|omega|(apply _hlt;repeat constructor)))|(apply NfV.nr;(focus rfl))|apply RA'.both|refine xO ?_|(apply CpS.part;(focus(repeat constructor;done)))|(apply CpS.all;(focus(repeat constructor;done)))|(apply TkX.r;(focus repeat constructor))|(apply ExX.short;(focus rfl);(focus first|omega|(simp <;> omega));(focus first|omega|(simp <;> omega)))|(apply ExX.long;(focus rfl);(focus first|omega|(simp <;> omega));(focus first|omega|(simp <;> omega)))|(apply Ovl.mk';(focus repeat constructor);(focus repeat constructor);(focus decide))|(apply Cvk.i64;(focus rfl);(focus omega))|(apply Cvk.u64;(focus rfl);(focus omega))|(apply Cvk.u8;(focus rfl);(focus omega))|refine Rf.mk ⟨rfl,by decide⟩ ?_|(apply Rf.mk;(focus exact⟨by decide,rfl⟩))|(apply Sx.r;(focus assumption);(focus first|omega|(simp;omega)))|(apply Ix.q;(focus assumption);(focus assumption))|(apply TkJ.r;(focus repeat constructor))|(apply TkE.r;(focus repeat constructor))|(apply NxK.mk)|(apply Ix.q;(focus assumption);(focus assumption))|(apply TkS.r;(focus repeat constructor))|(apply Ix.q;(focus assumption);(focus assumption))|(apply Cl.pG (ht);(focus exact ga);(focus((repeat'(first|exact Lend.nil|apply Lend.keep|apply Lend.nils|(apply Lend.mp;(focus rfl))|(apply Lend.lend;(focus repeat constructor);(focus first|omega|(simp;omega)))|(apply Lend.lendm;(focus repeat constructor);(focus rfl);(focus first|omega|decide|(simp;omega)|exact zB rfl))|(apply Lend.cell;(focus repeat constructor))|refine Lend.fn ?_ ?_|apply Lend.agg));done))))
  all_goals exact Fin.p rfl (vb (zF hno).symm)
 | some r =>
  obtain⟨ti,q⟩:=r
  obtain⟨t,hti⟩:=hlt rfl
  have hiff:UpdG m (k,ce,v)↔UpdT t k v:=by
   rw [hdef]
   constructor
   ·rintro⟨ti',q',t',h1,h2,h3⟩
    cases h1
    rw [hti] at h2
    cases h2
    exact h3
   ·exact fun h=>⟨ti,q,t,rfl,hti,h⟩
  have hU:UpdT t k v↔(t.kind=2∨t.kind=3→(k=0∨k=1)∧v=0)∧(¬(t.kind=2∨t.kind=3)→k=2∧t.lo≤v∧v≤t.hi):=Iff.rfl
  unfold tupA at ht
  by_cases hs:t.kind=2∨t.kind=3
  ·have hUU:UpdG m (k,ce,v)↔(k=0∨k=1)∧v=0:=hiff.trans (hU.trans ⟨fun h=>h.1 hs,fun h=>⟨fun _=>h,fun h9=>absurd hs h9⟩⟩)
   repeat'(first|apply Sp.h|refine Lk.r rfl ?_|refine Rf.mk rfl ?_|refine xA ?_|refine xB ?_|(refine Bd.mk ?_ ?_ <;> intro _)|refine OpK.r rfl ?_|refine xP ?_|refine Im.mk fun _=>?_|refine All.mk fun _=>?_|refine xU ?_|refine xT ?_|refine xI ?_|(apply Ix.r;(focus assumption);(focus omega))|refine xJ ?_|refine Ce.l rfl ?_|refine Ce.r ?_|refine Ch.l ⟨rfl,rfl⟩ ?_|refine Ch.r ?_|refine xV ?_|(apply SetAsk.r;focus repeat' constructor)|(apply Fk.r;focus repeat' first|infer_instance|constructor)|refine xN ?_|refine Rf.mk ⟨rfl,rfl⟩ ?_|refine Rf.mk ⟨rfl,rfl,rfl⟩ ?_|(apply Jx.r;(focus exact rfl);(focus first|omega|(simp;done)|(simp;omega)))|refine Up.r rfl ?_|(apply Up.inv;(focus repeat constructor);(focus infer_instance))|refine xK ?_|(apply Kf.mk;(focus kernel_rfl))|refine xM ?_|refine UpV.r rfl ?_|(apply Zx.agg;(focus rfl);(focus rfl);(focus repeat constructor))|(apply Zx.b;(focus rfl))|(apply Zx.i;(focus rfl))|apply Zx.one|(apply LkM.s;(focus first|assumption|rfl))|(apply LkM.n;(focus first|assumption|rfl))|(apply Rf.mk;(focus assumption))|refine MkS.r intC 0 rfl ?_|refine Mp.same ?_|(apply Mp.lit;(focus repeat(first|exact MpL.nil|(apply MpL.cons;(focus rfl))|(apply MpL.inv;(focus repeat constructor);(focus infer_instance)))))|refine xD ?_|exact trivial|(apply Lk.r;(focus assumption))|(apply Sx.r;(focus exact rfl);(focus first|omega|(simp;omega)))|(apply CA.drawF;(focus rfl);(focus kernel_rfl);(focus kernel_rfl);(focus repeat' constructor);(focus rfl);intro _n0 _hlt)|(apply NfK.nr;(focus rfl))|(apply NfK.lt;(focus first|assumption|omega|(apply _hlt;repeat constructor)))|(apply NfV.nr;(focus rfl))|apply RA'.both|refine xO ?_|(apply CpS.part;(focus(repeat constructor;done)))|(apply CpS.all;(focus(repeat constructor;done)))|(apply TkX.r;(focus repeat constructor))|(apply ExX.short;(focus rfl);(focus first|omega|(simp <;> omega));(focus first|omega|(simp <;> omega)))|(apply ExX.long;(focus rfl);(focus first|omega|(simp <;> omega));(focus first|omega|(simp <;> omega)))|(apply Ovl.mk';(focus repeat constructor);(focus repeat constructor);(focus decide))|(apply Cvk.i64;(focus rfl);(focus omega))|(apply Cvk.u64;(focus rfl);(focus omega))|(apply Cvk.u8;(focus rfl);(focus omega))|refine Rf.mk ⟨rfl,by decide⟩ ?_|(apply Rf.mk;(focus exact⟨by decide,rfl⟩))|(apply Sx.r;(focus assumption);(focus first|omega|(simp;omega)))|(apply Ix.q;(focus assumption);(focus assumption))|(apply TkJ.r;(focus repeat constructor))|(apply TkE.r;(focus repeat constructor))|(apply NxK.mk)|(apply Ix.q;(focus assumption);(focus assumption))|(apply TkS.r;(focus repeat constructor))|(apply Ix.q;(focus assumption);(focus assumption))|(apply Cl.pG (ht);(focus exact ga);(focus((repeat'(first|exact Lend.nil|apply Lend.keep|apply Lend.nils|(apply Lend.mp;(focus rfl))|(apply Lend.lend;(focus repeat constructor);(focus first|omega|(simp;omega)))|(apply Lend.lendm;(focus repeat constructor);(focus rfl);(focus first|omega|decide|(simp;omega)|exact zB rfl))|(apply Lend.cell;(focus repeat constructor))|refine Lend.fn ?_ ?_|apply Lend.agg));done))))
   all_goals first
    | (exfalso;omega)
    | exact Fin.p rfl (vb (by first|exact zD.2 (by rw [hUU];omega)|exact(zT (hUU.2 (by omega))).symm|exact(zF (fun h=>by have:=hUU.1 h;omega)).symm))
  ·have hUU:UpdG m (k,ce,v)↔k=2∧t.lo≤v∧v≤t.hi:=hiff.trans (hU.trans ⟨fun h=>h.2 hs,fun h=>⟨fun h9=>absurd h9 hs,fun _=>h⟩⟩)
   repeat'(first|apply Sp.h|refine Lk.r rfl ?_|refine Rf.mk rfl ?_|refine xA ?_|refine xB ?_|(refine Bd.mk ?_ ?_ <;> intro _)|refine OpK.r rfl ?_|refine xP ?_|refine Im.mk fun _=>?_|refine All.mk fun _=>?_|refine xU ?_|refine xT ?_|refine xI ?_|(apply Ix.r;(focus assumption);(focus omega))|refine xJ ?_|refine Ce.l rfl ?_|refine Ce.r ?_|refine Ch.l ⟨rfl,rfl⟩ ?_|refine Ch.r ?_|refine xV ?_|(apply SetAsk.r;focus repeat' constructor)|(apply Fk.r;focus repeat' first|infer_instance|constructor)|refine xN ?_|refine Rf.mk ⟨rfl,rfl⟩ ?_|refine Rf.mk ⟨rfl,rfl,rfl⟩ ?_|(apply Jx.r;(focus exact rfl);(focus first|omega|(simp;done)|(simp;omega)))|refine Up.r rfl ?_|(apply Up.inv;(focus repeat constructor);(focus infer_instance))|refine xK ?_|(apply Kf.mk;(focus kernel_rfl))|refine xM ?_|refine UpV.r rfl ?_|(apply Zx.agg;(focus rfl);(focus rfl);(focus repeat constructor))|(apply Zx.b;(focus rfl))|(apply Zx.i;(focus rfl))|apply Zx.one|(apply LkM.s;(focus first|assumption|rfl))|(apply LkM.n;(focus first|assumption|rfl))|(apply Rf.mk;(focus assumption))|refine MkS.r intC 0 rfl ?_|refine Mp.same ?_|(apply Mp.lit;(focus repeat(first|exact MpL.nil|(apply MpL.cons;(focus rfl))|(apply MpL.inv;(focus repeat constructor);(focus infer_instance)))))|refine xD ?_|exact trivial|(apply Lk.r;(focus assumption))|(apply Sx.r;(focus exact rfl);(focus first|omega|(simp;omega)))|(apply CA.drawF;(focus rfl);(focus kernel_rfl);(focus kernel_rfl);(focus repeat' constructor);(focus rfl);intro _n0 _hlt)|(apply NfK.nr;(focus rfl))|(apply NfK.lt;(focus first|assumption|omega|(apply _hlt;repeat constructor)))|(apply NfV.nr;(focus rfl))|apply RA'.both|refine xO ?_|(apply CpS.part;(focus(repeat constructor;done)))|(apply CpS.all;(focus(repeat constructor;done)))|(apply TkX.r;(focus repeat constructor))|(apply ExX.short;(focus rfl);(focus first|omega|(simp <;> omega));(focus first|omega|(simp <;> omega)))|(apply ExX.long;(focus rfl);(focus first|omega|(simp <;> omega));(focus first|omega|(simp <;> omega)))|(apply Ovl.mk';(focus repeat constructor);(focus repeat constructor);(focus decide))|(apply Cvk.i64;(focus rfl);(focus omega))|(apply Cvk.u64;(focus rfl);(focus omega))|(apply Cvk.u8;(focus rfl);(focus omega))|refine Rf.mk ⟨rfl,by decide⟩ ?_|(apply Rf.mk;(focus exact⟨by decide,rfl⟩))|(apply Sx.r;(focus assumption);(focus first|omega|(simp;omega)))|(apply Ix.q;(focus assumption);(focus assumption))|(apply TkJ.r;(focus repeat constructor))|(apply TkE.r;(focus repeat constructor))|(apply NxK.mk)|(apply Ix.q;(focus assumption);(focus assumption))|(apply TkS.r;(focus repeat constructor))|(apply Ix.q;(focus assumption);(focus assumption))|(apply Cl.pG (ht);(focus exact ga);(focus((repeat'(first|exact Lend.nil|apply Lend.keep|apply Lend.nils|(apply Lend.mp;(focus rfl))|(apply Lend.lend;(focus repeat constructor);(focus first|omega|(simp;omega)))|(apply Lend.lendm;(focus repeat constructor);(focus rfl);(focus first|omega|decide|(simp;omega)|exact zB rfl))|(apply Lend.cell;(focus repeat constructor))|refine Lend.fn ?_ ?_|apply Lend.agg));done))))
   all_goals first
    | (exfalso;omega)
    | exact Fin.p rfl (vb (by first|exact zD.2 (by rw [hUU];omega)|exact(zT (hUU.2 (by omega))).symm|exact(zF (fun h=>by have:=hUU.1 h;omega)).symm))
def cmpL : List Int→List Int→Int
 | [],[]=>0
 | [],_ :: _=> -1
 | _ :: _,[]=>1
 | x :: a,y :: b=>if x=y then cmpL a b else if x < y then -1 else 1
theorem cmpL_lt :∀a b,cmpL a b < 0↔lexB a b=true
 | [],[]=>by simp [cmpL,lexB]
 | [],_ :: _=>by simp [cmpL,lexB]
 | _ :: _,[]=>by simp [cmpL,lexB]
 | x :: a,y :: b=>by
  rw [cmpL,lexB]
  by_cases h:x=y
  ·rw [if_pos h,if_pos h];exact cmpL_lt a b
  ·rw [if_neg h,if_neg h,decide_eq_true_eq]
   by_cases h2:x < y
   ·rw [if_pos h2];exact⟨fun _=>h2,fun _=>by omega⟩
   ·rw [if_neg h2];exact⟨fun h9=>by omega,fun h9=>absurd h9 h2⟩
theorem nan_p(x:Int) : CallP Tryz.prog 253 [it x] (.val (.bool false)):=by
 refine CallA.of pg ordZ Tryz.func253 rfl Tryz.ntmps253 Tryz.results253 rfl fun h0 G0 O0=>?_
 repeat'(first|apply Sp.h|refine Lk.r rfl ?_|refine Rf.mk rfl ?_|refine xN ?_|fail)
 exact Fin.p rfl (vb (by simp))
theorem cmp_p(x y:Int) : CallP Tryz.prog 226 [it x,it y] (it (if x=y then 0 else if x < y then -1 else 1)):=by
 have h1:=nan_p x
 have h2:=nan_p y
 refine CallA.of pg ordZ Tryz.func226 rfl Tryz.ntmps226 Tryz.results226 rfl fun h0 G0 O0=>?_
 rcases Int.lt_trichotomy x y with h|h|h
 ·rw [if_neg (by omega),if_pos h]
  repeat'(first|apply Sp.h|refine Lk.r rfl ?_|refine Rf.mk rfl ?_|refine xA ?_|refine xN ?_|(apply Cl.p (h1);focus(repeat' constructor);done)|(apply Cl.p (h2);focus(repeat' constructor);done))
  all_goals first
   | exact Fin.p rfl rfl
   | (exfalso;omega)
 ·rw [if_pos h]
  repeat'(first|apply Sp.h|refine Lk.r rfl ?_|refine Rf.mk rfl ?_|refine xB ?_|refine xN ?_|(apply Cl.p (h1);focus(repeat' constructor);done)|(apply Cl.p (h2);focus(repeat' constructor);done))
  all_goals first
   | exact Fin.p rfl rfl
   | (exfalso;omega)
 ·rw [if_neg (by omega),if_neg (by omega)]
  repeat'(first|apply Sp.h|refine Lk.r rfl ?_|refine Rf.mk rfl ?_|refine xA ?_|refine xB ?_|refine xN ?_|(apply Cl.p (h1);focus(repeat' constructor);done)|(apply Cl.p (h2);focus(repeat' constructor);done))
  all_goals first
   | exact Fin.p rfl rfl
   | (exfalso;omega)
theorem cmpIx_p(a b:List Int) : CallP Tryz.prog 188 [ints a,ints b] (it (cmpL a b)):=by
 refine CallA.of pg ordZ Tryz.func188 rfl Tryz.ntmps188 Tryz.results188 rfl fun h0 G0 O0=>?_
 repeat'(first|apply Sp.h|refine Lk.r rfl ?_|refine Rf.mk rfl ?_|apply Im.mk|intro _)
 refine CA.loop (fun i:Nat=>⟨[(0,ints a),(1,ints b),(9,ints a),(10,it (a.length:Nat)),(11,it i)],[]⟩) (fun i=>i≤a.length∧i≤b.length∧cmpL (a.drop i) (b.drop i)=cmpL a b) (fun i=>a.length - i) 0 xE ⟨zZ _,zZ _,rfl⟩ ?_
 rintro i ⟨hi1,hi2,he⟩
 by_cases ha:i < a.length
 ·obtain⟨x,hx⟩:=get_of ha
  rw [List.drop_eq_getElem_cons ha,(zS.1 hx).2] at he
  by_cases hb:i < b.length
  ·obtain⟨y,hy⟩:=get_of hb
   rw [List.drop_eq_getElem_cons hb,(zS.1 hy).2,cmpL] at he
   have hc:=cmp_p x y
   rcases Int.lt_trichotomy x y with h|h|h
   ·rw [if_neg (by omega),if_pos h] at he hc
    repeat'(first|apply Sp.h|refine Lk.r rfl ?_|refine Rf.mk rfl ?_|refine xA ?_|refine xB ?_|refine Im.mk fun _=>?_|refine xI ?_|refine xN ?_|(apply Cl.p (hc);focus repeat' constructor))
    all_goals first
     | exact Fin.p rfl (by rw [he])
     | exact absurd rfl (by assumption)
     | (exfalso;omega)
   ·rw [if_pos h] at he hc
    repeat'(first|apply Sp.h|refine Lk.r rfl ?_|refine Rf.mk rfl ?_|refine xA ?_|refine xB ?_|refine Im.mk fun _=>?_|refine xI ?_|refine xO ?_|(apply Cl.p (hc);focus repeat' constructor))
    all_goals first
     | exact PA.lp (i+1) xE ⟨⟨ha,hb,he⟩,by omega⟩
     | exact absurd rfl (by assumption)
     | (exfalso;omega)
   ·rw [if_neg (by omega),if_neg (by omega)] at he hc
    repeat'(first|apply Sp.h|refine Lk.r rfl ?_|refine Rf.mk rfl ?_|refine xA ?_|refine xB ?_|refine Im.mk fun _=>?_|refine xI ?_|refine xN ?_|(apply Cl.p (hc);focus repeat' constructor))
    all_goals first
     | exact Fin.p rfl (by rw [he])
     | exact absurd rfl (by assumption)
     | (exfalso;omega)
  ·rw [List.drop_of_length_le (l:=b) (by omega),cmpL] at he
   repeat'(first|apply Sp.h|refine Lk.r rfl ?_|refine Rf.mk rfl ?_|refine xA ?_|apply Im.mk|refine xI ?_|refine xN ?_|intro _)
   all_goals first
    | exact Fin.p rfl (by rw [he])
    | (exfalso;omega)
 ·rw [List.drop_of_length_le (l:=a) (by omega)] at he
  by_cases hb:i < b.length
  ·rw [List.drop_eq_getElem_cons hb,cmpL] at he
   repeat'(first|apply Sp.h|refine Lk.r rfl ?_|refine Rf.mk rfl ?_|refine xA ?_|refine xB ?_|apply Im.mk|refine xN ?_|intro _)
   all_goals first
    | exact Fin.p rfl (by rw [he])
    | (exfalso;omega)
  ·rw [List.drop_of_length_le (l:=b) (by omega),cmpL] at he
   repeat'(first|apply Sp.h|refine Lk.r rfl ?_|refine Rf.mk rfl ?_|refine xB ?_|apply Im.mk|refine xN ?_|intro _)
   all_goals first
    | exact Fin.p rfl (by rw [he])
    | (exfalso;omega)
theorem indexR_p{g:FuncId}{caps:List AV}{p:RowS→Bool}(hg:∀e,CallP Tryz.prog g (.agg (rowC e) :: caps) (.val (.bool (p e))))(he:en g=true)(l:List RowS) :
  CallP Tryz.prog 262 [.sl 2 l rowC, .fn g caps] (it (idxI p l)):=by
 refine CallA.of pg ordZ Tryz.func262 rfl Tryz.ntmps262 Tryz.results262 rfl fun h0 G0 O0=>?_
 repeat'(first|apply Sp.h|refine Lk.r rfl ?_|refine Rf.mk rfl ?_|apply Im.mk|intro _)
 refine CA.loop (fun i:Nat=>⟨[(0, .sl 2 l rowC),(1, .fn g caps),(7,it (l.length:Nat)),(8,it i)],[]⟩)
  (fun i=>i≤l.length∧∀j y,j < i→l[j]?=some y→p y=false) (fun i=>l.length - i) 0 xE ⟨zZ _,fun j y h=>by omega⟩ ?_
 rintro i ⟨hi,hj⟩
 by_cases hin:i < l.length
 ·obtain⟨e,hx⟩:=get_of hin
  have hge:=hg e
  repeat'(first|apply Sp.h|refine Lk.r rfl ?_|refine Rf.mk rfl ?_|refine xA ?_|(refine Bd.mk ?_ ?_ <;> intro _)|refine xI ?_|refine Ch.l ⟨rfl,rfl⟩ ?_|refine xN ?_|(apply Rf.mk;(focus assumption))|refine xO ?_|(apply Cl.p (hge);(focus repeat'(first|apply Lend.keep|fail))))
  ·exact lendAll _
  ·rename_i hp
   exact Fin.p rfl (by rw [idxI,idxN_of hx hp hj,if_pos hin])
  ·rename_i hp
   exact PA.lp (i+1) xE ⟨⟨hin,alli_succ hx hj (by simpa using hp)⟩,by omega⟩
 ·repeat'(first|apply Sp.h|refine Lk.r rfl ?_|refine Rf.mk rfl ?_|refine xB ?_|refine xN ?_|fail)
  exact Fin.p rfl (by rw [idxI,idxN_none (fun x hx=>by obtain⟨j,hx⟩:=zO hx;exact hj j x (by have:=(zS.1 hx).1;omega) hx),if_neg (by omega)])
theorem containsR_p{g:FuncId}{caps:List AV}{p:RowS→Bool}(hg:∀e,CallP Tryz.prog g (.agg (rowC e) :: caps) (.val (.bool (p e))))(he:en g=true)(l:List RowS) :
  CallP Tryz.prog 228 [.sl 2 l rowC, .fn g caps] (.val (.bool (decide (∃e∈l,p e=true)))):=by
 have hi:=indexR_p hg he l
 refine CallA.of pg ordZ Tryz.func228 rfl Tryz.ntmps228 Tryz.results228 rfl fun h0 G0 O0=>?_
 repeat'(first|apply Sp.h|refine Lk.r rfl ?_|refine Rf.mk rfl ?_|refine xN ?_|(apply Cl.p (hi);focus repeat' constructor))
 refine Fin.p rfl (vb (zD.2 ?_))
 rw [←idxB_lt]
 unfold idxI
 split <;> omega
theorem effect1_p(m:ModS)(R:List (Int×Int))(r:RowS) : CallP Tryz.prog 229 [.agg (rowC r), .ad (jdgC m R) 0] (.val (.bool (!decide (RowX R.length r)))):=by
 have hr:=mrow_p m R r
 refine CallA.of pg ordZ Tryz.func229 rfl Tryz.ntmps229 Tryz.results229 rfl fun h0 G0 O0=>?_
 repeat'(first|apply Sp.h|refine Lk.r rfl ?_|refine Rf.mk rfl ?_|refine All.mk fun _=>?_|refine xT ?_|refine Ch.l ⟨rfl,rfl⟩ ?_|refine xN ?_|(apply Cl.p (hr);focus repeat' constructor))
 exact Fin.p rfl (vb decide_not)
theorem UpdG.nn{m:ModS}{u:Int×Int×Int}(h:UpdG m u) : 0≤u.2.1:=by
 obtain⟨ti,q,t,h1,-⟩:=h
 unfold tupF at h1
 split at h1
 ·rename_i h;exact h.2
 ·cases h1
theorem meffect_g(m:ModS)(x:EffS)(hu:UpdRg x) : CallGP Tryz.prog 189 [.agg (jdgC m (strR m)), .agg (effC x)] (.val (.bool (decide (EffX m x)))):=by
 have hdef:EffX m x↔(∀i p,x.delta[i]?=some p→DltI (strR m).length x.delta i p)∧(∀(i:Nat) (r:RowS),x.hold[i]?=some r→RowX (strR m).length r)∧(∀i p,x.updates[i]?=some p→UpdI m x.updates i p)∧x.hold.length≤8∧x.updates.length≤32:=⟨fun h=>⟨h.d,h.h,h.u,h.hl,h.ul⟩,fun h=>⟨h.1,h.2.1,h.2.2.1,h.2.2.2.1,h.2.2.2.2⟩⟩
 obtain⟨rs,hrs⟩:∃rs,rs=strR m:=⟨_,rfl⟩
 rw [←hrs] at hdef ⊢
 have hho:=containsR_p (effect1_p m rs) rfl x.hold
 have hhi:¬(∃e∈x.hold,(!decide (RowX rs.length e))=true)↔∀(i:Nat) (r:RowS),x.hold[i]?=some r→RowX rs.length r:=by
  constructor
  ·intro h i r hr
   exact Classical.byContradiction fun h9=>h ⟨r,zM hr,by rw [zF h9];rfl⟩
  ·rintro h ⟨r,hr,h9⟩
   obtain⟨i,hi⟩:=zO hr
   rw [zT (h i r hi)] at h9
   cases h9
 refine CallG.of pg ordZ Tryz.func189 rfl Tryz.ntmps189 Tryz.results189 rfl fun h0 G0 O0 ga=>?_
 (repeat'(first|(show CA _ _ (Code.region 1 _ _) _ _;apply Stopped.out)|apply Sp.h|refine Lk.r rfl ?_|refine Rf.mk rfl ?_|apply All.mk|intro _));any_goals apply Stopped.mk
 refine CA.freezeB 2 rfl (by repeat constructor) ?_
 refine CA.freezeB 3 rfl (by repeat constructor) ?_
 repeat'(first|apply Sp.h|refine Lk.r rfl ?_|refine Rf.mk rfl ?_|apply Im.mk|intro _)
 refine CA.loop (fun y:Nat×Int=>⟨[(2, .ad (jdgC m rs) 0),(3, .ad (effC x) 0),(5,it y.2),(11,terms x.delta),(12,it (x.delta.length:Nat)),(13,it y.1)],[]⟩) (fun y=>y.1≤x.delta.length∧(∀j p,j < y.1→x.delta[j]?=some p→DltI rs.length x.delta j p)∧ -1≤y.2∧(y.1=0→y.2= -1)∧∀q,0 < y.1→x.delta[y.1 - 1]?=some q→q.1=y.2) (fun y=>x.delta.length - y.1) (0,-1) xE ⟨zZ _,fun j p h=>(by simp only at h;omega),by simp,fun _=>rfl,fun q h=>(by simp only at h;omega)⟩ ?_
 rintro⟨i,c⟩ ⟨hi,ha,hc1,hc2,hc3⟩
 simp only at hi ha hc1 hc2 hc3
 simp only
 by_cases hin:i < x.delta.length
 ·obtain⟨p,hp⟩:=get_of hin
  have hbp:=around_p p.2 1000000000 (by omega)
  have hiff:DltI rs.length x.delta i p↔c < p.1∧p.1 < rs.length∧p.2≠0∧ -1000000000≤p.2∧p.2≤1000000000:=by
   constructor
   ·rintro⟨g1,g2,g3,g4,g5⟩
    refine⟨?_,g2,g3,g4⟩
    rcases Nat.eq_zero_or_pos i with h0|h0
    ·have:=hc2 h0;omega
    ·obtain⟨q,hq⟩:=get_of (l:=x.delta) (i:=i - 1) (by omega)
     have:=hc3 q h0 hq
     have:=g5 q h0 hq
     omega
   ·rintro⟨g1,g2,g3,g4⟩
    exact⟨by omega,g2,g3,g4,fun q h0 hq=>by have:=hc3 q h0 hq;omega⟩
  by_cases hT:DltI rs.length x.delta i p
  ·have hTT:=hiff.1 hT
   obtain⟨g1,g2,g3,g4,g5⟩:=hTT
   repeat'(first|apply Sp.h|refine Lk.r rfl ?_|refine Rf.mk rfl ?_|refine xA ?_|refine xB ?_|refine Im.mk fun _=>?_|refine All.mk fun _=>?_|refine xT ?_|refine xI ?_|refine Ch.l ⟨rfl,rfl⟩ ?_|(apply SetAsk.r;focus repeat' constructor)|refine xN ?_|refine xO ?_|(apply Cl.p (hbp);focus repeat' constructor))
   all_goals first
    | exact PA.lp (i+1,p.1) xE ⟨⟨hin,alli_succ hp ha hT,by simp only;omega,fun h=>(by simp only at h;omega),fun q _ hq=>(by simp only [Nat.add_sub_cancel] at hq;rw [hp] at hq;cases hq;rfl)⟩,by simp only;omega⟩
    | (exfalso;omega)
  ·have hno:¬EffX m x:=fun h=>hT ((hdef.1 h).1 i p hp)
   have hTT:=fun h=>hT (hiff.2 h)
   repeat'(first|apply Sp.h|refine Lk.r rfl ?_|refine Rf.mk rfl ?_|refine xA ?_|refine xB ?_|(refine Bd.mk ?_ ?_ <;> intro _)|refine Im.mk fun _=>?_|refine All.mk fun _=>?_|refine xT ?_|refine xI ?_|refine Ch.l ⟨rfl,rfl⟩ ?_|(apply SetAsk.r;focus repeat' constructor)|refine xN ?_|refine xO ?_|(apply Cl.p (hbp);focus repeat' constructor))
   all_goals first
    | exact Fin.p rfl (vb (zF hno).symm)
    | exact(hTT ⟨by omega,by omega,by omega,by omega,by omega⟩).elim
 have hie:i=x.delta.length:=by omega
 subst hie
 have hdl:=alli_all ha
 clear ha hc1 hc2 hc3 hi
 repeat'(first|apply Sp.h|refine Lk.r rfl ?_|refine Rf.mk rfl ?_|refine xB ?_|apply Im.mk|intro _)
 refine CA.loop (fun y:Nat×Int=>⟨[(2, .ad (jdgC m rs) 0),(3, .ad (effC x) 0),(5,it y.2),(44, .sl 3 x.updates updC),(45,it (x.updates.length:Nat)),(46,it y.1)],[]⟩) (fun y=>y.1≤x.updates.length∧(∀j p,j < y.1→x.updates[j]?=some p→UpdI m x.updates j p)∧ -1≤y.2∧(y.1=0→y.2= -1)∧∀q,0 < y.1→x.updates[y.1 - 1]?=some q→q.2.1=y.2) (fun y=>x.updates.length - y.1) (0,-1) xE ⟨zZ _,fun j p h=>(by simp only at h;omega),by simp,fun _=>rfl,fun q h=>(by simp only at h;omega)⟩ ?_
 rintro⟨i,c⟩ ⟨hi,ha,hc1,hc2,hc3⟩
 simp only at hi ha hc1 hc2 hc3
 simp only
 by_cases hin:i < x.updates.length
 ·obtain⟨u,hp⟩:=get_of hin
  have hup:=mupdate_g m rs u (hu u (zM hp))
  have hiff:UpdI m x.updates i u↔c < u.2.1∧UpdG m u:=by
   constructor
   ·rintro⟨g1,g2⟩
    refine⟨?_,g1⟩
    rcases Nat.eq_zero_or_pos i with h0|h0
    ·have:=hc2 h0
     have:=UpdG.nn (m:=m) (u:=u) g1
     omega
    ·obtain⟨q,hq⟩:=get_of (l:=x.updates) (i:=i - 1) (by omega)
     have:=hc3 q h0 hq
     have:=g2 q h0 hq
     omega
   ·rintro⟨g1,g2⟩
    exact⟨g2,fun q h0 hq=>by have:=hc3 q h0 hq;omega⟩
  have hnx:∀q,x.updates[i+1 - 1]?=some q→q.2.1=u.2.1:=fun q hq=>by rw [Nat.add_sub_cancel,hp] at hq;cases hq;rfl
  have hu0:c < u.2.1→ -1≤u.2.1:=fun h=>by omega
  obtain⟨u0,u1,u2⟩:=u
  simp only at hup hiff hnx hu0
  by_cases hT:UpdI m x.updates i (u0,u1,u2)
  ·obtain⟨g1,g2⟩:=hiff.1 hT
   repeat'(first|apply Sp.h|refine Lk.r rfl ?_|refine Rf.mk rfl ?_|refine xA ?_|refine xB ?_|refine All.mk fun _=>?_|refine xT ?_|refine xI ?_|refine Ch.l ⟨rfl,rfl⟩ ?_|(apply SetAsk.r;focus repeat' constructor)|refine xN ?_|refine xO ?_|(apply Cl.pG (hup);(focus exact ga);focus(repeat' constructor);done))
   all_goals first
    | exact PA.lp (i+1,u1) xE ⟨⟨hin,alli_succ hp ha hT,by simp only;omega,fun h=>(by simp only at h;omega),fun q _ hq=>hnx q hq⟩,by simp only;omega⟩
    | exact absurd g2 (by assumption)
    | (exfalso;omega)
  ·have hno:¬EffX m x:=fun h=>hT ((hdef.1 h).2.2.1 i _ hp)
   repeat'(first|apply Sp.h|refine Lk.r rfl ?_|refine Rf.mk rfl ?_|refine xA ?_|refine xB ?_|(refine Bd.mk ?_ ?_ <;> intro _)|refine All.mk fun _=>?_|refine xT ?_|refine xI ?_|refine Ch.l ⟨rfl,rfl⟩ ?_|(apply SetAsk.r;focus repeat' constructor)|refine xN ?_|refine xO ?_|(apply Cl.pG (hup);(focus exact ga);focus(repeat' constructor);done))
   all_goals first
    | exact Fin.p rfl (vb (zF hno).symm)
    | exact(hT (hiff.2 ⟨by omega,by assumption⟩)).elim
 have hie:i=x.updates.length:=by omega
 subst hie
 have hud:=alli_all ha
 clear ha hc1 hc2 hc3 hi
 by_cases hle:x.hold.length≤8∧x.updates.length≤32
 ·have hiff:EffX m x↔¬(∃e∈x.hold,(!decide (RowX rs.length e))=true):=⟨fun h=>hhi.2 (hdef.1 h).2.1,fun h=>hdef.2 ⟨hdl,hhi.1 h,hud,hle⟩⟩
  obtain⟨hl1,hl2⟩:=hle
  repeat'(first|apply Sp.h|refine Lk.r rfl ?_|refine Rf.mk rfl ?_|refine xA ?_|refine xB ?_|refine Im.mk fun _=>?_|refine xN ?_|(apply Cl.p (hho);focus repeat' constructor))
  all_goals first
   | exact Fin.p rfl (vb (zD.2 hiff.symm))
   | (exfalso;omega)
 ·have hno:¬EffX m x:=fun h=>hle (hdef.1 h).2.2.2
  repeat'(first|apply Sp.h|refine Lk.r rfl ?_|refine Rf.mk rfl ?_|refine xA ?_|refine xB ?_|(refine Bd.mk ?_ ?_ <;> intro _)|refine Im.mk fun _=>?_|refine xN ?_|(apply Cl.p (hho);(focus repeat'(first|fail))))
  all_goals first
   | exact Fin.p rfl (vb (zF hno).symm)
   | exact(hle ⟨by omega,by omega⟩).elim
   | exact Fin.p rfl (vb (by rw [zF hno];exact zF (by omega)))
theorem mactions_g(m:ModS)(hops:OpsX m)(hur:UpdsRg m) : CallGP Tryz.prog 130 [.agg (jdgC m (strR m))] (.val (.bool (decide (ActX m)))):=by
 have hso:=hops.s
 have hefx:∀a∈m.acts,CallGP Tryz.prog 189 [.agg (jdgC m (strR m)), .agg (effC a.eff)] (.val (.bool (decide (EffX m a.eff)))):=fun a ha=>meffect_g m a.eff (hur a ha)
 generalize strR m=rs at hefx ⊢
 refine CallG.of pg ord130 Tryz.func130 rfl Tryz.ntmps130 Tryz.results130 rfl fun h0 G0 O0 ga=>?_
 (repeat'(first|(show CA _ _ (Code.region 1 _ _) _ _;apply Stopped.out)|apply Sp.h|refine Lk.r rfl ?_|refine Rf.mk rfl ?_|apply All.mk|intro _));any_goals apply Stopped.mk
 refine CA.freezeB 1 rfl (by repeat constructor) ?_
 by_cases hal:m.acts.length≤256
 rotate_left
 ·repeat'(first|apply Sp.h|refine Lk.r rfl ?_|refine Rf.mk rfl ?_|refine xA ?_|apply Im.mk|refine xN ?_|intro _)
  exact Fin.p rfl (vb (zF fun h:ActX m=>hal h.l).symm)
 repeat'(first|apply Sp.h|refine Lk.r rfl ?_|refine Rf.mk rfl ?_|refine xB ?_|apply Im.mk|intro _)
 refine CA.loop (fun i:Nat=>⟨[(1, .ad (jdgC m rs) 0),(16, .sl 5 m.acts actC),(17,it (m.acts.length:Nat)),(18,it i)],[]⟩) (fun i=>i≤m.acts.length∧∀j a,j < i→m.acts[j]?=some a→ActI m j a) (fun i=>m.acts.length - i) 0 xE ⟨zZ _,fun j a h=>by omega⟩ ?_
 rintro i ⟨hi,hai⟩
 by_cases hin:i < m.acts.length
 ·obtain⟨a,ha⟩:=get_of hin
  have hno:¬ActI m i a→¬ActX m:=fun h h2=>h (h2.a i a ha)
  have hix:=mindex_p a.op (m.ops.length:Nat)
  by_cases hb:0≤a.op∧a.op < m.ops.length
  rotate_left
  ·have hno:=hno fun h=>hb (by obtain⟨j,h1,o,h2,-⟩:=h.o;have:=(zS.1 h2).1;omega)
   repeat'(first|apply Sp.h|refine Lk.r rfl ?_|refine Rf.mk rfl ?_|refine xA ?_|refine xB ?_|refine OpK.r rfl ?_|refine Im.mk fun _=>?_|refine All.mk fun _=>?_|refine xT ?_|refine xI ?_|refine Ch.l ⟨rfl,rfl⟩ ?_|(apply SetAsk.r;focus repeat' constructor)|refine xN ?_|refine xD ?_|(apply Cl.p (hix);focus(repeat' constructor);done))
   all_goals first
    | exact Fin.p rfl (vb (zF hno).symm)
    | exact(hb ⟨by omega,by omega⟩).elim
    | exact absurd (by assumption) hb
  obtain⟨j,hj⟩:=Int.eq_ofNat_of_zero_le hb.1
  obtain⟨o,ho⟩:=get_of (l:=m.ops) (i:=j) (by omega)
  have ho':m.ops[a.op.toNat]?=some o:=by rw [hj];exact ho
  have hos:=(hso j o ho).1
  have hj0:0≤a.op:=hb.1
  have hj1:a.op < m.ops.length:=hb.2
  have hao:ActI m i a→a.args.length=o.sorts.length∧∀(k:Nat) (x s:Int),a.args[k]?=some x→o.sorts[k]?=some s→ArgI m s x:=by
   intro h
   obtain⟨j',h1,o',h2,h3⟩:=h.o
   obtain rfl:j=j':=by omega
   rw [ho] at h2;cases h2
   exact h3
  by_cases hlen:a.args.length=o.sorts.length
  rotate_left
  ·have hno:=hno fun h=>hlen (hao h).1
   repeat'(first|apply Sp.h|refine Lk.r rfl ?_|refine Rf.mk rfl ?_|refine xA ?_|refine xB ?_|refine OpK.r rfl ?_|refine Im.mk fun _=>?_|refine All.mk fun _=>?_|refine xT ?_|refine xI ?_|(apply Ix.r;(focus assumption);(focus omega))|refine Ch.l ⟨rfl,rfl⟩ ?_|(apply SetAsk.r;focus repeat' constructor)|refine xN ?_|refine xD ?_|(apply Cl.p (hix);focus(repeat' constructor);done))
   all_goals first
    | exact Fin.p rfl (vb (zF hno).symm)
    | (exfalso;omega)
  repeat'(first|apply Sp.h|refine Lk.r rfl ?_|refine Rf.mk rfl ?_|refine xA ?_|refine OpK.r rfl ?_|refine Im.mk fun _=>?_|refine All.mk fun _=>?_|refine xT ?_|refine xI ?_|(apply Ix.r;(focus assumption);(focus omega))|refine Ch.l ⟨rfl,rfl⟩ ?_|(apply SetAsk.r;focus repeat' constructor)|refine xN ?_|refine xD ?_|(apply Cl.p (hix);focus(repeat' constructor);done))
  all_goals try exact(by omega:False).elim
  all_goals try exact absurd hb (by assumption)
  rename_i b4 _ _ _ _
  refine CA.loop (fun k:Nat=>⟨[(1, .ad (jdgC m rs) 0),(3,it i),(4,pm b4),(16, .sl 5 m.acts actC),(17,it (m.acts.length:Nat)),(18,it i),(53,ints o.sorts),(54,it (o.sorts.length:Nat)),(55,it k)],[blkR b4 142 (actC a)]⟩) (fun k=>k≤a.args.length∧∀q x,q < k→a.args[q]?=some x→∀s,o.sorts[q]?=some s→ArgI m s x) (fun k=>a.args.length - k) 0 xE ⟨zZ _,fun q x h=>by omega⟩ ?_
  rintro k ⟨hk,hka⟩
  by_cases hkn:k < a.args.length
  ·obtain⟨x,hx⟩:=get_of hkn
   obtain⟨s,hs⟩:=get_of (l:=o.sorts) (i:=k) (by omega)
   obtain⟨hs1,hs2⟩:=hos k s hs
   have hbw:=around_p x 9999 (by omega)
   by_cases hs0:s < 0
   ·by_cases hA1: -9999≤x∧x≤9999
    ·have hgo:=alli_succ hx hka fun s' h=>by rw [hs] at h;cases h;exact⟨fun _=>hA1,fun h=>by omega⟩
     repeat'(first|apply Sp.h|refine Lk.r rfl ?_|refine Rf.mk rfl ?_|refine xA ?_|refine xB ?_|refine xT ?_|refine xI ?_|refine xO ?_|(apply Cl.p (hbw);focus repeat' constructor))
     all_goals first
      | exact PA.lp (k+1) xE ⟨⟨hkn,hgo⟩,by omega⟩
      | exact absurd hA1 (by assumption)
      | (exfalso;omega)
    ·have hno:=hno fun h=>hA1 (((hao h).2 k x s hx hs).1 hs0)
     repeat'(first|apply Sp.h|refine Lk.r rfl ?_|refine Rf.mk rfl ?_|refine xA ?_|refine xB ?_|refine xT ?_|refine xI ?_|refine xN ?_|(apply Cl.p (hbw);focus repeat' constructor))
     all_goals first
      | exact Fin.p rfl (vb (zF hno).symm)
      | exact absurd (by assumption) hA1
      | (exfalso;omega)
   ·obtain⟨q,rfl⟩:=Int.eq_ofNat_of_zero_le (show 0≤s by omega)
    obtain⟨y,hy⟩:=get_of (l:=m.sorts) (i:=q) (by omega)
    have hiy:=mindex_p x y
    by_cases hA2:0≤x∧x < y
    ·have hgo:=alli_succ hx hka fun s' h=>by rw [hs] at h;cases h;exact⟨fun h=>by omega,fun _=>⟨hA2.1,y,by rw [Int.toNat_natCast];exact hy,hA2.2⟩⟩
     repeat'(first|apply Sp.h|refine Lk.r rfl ?_|refine Rf.mk rfl ?_|refine xA ?_|refine xB ?_|refine xT ?_|refine xI ?_|refine xO ?_|(apply Cl.p (hbw);focus repeat' constructor)|(apply Cl.p (hiy);focus repeat' constructor))
     all_goals first
      | exact PA.lp (k+1) xE ⟨⟨hkn,hgo⟩,by omega⟩
      | exact absurd hA2 (by assumption)
      | (exfalso;omega)
    ·have hno:=hno fun h=>hA2 (by
      obtain⟨h1,y',h2,h3⟩:=((hao h).2 k x _ hx hs).2 (by omega)
      rw [Int.toNat_natCast,hy] at h2
      cases h2
      exact⟨h1,h3⟩)
     repeat'(first|apply Sp.h|refine Lk.r rfl ?_|refine Rf.mk rfl ?_|refine xA ?_|refine xB ?_|refine xT ?_|refine xI ?_|refine xN ?_|(apply Cl.p (hbw);focus repeat' constructor)|(apply Cl.p (hiy);focus repeat' constructor))
     all_goals first
      | exact Fin.p rfl (vb (zF hno).symm)
      | exact absurd (by assumption) hA2
      | (exfalso;omega)
  ·have hke:k=a.args.length:=by omega
   subst hke
   have hka:=alli_all hka
   have hef:=hefx a (zM ha)
   have hyes:(∀b,0 < i→m.acts[i - 1]?=some b→b.op < a.op∨(b.op=a.op∧lexB b.args a.args=true))→EffX m a.eff→ActI m i a:=fun h1 h2=>⟨⟨j,hj,o,ho,hlen,fun k x s h3 h4=>hka k x h3 s h4⟩,h1,h2⟩
   rcases Nat.eq_zero_or_pos i with h0|h0
   ·subst h0
    by_cases hE:EffX m a.eff
    ·have hgo:=alli_succ ha hai (hyes (fun b h=>by omega) hE)
     repeat'(first|apply Sp.h|refine Lk.r rfl ?_|refine Rf.mk rfl ?_|refine xA ?_|refine xB ?_|refine xT ?_|refine Ch.l ⟨rfl,rfl⟩ ?_|refine Ch.r ?_|refine xO ?_|(apply Cl.pG (hef);(focus exact ga);focus(repeat' constructor);done))
     all_goals first
      | exact PA.lp 1 xE ⟨⟨hin,hgo⟩,by omega⟩
      | exact absurd hE (by assumption)
      | (exfalso;omega)
    ·have hno:=hno fun h=>hE h.e
     repeat'(first|apply Sp.h|refine Lk.r rfl ?_|refine Rf.mk rfl ?_|refine xB ?_|refine xT ?_|refine Ch.l ⟨rfl,rfl⟩ ?_|refine Ch.r ?_|refine xN ?_|(apply Cl.pG (hef);(focus exact ga);focus(repeat' constructor);done))
     all_goals first
      | exact Fin.p rfl (vb (zF hno).symm)
      | exact absurd (by assumption) hE
      | (exfalso;omega)
   ·obtain⟨q,rfl⟩:∃q,i=q+1:=⟨i - 1,by omega⟩
    obtain⟨b,hbb⟩:=get_of (l:=m.acts) (i:=q) (by omega)
    have hls:=cmpIx_p b.args a.args
    have hlt:=cmpL_lt b.args a.args
    by_cases hL:b.op < a.op∨(b.op=a.op∧cmpL b.args a.args < 0)
    ·by_cases hE:EffX m a.eff
     ·have hgo:=alli_succ ha hai (hyes (fun b' _ h=>by rw [show q+1 - 1=q by omega,hbb] at h;cases h;exact hL.imp id fun h=>⟨h.1,hlt.1 h.2⟩) hE)
      repeat'(first|apply Sp.h|refine Lk.r rfl ?_|refine Rf.mk rfl ?_|refine xA ?_|refine xB ?_|(refine Bd.mk ?_ ?_ <;> intro _)|refine All.mk fun _=>?_|refine xT ?_|(apply Ix.r;(focus assumption);(focus omega))|refine Ch.l ⟨rfl,rfl⟩ ?_|refine Ch.r ?_|(apply SetAsk.r;focus repeat' constructor)|refine xN ?_|refine xO ?_|(apply Cl.pG (hef);(focus exact ga);focus(repeat' constructor);done)|(apply Cl.p (hls);focus(repeat' constructor);done))
      all_goals first
       | exact PA.lp (q+1+1) xE ⟨⟨hin,hgo⟩,by omega⟩
       | exact absurd hE (by assumption)
       | (exfalso;omega)
     ·have hno:=hno fun h=>hE h.e
      repeat'(first|apply Sp.h|refine Lk.r rfl ?_|refine Rf.mk rfl ?_|refine xA ?_|refine xB ?_|(refine Bd.mk ?_ ?_ <;> intro _)|refine All.mk fun _=>?_|refine xT ?_|(apply Ix.r;(focus assumption);(focus omega))|refine Ch.l ⟨rfl,rfl⟩ ?_|refine Ch.r ?_|(apply SetAsk.r;focus repeat' constructor)|refine xN ?_|refine xO ?_|(apply Cl.pG (hef);(focus exact ga);focus(repeat' constructor);done)|(apply Cl.p (hls);focus(repeat' constructor);done))
      all_goals first
       | exact Fin.p rfl (vb (zF hno).symm)
       | exact absurd (by assumption) hE
       | (exfalso;omega)
    ·have hno:=hno fun h=>hL ((h.b b h0 (by rw [show q+1 - 1=q by omega];exact hbb)).imp id fun h=>⟨h.1,hlt.2 h.2⟩)
     repeat'(first|apply Sp.h|refine Lk.r rfl ?_|refine Rf.mk rfl ?_|refine xA ?_|refine xB ?_|(refine Bd.mk ?_ ?_ <;> intro _)|refine All.mk fun _=>?_|refine xT ?_|(apply Ix.r;(focus assumption);(focus omega))|refine Ch.l ⟨rfl,rfl⟩ ?_|(apply SetAsk.r;focus repeat' constructor)|refine xN ?_|refine xO ?_|(apply Cl.pG (hef);(focus exact ga);focus(repeat' constructor);done)|(apply Cl.p (hls);focus(repeat' constructor);done))
     all_goals first
      | exact Fin.p rfl (vb (zF hno).symm)
      | exact(hL (.inl (by omega))).elim
      | exact(hL (.inr ⟨by omega,by omega⟩)).elim
      | (exfalso;omega)
 ·have:i=m.acts.length:=by omega
  subst this
  repeat'(first|apply Sp.h|refine Lk.r rfl ?_|refine Rf.mk rfl ?_|refine xB ?_|refine xN ?_|fail)
  exact Fin.p rfl (vb (zT (show ActX m from⟨hops,hal,alli_all hai⟩)).symm)
def Leads(hs:List (Int×Int×Int)) : Nat→Int→Int→Prop
 | 0,a,b=>a=b
 | n+1,a,b=>a=b∨∃(i:Nat) (h:Int×Int×Int),hs[i]?=some h∧h.1=a∧Leads hs n h.2.2 b
noncomputable instance (hs:List (Int×Int×Int)) (n:Nat) (a b:Int):Decidable (Leads hs n a b):=zC _
theorem leads_e(m:ModS)(n:Nat)(hn:n≤1000) :∀a b:Int,CallP Tryz.prog 124 [mdl m,it a,it b,it n] (.val (.bool (decide (Leads m.hides n a b)))):=by
 induction n with
 | zero =>
  intro a b
  refine CallA.of pg ord124 Tryz.func124 rfl Tryz.ntmps124 Tryz.results124 rfl fun h0 G0 O0=>?_
  repeat'(first|apply Sp.h|refine Lk.r rfl ?_|refine Rf.mk rfl ?_|apply Bd.mk|apply All.mk|refine xN ?_|intro _)
  ·rename_i h
   exact Fin.p rfl (vb (zT (show Leads m.hides 0 a b from h)).symm)
  rename_i b4 hne
  refine CA.loop (fun i:Nat=>⟨[(1,it a),(2,it b),(3,it (0:Nat)),(4, .val (.pointer (some ⟨b4,0,none⟩))),(9,it i)],[blkR b4 30 (modC m)]⟩) (fun i=>i≤m.hides.length) (fun i=>m.hides.length - i) 0 xE (zZ _) ?_
  intro i hi
  have hno:¬Leads m.hides 0 a b:=hne
  by_cases hin:i < m.hides.length
  ·repeat'(first|apply Sp.h|refine Lk.r rfl ?_|refine Rf.mk rfl ?_|refine xA ?_|refine xB ?_|apply Im.mk|refine xT ?_|refine xN ?_|intro _)
   exact Fin.p rfl (vb (zF hno).symm)
  ·repeat'(first|apply Sp.h|refine Lk.r rfl ?_|refine Rf.mk rfl ?_|refine xB ?_|apply Im.mk|refine xT ?_|refine xN ?_|intro _)
   exact Fin.p rfl (vb (zF hno).symm)
 | succ n ih =>
  intro a b
  have ih:=ih (by omega)
  refine CallA.of pg ord124 Tryz.func124 rfl Tryz.ntmps124 Tryz.results124 rfl fun h0 G0 O0=>?_
  repeat'(first|apply Sp.h|refine Lk.r rfl ?_|refine Rf.mk rfl ?_|apply Bd.mk|apply All.mk|refine xN ?_|intro _)
  ·rename_i h
   exact Fin.p rfl (vb (zT (show Leads m.hides (n+1) a b from .inl h)).symm)
  rename_i b4 hne
  refine CA.loop (fun i:Nat=>⟨[(1,it a),(2,it b),(3,it (n+1:Nat)),(4, .val (.pointer (some ⟨b4,0,none⟩))),(9,it i)],[blkR b4 30 (modC m)]⟩) (fun i=>i≤m.hides.length∧∀j h,j < i→m.hides[j]?=some h→¬(h.1=a∧Leads m.hides n h.2.2 b)) (fun i=>m.hides.length - i) 0 xE ⟨zZ _,fun j h hj=>by omega⟩ ?_
  rintro i ⟨hi,hno⟩
  by_cases hin:i < m.hides.length
  ·obtain⟨⟨h1,h2,h3⟩,hh⟩:=get_of hin
   have ihh:=ih h3 b
   rw [show(n:Int)=((n+1:Nat):Int) - 1 by omega] at ihh
   by_cases hL:h1=a∧Leads m.hides n h3 b
   ·obtain⟨hL1,hL2⟩:=hL
    have hyes:Leads m.hides (n+1) a b:= .inr ⟨i,_,hh,hL1,hL2⟩
    repeat'(first|apply Sp.h|refine Lk.r rfl ?_|refine Rf.mk rfl ?_|refine xA ?_|refine OpK.r rfl ?_|refine Im.mk fun _=>?_|refine xT ?_|refine xI ?_|refine Ch.l ⟨rfl,rfl⟩ ?_|refine xN ?_|refine xD ?_|refine xO ?_|(apply Cl.p (ihh);focus repeat' constructor))
    all_goals first
     | exact Fin.p rfl (vb (zT hyes).symm)
     | exact(by omega:False).elim
   ·have hgo:=alli_succ hh hno hL
    repeat'(first|apply Sp.h|refine Lk.r rfl ?_|refine Rf.mk rfl ?_|refine xA ?_|refine xB ?_|(refine Bd.mk ?_ ?_ <;> intro _)|refine OpK.r rfl ?_|refine Im.mk fun _=>?_|refine xT ?_|refine xI ?_|refine Ch.l ⟨rfl,rfl⟩ ?_|refine xN ?_|refine xD ?_|refine xO ?_|(apply Cl.p (ihh);focus repeat' constructor))
    all_goals first
     | exact PA.lp (i+1) xE ⟨⟨hin,hgo⟩,by omega⟩
     | exact(hL ⟨by omega,by assumption⟩).elim
  ·have:i=m.hides.length:=by omega
   subst this
   have hn:¬Leads m.hides (n+1) a b:=by
    rintro(h|⟨j,h,h1,h2,h3⟩)
    ·exact hne h
    ·exact hno j h (zS.1 h1).1 h1 ⟨h2,h3⟩
   repeat'(first|apply Sp.h|refine Lk.r rfl ?_|refine Rf.mk rfl ?_|refine xB ?_|apply Im.mk|refine xT ?_|refine xN ?_|intro _)
   exact Fin.p rfl (vb (zF hn).symm)
def HidI(m:ModS)(h:Int×Int×Int) : Prop:=∃(j1 j2 j3:Nat) (t u:TblS) (x:Int),h.1=(j1:Int)∧m.tables[j1]?=some t∧h.2.2=(j2:Int)∧m.tables[j2]?=some u∧j1≠j2∧t.kind=0∧u.kind=0∧h.2.1=(j3:Int)∧t.cols[j3]?=some x∧u.cols= [x]
structure HidX (m:ModS):Prop where
 l:m.hides.length≤12
 i:∀(i:Nat) (h:Int×Int×Int),m.hides[i]?=some h→HidI m h
 a:∀(i:Nat) (h:Int×Int×Int),m.hides[i]?=some h→¬Leads m.hides m.tables.length h.2.2 h.1
noncomputable instance (m:ModS):Decidable (HidX m):=zC _
theorem cols_one{l:List Int}{y:Int}(h:l.length=1)(hy:l[0]?=some y) : l= [y]:=by
 match l,h with
 | [z],_=>cases hy;rfl
theorem hidden_e(m:ModS)(hm:LayOK m.sorts m.tables) : CallP Tryz.prog 55 [mdl m] (.val (.bool (decide (HidX m)))):=by
 have hml:=hm.2.2.1
 refine CallA.of pg ord55 Tryz.func55 rfl Tryz.ntmps55 Tryz.results55 rfl fun h0 G0 O0=>?_
 by_cases hl:m.hides.length≤12
 rotate_left
 ·repeat'(first|apply Sp.h|refine Lk.r rfl ?_|refine Rf.mk rfl ?_|refine xA ?_|apply Im.mk|apply All.mk|refine xT ?_|refine xN ?_|intro _)
  exact Fin.p rfl (vb (zF fun h:HidX m=>hl h.l).symm)
 repeat'(first|apply Sp.h|refine Lk.r rfl ?_|refine Rf.mk rfl ?_|refine xB ?_|apply Im.mk|apply All.mk|refine xT ?_|intro _)
 rename_i b1 _
 refine CA.loop (fun i:Nat=>⟨[(1, .val (.pointer (some ⟨b1,0,none⟩))),(3,it i)],[blkR b1 30 (modC m)]⟩) (fun i=>i≤m.hides.length∧∀j h,j < i→m.hides[j]?=some h→HidI m h) (fun i=>m.hides.length - i) 0 xE ⟨zZ _,fun j h hj=>by omega⟩ ?_
 rintro i ⟨hi,hii⟩
 by_cases hin:i < m.hides.length
 ·obtain⟨⟨ht,hcol,hto⟩,hh⟩:=get_of hin
  have hno:¬HidI m (ht,hcol,hto)→¬HidX m:=fun h h2=>h (h2.i i _ hh)
  by_cases hb:0≤ht∧ht < m.tables.length∧0≤hto∧hto < m.tables.length
  ·obtain⟨j1,rfl⟩:=Int.eq_ofNat_of_zero_le hb.1
   obtain⟨j2,rfl⟩:=Int.eq_ofNat_of_zero_le hb.2.2.1
   obtain⟨-,hb1,-,hb2⟩:=hb
   obtain⟨t,htt⟩:=get_of (l:=m.tables) (i:=j1) (by omega)
   obtain⟨u,huu⟩:=get_of (l:=m.tables) (i:=j2) (by omega)
   by_cases hc:0≤hcol∧hcol < t.cols.length∧u.cols.length=1
   ·obtain⟨j3,rfl⟩:=Int.eq_ofNat_of_zero_le hc.1
    obtain⟨-,hc1,hc2⟩:=hc
    obtain⟨x,hx⟩:=get_of (l:=t.cols) (i:=j3) (by omega)
    obtain⟨y,hy⟩:=get_of (l:=u.cols) (i:=0) (by omega)
    have hu1:=cols_one hc2 hy
    by_cases hI:HidI m ((j1:Int),(j3:Int),(j2:Int))
    ·have hgo:=alli_succ hh hii hI
     obtain⟨k1,k2,k3,t',u',x',e1,e2,e3,e4,e5,e6,e7,e8,e9,e10⟩:=hI
     simp only at e1 e3 e8
     obtain rfl:j1=k1:=by omega
     obtain rfl:j2=k2:=by omega
     obtain rfl:j3=k3:=by omega
     rw [htt] at e2;cases e2
     rw [huu] at e4;cases e4
     rw [hx] at e9;cases e9
     rw [hu1] at e10;injection e10 with e10
     repeat'(first|apply Sp.h|refine Lk.r rfl ?_|refine Rf.mk rfl ?_|refine xA ?_|refine xB ?_|refine OpK.r rfl ?_|refine xP ?_|apply Im.mk|apply All.mk|refine xT ?_|refine xI ?_|refine Ch.l ⟨rfl,rfl⟩ ?_|(apply SetAsk.r;focus repeat' constructor)|refine xN ?_|refine xD ?_|exact trivial|(apply CA.drawF;(focus rfl);(focus kernel_rfl);(focus kernel_rfl);(focus repeat' constructor);(focus rfl);intro _n0 _hlt)|(apply NfK.lt;(focus first|assumption|omega|(apply _hlt;repeat constructor)))|apply RA'.both|refine xO ?_|intro _)
     all_goals first
      | exact PA.lp (i+1) xE ⟨⟨hin,hgo⟩,by omega⟩
      | exact(by omega:False).elim
    ·have hno:=hno hI
     repeat'(first|apply Sp.h|refine Lk.r rfl ?_|refine Rf.mk rfl ?_|refine xA ?_|refine xB ?_|apply Bd.mk|refine OpK.r rfl ?_|refine xP ?_|apply Im.mk|apply All.mk|refine xT ?_|refine xI ?_|refine Ch.l ⟨rfl,rfl⟩ ?_|(apply SetAsk.r;focus repeat' constructor)|refine xN ?_|refine xD ?_|exact trivial|(apply CA.drawF;(focus rfl);(focus kernel_rfl);(focus kernel_rfl);(focus repeat' constructor);(focus rfl);intro _n0 _hlt)|(apply NfK.lt;(focus first|assumption|omega|(apply _hlt;repeat constructor)))|apply RA'.both|refine xO ?_|intro _)
     all_goals first
      | exact Fin.p rfl (vb (zF hno).symm)
      | exact(hI ⟨j1,j2,j3,t,u,x,rfl,htt,rfl,huu,by omega,by omega,by omega,rfl,hx,by rw [hu1,show y=x by omega]⟩).elim
   ·have hno:=hno fun⟨k1,k2,k3,t',u',x',e1,e2,e3,e4,e5,e6,e7,e8,e9,e10⟩=>by
     simp only at e1 e3 e8
     obtain rfl:j1=k1:=by omega
     obtain rfl:j2=k2:=by omega
     rw [htt] at e2;cases e2
     rw [huu] at e4;cases e4
     have:=(zS.1 e9).1
     exact hc ⟨by omega,by omega,by rw [e10];rfl⟩
    repeat'(first|apply Sp.h|refine Lk.r rfl ?_|refine Rf.mk rfl ?_|refine xA ?_|refine xB ?_|apply Bd.mk|refine OpK.r rfl ?_|refine xP ?_|apply Im.mk|apply All.mk|refine xT ?_|refine xI ?_|refine Ch.l ⟨rfl,rfl⟩ ?_|(apply SetAsk.r;focus repeat' constructor)|refine xN ?_|refine xD ?_|exact trivial|(apply CA.drawF;(focus rfl);(focus kernel_rfl);(focus kernel_rfl);(focus repeat' constructor);(focus rfl);intro _n0 _hlt)|(apply NfK.lt;(focus first|assumption|omega|(apply _hlt;repeat constructor)))|apply RA'.both|intro _)
    all_goals first
     | exact Fin.p rfl (vb (zF hno).symm)
     | exact(hc ⟨by omega,by omega,by omega⟩).elim
  ·have hno:=hno fun⟨k1,k2,k3,t',u',x',e1,e2,e3,e4,_⟩=>by
    simp only at e1 e3
    have:=(zS.1 e2).1
    have:=(zS.1 e4).1
    exact hb ⟨by omega,by omega,by omega,by omega⟩
   repeat'(first|apply Sp.h|refine Lk.r rfl ?_|refine Rf.mk rfl ?_|refine xA ?_|refine xB ?_|apply Bd.mk|apply Im.mk|apply All.mk|refine xT ?_|refine xI ?_|refine Ch.l ⟨rfl,rfl⟩ ?_|(apply SetAsk.r;focus repeat' constructor)|refine xN ?_|intro _)
   all_goals first
    | exact Fin.p rfl (vb (zF hno).symm)
    | exact(hb ⟨by omega,by omega,by omega,by omega⟩).elim
 ·have:i=m.hides.length:=by omega
  subst this
  have hii:=alli_all hii
  repeat'(first|apply Sp.h|refine Lk.r rfl ?_|refine Rf.mk rfl ?_|refine xB ?_|apply Im.mk|refine xT ?_|intro _)
  refine CA.loop (fun i:Nat=>⟨[(1, .val (.pointer (some ⟨b1,0,none⟩))),(7,it i)],[blkR b1 30 (modC m)]⟩) (fun i=>i≤m.hides.length∧∀j h,j < i→m.hides[j]?=some h→¬Leads m.hides m.tables.length h.2.2 h.1) (fun i=>m.hides.length - i) 0 xE ⟨zZ _,fun j h hj=>by omega⟩ ?_
  rintro i ⟨hi,hld⟩
  by_cases hin:i < m.hides.length
  ·obtain⟨⟨h1,h2,h3⟩,hh⟩:=get_of hin
   have hle:=leads_e m m.tables.length (by omega) h3 h1
   by_cases hL:Leads m.hides m.tables.length h3 h1
   ·repeat'(first|apply Sp.h|refine Lk.r rfl ?_|refine Rf.mk rfl ?_|refine xA ?_|refine OpK.r rfl ?_|refine Im.mk fun _=>?_|refine xT ?_|refine xI ?_|refine Ch.l ⟨rfl,rfl⟩ ?_|refine xN ?_|refine xD ?_|(apply Cl.p (hle);focus repeat' constructor))
    exact Fin.p rfl (vb (zF fun h:HidX m=>h.a i _ hh hL).symm)
   ·repeat'(first|apply Sp.h|refine Lk.r rfl ?_|refine Rf.mk rfl ?_|refine xA ?_|refine xB ?_|refine OpK.r rfl ?_|refine Im.mk fun _=>?_|refine xT ?_|refine xI ?_|refine Ch.l ⟨rfl,rfl⟩ ?_|refine xD ?_|refine xO ?_|(apply Cl.p (hle);focus repeat' constructor))
    exact PA.lp (i+1) xE ⟨⟨hin,alli_succ hh hld hL⟩,by omega⟩
  ·have:i=m.hides.length:=by omega
   subst this
   repeat'(first|apply Sp.h|refine Lk.r rfl ?_|refine Rf.mk rfl ?_|refine xB ?_|apply Im.mk|refine xT ?_|refine xN ?_|intro _)
   exact Fin.p rfl (vb (zT (show HidX m from⟨hl,hii,alli_all hld⟩)).symm)
structure ValX (m:ModS):Prop where
 lay:LayX m.sorts m.tables
 fl:m.families.length≤24
 fd:DisX m.families
 con:ConX m
 act:ActX m
 hid:HidX m
noncomputable instance (m:ModS):Decidable (ValX m):=zC _
theorem valid13_e(m:ModS)(hol:m.ops.length≤1000000000)(hur:UpdsRg m) : CallP Tryz.prog 11 [mdl m] (.val (.bool (decide (ValX m)))):=by
 have h9:=valid9_e m.sorts m.tables
 have hfd:=distinct_e m.families
 have hact:=actions_e m hol hur
 refine CallA.of pg ordZ Tryz.func11 rfl Tryz.ntmps11 Tryz.results11 rfl fun h0 G0 O0=>?_
 by_cases hx:LayX m.sorts m.tables∧m.families.length≤24∧DisX m.families
 rotate_left
 ·have hno:¬ValX m:=fun h=>hx ⟨h.lay,h.fl,h.fd⟩
  repeat'(first|apply Sp.h|refine Lk.r rfl ?_|refine Rf.mk rfl ?_|refine xA ?_|refine xB ?_|(refine Bd.mk ?_ ?_ <;> intro _)|refine Im.mk fun _=>?_|refine All.mk fun _=>?_|refine xT ?_|refine Ch.l ⟨rfl,rfl⟩ ?_|refine xN ?_|(apply Cl.p (h9);focus repeat' constructor)|(apply Cl.p (hfd);focus repeat' constructor))
  all_goals first
   | exact Fin.p rfl (vb (zF hno).symm)
   | exact(hx ⟨by assumption,by omega,by assumption⟩).elim
 obtain⟨x1,x2,x3⟩:=hx
 have hcon:=constraints_e m x1.ok
 have hhid:=hidden_e m x1.ok
 by_cases hc:ConX m
 ·by_cases ha:ActX m
  ·repeat'(first|apply Sp.h|refine Lk.r rfl ?_|refine Rf.mk rfl ?_|refine xA ?_|refine xB ?_|refine Im.mk fun _=>?_|refine All.mk fun _=>?_|refine xT ?_|refine Ch.l ⟨rfl,rfl⟩ ?_|refine xN ?_|(apply Cl.p (h9);focus(repeat' constructor);done)|(apply Cl.p (hfd);focus(repeat' constructor);done)|(apply Cl.p (hcon);focus(repeat' constructor);done)|(apply Cl.p (hact);focus(repeat' constructor);done)|(apply Cl.p (hhid);focus(repeat' constructor);done))
   refine Fin.p rfl (vb ?_)
   exact zD.2 ⟨fun h=>⟨x1,x2,x3,hc,ha,h⟩,fun h=>h.hid⟩
  ·repeat'(first|apply Sp.h|refine Lk.r rfl ?_|refine Rf.mk rfl ?_|refine xA ?_|refine xB ?_|refine Im.mk fun _=>?_|refine All.mk fun _=>?_|refine xT ?_|refine Ch.l ⟨rfl,rfl⟩ ?_|refine xN ?_|(apply Cl.p (h9);focus(repeat' constructor);done)|(apply Cl.p (hfd);focus(repeat' constructor);done)|(apply Cl.p (hcon);focus(repeat' constructor);done)|(apply Cl.p (hact);focus(repeat' constructor);done)|(apply Cl.p (hhid);focus(repeat' constructor);done))
   exact Fin.p rfl (vb (zF fun h:ValX m=>ha h.act).symm)
 ·repeat'(first|apply Sp.h|refine Lk.r rfl ?_|refine Rf.mk rfl ?_|refine xA ?_|refine xB ?_|refine Im.mk fun _=>?_|refine All.mk fun _=>?_|refine xT ?_|refine Ch.l ⟨rfl,rfl⟩ ?_|refine xN ?_|(apply Cl.p (h9);focus(repeat' constructor);done)|(apply Cl.p (hfd);focus(repeat' constructor);done)|(apply Cl.p (hcon);focus(repeat' constructor);done)|(apply Cl.p (hact);focus(repeat' constructor);done)|(apply Cl.p (hhid);focus(repeat' constructor);done))
  exact Fin.p rfl (vb (zF fun h:ValX m=>hc h.con).symm)
end Go.Proofs.YtmjllbjfkafhdaaGreatDoor
