/- Part 12 of the ground of this proof: what its texts say of the model, the program and the plain data; conditions: those that are named. -/
import Derived.Test.YtmllihbhphnolaaGreatP11
namespace Go.Proofs.YtmllihbhphnolaaGreat
open Go Go.CF
set_option maxRecDepth 20000
abbrev basC (b : NowS) : List AV := [ints b.clock, it b.time, ints b.state, mgs b.merged, nl0, nl0, ints b.places]
abbrev basA (b : NowS) : AV := .agg (basC b)
abbrev stoC (m : ModS) (b : NowS) (v : Value) (w : NowS) : List AV := [ints m.sorts, tbls m.tables, .sl 1 m.families strC, .sl 6 m.cons cnsC, .sl 3 m.ops opC, .sl 5 m.acts actC, .sl 3 m.hides updC, ints b.clock, it b.time, ints b.state, mgs b.merged, nl0, nl0, ints b.places, .ow v, ints w.clock, it w.time, ints w.state, mgs w.merged, ints w.places]
abbrev stoR (p : Nat) (m : ModS) (b : NowS) (v : Value) (w : NowS) : Res := blkR p 165 (stoC m b v w)
abbrev stpC (s : Nat) (e : EvS) (w : NowS) : List AV := [pm s, iv e.rep, iv e.num, iv e.time, ints e.past, iv e.kind, iv e.action, iv e.gk, iv e.gi, iv e.ge, iv e.ga, iv e.to, iv e.place, iv e.serial, ints w.clock, it w.time, ints w.state, mgs w.merged, ints w.places]
abbrev stpR (p s : Nat) (e : EvS) (w : NowS) : Res := blkR p 175 (stpC s e w)
theorem name35_p (e : EvS) : CallP Tryz.prog 88 [evA' e] (dotC e.rep e.num) := by
 refine CallA.of pg ord88 Tryz.func88 rfl Tryz.ntmps88 Tryz.results88 rfl fun h0 G0 O0 => ?_
 repeat' (first|refine Sp.h ?_|refine Lk.r rfl ?_|refine Rf.mk rfl ?_|(refine All.mk ?_;intro _)|(apply TkB.r;(focus repeat constructor))|(apply SetAsk.r;(focus (repeat (first|exact SetAs.z|(apply SetAs.c;(focus (repeat first|assumption|constructor)))))))|(apply Fk.r;(focus (repeat (first|exact FillA.nil|(apply FillA.agg;(focus rfl);(focus rfl);(focus (repeat (first|exact SetAs.z|(apply SetAs.c;(focus (repeat first|assumption|constructor)))))))|(apply FillA.one;(focus rfl);(focus infer_instance);(focus (repeat first|assumption|constructor)))))))|(apply Nm.r;focus repeat constructor)|fail)
 exact Fin.p rfl rfl
theorem count_a (x s : Nat) (e : EvS) (w : NowS) (h0 : 0 ≤ e.rep) (h1 : e.rep.toNat < w.clock.length) (hl : w.clock.length ≤ 5) :
  CallA Tryz.prog 90 [pm x] [stpR x s e w] fun r own => r = it 0 ∧ own = [stpR x s e { w with clock := cntF w.clock e }] := by
 obtain ⟨y, hy⟩ := get_of h1
 have hc := clone_o w.clock (by omega)
 have hcnt : cntF w.clock e = w.clock.set e.rep.toNat (max y e.num) := by rw [cntF, hy];rfl
 rw [hcnt]
 refine CallA.of pg ord90 Tryz.func90 rfl Tryz.ntmps90 Tryz.results90 rfl fun h0 G0 O0 => ?_
 repeat' (first|refine Sp.h ?_|refine Lk.r rfl ?_|refine Rf.mk rfl ?_|(apply TkB.r;(focus repeat constructor))|fail)
 (refine Cl.use (hc) (by repeat' (first|exact Lend.nil|apply Lend.keep|fail)) .nil rfl ?_;rintro _ _ ⟨_, rfl, rfl⟩)
 (repeat' (first|(show CA _ _ (Code.region 3 _ _) _ _;apply Stopped.out)|refine Sp.h ?_|refine Lk.r rfl ?_|refine Rf.mk rfl ?_|refine OpK.r rfl ?_|(apply TkA.r;(focus repeat constructor))|(apply TkB.r;(focus repeat constructor))|(apply Ix.r;(focus assumption);(focus omega))|(apply At.r;(focus assumption))|(apply SetAk.r;(focus (repeat first|assumption|constructor)))|refine Up.r rfl ?_|(apply CA.draw;(focus rfl);(focus kernel_rfl);(focus kernel_rfl);(focus repeat' constructor);(focus rfl))|fail));any_goals apply Stopped.mk
 (apply CA.own;(focus (apply OX.blk (b := x);(focus repeat constructor);(focus (repeat' (first|exact FX.nil|(apply FX.s1;(focus repeat constructor);(focus first|omega|(simp;done)|(simp;omega)))|apply FX.k)));(focus repeat constructor))))
 repeat' (first|refine Sp.h ?_|refine Lk.r rfl ?_|refine Rf.mk rfl ?_|(apply Nm.r;focus repeat constructor)|fail)
 exact ⟨_, _, .one (.same (.nil (by (repeat first|exact .nil|refine .cons (by repeat constructor) ?_)))), rfl, rfl⟩
set_option maxHeartbeats 4000000 in
theorem order_a (x s : Nat) (m : ModS) (b : NowS) (v : Value) (evs' : List EvS) (wn : NowS) (e : EvS) (w : NowS) (hl : evs'.length ≤ 1000000) :
  CallA Tryz.prog 91 [pm x] [stpR x s e w, stoR s m b v wn, arrR v 37 13 evs' evC] fun r own => (LateE evs' e ∧ r = it 2 ∧ own = [stoR s m b v wn, arrR v 37 13 evs' evC]) ∨ (¬ LateE evs' e ∧ r = it 0 ∧ own = [stpR x s e { w with time := max w.time e.time }, stoR s m b v wn, arrR v 37 13 evs' evC]) := by
 refine CallA.of pg ord91 Tryz.func91 rfl Tryz.ntmps91 Tryz.results91 rfl fun h0 G0 O0 => ?_
 repeat' (first|refine Sp.h ?_|refine Lk.r rfl ?_|refine Rf.mk rfl ?_|(apply TkA.r;(focus repeat constructor))|(apply TkB.r;(focus repeat constructor))|fail)
 refine CA.loop (fun i : Nat => ⟨[(0, pm x), (11, .ow v), (12, it (evs'.length : Nat)), (13, it i)], [stpR x s e w, stoR s m b v wn, arrR v 37 13 evs' evC]⟩) (fun i => i ≤ evs'.length ∧ ∀ y ∈ evs'.take i, ¬ (HasC e.past y.rep y.num ∧ e.time ≤ y.time)) (fun i => evs'.length - i) 0 ⟨by repeat first|trivial|refine ⟨rfl,?_⟩,by repeat first|exact .nil|refine .cons (by repeat constructor) ?_⟩ ⟨Nat.zero_le _, by simp⟩ ?_
 rintro i ⟨hi, ha⟩
 by_cases hin : i < evs'.length
 ·obtain ⟨y, hy⟩ := get_of hin
  have h1 := name35_p y
  have h2 := hasC_p e.past y.rep y.num
  by_cases hh : HasC e.past y.rep y.num
  ·by_cases ht : e.time ≤ y.time
   ·repeat' (first|refine Sp.h ?_|refine Lk.r rfl ?_|refine Rf.mk rfl ?_|(apply Bd.t;(focus first|assumption|omega|rfl))|refine OpK.r rfl ?_|(refine All.mk ?_;intro _)|(apply TkA.r;(focus repeat constructor))|(apply TkB.r;(focus repeat constructor))|(apply Ix.q;(focus exact rfl);(focus assumption))|(apply At.r;(focus assumption))|refine Ch.l ⟨rfl, rfl⟩ ?_|(apply SetAsk.r;(focus (repeat (first|exact SetAs.z|(apply SetAs.c;(focus (repeat first|assumption|constructor)))))))|(apply Nm.r;focus repeat constructor)|(apply CA.draw;(focus rfl);(focus kernel_rfl);(focus kernel_rfl);(focus repeat' constructor);(focus rfl))|(apply Cl.p (h1);(focus ((repeat' (first|exact Lend.nil|apply Lend.keep|fail));done)))|(apply Cl.p (h2);(focus ((repeat' (first|exact Lend.nil|apply Lend.keep|fail));done))))
    all_goals exact ⟨_, _, .one (.same (.nil (by (repeat first|exact .nil|refine .cons (by repeat constructor) ?_)))), .inl ⟨⟨y, List.mem_of_getElem? hy, hh, ht⟩, rfl, rfl⟩⟩
   ·repeat' (first|refine Sp.h ?_|refine Lk.r rfl ?_|refine Rf.mk rfl ?_|(apply Bd.t;(focus first|assumption|omega|rfl))|(apply Bd.f;(focus first|assumption|omega|exact Bool.false_ne_true))|refine OpK.r rfl ?_|(refine All.mk ?_;intro _)|(apply TkA.r;(focus repeat constructor))|(apply TkB.r;(focus repeat constructor))|(apply Ix.q;(focus exact rfl);(focus assumption))|(apply At.r;(focus assumption))|refine Ch.l ⟨rfl, rfl⟩ ?_|(apply SetAsk.r;(focus (repeat (first|exact SetAs.z|(apply SetAs.c;(focus (repeat first|assumption|constructor)))))))|(apply Nm.r;focus repeat constructor)|(apply CA.draw;(focus rfl);(focus kernel_rfl);(focus kernel_rfl);(focus repeat' constructor);(focus rfl))|(apply Ov.n;(focus first|omega|(simp <;> omega)))|(apply Cl.p (h1);(focus ((repeat' (first|exact Lend.nil|apply Lend.keep|fail));done)))|(apply Cl.p (h2);(focus ((repeat' (first|exact Lend.nil|apply Lend.keep|fail));done))))
    all_goals exact PA.lp (i + 1) ⟨by repeat first|trivial|refine ⟨rfl,?_⟩,by repeat first|exact .nil|refine .cons (by repeat constructor) ?_⟩ ⟨⟨hin, all_succ hy ha (fun h => ht h.2)⟩, by omega⟩
  ·repeat' (first|refine Sp.h ?_|refine Lk.r rfl ?_|refine Rf.mk rfl ?_|(apply Bd.t;(focus first|assumption|omega|rfl))|(apply Bd.f;(focus first|assumption|omega|exact Bool.false_ne_true))|refine OpK.r rfl ?_|(refine All.mk ?_;intro _)|(apply TkA.r;(focus repeat constructor))|(apply TkB.r;(focus repeat constructor))|(apply Ix.q;(focus exact rfl);(focus assumption))|(apply At.r;(focus assumption))|refine Ch.l ⟨rfl, rfl⟩ ?_|(apply SetAsk.r;(focus (repeat (first|exact SetAs.z|(apply SetAs.c;(focus (repeat first|assumption|constructor)))))))|(apply Nm.r;focus repeat constructor)|(apply CA.draw;(focus rfl);(focus kernel_rfl);(focus kernel_rfl);(focus repeat' constructor);(focus rfl))|(apply Ov.n;(focus first|omega|(simp <;> omega)))|(apply Cl.p (h1);(focus ((repeat' (first|exact Lend.nil|apply Lend.keep|fail));done)))|(apply Cl.p (h2);(focus ((repeat' (first|exact Lend.nil|apply Lend.keep|fail));done))))
   all_goals exact PA.lp (i + 1) ⟨by repeat first|trivial|refine ⟨rfl,?_⟩,by repeat first|exact .nil|refine .cons (by repeat constructor) ?_⟩ ⟨⟨hin, all_succ hy ha (fun h => hh h.1)⟩, by omega⟩
 ·have hie : i = evs'.length := by omega
  subst hie
  rw [List.take_length] at ha
  repeat' (first|refine Sp.h ?_|refine Lk.r rfl ?_|refine Rf.mk rfl ?_|(apply Bd.f;(focus first|assumption|omega|exact Bool.false_ne_true))|refine OpK.r rfl ?_|(apply TkB.r;(focus repeat constructor))|(apply SetAk.r;(focus (repeat first|assumption|constructor)))|(apply Nm.r;focus repeat constructor)|(apply CA.draw;(focus rfl);(focus kernel_rfl);(focus kernel_rfl);(focus repeat' constructor);(focus rfl))|fail)
  exact ⟨_, _, .one (.same (.nil (by (repeat first|exact .nil|refine .cons (by repeat constructor) ?_)))), .inr ⟨fun ⟨y, hy, h⟩ => ha y hy h, rfl, rfl⟩⟩
theorem dltF_at {m : ModS} {e : EvS} {a : ActS} (h : m.acts[e.action.toNat]? = some a) : dltF m e = a.eff.delta := by rw [dltF, h]
theorem addD_succ {s : List Int} {d : List (Int × Int)} {i : Nat} {p : Int × Int} (h : d[i]? = some p) : addD s (d.take (i + 1)) = add1 (addD s (d.take i)) p := by
 rw [List.take_add_one, h, addD, List.foldl_append];rfl
theorem addD_length (d : List (Int × Int)) : ∀ s : List Int, (addD s d).length = s.length := by
 induction d with
 | nil => intro s;rfl
 | cons p d ih => intro s;rw [addD, List.foldl_cons];exact (ih _).trans (by simp [add1])
set_option maxHeartbeats 4000000 in
theorem sadd_a (x s : Nat) (m : ModS) (b : NowS) (v : Value) (wn : NowS) (e : EvS) (w : NowS) (hm : MOK m) (hst : w.state.length = strF m) (hev : e.kind = 0 → 0 ≤ e.action ∧ e.action < (m.acts.length : Nat)) :
  CallA Tryz.prog 92 [pm x] [stpR x s e w, stoR s m b v wn] fun r own => (e.kind = 0 ∧ ¬ insS (addE m w.state e) ∧ r = it 2 ∧ own = [stoR s m b v wn]) ∨ (¬ (e.kind = 0 ∧ ¬ insS (addE m w.state e)) ∧ r = it 0 ∧ own = [stpR x s e { w with state := addE m w.state e }, stoR s m b v wn]) := by
 by_cases hk : e.kind = 0
 ·obtain ⟨h1, h2⟩ := hev hk
  obtain ⟨a, ha⟩ := get_of (l := m.acts) (i := e.action.toNat) (by omega)
  have hd := dltF_at ha
  have heo := hm.eff a (List.mem_of_getElem? ha)
  have hsl := hm.str
  have hadd : addE m w.state e = addD w.state a.eff.delta := by rw [addE, if_pos hk, hd]
  rw [hadd]
  have hc := clone_o w.state (by omega)
  have hin := inside35_p (addD w.state a.eff.delta)
  refine CallA.of pg ord92 Tryz.func92 rfl Tryz.ntmps92 Tryz.results92 rfl fun h0 G0 O0 => ?_
  repeat' (first|refine Sp.h ?_|refine Lk.r rfl ?_|refine Rf.mk rfl ?_|(apply Bd.t;(focus first|assumption|omega|rfl))|(apply TkB.r;(focus repeat constructor))|fail)
  (refine Cl.use (hc) (by repeat' (first|exact Lend.nil|apply Lend.keep|fail)) .nil rfl ?_;rintro _ _ ⟨_, rfl, rfl⟩)
  repeat' (first|refine Sp.h ?_|refine Lk.r rfl ?_|refine Rf.mk rfl ?_|refine OpK.r rfl ?_|(refine Im.mk ?_;intro _)|(apply TkB.r;(focus repeat constructor))|(apply Ix.r;(focus assumption);(focus omega))|(apply SetAk.r;(focus (repeat first|assumption|constructor)))|(apply CA.draw;(focus rfl);(focus kernel_rfl);(focus kernel_rfl);(focus repeat' constructor);(focus rfl))|fail)
  rename_i u _
  refine CA.loop (fun i : Nat => ⟨[(0, pm x), (37, terms a.eff.delta), (38, it (a.eff.delta.length : Nat)), (39, it i)], [arrR u 3 1 (addD w.state (a.eff.delta.take i)) intC, blkR x 175 [pm s, iv e.rep, iv e.num, iv e.time, ints e.past, iv e.kind, iv e.action, iv e.gk, iv e.gi, iv e.ge, iv e.ga, iv e.to, iv e.place, iv e.serial, ints w.clock, it w.time, .ow u, mgs w.merged, ints w.places], stoR s m b v wn]⟩) (fun i => i ≤ a.eff.delta.length) (fun i => a.eff.delta.length - i) 0 ⟨by repeat first|trivial|refine ⟨rfl,?_⟩,by repeat first|exact .nil|refine .cons (by repeat constructor) ?_⟩ (Nat.zero_le _) ?_
  intro i hi
  have hlen := addD_length (a.eff.delta.take i) w.state
  by_cases hil : i < a.eff.delta.length
  ·obtain ⟨p, hp⟩ := get_of hil
   obtain ⟨p1, p2⟩ := heo.d p (List.mem_of_getElem? hp)
   obtain ⟨z, hz⟩ := get_of (l := addD w.state (a.eff.delta.take i)) (i := p.1.toNat) (by omega)
   have hs := addD_succ (s := w.state) hp
   rw [show add1 (addD w.state (a.eff.delta.take i)) p = (addD w.state (a.eff.delta.take i)).set p.1.toNat (IntKind.i64.wrap (z + p.2)) by rw [add1, hz];rfl] at hs
   repeat' (first|refine Sp.h ?_|refine Lk.r rfl ?_|refine Rf.mk rfl ?_|(apply Bd.t;(focus first|assumption|omega|rfl))|refine OpK.r rfl ?_|(refine All.mk ?_;intro _)|(apply TkA.r;(focus repeat constructor))|(apply TkB.r;(focus repeat constructor))|(apply Ix.q;(focus exact rfl);(focus assumption))|(apply Ix.r;(focus assumption);(focus omega))|(apply At.r;(focus assumption))|refine Ch.l ⟨rfl, rfl⟩ ?_|(apply SetAsk.r;(focus (repeat (first|exact SetAs.z|(apply SetAs.c;(focus (repeat first|assumption|constructor)))))))|(apply Nm.r;focus repeat constructor)|(apply CA.draw;(focus rfl);(focus kernel_rfl);(focus kernel_rfl);(focus repeat' constructor);(focus rfl))|fail)
   refine ⟨?_⟩
   repeat' (first|refine Sp.h ?_|refine Lk.r rfl ?_|refine Rf.mk rfl ?_|refine OpK.r rfl ?_|(apply TkA.r;(focus repeat constructor))|(apply Ix.r;(focus assumption);(focus omega))|(apply At.r;(focus assumption))|(apply SetAk.r;(focus (repeat first|assumption|constructor)))|refine Up.r rfl ?_|(apply Ov.n;(focus first|omega|(simp <;> omega)))|fail)
   rw [← hs]
   exact PA.lp (i + 1) ⟨by repeat first|trivial|refine ⟨rfl,?_⟩,by repeat first|exact .nil|refine .cons (by repeat constructor) ?_⟩ ⟨hil, by omega⟩
  ·have hie : i = a.eff.delta.length := by omega
   subst hie
   rw [List.take_length] at hlen ⊢
   by_cases hS : insS (addD w.state a.eff.delta)
   ·rw [decide_eq_true hS] at hin
    repeat' (first|refine Sp.h ?_|refine Lk.r rfl ?_|refine Rf.mk rfl ?_|(apply Bd.f;(focus first|assumption|omega|exact Bool.false_ne_true))|(apply TkB.r;(focus repeat constructor))|fail)
    (apply Cl.lend (hin);(focus repeat' (first|exact Lend.nil|(apply Lend.lend;(focus repeat constructor);(focus first|omega|(simp;omega)))|fail)))
    (repeat' (first|(show CA _ _ (Code.region 11 _ _) _ _;apply Stopped.out)|refine Sp.h ?_|refine Lk.r rfl ?_|(apply Bd.t;(focus first|assumption|omega|rfl))|fail));any_goals apply Stopped.mk
    (apply CA.own;(focus (apply OX.blk (b := x);(focus repeat constructor);(focus (repeat' (first|exact FX.nil|(apply FX.s1;(focus repeat constructor);(focus first|omega|(simp;done)|(simp;omega)))|apply FX.k)));(focus repeat constructor))))
    repeat' (first|refine Sp.h ?_|refine Lk.r rfl ?_|refine Rf.mk rfl ?_|(apply Nm.r;focus repeat constructor)|fail)
    exact ⟨_, _, .one (.same (.nil (by (repeat first|exact .nil|refine .cons (by repeat constructor) ?_)))), .inr ⟨fun h => h.2 hS, rfl, rfl⟩⟩
   ·rw [decide_eq_false hS] at hin
    repeat' (first|refine Sp.h ?_|refine Lk.r rfl ?_|refine Rf.mk rfl ?_|(apply Bd.f;(focus first|assumption|omega|exact Bool.false_ne_true))|(apply TkB.r;(focus repeat constructor))|fail)
    (apply Cl.lend (hin);(focus repeat' (first|exact Lend.nil|(apply Lend.lend;(focus repeat constructor);(focus first|omega|(simp;omega)))|fail)))
    repeat' (first|refine Sp.h ?_|refine Lk.r rfl ?_|refine Rf.mk rfl ?_|(apply Bd.f;(focus first|assumption|omega|exact Bool.false_ne_true))|(apply Nm.r;focus repeat constructor)|fail)
    exact ⟨_, _, .one (.same (.nil (by (repeat first|exact .nil|refine .cons (by repeat constructor) ?_)))), .inl ⟨hk, hS, rfl, rfl⟩⟩
 ·have hadd : addE m w.state e = w.state := if_neg hk
  rw [hadd]
  refine CallA.of pg ord92 Tryz.func92 rfl Tryz.ntmps92 Tryz.results92 rfl fun h0 G0 O0 => ?_
  repeat' (first|refine Sp.h ?_|refine Lk.r rfl ?_|refine Rf.mk rfl ?_|(apply Bd.f;(focus first|assumption|omega|exact Bool.false_ne_true))|(apply TkB.r;(focus repeat constructor))|(apply Nm.r;focus repeat constructor)|fail)
  exact ⟨_, _, .one (.same (.nil (by (repeat first|exact .nil|refine .cons (by repeat constructor) ?_)))), .inr ⟨fun h => hk h.1, rfl, rfl⟩⟩
theorem applyT_p (m : ModS) (l : List MgS) (e : EvS) (hm : MOK m) : CallP Tryz.prog 131 [mdl m, mgs l, evA' e] (.tup [mgs (applyF m l e).2, it (applyF m l e).1]) := by
 by_cases h0 : (applyF m l e).1 = 0
 ·obtain ⟨h1, _, h3, _, h5⟩ := applyF_ok h0
  have := h1.1
  have := hm.mrg
  have hF : applyF m l e = (0, (applyF m l e).2) := by rw [← h0]
  rw [h0]
  exact applyOK_p m l e _ hm hF (by omega) h5
 ·refine CallA.fx (apply_a m l e hm) ?_
  have h2 : (applyF m l e).2 = [] := by
   unfold applyF at h0 ⊢
   split
   ·rfl
   ·rename_i h1
    rw [if_neg h1] at h0
    split
    ·rename_i h2;rw [if_pos h2] at h0;exact absurd rfl h0
    ·rename_i h2
     rw [if_neg h2] at h0
     unfold gatherF at h0 ⊢
     split
     ·rfl
     ·rename_i h3
      rw [h3] at h0
      simp only at h0
      split
      ·rfl
      ·rename_i h4;rw [if_neg h4] at h0;exact absurd rfl h0
  rw [h2]
  rintro r o (⟨v, L, h, _⟩|⟨_, rfl, rfl⟩)
  ·exact absurd h h0
  ·exact .tup (FX.kn (FX.refl _)) .nil
theorem update_a (x s : Nat) (m : ModS) (b : NowS) (v : Value) (wn : NowS) (e : EvS) (w : NowS) (hm : MOK m) :
  CallA Tryz.prog 93 [pm x] [stpR x s e w, stoR s m b v wn] fun r own => r = it (applyF m w.merged e).1 ∧ own = [stpR x s e { w with merged := (applyF m w.merged e).2 }, stoR s m b v wn] := by
 have ha := applyT_p m w.merged e hm
 refine CallA.of pg ord93 Tryz.func93 rfl Tryz.ntmps93 Tryz.results93 rfl fun h0 G0 O0 => ?_
 repeat' (first|refine Sp.h ?_|refine Lk.r rfl ?_|refine Rf.mk rfl ?_|refine OpK.r rfl ?_|(apply TkB.r;(focus repeat constructor))|refine Ch.r ?_|(apply SetAk.r;(focus (repeat first|assumption|constructor)))|(apply Nm.r;focus repeat constructor)|(apply CA.draw;(focus rfl);(focus kernel_rfl);(focus kernel_rfl);(focus repeat' constructor);(focus rfl))|(apply Cl.p (ha);(focus repeat' (first|exact Lend.nil|apply Lend.keep|fail))))
 exact ⟨_, _, .one (.same (.nil (by (repeat first|exact .nil|refine .cons (by repeat constructor) ?_)))), rfl, rfl⟩
theorem place_a (x s : Nat) (e : EvS) (w : NowS) (hp : SrtI w.places) (hl : w.places.length ≤ 100000) :
  CallA Tryz.prog 94 [pm x] [stpR x s e w] fun r own => r = it 0 ∧ own = [stpR x s e { w with places := plE w.places e }] := by
 have hw := with_p w.places e.place hp hl
 by_cases h : 0 < e.place
 ·rw [show plE w.places e = withP w.places e.place from if_pos h]
  refine CallA.of pg ord94 Tryz.func94 rfl Tryz.ntmps94 Tryz.results94 rfl fun h0 G0 O0 => ?_
  repeat' (first|refine Sp.h ?_|refine Lk.r rfl ?_|refine Rf.mk rfl ?_|(apply Bd.t;(focus first|assumption|omega|rfl))|refine OpK.r rfl ?_|(apply TkB.r;(focus repeat constructor))|(apply SetAk.r;(focus (repeat first|assumption|constructor)))|(apply Nm.r;focus repeat constructor)|(apply CA.draw;(focus rfl);(focus kernel_rfl);(focus kernel_rfl);(focus repeat' constructor);(focus rfl))|(apply Cl.p (hw);(focus repeat' (first|exact Lend.nil|apply Lend.keep|fail))))
  exact ⟨_, _, .one (.same (.nil (by (repeat first|exact .nil|refine .cons (by repeat constructor) ?_)))), rfl, rfl⟩
 ·rw [show plE w.places e = w.places from if_neg h]
  refine CallA.of pg ord94 Tryz.func94 rfl Tryz.ntmps94 Tryz.results94 rfl fun h0 G0 O0 => ?_
  repeat' (first|refine Sp.h ?_|refine Lk.r rfl ?_|refine Rf.mk rfl ?_|(apply Bd.f;(focus first|assumption|omega|exact Bool.false_ne_true))|(apply TkB.r;(focus repeat constructor))|(apply Nm.r;focus repeat constructor)|(apply Cl.p (hw);(focus repeat' (first|fail))))
  exact ⟨_, _, .one (.same (.nil (by (repeat first|exact .nil|refine .cons (by repeat constructor) ?_)))), rfl, rfl⟩
theorem svalid_p (s : Nat) (m : ModS) (b : NowS) (v : Value) (w : NowS) (e : EvS) :
  CallA Tryz.prog 87 [pm s, evA' e] [stoR s m b v w] fun r own => r = bl (decide (EvV m (w.clock.length : Nat) e)) ∧ own = [stoR s m b v w] := by
 have hv := evalid_p m (w.clock.length : Nat) e
 refine CallA.of pg ord87 Tryz.func87 rfl Tryz.ntmps87 Tryz.results87 rfl fun h0 G0 O0 => ?_
 repeat' (first|refine Sp.h ?_|refine Lk.r rfl ?_|refine Rf.mk rfl ?_|refine OpK.r rfl ?_|(refine Im.mk ?_;intro _)|(refine All.mk ?_;intro _)|(apply TkB.r;(focus repeat constructor))|refine Ch.l ⟨rfl, rfl⟩ ?_|refine Ch.r ?_|(apply Nm.r;focus repeat constructor)|(apply CA.draw;(focus rfl);(focus kernel_rfl);(focus kernel_rfl);(focus repeat' constructor);(focus rfl))|(apply Cl.p (hv);(focus repeat' (first|exact Lend.nil|apply Lend.keep|fail))))
 exact ⟨_, _, .one (.same (.nil (by (repeat first|exact .nil|refine .cons (by repeat constructor) ?_)))), rfl, rfl⟩
end Go.Proofs.YtmllihbhphnolaaGreat
namespace Go.CF
open Go
def AV.fb (f : FuncId) (bs : List AV) : AV := ⟨fun h G u => ∃ vs, u = .func (.func f) vs.toArray #[] ∧ RepT h G vs bs, by rintro h h' G v x ⟨vs, e, r⟩;exact ⟨vs, e, r.stp x⟩, by rintro h G G' v x ⟨vs, e, r⟩;exact ⟨vs, e, r.mono x⟩⟩
section
variable {Γ : Cx} {k : List KI} {e : EA} {o : List Res} {N : NA} {c : Cls} {d : Tmp} {ty : TypeId} {x y : Operand}
instance {f : FuncId} {bs : List AV} : OneA (.fb f bs) := ⟨by rintro h G u ⟨vs, rfl, _⟩;rfl⟩
instance {f : FuncId} : Sp (SA Γ c (some d) (.makeFunc (.func f) #[x] #[]) ty e o N) (Lk (evAs e [x]) fun cs => N ((d, .fb f cs) :: e) o) := ⟨fun ⟨cs, hcs, hn⟩ => ⟨fun env hp G Os c => by
 obtain ⟨vs, h1, h2⟩ := c.gets hcs
 exact St.makeFunc (l2 := []) h1 rfl (CN.mk (c.put d (a := .fb f cs) ⟨vs, rfl, h2⟩) hn)⟩⟩
instance {f : FuncId} {cs asx : List AV} {args : Array Operand} {tys : Array TypeId} : Sp (ClF Γ c d x args tys ty e o N (.fb f cs) asx) (Rf (Γ.fp.n = none) (Rf (Γ.en f = true) (Cl Γ c f (cs ++ asx) o fun r o' => N ((d, r) :: e) o'))) := ⟨fun ⟨hfp, he, h⟩ => ⟨fun ha hb hc => ⟨fun env hh G Os cn => by
 obtain ⟨v, g1, ws, rfl, g2⟩ := cn.get ha
 obtain ⟨vs, g3, g4⟩ := cn.gets hb
 exact St.callT (cap := []) Γ.ok g1 g3 he hc (by rw [List.append_nil];exact (cl_sa (dst := some d) cn (g2.app g4) hfp h).mono fun v h' hk => hk.2)⟩⟩⟩
end
end Go.CF
namespace Go.Proofs.YtmllihbhphnolaaGreat
open Go Go.CF
set_option maxRecDepth 20000
structure NowOK (m : ModS) (w : NowS) : Prop where
 clk : ValC w.clock
 st : w.state.length = strF m
 pls : SrtI w.places
 pll : w.places.length ≤ 100000
noncomputable def evsD (m : ModS) (evs : List EvS) (w : NowS) (e : EvS) : List EvS := if (deliverF m evs w e).1 = 0 then evs ++ [e] else evs
noncomputable def wI (m : ModS) (w : NowS) (e : EvS) : Nat → NowS
 | 0 => w
 | 1 => { w with clock := cntF w.clock e }
 | 2 => { w with clock := cntF w.clock e, time := max w.time e.time }
 | 3 => { w with clock := cntF w.clock e, time := max w.time e.time, state := addE m w.state e }
 | 4 => { w with clock := cntF w.clock e, time := max w.time e.time, state := addE m w.state e, merged := (applyF m w.merged e).2 }
 | _ => ⟨cntF w.clock e, max w.time e.time, addE m w.state e, (applyF m w.merged e).2, plE w.places e⟩
def fnL (x : Nat) : List (List AV) := [[AV.fb 90 [pm x]], [AV.fb 91 [pm x]], [AV.fb 92 [pm x]], [AV.fb 93 [pm x]], [AV.fb 94 [pm x]]]
theorem act_rng {e : EvS} (h : FormedE e) (hk : e.kind = 0) : 0 ≤ e.action := by
 have := (kind0 hk).1 h.2.2.2.2.2
 unfold Sub0 Btw at this
 omega
set_option maxHeartbeats 8000000 in
theorem deliver_a (s : Nat) (m : ModS) (b : NowS) (v : Value) (evl : List EvS) (w : NowS) (e : EvS) (hm : MOK m) (hw : NowOK m w) (hl : evl.length ≤ 100000) :
  CallA Tryz.prog 21 [pm s, evA' e] [stoR s m b v w, arrR v 37 13 evl evC] fun r own => r = it (deliverF m evl w e).1 ∧ ∃ v', own = [stoR s m b v' (deliverF m evl w e).2, arrR v' 37 13 (evsD m evl w e) evC] := by
 have hva := svalid_p s m b v w e
 by_cases h1 : EvV m (w.clock.length : Nat) e
 rotate_left
 ·have hF : deliverF m evl w e = (1, w) := by rw [deliverF, if_pos h1]
  rw [decide_eq_false h1] at hva
  rw [evsD, hF]
  refine CallA.of pg ord21 Tryz.func21 rfl Tryz.ntmps21 Tryz.results21 rfl fun h0 G0 O0 => ?_
  repeat' (first|refine Sp.h ?_|refine Lk.r rfl ?_|refine Rf.mk rfl ?_|(refine All.mk ?_;intro _)|(apply TkB.r;(focus repeat constructor))|refine Ch.l ⟨rfl, rfl⟩ ?_|fail)
  (apply Cl.use (hva);(focus repeat' (first|exact Lend.nil|apply Lend.keep|fail));(focus (repeat (first|exact Takes.nil|(apply Takes.cons;(focus repeat constructor)))));(focus rfl))
  rintro _ _ ⟨rfl, rfl⟩
  repeat' (first|refine Sp.h ?_|refine Lk.r rfl ?_|refine Rf.mk rfl ?_|(apply Bd.f;(focus first|assumption|omega|exact Bool.false_ne_true))|(apply Nm.r;focus repeat constructor)|fail)
  exact ⟨_, _, .one (.same (.nil (by (repeat first|exact .nil|refine .cons (by repeat constructor) ?_)))), rfl, v, rfl⟩
 rw [decide_eq_true h1] at hva
 have hn := name35_p e
 have hh := hasC_p w.clock e.rep e.num
 by_cases h2 : HasC w.clock e.rep e.num
 ·have hF : deliverF m evl w e = (6, w) := by rw [deliverF, if_neg (fun h => h h1), if_pos h2]
  rw [decide_eq_true h2] at hh
  rw [evsD, hF]
  refine CallA.of pg ord21 Tryz.func21 rfl Tryz.ntmps21 Tryz.results21 rfl fun h0 G0 O0 => ?_
  repeat' (first|refine Sp.h ?_|refine Lk.r rfl ?_|refine Rf.mk rfl ?_|(refine All.mk ?_;intro _)|(apply TkB.r;(focus repeat constructor))|refine Ch.l ⟨rfl, rfl⟩ ?_|fail)
  (apply Cl.use (hva);(focus repeat' (first|exact Lend.nil|apply Lend.keep|fail));(focus (repeat (first|exact Takes.nil|(apply Takes.cons;(focus repeat constructor)))));(focus rfl))
  rintro _ _ ⟨rfl, rfl⟩
  repeat' (first|refine Sp.h ?_|refine Lk.r rfl ?_|refine Rf.mk rfl ?_|(apply Bd.t;(focus first|assumption|omega|rfl))|refine OpK.r rfl ?_|(apply TkB.r;(focus repeat constructor))|refine Ch.l ⟨rfl, rfl⟩ ?_|(apply Nm.r;focus repeat constructor)|(apply CA.draw;(focus rfl);(focus kernel_rfl);(focus kernel_rfl);(focus repeat' constructor);(focus rfl))|(apply Cl.p (hn);(focus ((repeat' (first|exact Lend.nil|apply Lend.keep|fail));done)))|(apply Cl.p (hh);(focus ((repeat' (first|exact Lend.nil|apply Lend.keep|fail));done))))
  exact ⟨_, _, .one (.same (.nil (by (repeat first|exact .nil|refine .cons (by repeat constructor) ?_)))), rfl, v, rfl⟩
 rw [decide_eq_false h2] at hh
 have hmi := missing_o w.clock e.past
 have hal : AlikeC [w.clock, e.past] := (alike2 _ _).2 ⟨hw.clk, h1.1.1, by have := h1.2.1;omega⟩
 by_cases h3 : Ins e.past w.clock
 rotate_left
 ·have hF : deliverF m evl w e = (9, w) := by rw [deliverF, if_neg (fun h => h h1), if_neg h2, if_pos h3]
  rw [evsD, hF]
  refine CallA.of pg ord21 Tryz.func21 rfl Tryz.ntmps21 Tryz.results21 rfl fun h0 G0 O0 => ?_
  repeat' (first|refine Sp.h ?_|refine Lk.r rfl ?_|refine Rf.mk rfl ?_|(refine All.mk ?_;intro _)|(apply TkB.r;(focus repeat constructor))|refine Ch.l ⟨rfl, rfl⟩ ?_|fail)
  (apply Cl.use (hva);(focus repeat' (first|exact Lend.nil|apply Lend.keep|fail));(focus (repeat (first|exact Takes.nil|(apply Takes.cons;(focus repeat constructor)))));(focus rfl))
  rintro _ _ ⟨rfl, rfl⟩
  repeat' (first|refine Sp.h ?_|refine Lk.r rfl ?_|refine Rf.mk rfl ?_|(apply Bd.t;(focus first|assumption|omega|rfl))|refine OpK.r rfl ?_|(apply TkB.r;(focus repeat constructor))|refine Ch.l ⟨rfl, rfl⟩ ?_|(apply CA.draw;(focus rfl);(focus kernel_rfl);(focus kernel_rfl);(focus repeat' constructor);(focus rfl))|(apply Cl.p (hn);(focus ((repeat' (first|exact Lend.nil|apply Lend.keep|fail));done)))|(apply Cl.p (hh);(focus ((repeat' (first|exact Lend.nil|apply Lend.keep|fail));done))))
  (apply Cl.use (hmi);(focus repeat' (first|exact Lend.nil|apply Lend.keep|fail));(focus (repeat (first|exact Takes.nil|(apply Takes.cons;(focus repeat constructor)))));(focus rfl))
  rintro _ _ ⟨u, l, rfl, rfl, hl1, hl2⟩
  have hl0 : 0 < l.length := List.length_pos_iff.2 fun h => h3 (hl1.1 h hal)
  repeat' (first|refine Sp.h ?_|refine Lk.r rfl ?_|refine Rf.mk rfl ?_|(apply Bd.t;(focus first|assumption|omega|rfl))|refine OpK.r rfl ?_|(apply TkA.r;(focus repeat constructor))|(apply Nm.r;focus repeat constructor)|fail)
  exact ⟨_, _, .one (.same (.nil (by (repeat first|exact .nil|refine .cons (by repeat constructor) ?_)))), rfl, v, rfl⟩
 have hrep : 0 ≤ e.rep ∧ e.rep.toNat < w.clock.length := by
  obtain ⟨_, f2, ⟨x, f3, _⟩, _⟩ := h1.1
  have := (List.getElem?_eq_some_iff.1 f3).1
  exact ⟨f2, by have := h1.2.1;omega⟩
 have hcl := hw.clk.2.2
 have hc4 : ∀ k, (wI m w e k).places = w.places ∨ 5 ≤ k := fun k => by
  match k with
  | 0 => exact .inl rfl
  | 1 => exact .inl rfl
  | 2 => exact .inl rfl
  | 3 => exact .inl rfl
  | 4 => exact .inl rfl
  | k + 5 => exact .inr (by omega)
 refine CallA.of pg ord21 Tryz.func21 rfl Tryz.ntmps21 Tryz.results21 rfl fun h0 G0 O0 => ?_
 repeat' (first|refine Sp.h ?_|refine Lk.r rfl ?_|refine Rf.mk rfl ?_|(refine All.mk ?_;intro _)|(apply TkB.r;(focus repeat constructor))|refine Ch.l ⟨rfl, rfl⟩ ?_|fail)
 rename_i b3
 (apply Cl.use (hva);(focus repeat' (first|exact Lend.nil|apply Lend.keep|fail));(focus (repeat (first|exact Takes.nil|(apply Takes.cons;(focus repeat constructor)))));(focus rfl))
 rintro _ _ ⟨rfl, rfl⟩
 repeat' (first|refine Sp.h ?_|refine Lk.r rfl ?_|refine Rf.mk rfl ?_|(apply Bd.t;(focus first|assumption|omega|rfl))|refine OpK.r rfl ?_|(apply TkB.r;(focus repeat constructor))|refine Ch.l ⟨rfl, rfl⟩ ?_|(apply CA.draw;(focus rfl);(focus kernel_rfl);(focus kernel_rfl);(focus repeat' constructor);(focus rfl))|(apply Cl.p (hn);(focus ((repeat' (first|exact Lend.nil|apply Lend.keep|fail));done)))|(apply Cl.p (hh);(focus ((repeat' (first|exact Lend.nil|apply Lend.keep|fail));done))))
 (apply Cl.use (hmi);(focus repeat' (first|exact Lend.nil|apply Lend.keep|fail));(focus (repeat (first|exact Takes.nil|(apply Takes.cons;(focus repeat constructor)))));(focus rfl))
 rintro _ _ ⟨u, l, rfl, rfl, hl1, hl2⟩
 have hl0 : l.length = 0 := by rw [hl1.2 fun _ => h3];rfl
 repeat' (first|refine Sp.h ?_|refine Lk.r rfl ?_|refine Rf.mk rfl ?_|(apply Bd.f;(focus first|assumption|omega|exact Bool.false_ne_true))|refine OpK.r rfl ?_|(refine All.mk ?_;intro _)|(apply TkA.r;(focus repeat constructor))|(apply TkB.r;(focus repeat constructor))|refine Ch.l ⟨rfl, rfl⟩ ?_|refine Ch.r ?_|(apply Fk.r;(focus (repeat (first|exact FillA.nil|(apply FillA.agg;(focus rfl);(focus rfl);(focus (repeat (first|exact SetAs.z|(apply SetAs.c;(focus (repeat first|assumption|constructor)))))))|(apply FillA.one;(focus rfl);(focus infer_instance);(focus (repeat first|assumption|constructor)))))))|refine Rf.mk ⟨rfl, rfl, rfl⟩ ?_|(apply CA.draw;(focus rfl);(focus kernel_rfl);(focus kernel_rfl);(focus repeat' constructor);(focus rfl))|fail)
 rename_i x q
 refine CA.loop (fun i : Nat => ⟨[(0, pm s), (3, pm b3), (5, pm x), (52, .ow q), (53, it 5), (54, it i)], [stoR s m b v w, arrR v 37 13 evl evC, blkR b3 37 (evC e), stpR x s e (wI m w e i), arrR q 176 1 (fnL x) id]⟩)
  (fun i => i ≤ 5 ∧ (2 ≤ i → ¬ LateE evl e) ∧ (3 ≤ i → ¬ (e.kind = 0 ∧ ¬ insS (addE m w.state e))) ∧ (4 ≤ i → (applyF m w.merged e).1 = 0)) (fun i => 5 - i) 0 ⟨by repeat first|trivial|refine ⟨rfl,?_⟩,by repeat first|exact .nil|refine .cons (by repeat constructor) ?_⟩ ⟨by omega, fun h => by omega, fun h => by omega, fun h => by omega⟩ ?_
 rintro i ⟨hi, i2, i3, i4⟩
 match i, hi with
 | 0, _ =>
  have hq : (fnL x)[0]? = some [AV.fb 90 [pm x]] := rfl
  have hc := count_a x s e w hrep.1 hrep.2 hcl
  repeat' (first|refine Sp.h ?_|refine Lk.r rfl ?_|refine Rf.mk rfl ?_|(apply Bd.t;(focus first|assumption|omega|rfl))|(apply TkA.r;(focus repeat constructor))|(apply Ix.q;(focus exact rfl);(focus assumption))|(apply At.r;(focus assumption))|fail)
  (apply Cl.use (hc);(focus repeat' (first|exact Lend.nil|apply Lend.keep|fail));(focus (repeat (first|exact Takes.nil|(apply Takes.cons;(focus repeat constructor)))));(focus rfl))
  rintro _ _ ⟨rfl, rfl⟩
  repeat' (first|refine Sp.h ?_|refine Lk.r rfl ?_|refine Rf.mk rfl ?_|(apply Bd.t;(focus first|assumption|omega|rfl))|(apply Ov.n;(focus first|omega|(simp <;> omega)))|fail)
  exact PA.lp 1 ⟨by repeat first|trivial|refine ⟨rfl,?_⟩,by repeat first|exact .nil|refine .cons (by repeat constructor) ?_⟩ ⟨⟨by omega, fun h => by omega, fun h => by omega, fun h => by omega⟩, by omega⟩
 | 1, _ =>
  have hq : (fnL x)[1]? = some [AV.fb 91 [pm x]] := rfl
  have hc := order_a x s m b v evl w e (wI m w e 1) (by omega)
  repeat' (first|refine Sp.h ?_|refine Lk.r rfl ?_|refine Rf.mk rfl ?_|(apply Bd.t;(focus first|assumption|omega|rfl))|(apply TkA.r;(focus repeat constructor))|(apply Ix.q;(focus exact rfl);(focus assumption))|(apply At.r;(focus assumption))|fail)
  (apply Cl.use (hc);(focus repeat' (first|exact Lend.nil|apply Lend.keep|fail));(focus (repeat (first|exact Takes.nil|(apply Takes.cons;(focus repeat constructor)))));(focus rfl))
  rintro _ _ (⟨hL, rfl, rfl⟩|⟨hL, rfl, rfl⟩)
  ·have hF : deliverF m evl w e = (2, w) := by rw [deliverF, if_neg (fun h => h h1), if_neg h2, if_neg (fun h => h h3), if_pos hL]
   rw [evsD, hF]
   repeat' (first|refine Sp.h ?_|refine Lk.r rfl ?_|refine Rf.mk rfl ?_|(apply Bd.f;(focus first|assumption|omega|exact Bool.false_ne_true))|(apply Nm.r;focus repeat constructor)|fail)
   exact ⟨_, _, .one (.same (.nil (by (repeat first|exact .nil|refine .cons (by repeat constructor) ?_)))), rfl, v, rfl⟩
  ·repeat' (first|refine Sp.h ?_|refine Lk.r rfl ?_|refine Rf.mk rfl ?_|(apply Bd.t;(focus first|assumption|omega|rfl))|(apply Ov.n;(focus first|omega|(simp <;> omega)))|fail)
   exact PA.lp 2 ⟨by repeat first|trivial|refine ⟨rfl,?_⟩,by repeat first|exact .nil|refine .cons (by repeat constructor) ?_⟩ ⟨⟨by omega, fun _ => hL, fun h => by omega, fun h => by omega⟩, by omega⟩
 | 2, _ =>
  have hq : (fnL x)[2]? = some [AV.fb 92 [pm x]] := rfl
  have hL := i2 (by omega)
  have hc := sadd_a x s m b v w e (wI m w e 2) hm hw.st (fun hk => ⟨act_rng h1.1 hk, h1.2.2 hk⟩)
  repeat' (first|refine Sp.h ?_|refine Lk.r rfl ?_|refine Rf.mk rfl ?_|(apply Bd.t;(focus first|assumption|omega|rfl))|(apply TkA.r;(focus repeat constructor))|(apply Ix.q;(focus exact rfl);(focus assumption))|(apply At.r;(focus assumption))|fail)
  (apply Cl.use (hc);(focus repeat' (first|exact Lend.nil|apply Lend.keep|fail));(focus (repeat (first|exact Takes.nil|(apply Takes.cons;(focus repeat constructor)))));(focus rfl))
  rintro _ _ (⟨hk, hL2, rfl, rfl⟩|⟨hL2, rfl, rfl⟩)
  ·have hF : deliverF m evl w e = (2, w) := by rw [deliverF, if_neg (fun h => h h1), if_neg h2, if_neg (fun h => h h3), if_neg hL, if_pos ⟨hk, hL2⟩]
   rw [evsD, hF]
   repeat' (first|refine Sp.h ?_|refine Lk.r rfl ?_|refine Rf.mk rfl ?_|(apply Bd.f;(focus first|assumption|omega|exact Bool.false_ne_true))|(apply Nm.r;focus repeat constructor)|fail)
   exact ⟨_, _, .one (.same (.nil (by (repeat first|exact .nil|refine .cons (by repeat constructor) ?_)))), rfl, v, rfl⟩
  ·repeat' (first|refine Sp.h ?_|refine Lk.r rfl ?_|refine Rf.mk rfl ?_|(apply Bd.t;(focus first|assumption|omega|rfl))|(apply Ov.n;(focus first|omega|(simp <;> omega)))|fail)
   exact PA.lp 3 ⟨by repeat first|trivial|refine ⟨rfl,?_⟩,by repeat first|exact .nil|refine .cons (by repeat constructor) ?_⟩ ⟨⟨by omega, fun _ => hL, fun _ => hL2, fun h => by omega⟩, by omega⟩
 | 3, _ =>
  have hq : (fnL x)[3]? = some [AV.fb 93 [pm x]] := rfl
  have hL := i2 (by omega)
  have hL2 := i3 (by omega)
  have hc := update_a x s m b v w e (wI m w e 3) hm
  by_cases hA : (applyF m w.merged e).1 = 0
  ·repeat' (first|refine Sp.h ?_|refine Lk.r rfl ?_|refine Rf.mk rfl ?_|(apply Bd.t;(focus first|assumption|omega|rfl))|(apply TkA.r;(focus repeat constructor))|(apply Ix.q;(focus exact rfl);(focus assumption))|(apply At.r;(focus assumption))|fail)
   (apply Cl.use (hc);(focus repeat' (first|exact Lend.nil|apply Lend.keep|fail));(focus (repeat (first|exact Takes.nil|(apply Takes.cons;(focus repeat constructor)))));(focus rfl))
   rintro _ _ ⟨rfl, rfl⟩
   simp only [wI]
   repeat' (first|refine Sp.h ?_|refine Lk.r rfl ?_|refine Rf.mk rfl ?_|(apply Bd.t;(focus first|assumption|omega|rfl))|(apply Ov.n;(focus first|omega|(simp <;> omega)))|fail)
   exact PA.lp 4 ⟨by repeat first|trivial|refine ⟨rfl,?_⟩,by repeat first|exact .nil|refine .cons (by repeat constructor) ?_⟩ ⟨⟨by omega, fun _ => hL, fun _ => hL2, fun _ => hA⟩, by omega⟩
  ·have hF : deliverF m evl w e = ((applyF m w.merged e).1, w) := by rw [deliverF, if_neg (fun h => h h1), if_neg h2, if_neg (fun h => h h3), if_neg hL, if_neg hL2, if_pos hA]
   rw [evsD, hF]
   repeat' (first|refine Sp.h ?_|refine Lk.r rfl ?_|refine Rf.mk rfl ?_|(apply Bd.t;(focus first|assumption|omega|rfl))|(apply TkA.r;(focus repeat constructor))|(apply Ix.q;(focus exact rfl);(focus assumption))|(apply At.r;(focus assumption))|fail)
   (apply Cl.use (hc);(focus repeat' (first|exact Lend.nil|apply Lend.keep|fail));(focus (repeat (first|exact Takes.nil|(apply Takes.cons;(focus repeat constructor)))));(focus rfl))
   rintro _ _ ⟨rfl, rfl⟩
   simp only [wI]
   rw [if_neg hA]
   repeat' (first|refine Sp.h ?_|refine Lk.r rfl ?_|refine Rf.mk rfl ?_|(apply Bd.f;(focus first|assumption|omega|exact Bool.false_ne_true))|(apply Nm.r;focus repeat constructor)|fail)
   exact ⟨_, _, .one (.same (.nil (by (repeat first|exact .nil|refine .cons (by repeat constructor) ?_)))), rfl, v, rfl⟩
 | 4, _ =>
  have hq : (fnL x)[4]? = some [AV.fb 94 [pm x]] := rfl
  have hc := place_a x s e (wI m w e 4) hw.pls hw.pll
  repeat' (first|refine Sp.h ?_|refine Lk.r rfl ?_|refine Rf.mk rfl ?_|(apply Bd.t;(focus first|assumption|omega|rfl))|(apply TkA.r;(focus repeat constructor))|(apply Ix.q;(focus exact rfl);(focus assumption))|(apply At.r;(focus assumption))|fail)
  (apply Cl.use (hc);(focus repeat' (first|exact Lend.nil|apply Lend.keep|fail));(focus (repeat (first|exact Takes.nil|(apply Takes.cons;(focus repeat constructor)))));(focus rfl))
  rintro _ _ ⟨rfl, rfl⟩
  repeat' (first|refine Sp.h ?_|refine Lk.r rfl ?_|refine Rf.mk rfl ?_|(apply Bd.t;(focus first|assumption|omega|rfl))|(apply Ov.n;(focus first|omega|(simp <;> omega)))|fail)
  exact PA.lp 5 ⟨by repeat first|trivial|refine ⟨rfl,?_⟩,by repeat first|exact .nil|refine .cons (by repeat constructor) ?_⟩ ⟨⟨by omega, fun _ => i2 (by omega), fun _ => i3 (by omega), fun _ => i4 (by omega)⟩, by omega⟩
 | 5, _ =>
  have hL := i2 (by omega)
  have hL2 := i3 (by omega)
  have hA := i4 (by omega)
  have hF : deliverF m evl w e = (0, wI m w e 5) := by rw [deliverF, if_neg (fun h => h h1), if_neg h2, if_neg (fun h => h h3), if_neg hL, if_neg hL2, if_neg (fun h => h hA)];rfl
  have hpl := h1.1.1.2.2
  have hce := cloneEs_p [e] (by simp) (fun d hd => by rw [List.mem_singleton.1 hd];omega)
  rw [evsD, hF, if_pos rfl]
  repeat' (first|refine Sp.h ?_|refine Lk.r rfl ?_|refine Rf.mk rfl ?_|(apply Bd.f;(focus first|assumption|omega|exact Bool.false_ne_true))|refine OpK.r rfl ?_|(refine All.mk ?_;intro _)|(apply TkB.r;(focus repeat constructor))|refine Ch.l ⟨rfl, rfl⟩ ?_|refine Ch.r ?_|(apply SetAsk.r;(focus (repeat (first|exact SetAs.z|(apply SetAs.c;(focus (repeat first|assumption|constructor)))))))|(apply Fk.r;(focus (repeat (first|exact FillA.nil|(apply FillA.agg;(focus rfl);(focus rfl);(focus (repeat (first|exact SetAs.z|(apply SetAs.c;(focus (repeat first|assumption|constructor)))))))|(apply FillA.one;(focus rfl);(focus infer_instance);(focus (repeat first|assumption|constructor)))))))|refine Rf.mk ⟨rfl, rfl, rfl⟩ ?_|(apply CA.draw;(focus rfl);(focus kernel_rfl);(focus kernel_rfl);(focus repeat' constructor);(focus rfl))|fail)
  apply Cl.fx [evs [e]]
  focus (apply FX.sl;(focus repeat constructor);(focus exact Nat.le_of_ble_eq_true rfl);(focus exact FX.le (ALe.refl _) FX.nil);(focus exact FX.nil))
  repeat' (first|refine Sp.h ?_|refine Lk.r rfl ?_|refine Rf.mk rfl ?_|refine OpK.r rfl ?_|(apply Om.mk;(focus first|omega|(simp <;> omega)))|(refine All.mk ?_;intro _)|(apply TkA.r;(focus repeat constructor))|(apply TkB.r;(focus repeat constructor))|refine Ce.r ?_|(apply SetAk.r;(focus (repeat first|assumption|constructor)))|(apply Nm.r;focus repeat constructor)|refine Rf.mk ⟨rfl, rfl⟩ ?_|refine Mp.same ?_|(apply Cl.p (hce);(focus repeat' (first|exact Lend.nil|apply Lend.keep|fail))))
  exact ⟨_, _, .one (.same (.nil (by (repeat first|exact .nil|refine .cons (by repeat constructor) ?_)))), rfl, _, rfl⟩
end Go.Proofs.YtmllihbhphnolaaGreat
namespace Go.Proofs.YtmllihbhphnolaaGreat
open Go Go.CF
set_option maxRecDepth 20000
structure SzN (b : NowS) : Prop where
 c : b.clock.length ≤ 100000
 s : b.state.length ≤ 100000
 m : b.merged.length ≤ 100000
 k : ∀ g ∈ b.merged, g.marks.length ≤ 1000000
 p : b.places.length ≤ 100000
set_option maxHeartbeats 2000000 in
theorem cloneBase_a (b : NowS) (r s : AV) (h : SzN b) :
  CallA Tryz.prog 106 [.agg [ints b.clock, it b.time, ints b.state, mgs b.merged, r, s, ints b.places]] [] fun q own => ∃ v1 v2 v3 L v4, q = .agg [.ow v1, it b.time, .ow v2, .ow v3, nl0, nl0, .ow v4] ∧ L.map MgE.g = b.merged ∧
   own = [arrR v4 3 1 b.places intC, arrR v3 123 3 L mgeC, bunR (L.map mgeR), arrR v2 3 1 b.state intC, arrR v1 3 1 b.clock intC] := by
 have h1 := clone_o b.clock (by have := h.c;omega)
 have h2 := clone_o b.state (by have := h.s;omega)
 have h3 := cloneM_a b.merged (by have := h.m;omega) h.k
 have h4 := clone_o b.places (by have := h.p;omega)
 refine CallA.of pg ord106 Tryz.func106 rfl Tryz.ntmps106 Tryz.results106 rfl fun h0 G0 O0 => ?_
 repeat' (first|refine Sp.h ?_|refine Lk.r rfl ?_|refine Rf.mk rfl ?_|refine OpK.r rfl ?_|(refine All.mk ?_;intro _)|(apply TkB.r;(focus repeat constructor))|(apply Nm.r;focus repeat constructor)|(apply CA.draw;(focus rfl);(focus kernel_rfl);(focus kernel_rfl);(focus repeat' constructor);(focus rfl))|fail)
 (refine Cl.use (h1) (by repeat' (first|exact Lend.nil|apply Lend.keep|fail)) .nil rfl ?_;rintro _ _ ⟨_, rfl, rfl⟩)
 repeat' (first|refine Sp.h ?_|refine Lk.r rfl ?_|refine Rf.mk rfl ?_|refine OpK.r rfl ?_|fail)
 (refine Cl.use (h2) (by repeat' (first|exact Lend.nil|apply Lend.keep|fail)) .nil rfl ?_;rintro _ _ ⟨_, rfl, rfl⟩)
 repeat' (first|refine Sp.h ?_|refine Lk.r rfl ?_|refine Rf.mk rfl ?_|refine OpK.r rfl ?_|fail)
 (apply Cl.use (h3);(focus repeat' (first|exact Lend.nil|apply Lend.keep|fail));(focus (repeat (first|exact Takes.nil|(apply Takes.cons;(focus repeat constructor)))));(focus rfl))
 rintro _ _ ⟨v3, L, rfl, hL, rfl⟩
 repeat' (first|refine Sp.h ?_|refine Lk.r rfl ?_|refine Rf.mk rfl ?_|refine OpK.r rfl ?_|fail)
 (refine Cl.use (h4) (by repeat' (first|exact Lend.nil|apply Lend.keep|fail)) .nil rfl ?_;rintro _ _ ⟨_, rfl, rfl⟩)
 repeat' (first|refine Sp.h ?_|refine Lk.r rfl ?_|refine Rf.mk rfl ?_|refine OpK.r rfl ?_|(apply TkB.r;(focus repeat constructor))|(apply SetAsk.r;(focus (repeat (first|exact SetAs.z|(apply SetAs.c;(focus (repeat first|assumption|constructor)))))))|(apply Fk.r;(focus (repeat (first|exact FillA.nil|(apply FillA.agg;(focus rfl);(focus rfl);(focus (repeat (first|exact SetAs.z|(apply SetAs.c;(focus (repeat first|assumption|constructor)))))))|(apply FillA.one;(focus rfl);(focus infer_instance);(focus (repeat first|assumption|constructor)))))))|(apply Nm.r;focus repeat constructor)|fail)
 exact ⟨_, _, .one (.same (.nil (by (repeat first|exact .nil|refine .cons (by repeat constructor) ?_)))), _, _, _, L, _, rfl, hL, rfl⟩
theorem cloneBase_p (b : NowS) (r s : AV) (h : SzN b) : CallP Tryz.prog 106 [.agg [ints b.clock, it b.time, ints b.state, mgs b.merged, r, s, ints b.places]] (basA b) := by
 refine CallA.fx (cloneBase_a b r s h) ?_
 rintro q o ⟨v1, v2, v3, L, v4, rfl, hL, rfl⟩
 have := h.c;have := h.s;have := h.m;have := h.p
 have hk : ∀ x ∈ L, x.marks.length ≤ 1000000 := fun x hx => h.k x.g (by rw [← hL];exact List.mem_map_of_mem hx)
 have hLl : L.length ≤ 1000000 := by have := congrArg List.length hL;simp at this;omega
 rw [show basA b = .agg [ints b.clock, it b.time, ints b.state, mgs (L.map MgE.g), nl0, nl0, ints b.places] by rw [hL]]
 refine .agg ?_ .nil
 refine FX.s1 (T := 3) (by repeat constructor) (by omega) (FX.k (FX.s1 (T := 3) (by repeat constructor) (by omega) ?_))
 refine out_fx2 (by repeat constructor) (by repeat constructor) hLl hk (FX.k (FX.k (FX.s1 (T := 3) (by repeat constructor) (by omega) .nil)))
set_option maxHeartbeats 2000000 in
theorem open_a (m : ModS) (b : NowS) (r s : AV) (h : SzN b) :
  CallA Tryz.prog 120 [mdl m, .agg [ints b.clock, it b.time, ints b.state, mgs b.merged, r, s, ints b.places]] [] fun q own => ∃ p v, q = pm p ∧ own = [stoR p m b v b, arrR v 37 13 ([] : List EvS) evC] := by
 have h1 := cloneBase_p b r s h
 have h2 := cloneBase_p b nl0 nl0 h
 refine CallA.own (K := fun q own => ∃ p, q = pm p ∧ own = [blkR p 165 [ints m.sorts, tbls m.tables, .sl 1 m.families strC, .sl 6 m.cons cnsC, .sl 3 m.ops opC, .sl 5 m.acts actC, .sl 3 m.hides updC, ints b.clock, it b.time, ints b.state, mgs b.merged, nl0, nl0, ints b.places, nl0, ints b.clock, it b.time, ints b.state, mgs b.merged, ints b.places]]) ?_ ?_
 ·refine CallA.of pg ord120 Tryz.func120 rfl Tryz.ntmps120 Tryz.results120 rfl fun h0 G0 O0 => ?_
  repeat' (first|refine Sp.h ?_|refine Lk.r rfl ?_|refine Rf.mk rfl ?_|(refine All.mk ?_;intro _)|(apply TkB.r;(focus repeat constructor))|refine Ch.l ⟨rfl, rfl⟩ ?_|(apply SetAsk.r;(focus (repeat (first|exact SetAs.z|(apply SetAs.c;(focus (repeat first|assumption|constructor)))))))|(apply Fk.r;(focus (repeat (first|exact FillA.nil|(apply FillA.agg;(focus rfl);(focus rfl);(focus (repeat (first|exact SetAs.z|(apply SetAs.c;(focus (repeat first|assumption|constructor)))))))|(apply FillA.one;(focus rfl);(focus infer_instance);(focus (repeat first|assumption|constructor)))))))|(apply Nm.r;focus repeat constructor)|(apply Cl.p (h1);(focus ((repeat' (first|exact Lend.nil|apply Lend.keep|apply Lend.agg|fail));done)))|(apply Cl.p (h2);(focus ((repeat' (first|exact Lend.nil|apply Lend.keep|apply Lend.agg|fail));done))))
  exact ⟨_, _, .one (.same (.nil (by (repeat first|exact .nil|refine .cons (by repeat constructor) ?_)))), _, rfl, rfl⟩
 ·rintro _ _ ⟨p, rfl, rfl⟩
  refine ⟨[stoR p m b (.slice none 0 0) b, arrR (.slice none 0 0) 37 13 ([] : List EvS) evC], ?_, p, _, rfl, rfl⟩
  refine (OX.nil _ 37 13 evC).trans (OX.recell (.there .here) _ ?_)
  (repeat' (first|exact RLe.nil|(apply RLe.cons;(focus first|exact ALe.refl _|exact ALe.nilow|exact ALe.nil))))
set_option maxHeartbeats 2000000 in
theorem new35_a (m : ModS) (n : Nat) (ld : List Int) (hm : MOK m) (hn : 1 ≤ n ∧ n ≤ 5) (hl : ld.length = strF m) (hs : insS ld) :
  CallA Tryz.prog 77 [mdl m, it n, ints ld] [] fun q own => ∃ p v, q = .tup [pm p, it 0] ∧ own = [stoR p m ⟨List.replicate n 0, 0, ld, List.replicate (mrgF m).length mg0, []⟩ v ⟨List.replicate n 0, 0, ld, List.replicate (mrgF m).length mg0, []⟩, arrR v 37 13 ([] : List EvS) evC] := by
 have h1 := cells35_p m hm.lay
 have h2 := inside35_p ld
 rw [decide_eq_true hs] at h2
 have h3 : CallP Tryz.prog 32 [it n] (ints (List.replicate n 0)) := CallA.fz (T := 3) (by simp;omega) (by have := zero_ok (n : Int) (by omega);rwa [Int.toNat_natCast] at this)
 have h4 := new_p m hm.lay
 have := hm.str;have := hm.mrg
 have h5 := open_a m ⟨List.replicate n 0, 0, ld, List.replicate (mrgF m).length mg0, []⟩ nl0 nl0 ⟨by simp;omega, by simp only;omega, by simp;omega, fun g hg => by rw [(List.mem_replicate.1 hg).2];simp [mg0], by simp⟩
 have h6 : CallA Tryz.prog 120 [mdl m, .agg [ints (List.replicate n 0), it 0, ints ld, mgs (List.replicate (mrgF m).length mg0), nl0, nl0, nl0]] [] fun q own => ∃ p v, q = pm p ∧ own = [stoR p m ⟨List.replicate n 0, 0, ld, List.replicate (mrgF m).length mg0, []⟩ v ⟨List.replicate n 0, 0, ld, List.replicate (mrgF m).length mg0, []⟩, arrR v 37 13 ([] : List EvS) evC] := by
  refine CallA.args (RLe.cons (ALe.refl _) (RLe.cons (ALe.agg ?_) .nil)) h5
  (repeat' (first|exact RLe.nil|(apply RLe.cons;(focus first|exact ALe.refl _|exact ALe.nilow|exact ALe.nil))))
 refine CallA.of pg ord77 Tryz.func77 rfl Tryz.ntmps77 Tryz.results77 rfl fun h0 G0 O0 => ?_
 repeat' (first|refine Sp.h ?_|refine Lk.r rfl ?_|refine Rf.mk rfl ?_|(apply Bd.t;(focus first|assumption|omega|rfl))|(apply Bd.f;(focus first|assumption|omega|exact Bool.false_ne_true))|refine OpK.r rfl ?_|(refine Im.mk ?_;intro _)|(refine All.mk ?_;intro _)|(apply TkB.r;(focus repeat constructor))|refine Ch.l ⟨rfl, rfl⟩ ?_|(apply Fk.r;(focus (repeat (first|exact FillA.nil|(apply FillA.agg;(focus rfl);(focus rfl);(focus (repeat (first|exact SetAs.z|(apply SetAs.c;(focus (repeat first|assumption|constructor)))))))|(apply FillA.one;(focus rfl);(focus infer_instance);(focus (repeat first|assumption|constructor)))))))|(apply CA.draw;(focus rfl);(focus kernel_rfl);(focus kernel_rfl);(focus repeat' constructor);(focus rfl))|(apply Cl.p (h1);(focus ((repeat' (first|exact Lend.nil|apply Lend.keep|fail));done)))|(apply Cl.p (h2);(focus ((repeat' (first|exact Lend.nil|apply Lend.keep|fail));done)))|(apply Cl.p (h3);(focus ((repeat' (first|exact Lend.nil|apply Lend.keep|fail));done)))|(apply Cl.p (h4);(focus ((repeat' (first|exact Lend.nil|apply Lend.keep|fail));done))))
 (apply Cl.use (h6);(focus repeat' (first|exact Lend.nil|apply Lend.keep|fail));(focus (repeat (first|exact Takes.nil|(apply Takes.cons;(focus repeat constructor)))));(focus rfl))
 rintro _ _ ⟨p, v, rfl, rfl⟩
 repeat' (first|refine Sp.h ?_|refine Lk.r rfl ?_|refine OpK.r rfl ?_|(apply Nm.r;focus repeat constructor)|fail)
 exact ⟨_, _, .tup (.same (.same (.nil (by (repeat first|exact .nil|refine .cons (by repeat constructor) ?_))))), p, v, rfl, rfl⟩
end Go.Proofs.YtmllihbhphnolaaGreat
namespace Go.Proofs.YtmllihbhphnolaaGreat
open Go Go.CF
set_option maxRecDepth 20000
section
variable (s : Nat) (m : ModS) (b : NowS) (v : Value) (w : NowS)
theorem sstate_a (h : w.state.length ≤ 100000) : CallA Tryz.prog 52 [pm s] [stoR s m b v w] fun r own => ∃ u, r = .ow u ∧ own = [arrR u 3 1 w.state intC, stoR s m b v w] := by
 have h1 := clone_o w.state (by omega)
 refine CallA.of pg ord52 Tryz.func52 rfl Tryz.ntmps52 Tryz.results52 rfl fun h0 G0 O0 => ?_
 repeat' (first|refine Sp.h ?_|refine Lk.r rfl ?_|refine Rf.mk rfl ?_|(apply TkB.r;(focus repeat constructor))|fail)
 (refine Cl.use (h1) (by repeat' (first|exact Lend.nil|apply Lend.keep|fail)) .nil rfl ?_;rintro _ _ ⟨_, rfl, rfl⟩)
 repeat' (first|refine Sp.h ?_|refine Lk.r rfl ?_|(apply Nm.r;focus repeat constructor)|fail)
 exact ⟨_, _, .one (.same (.nil (by (repeat first|exact .nil|refine .cons (by repeat constructor) ?_)))), _, rfl, rfl⟩
theorem sstate_p (h : w.state.length ≤ 100000) : CallA Tryz.prog 52 [pm s] [stoR s m b v w] fun r own => r = ints w.state ∧ own = [stoR s m b v w] :=
 CallA.fxr (sstate_a s m b v w h) (by rintro _ _ ⟨u, rfl, rfl⟩;exact ⟨_, _, FX.s1 .here (by omega) .nil, rfl, rfl⟩)
abbrev stoV (m : ModS) (b : NowS) (l : List EvS) (w : NowS) : List AV := [ints m.sorts, tbls m.tables, .sl 1 m.families strC, .sl 6 m.cons cnsC, .sl 3 m.ops opC, .sl 5 m.acts actC, .sl 3 m.hides updC, ints b.clock, it b.time, ints b.state, mgs b.merged, nl0, nl0, ints b.places, evs l, ints w.clock, it w.time, ints w.state, mgs w.merged, ints w.places]
theorem sevents_r (l : List EvS) (hl : l.length ≤ 1000000) (hm : ∀ e ∈ l, e.past.length ≤ 1000000) : CallA Tryz.prog 63 [.ad (stoV m b l w) 0] [] fun r own => ∃ u L, r = .ow u ∧ L.map EvE.e = l ∧ own = outE u L := by
 have h := cloneEs_a l hl hm
 refine CallA.of pg ord63 Tryz.func63 rfl Tryz.ntmps63 Tryz.results63 rfl fun h0 G0 O0 => ?_
 repeat' (first|refine Sp.h ?_|refine Lk.r rfl ?_|refine Rf.mk rfl ?_|fail)
 (apply Cl.use (h);(focus repeat' (first|exact Lend.nil|apply Lend.keep|fail));(focus (repeat (first|exact Takes.nil|(apply Takes.cons;(focus repeat constructor)))));(focus rfl))
 rintro _ _ ⟨u, L, rfl, hL, rfl⟩
 repeat' (first|refine Sp.h ?_|refine Lk.r rfl ?_|(apply Nm.r;focus repeat constructor)|fail)
 exact ⟨_, _, .one (.same (.nil (by (repeat first|exact .nil|refine .cons (by repeat constructor) ?_)))), u, L, rfl, hL, rfl⟩
theorem sclock_r (l : List EvS) (h : w.clock.length ≤ 100000) : CallO Tryz.prog 16 [.ad (stoV m b l w) 0] 3 1 w.clock intC := by
 have h1 := clone_o w.clock (by omega)
 refine CallA.of pg ord16 Tryz.func16 rfl Tryz.ntmps16 Tryz.results16 rfl fun h0 G0 O0 => ?_
 repeat' (first|refine Sp.h ?_|refine Lk.r rfl ?_|refine Rf.mk rfl ?_|fail)
 (refine Cl.use (h1) (by repeat' (first|exact Lend.nil|apply Lend.keep|fail)) .nil rfl ?_;rintro _ _ ⟨_, rfl, rfl⟩)
 repeat' (first|refine Sp.h ?_|refine Lk.r rfl ?_|(apply Nm.r;focus repeat constructor)|fail)
 exact ⟨_, _, .one (.same (.nil (by (repeat first|exact .nil|refine .cons (by repeat constructor) ?_)))), _, rfl, rfl⟩
theorem sstate_r (l : List EvS) (h : w.state.length ≤ 100000) : CallO Tryz.prog 52 [.ad (stoV m b l w) 0] 3 1 w.state intC := by
 have h1 := clone_o w.state (by omega)
 refine CallA.of pg ord52 Tryz.func52 rfl Tryz.ntmps52 Tryz.results52 rfl fun h0 G0 O0 => ?_
 repeat' (first|refine Sp.h ?_|refine Lk.r rfl ?_|refine Rf.mk rfl ?_|fail)
 (refine Cl.use (h1) (by repeat' (first|exact Lend.nil|apply Lend.keep|fail)) .nil rfl ?_;rintro _ _ ⟨_, rfl, rfl⟩)
 repeat' (first|refine Sp.h ?_|refine Lk.r rfl ?_|(apply Nm.r;focus repeat constructor)|fail)
 exact ⟨_, _, .one (.same (.nil (by (repeat first|exact .nil|refine .cons (by repeat constructor) ?_)))), _, rfl, rfl⟩
theorem splaces_r (l : List EvS) (h : w.places.length ≤ 100000) : CallO Tryz.prog 65 [.ad (stoV m b l w) 0] 3 1 w.places intC := by
 have h1 := clone_o w.places (by omega)
 refine CallA.of pg ord65 Tryz.func65 rfl Tryz.ntmps65 Tryz.results65 rfl fun h0 G0 O0 => ?_
 repeat' (first|refine Sp.h ?_|refine Lk.r rfl ?_|refine Rf.mk rfl ?_|fail)
 (refine Cl.use (h1) (by repeat' (first|exact Lend.nil|apply Lend.keep|fail)) .nil rfl ?_;rintro _ _ ⟨_, rfl, rfl⟩)
 repeat' (first|refine Sp.h ?_|refine Lk.r rfl ?_|(apply Nm.r;focus repeat constructor)|fail)
 exact ⟨_, _, .one (.same (.nil (by (repeat first|exact .nil|refine .cons (by repeat constructor) ?_)))), _, rfl, rfl⟩
theorem stime_r (l : List EvS) : CallP Tryz.prog 17 [.ad (stoV m b l w) 0] (it w.time) := by
 refine CallA.of pg ord17 Tryz.func17 rfl Tryz.ntmps17 Tryz.results17 rfl fun h0 G0 O0 => ?_
 repeat' (first|refine Sp.h ?_|refine Lk.r rfl ?_|refine Rf.mk rfl ?_|(apply Nm.r;focus repeat constructor)|fail)
 exact Fin.p rfl rfl
theorem sevents_z (l : List EvS) (hl : l.length ≤ 1000000) (hm : ∀ e ∈ l, e.past.length ≤ 1000000) : CallP Tryz.prog 63 [.ad (stoV m b l w) 0] (evs l) := by
 refine CallA.fx (sevents_r m b w l hl hm) ?_
 rintro _ _ ⟨u, L, rfl, hL, rfl⟩
 have h := outE_fx (v := u) (L := L) (o := []) (by have := congrArg List.length hL;simp at this;omega) (fun x hx => hm x.e (by rw [← hL];exact List.mem_map_of_mem hx)) .nil
 rw [hL] at h
 simpa using h
theorem sclock_z (l : List EvS) (h : w.clock.length ≤ 100000) : CallP Tryz.prog 16 [.ad (stoV m b l w) 0] (ints w.clock) := CallA.fz (by omega) (sclock_r m b w l h)
theorem sstate_z (l : List EvS) (h : w.state.length ≤ 100000) : CallP Tryz.prog 52 [.ad (stoV m b l w) 0] (ints w.state) := CallA.fz (by omega) (sstate_r m b w l h)
theorem splaces_z (l : List EvS) (h : w.places.length ≤ 100000) : CallP Tryz.prog 65 [.ad (stoV m b l w) 0] (ints w.places) := CallA.fz (by omega) (splaces_r m b w l h)
theorem svalues_r (l : List EvS) (hm : MOK m) : CallP Tryz.prog 62 [.ad (stoV m b l w) 0] (clks (valuesQ m w.merged).2) := by
 have h1 := valuesQ_p m w.merged hm
 refine CallA.of pg ord62 Tryz.func62 rfl Tryz.ntmps62 Tryz.results62 rfl fun h0 G0 O0 => ?_
 repeat' (first|refine Sp.h ?_|refine Lk.r rfl ?_|refine Rf.mk rfl ?_|refine OpK.r rfl ?_|refine Ch.r ?_|(apply Nm.r;focus repeat constructor)|(apply CA.draw;(focus rfl);(focus kernel_rfl);(focus kernel_rfl);(focus repeat' constructor);(focus rfl))|(apply Cl.p (h1);(focus repeat' (first|exact Lend.nil|apply Lend.keep|fail))))
 exact Fin.p rfl rfl
theorem sbase_r (l : List EvS) (h : SzN b) : CallP Tryz.prog 35 [.ad (stoV m b l w) 0] (basA b) := by
 have h1 := cloneBase_p b nl0 nl0 h
 refine CallA.of pg ord35 Tryz.func35 rfl Tryz.ntmps35 Tryz.results35 rfl fun h0 G0 O0 => ?_
 repeat' (first|refine Sp.h ?_|refine Lk.r rfl ?_|refine Rf.mk rfl ?_|(refine All.mk ?_;intro _)|(apply TkB.r;(focus repeat constructor))|refine Ch.r ?_|(apply SetAsk.r;(focus (repeat (first|exact SetAs.z|(apply SetAs.c;(focus (repeat first|assumption|constructor)))))))|(apply Nm.r;focus repeat constructor)|(apply Cl.p (h1);(focus repeat' (first|exact Lend.nil|apply Lend.keep|fail))))
 exact Fin.p rfl rfl
end
def ev0 : EvS := ⟨0, 0, 0, [], 0, 0, 0, 0, 0, 0, 0, 0, 0⟩
def mkN (w : NowS) (r : Int) (x : EvS) : EvS := ⟨r, (w.clock[r.toNat]?.getD 0) + 1, w.time + 1, w.clock, x.kind, x.action, x.gk, x.gi, x.ge, x.ga, x.to, x.place, x.serial⟩
noncomputable def makeF (m : ModS) (w : NowS) (r : Int) (x : EvS) : Int × EvS :=
 if r < 0 ∨ (w.clock.length : Int) ≤ r then (2, ev0)
 else if 1024 ≤ w.clock[r.toNat]?.getD 0 ∨ 1073741824 ≤ w.time then (8, ev0)
 else if ¬ EvV m (w.clock.length : Nat) (mkN w r x) then (1, ev0)
 else (0, mkN w r x)
set_option maxHeartbeats 4000000 in
theorem smake_a (s : Nat) (m : ModS) (b : NowS) (v : Value) (w : NowS) (r : Int) (x : EvS) (hc : w.clock.length ≤ 5) (hb : ∀ y ∈ w.clock, -1000000 ≤ y) (ht : -1000000 ≤ w.time) :
  CallA Tryz.prog 18 [pm s, it r, evA' x] [stoR s m b v w] fun q own => q = .tup [evA' (makeF m w r x).2, it (makeF m w r x).1] ∧ own = [stoR s m b v w] := by
 have hcl := clone_z w.clock (by omega)
 have hz : ∀ e, CallA Tryz.prog 18 [pm s, it r, evA' x] [stoR s m b v w] (fun q own => q = .tup [.agg [it 0, it 0, it 0, nl0, it 0, it 0, it 0, it 0, it 0, it 0, it 0, it 0, it 0], it e] ∧ own = [stoR s m b v w]) → CallA Tryz.prog 18 [pm s, it r, evA' x] [stoR s m b v w] fun q own => q = .tup [evA' ev0, it e] ∧ own = [stoR s m b v w] := fun e h =>
  CallA.fxr h (by
   rintro _ _ ⟨rfl, rfl⟩
   refine ⟨.tup [evA' ev0, it e], [stoR s m b v w], .tup (.agg ?_ (FX.refl _)) .nil, rfl, rfl⟩
   exact FX.k (FX.k (FX.k (FX.kn (FX.refl _)))))
 by_cases h1 : r < 0 ∨ (w.clock.length : Int) ≤ r
 ·rw [makeF, if_pos h1]
  refine hz 2 ?_
  refine CallA.of pg ord18 Tryz.func18 rfl Tryz.ntmps18 Tryz.results18 rfl fun h0 G0 O0 => ?_
  rcases h1 with h1|h1
  all_goals repeat' (first|refine Sp.h ?_|refine Lk.r rfl ?_|refine Rf.mk rfl ?_|(apply Bd.t;(focus first|assumption|omega|rfl))|(apply Bd.f;(focus first|assumption|omega|exact Bool.false_ne_true))|(refine Im.mk ?_;intro _)|(refine All.mk ?_;intro _)|(apply TkB.r;(focus repeat constructor))|(apply SetAsk.r;(focus (repeat (first|exact SetAs.z|(apply SetAs.c;(focus (repeat first|assumption|constructor)))))))|(apply Fk.r;(focus (repeat (first|exact FillA.nil|(apply FillA.agg;(focus rfl);(focus rfl);(focus (repeat (first|exact SetAs.z|(apply SetAs.c;(focus (repeat first|assumption|constructor)))))))|(apply FillA.one;(focus rfl);(focus infer_instance);(focus (repeat first|assumption|constructor)))))))|(apply Nm.r;focus repeat constructor)|fail)
  all_goals exact ⟨_, _, .tup (.same (.same (.nil (by (repeat first|exact .nil|refine .cons (by repeat constructor) ?_))))), rfl, rfl⟩
 obtain ⟨y, hy⟩ := get_of (l := w.clock) (i := r.toNat) (by omega)
 have hyb := hb y (List.mem_of_getElem? hy)
 have hev := evalid_p m (w.clock.length : Nat) (mkN w r x)
 have hmk : mkN w r x = ⟨r, y + 1, w.time + 1, w.clock, x.kind, x.action, x.gk, x.gi, x.ge, x.ga, x.to, x.place, x.serial⟩ := by rw [mkN, hy];rfl
 rw [makeF, if_neg h1, hy, Option.getD_some]
 by_cases h2 : 1024 ≤ y ∨ 1073741824 ≤ w.time
 ·rw [if_pos h2]
  refine hz 8 ?_
  refine CallA.of pg ord18 Tryz.func18 rfl Tryz.ntmps18 Tryz.results18 rfl fun h0 G0 O0 => ?_
  by_cases h3 : 1024 ≤ y
  ·repeat' (first|refine Sp.h ?_|refine Lk.r rfl ?_|refine Rf.mk rfl ?_|(apply Bd.t;(focus first|assumption|omega|rfl))|(apply Bd.f;(focus first|assumption|omega|exact Bool.false_ne_true))|(refine Im.mk ?_;intro _)|(refine All.mk ?_;intro _)|(apply TkB.r;(focus repeat constructor))|(apply Ix.r;(focus assumption);(focus omega))|(apply SetAsk.r;(focus (repeat (first|exact SetAs.z|(apply SetAs.c;(focus (repeat first|assumption|constructor)))))))|(apply Fk.r;(focus (repeat (first|exact FillA.nil|(apply FillA.agg;(focus rfl);(focus rfl);(focus (repeat (first|exact SetAs.z|(apply SetAs.c;(focus (repeat first|assumption|constructor)))))))|(apply FillA.one;(focus rfl);(focus infer_instance);(focus (repeat first|assumption|constructor)))))))|(apply Nm.r;focus repeat constructor)|fail)
   exact ⟨_, _, .tup (.same (.same (.nil (by (repeat first|exact .nil|refine .cons (by repeat constructor) ?_))))), rfl, rfl⟩
  ·have h4 : 1073741824 ≤ w.time := by omega
   repeat' (first|refine Sp.h ?_|refine Lk.r rfl ?_|refine Rf.mk rfl ?_|(apply Bd.t;(focus first|assumption|omega|rfl))|(apply Bd.f;(focus first|assumption|omega|exact Bool.false_ne_true))|(refine Im.mk ?_;intro _)|(refine All.mk ?_;intro _)|(apply TkB.r;(focus repeat constructor))|(apply Ix.r;(focus assumption);(focus omega))|(apply SetAsk.r;(focus (repeat (first|exact SetAs.z|(apply SetAs.c;(focus (repeat first|assumption|constructor)))))))|(apply Fk.r;(focus (repeat (first|exact FillA.nil|(apply FillA.agg;(focus rfl);(focus rfl);(focus (repeat (first|exact SetAs.z|(apply SetAs.c;(focus (repeat first|assumption|constructor)))))))|(apply FillA.one;(focus rfl);(focus infer_instance);(focus (repeat first|assumption|constructor)))))))|(apply Nm.r;focus repeat constructor)|fail)
   exact ⟨_, _, .tup (.same (.same (.nil (by (repeat first|exact .nil|refine .cons (by repeat constructor) ?_))))), rfl, rfl⟩
 rw [if_neg h2]
 by_cases h3 : EvV m (w.clock.length : Nat) (mkN w r x)
 ·rw [if_neg (fun h => h h3)]
  rw [decide_eq_true h3] at hev
  rw [hmk] at hev ⊢
  refine CallA.of pg ord18 Tryz.func18 rfl Tryz.ntmps18 Tryz.results18 rfl fun h0 G0 O0 => ?_
  repeat' (first|refine Sp.h ?_|refine Lk.r rfl ?_|refine Rf.mk rfl ?_|(apply Bd.t;(focus first|assumption|omega|rfl))|(apply Bd.f;(focus first|assumption|omega|exact Bool.false_ne_true))|refine OpK.r rfl ?_|(refine Im.mk ?_;intro _)|(refine All.mk ?_;intro _)|(apply TkB.r;(focus repeat constructor))|(apply Ix.r;(focus assumption);(focus omega))|refine Ch.l ⟨rfl, rfl⟩ ?_|refine Ch.r ?_|(apply SetAsk.r;(focus (repeat (first|exact SetAs.z|(apply SetAs.c;(focus (repeat first|assumption|constructor)))))))|(apply Fk.r;(focus (repeat (first|exact FillA.nil|(apply FillA.agg;(focus rfl);(focus rfl);(focus (repeat (first|exact SetAs.z|(apply SetAs.c;(focus (repeat first|assumption|constructor)))))))|(apply FillA.one;(focus rfl);(focus infer_instance);(focus (repeat first|assumption|constructor)))))))|(apply Nm.r;focus repeat constructor)|(apply CA.draw;(focus rfl);(focus kernel_rfl);(focus kernel_rfl);(focus repeat' constructor);(focus rfl))|exact trivial|apply RA'.both|(apply Ov.n;(focus first|omega|(simp <;> omega)))|(apply Cl.p (hcl);(focus ((repeat' (first|exact Lend.nil|apply Lend.keep|fail));done)))|(apply Cl.p (hev);(focus ((repeat' (first|exact Lend.nil|apply Lend.keep|fail));done))))
  all_goals exact ⟨_, _, .tup (.same (.same (.nil (by (repeat first|exact .nil|refine .cons (by repeat constructor) ?_))))), rfl, rfl⟩
 ·rw [if_pos h3]
  rw [decide_eq_false h3] at hev
  rw [hmk] at hev
  refine hz 1 ?_
  refine CallA.of pg ord18 Tryz.func18 rfl Tryz.ntmps18 Tryz.results18 rfl fun h0 G0 O0 => ?_
  repeat' (first|refine Sp.h ?_|refine Lk.r rfl ?_|refine Rf.mk rfl ?_|(apply Bd.f;(focus first|assumption|omega|exact Bool.false_ne_true))|refine OpK.r rfl ?_|(refine Im.mk ?_;intro _)|(refine All.mk ?_;intro _)|(apply TkB.r;(focus repeat constructor))|(apply Ix.r;(focus assumption);(focus omega))|refine Ch.l ⟨rfl, rfl⟩ ?_|refine Ch.r ?_|(apply SetAsk.r;(focus (repeat (first|exact SetAs.z|(apply SetAs.c;(focus (repeat first|assumption|constructor)))))))|(apply Fk.r;(focus (repeat (first|exact FillA.nil|(apply FillA.agg;(focus rfl);(focus rfl);(focus (repeat (first|exact SetAs.z|(apply SetAs.c;(focus (repeat first|assumption|constructor)))))))|(apply FillA.one;(focus rfl);(focus infer_instance);(focus (repeat first|assumption|constructor)))))))|(apply Nm.r;focus repeat constructor)|(apply CA.draw;(focus rfl);(focus kernel_rfl);(focus kernel_rfl);(focus repeat' constructor);(focus rfl))|exact trivial|apply RA'.both|(apply Ov.n;(focus first|omega|(simp <;> omega)))|(apply Cl.p (hcl);(focus ((repeat' (first|exact Lend.nil|apply Lend.keep|fail));done)))|(apply Cl.p (hev);(focus ((repeat' (first|exact Lend.nil|apply Lend.keep|fail));done))))
  all_goals exact ⟨_, _, .tup (.same (.same (.nil (by (repeat first|exact .nil|refine .cons (by repeat constructor) ?_))))), rfl, rfl⟩
end Go.Proofs.YtmllihbhphnolaaGreat
namespace Go.Proofs.YtmllihbhphnolaaGreat
open Go Go.CF
set_option maxRecDepth 20000
structure SuitS (m : ModS) (ld : List Int) (l : List EvS) : Prop where
 e : SuitE m l
 ne : 0 < l.length
 ln : ld.length = strF m
 ld : ∀ x ∈ ld, -1000 ≤ x ∧ x ≤ 1000
 sm : ∀ a ∈ m.acts, ∀ p ∈ a.eff.delta, -1000 ≤ p.2 ∧ p.2 ≤ 1000
theorem SuitS.smd {m : ModS} {ld : List Int} {l : List EvS} (h : SuitS m ld l) : SmD m := fun a ha => ⟨(h.e.1.eff a ha).dl, h.sm a ha⟩
set_option maxHeartbeats 8000000 in
theorem suits35_c (m : ModS) (ld : List Int) (l : List EvS) : CallF Tryz.prog 14 [mdl m, ints ld, evs l] (SuitS m ld l) := by
 have hfe := few32_c m l
 refine CallA.of pg ord14 Tryz.func14 rfl Tryz.ntmps14 Tryz.results14 rfl fun h0 G0 O0 => ?_
 repeat' (first|refine Sp.h ?_|refine Lk.r rfl ?_|refine Rf.mk rfl ?_|(refine All.mk ?_;intro _)|(apply TkB.r;(focus repeat constructor))|refine Ch.l ⟨rfl, rfl⟩ ?_|fail)
 rename_i b3
 (apply Cl.use (hfe);(focus repeat' (first|exact Lend.nil|apply Lend.keep|fail));(focus (repeat (first|exact Takes.nil|(apply Takes.cons;(focus repeat constructor)))));(focus rfl))
 rintro _ _ ⟨b, rfl, rfl, h1⟩
 cases b
 ·repeat' (first|refine Sp.h ?_|refine Lk.r rfl ?_|refine Rf.mk rfl ?_|(apply Bd.f;(focus first|assumption|omega|exact Bool.false_ne_true))|(apply Nm.r;focus repeat constructor)|fail)
  exact ⟨_, _, .one (.same (.nil (by (repeat first|exact .nil|refine .cons (by repeat constructor) ?_)))), _, rfl, rfl, fun h => by cases h⟩
 obtain ⟨hm, hf⟩ := h1 rfl
 have hcl := closed_p l
 have hst := strict32_p m hm.lay
 have hmg := merged32_p m hm.lay
 by_cases hl0 : l.length = 0
 ·repeat' (first|refine Sp.h ?_|refine Lk.r rfl ?_|refine Rf.mk rfl ?_|(apply Bd.t;(focus first|assumption|omega|rfl))|(refine Im.mk ?_;intro _)|(apply Nm.r;focus repeat constructor)|fail)
  exact ⟨_, _, .one (.same (.nil (by (repeat first|exact .nil|refine .cons (by repeat constructor) ?_)))), _, rfl, rfl, fun h => by cases h⟩
 by_cases hc : ClosedE l
 rotate_left
 ·rw [decide_eq_false hc] at hcl
  repeat' (first|refine Sp.h ?_|refine Lk.r rfl ?_|refine Rf.mk rfl ?_|(apply Bd.t;(focus first|assumption|omega|rfl))|(apply Bd.f;(focus first|assumption|omega|exact Bool.false_ne_true))|(refine Im.mk ?_;intro _)|(apply Nm.r;focus repeat constructor)|(apply Cl.p (hcl);(focus ((repeat' (first|exact Lend.nil|apply Lend.keep|fail));done)))|(apply Cl.p (hst);(focus ((repeat' (first|exact Lend.nil|apply Lend.keep|fail));done))))
  exact ⟨_, _, .one (.same (.nil (by (repeat first|exact .nil|refine .cons (by repeat constructor) ?_)))), _, rfl, rfl, fun h => by cases h⟩
 rw [decide_eq_true hc] at hcl
 by_cases hln : ld.length = strF m
 rotate_left
 ·repeat' (first|refine Sp.h ?_|refine Lk.r rfl ?_|refine Rf.mk rfl ?_|(apply Bd.t;(focus first|assumption|omega|rfl))|(apply Bd.f;(focus first|assumption|omega|exact Bool.false_ne_true))|(refine Im.mk ?_;intro _)|(apply TkB.r;(focus repeat constructor))|refine Ch.l ⟨rfl, rfl⟩ ?_|(apply Nm.r;focus repeat constructor)|(apply Cl.p (hcl);(focus ((repeat' (first|exact Lend.nil|apply Lend.keep|fail));done)))|(apply Cl.p (hst);(focus ((repeat' (first|exact Lend.nil|apply Lend.keep|fail));done))))
  exact ⟨_, _, .one (.same (.nil (by (repeat first|exact .nil|refine .cons (by repeat constructor) ?_)))), _, rfl, rfl, fun h => by cases h⟩
 repeat' (first|refine Sp.h ?_|refine Lk.r rfl ?_|refine Rf.mk rfl ?_|(apply Bd.t;(focus first|assumption|omega|rfl))|(apply Bd.f;(focus first|assumption|omega|exact Bool.false_ne_true))|(refine Im.mk ?_;intro _)|(apply TkB.r;(focus repeat constructor))|refine Ch.l ⟨rfl, rfl⟩ ?_|(apply Cl.p (hcl);(focus ((repeat' (first|exact Lend.nil|apply Lend.keep|fail));done)))|(apply Cl.p (hst);(focus ((repeat' (first|exact Lend.nil|apply Lend.keep|fail));done))))
 refine CA.loop (fun i : Nat => ⟨[(2, evs l), (3, pm b3), (40, ints ld), (41, it (ld.length : Nat)), (42, it i)], [mR b3 m]⟩) (fun i => i ≤ ld.length ∧ ∀ x ∈ ld.take i, -1000 ≤ x ∧ x ≤ 1000) (fun i => ld.length - i) 0 ⟨by repeat first|trivial|refine ⟨rfl,?_⟩,by repeat first|exact .nil|refine .cons (by repeat constructor) ?_⟩ ⟨Nat.zero_le _, by simp⟩ ?_
 rintro i ⟨hi, ha⟩
 by_cases hin : i < ld.length
 ·obtain ⟨x, hx⟩ := get_of hin
  repeat' (first|refine Sp.h ?_|refine Lk.r rfl ?_|refine Rf.mk rfl ?_|(apply Bd.t;(focus first|assumption|omega|rfl))|(apply Bd.f;(focus first|assumption|omega|exact Bool.false_ne_true))|(refine Bd.mk ?_ ?_ <;> intro _)|(apply Ix.q;(focus exact rfl);(focus assumption))|(apply Nm.r;focus repeat constructor)|(apply Ov.n;(focus first|omega|(simp <;> omega)))|fail)
  all_goals first
   | exact ⟨_, _, .one (.same (.nil (by (repeat first|exact .nil|refine .cons (by repeat constructor) ?_)))), _, rfl, rfl, fun h => by cases h⟩
   | exact PA.lp (i + 1) ⟨by repeat first|trivial|refine ⟨rfl,?_⟩,by repeat first|exact .nil|refine .cons (by repeat constructor) ?_⟩ ⟨⟨hin, all_succ hx ha ⟨by omega, by omega⟩⟩, by omega⟩
 have hie : i = ld.length := by omega
 subst hie
 rw [List.take_length] at ha
 repeat' (first|refine Sp.h ?_|refine Lk.r rfl ?_|refine Rf.mk rfl ?_|(apply Bd.f;(focus first|assumption|omega|exact Bool.false_ne_true))|(refine Im.mk ?_;intro _)|fail)
 refine CA.loop (fun i : Nat => ⟨[(2, evs l), (3, pm b3), (53, evs l), (54, it (l.length : Nat)), (55, it i)], [mR b3 m]⟩) (fun i => i ≤ l.length ∧ ∀ e ∈ l.take i, EvV m (n0 l : Nat) e) (fun i => l.length - i) 0 ⟨by repeat first|trivial|refine ⟨rfl,?_⟩,by repeat first|exact .nil|refine .cons (by repeat constructor) ?_⟩ ⟨Nat.zero_le _, by simp⟩ ?_
 rintro i ⟨hi, hev⟩
 by_cases hin : i < l.length
 ·obtain ⟨e, he⟩ := get_of hin
  obtain ⟨d, hd⟩ := get_of (l := l) (i := 0) (by omega)
  have hn : n0 l = d.past.length := by rw [n0, hd];rfl
  have hvv := evalid_p m (d.past.length : Nat) e
  by_cases hv : EvV m (d.past.length : Nat) e
  ·repeat' (first|refine Sp.h ?_|refine Lk.r rfl ?_|refine Rf.mk rfl ?_|(apply Bd.t;(focus first|assumption|omega|rfl))|refine OpK.r rfl ?_|(refine Im.mk ?_;intro _)|(refine All.mk ?_;intro _)|(apply TkB.r;(focus repeat constructor))|(apply Ix.q;(focus exact rfl);(focus assumption))|refine Ch.l ⟨rfl, rfl⟩ ?_|(apply SetAsk.r;(focus (repeat (first|exact SetAs.z|(apply SetAs.c;(focus (repeat first|assumption|constructor)))))))|(apply Nm.r;focus repeat constructor)|(apply CA.draw;(focus rfl);(focus kernel_rfl);(focus kernel_rfl);(focus repeat' constructor);(focus rfl))|(apply Ov.n;(focus first|omega|(simp <;> omega)))|(apply Cl.p (hvv);(focus repeat' (first|exact Lend.nil|apply Lend.keep|fail))))
   all_goals exact PA.lp (i + 1) ⟨by repeat first|trivial|refine ⟨rfl,?_⟩,by repeat first|exact .nil|refine .cons (by repeat constructor) ?_⟩ ⟨⟨hin, all_succ he hev (by rw [hn];exact hv)⟩, by omega⟩
  ·repeat' (first|refine Sp.h ?_|refine Lk.r rfl ?_|refine Rf.mk rfl ?_|(apply Bd.t;(focus first|assumption|omega|rfl))|(apply Bd.f;(focus first|assumption|omega|exact Bool.false_ne_true))|refine OpK.r rfl ?_|(refine Im.mk ?_;intro _)|(refine All.mk ?_;intro _)|(apply TkB.r;(focus repeat constructor))|(apply Ix.q;(focus exact rfl);(focus assumption))|refine Ch.l ⟨rfl, rfl⟩ ?_|(apply SetAsk.r;(focus (repeat (first|exact SetAs.z|(apply SetAs.c;(focus (repeat first|assumption|constructor)))))))|(apply Nm.r;focus repeat constructor)|(apply CA.draw;(focus rfl);(focus kernel_rfl);(focus kernel_rfl);(focus repeat' constructor);(focus rfl))|(apply Cl.p (hvv);(focus repeat' (first|exact Lend.nil|apply Lend.keep|fail))))
   all_goals exact ⟨_, _, .one (.same (.nil (by (repeat first|exact .nil|refine .cons (by repeat constructor) ?_)))), _, rfl, rfl, fun h => by cases h⟩
 have hie : i = l.length := by omega
 subst hie
 rw [List.take_length] at hev
 repeat' (first|refine Sp.h ?_|refine Lk.r rfl ?_|refine Rf.mk rfl ?_|(apply Bd.f;(focus first|assumption|omega|exact Bool.false_ne_true))|(refine Im.mk ?_;intro _)|(apply TkB.r;(focus repeat constructor))|fail)
 refine CA.loop (fun i : Nat => ⟨[(3, pm b3), (70, .sl 5 m.acts actC), (71, it (m.acts.length : Nat)), (72, it i)], [mR b3 m]⟩) (fun i => i ≤ m.acts.length ∧ ∀ a ∈ m.acts.take i, (∀ u ∈ a.eff.updates, ∀ (i : Nat) t, u.2.1 = i → (mrgF m)[i]? = some t → FitO t u) ∧ ∀ p ∈ a.eff.delta, -1000 ≤ p.2 ∧ p.2 ≤ 1000) (fun i => m.acts.length - i) 0 ⟨by repeat first|trivial|refine ⟨rfl,?_⟩,by repeat first|exact .nil|refine .cons (by repeat constructor) ?_⟩ ⟨Nat.zero_le _, by simp⟩ ?_
 rintro i ⟨hi, hac⟩
 by_cases hin : i < m.acts.length
 ·obtain ⟨a, hx⟩ := get_of hin
  have heo := hm.eff a (List.mem_of_getElem? hx)
  repeat' (first|refine Sp.h ?_|refine Lk.r rfl ?_|refine Rf.mk rfl ?_|(apply Bd.t;(focus first|assumption|omega|rfl))|(refine Im.mk ?_;intro _)|(refine All.mk ?_;intro _)|(apply TkB.r;(focus repeat constructor))|(apply Ix.q;(focus exact rfl);(focus assumption))|refine Ch.l ⟨rfl, rfl⟩ ?_|(apply SetAsk.r;(focus (repeat (first|exact SetAs.z|(apply SetAs.c;(focus (repeat first|assumption|constructor)))))))|(apply Nm.r;focus repeat constructor)|fail)
  rename_i b12 _
  refine CA.loop (fun k : Nat => ⟨[(3, pm b3), (12, pm b12), (70, .sl 5 m.acts actC), (71, it (m.acts.length : Nat)), (72, it i), (78, .sl 3 a.eff.updates updC), (79, it (a.eff.updates.length : Nat)), (80, it k)], [mR b3 m, blkR b12 151 (actC a)]⟩) (fun k => k ≤ a.eff.updates.length ∧ ∀ u ∈ a.eff.updates.take k, ∀ (i : Nat) t, u.2.1 = i → (mrgF m)[i]? = some t → FitO t u) (fun k => a.eff.updates.length - k) 0 ⟨by repeat first|trivial|refine ⟨rfl,?_⟩,by repeat first|exact .nil|refine .cons (by repeat constructor) ?_⟩ ⟨Nat.zero_le _, by simp⟩ ?_
  rintro k ⟨hk, hb⟩
  by_cases hkn : k < a.eff.updates.length
  ·obtain ⟨u, hu⟩ := get_of hkn
   obtain ⟨u1, u2⟩ := heo.u u (List.mem_of_getElem? hu)
   obtain ⟨t, ht⟩ := get_of (l := mrgF m) (i := u.2.1.toNat) (by omega)
   obtain ⟨uk, uc, uv⟩ := u
   simp only at u1 u2 ht
   (repeat' (first|(show CA _ _ (Code.region 21 _ _) _ _;apply Stopped.out)|refine Sp.h ?_|refine Lk.r rfl ?_|refine Rf.mk rfl ?_|(apply Bd.t;(focus first|assumption|omega|rfl))|(refine All.mk ?_;intro _)|(apply TkB.r;(focus repeat constructor))|(apply Ix.q;(focus exact rfl);(focus assumption))|refine Ch.l ⟨rfl, rfl⟩ ?_|(apply SetAsk.r;(focus (repeat (first|exact SetAs.z|(apply SetAs.c;(focus (repeat first|assumption|constructor)))))))|(apply Nm.r;focus repeat constructor)|fail));any_goals apply Stopped.mk
   rename_i b14
   refine CA.cut (fun b15 : Nat => ⟨[(3, pm b3), (12, pm b12), (14, pm b14), (15, pm b15), (70, .sl 5 m.acts actC), (71, it (m.acts.length : Nat)), (72, it i), (78, .sl 3 a.eff.updates updC), (79, it (a.eff.updates.length : Nat)), (80, it k)], [mR b3 m, blkR b12 151 (actC a), blkR b14 153 (updC (uk, uc, uv)), blkR b15 157 (tblC t)]⟩) (fun _ => True) ?_ ?_
   ·repeat' (first|refine Sp.h ?_|refine Lk.r rfl ?_|refine Rf.mk rfl ?_|refine OpK.r rfl ?_|(refine All.mk ?_;intro _)|(apply TkB.r;(focus repeat constructor))|(apply Ix.r;(focus assumption);(focus omega))|refine Ch.l ⟨rfl, rfl⟩ ?_|(apply SetAsk.r;(focus (repeat (first|exact SetAs.z|(apply SetAs.c;(focus (repeat first|assumption|constructor)))))))|(apply Nm.r;focus repeat constructor)|(apply CA.draw;(focus rfl);(focus kernel_rfl);(focus kernel_rfl);(focus repeat' constructor);(focus rfl))|exact trivial|apply RA'.both|(apply Cl.p (hmg);(focus repeat' (first|exact Lend.nil|apply Lend.keep|fail))))
    all_goals exact PA.lp _ ⟨by repeat first|trivial|refine ⟨rfl,?_⟩,by repeat first|exact .nil|refine .cons (by repeat constructor) ?_⟩ trivial
   intro b15 _
   simp only
   (repeat' (first|(show CA _ _ (Code.region 22 _ _) _ _;apply Stopped.out)|refine Sp.h ?_|fail));any_goals apply Stopped.mk
   refine CA.cut (fun b : Bool => ⟨[(3, pm b3), (12, pm b12), (14, pm b14), (15, pm b15), (16, bl b), (70, .sl 5 m.acts actC), (71, it (m.acts.length : Nat)), (72, it i), (78, .sl 3 a.eff.updates updC), (79, it (a.eff.updates.length : Nat)), (80, it k)], [mR b3 m, blkR b12 151 (actC a), blkR b14 153 (updC (uk, uc, uv)), blkR b15 157 (tblC t)]⟩) (fun b => b = true ↔ isSt t.kind) ?_ ?_
   ·repeat' (first|refine Sp.h ?_|refine Lk.r rfl ?_|refine Rf.mk rfl ?_|(apply Bd.t;(focus first|assumption|omega|rfl))|(apply Bd.f;(focus first|assumption|omega|exact Bool.false_ne_true))|(refine Bd.mk ?_ ?_ <;> intro _)|(apply TkB.r;(focus repeat constructor))|fail)
    all_goals exact PA.lp _ ⟨by repeat first|trivial|refine ⟨rfl,?_⟩,by repeat first|exact .nil|refine .cons (by repeat constructor) ?_⟩ (by unfold isSt;simp;omega)
   rintro b hb1
   simp only
   (repeat' (first|(show CA _ _ (Code.region 23 _ _) _ _;apply Stopped.out)|refine Sp.h ?_|fail));any_goals apply Stopped.mk
   refine CA.cut (fun c : Bool => ⟨[(3, pm b3), (12, pm b12), (70, .sl 5 m.acts actC), (71, it (m.acts.length : Nat)), (72, it i), (78, .sl 3 a.eff.updates updC), (79, it (a.eff.updates.length : Nat)), (80, it k), (127, bl c)], [mR b3 m, blkR b12 151 (actC a)]⟩) (fun c => c = false → FitO t (uk, uc, uv)) ?_ ?_
   ·have hf : FitO t (uk, uc, uv) ↔ (b = true ↔ uk = 0 ∨ uk = 1) ∧ (b ≠ true → t.lo ≤ uv ∧ uv ≤ t.hi) := by unfold FitO;simp only;rw [← hb1]
    cases b
    all_goals repeat' (first|refine Sp.h ?_|refine Lk.r rfl ?_|refine Rf.mk rfl ?_|(apply Bd.t;(focus first|assumption|omega|rfl))|(apply Bd.f;(focus first|assumption|omega|exact Bool.false_ne_true))|(refine Bd.mk ?_ ?_ <;> intro _)|(apply TkB.r;(focus repeat constructor))|fail)
    all_goals exact PA.lp _ ⟨by repeat first|trivial|refine ⟨rfl,?_⟩,by repeat first|exact .nil|refine .cons (by repeat constructor) ?_⟩ (by rw [hf];first|(simp;done)|(simp;omega)|(simp at *;omega))
   rintro c hc
   simp only
   cases c
   ·repeat' (first|refine Sp.h ?_|refine Lk.r rfl ?_|refine Rf.mk rfl ?_|(apply Ov.n;(focus first|omega|(simp <;> omega)))|fail)
    refine PA.lp (k + 1) ⟨by repeat first|trivial|refine ⟨rfl,?_⟩,by repeat first|exact .nil|refine .cons (by repeat constructor) ?_⟩ ⟨⟨hkn, all_succ hu hb fun j t' hj ht' => ?_⟩, by omega⟩
    have : uc.toNat = j := by simp only at hj;omega
    rw [this] at ht
    rw [ht] at ht';cases ht'
    exact hc rfl
   ·repeat' (first|refine Sp.h ?_|refine Lk.r rfl ?_|refine Rf.mk rfl ?_|(apply Nm.r;focus repeat constructor)|fail)
    exact ⟨_, _, .one (.same (.nil (by (repeat first|exact .nil|refine .cons (by repeat constructor) ?_)))), _, rfl, rfl, fun h => by cases h⟩
  have hke : k = a.eff.updates.length := by omega
  subst hke
  rw [List.take_length] at hb
  repeat' (first|refine Sp.h ?_|refine Lk.r rfl ?_|refine Rf.mk rfl ?_|(apply Bd.f;(focus first|assumption|omega|exact Bool.false_ne_true))|(refine Im.mk ?_;intro _)|(apply TkB.r;(focus repeat constructor))|fail)
  refine CA.loop (fun k : Nat => ⟨[(3, pm b3), (70, .sl 5 m.acts actC), (71, it (m.acts.length : Nat)), (72, it i), (131, terms a.eff.delta), (132, it (a.eff.delta.length : Nat)), (133, it k)], [mR b3 m]⟩) (fun k => k ≤ a.eff.delta.length ∧ ∀ p ∈ a.eff.delta.take k, -1000 ≤ p.2 ∧ p.2 ≤ 1000) (fun k => a.eff.delta.length - k) 0 ⟨by repeat first|trivial|refine ⟨rfl,?_⟩,by repeat first|exact .nil|refine .cons (by repeat constructor) ?_⟩ ⟨Nat.zero_le _, by simp⟩ ?_
  rintro k ⟨hk2, hd⟩
  by_cases hkn : k < a.eff.delta.length
  ·obtain ⟨p, hp⟩ := get_of hkn
   repeat' (first|refine Sp.h ?_|refine Lk.r rfl ?_|refine Rf.mk rfl ?_|(apply Bd.t;(focus first|assumption|omega|rfl))|(apply Bd.f;(focus first|assumption|omega|exact Bool.false_ne_true))|(refine Bd.mk ?_ ?_ <;> intro _)|(refine All.mk ?_;intro _)|(apply TkB.r;(focus repeat constructor))|(apply Ix.q;(focus exact rfl);(focus assumption))|refine Ch.l ⟨rfl, rfl⟩ ?_|(apply SetAsk.r;(focus (repeat (first|exact SetAs.z|(apply SetAs.c;(focus (repeat first|assumption|constructor)))))))|(apply Nm.r;focus repeat constructor)|(apply Ov.n;(focus first|omega|(simp <;> omega)))|fail)
   all_goals first
    | exact ⟨_, _, .one (.same (.nil (by (repeat first|exact .nil|refine .cons (by repeat constructor) ?_)))), _, rfl, rfl, fun h => by cases h⟩
    | exact PA.lp (k + 1) ⟨by repeat first|trivial|refine ⟨rfl,?_⟩,by repeat first|exact .nil|refine .cons (by repeat constructor) ?_⟩ ⟨⟨hkn, all_succ hp hd ⟨by omega, by omega⟩⟩, by omega⟩
  have hke : k = a.eff.delta.length := by omega
  subst hke
  rw [List.take_length] at hd
  repeat' (first|refine Sp.h ?_|refine Lk.r rfl ?_|refine Rf.mk rfl ?_|(apply Bd.f;(focus first|assumption|omega|exact Bool.false_ne_true))|(apply Ov.n;(focus first|omega|(simp <;> omega)))|fail)
  exact PA.lp (i + 1) ⟨by repeat first|trivial|refine ⟨rfl,?_⟩,by repeat first|exact .nil|refine .cons (by repeat constructor) ?_⟩ ⟨⟨hin, all_succ hx hac ⟨hb, hd⟩⟩, by omega⟩
 have hie : i = m.acts.length := by omega
 subst hie
 rw [List.take_length] at hac
 repeat' (first|refine Sp.h ?_|refine Lk.r rfl ?_|refine Rf.mk rfl ?_|(apply Bd.f;(focus first|assumption|omega|exact Bool.false_ne_true))|(apply Nm.r;focus repeat constructor)|fail)
 exact ⟨_, _, .one (.same (.nil (by (repeat first|exact .nil|refine .cons (by repeat constructor) ?_)))), _, rfl, rfl, fun _ => ⟨⟨hm, hf, hc, fun a h => (hac a h).1, hev⟩, by omega, hln, ha, fun a h => (hac a h).2⟩⟩
end Go.Proofs.YtmllihbhphnolaaGreat
namespace Go.Proofs.YtmllihbhphnolaaGreat
open Go Go.CF
set_option maxRecDepth 20000
noncomputable def stN (m : ModS) (n : Nat) (ld : List Int) (X : List EvS) : NowS := ⟨clkE n X, X.foldl (fun t e => max t e.time) 0, X.foldl (addE m) ld, X.foldl (mrg1 m) (List.replicate (mrgF m).length mg0), X.foldl plE []⟩
theorem deliver_st {m : ModS} {evl : List EvS} {w : NowS} {e : EvS} (h : (deliverF m evl w e).1 = 0) : (deliverF m evl w e).2 = ⟨cntF w.clock e, max w.time e.time, addE m w.state e, (applyF m w.merged e).2, plE w.places e⟩ := by
 unfold deliverF at h ⊢
 repeat' split
 all_goals first
  | rfl
  | (exfalso;simp_all;done)
theorem stN_snoc (m : ModS) (n : Nat) (ld : List Int) (X : List EvS) (e : EvS) : stN m n ld (X ++ [e]) = ⟨cntF (stN m n ld X).clock e, max (stN m n ld X).time e.time, addE m (stN m n ld X).state e, (applyF m (stN m n ld X).merged e).2, plE (stN m n ld X).places e⟩ := by
 simp only [stN, clkE, List.foldl_append, List.foldl_cons, List.foldl_nil, cntF, mrg1]
theorem plL_len (l : List EvS) : (plL l).length ≤ l.length := by unfold plL;rw [List.length_map];exact List.length_filter_le _ _
theorem foldE_len (m : ModS) (X : List EvS) : ∀ ld : List Int, (X.foldl (addE m) ld).length = ld.length := by
 induction X with
 | nil => exact fun _ => rfl
 | cons e X ih => intro ld;rw [List.foldl_cons, ih, addE_len]
theorem stN_ok {m : ModS} {l X : List EvS} {ld : List Int} (hs : SuitS m ld l) (hX : ∀ e ∈ X, e ∈ l) (hl : X.length ≤ 1000) : NowOK m (stN m (n0 l) ld X) := by
 obtain ⟨e, he⟩ := get_of (l := l) (i := 0) hs.ne
 have hr := n0_rng hs.e.2.2.1 (List.mem_of_getElem? he)
 refine ⟨clk_valC hs.e.2.2.1 hX hr, by simp only [stN, foldE_len];exact hs.ln, ?_, ?_⟩
 ·simp only [stN, places_srt];exact (srtD_si _).1
 ·simp only [stN, places_srt]
  have := srtD_len (plL X);have := plL_len X
  omega
theorem fill_sto {m : ModS} {l X : List EvS} {ld : List Int} (hs : SuitS m ld l) (hl : X.length ≤ 100) (hX : ExtO l X) : ∀ i, i ≤ X.length → StoA m l ld (X.take i) (stN m (n0 l) ld (X.take i)) ∧ ∀ e, X[i]? = some e → deliverF m (X.take i) (stN m (n0 l) ld (X.take i)) e = (0, stN m (n0 l) ld (X.take (i + 1))) := by
 have step : ∀ i e, X[i]? = some e → StoA m l ld (X.take i) (stN m (n0 l) ld (X.take i)) → deliverF m (X.take i) (stN m (n0 l) ld (X.take i)) e = (0, stN m (n0 l) ld (X.take (i + 1))) ∧ StoA m l ld (X.take (i + 1)) (stN m (n0 l) ld (X.take (i + 1))) := by
  intro i e he hst
  have hil := (List.getElem?_eq_some_iff.1 he).1
  have hel := hX.sub e (List.mem_of_getElem? he)
  obtain ⟨h1, h2⟩ := hX.nxt i e he
  obtain ⟨w', d1, d2⟩ := deliver_ok hs.e (by have := hs.e.2.1.1;omega) hs.smd hs.ld hst (by rw [List.length_take];omega) (hX.cau i) hel h1 h2
  have hsu : X.take (i + 1) = X.take i ++ [e] := by rw [List.take_add_one, he];rfl
  have hw : w' = stN m (n0 l) ld (X.take (i + 1)) := by
   have := deliver_st (m := m) (evl := X.take i) (w := stN m (n0 l) ld (X.take i)) (e := e) (by rw [d1])
   rw [d1] at this
   rw [hsu, stN_snoc]
   exact this
  rw [hw] at d1 d2
  rw [← hsu] at d2
  exact ⟨d1, d2⟩
 intro i
 induction i with
 | zero =>
  intro _
  have h0 : StoA m l ld (X.take 0) (stN m (n0 l) ld (X.take 0)) := sto0 m l ld
  exact ⟨h0, fun e he => (step 0 e he h0).1⟩
 | succ i ih =>
  intro hi
  obtain ⟨e, he⟩ := get_of (l := X) (i := i) (by omega)
  have h1 := (step i e he (ih (by omega)).1).2
  exact ⟨h1, fun d hd => (step (i + 1) d hd h1).1⟩
theorem insS_ld {ld : List Int} (h : ∀ x ∈ ld, -1000 ≤ x ∧ x ≤ 1000) : insS ld := fun x hx => by have := h x hx;omega
set_option maxHeartbeats 4000000 in
theorem fill_a (m : ModS) (ld : List Int) (l : List EvS) (order : List Int) (X : List EvS) (hs : SuitS m ld l) (ho : ∀ x ∈ order, 0 ≤ x ∧ x ≤ 255) (hx : ExtR order [] (ordE l) X) (hX : ExtO l X) (hp : X.Perm l) :
  CallA Tryz.prog 15 [mdl m, ints ld, evs l, u8s order] [] fun q own => ∃ p v, q = pm p ∧ own = [stoR p m (stN m (n0 l) ld []) v (stN m (n0 l) ld X), arrR v 37 13 X evC] := by
 obtain ⟨d, hd⟩ := get_of (l := l) (i := 0) hs.ne
 have hn : n0 l = d.past.length := by rw [n0, hd];rfl
 have hr := n0_rng hs.e.2.2.1 (List.mem_of_getElem? hd)
 have hl60 := hs.e.2.1.1
 have hXl := hp.length_eq
 have hne := hs.ne
 have h1 := new35_a m (n0 l) ld hs.e.1 hr hs.ln (insS_ld hs.ld)
 rw [hn] at h1
 have h2 := extension_o l order X hs.e.2.2.1.2.1 (by omega) ho hx
 refine CallA.of pg ord15 Tryz.func15 rfl Tryz.ntmps15 Tryz.results15 rfl fun h0 G0 O0 => ?_
 repeat' (first|refine Sp.h ?_|refine Lk.r rfl ?_|refine Rf.mk rfl ?_|(apply Bd.f;(focus first|assumption|omega|exact Bool.false_ne_true))|refine OpK.r rfl ?_|(refine Im.mk ?_;intro _)|(refine All.mk ?_;intro _)|(apply TkB.r;(focus repeat constructor))|(apply Ix.q;(focus exact rfl);(focus assumption))|refine Ch.l ⟨rfl, rfl⟩ ?_|(apply CA.draw;(focus rfl);(focus kernel_rfl);(focus kernel_rfl);(focus repeat' constructor);(focus rfl))|fail)
 (apply Cl.use (h1);(focus repeat' (first|exact Lend.nil|apply Lend.keep|fail));(focus (repeat (first|exact Takes.nil|(apply Takes.cons;(focus repeat constructor)))));(focus rfl))
 rintro _ _ ⟨p, v, rfl, rfl⟩
 repeat' (first|refine Sp.h ?_|refine Lk.r rfl ?_|refine Rf.mk rfl ?_|(apply Bd.t;(focus first|assumption|omega|rfl))|refine OpK.r rfl ?_|fail)
 (apply Cl.use (h2);(focus repeat' (first|exact Lend.nil|apply Lend.keep|fail));(focus (repeat (first|exact Takes.nil|(apply Takes.cons;(focus repeat constructor)))));(focus rfl))
 rintro _ _ ⟨vx, rfl, rfl⟩
 repeat' (first|refine Sp.h ?_|refine Lk.r rfl ?_|(apply TkA.r;(focus repeat constructor))|fail)
 refine CA.loop (fun x : Nat × Value => ⟨[(9, pm p), (31, .ow vx), (32, it (X.length : Nat)), (33, it x.1)], [stoR p m (stN m (n0 l) ld []) x.2 (stN m (n0 l) ld (X.take x.1)), arrR x.2 37 13 (X.take x.1) evC, arrR vx 37 13 X evC]⟩) (fun x => x.1 ≤ X.length) (fun x => X.length - x.1) (0, v) ?_ (Nat.zero_le _) ?_
 ·rw [hn];exact ⟨by repeat first|trivial|refine ⟨rfl,?_⟩,by repeat first|exact .nil|refine .cons (by repeat constructor) ?_⟩
 rintro ⟨i, u⟩ hi
 simp only at hi
 simp only
 obtain ⟨f1, f2⟩ := fill_sto hs (by omega) hX i hi
 by_cases hin : i < X.length
 ·obtain ⟨e, he⟩ := get_of hin
  have hdl := deliver_a p m (stN m (n0 l) ld []) u (X.take i) (stN m (n0 l) ld (X.take i)) e hs.e.1 (stN_ok hs (fun e he => hX.sub e (List.mem_of_mem_take he)) (by rw [List.length_take];omega)) (by rw [List.length_take];omega)
  rw [evsD, f2 e he, if_pos rfl] at hdl
  have hsu : X.take (i + 1) = X.take i ++ [e] := by rw [List.take_add_one, he];rfl
  rw [← hsu] at hdl
  repeat' (first|refine Sp.h ?_|refine Lk.r rfl ?_|refine Rf.mk rfl ?_|(apply Bd.t;(focus first|assumption|omega|rfl))|(refine All.mk ?_;intro _)|(apply TkA.r;(focus repeat constructor))|(apply TkB.r;(focus repeat constructor))|(apply Ix.q;(focus exact rfl);(focus assumption))|(apply At.r;(focus assumption))|refine Ch.l ⟨rfl, rfl⟩ ?_|(apply SetAsk.r;(focus (repeat (first|exact SetAs.z|(apply SetAs.c;(focus (repeat first|assumption|constructor)))))))|(apply Nm.r;focus repeat constructor)|fail)
  (apply Cl.use (hdl);(focus repeat' (first|exact Lend.nil|apply Lend.keep|fail));(focus (repeat (first|exact Takes.nil|(apply Takes.cons;(focus repeat constructor)))));(focus rfl))
  rintro _ _ ⟨rfl, u', rfl⟩
  repeat' (first|refine Sp.h ?_|refine Lk.r rfl ?_|refine Rf.mk rfl ?_|(apply Bd.t;(focus first|assumption|omega|rfl))|(apply Ov.n;(focus first|omega|(simp <;> omega)))|fail)
  exact PA.lp (i + 1, u') ⟨by repeat first|trivial|refine ⟨rfl,?_⟩,by repeat first|exact .nil|refine .cons (by repeat constructor) ?_⟩ ⟨hin, by simp only;omega⟩
 ·have hie : i = X.length := by omega
  subst hie
  simp only [List.take_length]
  repeat' (first|refine Sp.h ?_|refine Lk.r rfl ?_|refine Rf.mk rfl ?_|(apply Bd.f;(focus first|assumption|omega|exact Bool.false_ne_true))|(apply Nm.r;focus repeat constructor)|fail)
  exact ⟨_, _, .one (.same (.nil (by (repeat first|exact .nil|refine .cons (by repeat constructor) ?_)))), p, u, rfl, rfl⟩
end Go.Proofs.YtmllihbhphnolaaGreat
namespace Go.Proofs.YtmllihbhphnolaaGreat
open Go Go.CF
set_option maxRecDepth 20000
def SzM (k : List MgS) : Prop := k.length ≤ 100000 ∧ ∀ g ∈ k, g.marks.length ≤ 1000000
theorem mrg1_sz {m : ModS} {k : List MgS} {e : EvS} (h : SzM k) : SzM (mrg1 m k e) := by
 unfold mrg1
 by_cases h0 : (applyF m k e).1 = 0
 ·obtain ⟨_, _, h3, _, h5⟩ := applyF_ok h0
  exact ⟨by rw [h3];exact h.1, h5⟩
 ·have h2 : (applyF m k e).2 = [] := by
   unfold applyF at h0 ⊢
   split
   ·rfl
   ·rename_i h1
    rw [if_neg h1] at h0
    split
    ·rename_i h2;rw [if_pos h2] at h0;exact absurd rfl h0
    ·rename_i h2
     rw [if_neg h2] at h0
     unfold gatherF at h0 ⊢
     split
     ·rfl
     ·rename_i h3
      rw [h3] at h0
      simp only at h0
      split
      ·rfl
      ·rename_i h4;rw [if_neg h4] at h0;exact absurd rfl h0
  rw [h2]
  exact ⟨by simp, by simp⟩
structure BasOK (m : ModS) (n : Nat) (b : NowS) : Prop where
 clk : ValC b.clock
 len : b.clock.length = n
 st : b.state.length = strF m
 mg : SzM b.merged
 pls : SrtI b.places
 pll : b.places.length ≤ 10000
theorem withP_srt {l : List Int} {n : Int} (h : SrtI l) : SrtI (withP l n) := (withP_si (l := l) (s := l) (n := n) ⟨h, fun _ => Iff.rfl⟩).1
theorem withP_le {l : List Int} {n : Int} (h : SrtI l) : (withP l n).length ≤ l.length + 1 := by
 by_cases hn : n ∈ l
 ·rw [show withP l n = l from if_pos hn];omega
 ·rw [with_eq h hn];simp;have := idxN_le (fun y => decide (¬ y < n)) l;unfold posI;omega
theorem plE_srt {l : List Int} {e : EvS} (h : SrtI l) : SrtI (plE l e) ∧ (plE l e).length ≤ l.length + 1 := by
 unfold plE
 split
 ·exact ⟨withP_srt h, withP_le h⟩
 ·exact ⟨h, by omega⟩
theorem inL_succ {c : List Int} {l : List EvS} {i : Nat} {e : EvS} (h : l[i]? = some e) : inL c (l.take (i + 1)) = inL c (l.take i) ++ if HasC c e.rep e.num then [e] else [] := by
 rw [inL, filter_succ h]
 by_cases hh : HasC c e.rep e.num <;> simp [hh, inL]
theorem outL_succ {c : List Int} {l : List EvS} {i : Nat} {e : EvS} (h : l[i]? = some e) : outL c (l.take (i + 1)) = outL c (l.take i) ++ if HasC c e.rep e.num then [] else [e] := by
 rw [outL, filter_succ h]
 by_cases hh : HasC c e.rep e.num <;> simp [hh, outL]
structure MidOK (m : ModS) (b x : NowS) (i : Nat) : Prop where
 ck : x.clock = b.clock
 st : x.state.length = strF m
 mg : SzM x.merged
 pls : SrtI x.places
 pll : x.places.length ≤ b.places.length + i
theorem mid_step {m : ModS} {b x : NowS} {i : Nat} {e : EvS} (h : MidOK m b x i) : MidOK m b (cmp1 m x e) (i + 1) :=
 ⟨h.ck, by simp only [cmp1, addE_len];exact h.st, mrg1_sz h.mg, (plE_srt h.pls).1, by have := (plE_srt (e := e) h.pls).2;have := h.pll;simp only [cmp1];omega⟩
theorem fits35_p (s : Nat) (m : ModS) (b : NowS) (v : Value) (w : NowS) (c : List Int) :
  CallA Tryz.prog 125 [pm s, ints c] [stoR s m b v w] fun r own => r = bl (decide (ValC c ∧ c.length = w.clock.length)) ∧ own = [stoR s m b v w] := by
 have h := validC_p c
 by_cases h1 : ValC c
 ·rw [decide_eq_true h1] at h
  refine CallA.of pg ord125 Tryz.func125 rfl Tryz.ntmps125 Tryz.results125 rfl fun h0 G0 O0 => ?_
  repeat' (first|refine Sp.h ?_|refine Lk.r rfl ?_|refine Rf.mk rfl ?_|(refine Im.mk ?_;intro _)|(apply TkB.r;(focus repeat constructor))|(apply Nm.r;focus repeat constructor)|(apply Cl.p (h);(focus repeat' (first|exact Lend.nil|apply Lend.keep|fail))))
  refine ⟨_, _, .one (.same (.nil (by (repeat first|exact .nil|refine .cons (by repeat constructor) ?_)))), vb (decide_eq_decide.2 ⟨fun h => ⟨h1, by omega⟩, fun h => by omega⟩), rfl⟩
 ·rw [decide_eq_false h1] at h
  rw [decide_eq_false (fun h9 => h1 h9.1)]
  refine CallA.of pg ord125 Tryz.func125 rfl Tryz.ntmps125 Tryz.results125 rfl fun h0 G0 O0 => ?_
  repeat' (first|refine Sp.h ?_|refine Lk.r rfl ?_|refine Rf.mk rfl ?_|(apply Nm.r;focus repeat constructor)|(apply Cl.p (h);(focus repeat' (first|exact Lend.nil|apply Lend.keep|fail))))
  exact ⟨_, _, .one (.same (.nil (by (repeat first|exact .nil|refine .cons (by repeat constructor) ?_)))), rfl, rfl⟩
abbrev midC (x : NowS) (u : Value) : List AV := [ints x.clock, it x.time, .ow u, mgs x.merged, nl0, nl0, ints x.places]
set_option maxHeartbeats 16000000 in
theorem compact_a (s : Nat) (m : ModS) (b : NowS) (v : Value) (evl : List EvS) (w : NowS) (c : List Int) (hm : MOK m) (hw : NowOK m w) (hb : BasOK m w.clock.length b) (hl : evl.length ≤ 1000) (hev : ∀ e ∈ evl, EvV m (w.clock.length : Nat) e) :
  CallA Tryz.prog 66 [pm s, ints c] [stoR s m b v w, arrR v 37 13 evl evC] fun r own => r = it (compactF m ⟨b, evl, w⟩ c).1 ∧ ∃ v', own = [stoR s m (compactF m ⟨b, evl, w⟩ c).2.base v' (compactF m ⟨b, evl, w⟩ c).2.now, arrR v' 37 13 (compactF m ⟨b, evl, w⟩ c).2.evs evC] := by
 have hfi := fits35_p s m b v w c
 have hstr := hm.str
 by_cases h1 : ValC c ∧ c.length = w.clock.length
 rotate_left
 ·have hF : compactF m ⟨b, evl, w⟩ c = (1, ⟨b, evl, w⟩) := @if_pos _ (Classical.propDecidable _) h1 _ _ _
  rw [hF]
  rw [decide_eq_false h1] at hfi
  refine CallA.of pg ord66 Tryz.func66 rfl Tryz.ntmps66 Tryz.results66 rfl fun h0 G0 O0 => ?_
  repeat' (first|refine Sp.h ?_|refine Lk.r rfl ?_|refine Rf.mk rfl ?_|fail)
  (apply Cl.use (hfi);(focus repeat' (first|exact Lend.nil|apply Lend.keep|fail));(focus (repeat (first|exact Takes.nil|(apply Takes.cons;(focus repeat constructor)))));(focus rfl))
  rintro _ _ ⟨rfl, rfl⟩
  repeat' (first|refine Sp.h ?_|refine Lk.r rfl ?_|refine Rf.mk rfl ?_|(apply Bd.f;(focus first|assumption|omega|exact Bool.false_ne_true))|(apply Nm.r;focus repeat constructor)|fail)
  exact ⟨_, _, .one (.same (.nil (by (repeat first|exact .nil|refine .cons (by repeat constructor) ?_)))), rfl, v, rfl⟩
 rw [decide_eq_true h1] at hfi
 have hF9 : ¬ (Ins b.clock c ∧ Ins c w.clock ∧ ∀ e ∈ evl, HasC c e.rep e.num → Ins e.past c) → compactF m ⟨b, evl, w⟩ c = (9, ⟨b, evl, w⟩) := fun h =>
  (@if_neg _ (Classical.propDecidable _) (fun h9 => h9 h1) _ _ _).trans (@if_pos _ (Classical.propDecidable _) h _ _ _)
 have hm1 := missing_o c b.clock
 have hm2 := missing_o w.clock c
 have hbl := hb.len
 have hal1 : AlikeC [c, b.clock] := (alike2 _ _).2 ⟨h1.1, hb.clk, by omega⟩
 have hal2 : AlikeC [w.clock, c] := (alike2 _ _).2 ⟨hw.clk, h1.1, by omega⟩
 by_cases h2 : Ins b.clock c
 rotate_left
 ·rw [hF9 (fun h => h2 h.1)]
  refine CallA.of pg ord66 Tryz.func66 rfl Tryz.ntmps66 Tryz.results66 rfl fun h0 G0 O0 => ?_
  repeat' (first|refine Sp.h ?_|refine Lk.r rfl ?_|refine Rf.mk rfl ?_|fail)
  (apply Cl.use (hfi);(focus repeat' (first|exact Lend.nil|apply Lend.keep|fail));(focus (repeat (first|exact Takes.nil|(apply Takes.cons;(focus repeat constructor)))));(focus rfl))
  rintro _ _ ⟨rfl, rfl⟩
  repeat' (first|refine Sp.h ?_|refine Lk.r rfl ?_|refine Rf.mk rfl ?_|(apply Bd.t;(focus first|assumption|omega|rfl))|(apply TkB.r;(focus repeat constructor))|fail)
  (apply Cl.use (hm1);(focus repeat' (first|exact Lend.nil|apply Lend.keep|fail));(focus (repeat (first|exact Takes.nil|(apply Takes.cons;(focus repeat constructor)))));(focus rfl))
  rintro _ _ ⟨u, l, rfl, rfl, k1, k2⟩
  have k0 : 0 < l.length := List.length_pos_iff.2 fun h => h2 (k1.1 h hal1)
  repeat' (first|refine Sp.h ?_|refine Lk.r rfl ?_|refine Rf.mk rfl ?_|(apply Bd.t;(focus first|assumption|omega|rfl))|(apply TkA.r;(focus repeat constructor))|(apply Nm.r;focus repeat constructor)|fail)
  exact ⟨_, _, .one (.same (.nil (by (repeat first|exact .nil|refine .cons (by repeat constructor) ?_)))), rfl, v, rfl⟩
 by_cases h3 : Ins c w.clock
 rotate_left
 ·rw [hF9 (fun h => h3 h.2.1)]
  refine CallA.of pg ord66 Tryz.func66 rfl Tryz.ntmps66 Tryz.results66 rfl fun h0 G0 O0 => ?_
  repeat' (first|refine Sp.h ?_|refine Lk.r rfl ?_|refine Rf.mk rfl ?_|fail)
  (apply Cl.use (hfi);(focus repeat' (first|exact Lend.nil|apply Lend.keep|fail));(focus (repeat (first|exact Takes.nil|(apply Takes.cons;(focus repeat constructor)))));(focus rfl))
  rintro _ _ ⟨rfl, rfl⟩
  repeat' (first|refine Sp.h ?_|refine Lk.r rfl ?_|refine Rf.mk rfl ?_|(apply Bd.t;(focus first|assumption|omega|rfl))|(apply TkB.r;(focus repeat constructor))|fail)
  (apply Cl.use (hm1);(focus repeat' (first|exact Lend.nil|apply Lend.keep|fail));(focus (repeat (first|exact Takes.nil|(apply Takes.cons;(focus repeat constructor)))));(focus rfl))
  rintro _ _ ⟨u, l, rfl, rfl, k1, k2⟩
  have k0 : l.length = 0 := by rw [k1.2 fun _ => h2];rfl
  repeat' (first|refine Sp.h ?_|refine Lk.r rfl ?_|refine Rf.mk rfl ?_|(apply Bd.f;(focus first|assumption|omega|exact Bool.false_ne_true))|(apply TkA.r;(focus repeat constructor))|(apply TkB.r;(focus repeat constructor))|fail)
  (apply Cl.use (hm2);(focus repeat' (first|exact Lend.nil|apply Lend.keep|fail));(focus (repeat (first|exact Takes.nil|(apply Takes.cons;(focus repeat constructor)))));(focus rfl))
  rintro _ _ ⟨u2, l2, rfl, rfl, j1, j2⟩
  have j0 : 0 < l2.length := List.length_pos_iff.2 fun h => h3 (j1.1 h hal2)
  repeat' (first|refine Sp.h ?_|refine Lk.r rfl ?_|refine Rf.mk rfl ?_|(apply Bd.t;(focus first|assumption|omega|rfl))|(apply Bd.f;(focus first|assumption|omega|exact Bool.false_ne_true))|(apply TkA.r;(focus repeat constructor))|(apply Nm.r;focus repeat constructor)|fail)
  exact ⟨_, _, .one (.same (.nil (by (repeat first|exact .nil|refine .cons (by repeat constructor) ?_)))), rfl, v, rfl⟩
 have hcb := cloneBase_a b nl0 nl0 ⟨by have := hb.clk.2.2;omega, by have := hb.st;omega, hb.mg.1, hb.mg.2, by have := hb.pll;omega⟩
 have hcc := clone_o c (by have := h1.1.2.2;omega)
 refine CallA.of pg ord66 Tryz.func66 rfl Tryz.ntmps66 Tryz.results66 rfl fun h0 G0 O0 => ?_
 repeat' (first|refine Sp.h ?_|refine Lk.r rfl ?_|refine Rf.mk rfl ?_|fail)
 (apply Cl.use (hfi);(focus repeat' (first|exact Lend.nil|apply Lend.keep|fail));(focus (repeat (first|exact Takes.nil|(apply Takes.cons;(focus repeat constructor)))));(focus rfl))
 rintro _ _ ⟨rfl, rfl⟩
 repeat' (first|refine Sp.h ?_|refine Lk.r rfl ?_|refine Rf.mk rfl ?_|(apply Bd.t;(focus first|assumption|omega|rfl))|(apply TkB.r;(focus repeat constructor))|fail)
 (apply Cl.use (hm1);(focus repeat' (first|exact Lend.nil|apply Lend.keep|fail));(focus (repeat (first|exact Takes.nil|(apply Takes.cons;(focus repeat constructor)))));(focus rfl))
 rintro _ _ ⟨u1, l1, rfl, rfl, k1, k2⟩
 have k0 : l1.length = 0 := by rw [k1.2 fun _ => h2];rfl
 repeat' (first|refine Sp.h ?_|refine Lk.r rfl ?_|refine Rf.mk rfl ?_|(apply Bd.f;(focus first|assumption|omega|exact Bool.false_ne_true))|(apply TkA.r;(focus repeat constructor))|(apply TkB.r;(focus repeat constructor))|fail)
 (apply Cl.use (hm2);(focus repeat' (first|exact Lend.nil|apply Lend.keep|fail));(focus (repeat (first|exact Takes.nil|(apply Takes.cons;(focus repeat constructor)))));(focus rfl))
 rintro _ _ ⟨u2, l2, rfl, rfl, j1, j2⟩
 have j0 : l2.length = 0 := by rw [j1.2 fun _ => h3];rfl
 repeat' (first|refine Sp.h ?_|refine Lk.r rfl ?_|refine Rf.mk rfl ?_|(apply Bd.f;(focus first|assumption|omega|exact Bool.false_ne_true))|(apply TkA.r;(focus repeat constructor))|(apply TkB.r;(focus repeat constructor))|refine Ch.r ?_|fail)
 (apply Cl.use (hcb);(focus repeat' (first|exact Lend.nil|apply Lend.keep|fail));(focus (repeat (first|exact Takes.nil|(apply Takes.cons;(focus repeat constructor)))));(focus rfl))
 rintro _ _ ⟨v1, v2, v3, L, v4, rfl, hL, rfl⟩
 (repeat' (first|(show CA _ _ (Code.region 6 _ _) _ _;apply Stopped.out)|refine Sp.h ?_|refine Lk.r rfl ?_|refine Rf.mk rfl ?_|(refine All.mk ?_;intro _)|(apply TkB.r;(focus repeat constructor))|(apply SetAsk.r;(focus (repeat (first|exact SetAs.z|(apply SetAs.c;(focus (repeat first|assumption|constructor)))))))|(apply Nm.r;focus repeat constructor)|fail));any_goals apply Stopped.mk
 rename_i b5
 have hLl : L.length ≤ 1000000 := by have h8 := congrArg List.length hL;rw [List.length_map] at h8;have := hb.mg.1;omega
 have hLk : ∀ x ∈ L, x.marks.length ≤ 1000000 := fun x hx => hb.mg.2 x.g (by rw [← hL];exact List.mem_map_of_mem hx)
 have hbc := hb.clk.2.2
 have hbp := hb.pll
 have hbs := hb.st
 apply CA.own
 focus (apply OX.blk (b := b5);(focus repeat constructor);(focus (apply FX.s1;(focus repeat constructor);(focus omega);apply FX.k;apply FX.k;apply out_fx2;(focus repeat constructor);(focus repeat constructor);(focus exact hLl);(focus exact hLk);apply FX.k;apply FX.k;apply FX.s1;(focus repeat constructor);(focus omega);exact FX.nil));(focus repeat constructor))
 rw [hL]
 repeat' (first|refine Sp.h ?_|refine Lk.r rfl ?_|refine Rf.mk rfl ?_|(apply TkA.r;(focus repeat constructor))|(apply TkB.r;(focus repeat constructor))|fail)
 refine CA.nilOwn 6 37 13 evC rfl fun vr => ?_
 refine CA.loop (fun x : Nat × Value × NowS => ⟨[(0, pm s), (1, ints c), (5, pm b5), (6, .ow x.2.1), (46, .ow v), (47, it (evl.length : Nat)), (48, it x.1)], [stoR s m b v w, arrR v 37 13 evl evC, blkR b5 75 (midC x.2.2 v2), arrR v2 3 1 x.2.2.state intC, arrR x.2.1 37 13 (outL c (evl.take x.1)) evC]⟩)
  (fun x => x.1 ≤ evl.length ∧ (∀ e ∈ evl.take x.1, HasC c e.rep e.num → Ins e.past c) ∧ MidOK m b x.2.2 x.1 ∧ x.2.2 = (inL c (evl.take x.1)).foldl (cmp1 m) b) (fun x => evl.length - x.1) (0, vr, b) ⟨by repeat first|trivial|refine ⟨rfl,?_⟩,by repeat first|exact .nil|refine .cons (by repeat constructor) ?_⟩ ⟨Nat.zero_le _, by simp, ⟨rfl, hb.st, hb.mg, hb.pls, by simp⟩, rfl⟩ ?_
 rintro ⟨i, vr, y⟩ ⟨hi, hin0, hmid, hy⟩
 simp only at hi hin0 hmid hy
 simp only
 have hyp := hmid.pll
 have hys := hmid.st
 by_cases hil : i < evl.length
 ·obtain ⟨e, he⟩ := get_of hil
  have heV := hev e (List.mem_of_getElem? he)
  have hn := name35_p e
  have hh := hasC_p c e.rep e.num
  have hsi := inL_succ (c := c) he
  have hso := outL_succ (c := c) he
  have hol : (outL c (evl.take i)).length ≤ i := by
   have := List.length_filter_le (fun e : EvS => decide (¬ HasC c e.rep e.num)) (evl.take i)
   rw [List.length_take] at this
   unfold outL;omega
  by_cases hhc : HasC c e.rep e.num
  rotate_left
  ·rw [decide_eq_false hhc] at hh
   rw [if_neg hhc] at hsi hso
   rw [List.append_nil] at hsi
   repeat' (first|refine Sp.h ?_|refine Lk.r rfl ?_|refine Rf.mk rfl ?_|(apply Bd.t;(focus first|assumption|omega|rfl))|(apply Bd.f;(focus first|assumption|omega|exact Bool.false_ne_true))|(apply Om.mk;(focus first|omega|(simp <;> omega)))|(refine All.mk ?_;intro _)|(apply TkA.r;(focus repeat constructor))|(apply TkB.r;(focus repeat constructor))|(apply Ix.q;(focus exact rfl);(focus assumption))|(apply At.r;(focus assumption))|refine Ce.r ?_|refine Ch.l ⟨rfl, rfl⟩ ?_|(apply SetAsk.r;(focus (repeat (first|exact SetAs.z|(apply SetAs.c;(focus (repeat first|assumption|constructor)))))))|(apply Fk.r;(focus (repeat (first|exact FillA.nil|(apply FillA.agg;(focus rfl);(focus rfl);(focus (repeat (first|exact SetAs.z|(apply SetAs.c;(focus (repeat first|assumption|constructor)))))))|(apply FillA.one;(focus rfl);(focus infer_instance);(focus (repeat first|assumption|constructor)))))))|(apply Nm.r;focus repeat constructor)|refine Rf.mk ⟨rfl, rfl⟩ ?_|refine Rf.mk ⟨rfl, rfl, rfl⟩ ?_|(apply Mp.lit;(focus repeat (first|exact MpL.nil|(apply MpL.cons;(focus rfl))|(apply MpL.inv;(focus repeat constructor);(focus infer_instance)))))|(apply Ov.n;(focus first|omega|(simp <;> omega)))|(apply Cl.p (hn);(focus ((repeat' (first|exact Lend.nil|apply Lend.keep|fail));done)))|(apply Cl.p (hh);(focus ((repeat' (first|exact Lend.nil|apply Lend.keep|fail));done))))
   rw [← hso]
   exact PA.lp (i + 1, _, y) ⟨by repeat first|trivial|refine ⟨rfl,?_⟩,by repeat first|exact .nil|refine .cons (by repeat constructor) ?_⟩ ⟨⟨hil, all_succ he hin0 (fun h => absurd h hhc), ⟨hmid.ck, hmid.st, hmid.mg, hmid.pls, by simp only;omega⟩, by simp only;rw [hsi];exact hy⟩, by simp only;omega⟩
  rw [decide_eq_true hhc] at hh
  rw [if_pos hhc] at hsi hso
  rw [List.append_nil] at hso
  have hm3 := missing_o c e.past
  have hal3 : AlikeC [c, e.past] := (alike2 _ _).2 ⟨h1.1, heV.1.1, by have := heV.2.1;omega⟩
  by_cases hie : Ins e.past c
  rotate_left
  ·rw [hF9 (fun h => hie (h.2.2 e (List.mem_of_getElem? he) hhc))]
   repeat' (first|refine Sp.h ?_|refine Lk.r rfl ?_|refine Rf.mk rfl ?_|(apply Bd.t;(focus first|assumption|omega|rfl))|(refine All.mk ?_;intro _)|(apply TkA.r;(focus repeat constructor))|(apply TkB.r;(focus repeat constructor))|(apply Ix.q;(focus exact rfl);(focus assumption))|(apply At.r;(focus assumption))|refine Ch.l ⟨rfl, rfl⟩ ?_|(apply SetAsk.r;(focus (repeat (first|exact SetAs.z|(apply SetAs.c;(focus (repeat first|assumption|constructor)))))))|(apply Nm.r;focus repeat constructor)|(apply Cl.p (hn);(focus ((repeat' (first|exact Lend.nil|apply Lend.keep|fail));done)))|(apply Cl.p (hh);(focus ((repeat' (first|exact Lend.nil|apply Lend.keep|fail));done))))
   (apply Cl.use (hm3);(focus repeat' (first|exact Lend.nil|apply Lend.keep|fail));(focus (repeat (first|exact Takes.nil|(apply Takes.cons;(focus repeat constructor)))));(focus rfl))
   rintro _ _ ⟨u3, l3, rfl, rfl, q1, q2⟩
   have q0 : 0 < l3.length := List.length_pos_iff.2 fun h => hie (q1.1 h hal3)
   repeat' (first|refine Sp.h ?_|refine Lk.r rfl ?_|refine Rf.mk rfl ?_|(apply Bd.t;(focus first|assumption|omega|rfl))|(apply TkA.r;(focus repeat constructor))|(apply Nm.r;focus repeat constructor)|fail)
   exact ⟨_, _, .one (.same (.nil (by (repeat first|exact .nil|refine .cons (by repeat constructor) ?_)))), rfl, v, rfl⟩
  have hap := applyT_p m y.merged e hm
  have hwi := with_p y.places e.place hmid.pls (by omega)
  have hst := mid_step (e := e) hmid
  have hfd : cmp1 m y e = (inL c (evl.take (i + 1))).foldl (cmp1 m) b := by rw [hsi, List.foldl_append, ← hy];rfl
  have hnx : ∀ d ∈ evl.take (i + 1), HasC c d.rep d.num → Ins d.past c := all_succ he hin0 (fun _ => hie)
  repeat' (first|refine Sp.h ?_|refine Lk.r rfl ?_|refine Rf.mk rfl ?_|(apply Bd.t;(focus first|assumption|omega|rfl))|(refine All.mk ?_;intro _)|(apply TkA.r;(focus repeat constructor))|(apply TkB.r;(focus repeat constructor))|(apply Ix.q;(focus exact rfl);(focus assumption))|(apply At.r;(focus assumption))|refine Ch.l ⟨rfl, rfl⟩ ?_|(apply SetAsk.r;(focus (repeat (first|exact SetAs.z|(apply SetAs.c;(focus (repeat first|assumption|constructor)))))))|(apply Nm.r;focus repeat constructor)|(apply Cl.p (hn);(focus ((repeat' (first|exact Lend.nil|apply Lend.keep|fail));done)))|(apply Cl.p (hh);(focus ((repeat' (first|exact Lend.nil|apply Lend.keep|fail));done))))
  (apply Cl.use (hm3);(focus repeat' (first|exact Lend.nil|apply Lend.keep|fail));(focus (repeat (first|exact Takes.nil|(apply Takes.cons;(focus repeat constructor)))));(focus rfl))
  rintro _ _ ⟨u3, l3, rfl, rfl, q1, q2⟩
  have q0 : l3.length = 0 := by rw [q1.2 fun _ => hie];rfl
  by_cases hk : e.kind = 0
  rotate_left
  ·have hadd : addE m y.state e = y.state := if_neg hk
   by_cases hpl : 0 < e.place
   ·repeat' (first|refine Sp.h ?_|refine Lk.r rfl ?_|refine Rf.mk rfl ?_|(apply Bd.t;(focus first|assumption|omega|rfl))|(apply Bd.f;(focus first|assumption|omega|exact Bool.false_ne_true))|refine OpK.r rfl ?_|(apply TkA.r;(focus repeat constructor))|(apply TkB.r;(focus repeat constructor))|refine Ch.l ⟨rfl, rfl⟩ ?_|refine Ch.r ?_|(apply SetAk.r;(focus (repeat first|assumption|constructor)))|(apply CA.draw;(focus rfl);(focus kernel_rfl);(focus kernel_rfl);(focus repeat' constructor);(focus rfl))|(apply Ov.n;(focus first|omega|(simp <;> omega)))|(apply Cl.p (hap);(focus ((repeat' (first|exact Lend.nil|apply Lend.keep|fail));done)))|(apply Cl.p (hwi);(focus ((repeat' (first|exact Lend.nil|apply Lend.keep|fail));done))))
    have hz : (⟨y.clock, max y.time e.time, y.state, (applyF m y.merged e).2, withP y.places e.place⟩ : NowS) = cmp1 m y e := by rw [cmp1, hadd, plE, if_pos hpl];rfl
    all_goals rw [← hso]
    all_goals exact PA.lp (i + 1, vr, ⟨y.clock, max y.time e.time, y.state, (applyF m y.merged e).2, withP y.places e.place⟩) ⟨by repeat first|trivial|refine ⟨rfl,?_⟩,by repeat first|exact .nil|refine .cons (by repeat constructor) ?_⟩ ⟨⟨hil, hnx, by simp only;rw [hz];exact hst, by simp only;rw [hz];exact hfd⟩, by simp only;omega⟩
   ·repeat' (first|refine Sp.h ?_|refine Lk.r rfl ?_|refine Rf.mk rfl ?_|(apply Bd.f;(focus first|assumption|omega|exact Bool.false_ne_true))|refine OpK.r rfl ?_|(apply TkA.r;(focus repeat constructor))|(apply TkB.r;(focus repeat constructor))|refine Ch.l ⟨rfl, rfl⟩ ?_|refine Ch.r ?_|(apply SetAk.r;(focus (repeat first|assumption|constructor)))|(apply CA.draw;(focus rfl);(focus kernel_rfl);(focus kernel_rfl);(focus repeat' constructor);(focus rfl))|(apply Ov.n;(focus first|omega|(simp <;> omega)))|(apply Cl.p (hap);(focus ((repeat' (first|exact Lend.nil|apply Lend.keep|fail));done)))|(apply Cl.p (hwi);(focus ((repeat' (first|exact Lend.nil|apply Lend.keep|fail));done))))
    have hz : (⟨y.clock, max y.time e.time, y.state, (applyF m y.merged e).2, y.places⟩ : NowS) = cmp1 m y e := by rw [cmp1, hadd, plE, if_neg hpl];rfl
    all_goals rw [← hso]
    all_goals exact PA.lp (i + 1, vr, ⟨y.clock, max y.time e.time, y.state, (applyF m y.merged e).2, y.places⟩) ⟨by repeat first|trivial|refine ⟨rfl,?_⟩,by repeat first|exact .nil|refine .cons (by repeat constructor) ?_⟩ ⟨⟨hil, hnx, by simp only;rw [hz];exact hst, by simp only;rw [hz];exact hfd⟩, by simp only;omega⟩
  have hact := act_rng heV.1 hk
  have hact2 := heV.2.2 hk
  obtain ⟨a, ha⟩ := get_of (l := m.acts) (i := e.action.toNat) (by omega)
  have hd := dltF_at ha
  have heo := hm.eff a (List.mem_of_getElem? ha)
  have hadd : addE m y.state e = addD y.state a.eff.delta := by rw [addE, if_pos hk, hd]
  repeat' (first|refine Sp.h ?_|refine Lk.r rfl ?_|refine Rf.mk rfl ?_|(apply Bd.t;(focus first|assumption|omega|rfl))|(apply Bd.f;(focus first|assumption|omega|exact Bool.false_ne_true))|refine OpK.r rfl ?_|(refine Im.mk ?_;intro _)|(apply TkA.r;(focus repeat constructor))|(apply TkB.r;(focus repeat constructor))|(apply Ix.r;(focus assumption);(focus omega))|(apply SetAk.r;(focus (repeat first|assumption|constructor)))|(apply CA.draw;(focus rfl);(focus kernel_rfl);(focus kernel_rfl);(focus repeat' constructor);(focus rfl))|fail)
  refine CA.loop (fun k : Nat => ⟨[(0, pm s), (1, ints c), (5, pm b5), (6, .ow vr), (8, pm _), (46, .ow v), (47, it (evl.length : Nat)), (48, it i), (86, terms a.eff.delta), (87, it (a.eff.delta.length : Nat)), (88, it k)], [stoR s m b v w, arrR v 37 13 evl evC, blkR b5 75 (midC { y with time := max y.time e.time } v2), arrR v2 3 1 (addD y.state (a.eff.delta.take k)) intC, arrR vr 37 13 (outL c (evl.take i)) evC, blkR _ 37 (evC e)]⟩) (fun k => k ≤ a.eff.delta.length) (fun k => a.eff.delta.length - k) 0 ⟨by repeat first|trivial|refine ⟨rfl,?_⟩,by repeat first|exact .nil|refine .cons (by repeat constructor) ?_⟩ (Nat.zero_le _) ?_
  intro k hk2
  have hlen := addD_length (a.eff.delta.take k) y.state
  by_cases hkl : k < a.eff.delta.length
  ·obtain ⟨p, hp⟩ := get_of hkl
   obtain ⟨p1, p2⟩ := heo.d p (List.mem_of_getElem? hp)
   obtain ⟨z, hz⟩ := get_of (l := addD y.state (a.eff.delta.take k)) (i := p.1.toNat) (by omega)
   have hsd := addD_succ (s := y.state) hp
   rw [show add1 (addD y.state (a.eff.delta.take k)) p = (addD y.state (a.eff.delta.take k)).set p.1.toNat (IntKind.i64.wrap (z + p.2)) by rw [add1, hz];rfl] at hsd
   repeat' (first|refine Sp.h ?_|refine Lk.r rfl ?_|refine Rf.mk rfl ?_|(apply Bd.t;(focus first|assumption|omega|rfl))|refine OpK.r rfl ?_|(refine All.mk ?_;intro _)|(apply TkA.r;(focus repeat constructor))|(apply TkB.r;(focus repeat constructor))|(apply Ix.q;(focus exact rfl);(focus assumption))|(apply Ix.r;(focus assumption);(focus omega))|(apply At.r;(focus assumption))|refine Ch.l ⟨rfl, rfl⟩ ?_|(apply SetAsk.r;(focus (repeat (first|exact SetAs.z|(apply SetAs.c;(focus (repeat first|assumption|constructor)))))))|(apply Nm.r;focus repeat constructor)|(apply CA.draw;(focus rfl);(focus kernel_rfl);(focus kernel_rfl);(focus repeat' constructor);(focus rfl))|fail)
   refine ⟨?_⟩
   repeat' (first|refine Sp.h ?_|refine Lk.r rfl ?_|refine Rf.mk rfl ?_|refine OpK.r rfl ?_|(apply TkA.r;(focus repeat constructor))|(apply Ix.r;(focus assumption);(focus omega))|(apply At.r;(focus assumption))|(apply SetAk.r;(focus (repeat first|assumption|constructor)))|refine Up.r rfl ?_|(apply Ov.n;(focus first|omega|(simp <;> omega)))|fail)
   rw [← hsd]
   exact PA.lp (k + 1) ⟨by repeat first|trivial|refine ⟨rfl,?_⟩,by repeat first|exact .nil|refine .cons (by repeat constructor) ?_⟩ ⟨hkl, by omega⟩
  ·have hke : k = a.eff.delta.length := by omega
   subst hke
   rw [List.take_length]
   by_cases hpl : 0 < e.place
   ·repeat' (first|refine Sp.h ?_|refine Lk.r rfl ?_|refine Rf.mk rfl ?_|(apply Bd.t;(focus first|assumption|omega|rfl))|(apply Bd.f;(focus first|assumption|omega|exact Bool.false_ne_true))|refine OpK.r rfl ?_|(apply TkB.r;(focus repeat constructor))|refine Ch.l ⟨rfl, rfl⟩ ?_|refine Ch.r ?_|(apply SetAk.r;(focus (repeat first|assumption|constructor)))|(apply CA.draw;(focus rfl);(focus kernel_rfl);(focus kernel_rfl);(focus repeat' constructor);(focus rfl))|(apply Ov.n;(focus first|omega|(simp <;> omega)))|(apply Cl.p (hap);(focus ((repeat' (first|exact Lend.nil|apply Lend.keep|fail));done)))|(apply Cl.p (hwi);(focus ((repeat' (first|exact Lend.nil|apply Lend.keep|fail));done))))
    have hz : (⟨y.clock, max y.time e.time, addD y.state a.eff.delta, (applyF m y.merged e).2, withP y.places e.place⟩ : NowS) = cmp1 m y e := by rw [cmp1, hadd, plE, if_pos hpl];rfl
    all_goals rw [← hso]
    all_goals exact PA.lp (i + 1, vr, ⟨y.clock, max y.time e.time, addD y.state a.eff.delta, (applyF m y.merged e).2, withP y.places e.place⟩) ⟨by repeat first|trivial|refine ⟨rfl,?_⟩,by repeat first|exact .nil|refine .cons (by repeat constructor) ?_⟩ ⟨⟨hil, hnx, by simp only;rw [hz];exact hst, by simp only;rw [hz];exact hfd⟩, by simp only;omega⟩
   ·repeat' (first|refine Sp.h ?_|refine Lk.r rfl ?_|refine Rf.mk rfl ?_|(apply Bd.f;(focus first|assumption|omega|exact Bool.false_ne_true))|refine OpK.r rfl ?_|(apply TkB.r;(focus repeat constructor))|refine Ch.l ⟨rfl, rfl⟩ ?_|refine Ch.r ?_|(apply SetAk.r;(focus (repeat first|assumption|constructor)))|(apply CA.draw;(focus rfl);(focus kernel_rfl);(focus kernel_rfl);(focus repeat' constructor);(focus rfl))|(apply Ov.n;(focus first|omega|(simp <;> omega)))|(apply Cl.p (hap);(focus ((repeat' (first|exact Lend.nil|apply Lend.keep|fail));done)))|(apply Cl.p (hwi);(focus ((repeat' (first|exact Lend.nil|apply Lend.keep|fail));done))))
    have hz : (⟨y.clock, max y.time e.time, addD y.state a.eff.delta, (applyF m y.merged e).2, y.places⟩ : NowS) = cmp1 m y e := by rw [cmp1, hadd, plE, if_neg hpl];rfl
    all_goals rw [← hso]
    all_goals exact PA.lp (i + 1, vr, ⟨y.clock, max y.time e.time, addD y.state a.eff.delta, (applyF m y.merged e).2, y.places⟩) ⟨by repeat first|trivial|refine ⟨rfl,?_⟩,by repeat first|exact .nil|refine .cons (by repeat constructor) ?_⟩ ⟨⟨hil, hnx, by simp only;rw [hz];exact hst, by simp only;rw [hz];exact hfd⟩, by simp only;omega⟩
 ·have hie : i = evl.length := by omega
  subst hie
  rw [List.take_length] at hin0 hy ⊢
  have hcl := h1.1.2.2
  have hout : (outL c evl).length ≤ 1000 := by
   have := List.length_filter_le (fun e : EvS => decide (¬ HasC c e.rep e.num)) evl
   unfold outL;omega
  have hF0 : compactF m ⟨b, evl, w⟩ c = (0, ⟨{ y with clock := c }, outL c evl, { w with merged := (outL c evl).foldl (mrg1 m) y.merged }⟩) := by
   refine (@if_neg _ (Classical.propDecidable _) (fun h9 => h9 h1) _ _ _).trans ((@if_neg _ (Classical.propDecidable _) (fun h9 => h9 ⟨h2, h3, hin0⟩) _ _ _).trans ?_)
   rw [cmpB, ← hy]
  rw [hF0]
  repeat' (first|refine Sp.h ?_|refine Lk.r rfl ?_|refine Rf.mk rfl ?_|(apply Bd.f;(focus first|assumption|omega|exact Bool.false_ne_true))|fail)
  (refine Cl.use (hcc) (by repeat' (first|exact Lend.nil|apply Lend.keep|fail)) .nil rfl ?_;rintro _ _ ⟨_, rfl, rfl⟩)
  (repeat' (first|(show CA _ _ (Code.region 26 _ _) _ _;apply Stopped.out)|refine Sp.h ?_|refine Lk.r rfl ?_|refine Rf.mk rfl ?_|(apply TkB.r;(focus repeat constructor))|(apply SetAk.r;(focus (repeat first|assumption|constructor)))|fail));any_goals apply Stopped.mk
  (apply CA.own;(focus (apply OX.blk (b := b5);(focus repeat constructor);(focus (repeat' (first|exact FX.nil|(apply FX.s1;(focus repeat constructor);(focus first|omega|(simp;done)|(simp;omega)))|apply FX.k)));(focus repeat constructor))))
  repeat' (first|refine Sp.h ?_|refine Lk.r rfl ?_|refine Rf.mk rfl ?_|(apply TkA.r;(focus repeat constructor))|(apply TkB.r;(focus repeat constructor))|fail)
  refine CA.loop (fun x : Nat × List MgS => ⟨[(0, pm s), (5, pm b5), (6, .ow vr), (11, mgs x.2), (130, .ow vr), (131, it ((outL c evl).length : Nat)), (132, it x.1)], [stoR s m b v w, arrR v 37 13 evl evC, blkR b5 75 (basC { y with clock := c }), arrR vr 37 13 (outL c evl) evC]⟩)
   (fun x => x.1 ≤ (outL c evl).length ∧ SzM x.2 ∧ x.2 = ((outL c evl).take x.1).foldl (mrg1 m) y.merged) (fun x => (outL c evl).length - x.1) (0, y.merged) ⟨by repeat first|trivial|refine ⟨rfl,?_⟩,by repeat first|exact .nil|refine .cons (by repeat constructor) ?_⟩ ⟨Nat.zero_le _, hmid.mg, rfl⟩ ?_
  rintro ⟨j, k⟩ ⟨hj, hkz, hk⟩
  simp only at hj hkz hk
  simp only
  by_cases hjl : j < (outL c evl).length
  ·obtain ⟨e, he⟩ := get_of hjl
   have hap := applyT_p m k e hm
   repeat' (first|refine Sp.h ?_|refine Lk.r rfl ?_|refine Rf.mk rfl ?_|(apply Bd.t;(focus first|assumption|omega|rfl))|refine OpK.r rfl ?_|(refine All.mk ?_;intro _)|(apply TkA.r;(focus repeat constructor))|(apply TkB.r;(focus repeat constructor))|(apply Ix.q;(focus exact rfl);(focus assumption))|(apply At.r;(focus assumption))|refine Ch.l ⟨rfl, rfl⟩ ?_|refine Ch.r ?_|(apply SetAsk.r;(focus (repeat (first|exact SetAs.z|(apply SetAs.c;(focus (repeat first|assumption|constructor)))))))|(apply Nm.r;focus repeat constructor)|(apply CA.draw;(focus rfl);(focus kernel_rfl);(focus kernel_rfl);(focus repeat' constructor);(focus rfl))|(apply Ov.n;(focus first|omega|(simp <;> omega)))|(apply Cl.p (hap);(focus repeat' (first|exact Lend.nil|apply Lend.keep|fail))))
   all_goals exact PA.lp (j + 1, mrg1 m k e) ⟨by repeat first|trivial|refine ⟨rfl,?_⟩,by repeat first|exact .nil|refine .cons (by repeat constructor) ?_⟩ ⟨⟨hjl, mrg1_sz hkz, by simp only;rw [List.take_add_one, he, Option.toList_some, List.foldl_append, ← hk];rfl⟩, by simp only;omega⟩
  ·have hje : j = (outL c evl).length := by omega
   subst hje
   rw [List.take_length] at hk
   have hcm := cloneM_p k (by have := hkz.1;omega) hkz.2
   rw [← hk]
   repeat' (first|refine Sp.h ?_|refine Lk.r rfl ?_|refine Rf.mk rfl ?_|(apply Bd.f;(focus first|assumption|omega|exact Bool.false_ne_true))|refine OpK.r rfl ?_|(apply TkB.r;(focus repeat constructor))|refine Ch.l ⟨rfl, rfl⟩ ?_|(apply SetAk.r;(focus (repeat first|assumption|constructor)))|(apply SetAsk.r;(focus (repeat (first|exact SetAs.z|(apply SetAs.c;(focus (repeat first|assumption|constructor)))))))|(apply Nm.r;focus repeat constructor)|(apply CA.draw;(focus rfl);(focus kernel_rfl);(focus kernel_rfl);(focus repeat' constructor);(focus rfl))|(apply Cl.p (hcm);(focus repeat' (first|exact Lend.nil|apply Lend.keep|fail))))
   all_goals exact ⟨_, _, .one (.same (.nil (by (repeat first|exact .nil|refine .cons (by repeat constructor) ?_)))), rfl, vr, rfl⟩
end Go.Proofs.YtmllihbhphnolaaGreat
namespace Go.CF
open Go
def fldE (tt : Nat → Option TI) (t i : Nat) : Option (Nat × Nat × TI) := match tt t with
 | some ti => match ti.kind with
  | .struct fs => match fs[i]? with
   | some (off, ft, _) => match tt ft with
    | some te => if te.kind.agg = false then some (off, ft, te) else none
    | none => none
   | none => none
  | _ => none
 | none => none
theorem fldE_spec {tt : Nat → Option TI} {t i : Nat} {p : Nat × Nat × TI} (h : fldE tt t i = some p) : ∃ ti fs sz, tt t = some ti ∧ ti.kind = .struct fs ∧ fs[i]? = some (p.1, p.2.1, sz) ∧ tt p.2.1 = some p.2.2 ∧ p.2.2.kind.agg = false := by
 unfold fldE at h
 split at h
 ·rename_i ti h1
  split at h
  ·rename_i fs h2
   split at h
   ·rename_i off ft sz h3
    split at h
    ·rename_i te h4
     split at h
     ·rename_i h5
      cases h
      exact ⟨ti, fs, sz, h1, h2, h3, h4, h5⟩
     ·cases h
    ·cases h
   ·cases h
  ·cases h
 ·cases h
section
variable {Γ : Cx} {k : List KI} {e : EA} {o : List Res} {N : NA} {c : Cls} {d : Tmp} {ty : TypeId} {x : Operand} {t : TypeId}
theorem St.field {P : Program} {tt : Nat → Option TI} {en : Nat → Bool} (G : PgOK P tt en) {γ : Type} [Membership Nat γ] {fp : γ} {n : Nat} {env : Env} {h : Heap} {N : Env → Heap → Prop} {i : Nat} {p : Nat × Nat × TI} {vs : List Value} {v : Value} (hp : fldE tt t i = some p)
  (hx : ev env x = some (.agg vs.toArray)) (hv : vs[p.1]? = some v) (k : N ((d, v) :: env) h) : St P n fp c (some d) (.field t x i) ty env h N :=
 .ofPu (v := v) (fun a w ha => by
  obtain ⟨ti, fs, sz, h1, h2, h3, h4, h5⟩ := fldE_spec hp
  obtain ⟨ff, hu, rfl⟩ := (G.ok _ _ h1).struct h2
  rw [List.getElem?_map] at h3
  obtain ⟨f, hf1, hf2⟩ := Option.map_eq_some_iff.1 h3
  simp only [Prod.mk.injEq] at hf2
  have hf3 : ff[i]? = some f := by simpa using hf1
  have hag := (G.ok _ _ h4).run_agg w h5
  rw [← hf2.2.1] at hag
  have hv2 : vs[f.offset]? = some v := by rw [hf2.1];exact hv
  simp [mkOp, execOp, ha.ev hx, Instr.field, run_underlying hu, hf3, part, hag, asAgg, hv2]) k
instance {i : Nat} : Sp (SA Γ c (some d) (.field t x i) ty e o N) (Lk (evA e x) fun a => Ap1 Γ c d (.field t x i) ty e o N x a) := ⟨fun ⟨_, ha, h⟩ => h.h ha⟩
instance {i : Nat} {cs : List AV} : Sp (Ap1 Γ c d (.field t x i) ty e o N x (.agg cs)) (Lk (fldE Γ.tt t i) fun p => Lk cs[p.1]? fun a => N ((d, a) :: e) o) := ⟨fun ⟨p, hp, a, ha, hn⟩ => pu1 fun env h G v h1 h2 => by
 obtain ⟨vs, rfl, hr⟩ := h2
 obtain ⟨w, h3, h4⟩ := hr.t.get ha
 exact ⟨a, w, h4, hn, fun _ k => St.field Γ.ok hp h1 h3 k⟩⟩
end
end Go.CF
