/- Part 14 of the ground of this proof: what its texts say of the model, the program and the plain data; conditions: those that are named. -/
import Derived.Test.YtajenkpjcbaadaaGreatC13
namespace Go.Proofs.YtajenkpjcbaadaaGreat
open Go Go.CF
set_option maxRecDepth 20000
set_option maxHeartbeats 8000000 in
theorem suits38_c (m : ModS) (ld : List Int) (l : List EvS) : CallF Tryz.prog 6 [mdl m, ints ld, evs l] (SuitS m ld l ∧ l.length ≤ 40) := by
 have hfe := few32_c m l
 refine CallA.of pg ord6 Tryz.func6 rfl Tryz.ntmps6 Tryz.results6 rfl fun h0 G0 O0 => ?_
 repeat' (first|refine Sp.h ?_|refine Lk.r rfl ?_|refine Rf.mk rfl ?_|refine All.mk fun _=>?_|refine xT ?_|refine Ch.l ⟨rfl, rfl⟩ ?_|fail)
 rename_i b3
 refine xW (hfe) ?_
 rintro _ _ ⟨b, rfl, rfl, h1⟩
 cases b
 ·repeat' (first|refine Sp.h ?_|refine Lk.r rfl ?_|refine Rf.mk rfl ?_|refine xB ?_|refine xN ?_|fail)
  exact ⟨_, _, .one (.same (.z)), _, rfl, rfl, fun h => by cases h⟩
 obtain ⟨hm, hf⟩ := h1 rfl
 have hcl := closed_p l
 have hst := strict32_p m hm.lay
 have hmg := merged32_p m hm.lay
 by_cases hl0 : l.length = 0
 ·repeat' (first|refine Sp.h ?_|refine Lk.r rfl ?_|refine Rf.mk rfl ?_|refine xA ?_|refine Im.mk fun _=>?_|refine xN ?_|fail)
  exact ⟨_, _, .one (.same (.z)), _, rfl, rfl, fun h => by cases h⟩
 by_cases hl40 : 40 < l.length
 ·repeat' (first|refine Sp.h ?_|refine Lk.r rfl ?_|refine Rf.mk rfl ?_|refine xA ?_|refine xB ?_|refine Im.mk fun _=>?_|refine xN ?_|fail)
  exact ⟨_, _, .one (.same (.z)), _, rfl, rfl, fun h => by cases h⟩
 by_cases hc : ClosedE l
 rotate_left
 ·rw [decide_eq_false hc] at hcl
  repeat' (first|refine Sp.h ?_|refine Lk.r rfl ?_|refine Rf.mk rfl ?_|refine xA ?_|refine xB ?_|refine Im.mk fun _=>?_|refine xN ?_|(apply Cl.p (hcl);focus (repeat' constructor);done)|(apply Cl.p (hst);focus (repeat' constructor);done))
  exact ⟨_, _, .one (.same (.z)), _, rfl, rfl, fun h => by cases h⟩
 rw [decide_eq_true hc] at hcl
 by_cases hln : ld.length = strF m
 rotate_left
 ·repeat' (first|refine Sp.h ?_|refine Lk.r rfl ?_|refine Rf.mk rfl ?_|refine xA ?_|refine xB ?_|refine Im.mk fun _=>?_|refine xT ?_|refine Ch.l ⟨rfl, rfl⟩ ?_|refine xN ?_|(apply Cl.p (hcl);focus (repeat' constructor);done)|(apply Cl.p (hst);focus (repeat' constructor);done))
  exact ⟨_, _, .one (.same (.z)), _, rfl, rfl, fun h => by cases h⟩
 repeat' (first|refine Sp.h ?_|refine Lk.r rfl ?_|refine Rf.mk rfl ?_|refine xA ?_|refine xB ?_|refine Im.mk fun _=>?_|refine xT ?_|refine Ch.l ⟨rfl, rfl⟩ ?_|(apply Cl.p (hcl);focus (repeat' constructor);done)|(apply Cl.p (hst);focus (repeat' constructor);done))
 refine CA.loop (fun i : Nat => ⟨[(1, ints ld), (2, evs l), (3, pm b3), (46, evs l), (47, it (l.length : Nat)), (48, it i)], [mR b3 m]⟩) (fun i => i ≤ l.length ∧ ∀ e ∈ l.take i, EvV m (n0 l : Nat) e) (fun i => l.length - i) 0 xE ⟨Nat.zero_le _, by simp⟩ ?_
 rintro i ⟨hi, hev⟩
 by_cases hin : i < l.length
 ·obtain ⟨e, he⟩ := get_of hin
  obtain ⟨d, hd⟩ := get_of (l := l) (i := 0) (by omega)
  have hn : n0 l = d.past.length := by rw [n0, hd];rfl
  have hvv := evalid_p m (d.past.length : Nat) e
  by_cases hv : EvV m (d.past.length : Nat) e
  ·repeat' (first|refine Sp.h ?_|refine Lk.r rfl ?_|refine Rf.mk rfl ?_|refine xA ?_|refine OpK.r rfl ?_|refine Im.mk fun _=>?_|refine All.mk fun _=>?_|refine xT ?_|refine xI ?_|refine Ch.l ⟨rfl, rfl⟩ ?_|(apply SetAsk.r;focus repeat' constructor)|refine xN ?_|refine xD ?_|refine xO ?_|(apply Cl.p (hvv);focus repeat' constructor))
   all_goals exact PA.lp (i + 1) xE ⟨⟨hin, all_succ he hev (by rw [hn];exact hv)⟩, by omega⟩
  ·repeat' (first|refine Sp.h ?_|refine Lk.r rfl ?_|refine Rf.mk rfl ?_|refine xA ?_|refine xB ?_|refine OpK.r rfl ?_|refine Im.mk fun _=>?_|refine All.mk fun _=>?_|refine xT ?_|refine xI ?_|refine Ch.l ⟨rfl, rfl⟩ ?_|(apply SetAsk.r;focus repeat' constructor)|refine xN ?_|refine xD ?_|(apply Cl.p (hvv);focus repeat' constructor))
   all_goals exact ⟨_, _, .one (.same (.z)), _, rfl, rfl, fun h => by cases h⟩
 have hie : i = l.length := by omega
 subst hie
 rw [List.take_length] at hev
 repeat' (first|refine Sp.h ?_|refine Lk.r rfl ?_|refine Rf.mk rfl ?_|refine xB ?_|refine Im.mk fun _=>?_|refine xT ?_|refine Ch.l ⟨rfl, rfl⟩ ?_|(apply Cl.p (hmg);focus repeat' constructor))
 refine CA.loop (fun i : Nat => ⟨[(3, pm b3), (9, tbls (mrgF m)), (64, ints ld), (65, it (ld.length : Nat)), (66, it i)], [mR b3 m]⟩) (fun i => i ≤ ld.length ∧ ∀ x ∈ ld.take i, -1000 ≤ x ∧ x ≤ 1000) (fun i => ld.length - i) 0 xE ⟨Nat.zero_le _, by simp⟩ ?_
 rintro i ⟨hi, ha⟩
 by_cases hin : i < ld.length
 ·obtain ⟨x, hx⟩ := get_of hin
  repeat' (first|refine Sp.h ?_|refine Lk.r rfl ?_|refine Rf.mk rfl ?_|refine xA ?_|refine xB ?_|(refine Bd.mk ?_ ?_ <;> intro _)|refine xI ?_|refine xN ?_|refine xO ?_|fail)
  all_goals first
   | exact ⟨_, _, .one (.same (.z)), _, rfl, rfl, fun h => by cases h⟩
   | exact PA.lp (i + 1) xE ⟨⟨hin, all_succ hx ha ⟨by omega, by omega⟩⟩, by omega⟩
 have hie : i = ld.length := by omega
 subst hie
 rw [List.take_length] at ha
 repeat' (first|refine Sp.h ?_|refine Lk.r rfl ?_|refine Rf.mk rfl ?_|refine xB ?_|refine Im.mk fun _=>?_|refine xT ?_|fail)
 refine CA.loop (fun i : Nat => ⟨[(9, tbls (mrgF m)), (78, .sl 5 m.acts actC), (79, it (m.acts.length : Nat)), (80, it i)], []⟩) (fun i => i ≤ m.acts.length ∧ ∀ a ∈ m.acts.take i, (∀ u ∈ a.eff.updates, ∀ (i : Nat) t, u.2.1 = i → (mrgF m)[i]? = some t → FitO t u) ∧ ∀ p ∈ a.eff.delta, -1000 ≤ p.2 ∧ p.2 ≤ 1000) (fun i => m.acts.length - i) 0 xE ⟨Nat.zero_le _, by simp⟩ ?_
 rintro i ⟨hi, hac⟩
 by_cases hin : i < m.acts.length
 ·obtain ⟨a, hx⟩ := get_of hin
  have heo := hm.eff a (List.mem_of_getElem? hx)
  repeat' (first|refine Sp.h ?_|refine Lk.r rfl ?_|refine Rf.mk rfl ?_|refine xA ?_|refine Im.mk fun _=>?_|refine All.mk fun _=>?_|refine xT ?_|refine xI ?_|refine Ch.l ⟨rfl, rfl⟩ ?_|(apply SetAsk.r;focus repeat' constructor)|refine xN ?_|fail)
  rename_i b13 _
  refine CA.loop (fun k : Nat => ⟨[(9, tbls (mrgF m)), (13, pm b13), (78, .sl 5 m.acts actC), (79, it (m.acts.length : Nat)), (80, it i), (86, terms a.eff.delta), (87, it (a.eff.delta.length : Nat)), (88, it k)], [blkR b13 86 (actC a)]⟩) (fun k => k ≤ a.eff.delta.length ∧ ∀ p ∈ a.eff.delta.take k, -1000 ≤ p.2 ∧ p.2 ≤ 1000) (fun k => a.eff.delta.length - k) 0 xE ⟨Nat.zero_le _, by simp⟩ ?_
  rintro k ⟨hk2, hd⟩
  by_cases hkn : k < a.eff.delta.length
  ·obtain ⟨p, hp⟩ := get_of hkn
   repeat' (first|refine Sp.h ?_|refine Lk.r rfl ?_|refine Rf.mk rfl ?_|refine xA ?_|refine xB ?_|(refine Bd.mk ?_ ?_ <;> intro _)|refine All.mk fun _=>?_|refine xT ?_|refine xI ?_|refine Ch.l ⟨rfl, rfl⟩ ?_|(apply SetAsk.r;focus repeat' constructor)|refine xN ?_|refine xO ?_|fail)
   all_goals first
    | exact ⟨_, _, .one (.same (.z)), _, rfl, rfl, fun h => by cases h⟩
    | exact PA.lp (k + 1) xE ⟨⟨hkn, all_succ hp hd ⟨by omega, by omega⟩⟩, by omega⟩
  have hke : k = a.eff.delta.length := by omega
  subst hke
  rw [List.take_length] at hd
  repeat' (first|refine Sp.h ?_|refine Lk.r rfl ?_|refine Rf.mk rfl ?_|refine xB ?_|refine Im.mk fun _=>?_|refine xT ?_|fail)
  refine CA.loop (fun k : Nat => ⟨[(9, tbls (mrgF m)), (78, .sl 5 m.acts actC), (79, it (m.acts.length : Nat)), (80, it i), (103, .sl 3 a.eff.updates updC), (104, it (a.eff.updates.length : Nat)), (105, it k)], []⟩) (fun k => k ≤ a.eff.updates.length ∧ ∀ u ∈ a.eff.updates.take k, ∀ (i : Nat) t, u.2.1 = i → (mrgF m)[i]? = some t → FitO t u) (fun k => a.eff.updates.length - k) 0 xE ⟨Nat.zero_le _, by simp⟩ ?_
  rintro k ⟨hk, hb⟩
  by_cases hkn : k < a.eff.updates.length
  ·obtain ⟨u, hu⟩ := get_of hkn
   obtain ⟨u1, u2⟩ := heo.u u (List.mem_of_getElem? hu)
   obtain ⟨t, ht⟩ := get_of (l := mrgF m) (i := u.2.1.toNat) (by omega)
   obtain ⟨uk, uc, uv⟩ := u
   simp only at u1 u2 ht
   (repeat' (first|(show CA _ _ (Code.region 29 _ _) _ _;apply Stopped.out)|refine Sp.h ?_|refine Lk.r rfl ?_|refine Rf.mk rfl ?_|refine xA ?_|refine All.mk fun _=>?_|refine xT ?_|refine xI ?_|(apply Ix.r;(focus assumption);(focus omega))|refine Ch.l ⟨rfl, rfl⟩ ?_|(apply SetAsk.r;focus repeat' constructor)|refine xN ?_|fail));any_goals apply Stopped.mk
   rename_i b17 b18
   refine CA.cut (fun b : Bool => ⟨[(9, tbls (mrgF m)), (17, pm b17), (18, pm b18), (19, bl b), (78, .sl 5 m.acts actC), (79, it (m.acts.length : Nat)), (80, it i), (103, .sl 3 a.eff.updates updC), (104, it (a.eff.updates.length : Nat)), (105, it k)], [blkR b17 90 (updC (uk, uc, uv)), blkR b18 94 (tblC t)]⟩) (fun b => b = true ↔ isSt t.kind) ?_ ?_
   ·repeat' (first|refine Sp.h ?_|refine Lk.r rfl ?_|refine Rf.mk rfl ?_|refine xA ?_|refine xB ?_|(refine Bd.mk ?_ ?_ <;> intro _)|refine xT ?_|fail)
    all_goals exact PA.lp _ xE (by unfold isSt;simp;omega)
   rintro b hb1
   simp only
   (repeat' (first|(show CA _ _ (Code.region 30 _ _) _ _;apply Stopped.out)|refine Sp.h ?_|fail));any_goals apply Stopped.mk
   refine CA.cut (fun c : Bool => ⟨[(9, tbls (mrgF m)), (78, .sl 5 m.acts actC), (79, it (m.acts.length : Nat)), (80, it i), (103, .sl 3 a.eff.updates updC), (104, it (a.eff.updates.length : Nat)), (105, it k), (151, bl c)], []⟩) (fun c => c = false → FitO t (uk, uc, uv)) ?_ ?_
   ·have hf : FitO t (uk, uc, uv) ↔ (b = true ↔ uk = 0 ∨ uk = 1) ∧ (b ≠ true → t.lo ≤ uv ∧ uv ≤ t.hi) := by unfold FitO;simp only;rw [← hb1]
    cases b
    all_goals repeat' (first|refine Sp.h ?_|refine Lk.r rfl ?_|refine Rf.mk rfl ?_|refine xA ?_|refine xB ?_|(refine Bd.mk ?_ ?_ <;> intro _)|refine xT ?_|fail)
    all_goals exact PA.lp _ xE (by rw [hf];first|(simp;done)|(simp;omega)|(simp at *;omega))
   rintro c hc
   simp only
   cases c
   ·repeat' (first|refine Sp.h ?_|refine Lk.r rfl ?_|refine Rf.mk rfl ?_|refine xO ?_|fail)
    refine PA.lp (k + 1) xE ⟨⟨hkn, all_succ hu hb fun j t' hj ht' => ?_⟩, by omega⟩
    have : uc.toNat = j := by simp only at hj;omega
    rw [this] at ht
    rw [ht] at ht';cases ht'
    exact hc rfl
   ·repeat' (first|refine Sp.h ?_|refine Lk.r rfl ?_|refine Rf.mk rfl ?_|refine xN ?_|fail)
    exact ⟨_, _, .one (.same (.z)), _, rfl, rfl, fun h => by cases h⟩
  have hke : k = a.eff.updates.length := by omega
  subst hke
  rw [List.take_length] at hb
  repeat' (first|refine Sp.h ?_|refine Lk.r rfl ?_|refine Rf.mk rfl ?_|refine xB ?_|refine xO ?_|fail)
  exact PA.lp (i + 1) xE ⟨⟨hin, all_succ hx hac ⟨hb, hd⟩⟩, by omega⟩
 have hie : i = m.acts.length := by omega
 subst hie
 rw [List.take_length] at hac
 repeat' (first|refine Sp.h ?_|refine Lk.r rfl ?_|refine Rf.mk rfl ?_|refine xB ?_|refine xN ?_|fail)
 exact ⟨_, _, .one (.same (.z)), _, rfl, rfl, fun _ => ⟨⟨⟨hm, hf, hc, fun a h => (hac a h).1, hev⟩, by omega, hln, ha, fun a h => (hac a h).2⟩, by omega⟩⟩
end Go.Proofs.YtajenkpjcbaadaaGreat
namespace Go.Proofs.YtajenkpjcbaadaaGreat
open Go Go.CF
set_option maxRecDepth 20000
set_option maxHeartbeats 4000000 in
theorem within_p {l : List EvS} {c : List Int} (hc : ClosedE l) (hl : l.length ≤ 1000) (hv : ValC c) (hcl : c.length = n0 l) : CallP Tryz.prog 8 [evs l, ints c] (.tup [evs (cutL l (partC l c)), ints (partC l c)]) := by
 have hk := clock_z (n := c.length) (l := l) hv.2 hc fun e he => by rw [(hc.2.2.1 e he).2, hcl]
 have hkv : ValC (clkE c.length l) := clkE_val hv.2 fun e he => formed_num (hc.2.2.1 e he).1
 have hm := meet_z2 hv hkv (by rw [clkE_len])
 obtain ⟨p1, p2⟩ := part1_ok hc hv hcl
 have hcu := cut_z l (part1 l c) hl
 have hcu2 := cut_z l (partC l c) hl
 have hxs : ∀ x ∈ cutL l (part1 l c), ValC x.past ∧ x.past.length = n0 l := fun x hx => by
  have := hc.2.2.1 x (mem_cut.1 hx).1
  exact ⟨this.1.1, this.2⟩
 obtain ⟨xs, hxse⟩ : ∃ xs, xs = cutL l (part1 l c) := ⟨_, rfl⟩
 have hpc : partC l c = xs.foldl (fun k x => joinC k x.past) (part1 l c) := by rw [hxse];rfl
 rw [← hxse] at hxs hcu
 refine CallA.of pg ord8 Tryz.func8 rfl Tryz.ntmps8 Tryz.results8 rfl fun h0 G0 O0 => ?_
 repeat' (first|refine Sp.h ?_|refine Lk.r rfl ?_|refine Rf.mk rfl ?_|refine xA ?_|refine Im.mk fun _=>?_|refine All.mk fun _=>?_|(apply Fk.r;focus repeat' first|infer_instance|constructor)|refine Rf.mk ⟨rfl, rfl, rfl⟩ ?_|(apply Cl.p (hk);focus repeat' constructor))
 (apply Cl.fz;(focus repeat' (first|exact FZ.nil|(apply FZ.fz;(focus repeat constructor);(focus first|omega|decide|exact Nat.le_of_ble_eq_true rfl|(simp <;> omega)))|apply FZ.agg|apply FZ.same)))
 (apply Cl.p (hm);(focus repeat' (first|exact Lend.nil|(apply Lend.mp;(focus rfl))|fail)))
 rw [show zipC min c (clkE c.length l) = part1 l c from rfl]
 repeat' (first|refine Sp.h ?_|refine Lk.r rfl ?_|refine Rf.mk rfl ?_|refine Im.mk fun _=>?_|(apply Cl.p (hcu);focus repeat' constructor))
 refine CA.loop (fun x : Nat × List Int => ⟨[(0, evs l), (1, ints x.2), (28, evs xs), (29, it (xs.length : Nat)), (30, it x.1)], []⟩) (fun x => x.1 ≤ xs.length ∧ x.2 = (xs.take x.1).foldl (fun k x => joinC k x.past) (part1 l c)) (fun x => xs.length - x.1) (0, part1 l c) xE ⟨Nat.zero_le _, rfl⟩ ?_
 rintro ⟨i, k⟩ ⟨hi, hk⟩
 simp only at hi hk
 simp only
 obtain ⟨f1, f2, -⟩ := fold_has (xs.take i) (part1 l c) (fun x hx => hxs x (List.mem_of_mem_take hx)) p1 p2
 rw [← hk] at f1 f2
 by_cases hin : i < xs.length
 ·obtain ⟨e, he⟩ := get_of hin
  obtain ⟨g1, g2⟩ := hxs e (List.mem_of_getElem? he)
  have hj := join_z2 f1 g1 (by omega)
  repeat' (first|refine Sp.h ?_|refine Lk.r rfl ?_|refine Rf.mk rfl ?_|refine xA ?_|refine All.mk fun _=>?_|refine xT ?_|refine xI ?_|refine Ch.l ⟨rfl, rfl⟩ ?_|(apply SetAsk.r;focus repeat' constructor)|(apply Fk.r;focus repeat' first|infer_instance|constructor)|refine xN ?_|refine Rf.mk ⟨rfl, rfl, rfl⟩ ?_|fail)
  (apply Cl.fz;(focus repeat' (first|exact FZ.nil|(apply FZ.fz;(focus repeat constructor);(focus first|omega|decide|exact Nat.le_of_ble_eq_true rfl|(simp <;> omega)))|apply FZ.agg|apply FZ.same)))
  (apply Cl.p (hj);(focus repeat' (first|exact Lend.nil|(apply Lend.mp;(focus rfl))|fail)))
  repeat' (first|refine Sp.h ?_|refine Lk.r rfl ?_|refine Rf.mk rfl ?_|refine xO ?_|fail)
  exact PA.lp (i + 1, joinC k e.past) xE ⟨⟨hin, by simp only;rw [List.take_add_one, he, List.foldl_append, ← hk];rfl⟩, by simp only;omega⟩
 ·have hie : i = xs.length := by omega
  subst hie
  rw [List.take_length, ← hpc] at hk
  subst hk
  repeat' (first|refine Sp.h ?_|refine Lk.r rfl ?_|refine Rf.mk rfl ?_|refine xB ?_|refine xN ?_|(apply Cl.p (hcu2);focus repeat' constructor))
  exact Fin.p rfl rfl
theorem sumC_val {c : List Int} (h : ValC c) : 0 ≤ sumC c ∧ sumC c ≤ 5120 := by
 have := sumC_bnd h c.length (Nat.le_refl _)
 rw [List.take_length] at this
 have := h.2.2
 omega
end Go.Proofs.YtajenkpjcbaadaaGreat
namespace Go.Proofs.YtajenkpjcbaadaaGreat
open Go Go.CF
set_option maxRecDepth 20000
/-! ### The model -/
def cn8 : ModS := ⟨[], [tC], [⟨#[99]⟩], [⟨0, 0, ⟨[(0, -1)], 0⟩, 0, 0⟩, ⟨0, 0, ⟨[(0, 1)], 9⟩, 0, 0⟩], [⟨⟨#[111]⟩, false, []⟩], [⟨0, [], ⟨[(0, 1)], [], []⟩⟩], []⟩
theorem cn8_a : CallA Tryz.prog 31 [] [] fun r own => ∃ vt vf t1 t2 vc vo d1 va, r = .agg [nl0, .ow vt, .ow vf, .ow vc, .ow vo, .ow va, nl0] ∧ own = [
  arrR va 86 5 [[it 0, nl0, .ow d1, nl0, nl0]] id,
  arrR d1 88 2 [[it 0, it 1]] id,
  arrR vo 150 3 [[sv ⟨#[111]⟩, bl false, nl0]] id,
  arrR vc 148 6 [[it 0, it 0, .ow t1, it 0, it 0, it 0], [it 0, it 0, .ow t2, it 9, it 0, it 0]] id,
  arrR t2 143 2 [[it 0, it 1]] id,
  arrR t1 143 2 [[it 0, it (-1)]] id,
  arrR vf 9 1 [[sv ⟨#[99]⟩]] id,
  arrR vt 94 6 [[sv ⟨#[99]⟩, it 1, nl0, it 0, it 9, it 0]] id] := by
 refine CallA.of pg ord31 Tryz.func31 rfl Tryz.ntmps31 Tryz.results31 rfl fun h0 G0 O0 => ?_
 repeat' (first|refine Sp.h ?_|refine Lk.r rfl ?_|refine Rf.mk rfl ?_|refine All.mk fun _=>?_|refine xT ?_|(apply SetAsk.r;focus repeat' constructor)|(apply Fk.r;focus repeat' first|infer_instance|constructor)|refine xN ?_|refine Rf.mk ⟨rfl, rfl, rfl⟩ ?_|fail)
 exact ⟨_, _, .one (.same (.z)), _, _, _, _, _, _, _, _, rfl, rfl⟩
theorem cn8_p : CallP Tryz.prog 31 [] (mdl cn8) := by
 refine CallA.fx cn8_a ?_
 rintro _ _ ⟨vt, vf, t1, t2, vc, vo, d1, va, rfl, rfl⟩
 repeat' (first
  | exact FX.nil
  | (apply FX.sl;(focus repeat constructor);(focus exact Nat.le_of_ble_eq_true rfl))
  | apply FX.agg
  | (apply FX.le;(focus first|exact ALe.nil|exact ALe.refl _)))
theorem cn8_mrg : mrgF cn8 = [] := by simp [mrgF, mrgL, cn8, isStrict, tC]
theorem cn8_str : strF cn8 = 1 := by simp [strF, strN, cn8, isStrict, szF, prodF, tC]
theorem cn8_lay : LayOK cn8.sorts cn8.tables := by
 refine ⟨by simp [cn8], fun x hx => by simp [cn8] at hx, by simp [cn8], fun t ht => ?_⟩
 simp only [cn8, List.mem_cons, List.not_mem_nil, or_false] at ht
 subst ht
 simp [TabOK, ColOK, Sound, cn8, tC]
theorem cn8_ok : MOK cn8 := by
 refine ⟨cn8_lay, by simp [cn8], by simp [cn8], fun a ha => ?_, by rw [cn8_str];decide, by rw [cn8_mrg];decide⟩
 simp only [cn8, List.mem_cons, List.not_mem_nil, or_false] at ha
 subst ha
 refine ⟨by simp, by simp, by simp, fun p hp => ?_, fun p hp => by simp at hp⟩
 simp only [List.mem_cons, List.not_mem_nil, or_false] at hp
 subst hp
 rw [cn8_str];decide
/-! ### Three events -/
def xa : EvS := ⟨0, 1, 1, [0, 0], 0, 0, 0, 0, 0, 0, 0, 0, 1⟩
def xc : EvS := ⟨0, 2, 2, [1, 0], 0, 0, 0, 0, 0, 0, 0, 0, 2⟩
def xb : EvS := ⟨1, 1, 1, [0, 0], 0, 0, 0, 0, 0, 0, 0, 0, 1⟩
abbrev x3 : List EvS := [xa, xc, xb]
theorem xa_f : FormedE xa := ⟨val2 0 0 (by decide) (by decide), by decide, ⟨0, rfl, rfl⟩, by decide, by unfold Btw xa;decide, .inl ⟨rfl, by unfold Sub0 Btw xa;decide, by unfold GiveZ xa;decide⟩⟩
theorem xc_f : FormedE xc := ⟨val2 1 0 (by decide) (by decide), by decide, ⟨1, rfl, rfl⟩, by decide, by unfold Btw xc;decide, .inl ⟨rfl, by unfold Sub0 Btw xc;decide, by unfold GiveZ xc;decide⟩⟩
theorem xb_f : FormedE xb := ⟨val2 0 0 (by decide) (by decide), by decide, ⟨0, rfl, rfl⟩, by decide, by unfold Btw xb;decide, .inl ⟨rfl, by unfold Sub0 Btw xb;decide, by unfold GiveZ xb;decide⟩⟩
theorem x3_mem {e : EvS} (h : e ∈ x3) : e = xa ∨ e = xc ∨ e = xb := by simpa using h
theorem x3_f {e : EvS} (h : e ∈ x3) : FormedE e := by
 rcases x3_mem h with rfl|rfl|rfl
 ·exact xa_f
 ·exact xc_f
 ·exact xb_f
theorem x3_uniq : Uniq x3 := uniq_pair.2 (by simp [nm, xa, xc, xb])
theorem x3_closed : ClosedE x3 := by
 refine ⟨by simp, x3_uniq, fun e he => ⟨x3_f he, by rcases x3_mem he with rfl|rfl|rfl <;> rfl⟩, fun e he r n hr i h1 h2 => ?_⟩
 rcases x3_mem he with rfl|rfl|rfl
 ·have := List.mem_of_getElem? hr;simp [xa] at this;omega
 ·match r with
  | 0 =>
   simp [xc] at hr
   refine ⟨xa, by simp, rfl, by show (1 : Int) = i;omega, ⟨(alike2 _ _).2 ⟨xa_f.1, xc_f.1, rfl⟩, ins_2 (by decide) (by decide)⟩, by decide⟩
  | 1 => simp [xc] at hr;omega
  | r + 2 => simp [xc] at hr
 ·have := List.mem_of_getElem? hr;simp [xb] at this;omega
theorem x3_suit : SuitS cn8 [0] x3 := by
 refine ⟨⟨cn8_ok, ⟨by simp, fun e he => by rcases x3_mem he with rfl|rfl|rfl <;> simp [xa, xb, xc]⟩, x3_closed, fun a ha u hu i t _ ht => ?_, fun e he => ?_⟩, by simp, by rw [cn8_str];rfl, by simp, fun a ha p hp => ?_⟩
 ·rw [cn8_mrg] at ht;simp at ht
 ·exact ⟨x3_f he, by rcases x3_mem he with rfl|rfl|rfl <;> rfl, fun _ => by rcases x3_mem he with rfl|rfl|rfl <;> decide⟩
 ·simp only [cn8, List.mem_cons, List.not_mem_nil, or_false] at ha
  subst ha
  simp at hp;subst hp;decide
theorem no_dep {e : EvS} (h : e.past = [0, 0]) (d : EvS) : ¬ HasC e.past d.rep d.num := fun ⟨_, _, h1, x, hx, h2⟩ => by
 rw [h] at hx
 have := List.mem_of_getElem? hx
 simp at this
 omega
theorem x3_ab : ExtO x3 [xa, xc] := by
 have h1 : ExtO x3 [xa] := (ExtO.nil x3).snoc (e := xa) (by simp) (by simp) fun d _ hh => absurd hh (no_dep rfl d)
 refine h1.snoc (e := xc) (by simp) (by simp [xa, xc]) fun d hd hh => ?_
 rcases x3_mem hd with rfl|rfl|rfl
 ·exact List.mem_cons_self
 ·obtain ⟨_, _, _, x, hx, h2⟩ := hh
  simp [xc] at hx h2;omega
 ·obtain ⟨_, _, _, x, hx, h2⟩ := hh
  simp [xc, xb] at hx h2;omega
theorem x3_b : ExtO x3 [xb] := (ExtO.nil x3).snoc (e := xb) (by simp) (by simp) fun d _ hh => absurd hh (no_dep rfl d)
end Go.Proofs.YtajenkpjcbaadaaGreat
namespace Go.Proofs.YtajenkpjcbaadaaGreat
open Go Go.CF
set_option maxRecDepth 20000
structure X3R (pa pb : PrS) (Xa Xb : List EvS) (a' b' : PrS) : Prop where
 ta : takeF cn8 [xa, xc] (newP cn8 2 [0]) = (0, pa, Xa)
 tb : takeF cn8 [xb] (newP cn8 2 [0]) = (0, pb, Xb)
 la : Xa.length = 2
 lb : Xb.length = 1
 rk : RecK cn8 2 200 10 pa pb 2 3 a' b'
 ca : a'.s.now.clock = [2, 1]
 sb : b'.s.now.state = [3]
theorem x3_run : ∃ pa pb Xa Xb a' b', X3R pa pb Xa Xb a' b' := by
 have hs := x3_suit
 obtain ⟨Xa, pa, ta1, ta2⟩ := takeF_inv (l' := [xa, xc]) hs (fun e he => by simp at he;rcases he with rfl|rfl <;> simp) (newP_inv hs)
 obtain ⟨Xb, pb, tb1, tb2⟩ := takeF_inv (l' := [xb]) hs (fun e he => by simp at he;subst he;simp) (newP_inv hs)
 obtain ⟨a1, a2, a3⟩ := tak_all hs rfl ta2 (S := [xa, xc]) x3_ab (fun e => Iff.rfl)
 obtain ⟨b1, b2, b3⟩ := tak_all hs rfl tb2 (S := [xb]) x3_b (fun e => Iff.rfl)
 have ia := ta2.inv
 have ib := tb2.inv
 have ea := ta2.evs
 have eb := tb2.evs
 rw [List.nil_append] at ia ib
 have ea' : pa.s.evs = Xa := ea
 have eb' : pb.s.evs = Xb := eb
 have hF : Free cn8 [0] x3 Xa Xb pa pb := ⟨ia, ib, a3, b3, fun e h _ => by rw [ea'];exact h, fun e h _ => by rw [eb'];exact h⟩
 obtain ⟨R, S, a', b', Ya, Yb, r1, r2, r3, r4⟩ := rec_ex hs 10 (by decide) _ Xa Xb pa pb (Nat.le_refl _) ia ib hF.ca hF.cb
 obtain ⟨c1, c2, _, _⟩ := rec_count hs 10 (by decide) r1 Xa Xb hF
 have o1 : offL Xa Xb = Xb := List.filter_eq_self.2 fun e he => by
  have := (b1 e).1 he
  simp only [List.mem_singleton] at this
  subst this
  refine decide_eq_true fun h9 => ?_
  have := (a1 _).1 h9
  simp [xa, xb, xc] at this
 have o2 : offL Xb Xa = Xa := List.filter_eq_self.2 fun e he => by
  refine decide_eq_true fun h9 => ?_
  have h8 := (b1 e).1 h9
  simp only [List.mem_singleton] at h8
  subst h8
  have := (a1 _).1 he
  simp [xa, xb, xc] at this
 rw [o1, o2, a2, b2] at c1 c2
 have hmem : ∀ e, e ∈ Xa ++ Ya ↔ e ∈ x3 := fun e => by
  constructor
  ·exact fun h => r4.ia.buf.ext.sub e h
  ·intro h
   rcases x3_mem h with rfl|rfl|rfl
   ·exact List.mem_append_left _ ((a1 _).2 (by simp))
   ·exact List.mem_append_left _ ((a1 _).2 (by simp))
   ·exact (r4.same _).2 (List.mem_append_left _ ((b1 _).2 (by simp)))
 have hp1 : (Xa ++ Ya).Perm x3 := (List.perm_ext_iff_of_nodup (extO_nodup r4.ia.buf.ext) (uniq_nodupE x3_uniq)).2 hmem
 have hp2 : (Xb ++ Yb).Perm x3 := (List.perm_ext_iff_of_nodup (extO_nodup r4.ib.buf.ext) (uniq_nodupE x3_uniq)).2 fun e => (r4.same e).symm.trans (hmem e)
 refine ⟨pa, pb, Xa, Xb, a', b', ta1, tb1, a2, b2, ?_, ?_, ?_⟩
 ·have e1 : R = 2 := c1
  have e2 : S = 3 := c2
  rw [e1, e2] at r1
  exact r1
 ·rw [r4.ia.sto.clock, clkE_perm hp1];rfl
 ·rw [r4.ib.sto.state, state_perm hp2];rfl
set_option maxHeartbeats 8000000 in
theorem awake38_p : CallP Tryz.prog 5 [] (bl true) := by
 obtain ⟨pa, pb, Xa, Xb, a', b', hR⟩ := x3_run
 have hc := cn8_p
 have hs := x3_suit
 have hpe := peer_a cn8 2 [0] cn8_ok (by decide) (by rw [cn8_str];rfl) (insS_ld (by simp))
 have f0 := newP_fine (m := cn8) (n := 2) (ld := [0]) (by decide) (by rw [cn8_str];rfl)
 have h1 := fun pb' sp bb mb v vc => take_a pb' sp bb mb cn8 v vc 2 0 (newP cn8 2 [0]) [xa, xc] cn8_ok f0.ok (by decide) (by decide)
 have h2 := fun pb' sp bb mb v vc => take_a pb' sp bb mb cn8 v vc 2 0 (newP cn8 2 [0]) [xb] cn8_ok f0.ok (by decide) (by decide)
 simp only [hR.ta, hR.tb] at h1 h2
 have h3 := fun p1 s1 q1 m1 v1 w1 p2 s2 q2 m2 v2 w2 => recon_a p1 s1 q1 m1 v1 w1 p2 s2 q2 m2 v2 w2 cn8 2 200 pa pb a' b' 10 2 3 cn8_ok hR.rk (by decide) (by decide) (by decide) (by decide) (by decide)
 have hla := hR.la
 have hlb := hR.lb
 have e21 := equal_p [2, 1] [2, 1]
 have e3 := equal_p [3] [3]
 rw [decide_eq_true rfl] at e21 e3
 refine CallA.of pg ord5 Tryz.func5 rfl Tryz.ntmps5 Tryz.results5 rfl fun h0 G0 O0 => ?_
 repeat' (first|refine Sp.h ?_|refine Lk.r rfl ?_|refine Rf.mk rfl ?_|refine All.mk fun _=>?_|(apply Fk.r;focus repeat' first|infer_instance|constructor)|refine Rf.mk ⟨rfl, rfl, rfl⟩ ?_|(apply Cl.p (hc);(focus repeat' (first|exact Lend.nil|fail))))
 apply Cl.fx [mdl cn8, it 2, ints [0]]
 focus (repeat' (first|exact FX.nil|(apply FX.sl;(focus repeat constructor);(focus exact Nat.le_of_ble_eq_true rfl))|(apply FX.le;(focus first|exact ALe.refl _|exact ALe.nil))|apply FX.agg|apply FX.tup))
 refine xW (hpe) ?_
 rintro _ _ ⟨p1, s1, q1, m1, v1, w1, rfl, rfl⟩
 repeat' (first|refine Sp.h ?_|refine Lk.r rfl ?_|refine Rf.mk rfl ?_|refine All.mk fun _=>?_|(apply Fk.r;focus repeat' first|infer_instance|constructor)|refine Rf.mk ⟨rfl, rfl, rfl⟩ ?_|(apply Cl.p (hc);(focus repeat' (first|exact Lend.nil|fail))))
 apply Cl.fx [mdl cn8, it 2, ints [0]]
 focus (repeat' (first|exact FX.nil|(apply FX.sl;(focus repeat constructor);(focus exact Nat.le_of_ble_eq_true rfl))|(apply FX.le;(focus first|exact ALe.refl _|exact ALe.nil))|apply FX.agg|apply FX.tup))
 refine xW (hpe) ?_
 rintro _ _ ⟨p2, s2, q2, m2, v2, w2, rfl, rfl⟩
 repeat' (first|refine Sp.h ?_|refine Lk.r rfl ?_|refine Rf.mk rfl ?_|refine xB ?_|refine All.mk fun _=>?_|(apply Fk.r;focus repeat' first|infer_instance|constructor)|refine Rf.mk ⟨rfl, rfl, rfl⟩ ?_|fail)
 apply Cl.fx [pm p1, evs [xa, xc]]
 focus (repeat' (first|exact FX.nil|(apply FX.sl;(focus repeat constructor);(focus exact Nat.le_of_ble_eq_true rfl))|(apply FX.le;(focus first|exact ALe.refl _|exact ALe.nil))|apply FX.agg|apply FX.tup))
 have h1' := h1 p1 s1 q1 m1 v1 w1
 refine xW (h1') ?_
 rintro _ _ ⟨rfl, v1', rfl⟩
 repeat' (first|refine Sp.h ?_|refine Lk.r rfl ?_|refine Rf.mk rfl ?_|refine All.mk fun _=>?_|(apply Fk.r;focus repeat' first|infer_instance|constructor)|refine Rf.mk ⟨rfl, rfl, rfl⟩ ?_|fail)
 apply Cl.fx [pm p2, evs [xb]]
 focus (repeat' (first|exact FX.nil|(apply FX.sl;(focus repeat constructor);(focus exact Nat.le_of_ble_eq_true rfl))|(apply FX.le;(focus first|exact ALe.refl _|exact ALe.nil))|apply FX.agg|apply FX.tup))
 have h2' := h2 p2 s2 q2 m2 v2 w2
 refine xW (h2') ?_
 rintro _ _ ⟨rfl, v2', rfl⟩
 have h3' := h3 p1 s1 q1 m1 v1' w1 p2 s2 q2 m2 v2' w2
 repeat' (first|refine Sp.h ?_|refine Lk.r rfl ?_|refine Rf.mk rfl ?_|fail)
 refine xW (h3') ?_
 rintro _ _ ⟨rfl, v1, v2, rfl⟩
 have g1 := pstore_a p1 s1 q1 m1 cn8 v1 w1 a'
 have g2 := pstore_a p2 s2 q2 m2 cn8 v2 w2 b'
 have g3 := sclock_p s1 cn8 a'.s.base v1 a'.s.now (by rw [hR.ca];decide)
 have g4 := sstate_p s2 cn8 b'.s.base v2 b'.s.now (by rw [hR.sb];decide)
 rw [hR.ca] at g3
 rw [hR.sb] at g4
 repeat' (first|refine Sp.h ?_|refine Lk.r rfl ?_|refine Rf.mk rfl ?_|refine xA ?_|refine Im.mk fun _=>?_|fail)
 refine xW (g1) ?_
 rintro _ _ ⟨rfl, rfl⟩
 repeat' (first|refine Sp.h ?_|refine Lk.r rfl ?_|refine Rf.mk rfl ?_|refine xA ?_|fail)
 refine xW (g3) ?_
 rintro _ _ ⟨rfl, rfl⟩
 repeat' (first|refine Sp.h ?_|refine Lk.r rfl ?_|refine Rf.mk rfl ?_|refine xA ?_|refine All.mk fun _=>?_|(apply Fk.r;focus repeat' first|infer_instance|constructor)|refine Rf.mk ⟨rfl, rfl, rfl⟩ ?_|fail)
 (apply Cl.lend (e21);(focus repeat' (first|exact Lend.nil|apply Lend.keep|(apply Lend.lendm;(focus repeat constructor);(focus rfl);(focus first|omega|decide|(simp;omega)|exact Nat.le_of_ble_eq_true rfl))|fail)))
 repeat' (first|refine Sp.h ?_|refine Lk.r rfl ?_|refine Rf.mk rfl ?_|refine xA ?_|fail)
 refine xW (g2) ?_
 rintro _ _ ⟨rfl, rfl⟩
 repeat' (first|refine Sp.h ?_|refine Lk.r rfl ?_|refine Rf.mk rfl ?_|fail)
 refine xW (g4) ?_
 rintro _ _ ⟨rfl, rfl⟩
 repeat' (first|refine Sp.h ?_|refine Lk.r rfl ?_|refine Rf.mk rfl ?_|refine All.mk fun _=>?_|(apply Fk.r;focus repeat' first|infer_instance|constructor)|refine Rf.mk ⟨rfl, rfl, rfl⟩ ?_|fail)
 (apply Cl.lend (e3);(focus repeat' (first|exact Lend.nil|apply Lend.keep|(apply Lend.lendm;(focus repeat constructor);(focus rfl);(focus first|omega|decide|(simp;omega)|exact Nat.le_of_ble_eq_true rfl))|fail)))
 repeat' (first|refine Sp.h ?_|refine Lk.r rfl ?_|refine xN ?_|fail)
 all_goals exact Fin.p rfl rfl
end Go.Proofs.YtajenkpjcbaadaaGreat
namespace Go.Proofs.YtajenkpjcbaadaaGreat
open Go Go.CF
set_option maxRecDepth 20000
abbrev u8 (x : Int) : AV := .val (.int .u8 x)
end Go.Proofs.YtajenkpjcbaadaaGreat
namespace Go.Proofs.YtajenkpjcbaadaaGreat
open Go Go.CF
set_option maxRecDepth 20000
def cpsO : Nat → Ord × (Nat → Cls) := fun id => bif Nat.beq id 7 then (.one 0 (.one 1 (.one 2 (.one 3 (.one 6 (.one 7 (.one 8 (.alt 4 (.one 5 (.one 9 (.one 10 (.one 11 .done)))) (.alt 5 (.one 4 (.one 9 (.one 10 (.one 11 .done)))) (.none))))))))), clOf [.read, .pure, .pure, .pure, .loud, .ext, .pure, .pure, .pure, .loud, .pure, .pure]) else bif Nat.beq id 20 then (.one 0 (.one 1 (.one 2 (.one 3 (.one 4 (.one 5 (.one 6 (.one 7 (.one 8 (.one 9 (.one 10 (.one 11 (.one 12 (.one 13 (.one 14 (.one 15 (.one 16 (.one 17 (.one 18 (.one 19 (.one 20 (.one 21 (.one 22 (.one 23 (.one 24 (.one 25 (.one 26 (.one 27 (.one 28 (.one 29 (.one 30 (.one 31 (.one 32 (.one 33 .done))))))))))))))))))))))))))))))))), clOf [.pure, .pure, .pure, .pure, .pure, .pure, .read, .pure, .pure, .read, .pure, .pure, .pure, .pure, .pure, .pure, .pure, .pure, .pure, .pure, .pure, .read, .pure, .pure, .read, .pure, .pure, .pure, .pure, .pure, .pure, .pure, .pure, .pure]) else (.done, clOf [])
abbrev prpC (p : Nat) : List AV := [pm p]
set_option maxHeartbeats 16000000 in
theorem completes38_p (m : ModS) (ld : List Int) (l : List EvS) (a b : List Int) (most : Int) (hmo : 0 ≤ most ∧ most ≤ 255) : CallP Tryz.prog 3 [mdl m, ints ld, evs l, ints a, ints b, u8 most] (bl true) := by
 have haw := awake38_p
 have hsu := suits38_c m ld l
 refine CallA.of pg cpsO Tryz.func3 rfl Tryz.ntmps3 Tryz.results3 rfl fun h0 G0 O0 => ?_
 repeat' (first|refine Sp.h ?_|refine Lk.r rfl ?_|refine Rf.mk rfl ?_|refine xA ?_|refine All.mk fun _=>?_|refine xT ?_|refine Ch.l ⟨rfl, rfl⟩ ?_|(apply Cl.p (haw);(focus repeat' (first|exact Lend.nil|fail))))
 rename_i b6
 refine xW (hsu) ?_
 rintro _ _ ⟨s, rfl, rfl, hs⟩
 cases s
 ·repeat' (first|refine Sp.h ?_|refine Lk.r rfl ?_|refine Rf.mk rfl ?_|refine xB ?_|refine xN ?_|fail)
  exact Fin.p rfl rfl
 obtain ⟨hs, hl40⟩ := hs rfl
 obtain ⟨d, hd⟩ := get_of (l := l) (i := 0) hs.ne
 have hn0 : n0 l = d.past.length := by rw [n0, hd];rfl
 have hc := hs.e.2.2.1
 have hm := hs.e.1
 have hnr := n0_rng hc (List.mem_of_getElem? hd)
 have hva := validC_p a
 have hvb := validC_p b
 by_cases hv : ValC a
 rotate_left
 ·rw [decide_eq_false hv] at hva
  repeat' (first|refine Sp.h ?_|refine Lk.r rfl ?_|refine Rf.mk rfl ?_|refine xA ?_|refine xB ?_|refine xN ?_|(apply Cl.p (hva);focus repeat' constructor))
  all_goals exact Fin.p rfl rfl
 rw [decide_eq_true hv] at hva
 by_cases hv2 : ValC b
 rotate_left
 ·rw [decide_eq_false hv2] at hvb
  repeat' (first|refine Sp.h ?_|refine Lk.r rfl ?_|refine Rf.mk rfl ?_|refine xA ?_|refine xB ?_|refine xN ?_|(apply Cl.p (hva);focus (repeat' constructor);done)|(apply Cl.p (hvb);focus (repeat' constructor);done))
  all_goals exact Fin.p rfl rfl
 rw [decide_eq_true hv2] at hvb
 by_cases hal : a.length = n0 l
 rotate_left
 ·have hne : ¬ (a.length : Int) = (d.past.length : Int) := by omega
  repeat' (first|refine Sp.h ?_|refine Lk.r rfl ?_|refine Rf.mk rfl ?_|refine xA ?_|refine xB ?_|refine Im.mk fun _=>?_|refine xI ?_|refine xN ?_|(apply Cl.p (hva);focus (repeat' constructor);done)|(apply Cl.p (hvb);focus (repeat' constructor);done))
  all_goals exact Fin.p rfl rfl
 have hal' : (a.length : Int) = (d.past.length : Int) := by omega
 by_cases hbl : b.length = n0 l
 rotate_left
 ·have hne : ¬ (a.length : Int) = (b.length : Int) := by omega
  repeat' (first|refine Sp.h ?_|refine Lk.r rfl ?_|refine Rf.mk rfl ?_|refine xA ?_|refine xB ?_|refine Im.mk fun _=>?_|refine xI ?_|refine xN ?_|(apply Cl.p (hva);focus (repeat' constructor);done)|(apply Cl.p (hvb);focus (repeat' constructor);done))
  all_goals exact Fin.p rfl rfl
 have hbl' : (a.length : Int) = (b.length : Int) := by omega
 have hw := within_p hc (by omega) hv hal
 have hw2 := within_p hc (by omega) hv2 hbl
 obtain ⟨ac, hac⟩ : ∃ k, k = partC l a := ⟨_, rfl⟩
 obtain ⟨bc, hbc⟩ : ∃ k, k = partC l b := ⟨_, rfl⟩
 have hpa : Part l ac := by rw [hac];exact part_ok hc hv hal
 have hea : EvK l ac := by rw [hac];exact partC_ev hc hv hal
 have hpb : Part l bc := by rw [hbc];exact part_ok hc hv2 hbl
 have heb : EvK l bc := by rw [hbc];exact partC_ev hc hv2 hbl
 rw [← hac] at hw
 rw [← hbc] at hw2
 have hpA : CallA Tryz.prog 9 [mdl m, it (a.length : Nat), ints ld] [] fun r own => ∃ pb sp bb mb v vc, r = pm pb ∧ own = prR pb sp bb mb m v vc (newP m (n0 l) ld) := by rw [hal];exact peer_a m (n0 l) ld hm hnr hs.ln (insS_ld hs.ld)
 have hcla := cut_len l ac
 have hclb := cut_len l bc
 have hub : Uniq (cutL l bc) := uniq_sub hc.2.1 bc
 obtain ⟨X1, P, t1, t2, t3⟩ := got_part hs hpa (List.Perm.refl (cutL l ac))
 obtain ⟨X2, Q, u1, u2, u3⟩ := got_part hs hpb (ordE_perm (cutL l bc)).symm
 rw [ordE_len] at u2
 have hfP := (newP_fine (m := m) (n := n0 l) (ld := ld) hnr hs.ln).ok
 have hT := fun p1 s1 q1 m1 v1 w1 => take_a p1 s1 q1 m1 m v1 w1 (n0 l) 0 (newP m (n0 l) ld) (cutL l ac) hm hfP hnr.2 (by omega)
 have hU := fun p1 s1 q1 m1 v1 w1 => take_a p1 s1 q1 m1 m v1 w1 (n0 l) 0 (newP m (n0 l) ld) (ordE (cutL l bc)) hm hfP hnr.2 (by rw [ordE_len];omega)
 rw [t1] at hT
 rw [u1] at hU
 have hod := order_p (cutL l bc) hub (by omega)
 (repeat' (first|(show CA _ _ (Code.region 7 _ _) _ _;apply Stopped.out)|refine Sp.h ?_|refine Lk.r rfl ?_|refine Rf.mk rfl ?_|refine xA ?_|refine Im.mk fun _=>?_|refine xI ?_|(apply Cl.p (hva);focus (repeat' constructor);done)|(apply Cl.p (hvb);focus (repeat' constructor);done)|(apply Cl.p (hw);focus (repeat' constructor);done)|(apply Cl.p (hw2);focus (repeat' constructor);done)));any_goals apply Stopped.mk
 refine CA.cut (fun x : (Nat × Nat × Nat × Nat × Value × Value) × Nat × Nat × Nat × Nat × Value × Value => ⟨[(1, ints ld), (2, evs l), (5, u8 most), (6, pm b6), (13, evs (cutL l ac)), (14, ints ac), (15, evs (cutL l bc)), (16, ints bc), (17, pm x.1.1), (18, pm x.2.1)], mR b6 m :: (prR x.1.1 x.1.2.1 x.1.2.2.1 x.1.2.2.2.1 m x.1.2.2.2.2.1 x.1.2.2.2.2.2 (newP m (n0 l) ld) ++ prR x.2.1 x.2.2.1 x.2.2.2.1 x.2.2.2.2.1 m x.2.2.2.2.2.1 x.2.2.2.2.2.2 (newP m (n0 l) ld))⟩) (fun _ => True) ?_ ?_
 ·repeat' (first|refine Sp.h ?_|refine Lk.r rfl ?_|refine Rf.mk rfl ?_|refine OpK.r rfl ?_|refine Im.mk fun _=>?_|refine xT ?_|refine Ch.l ⟨rfl, rfl⟩ ?_|refine xD ?_|exact trivial|apply RA'.both|(((apply Cl.use (hpA);(focus repeat' constructor);(focus repeat' constructor);focus rfl));(rintro _ _ ⟨p1, s1, q1, m1, v1, w1, rfl, rfl⟩)))
  all_goals exact PA.lp ((_, _, _, _, _, _), _, _, _, _, _, _) xE trivial
 rintro ⟨⟨p1, s1, q1, m1, v1, w1⟩, p2, s2, q2, m2, v2, w2⟩ _
 simp only
 have hT1 := hT p1 s1 q1 m1 v1 w1
 have hU1 := hU p2 s2 q2 m2 v2 w2
 repeat' (first|refine Sp.h ?_|refine Lk.r rfl ?_|refine Rf.mk rfl ?_|refine xB ?_|fail)
 refine xW (hT1) ?_
 rintro _ _ ⟨rfl, v1', rfl⟩
 have t2' : (X1.length : Int) = ((cutL l ac).length : Int) := by omega
 have u2' : (X2.length : Int) = ((cutL l bc).length : Int) := by omega
 repeat' (first|refine Sp.h ?_|refine Lk.r rfl ?_|refine Rf.mk rfl ?_|refine xA ?_|refine Im.mk fun _=>?_|(apply Cl.p (hod);focus repeat' constructor))
 refine xW (hU1) ?_
 rintro _ _ ⟨rfl, v2', rfl⟩
 obtain ⟨K, hK⟩ : ∃ K : Int, K = 1 + most % 8 := ⟨_, rfl⟩
 have hmk : 1 ≤ K ∧ K ≤ 1024 := by omega
 obtain ⟨R, S, P', Q', hR⟩ := got_rec hs hpa hpb hea heb t3 u3 K hmk
 obtain ⟨u, hu⟩ : ∃ u, u = joinC ac bc := ⟨_, rfl⟩
 have hpu : Part l u := by rw [hu];exact Part.join hc hpa hpb
 have heu : EvK l u := by rw [hu];exact EvK.join (hpa.len.trans hpb.len.symm) hea heb
 have hju := join_z2 hpa.val hpb.val (hpa.len.trans hpb.len.symm)
 obtain ⟨rr, rd, mv, sm, ga, gb, nn⟩ := hR
 rw [← hu] at hju rd mv ga gb nn
 have cU := countP_p u hpu.val
 have cA := countP_p ac hpa.val
 have cB := countP_p bc hpb.val
 have bU := sumC_val hpu.val
 have bA := sumC_val hpa.val
 have bB := sumC_val hpb.val
 (repeat' (first|(show CA _ _ (Code.region 17 _ _) _ _;apply Stopped.out)|refine Sp.h ?_|refine Lk.r rfl ?_|refine Rf.mk rfl ?_|refine xA ?_|refine xP ?_|refine Im.mk fun _=>?_|refine xO ?_|(apply Cvk.i64;(focus rfl);(focus omega))|fail));any_goals apply Stopped.mk
 rw [← hK]
 repeat' (first|refine Sp.h ?_|refine Lk.r rfl ?_|refine Rf.mk rfl ?_|refine All.mk fun _=>?_|(apply Fk.r;focus repeat' first|infer_instance|constructor)|refine Rf.mk ⟨rfl, rfl, rfl⟩ ?_|fail)
 (apply Cl.fz;(focus repeat' (first|exact FZ.nil|(apply FZ.fz;(focus repeat constructor);(focus first|omega|decide|exact Nat.le_of_ble_eq_true rfl|(simp <;> omega)))|apply FZ.agg|apply FZ.same)))
 (apply Cl.p (hju);(focus repeat' (first|exact Lend.nil|(apply Lend.mp;(focus rfl))|fail)))
 (repeat' (first|(show CA _ _ (Code.region 19 _ _) _ _;apply Stopped.out)|refine Sp.h ?_|refine Lk.r rfl ?_|refine Rf.mk rfl ?_|refine All.mk fun _=>?_|(apply Fk.r;focus repeat' first|infer_instance|constructor)|refine Rf.mk ⟨rfl, rfl, rfl⟩ ?_|refine xO ?_|(apply Cl.p (cU);focus (repeat' constructor);done)|(apply Cl.p (cA);focus (repeat' constructor);done)|(apply Cl.p (cB);focus (repeat' constructor);done)));any_goals apply Stopped.mk
 rename_i x25
 obtain ⟨A, hA⟩ : ∃ A, A = sumC u - sumC ac := ⟨_, rfl⟩
 obtain ⟨B, hB⟩ : ∃ B, B = sumC u - sumC bc := ⟨_, rfl⟩
 rw [← hA, ← hB] at rd mv nn
 have hrt : ∀ {α : Type} (l' : List α) (f : α → List AV), [A, B].map intC = l'.map f → True := fun _ _ _ => trivial
 refine CA.retype (by repeat constructor) [A, B] intC (by simp [chunk, hA, hB];exact ⟨rfl, rfl⟩) ?_
 have hi0 : [A, B][0]? = some A := rfl
 have hi1 : [A, B][1]? = some B := rfl
 have hrc := recon_a p1 s1 q1 m1 v1' w1 p2 s2 q2 m2 v2' w2 m (n0 l) 200 P Q P' Q' K R S hm rr (by omega) hnr.2 hmk (by omega) (by omega)
 obtain ⟨x, hx⟩ : ∃ x : Nat, A = x := ⟨A.toNat, by omega⟩
 obtain ⟨y, hy⟩ : ∃ y : Nat, B = y := ⟨B.toNat, by omega⟩
 obtain ⟨k, hk⟩ : ∃ k : Nat, K = k := ⟨K.toNat, by omega⟩
 have hq : (max A B + K - 1) / K = ((R - 1 : Nat) : Int) := by
  have h8 := rd.2
  rw [hx, hy, hk] at h8
  simp only [Int.toNat_natCast] at h8
  have h9 : ((max x y + k - 1 : Nat) : Int) = max (x : Int) y + k - 1 := by omega
  rw [h8, Nat.add_sub_cancel_left, hx, hy, hk, ← h9]
  exact (Int.natCast_ediv _ _).symm
 have hR1 := rd.1
 have sm1 := sm.1
 have sm2 := sm.2
 have hct := cut_z l u (by omega)
 obtain ⟨U, hU2⟩ : ∃ U, U = cutL l u := ⟨_, rfl⟩
 have hUl : ∀ e ∈ U, e ∈ l := fun e he => by rw [hU2] at he;exact (mem_cut.1 he).1
 have hUn : U.length ≤ 40 := by rw [hU2];have := cut_len l u;omega
 have hUv : ∀ e ∈ U, EvV m (e.past.length : Nat) e := fun e he => by
  have h9 := hs.e.2.2.2.2 e (hUl e he)
  have h8 := h9.2.1
  rw [← h8] at h9
  exact h9
 have hact : ActOK m U := fun e he hk => by
  have h1 := hs.e.2.2.2.2 e (hUl e he)
  exact ⟨act_rng h1.1 hk, h1.2.2 hk⟩
 have hlay := hm.lay
 have hkd : ∀ t ∈ m.tables, ¬ isStrict t.kind → Kd t := fun t ht hns => by
  have := (hlay.2.2.2 t ht).2
  unfold isStrict at hns
  unfold Kd
  omega
 have hes := estate_p m ld U hm hs.ln hUv
 have hvl := eValues_p m U hlay hkd hUv hact (by omega)
 have hUc : ClosedE U := by rw [hU2];exact part_closed' hc hpu
 have ea := end_show hs ga.inv (ga.perm hs) (by rw [← hU2];exact hUc)
 have eb := end_show hs gb.inv (gb.perm hs) (by rw [← hU2];exact hUc)
 have ka := (ga.clk hs hpu heu).1
 have kb := (gb.clk hs hpu heu).1
 rw [← hU2] at hct ea eb
 obtain ⟨ST, hST⟩ : ∃ ST, ST = U.foldl (addE m) ld := ⟨_, rfl⟩
 obtain ⟨VL, hVL⟩ : ∃ VL, VL = evlL m U (mrgF m) := ⟨_, rfl⟩
 rw [← hST] at hes ea eb
 rw [← hVL] at hvl ea eb
 change CallP _ _ _ (.tup [clks VL, it 0]) at hvl
 repeat' (first|refine Sp.h ?_|refine Lk.r rfl ?_|refine Rf.mk rfl ?_|fail)
 refine xW (hrc) ?_
 rintro _ _ ⟨rfl, va, vb, rfl⟩
 repeat' (first|refine Sp.h ?_|refine Lk.r rfl ?_|refine Rf.mk rfl ?_|refine xA ?_|refine xB ?_|refine OpK.r rfl ?_|refine xP ?_|refine All.mk fun _=>?_|refine xU ?_|refine xT ?_|refine xI ?_|refine xJ ?_|refine Ch.l ⟨rfl, rfl⟩ ?_|(apply Fk.r;focus repeat' first|infer_instance|constructor)|refine Rf.mk ⟨rfl, rfl, rfl⟩ ?_|refine xD ?_|refine xO ?_|(apply Cl.p (hct);focus (repeat' constructor);done)|(apply Cl.p (hes);focus (repeat' constructor);done)|(apply Cl.p (hvl);focus (repeat' constructor);done))
 rename_i x213
 refine CA.retype (by repeat constructor) [p1, p2] prpC (by simp [chunk];exact ⟨rfl, rfl⟩) ?_
 have hp0 : [p1, p2][0]? = some p1 := rfl
 have hp1 : [p1, p2][1]? = some p2 := rfl
 have fa := ga.inv.fine hs
 have fb := gb.inv.fine hs
 have hstr := hm.str
 have l3 := fa.ok.now.st
 have l4 := fb.ok.now.st
 have hul := hpu.len
 have hh : ordE [] = [] := List.length_eq_zero_iff.1 (by rw [ordE_len];rfl)
 have a1 := pstore_a p1 s1 q1 m1 m va w1 P'
 have a2 := sclock_p s1 m P'.s.base va P'.s.now (by rw [ka, hul];omega)
 have a3 := sstate_p s1 m P'.s.base va P'.s.now (by omega)
 have a4 := svalues_p s1 m P'.s.base va P'.s.now hm
 have a5 := pheld_a p1 s1 q1 m1 m va w1 P' fa.ok.hld
 have b1 := pstore_a p2 s2 q2 m2 m vb w2 Q'
 have b2 := sclock_p s2 m Q'.s.base vb Q'.s.now (by rw [kb, hul];omega)
 have b3 := sstate_p s2 m Q'.s.base vb Q'.s.now (by omega)
 have b4 := svalues_p s2 m Q'.s.base vb Q'.s.now hm
 have b5 := pheld_a p2 s2 q2 m2 m vb w2 Q' fb.ok.hld
 rw [ka] at a2
 rw [kb] at b2
 rw [ea.1] at a3
 rw [eb.1] at b3
 rw [ea.2] at a4
 rw [eb.2] at b4
 rw [ga.nil, List.map_nil, hh] at a5
 rw [gb.nil, List.map_nil, hh] at b5
 have e1 := equal_p u u
 have e2 := equal_p ST ST
 have e3 := listsQ_p VL VL
 rw [decide_eq_true rfl] at e1 e2 e3
 refine CA.loop (fun i : Nat => ⟨[(17, pm p1), (18, pm p2), (23, it K), (24, ints u), (30, ints ST), (31, clks VL), (213, .ow x213), (214, it (2 : Nat)), (215, it i)], arrR x213 43 1 [p1, p2] prpC :: prR2 p1 s1 q1 m1 va w1 p2 s2 q2 m2 vb w2 m P' Q'⟩)
  (fun i => i ≤ 2) (fun i => 2 - i) 0 xE (Nat.zero_le _) ?_
 intro i hi
 by_cases h2 : i = 2
 ·subst h2
  obtain ⟨P2, Q2, hag⟩ := got_again hs gb ga K hmk
  have hrc2 := recon_a p2 s2 q2 m2 vb w2 p1 s1 q1 m1 va w1 m (n0 l) 200 Q' P' P2 Q2 K 1 0 hm hag (by omega) hnr.2 hmk (by omega) (by omega)
  repeat' (first|refine Sp.h ?_|refine Lk.r rfl ?_|refine Rf.mk rfl ?_|refine xB ?_|fail)
  refine xW (hrc2) ?_
  rintro _ _ ⟨rfl, va2, vb2, rfl⟩
  repeat' (first|refine Sp.h ?_|refine Lk.r rfl ?_|refine Rf.mk rfl ?_|refine xA ?_|refine xN ?_|fail)
  all_goals exact Fin.p rfl rfl
 by_cases h1 : i = 0
 ·subst h1
  repeat' (first|refine Sp.h ?_|refine Lk.r rfl ?_|refine Rf.mk rfl ?_|refine xA ?_|refine Im.mk fun _=>?_|refine xU ?_|refine xI ?_|refine xJ ?_|refine xO ?_|(((apply Cl.use (a1);(focus repeat' constructor);(focus repeat' constructor);focus rfl));(rintro _ _ ⟨rfl, rfl⟩))|(((apply Cl.use (a2);(focus repeat' constructor);(focus repeat' constructor);focus rfl));(rintro _ _ ⟨rfl, rfl⟩))|(((apply Cl.use (a3);(focus repeat' constructor);(focus repeat' constructor);focus rfl));(rintro _ _ ⟨rfl, rfl⟩))|(((apply Cl.use (a4);(focus repeat' constructor);(focus repeat' constructor);focus rfl));(rintro _ _ ⟨rfl, rfl⟩))|(((apply Cl.use (a5);(focus repeat' constructor);(focus repeat' constructor);focus rfl));(rintro _ _ ⟨rfl, rfl⟩))|(apply Cl.p (e1);focus (repeat' constructor);done)|(apply Cl.p (e2);focus (repeat' constructor);done)|(apply Cl.p (e3);focus (repeat' constructor);done))
  all_goals exact PA.lp 1 xE ⟨by omega, by omega⟩
 have h3 : i = 1 := by omega
 subst h3
 repeat' (first|refine Sp.h ?_|refine Lk.r rfl ?_|refine Rf.mk rfl ?_|refine xA ?_|refine Im.mk fun _=>?_|refine xU ?_|refine xI ?_|refine xJ ?_|refine xO ?_|(((apply Cl.use (b1);(focus repeat' constructor);(focus repeat' constructor);focus rfl));(rintro _ _ ⟨rfl, rfl⟩))|(((apply Cl.use (b2);(focus repeat' constructor);(focus repeat' constructor);focus rfl));(rintro _ _ ⟨rfl, rfl⟩))|(((apply Cl.use (b3);(focus repeat' constructor);(focus repeat' constructor);focus rfl));(rintro _ _ ⟨rfl, rfl⟩))|(((apply Cl.use (b4);(focus repeat' constructor);(focus repeat' constructor);focus rfl));(rintro _ _ ⟨rfl, rfl⟩))|(((apply Cl.use (b5);(focus repeat' constructor);(focus repeat' constructor);focus rfl));(rintro _ _ ⟨rfl, rfl⟩))|(apply Cl.p (e1);focus (repeat' constructor);done)|(apply Cl.p (e2);focus (repeat' constructor);done)|(apply Cl.p (e3);focus (repeat' constructor);done))
 all_goals exact PA.lp 2 xE ⟨by omega, by omega⟩
end Go.Proofs.YtajenkpjcbaadaaGreat
