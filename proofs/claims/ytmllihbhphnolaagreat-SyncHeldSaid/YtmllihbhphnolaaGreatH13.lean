/- Part 13 of the ground of this proof: what its texts say of the model, the program and the plain data; conditions: those that are named. -/
import Derived.Test.YtmllihbhphnolaaGreatH12
namespace Go.Proofs.YtmllihbhphnolaaGreat
open Go Go.CF
set_option maxRecDepth 20000
set_option maxHeartbeats 8000000 in
theorem suits38_c (m : ModS) (ld : List Int) (l : List EvS) : CallF Tryz.prog 43 [mdl m, ints ld, evs l] (SuitS m ld l ∧ l.length ≤ 40) := by
 have hfe := few32_c m l
 refine CallA.of pg ord43 Tryz.func43 rfl Tryz.ntmps43 Tryz.results43 rfl fun h0 G0 O0 => ?_
 repeat' (first|refine Sp.h ?_|refine Lk.r rfl ?_|refine Rf.mk rfl ?_|(refine All.mk ?_;intro _)|refine xT ?_|refine Ch.l ⟨rfl, rfl⟩ ?_|fail)
 rename_i b3
 refine xW (hfe) ?_
 rintro _ _ ⟨b, rfl, rfl, h1⟩
 cases b
 ·repeat' (first|refine Sp.h ?_|refine Lk.r rfl ?_|refine Rf.mk rfl ?_|refine xB ?_|refine xN ?_|fail)
  exact ⟨_, _, .one (.same (.z)), _, rfl, rfl, fun h => by cases h⟩
 obtain ⟨hm, hf⟩ := h1 rfl
 have hcl := closed_p l
 have hst := strict32_p m hm.lay
 have hmg := merged32_p m hm.lay
 by_cases hl0 : l.length = 0
 ·repeat' (first|refine Sp.h ?_|refine Lk.r rfl ?_|refine Rf.mk rfl ?_|refine xA ?_|(refine Im.mk ?_;intro _)|refine xN ?_|fail)
  exact ⟨_, _, .one (.same (.z)), _, rfl, rfl, fun h => by cases h⟩
 by_cases hl40 : 40 < l.length
 ·repeat' (first|refine Sp.h ?_|refine Lk.r rfl ?_|refine Rf.mk rfl ?_|refine xA ?_|refine xB ?_|(refine Im.mk ?_;intro _)|refine xN ?_|fail)
  exact ⟨_, _, .one (.same (.z)), _, rfl, rfl, fun h => by cases h⟩
 by_cases hc : ClosedE l
 rotate_left
 ·rw [decide_eq_false hc] at hcl
  repeat' (first|refine Sp.h ?_|refine Lk.r rfl ?_|refine Rf.mk rfl ?_|refine xA ?_|refine xB ?_|(refine Im.mk ?_;intro _)|refine xN ?_|(apply Cl.p (hcl);(focus ((repeat' (first|exact Lend.nil|apply Lend.keep|fail));done)))|(apply Cl.p (hst);(focus ((repeat' (first|exact Lend.nil|apply Lend.keep|fail));done))))
  exact ⟨_, _, .one (.same (.z)), _, rfl, rfl, fun h => by cases h⟩
 rw [decide_eq_true hc] at hcl
 by_cases hln : ld.length = strF m
 rotate_left
 ·repeat' (first|refine Sp.h ?_|refine Lk.r rfl ?_|refine Rf.mk rfl ?_|refine xA ?_|refine xB ?_|(refine Im.mk ?_;intro _)|refine xT ?_|refine Ch.l ⟨rfl, rfl⟩ ?_|refine xN ?_|(apply Cl.p (hcl);(focus ((repeat' (first|exact Lend.nil|apply Lend.keep|fail));done)))|(apply Cl.p (hst);(focus ((repeat' (first|exact Lend.nil|apply Lend.keep|fail));done))))
  exact ⟨_, _, .one (.same (.z)), _, rfl, rfl, fun h => by cases h⟩
 repeat' (first|refine Sp.h ?_|refine Lk.r rfl ?_|refine Rf.mk rfl ?_|refine xA ?_|refine xB ?_|(refine Im.mk ?_;intro _)|refine xT ?_|refine Ch.l ⟨rfl, rfl⟩ ?_|(apply Cl.p (hcl);(focus ((repeat' (first|exact Lend.nil|apply Lend.keep|fail));done)))|(apply Cl.p (hst);(focus ((repeat' (first|exact Lend.nil|apply Lend.keep|fail));done))))
 refine CA.loop (fun i : Nat => ⟨[(1, ints ld), (2, evs l), (3, pm b3), (46, evs l), (47, it (l.length : Nat)), (48, it i)], [mR b3 m]⟩) (fun i => i ≤ l.length ∧ ∀ e ∈ l.take i, EvV m (n0 l : Nat) e) (fun i => l.length - i) 0 xE ⟨Nat.zero_le _, by simp⟩ ?_
 rintro i ⟨hi, hev⟩
 by_cases hin : i < l.length
 ·obtain ⟨e, he⟩ := get_of hin
  obtain ⟨d, hd⟩ := get_of (l := l) (i := 0) (by omega)
  have hn : n0 l = d.past.length := by rw [n0, hd];rfl
  have hvv := evalid_p m (d.past.length : Nat) e
  by_cases hv : EvV m (d.past.length : Nat) e
  ·repeat' (first|refine Sp.h ?_|refine Lk.r rfl ?_|refine Rf.mk rfl ?_|refine xA ?_|refine OpK.r rfl ?_|(refine Im.mk ?_;intro _)|(refine All.mk ?_;intro _)|refine xT ?_|refine xI ?_|refine Ch.l ⟨rfl, rfl⟩ ?_|(apply SetAsk.r;focus repeat' constructor)|refine xN ?_|refine xD ?_|refine xO ?_|(apply Cl.p (hvv);(focus repeat' (first|exact Lend.nil|apply Lend.keep|fail))))
   all_goals exact PA.lp (i + 1) xE ⟨⟨hin, all_succ he hev (by rw [hn];exact hv)⟩, by omega⟩
  ·repeat' (first|refine Sp.h ?_|refine Lk.r rfl ?_|refine Rf.mk rfl ?_|refine xA ?_|refine xB ?_|refine OpK.r rfl ?_|(refine Im.mk ?_;intro _)|(refine All.mk ?_;intro _)|refine xT ?_|refine xI ?_|refine Ch.l ⟨rfl, rfl⟩ ?_|(apply SetAsk.r;focus repeat' constructor)|refine xN ?_|refine xD ?_|(apply Cl.p (hvv);(focus repeat' (first|exact Lend.nil|apply Lend.keep|fail))))
   all_goals exact ⟨_, _, .one (.same (.z)), _, rfl, rfl, fun h => by cases h⟩
 have hie : i = l.length := by omega
 subst hie
 rw [List.take_length] at hev
 repeat' (first|refine Sp.h ?_|refine Lk.r rfl ?_|refine Rf.mk rfl ?_|refine xB ?_|(refine Im.mk ?_;intro _)|refine xT ?_|refine Ch.l ⟨rfl, rfl⟩ ?_|(apply Cl.p (hmg);(focus repeat' (first|exact Lend.nil|apply Lend.keep|fail))))
 refine CA.loop (fun i : Nat => ⟨[(3, pm b3), (9, tbls (mrgF m)), (64, ints ld), (65, it (ld.length : Nat)), (66, it i)], [mR b3 m]⟩) (fun i => i ≤ ld.length ∧ ∀ x ∈ ld.take i, -1000 ≤ x ∧ x ≤ 1000) (fun i => ld.length - i) 0 xE ⟨Nat.zero_le _, by simp⟩ ?_
 rintro i ⟨hi, ha⟩
 by_cases hin : i < ld.length
 ·obtain ⟨x, hx⟩ := get_of hin
  repeat' (first|refine Sp.h ?_|refine Lk.r rfl ?_|refine Rf.mk rfl ?_|refine xA ?_|refine xB ?_|(refine Bd.mk ?_ ?_ <;> intro _)|refine xI ?_|refine xN ?_|refine xO ?_|fail)
  all_goals first
   | exact ⟨_, _, .one (.same (.z)), _, rfl, rfl, fun h => by cases h⟩
   | exact PA.lp (i + 1) xE ⟨⟨hin, all_succ hx ha ⟨by omega, by omega⟩⟩, by omega⟩
 have hie : i = ld.length := by omega
 subst hie
 rw [List.take_length] at ha
 repeat' (first|refine Sp.h ?_|refine Lk.r rfl ?_|refine Rf.mk rfl ?_|refine xB ?_|(refine Im.mk ?_;intro _)|refine xT ?_|fail)
 refine CA.loop (fun i : Nat => ⟨[(9, tbls (mrgF m)), (78, .sl 5 m.acts actC), (79, it (m.acts.length : Nat)), (80, it i)], []⟩) (fun i => i ≤ m.acts.length ∧ ∀ a ∈ m.acts.take i, (∀ u ∈ a.eff.updates, ∀ (i : Nat) t, u.2.1 = i → (mrgF m)[i]? = some t → FitO t u) ∧ ∀ p ∈ a.eff.delta, -1000 ≤ p.2 ∧ p.2 ≤ 1000) (fun i => m.acts.length - i) 0 xE ⟨Nat.zero_le _, by simp⟩ ?_
 rintro i ⟨hi, hac⟩
 by_cases hin : i < m.acts.length
 ·obtain ⟨a, hx⟩ := get_of hin
  have heo := hm.eff a (List.mem_of_getElem? hx)
  repeat' (first|refine Sp.h ?_|refine Lk.r rfl ?_|refine Rf.mk rfl ?_|refine xA ?_|(refine Im.mk ?_;intro _)|(refine All.mk ?_;intro _)|refine xT ?_|refine xI ?_|refine Ch.l ⟨rfl, rfl⟩ ?_|(apply SetAsk.r;focus repeat' constructor)|refine xN ?_|fail)
  rename_i b13 _
  refine CA.loop (fun k : Nat => ⟨[(9, tbls (mrgF m)), (13, pm b13), (78, .sl 5 m.acts actC), (79, it (m.acts.length : Nat)), (80, it i), (86, terms a.eff.delta), (87, it (a.eff.delta.length : Nat)), (88, it k)], [blkR b13 151 (actC a)]⟩) (fun k => k ≤ a.eff.delta.length ∧ ∀ p ∈ a.eff.delta.take k, -1000 ≤ p.2 ∧ p.2 ≤ 1000) (fun k => a.eff.delta.length - k) 0 xE ⟨Nat.zero_le _, by simp⟩ ?_
  rintro k ⟨hk2, hd⟩
  by_cases hkn : k < a.eff.delta.length
  ·obtain ⟨p, hp⟩ := get_of hkn
   repeat' (first|refine Sp.h ?_|refine Lk.r rfl ?_|refine Rf.mk rfl ?_|refine xA ?_|refine xB ?_|(refine Bd.mk ?_ ?_ <;> intro _)|(refine All.mk ?_;intro _)|refine xT ?_|refine xI ?_|refine Ch.l ⟨rfl, rfl⟩ ?_|(apply SetAsk.r;focus repeat' constructor)|refine xN ?_|refine xO ?_|fail)
   all_goals first
    | exact ⟨_, _, .one (.same (.z)), _, rfl, rfl, fun h => by cases h⟩
    | exact PA.lp (k + 1) xE ⟨⟨hkn, all_succ hp hd ⟨by omega, by omega⟩⟩, by omega⟩
  have hke : k = a.eff.delta.length := by omega
  subst hke
  rw [List.take_length] at hd
  repeat' (first|refine Sp.h ?_|refine Lk.r rfl ?_|refine Rf.mk rfl ?_|refine xB ?_|(refine Im.mk ?_;intro _)|refine xT ?_|fail)
  refine CA.loop (fun k : Nat => ⟨[(9, tbls (mrgF m)), (78, .sl 5 m.acts actC), (79, it (m.acts.length : Nat)), (80, it i), (103, .sl 3 a.eff.updates updC), (104, it (a.eff.updates.length : Nat)), (105, it k)], []⟩) (fun k => k ≤ a.eff.updates.length ∧ ∀ u ∈ a.eff.updates.take k, ∀ (i : Nat) t, u.2.1 = i → (mrgF m)[i]? = some t → FitO t u) (fun k => a.eff.updates.length - k) 0 xE ⟨Nat.zero_le _, by simp⟩ ?_
  rintro k ⟨hk, hb⟩
  by_cases hkn : k < a.eff.updates.length
  ·obtain ⟨u, hu⟩ := get_of hkn
   obtain ⟨u1, u2⟩ := heo.u u (List.mem_of_getElem? hu)
   obtain ⟨t, ht⟩ := get_of (l := mrgF m) (i := u.2.1.toNat) (by omega)
   obtain ⟨uk, uc, uv⟩ := u
   simp only at u1 u2 ht
   (repeat' (first|(show CA _ _ (Code.region 29 _ _) _ _;apply Stopped.out)|refine Sp.h ?_|refine Lk.r rfl ?_|refine Rf.mk rfl ?_|refine xA ?_|(refine All.mk ?_;intro _)|refine xT ?_|refine xI ?_|(apply Ix.r;(focus assumption);(focus omega))|refine Ch.l ⟨rfl, rfl⟩ ?_|(apply SetAsk.r;focus repeat' constructor)|refine xN ?_|fail));any_goals apply Stopped.mk
   rename_i b17 b18
   refine CA.cut (fun b : Bool => ⟨[(9, tbls (mrgF m)), (17, pm b17), (18, pm b18), (19, bl b), (78, .sl 5 m.acts actC), (79, it (m.acts.length : Nat)), (80, it i), (103, .sl 3 a.eff.updates updC), (104, it (a.eff.updates.length : Nat)), (105, it k)], [blkR b17 153 (updC (uk, uc, uv)), blkR b18 157 (tblC t)]⟩) (fun b => b = true ↔ isSt t.kind) ?_ ?_
   ·repeat' (first|refine Sp.h ?_|refine Lk.r rfl ?_|refine Rf.mk rfl ?_|refine xA ?_|refine xB ?_|(refine Bd.mk ?_ ?_ <;> intro _)|refine xT ?_|fail)
    all_goals exact PA.lp _ xE (by unfold isSt;simp;omega)
   rintro b hb1
   simp only
   (repeat' (first|(show CA _ _ (Code.region 30 _ _) _ _;apply Stopped.out)|refine Sp.h ?_|fail));any_goals apply Stopped.mk
   refine CA.cut (fun c : Bool => ⟨[(9, tbls (mrgF m)), (78, .sl 5 m.acts actC), (79, it (m.acts.length : Nat)), (80, it i), (103, .sl 3 a.eff.updates updC), (104, it (a.eff.updates.length : Nat)), (105, it k), (151, bl c)], []⟩) (fun c => c = false → FitO t (uk, uc, uv)) ?_ ?_
   ·have hf : FitO t (uk, uc, uv) ↔ (b = true ↔ uk = 0 ∨ uk = 1) ∧ (b ≠ true → t.lo ≤ uv ∧ uv ≤ t.hi) := by unfold FitO;simp only;rw [← hb1]
    cases b
    all_goals repeat' (first|refine Sp.h ?_|refine Lk.r rfl ?_|refine Rf.mk rfl ?_|refine xA ?_|refine xB ?_|(refine Bd.mk ?_ ?_ <;> intro _)|refine xT ?_|fail)
    all_goals exact PA.lp _ xE (by rw [hf];first|(simp;done)|(simp;omega)|(simp at *;omega))
   rintro c hc
   simp only
   cases c
   ·repeat' (first|refine Sp.h ?_|refine Lk.r rfl ?_|refine Rf.mk rfl ?_|refine xO ?_|fail)
    refine PA.lp (k + 1) xE ⟨⟨hkn, all_succ hu hb fun j t' hj ht' => ?_⟩, by omega⟩
    have : uc.toNat = j := by simp only at hj;omega
    rw [this] at ht
    rw [ht] at ht';cases ht'
    exact hc rfl
   ·repeat' (first|refine Sp.h ?_|refine Lk.r rfl ?_|refine Rf.mk rfl ?_|refine xN ?_|fail)
    exact ⟨_, _, .one (.same (.z)), _, rfl, rfl, fun h => by cases h⟩
  have hke : k = a.eff.updates.length := by omega
  subst hke
  rw [List.take_length] at hb
  repeat' (first|refine Sp.h ?_|refine Lk.r rfl ?_|refine Rf.mk rfl ?_|refine xB ?_|refine xO ?_|fail)
  exact PA.lp (i + 1) xE ⟨⟨hin, all_succ hx hac ⟨hb, hd⟩⟩, by omega⟩
 have hie : i = m.acts.length := by omega
 subst hie
 rw [List.take_length] at hac
 repeat' (first|refine Sp.h ?_|refine Lk.r rfl ?_|refine Rf.mk rfl ?_|refine xB ?_|refine xN ?_|fail)
 exact ⟨_, _, .one (.same (.z)), _, rfl, rfl, fun _ => ⟨⟨⟨hm, hf, hc, fun a h => (hac a h).1, hev⟩, by omega, hln, ha, fun a h => (hac a h).2⟩, by omega⟩⟩
end Go.Proofs.YtmllihbhphnolaaGreat
namespace Go.Proofs.YtmllihbhphnolaaGreat
open Go Go.CF
set_option maxRecDepth 20000
set_option maxHeartbeats 4000000 in
theorem within_p {l : List EvS} {c : List Int} (hc : ClosedE l) (hl : l.length ≤ 1000) (hv : ValC c) (hcl : c.length = n0 l) : CallP Tryz.prog 45 [evs l, ints c] (.tup [evs (cutL l (partC l c)), ints (partC l c)]) := by
 have hk := clock_z (n := c.length) (l := l) hv.2 hc fun e he => by rw [(hc.2.2.1 e he).2, hcl]
 have hkv : ValC (clkE c.length l) := clkE_val hv.2 fun e he => formed_num (hc.2.2.1 e he).1
 have hm := meet_z2 hv hkv (by rw [clkE_len])
 obtain ⟨p1, p2⟩ := part1_ok hc hv hcl
 have hcu := cut_z l (part1 l c) hl
 have hcu2 := cut_z l (partC l c) hl
 have hxs : ∀ x ∈ cutL l (part1 l c), ValC x.past ∧ x.past.length = n0 l := fun x hx => by
  have := hc.2.2.1 x (mem_cut.1 hx).1
  exact ⟨this.1.1, this.2⟩
 obtain ⟨xs, hxse⟩ : ∃ xs, xs = cutL l (part1 l c) := ⟨_, rfl⟩
 have hpc : partC l c = xs.foldl (fun k x => joinC k x.past) (part1 l c) := by rw [hxse];rfl
 rw [← hxse] at hxs hcu
 refine CallA.of pg ord45 Tryz.func45 rfl Tryz.ntmps45 Tryz.results45 rfl fun h0 G0 O0 => ?_
 repeat' (first|refine Sp.h ?_|refine Lk.r rfl ?_|refine Rf.mk rfl ?_|refine xA ?_|(refine Im.mk ?_;intro _)|(refine All.mk ?_;intro _)|(apply Fk.r;focus repeat' first|infer_instance|constructor)|refine Rf.mk ⟨rfl, rfl, rfl⟩ ?_|(apply Cl.p (hk);(focus repeat' (first|exact Lend.nil|apply Lend.keep|fail))))
 (apply Cl.fz;(focus repeat' (first|exact FZ.nil|(apply FZ.fz;(focus repeat constructor);(focus first|omega|decide|exact Nat.le_of_ble_eq_true rfl|(simp <;> omega)))|apply FZ.agg|apply FZ.same)))
 (apply Cl.p (hm);(focus repeat' (first|exact Lend.nil|(apply Lend.mp;(focus rfl))|fail)))
 rw [show zipC min c (clkE c.length l) = part1 l c from rfl]
 repeat' (first|refine Sp.h ?_|refine Lk.r rfl ?_|refine Rf.mk rfl ?_|(refine Im.mk ?_;intro _)|(apply Cl.p (hcu);(focus repeat' (first|exact Lend.nil|apply Lend.keep|fail))))
 refine CA.loop (fun x : Nat × List Int => ⟨[(0, evs l), (1, ints x.2), (28, evs xs), (29, it (xs.length : Nat)), (30, it x.1)], []⟩) (fun x => x.1 ≤ xs.length ∧ x.2 = (xs.take x.1).foldl (fun k x => joinC k x.past) (part1 l c)) (fun x => xs.length - x.1) (0, part1 l c) xE ⟨Nat.zero_le _, rfl⟩ ?_
 rintro ⟨i, k⟩ ⟨hi, hk⟩
 simp only at hi hk
 simp only
 obtain ⟨f1, f2, -⟩ := fold_has (xs.take i) (part1 l c) (fun x hx => hxs x (List.mem_of_mem_take hx)) p1 p2
 rw [← hk] at f1 f2
 by_cases hin : i < xs.length
 ·obtain ⟨e, he⟩ := get_of hin
  obtain ⟨g1, g2⟩ := hxs e (List.mem_of_getElem? he)
  have hj := join_z2 f1 g1 (by omega)
  repeat' (first|refine Sp.h ?_|refine Lk.r rfl ?_|refine Rf.mk rfl ?_|refine xA ?_|(refine All.mk ?_;intro _)|refine xT ?_|refine xI ?_|refine Ch.l ⟨rfl, rfl⟩ ?_|(apply SetAsk.r;focus repeat' constructor)|(apply Fk.r;focus repeat' first|infer_instance|constructor)|refine xN ?_|refine Rf.mk ⟨rfl, rfl, rfl⟩ ?_|fail)
  (apply Cl.fz;(focus repeat' (first|exact FZ.nil|(apply FZ.fz;(focus repeat constructor);(focus first|omega|decide|exact Nat.le_of_ble_eq_true rfl|(simp <;> omega)))|apply FZ.agg|apply FZ.same)))
  (apply Cl.p (hj);(focus repeat' (first|exact Lend.nil|(apply Lend.mp;(focus rfl))|fail)))
  repeat' (first|refine Sp.h ?_|refine Lk.r rfl ?_|refine Rf.mk rfl ?_|refine xO ?_|fail)
  exact PA.lp (i + 1, joinC k e.past) xE ⟨⟨hin, by simp only;rw [List.take_add_one, he, List.foldl_append, ← hk];rfl⟩, by simp only;omega⟩
 ·have hie : i = xs.length := by omega
  subst hie
  rw [List.take_length, ← hpc] at hk
  subst hk
  repeat' (first|refine Sp.h ?_|refine Lk.r rfl ?_|refine Rf.mk rfl ?_|refine xB ?_|refine xN ?_|(apply Cl.p (hcu2);(focus repeat' (first|exact Lend.nil|apply Lend.keep|fail))))
  exact Fin.p rfl rfl
theorem dlist_o (b : Nat) (vc : Value) (mb : Nat) (c : List Int) (H : List (List Int × EvS)) {N : Nat} (h : HldOK N H) : CallA Tryz.prog 175 [pm b] [bufB b vc mb, clkR vc c, heldR mb H] fun r own => ∃ w, r = .ow w ∧ own = [eR w (ordE (H.map (·.2))), bufB b vc mb, clkR vc c, heldR mb H] := by
 refine CallA.of pg ord175 Tryz.func175 rfl Tryz.ntmps175 Tryz.results175 rfl fun h0 G0 O0 => ?_
 repeat' (first|refine Sp.h ?_|refine Lk.r rfl ?_|refine Rf.mk rfl ?_|(refine All.mk ?_;intro _)|refine xT ?_|refine xM ?_|fail)
 rename_i r
 refine CA.nilOwn 3 37 13 evC rfl fun v0 => ?_
 refine CA.loop (fun x : List (List Int × EvS) × List EvS × Value × Option (List Int × EvS) => ⟨[(3, .ow x.2.2.1), (10, pm r)], [itcR Tryz.prog mb r 53 H x.1 evA' x.2.2.2, arrR x.2.2.1 37 13 x.2.1 evC, bufB b vc mb, clkR vc c]⟩)
  (fun x => (x.2.1 ++ x.1.map (·.2)).Perm (H.map (·.2))) (fun x => x.1.length) (H, [], v0, none) xE (List.Perm.refl _) ?_
 rintro ⟨rem, L, v, cur⟩ hp
 simp only at hp
 have hlen := hp.length_eq
 simp only [List.length_append, List.length_map] at hlen
 have hH := h.len
 repeat' (first|refine Sp.h ?_|refine Lk.r rfl ?_|refine Rf.mk rfl ?_|(apply TkJ.r;(focus repeat constructor))|(apply NxK.mk)|fail)
 ·intro p rem' hpr
  have hmem : p ∈ rem := hpr.mem_iff.1 (by simp)
  have hpm : p.2 ∈ H.map (·.2) := hp.mem_iff.1 (List.mem_append_right _ (List.mem_map_of_mem hmem))
  obtain ⟨p0, hp0, hp1⟩ := List.mem_map.1 hpm
  have hcl := dclone_p p.2 (by have := h.fm p0 hp0;rw [hp1] at this;omega)
  repeat' (first|refine Sp.h ?_|refine Lk.r rfl ?_|refine Rf.mk rfl ?_|refine xP ?_|(refine All.mk ?_;intro _)|refine xU ?_|refine xT ?_|refine Ce.r ?_|refine Ch.l ⟨rfl, rfl⟩ ?_|(apply SetAsk.r;focus repeat' constructor)|(apply Fk.r;focus repeat' first|infer_instance|constructor)|refine xN ?_|refine Rf.mk ⟨rfl, rfl⟩ ?_|refine Rf.mk ⟨rfl, rfl, rfl⟩ ?_|(apply Mp.lit;(focus repeat (first|exact MpL.nil|(apply MpL.cons;(focus rfl))|(apply MpL.inv;(focus repeat constructor);(focus infer_instance)))))|(apply TkE.r;(focus repeat constructor))|(apply Cl.p (hcl);(focus repeat' (first|exact Lend.nil|apply Lend.keep|fail))))
  refine PA.lp (rem', L ++ [p.2], _, some p) xE ⟨?_, ?_⟩
  ·simp only
   rw [List.append_assoc]
   refine List.Perm.trans (List.Perm.append_left L ?_) hp
   simpa using hpr.map (·.2)
  ·have := hpr.length_eq
   simp only [List.length_cons] at this ⊢
   omega
 ·intro hn
  subst hn
  simp only [List.map_nil, List.append_nil] at hp
  have hu : Uniq L := uniq_perm hp.symm h.nd
  have hord := order_o L hu (by have := hp.length_eq;simp at this;omega)
  have hoe : ordE L = ordE (H.map (·.2)) := ordE_uniq h.nd (hp.symm.trans (ordE_perm L)) (ordE_srt L)
  rw [hoe] at hord
  (repeat' (first|(show CA _ _ (Code.region 6 _ _) _ _;apply Stopped.out)|refine Sp.h ?_|refine Lk.r rfl ?_|fail));any_goals apply Stopped.mk
  apply CA.own (OX.itc (by repeat constructor))
  apply CA.freeze 3
  focus rfl
  focus (repeat constructor)
  focus (simp only [List.length_nil, Nat.add_zero] at hlen;simp only;omega)
  repeat' (first|refine Sp.h ?_|refine Lk.r rfl ?_|refine Rf.mk rfl ?_|fail)
  refine xW (hord) ?_
  rintro _ _ ⟨w, rfl, rfl⟩
  repeat' (first|refine Sp.h ?_|refine Lk.r rfl ?_|refine xN ?_|fail)
  exact ⟨_, [eR w (ordE (H.map (·.2))), bufB b vc mb, clkR vc c, heldR mb H], .one (.same (.z)), _, rfl, rfl⟩
theorem dheld_o (b : Nat) (vc : Value) (mb : Nat) (c : List Int) (H : List (List Int × EvS)) {N : Nat} (h : HldOK N H) : CallA Tryz.prog 116 [pm b] [bufB b vc mb, clkR vc c, heldR mb H] fun r own => ∃ w, r = .ow w ∧ own = [eR w (ordE (H.map (·.2))), bufB b vc mb, clkR vc c, heldR mb H] := by
 have h1 := dlist_o b vc mb c H h
 refine CallA.of pg ord116 Tryz.func116 rfl Tryz.ntmps116 Tryz.results116 rfl fun h0 G0 O0 => ?_
 repeat' (first|refine Sp.h ?_|refine Lk.r rfl ?_|refine Rf.mk rfl ?_|fail)
 refine xW (h1) ?_
 rintro _ _ ⟨w, rfl, rfl⟩
 repeat' (first|refine Sp.h ?_|refine Lk.r rfl ?_|refine xN ?_|fail)
 exact ⟨_, [eR w (ordE (H.map (·.2))), bufB b vc mb, clkR vc c, heldR mb H], .one (.same (.z)), _, rfl, rfl⟩
theorem pheld_o (pb sp bb mb : Nat) (m : ModS) (v vc : Value) (p : PrS) {N : Nat} (h : HldOK N p.H) : CallA Tryz.prog 47 [pm pb] (prR pb sp bb mb m v vc p) fun r own => ∃ w, r = .ow w ∧ own = eR w (hlL p.H) :: prR pb sp bb mb m v vc p := by
 have h1 := dheld_o bb vc mb p.c p.H h
 refine CallA.of pg ord47 Tryz.func47 rfl Tryz.ntmps47 Tryz.results47 rfl fun h0 G0 O0 => ?_
 repeat' (first|refine Sp.h ?_|refine Lk.r rfl ?_|refine Rf.mk rfl ?_|refine xT ?_|fail)
 refine xW (h1) ?_
 rintro _ _ ⟨w, rfl, rfl⟩
 repeat' (first|refine Sp.h ?_|refine Lk.r rfl ?_|refine xN ?_|fail)
 exact ⟨_, eR w (hlL p.H) :: prR pb sp bb mb m v vc p, .one (.same (.z)), _, rfl, rfl⟩
theorem held1_p (k : List Int) (y : EvS) : CallP Tryz.prog 48 [evA' y, .ad [ints k] 0] (bl (decide (¬ HasC k y.rep y.num))) := by
 have h1 := nameR_p y
 have h2 := hasC_p k y.rep y.num
 refine CallA.of pg ord48 Tryz.func48 rfl Tryz.ntmps48 Tryz.results48 rfl fun h0 G0 O0 => ?_
 repeat' (first|refine Sp.h ?_|refine Lk.r rfl ?_|refine Rf.mk rfl ?_|refine OpK.r rfl ?_|(refine All.mk ?_;intro _)|refine xT ?_|refine Ch.l ⟨rfl, rfl⟩ ?_|refine xN ?_|refine xD ?_|(apply Cl.p (h1);(focus ((repeat' (first|exact Lend.nil|apply Lend.keep|fail));done)))|(apply Cl.p (h2);(focus ((repeat' (first|exact Lend.nil|apply Lend.keep|fail));done))))
 refine Fin.p rfl (vb ?_)
 simp
theorem sumC_val {c : List Int} (h : ValC c) : 0 ≤ sumC c ∧ sumC c ≤ 5120 := by
 have := sumC_bnd h c.length (Nat.le_refl _)
 rw [List.take_length] at this
 have := h.2.2
 omega
end Go.Proofs.YtmllihbhphnolaaGreat
namespace Go.Proofs.YtmllihbhphnolaaGreat
open Go Go.CF
set_option maxRecDepth 20000
/-! ### The model -/
def cn8 : ModS := ⟨[], [tC], [⟨#[99]⟩], [⟨0, 0, ⟨[(0, -1)], 0⟩, 0, 0⟩, ⟨0, 0, ⟨[(0, 1)], 9⟩, 0, 0⟩], [⟨⟨#[111]⟩, false, []⟩], [⟨0, [], ⟨[(0, 1)], [], []⟩⟩], []⟩
theorem cn8_a : CallA Tryz.prog 97 [] [] fun r own => ∃ vt vf t1 t2 vc vo d1 va, r = .agg [nl0, .ow vt, .ow vf, .ow vc, .ow vo, .ow va, nl0] ∧ own = [
  arrR va 151 5 [[it 0, nl0, .ow d1, nl0, nl0]] id,
  arrR d1 160 2 [[it 0, it 1]] id,
  arrR vo 227 3 [[sv ⟨#[111]⟩, bl false, nl0]] id,
  arrR vc 225 6 [[it 0, it 0, .ow t1, it 0, it 0, it 0], [it 0, it 0, .ow t2, it 9, it 0, it 0]] id,
  arrR t2 220 2 [[it 0, it 1]] id,
  arrR t1 220 2 [[it 0, it (-1)]] id,
  arrR vf 9 1 [[sv ⟨#[99]⟩]] id,
  arrR vt 157 6 [[sv ⟨#[99]⟩, it 1, nl0, it 0, it 9, it 0]] id] := by
 refine CallA.of pg ord97 Tryz.func97 rfl Tryz.ntmps97 Tryz.results97 rfl fun h0 G0 O0 => ?_
 repeat' (first|refine Sp.h ?_|refine Lk.r rfl ?_|refine Rf.mk rfl ?_|(refine All.mk ?_;intro _)|refine xT ?_|(apply SetAsk.r;focus repeat' constructor)|(apply Fk.r;focus repeat' first|infer_instance|constructor)|refine xN ?_|refine Rf.mk ⟨rfl, rfl, rfl⟩ ?_|fail)
 exact ⟨_, _, .one (.same (.z)), _, _, _, _, _, _, _, _, rfl, rfl⟩
theorem cn8_p : CallP Tryz.prog 97 [] (mdl cn8) := by
 refine CallA.fx cn8_a ?_
 rintro _ _ ⟨vt, vf, t1, t2, vc, vo, d1, va, rfl, rfl⟩
 repeat' (first
  | exact FX.nil
  | (apply FX.sl;(focus repeat constructor);(focus exact Nat.le_of_ble_eq_true rfl))
  | apply FX.agg
  | (apply FX.le;(focus first|exact ALe.nil|exact ALe.refl _)))
theorem cn8_mrg : mrgF cn8 = [] := by simp [mrgF, mrgL, cn8, isStrict, tC]
theorem cn8_str : strF cn8 = 1 := by simp [strF, strN, cn8, isStrict, szF, prodF, tC]
theorem cn8_lay : LayOK cn8.sorts cn8.tables := by
 refine ⟨by simp [cn8], fun x hx => by simp [cn8] at hx, by simp [cn8], fun t ht => ?_⟩
 simp only [cn8, List.mem_cons, List.not_mem_nil, or_false] at ht
 subst ht
 simp [TabOK, ColOK, Sound, cn8, tC]
theorem cn8_ok : MOK cn8 := by
 refine ⟨cn8_lay, by simp [cn8], by simp [cn8], fun a ha => ?_, by rw [cn8_str];decide, by rw [cn8_mrg];decide⟩
 simp only [cn8, List.mem_cons, List.not_mem_nil, or_false] at ha
 subst ha
 refine ⟨by simp, by simp, by simp, fun p hp => ?_, fun p hp => by simp at hp⟩
 simp only [List.mem_cons, List.not_mem_nil, or_false] at hp
 subst hp
 rw [cn8_str];decide
/-! ### Three events -/
def xa : EvS := ⟨0, 1, 1, [0, 0], 0, 0, 0, 0, 0, 0, 0, 0, 1⟩
def xc : EvS := ⟨0, 2, 2, [1, 0], 0, 0, 0, 0, 0, 0, 0, 0, 2⟩
def xb : EvS := ⟨1, 1, 1, [0, 0], 0, 0, 0, 0, 0, 0, 0, 0, 1⟩
abbrev x3 : List EvS := [xa, xc, xb]
theorem xa_f : FormedE xa := ⟨val2 0 0 (by decide) (by decide), by decide, ⟨0, rfl, rfl⟩, by decide, by unfold Btw xa;decide, .inl ⟨rfl, by unfold Sub0 Btw xa;decide, by unfold GiveZ xa;decide⟩⟩
theorem xc_f : FormedE xc := ⟨val2 1 0 (by decide) (by decide), by decide, ⟨1, rfl, rfl⟩, by decide, by unfold Btw xc;decide, .inl ⟨rfl, by unfold Sub0 Btw xc;decide, by unfold GiveZ xc;decide⟩⟩
theorem xb_f : FormedE xb := ⟨val2 0 0 (by decide) (by decide), by decide, ⟨0, rfl, rfl⟩, by decide, by unfold Btw xb;decide, .inl ⟨rfl, by unfold Sub0 Btw xb;decide, by unfold GiveZ xb;decide⟩⟩
theorem x3_mem {e : EvS} (h : e ∈ x3) : e = xa ∨ e = xc ∨ e = xb := by simpa using h
theorem x3_f {e : EvS} (h : e ∈ x3) : FormedE e := by
 rcases x3_mem h with rfl|rfl|rfl
 ·exact xa_f
 ·exact xc_f
 ·exact xb_f
theorem x3_uniq : Uniq x3 := uniq_pair.2 (by simp [nm, xa, xc, xb])
theorem x3_closed : ClosedE x3 := by
 refine ⟨by simp, x3_uniq, fun e he => ⟨x3_f he, by rcases x3_mem he with rfl|rfl|rfl <;> rfl⟩, fun e he r n hr i h1 h2 => ?_⟩
 rcases x3_mem he with rfl|rfl|rfl
 ·have := List.mem_of_getElem? hr;simp [xa] at this;omega
 ·match r with
  | 0 =>
   simp [xc] at hr
   refine ⟨xa, by simp, rfl, by show (1 : Int) = i;omega, ⟨(alike2 _ _).2 ⟨xa_f.1, xc_f.1, rfl⟩, ins_2 (by decide) (by decide)⟩, by decide⟩
  | 1 => simp [xc] at hr;omega
  | r + 2 => simp [xc] at hr
 ·have := List.mem_of_getElem? hr;simp [xb] at this;omega
theorem x3_suit : SuitS cn8 [0] x3 := by
 refine ⟨⟨cn8_ok, ⟨by simp, fun e he => by rcases x3_mem he with rfl|rfl|rfl <;> simp [xa, xb, xc]⟩, x3_closed, fun a ha u hu i t _ ht => ?_, fun e he => ?_⟩, by simp, by rw [cn8_str];rfl, by simp, fun a ha p hp => ?_⟩
 ·rw [cn8_mrg] at ht;simp at ht
 ·exact ⟨x3_f he, by rcases x3_mem he with rfl|rfl|rfl <;> rfl, fun _ => by rcases x3_mem he with rfl|rfl|rfl <;> decide⟩
 ·simp only [cn8, List.mem_cons, List.not_mem_nil, or_false] at ha
  subst ha
  simp at hp;subst hp;decide
theorem no_dep {e : EvS} (h : e.past = [0, 0]) (d : EvS) : ¬ HasC e.past d.rep d.num := fun ⟨_, _, h1, x, hx, h2⟩ => by
 rw [h] at hx
 have := List.mem_of_getElem? hx
 simp at this
 omega
theorem x3_ab : ExtO x3 [xa, xc] := by
 have h1 : ExtO x3 [xa] := (ExtO.nil x3).snoc (e := xa) (by simp) (by simp) fun d _ hh => absurd hh (no_dep rfl d)
 refine h1.snoc (e := xc) (by simp) (by simp [xa, xc]) fun d hd hh => ?_
 rcases x3_mem hd with rfl|rfl|rfl
 ·exact List.mem_cons_self
 ·obtain ⟨_, _, _, x, hx, h2⟩ := hh
  simp [xc] at hx h2;omega
 ·obtain ⟨_, _, _, x, hx, h2⟩ := hh
  simp [xc, xb] at hx h2;omega
theorem x3_b : ExtO x3 [xb] := (ExtO.nil x3).snoc (e := xb) (by simp) (by simp) fun d _ hh => absurd hh (no_dep rfl d)
end Go.Proofs.YtmllihbhphnolaaGreat
namespace Go.Proofs.YtmllihbhphnolaaGreat
open Go Go.CF
set_option maxRecDepth 20000
structure X3R (pa pb : PrS) (Xa Xb : List EvS) (a' b' : PrS) : Prop where
 ta : takeF cn8 [xa, xc] (newP cn8 2 [0]) = (0, pa, Xa)
 tb : takeF cn8 [xb] (newP cn8 2 [0]) = (0, pb, Xb)
 la : Xa.length = 2
 lb : Xb.length = 1
 rk : RecK cn8 2 200 10 pa pb 2 3 a' b'
 ca : a'.s.now.clock = [2, 1]
 sb : b'.s.now.state = [3]
theorem x3_run : ∃ pa pb Xa Xb a' b', X3R pa pb Xa Xb a' b' := by
 have hs := x3_suit
 obtain ⟨Xa, pa, ta1, ta2⟩ := takeF_inv (l' := [xa, xc]) hs (fun e he => by simp at he;rcases he with rfl|rfl <;> simp) (newP_inv hs)
 obtain ⟨Xb, pb, tb1, tb2⟩ := takeF_inv (l' := [xb]) hs (fun e he => by simp at he;subst he;simp) (newP_inv hs)
 obtain ⟨a1, a2, a3⟩ := tak_all hs rfl ta2 (S := [xa, xc]) x3_ab (fun e => Iff.rfl)
 obtain ⟨b1, b2, b3⟩ := tak_all hs rfl tb2 (S := [xb]) x3_b (fun e => Iff.rfl)
 have ia := ta2.inv
 have ib := tb2.inv
 have ea := ta2.evs
 have eb := tb2.evs
 rw [List.nil_append] at ia ib
 have ea' : pa.s.evs = Xa := ea
 have eb' : pb.s.evs = Xb := eb
 have hF : Free cn8 [0] x3 Xa Xb pa pb := ⟨ia, ib, a3, b3, fun e h _ => by rw [ea'];exact h, fun e h _ => by rw [eb'];exact h⟩
 obtain ⟨R, S, a', b', Ya, Yb, r1, r2, r3, r4⟩ := rec_ex hs 10 (by decide) _ Xa Xb pa pb (Nat.le_refl _) ia ib hF.ca hF.cb
 obtain ⟨c1, c2, _, _⟩ := rec_count hs 10 (by decide) r1 Xa Xb hF
 have o1 : offL Xa Xb = Xb := List.filter_eq_self.2 fun e he => by
  have := (b1 e).1 he
  simp only [List.mem_singleton] at this
  subst this
  refine decide_eq_true fun h9 => ?_
  have := (a1 _).1 h9
  simp [xa, xb, xc] at this
 have o2 : offL Xb Xa = Xa := List.filter_eq_self.2 fun e he => by
  refine decide_eq_true fun h9 => ?_
  have h8 := (b1 e).1 h9
  simp only [List.mem_singleton] at h8
  subst h8
  have := (a1 _).1 he
  simp [xa, xb, xc] at this
 rw [o1, o2, a2, b2] at c1 c2
 have hmem : ∀ e, e ∈ Xa ++ Ya ↔ e ∈ x3 := fun e => by
  constructor
  ·exact fun h => r4.ia.buf.ext.sub e h
  ·intro h
   rcases x3_mem h with rfl|rfl|rfl
   ·exact List.mem_append_left _ ((a1 _).2 (by simp))
   ·exact List.mem_append_left _ ((a1 _).2 (by simp))
   ·exact (r4.same _).2 (List.mem_append_left _ ((b1 _).2 (by simp)))
 have hp1 : (Xa ++ Ya).Perm x3 := (List.perm_ext_iff_of_nodup (extO_nodup r4.ia.buf.ext) (uniq_nodupE x3_uniq)).2 hmem
 have hp2 : (Xb ++ Yb).Perm x3 := (List.perm_ext_iff_of_nodup (extO_nodup r4.ib.buf.ext) (uniq_nodupE x3_uniq)).2 fun e => (r4.same e).symm.trans (hmem e)
 refine ⟨pa, pb, Xa, Xb, a', b', ta1, tb1, a2, b2, ?_, ?_, ?_⟩
 ·have e1 : R = 2 := c1
  have e2 : S = 3 := c2
  rw [e1, e2] at r1
  exact r1
 ·rw [r4.ia.sto.clock, clkE_perm hp1];rfl
 ·rw [r4.ib.sto.state, state_perm hp2];rfl
set_option maxHeartbeats 8000000 in
theorem awake38_p : CallP Tryz.prog 25 [] (bl true) := by
 obtain ⟨pa, pb, Xa, Xb, a', b', hR⟩ := x3_run
 have hc := cn8_p
 have hs := x3_suit
 have hpe := peer_a cn8 2 [0] cn8_ok (by decide) (by rw [cn8_str];rfl) (insS_ld (by simp))
 have f0 := newP_fine (m := cn8) (n := 2) (ld := [0]) (by decide) (by rw [cn8_str];rfl)
 have h1 := fun pb' sp bb mb v vc => take_a pb' sp bb mb cn8 v vc 2 0 (newP cn8 2 [0]) [xa, xc] cn8_ok f0.ok (by decide) (by decide)
 have h2 := fun pb' sp bb mb v vc => take_a pb' sp bb mb cn8 v vc 2 0 (newP cn8 2 [0]) [xb] cn8_ok f0.ok (by decide) (by decide)
 simp only [hR.ta, hR.tb] at h1 h2
 have h3 := fun p1 s1 q1 m1 v1 w1 p2 s2 q2 m2 v2 w2 => recon_a p1 s1 q1 m1 v1 w1 p2 s2 q2 m2 v2 w2 cn8 2 200 pa pb a' b' 10 2 3 cn8_ok hR.rk (by decide) (by decide) (by decide) (by decide) (by decide)
 have hla := hR.la
 have hlb := hR.lb
 have e21 := equal_p [2, 1] [2, 1]
 have e3 := equal_p [3] [3]
 rw [decide_eq_true rfl] at e21 e3
 refine CallA.of pg ord25 Tryz.func25 rfl Tryz.ntmps25 Tryz.results25 rfl fun h0 G0 O0 => ?_
 repeat' (first|refine Sp.h ?_|refine Lk.r rfl ?_|refine Rf.mk rfl ?_|(refine All.mk ?_;intro _)|(apply Fk.r;focus repeat' first|infer_instance|constructor)|refine Rf.mk ⟨rfl, rfl, rfl⟩ ?_|(apply Cl.p (hc);(focus repeat' (first|exact Lend.nil|fail))))
 apply Cl.fx [mdl cn8, it 2, ints [0]]
 focus (repeat' (first|exact FX.nil|(apply FX.sl;(focus repeat constructor);(focus exact Nat.le_of_ble_eq_true rfl))|(apply FX.le;(focus first|exact ALe.refl _|exact ALe.nil))|apply FX.agg|apply FX.tup))
 refine xW (hpe) ?_
 rintro _ _ ⟨p1, s1, q1, m1, v1, w1, rfl, rfl⟩
 repeat' (first|refine Sp.h ?_|refine Lk.r rfl ?_|refine Rf.mk rfl ?_|(refine All.mk ?_;intro _)|(apply Fk.r;focus repeat' first|infer_instance|constructor)|refine Rf.mk ⟨rfl, rfl, rfl⟩ ?_|(apply Cl.p (hc);(focus repeat' (first|exact Lend.nil|fail))))
 apply Cl.fx [mdl cn8, it 2, ints [0]]
 focus (repeat' (first|exact FX.nil|(apply FX.sl;(focus repeat constructor);(focus exact Nat.le_of_ble_eq_true rfl))|(apply FX.le;(focus first|exact ALe.refl _|exact ALe.nil))|apply FX.agg|apply FX.tup))
 refine xW (hpe) ?_
 rintro _ _ ⟨p2, s2, q2, m2, v2, w2, rfl, rfl⟩
 repeat' (first|refine Sp.h ?_|refine Lk.r rfl ?_|refine Rf.mk rfl ?_|refine xB ?_|(refine All.mk ?_;intro _)|(apply Fk.r;focus repeat' first|infer_instance|constructor)|refine Rf.mk ⟨rfl, rfl, rfl⟩ ?_|fail)
 apply Cl.fx [pm p1, evs [xa, xc]]
 focus (repeat' (first|exact FX.nil|(apply FX.sl;(focus repeat constructor);(focus exact Nat.le_of_ble_eq_true rfl))|(apply FX.le;(focus first|exact ALe.refl _|exact ALe.nil))|apply FX.agg|apply FX.tup))
 have h1' := h1 p1 s1 q1 m1 v1 w1
 refine xW (h1') ?_
 rintro _ _ ⟨rfl, v1', rfl⟩
 repeat' (first|refine Sp.h ?_|refine Lk.r rfl ?_|refine Rf.mk rfl ?_|(refine All.mk ?_;intro _)|(apply Fk.r;focus repeat' first|infer_instance|constructor)|refine Rf.mk ⟨rfl, rfl, rfl⟩ ?_|fail)
 apply Cl.fx [pm p2, evs [xb]]
 focus (repeat' (first|exact FX.nil|(apply FX.sl;(focus repeat constructor);(focus exact Nat.le_of_ble_eq_true rfl))|(apply FX.le;(focus first|exact ALe.refl _|exact ALe.nil))|apply FX.agg|apply FX.tup))
 have h2' := h2 p2 s2 q2 m2 v2 w2
 refine xW (h2') ?_
 rintro _ _ ⟨rfl, v2', rfl⟩
 have h3' := h3 p1 s1 q1 m1 v1' w1 p2 s2 q2 m2 v2' w2
 repeat' (first|refine Sp.h ?_|refine Lk.r rfl ?_|refine Rf.mk rfl ?_|fail)
 refine xW (h3') ?_
 rintro _ _ ⟨rfl, v1, v2, rfl⟩
 have g1 := pstore_a p1 s1 q1 m1 cn8 v1 w1 a'
 have g2 := pstore_a p2 s2 q2 m2 cn8 v2 w2 b'
 have g3 := sclock_p s1 cn8 a'.s.base v1 a'.s.now (by rw [hR.ca];decide)
 have g4 := sstate_p s2 cn8 b'.s.base v2 b'.s.now (by rw [hR.sb];decide)
 rw [hR.ca] at g3
 rw [hR.sb] at g4
 repeat' (first|refine Sp.h ?_|refine Lk.r rfl ?_|refine Rf.mk rfl ?_|refine xA ?_|(refine Im.mk ?_;intro _)|fail)
 refine xW (g1) ?_
 rintro _ _ ⟨rfl, rfl⟩
 repeat' (first|refine Sp.h ?_|refine Lk.r rfl ?_|refine Rf.mk rfl ?_|refine xA ?_|fail)
 refine xW (g3) ?_
 rintro _ _ ⟨rfl, rfl⟩
 repeat' (first|refine Sp.h ?_|refine Lk.r rfl ?_|refine Rf.mk rfl ?_|refine xA ?_|(refine All.mk ?_;intro _)|(apply Fk.r;focus repeat' first|infer_instance|constructor)|refine Rf.mk ⟨rfl, rfl, rfl⟩ ?_|fail)
 (apply Cl.lend (e21);(focus repeat' (first|exact Lend.nil|apply Lend.keep|(apply Lend.lendm;(focus repeat constructor);(focus rfl);(focus first|omega|decide|(simp;omega)|exact Nat.le_of_ble_eq_true rfl))|fail)))
 repeat' (first|refine Sp.h ?_|refine Lk.r rfl ?_|refine Rf.mk rfl ?_|refine xA ?_|fail)
 refine xW (g2) ?_
 rintro _ _ ⟨rfl, rfl⟩
 repeat' (first|refine Sp.h ?_|refine Lk.r rfl ?_|refine Rf.mk rfl ?_|fail)
 refine xW (g4) ?_
 rintro _ _ ⟨rfl, rfl⟩
 repeat' (first|refine Sp.h ?_|refine Lk.r rfl ?_|refine Rf.mk rfl ?_|(refine All.mk ?_;intro _)|(apply Fk.r;focus repeat' first|infer_instance|constructor)|refine Rf.mk ⟨rfl, rfl, rfl⟩ ?_|fail)
 (apply Cl.lend (e3);(focus repeat' (first|exact Lend.nil|apply Lend.keep|(apply Lend.lendm;(focus repeat constructor);(focus rfl);(focus first|omega|decide|(simp;omega)|exact Nat.le_of_ble_eq_true rfl))|fail)))
 repeat' (first|refine Sp.h ?_|refine Lk.r rfl ?_|refine xN ?_|fail)
 all_goals exact Fin.p rfl rfl
end Go.Proofs.YtmllihbhphnolaaGreat
namespace Go.Proofs.YtmllihbhphnolaaGreat
open Go Go.CF
set_option maxRecDepth 20000
abbrev u8 (x : Int) : AV := .val (.int .u8 x)
end Go.Proofs.YtmllihbhphnolaaGreat
namespace Go.Proofs.YtmllihbhphnolaaGreat
open Go Go.CF
set_option maxRecDepth 20000
def hldO : Nat → Ord × (Nat → Cls) := fun id => bif Nat.beq id 6 then (.one 0 (.one 1 (.one 2 (.one 3 (.one 6 (.one 7 (.one 8 (.alt 4 (.one 5 (.one 9 (.one 10 (.one 11 .done)))) (.alt 5 (.one 4 (.one 9 (.one 10 (.one 11 .done)))) (.none))))))))), clOf [.read, .pure, .pure, .pure, .loud, .ext, .pure, .pure, .pure, .loud, .pure, .pure]) else (.done, clOf [])
theorem szS_bnd {N : Nat} : ∀ (l : List SpS), (∀ s ∈ l, okSp N s) → ∀ i, 0 ≤ szS (l.take i) ∧ szS (l.take i) ≤ szS l
 | [], _, i => by simp [szS]
 | s :: l, h, 0 => by
  obtain ⟨h1, h2⟩ := szS_bnd l (fun x hx => h x (List.mem_cons_of_mem _ hx)) l.length
  obtain ⟨_, _, _, h3, _⟩ := h s List.mem_cons_self
  rw [List.take_length] at h1
  simp only [List.take_zero, szS]
  omega
 | s :: l, h, i + 1 => by
  obtain ⟨h1, h2⟩ := szS_bnd l (fun x hx => h x (List.mem_cons_of_mem _ hx)) i
  obtain ⟨_, _, _, h3, _⟩ := h s List.mem_cons_self
  simp only [List.take_succ_cons, szS]
  omega
theorem szS_succ {l : List SpS} {i : Nat} {s : SpS} (h : l[i]? = some s) : szS (l.take (i + 1)) = szS (l.take i) + (s.2.2 - s.2.1 + 1) := by
 rw [List.take_add_one, h, Option.toList_some, szS_app]
 simp only [szS]
 omega
set_option maxHeartbeats 16000000 in
theorem held38_p (m : ModS) (ld : List Int) (l : List EvS) (a some : List Int) (most : Int) (hso : ∀ x ∈ some, 0 ≤ x ∧ x ≤ 255) (hmo : 0 ≤ most ∧ most ≤ 255) : CallP Tryz.prog 6 [mdl m, ints ld, evs l, ints a, u8s some, u8 most] (bl true) := by
 have haw := awake38_p
 have hsu := suits38_c m ld l
 refine CallA.of pg hldO Tryz.func6 rfl Tryz.ntmps6 Tryz.results6 rfl fun h0 G0 O0 => ?_
 repeat' (first|refine Sp.h ?_|refine Lk.r rfl ?_|refine Rf.mk rfl ?_|refine xA ?_|(refine All.mk ?_;intro _)|refine xT ?_|refine Ch.l ⟨rfl, rfl⟩ ?_|(apply Cl.p (haw);(focus repeat' (first|exact Lend.nil|fail))))
 rename_i b6
 refine xW (hsu) ?_
 rintro _ _ ⟨s, rfl, rfl, hs⟩
 cases s
 ·repeat' (first|refine Sp.h ?_|refine Lk.r rfl ?_|refine Rf.mk rfl ?_|refine xB ?_|refine xN ?_|fail)
  exact Fin.p rfl rfl
 obtain ⟨hs, hl40⟩ := hs rfl
 obtain ⟨d, hd⟩ := get_of (l := l) (i := 0) hs.ne
 have hn0 : n0 l = d.past.length := by rw [n0, hd];rfl
 have hc := hs.e.2.2.1
 have hm := hs.e.1
 have hnr := n0_rng hc (List.mem_of_getElem? hd)
 have hva := validC_p a
 by_cases hv : ValC a
 rotate_left
 ·rw [decide_eq_false hv] at hva
  repeat' (first|refine Sp.h ?_|refine Lk.r rfl ?_|refine Rf.mk rfl ?_|refine xA ?_|refine xB ?_|refine xN ?_|(apply Cl.p (hva);(focus repeat' (first|exact Lend.nil|apply Lend.keep|fail))))
  all_goals exact Fin.p rfl rfl
 rw [decide_eq_true hv] at hva
 by_cases hal : a.length = n0 l
 rotate_left
 ·have hne : ¬ (a.length : Int) = (d.past.length : Int) := by omega
  repeat' (first|refine Sp.h ?_|refine Lk.r rfl ?_|refine Rf.mk rfl ?_|refine xA ?_|refine xB ?_|(refine Im.mk ?_;intro _)|refine xI ?_|refine xN ?_|(apply Cl.p (hva);(focus repeat' (first|exact Lend.nil|apply Lend.keep|fail))))
  all_goals exact Fin.p rfl rfl
 have hal' : (a.length : Int) = (d.past.length : Int) := by omega
 by_cases h40 : 40 < some.length
 ·repeat' (first|refine Sp.h ?_|refine Lk.r rfl ?_|refine Rf.mk rfl ?_|refine xA ?_|(refine Im.mk ?_;intro _)|refine xI ?_|refine xN ?_|(apply Cl.p (hva);(focus repeat' (first|exact Lend.nil|apply Lend.keep|fail))))
  all_goals exact Fin.p rfl rfl
 have hw := within_p hc (by omega) hv hal
 obtain ⟨k, hk⟩ : ∃ k, k = partC l a := ⟨_, rfl⟩
 have hpk : Part l k := by rw [hk];exact part_ok hc hv hal
 have hek : EvK l k := by rw [hk];exact partC_ev hc hv hal
 rw [← hk] at hw
 (repeat' (first|(show CA _ _ (Code.region 6 _ _) _ _;apply Stopped.out)|refine Sp.h ?_|refine Lk.r rfl ?_|refine Rf.mk rfl ?_|refine xA ?_|refine xB ?_|(refine Im.mk ?_;intro _)|(refine All.mk ?_;intro _)|refine xT ?_|refine xI ?_|refine xV ?_|refine xN ?_|(apply Cl.p (hva);(focus ((repeat' (first|exact Lend.nil|apply Lend.keep|fail));done)))|(apply Cl.p (hw);(focus ((repeat' (first|exact Lend.nil|apply Lend.keep|fail));done)))));any_goals apply Stopped.mk
 apply CA.freezeB 14
 focus rfl
 focus (repeat constructor)
 have hpA : CallA Tryz.prog 29 [mdl m, it (a.length : Nat), ints ld] [] fun r own => ∃ pb sp bb mb v vc, r = pm pb ∧ own = prR pb sp bb mb m v vc (newP m (n0 l) ld) := by rw [hal];exact peer_a m (n0 l) ld hm hnr hs.ln (insS_ld hs.ld)
 obtain ⟨X1, P, t1, t2, t3⟩ := full_take (l' := cutL l k) (p := newP m (n0 l) ld) hs (fun e he => (mem_cut.1 he).1) (newP_inv hs)
 have hpin := part_in hs hpk t2
 have hfP := (newP_fine (m := m) (n := n0 l) (ld := ld) hnr hs.ln).ok
 have hcl := cut_len l k
 have hT := fun p1 s1 q1 m1 v1 w1 => take_a p1 s1 q1 m1 m v1 w1 (n0 l) 0 (newP m (n0 l) ld) (cutL l k) hm hfP hnr.2 (by omega)
 rw [t1] at hT
 refine CA.cut (fun x : (Nat × Nat × Nat × Nat × Value × Value) × Nat × Nat × Nat × Nat × Value × Value => ⟨[(2, evs l), (4, u8s some), (5, u8 most), (13, evs (cutL l k)), (14, .ad [ints k] 0), (15, pm x.1.1), (16, pm x.2.1)], prR x.1.1 x.1.2.1 x.1.2.2.1 x.1.2.2.2.1 m x.1.2.2.2.2.1 x.1.2.2.2.2.2 (newP m (n0 l) ld) ++ prR x.2.1 x.2.2.1 x.2.2.2.1 x.2.2.2.2.1 m x.2.2.2.2.2.1 x.2.2.2.2.2.2 (newP m (n0 l) ld)⟩) (fun _ => True) ?_ ?_
 ·repeat' (first|refine Sp.h ?_|refine Lk.r rfl ?_|refine Rf.mk rfl ?_|refine OpK.r rfl ?_|(refine Im.mk ?_;intro _)|refine xT ?_|refine Ch.l ⟨rfl, rfl⟩ ?_|refine xD ?_|exact trivial|apply RA'.both|(((apply Cl.use (hpA);(focus repeat' (first|exact Lend.nil|apply Lend.keep|fail));(focus (repeat (first|exact Takes.nil|(apply Takes.cons;(focus repeat constructor)))));(focus rfl)));(rintro _ _ ⟨p1, s1, q1, m1, v1, w1, rfl, rfl⟩)))
  all_goals exact PA.lp ((_, _, _, _, _, _), _, _, _, _, _, _) xE trivial
 rintro ⟨⟨p1, s1, q1, m1, v1, w1⟩, p2, s2, q2, m2, v2, w2⟩ _
 simp only
 have hT1 := hT p1 s1 q1 m1 v1 w1
 repeat' (first|refine Sp.h ?_|refine Lk.r rfl ?_|refine Rf.mk rfl ?_|refine xB ?_|fail)
 refine xW (hT1) ?_
 rintro _ _ ⟨rfl, v1', rfl⟩
 repeat' (first|refine Sp.h ?_|refine Lk.r rfl ?_|refine Rf.mk rfl ?_|refine xA ?_|(refine Im.mk ?_;intro _)|fail)
 have hzz : ∀ i, i < some.length → ∃ z e, some[i]? = Option.some z ∧ 0 ≤ z ∧ z ≤ 255 ∧ 0 ≤ z % (l.length : Int) ∧ z % (l.length : Int) < l.length ∧ l[(z % (l.length : Int)).toNat]? = Option.some e := fun i hi => by
  obtain ⟨z, hz⟩ := get_of hi
  obtain ⟨z1, z2⟩ := hso z (List.mem_of_getElem? hz)
  have hne := hs.ne
  have m1 := Int.emod_nonneg z (show (l.length : Int) ≠ 0 by omega)
  have m2 := Int.emod_lt_of_pos z (show 0 < (l.length : Int) by omega)
  obtain ⟨e, he⟩ := get_of (l := l) (i := (z % (l.length : Int)).toNat) (by omega)
  exact ⟨z, e, hz, z1, z2, m1, m2, he⟩
 refine CA.loop (fun x : Nat × PrS × Value => ⟨[(2, evs l), (5, u8 most), (14, .ad [ints k] 0), (15, pm p1), (16, pm p2), (89, u8s some), (90, it (some.length : Nat)), (91, it x.1)], prR p1 s1 q1 m1 m v1' w1 P ++ prR p2 s2 q2 m2 m x.2.2 w2 x.2.1⟩)
  (fun x => x.1 ≤ some.length ∧ InvP m ld l x.2.1.s.evs x.2.1) (fun x => some.length - x.1) (0, newP m (n0 l) ld, v2) xE ⟨Nat.zero_le _, newP_inv hs⟩ ?_
 rintro ⟨i, q, v2'⟩ ⟨hi, hq⟩
 simp only at hi hq
 simp only
 by_cases hin : i < some.length
 ·obtain ⟨z, e, z0, z1, z2, z3, z4, z5⟩ := hzz i hin
  have hel := List.mem_of_getElem? z5
  obtain ⟨X2, q', u1, u2, u3⟩ := full_take (l' := [e]) hs (fun x hx => by rw [List.mem_singleton.1 hx];exact hel) hq
  have hT2 := take_a p2 s2 q2 m2 m v2' w2 (n0 l) 200 q [e] hm (hq.fine hs).ok hnr.2 (by simp)
  rw [u1] at hT2
  repeat' (first|refine Sp.h ?_|refine Lk.r rfl ?_|refine Rf.mk rfl ?_|refine xA ?_|refine xP ?_|(refine Im.mk ?_;intro _)|(refine All.mk ?_;intro _)|refine xI ?_|(apply Ix.r;(focus assumption);(focus omega))|refine Ch.l ⟨rfl, rfl⟩ ?_|(apply Fk.r;focus repeat' first|infer_instance|constructor)|refine Rf.mk ⟨rfl, rfl, rfl⟩ ?_|(apply Cvk.i64;(focus rfl);(focus omega))|fail)
  apply Cl.fx [pm p2, evs [e]]
  focus (repeat' (first|exact FX.nil|(apply FX.sl;(focus repeat constructor);(focus exact Nat.le_of_ble_eq_true rfl))|(apply FX.le;(focus first|exact ALe.refl _|exact ALe.nil))|apply FX.agg|apply FX.tup))
  refine xW (hT2) ?_
  rintro _ _ ⟨rfl, v3, rfl⟩
  repeat' (first|refine Sp.h ?_|refine Lk.r rfl ?_|refine Rf.mk rfl ?_|refine xA ?_|refine xO ?_|fail)
  exact PA.lp (i + 1, q', v3) xE ⟨⟨hin, u3⟩, by simp only;omega⟩
 have hie : i = some.length := by omega
 subst hie
 have hfq := hq.fine hs
 have hfp := t3.fine hs
 have hqc : q.s.now.clock = clkE (n0 l) q.s.evs := hq.sto.clock
 have hqv : ValC q.s.now.clock := hfq.ok.now.clk
 have hql : q.s.now.clock.length = n0 l := hfq.ok.n
 have hHl := hfq.ok.hld.len
 obtain ⟨W, hW⟩ : ∃ W, W = wantsF q.s.now.clock q.H k := ⟨_, rfl⟩
 have hwc := wants_cnt hs hq hpk.val hpk.len
 rw [← hqc, ← hW] at hwc
 obtain ⟨y1, y2, y3⟩ := hwc
 obtain ⟨J, hJ⟩ : ∃ J, J = joinC q.s.now.clock k := ⟨_, rfl⟩
 have hJv : ValC J := by rw [hJ];exact joinC_val hqv hpk.val (by rw [hql, hpk.len])
 have cJ := countP_p J hJv
 have cq := countP_p q.s.now.clock hqv
 have jq := join_z2 hqv hpk.val (by rw [hql, hpk.len])
 rw [← hJ] at jq y3
 have bJ := sumC_val hJv
 have bq := sumC_val hqv
 have hd1 := pheld_o p2 s2 q2 m2 m v2' w2 q hfq.ok.hld
 have hdl := fun w => deleteE_a (p := fun y => decide (¬ HasC k y.rep y.num)) (fun y => held1_p k y) rfl w (hlL q.H) (by rw [hl_len];omega)
 have hcn : ((hlL q.H).filter fun x => !decide (¬ HasC k x.rep x.num)).length = (hlL q.H).countP fun e => decide (HasC k e.rep e.num) := by
  rw [List.countP_eq_length_filter]
  congr 1
  refine List.filter_congr fun e _ => ?_
  by_cases h9 : HasC k e.rep e.num <;> simp [h9]
 obtain ⟨hc', hhc⟩ : ∃ c, c = (hlL q.H).countP fun e => decide (HasC k e.rep e.num) := ⟨_, rfl⟩
 rw [← hhc] at hcn y3
 have g1 := pstore_a p2 s2 q2 m2 m v2' w2 q
 have g2 := sclock_p s2 m q.s.base v2' q.s.now (by omega)
 have hwa := wants_a p2 s2 q2 m2 m v2' w2 (n0 l) 200 q k hfq.ok
 rw [← hW, y1] at hwa
 repeat' (first|refine Sp.h ?_|refine Lk.r rfl ?_|refine Rf.mk rfl ?_|refine xB ?_|fail)
 refine xW (hd1) ?_
 rintro _ _ ⟨w, rfl, rfl⟩
 have hdl' := hdl w
 repeat' (first|refine Sp.h ?_|refine Lk.r rfl ?_|refine Rf.mk rfl ?_|fail)
 refine xW (hdl') ?_
 rintro _ _ ⟨w', rfl, rfl⟩
 have hcb : hc' ≤ 300 := by
  have h9 : (hlL q.H).countP (fun e => decide (HasC k e.rep e.num)) ≤ (hlL q.H).length := List.countP_le_length
  rw [hl_len] at h9
  omega
 (repeat' (first|(show CA _ _ (Code.region 20 _ _) _ _;apply Stopped.out)|refine Sp.h ?_|refine Lk.r rfl ?_|refine xU ?_|fail));any_goals apply Stopped.mk
 rw [hcn]
 repeat' (first|refine Sp.h ?_|refine Lk.r rfl ?_|refine Rf.mk rfl ?_|fail)
 refine xW (g1) ?_
 rintro _ _ ⟨rfl, rfl⟩
 repeat' (first|refine Sp.h ?_|refine Lk.r rfl ?_|refine Rf.mk rfl ?_|fail)
 refine xW (g2) ?_
 rintro _ _ ⟨rfl, rfl⟩
 repeat' (first|refine Sp.h ?_|refine Lk.r rfl ?_|refine Rf.mk rfl ?_|(refine All.mk ?_;intro _)|(apply Fk.r;focus repeat' first|infer_instance|constructor)|refine Rf.mk ⟨rfl, rfl, rfl⟩ ?_|fail)
 (apply Cl.fz;(focus repeat' (first|exact FZ.nil|(apply FZ.fz;(focus repeat constructor);(focus first|omega|decide|exact Nat.le_of_ble_eq_true rfl|(simp <;> omega)))|apply FZ.agg|apply FZ.same)))
 (apply Cl.p (jq);(focus repeat' (first|exact Lend.nil|(apply Lend.mp;(focus rfl))|fail)))
 repeat' (first|refine Sp.h ?_|refine Lk.r rfl ?_|refine Rf.mk rfl ?_|refine xO ?_|(apply Cl.p (cJ);(focus ((repeat' (first|exact Lend.nil|apply Lend.keep|fail));done)))|(apply Cl.p (cq);(focus ((repeat' (first|exact Lend.nil|apply Lend.keep|fail));done))))
 refine xW (hwa) ?_
 rintro _ _ ⟨rfl, rfl⟩
 have hsb := szS_bnd W.2 y2
 rw [← y3]
 repeat' (first|refine Sp.h ?_|refine Lk.r rfl ?_|refine Rf.mk rfl ?_|(refine Im.mk ?_;intro _)|fail)
 refine CA.loop (fun i : Nat => ⟨[(5, u8 most), (14, .ad [ints k] 0), (15, pm p1), (16, pm p2), (24, ints q.s.now.clock), (25, it (szS W.2)), (27, it 0), (28, it (szS (W.2.take i))), (136, sps W.2), (137, it (W.2.length : Nat)), (138, it i)], prR p1 s1 q1 m1 m v1' w1 P ++ prR p2 s2 q2 m2 m v2' w2 q⟩)
  (fun i => i ≤ W.2.length) (fun i => W.2.length - i) 0 xE (Nat.zero_le _) ?_
 intro i hi2
 by_cases hin2 : i < W.2.length
 ·obtain ⟨sp, hsp⟩ := get_of hin2
  have hsu := szS_succ hsp
  have hb1 := hsb i
  have hb2 := hsb (i + 1)
  obtain ⟨o1, o2, o3, o4, o5⟩ := y2 sp (List.mem_of_getElem? hsp)
  repeat' (first|refine Sp.h ?_|refine Lk.r rfl ?_|refine Rf.mk rfl ?_|refine xA ?_|(refine All.mk ?_;intro _)|refine xT ?_|refine xI ?_|refine Ch.l ⟨rfl, rfl⟩ ?_|(apply SetAsk.r;focus repeat' constructor)|refine xN ?_|refine xO ?_|fail)
  exact PA.lp (i + 1) (by rw [hsu];exact xE) ⟨hin2, by omega⟩
 have hie2 : i = W.2.length := by omega
 subst hie2
 rw [List.take_length]
 have hmk : 1 ≤ 1 + most % 8 ∧ 1 + most % 8 ≤ 1024 := by omega
 obtain ⟨R, S, P', Q', Xa, Xb, r1, r2, r3, r4⟩ := held_run hs t3 hq (1 + most % 8) hmk
 have hrc := recon_a p1 s1 q1 m1 v1' w1 p2 s2 q2 m2 v2' w2 m (n0 l) 200 P q P' Q' (1 + most % 8) R S hm r1 (by omega) hnr.2 hmk (by omega) (by omega)
 obtain ⟨e1, e2, e3, e4⟩ := held_end hs hpk hek hpin hq r4
 have fa := r4.ia.fine hs
 have fb := r4.ib.fine hs
 have hstr := hm.str
 have l1 := fa.ok.n
 have l2 := fb.ok.n
 have l3 := fa.ok.now.st
 have l4 := fb.ok.now.st
 obtain ⟨c, hce⟩ : ∃ c, c = Q'.s.now.clock := ⟨_, rfl⟩
 have hcv : ValC c := by rw [hce];exact fb.ok.now.clk
 have hcl2 : c.length = n0 l := by rw [hce];exact l2
 have j1 := join_z2 hcv hpk.val (by rw [hcl2, hpk.len])
 have j2 := join_z2 hcv hqv (by rw [hcl2, hql])
 rw [hce, e3, ← hce] at j1
 rw [hce, e4, ← hce] at j2
 have q1' := equal_p c c
 have q2' := equal_p Q'.s.now.state Q'.s.now.state
 rw [decide_eq_true rfl] at q1' q2'
 repeat' (first|refine Sp.h ?_|refine Lk.r rfl ?_|refine Rf.mk rfl ?_|refine xA ?_|refine xB ?_|refine xP ?_|refine xO ?_|(apply Cvk.i64;(focus rfl);(focus omega))|fail)
 refine xW (hrc) ?_
 rintro _ _ ⟨rfl, va, vb, rfl⟩
 have g3 := pstore_a p1 s1 q1 m1 m va w1 P'
 have g4 := pstore_a p2 s2 q2 m2 m vb w2 Q'
 have g5 := sclock_p s1 m P'.s.base va P'.s.now (by omega)
 have g6 := sclock_p s2 m Q'.s.base vb Q'.s.now (by omega)
 have g7 := sstate_p s1 m P'.s.base va P'.s.now (by omega)
 have g8 := sstate_p s2 m Q'.s.base vb Q'.s.now (by omega)
 rw [← e1, ← hce] at g5
 rw [← hce] at g6
 rw [e2] at g7
 repeat' (first|refine Sp.h ?_|refine Lk.r rfl ?_|refine Rf.mk rfl ?_|refine xA ?_|(refine All.mk ?_;intro _)|(apply Fk.r;focus repeat' first|infer_instance|constructor)|refine xN ?_|refine Rf.mk ⟨rfl, rfl, rfl⟩ ?_|(((apply Cl.use (g3);(focus repeat' (first|exact Lend.nil|apply Lend.keep|fail));(focus (repeat (first|exact Takes.nil|(apply Takes.cons;(focus repeat constructor)))));(focus rfl)));(rintro _ _ ⟨rfl, rfl⟩))|(((apply Cl.use (g4);(focus repeat' (first|exact Lend.nil|apply Lend.keep|fail));(focus (repeat (first|exact Takes.nil|(apply Takes.cons;(focus repeat constructor)))));(focus rfl)));(rintro _ _ ⟨rfl, rfl⟩))|(((apply Cl.use (g5);(focus repeat' (first|exact Lend.nil|apply Lend.keep|fail));(focus (repeat (first|exact Takes.nil|(apply Takes.cons;(focus repeat constructor)))));(focus rfl)));(rintro _ _ ⟨rfl, rfl⟩))|(((apply Cl.use (g6);(focus repeat' (first|exact Lend.nil|apply Lend.keep|fail));(focus (repeat (first|exact Takes.nil|(apply Takes.cons;(focus repeat constructor)))));(focus rfl)));(rintro _ _ ⟨rfl, rfl⟩))|(((apply Cl.use (g7);(focus repeat' (first|exact Lend.nil|apply Lend.keep|fail));(focus (repeat (first|exact Takes.nil|(apply Takes.cons;(focus repeat constructor)))));(focus rfl)));(rintro _ _ ⟨rfl, rfl⟩))|(((apply Cl.use (g8);(focus repeat' (first|exact Lend.nil|apply Lend.keep|fail));(focus (repeat (first|exact Takes.nil|(apply Takes.cons;(focus repeat constructor)))));(focus rfl)));(rintro _ _ ⟨rfl, rfl⟩))|(apply Cl.p (q1');(focus ((repeat' (first|exact Lend.nil|apply Lend.keep|fail));done)))|(apply Cl.p (q2');(focus ((repeat' (first|exact Lend.nil|apply Lend.keep|fail));done)))|(((apply Cl.fz;(focus repeat' (first|exact FZ.nil|(apply FZ.fz;(focus repeat constructor);(focus first|omega|decide|exact Nat.le_of_ble_eq_true rfl|(simp <;> omega)))|apply FZ.agg|apply FZ.same))));(apply Cl.p (j1);(focus ((repeat' (first|exact Lend.nil|(apply Lend.mp;(focus rfl))|fail));done))))|(((apply Cl.fz;(focus repeat' (first|exact FZ.nil|(apply FZ.fz;(focus repeat constructor);(focus first|omega|decide|exact Nat.le_of_ble_eq_true rfl|(simp <;> omega)))|apply FZ.agg|apply FZ.same))));(apply Cl.p (j2);(focus ((repeat' (first|exact Lend.nil|(apply Lend.mp;(focus rfl))|fail));done)))))
 all_goals exact Fin.p rfl rfl
end Go.Proofs.YtmllihbhphnolaaGreat
