/- Part 7 of the ground of this proof: what its texts say of the model, the program and the plain data; conditions: those that are named. -/
import Derived.Laws.CopyRow
import Derived.Lib.Overlaps
import Derived.Lib.AppendZeros
import Derived.Laws.Externs
import Derived.Test.YtmllihbhphnolaaGreatP06
namespace Go.Proofs.YtmllihbhphnolaaGreat
open Go Go.CF
set_option maxRecDepth 20000
def FewV (l : List EvS) : Prop := l.length ≤ 60 ∧ ∀ e ∈ l, e.past.length ≤ 8
/-- An effect whose cells are cells of the model. -/
structure EffOK (m : ModS) (x : EffS) : Prop where
  dl : x.delta.length ≤ 20
  hl : x.hold.length ≤ 8
  ul : x.updates.length ≤ 20
  d : ∀ p ∈ x.delta, 0 ≤ p.1 ∧ p.1 < (strF m : Nat)
  u : ∀ p ∈ x.updates, 0 ≤ p.2.1 ∧ p.2.1 < ((mrgF m).length : Nat)
/-- A small model. -/
structure MOK (m : ModS) : Prop where
  lay : LayOK m.sorts m.tables
  ops : m.ops.length ≤ 8
  acts : m.acts.length ≤ 30
  eff : ∀ a ∈ m.acts, EffOK m a.eff
  str : strF m ≤ 40
  mrg : (mrgF m).length ≤ 20
set_option maxHeartbeats 8000000 in
theorem few32_c (m : ModS) (l : List EvS) : CallF Tryz.prog 26 [mdl m, evs l] (MOK m ∧ FewV l) := by
  refine CallA.of pg ord26 Tryz.func26 rfl Tryz.ntmps26 Tryz.results26 rfl fun h0 G0 O0 => ?_
  by_cases hol : ¬ m.ops.length ≤ 8
  · repeat' (first | refine Sp.h ?_ | refine Lk.r rfl ?_ | refine Rf.mk rfl ?_ | (apply Bd.t; (focus (first | assumption | omega | rfl))) | (apply Bd.f; (focus (first | assumption | omega | exact Bool.false_ne_true))) | (refine Bd.mk ?_ ?_ <;> intro _) | (refine Im.mk ?_; intro _) | (refine All.mk ?_; intro _) | (apply TkB.r; (focus (repeat (first | exact Take.here | apply Take.there)))) | (apply Nm.r; (focus repeat (first | apply LN.cons | exact LN.nil))) | fail)
    all_goals first
      | exact ⟨_, _, .one (.same (.nil (by (repeat (first | exact Subl.nil | refine Subl.cons (by (repeat (first | exact Take.here | apply Take.there))) ?_))))), _, rfl, rfl, fun h => by cases h⟩
      | exact (hol (by omega)).elim
  have hol : m.ops.length ≤ 8 := Classical.not_not.1 hol
  repeat' (first | refine Sp.h ?_ | refine Lk.r rfl ?_ | refine Rf.mk rfl ?_ | (apply Bd.t; (focus (first | assumption | omega | rfl))) | (apply Bd.f; (focus (first | assumption | omega | exact Bool.false_ne_true))) | (refine Bd.mk ?_ ?_ <;> intro _) | (refine Im.mk ?_; intro _) | (refine All.mk ?_; intro _) | (apply TkB.r; (focus (repeat (first | exact Take.here | apply Take.there)))) | refine Ch.l ⟨rfl, rfl⟩ ?_ | (apply Nm.r; (focus repeat (first | apply LN.cons | exact LN.nil))) | fail)
  all_goals try exact ⟨_, _, .one (.same (.nil (by (repeat (first | exact Subl.nil | refine Subl.cons (by (repeat (first | exact Take.here | apply Take.there))) ?_))))), _, rfl, rfl, fun h => by cases h⟩
  have hvc := valid13_c m (by omega)
  (apply Cl.use (hvc); (focus repeat' (first | exact Lend.nil | apply Lend.keep | fail)); (focus (repeat (first | exact Takes.nil | (apply Takes.cons; (focus (repeat (first | exact Take.here | apply Take.there))))))); (focus rfl))
  rintro _ _ ⟨b, rfl, rfl, hv⟩
  cases b
  · repeat' (first | refine Sp.h ?_ | refine Lk.r rfl ?_ | refine Rf.mk rfl ?_ | (apply Bd.f; (focus (first | assumption | omega | exact Bool.false_ne_true))) | (apply Nm.r; (focus repeat (first | apply LN.cons | exact LN.nil))) | fail)
    exact ⟨_, _, .one (.same (.nil (by (repeat (first | exact Subl.nil | refine Subl.cons (by (repeat (first | exact Take.here | apply Take.there))) ?_))))), _, rfl, rfl, fun h => by cases h⟩
  have hm := hv rfl
  have hst := strict32_p m hm
  have hmg := merged32_p m hm
  have hml := mrgF_le hm
  repeat' (first | refine Sp.h ?_ | refine Lk.r rfl ?_ | refine Rf.mk rfl ?_ | (apply Bd.t; (focus (first | assumption | omega | rfl))) | (apply Bd.f; (focus (first | assumption | omega | exact Bool.false_ne_true))) | fail)
  rename_i b2 _ _ _ _ _ _ _ _ _ _ _
  have hac : m.acts.length ≤ 30 := by omega
  have hll : l.length ≤ 60 := by omega
  refine CA.loop (fun i : Nat => ⟨[(1, evs l), (2, pm b2), (5, it i)], [mR b2 m]⟩) (fun i => i ≤ m.sorts.length) (fun i => m.sorts.length - i) 0 ⟨by (repeat (first | exact trivial | refine ⟨rfl, ?_⟩)), by (repeat (first | exact Subl.nil | refine Subl.cons (by (repeat (first | exact Take.here | apply Take.there))) ?_))⟩ (Nat.zero_le _) ?_
  intro i hi
  by_cases hin : i < m.sorts.length
  · obtain ⟨x, hx⟩ := get_of hin
    repeat' (first | refine Sp.h ?_ | refine Lk.r rfl ?_ | refine Rf.mk rfl ?_ | (apply Bd.t; (focus (first | assumption | omega | rfl))) | (apply Bd.f; (focus (first | assumption | omega | exact Bool.false_ne_true))) | (refine Bd.mk ?_ ?_ <;> intro _) | (refine Im.mk ?_; intro _) | (apply TkB.r; (focus (repeat (first | exact Take.here | apply Take.there)))) | (apply Ix.q; (focus exact rfl); (focus assumption)) | (apply Nm.r; (focus repeat (first | apply LN.cons | exact LN.nil))) | (apply Ov.n; (focus first | omega | (simp <;> omega))) | fail)
    all_goals first
      | exact ⟨_, _, .one (.same (.nil (by (repeat (first | exact Subl.nil | refine Subl.cons (by (repeat (first | exact Take.here | apply Take.there))) ?_))))), _, rfl, rfl, fun h => by cases h⟩
      | exact PA.lp (i + 1) ⟨by (repeat (first | exact trivial | refine ⟨rfl, ?_⟩)), by (repeat (first | exact Subl.nil | refine Subl.cons (by (repeat (first | exact Take.here | apply Take.there))) ?_))⟩ ⟨hin, by omega⟩

  repeat' (first | refine Sp.h ?_ | refine Lk.r rfl ?_ | refine Rf.mk rfl ?_ | (apply Bd.f; (focus (first | assumption | omega | exact Bool.false_ne_true))) | (refine Im.mk ?_; intro _) | (apply TkB.r; (focus (repeat (first | exact Take.here | apply Take.there)))) | fail)
  refine CA.loop (fun i : Nat => ⟨[(1, evs l), (2, pm b2), (6, it i)], [mR b2 m]⟩) (fun i => i ≤ m.tables.length) (fun i => m.tables.length - i) 0 ⟨by (repeat (first | exact trivial | refine ⟨rfl, ?_⟩)), by (repeat (first | exact Subl.nil | refine Subl.cons (by (repeat (first | exact Take.here | apply Take.there))) ?_))⟩ (Nat.zero_le _) ?_
  intro i hi
  by_cases hin : i < m.tables.length
  · obtain ⟨x, hx⟩ := get_of hin
    repeat' (first | refine Sp.h ?_ | refine Lk.r rfl ?_ | refine Rf.mk rfl ?_ | (apply Bd.t; (focus (first | assumption | omega | rfl))) | (apply Bd.f; (focus (first | assumption | omega | exact Bool.false_ne_true))) | (refine Bd.mk ?_ ?_ <;> intro _) | refine OpK.r rfl ?_ | (refine Im.mk ?_; intro _) | (apply TkB.r; (focus (repeat (first | exact Take.here | apply Take.there)))) | (apply Ix.q; (focus exact rfl); (focus assumption)) | (apply Nm.r; (focus repeat (first | apply LN.cons | exact LN.nil))) | (apply CA.draw; (focus rfl); (focus kernel_rfl); (focus kernel_rfl); (focus repeat' (first | apply ON.one | exact ON.done | exact ON.none | apply ON.alt)); (focus rfl)) | (apply Ov.n; (focus first | omega | (simp <;> omega))) | fail)
    all_goals first
      | exact ⟨_, _, .one (.same (.nil (by (repeat (first | exact Subl.nil | refine Subl.cons (by (repeat (first | exact Take.here | apply Take.there))) ?_))))), _, rfl, rfl, fun h => by cases h⟩
      | exact PA.lp (i + 1) ⟨by (repeat (first | exact trivial | refine ⟨rfl, ?_⟩)), by (repeat (first | exact Subl.nil | refine Subl.cons (by (repeat (first | exact Take.here | apply Take.there))) ?_))⟩ ⟨hin, by omega⟩

  repeat' (first | refine Sp.h ?_ | refine Lk.r rfl ?_ | refine Rf.mk rfl ?_ | (apply Bd.f; (focus (first | assumption | omega | exact Bool.false_ne_true))) | refine OpK.r rfl ?_ | (refine Im.mk ?_; intro _) | (apply TkB.r; (focus (repeat (first | exact Take.here | apply Take.there)))) | refine Ch.l ⟨rfl, rfl⟩ ?_ | (apply CA.draw; (focus rfl); (focus kernel_rfl); (focus kernel_rfl); (focus repeat' (first | apply ON.one | exact ON.done | exact ON.none | apply ON.alt)); (focus rfl)) | fail | (apply Cl.p (hst); (focus repeat' (first | exact Lend.nil | apply Lend.keep | fail))) | (apply Cl.p (hmg); (focus repeat' (first | exact Lend.nil | apply Lend.keep | fail))))
  refine CA.loop (fun i : Nat => ⟨[(1, evs l), (2, pm b2), (7, it (strF m : Nat)), (8, it ((mrgF m).length : Nat)), (9, it i)], [mR b2 m]⟩) (fun i => i ≤ m.acts.length ∧ ∀ a ∈ m.acts.take i, EffOK m a.eff) (fun i => m.acts.length - i) 0 ⟨by (repeat (first | exact trivial | refine ⟨rfl, ?_⟩)), by (repeat (first | exact Subl.nil | refine Subl.cons (by (repeat (first | exact Take.here | apply Take.there))) ?_))⟩ ⟨Nat.zero_le _, by simp⟩ ?_
  rintro i ⟨hi, hae⟩
  by_cases hin : i < m.acts.length
  · obtain ⟨a, ha⟩ := get_of hin
    by_cases hsz : a.eff.delta.length ≤ 20 ∧ a.eff.hold.length ≤ 8 ∧ a.eff.updates.length ≤ 20
    · obtain ⟨hs1, hs2, hs3⟩ := hsz
      repeat' (first | refine Sp.h ?_ | refine Lk.r rfl ?_ | refine Rf.mk rfl ?_ | (apply Bd.t; (focus (first | assumption | omega | rfl))) | (apply Bd.f; (focus (first | assumption | omega | exact Bool.false_ne_true))) | (refine Im.mk ?_; intro _) | (refine All.mk ?_; intro _) | (apply TkB.r; (focus (repeat (first | exact Take.here | apply Take.there)))) | (apply Ix.q; (focus exact rfl); (focus assumption)) | refine Ch.r ?_ | (apply SetAsk.r; (focus (repeat (first | exact SetAs.z | (apply SetAs.c; (focus (repeat (first | assumption | exact SetA.z | apply SetA.s)))))))) | (apply Nm.r; (focus repeat (first | apply LN.cons | exact LN.nil))) | fail)
      rename_i b10 _ _ _
      refine CA.loop (fun k : Nat => ⟨[(1, evs l), (2, pm b2), (7, it (strF m : Nat)), (8, it ((mrgF m).length : Nat)), (9, it i), (10, pm b10), (11, it k)], [mR b2 m, blkR b10 149 (effC a.eff)]⟩) (fun k => k ≤ a.eff.delta.length ∧ ∀ p ∈ a.eff.delta.take k, 0 ≤ p.1 ∧ p.1 < (strF m : Nat)) (fun k => a.eff.delta.length - k) 0 ⟨by (repeat (first | exact trivial | refine ⟨rfl, ?_⟩)), by (repeat (first | exact Subl.nil | refine Subl.cons (by (repeat (first | exact Take.here | apply Take.there))) ?_))⟩ ⟨Nat.zero_le _, by simp⟩ ?_
      rintro k ⟨hk, hks⟩
      by_cases hkn : k < a.eff.delta.length
      · obtain ⟨p, hp⟩ := get_of hkn
        repeat' (first | refine Sp.h ?_ | refine Lk.r rfl ?_ | refine Rf.mk rfl ?_ | (apply Bd.t; (focus (first | assumption | omega | rfl))) | (apply Bd.f; (focus (first | assumption | omega | exact Bool.false_ne_true))) | (refine Bd.mk ?_ ?_ <;> intro _) | (refine Im.mk ?_; intro _) | (apply TkB.r; (focus (repeat (first | exact Take.here | apply Take.there)))) | (apply Ix.q; (focus exact rfl); (focus assumption)) | (apply Nm.r; (focus repeat (first | apply LN.cons | exact LN.nil))) | (apply Ov.n; (focus first | omega | (simp <;> omega))) | fail)
        all_goals first
          | exact ⟨_, _, .one (.same (.nil (by (repeat (first | exact Subl.nil | refine Subl.cons (by (repeat (first | exact Take.here | apply Take.there))) ?_))))), _, rfl, rfl, fun h => by cases h⟩
          | exact PA.lp (k + 1) ⟨by (repeat (first | exact trivial | refine ⟨rfl, ?_⟩)), by (repeat (first | exact Subl.nil | refine Subl.cons (by (repeat (first | exact Take.here | apply Take.there))) ?_))⟩ ⟨⟨hkn, all_succ hp hks ⟨by omega, by omega⟩⟩, by omega⟩
      have hke : k = a.eff.delta.length := by omega
      subst hke
      rw [List.take_length] at hks
      repeat' (first | refine Sp.h ?_ | refine Lk.r rfl ?_ | refine Rf.mk rfl ?_ | (apply Bd.f; (focus (first | assumption | omega | exact Bool.false_ne_true))) | (refine Im.mk ?_; intro _) | (apply TkB.r; (focus (repeat (first | exact Take.here | apply Take.there)))) | fail)
      refine CA.loop (fun k : Nat => ⟨[(1, evs l), (2, pm b2), (7, it (strF m : Nat)), (8, it ((mrgF m).length : Nat)), (9, it i), (10, pm b10), (12, it k)], [mR b2 m, blkR b10 149 (effC a.eff)]⟩) (fun k => k ≤ a.eff.updates.length ∧ ∀ p ∈ a.eff.updates.take k, 0 ≤ p.2.1 ∧ p.2.1 < ((mrgF m).length : Nat)) (fun k => a.eff.updates.length - k) 0 ⟨by (repeat (first | exact trivial | refine ⟨rfl, ?_⟩)), by (repeat (first | exact Subl.nil | refine Subl.cons (by (repeat (first | exact Take.here | apply Take.there))) ?_))⟩ ⟨Nat.zero_le _, by simp⟩ ?_
      rintro k ⟨hk2, hku⟩
      by_cases hkn2 : k < a.eff.updates.length
      · obtain ⟨⟨uk, uc, uv⟩, hu⟩ := get_of hkn2
        repeat' (first | refine Sp.h ?_ | refine Lk.r rfl ?_ | refine Rf.mk rfl ?_ | (apply Bd.t; (focus (first | assumption | omega | rfl))) | (apply Bd.f; (focus (first | assumption | omega | exact Bool.false_ne_true))) | (refine Bd.mk ?_ ?_ <;> intro _) | (refine Im.mk ?_; intro _) | (apply TkB.r; (focus (repeat (first | exact Take.here | apply Take.there)))) | (apply Ix.q; (focus exact rfl); (focus assumption)) | (apply Nm.r; (focus repeat (first | apply LN.cons | exact LN.nil))) | (apply Ov.n; (focus first | omega | (simp <;> omega))) | fail)
        all_goals first
          | exact ⟨_, _, .one (.same (.nil (by (repeat (first | exact Subl.nil | refine Subl.cons (by (repeat (first | exact Take.here | apply Take.there))) ?_))))), _, rfl, rfl, fun h => by cases h⟩
          | exact PA.lp (k + 1) ⟨by (repeat (first | exact trivial | refine ⟨rfl, ?_⟩)), by (repeat (first | exact Subl.nil | refine Subl.cons (by (repeat (first | exact Take.here | apply Take.there))) ?_))⟩ ⟨⟨hkn2, all_succ hu hku ⟨by simp only; omega, by simp only; omega⟩⟩, by omega⟩
      have hke : k = a.eff.updates.length := by omega
      subst hke
      rw [List.take_length] at hku
      repeat' (first | refine Sp.h ?_ | refine Lk.r rfl ?_ | refine Rf.mk rfl ?_ | (apply Bd.f; (focus (first | assumption | omega | exact Bool.false_ne_true))) | (refine Im.mk ?_; intro _) | (apply TkB.r; (focus (repeat (first | exact Take.here | apply Take.there)))) | (apply Ov.n; (focus first | omega | (simp <;> omega))) | fail)
      exact PA.lp (i + 1) ⟨by (repeat (first | exact trivial | refine ⟨rfl, ?_⟩)), by (repeat (first | exact Subl.nil | refine Subl.cons (by (repeat (first | exact Take.here | apply Take.there))) ?_))⟩ ⟨⟨hin, all_succ ha hae ⟨hs1, hs2, hs3, hks, hku⟩⟩, by omega⟩
    · repeat' (first | refine Sp.h ?_ | refine Lk.r rfl ?_ | refine Rf.mk rfl ?_ | (apply Bd.t; (focus (first | assumption | omega | rfl))) | (apply Bd.f; (focus (first | assumption | omega | exact Bool.false_ne_true))) | (refine Bd.mk ?_ ?_ <;> intro _) | (refine Im.mk ?_; intro _) | (refine All.mk ?_; intro _) | (apply TkB.r; (focus (repeat (first | exact Take.here | apply Take.there)))) | (apply Ix.q; (focus exact rfl); (focus assumption)) | refine Ch.r ?_ | (apply SetAsk.r; (focus (repeat (first | exact SetAs.z | (apply SetAs.c; (focus (repeat (first | assumption | exact SetA.z | apply SetA.s)))))))) | (apply Nm.r; (focus repeat (first | apply LN.cons | exact LN.nil))) | fail)
      all_goals first
        | exact ⟨_, _, .one (.same (.nil (by (repeat (first | exact Subl.nil | refine Subl.cons (by (repeat (first | exact Take.here | apply Take.there))) ?_))))), _, rfl, rfl, fun h => by cases h⟩
        | exact (hsz ⟨by omega, by omega, by omega⟩).elim
  have hie : i = m.acts.length := by omega
  subst hie
  rw [List.take_length] at hae

  repeat' (first | refine Sp.h ?_ | refine Lk.r rfl ?_ | refine Rf.mk rfl ?_ | (apply Bd.f; (focus (first | assumption | omega | exact Bool.false_ne_true))) | (refine Im.mk ?_; intro _) | (apply TkB.r; (focus (repeat (first | exact Take.here | apply Take.there)))) | fail)
  refine CA.loop (fun i : Nat => ⟨[(1, evs l), (7, it (strF m : Nat)), (8, it ((mrgF m).length : Nat)), (13, it i)], [mR b2 m]⟩) (fun i => i ≤ l.length ∧ ∀ e ∈ l.take i, e.past.length ≤ 8) (fun i => l.length - i) 0 ⟨by (repeat (first | exact trivial | refine ⟨rfl, ?_⟩)), by (repeat (first | exact Subl.nil | refine Subl.cons (by (repeat (first | exact Take.here | apply Take.there))) ?_))⟩ ⟨Nat.zero_le _, by simp⟩ ?_
  rintro i ⟨hi, hpa⟩
  by_cases hin : i < l.length
  · obtain ⟨e, he⟩ := get_of hin
    repeat' (first | refine Sp.h ?_ | refine Lk.r rfl ?_ | refine Rf.mk rfl ?_ | (apply Bd.t; (focus (first | assumption | omega | rfl))) | (refine Bd.mk ?_ ?_ <;> intro _) | (refine Im.mk ?_; intro _) | (apply Ix.q; (focus exact rfl); (focus assumption)) | (apply Nm.r; (focus repeat (first | apply LN.cons | exact LN.nil))) | (apply Ov.n; (focus first | omega | (simp <;> omega))) | fail)
    all_goals first
      | exact ⟨_, _, .one (.same (.nil (by (repeat (first | exact Subl.nil | refine Subl.cons (by (repeat (first | exact Take.here | apply Take.there))) ?_))))), _, rfl, rfl, fun h => by cases h⟩
      | exact PA.lp (i + 1) ⟨by (repeat (first | exact trivial | refine ⟨rfl, ?_⟩)), by (repeat (first | exact Subl.nil | refine Subl.cons (by (repeat (first | exact Take.here | apply Take.there))) ?_))⟩ ⟨⟨hin, all_succ he hpa (by omega)⟩, by omega⟩
  have hie : i = l.length := by omega
  subst hie
  rw [List.take_length] at hpa
  repeat' (first | refine Sp.h ?_ | refine Lk.r rfl ?_ | refine Rf.mk rfl ?_ | (apply Bd.t; (focus (first | assumption | omega | rfl))) | (apply Bd.f; (focus (first | assumption | omega | exact Bool.false_ne_true))) | (refine Bd.mk ?_ ?_ <;> intro _) | (refine Im.mk ?_; intro _) | (apply Nm.r; (focus repeat (first | apply LN.cons | exact LN.nil))) | fail)
  · refine ⟨_, _, .one (.same (.nil (by (repeat (first | exact Subl.nil | refine Subl.cons (by (repeat (first | exact Take.here | apply Take.there))) ?_))))), _, rfl, rfl, fun h => ⟨⟨hm, hol, hac, hae, by omega, ?_⟩, hll, hpa⟩⟩
    have := of_decide_eq_true h
    omega
  · exact ⟨_, _, .one (.same (.nil (by (repeat (first | exact Subl.nil | refine Subl.cons (by (repeat (first | exact Take.here | apply Take.there))) ?_))))), _, rfl, rfl, fun h => by cases h⟩
end Go.Proofs.YtmllihbhphnolaaGreat
namespace Go.Proofs.YtmllihbhphnolaaGreat
open Go Go.CF
set_option maxRecDepth 20000
theorem cells_o (m : ModS) (hm : LayOK m.sorts m.tables) : CallO Tryz.prog 185 [mdl m] 157 6 (mrgF m) tblC := by
  have hml := hm.2.2.1
  refine CallA.of pg ord185 Tryz.func185 rfl Tryz.ntmps185 Tryz.results185 rfl fun h0 G0 O0 => ?_
  repeat' (first | refine Sp.h ?_ | refine Lk.r rfl ?_ | refine Rf.mk rfl ?_ | (refine Im.mk ?_; intro _) | (refine All.mk ?_; intro _) | (apply TkB.r; (focus (repeat (first | exact Take.here | apply Take.there)))) | fail)
  rename_i b1 _
  refine CA.nilOwn 3 157 6 tblC rfl fun v => ?_
  refine CA.loop (fun x : Nat × Value => ⟨[(1, pm b1), (3, .ow x.2), (10, tbls m.tables), (11, it (m.tables.length : Nat)), (12, it x.1)], [mR b1 m, arrR x.2 157 6 (mrgL m (m.tables.take x.1)) tblC]⟩) (fun x => x.1 ≤ m.tables.length) (fun x => m.tables.length - x.1) (0, v) ⟨by (repeat (first | exact trivial | refine ⟨rfl, ?_⟩)), by (repeat (first | exact Subl.nil | refine Subl.cons (by (repeat (first | exact Take.here | apply Take.there))) ?_))⟩ (Nat.zero_le _) ?_
  rintro ⟨i, v⟩ hi
  simp only at hi
  simp only
  by_cases hin : i < m.tables.length
  · obtain ⟨t, ht⟩ := get_of hin
    have hc := (hm.2.2.2 t (List.mem_of_getElem? ht)).1
    have h1 := sz_fit (m := m) hc
    have hn := mrgL_le hm i hi
    have hsu := mrgL_succ (m := m) ht
    by_cases hst : isStrict t.kind
    · rw [if_pos hst, List.append_nil] at hsu
      unfold isStrict at hst
      repeat' (first | refine Sp.h ?_ | refine Lk.r rfl ?_ | refine Rf.mk rfl ?_ | (apply Bd.t; (focus (first | assumption | omega | rfl))) | (apply Bd.f; (focus (first | assumption | omega | exact Bool.false_ne_true))) | (refine Bd.mk ?_ ?_ <;> intro _) | (refine All.mk ?_; intro _) | (apply TkB.r; (focus (repeat (first | exact Take.here | apply Take.there)))) | (apply Ix.q; (focus exact rfl); (focus assumption)) | refine Ch.l ⟨rfl, rfl⟩ ?_ | (apply SetAsk.r; (focus (repeat (first | exact SetAs.z | (apply SetAs.c; (focus (repeat (first | assumption | exact SetA.z | apply SetA.s)))))))) | (apply Nm.r; (focus repeat (first | apply LN.cons | exact LN.nil))) | (apply Ov.n; (focus first | omega | (simp <;> omega))) | fail)
      all_goals rw [← hsu]
      all_goals exact PA.lp (i + 1, v) ⟨by (repeat (first | exact trivial | refine ⟨rfl, ?_⟩)), by (repeat (first | exact Subl.nil | refine Subl.cons (by (repeat (first | exact Take.here | apply Take.there))) ?_))⟩ ⟨hin, by simp only; omega⟩
    · rw [if_neg hst] at hsu
      unfold isStrict at hst
      repeat' (first | refine Sp.h ?_ | refine Lk.r rfl ?_ | refine Rf.mk rfl ?_ | (apply Bd.t; (focus (first | assumption | omega | rfl))) | (apply Bd.f; (focus (first | assumption | omega | exact Bool.false_ne_true))) | (refine Im.mk ?_; intro _) | (refine All.mk ?_; intro _) | (apply TkB.r; (focus (repeat (first | exact Take.here | apply Take.there)))) | (apply Ix.q; (focus exact rfl); (focus assumption)) | refine Ch.l ⟨rfl, rfl⟩ ?_ | (apply SetAsk.r; (focus (repeat (first | exact SetAs.z | (apply SetAs.c; (focus (repeat (first | assumption | exact SetA.z | apply SetA.s)))))))) | (apply Nm.r; (focus repeat (first | apply LN.cons | exact LN.nil))) | fail)
      rename_i b5 _
      refine CA.loop (fun k : Nat => ⟨[(1, pm b1), (3, .ow v), (5, pm b5), (6, it (prodF m.sorts (t.cols.take k))), (10, tbls m.tables), (11, it (m.tables.length : Nat)), (12, it i), (25, ints t.cols), (26, it (t.cols.length : Nat)), (27, it k)], [mR b1 m, arrR v 157 6 (mrgL m (m.tables.take i)) tblC, blkR b5 157 (tblC t)]⟩) (fun k => k ≤ t.cols.length) (fun k => t.cols.length - k) 0 ⟨by (repeat (first | exact trivial | refine ⟨rfl, ?_⟩)), by (repeat (first | exact Subl.nil | refine Subl.cons (by (repeat (first | exact Take.here | apply Take.there))) ?_))⟩ (Nat.zero_le _) ?_
      intro k hk
      by_cases hkn : k < t.cols.length
      · obtain ⟨x, hx⟩ := get_of hkn
        obtain ⟨j, rfl, y, hy, hy1, hy2⟩ := col_get hc hx
        have hb := prod_succ hx (show m.sorts[((j : Int)).toNat]? = some y by simpa using hy)
        have hp := prod_fit hc k
        have hp2 := prod_fit hc (k + 1)
        rw [hb] at hp2
        have hj := (List.getElem?_eq_some_iff.1 hy).1
        repeat' (first | refine Sp.h ?_ | refine Lk.r rfl ?_ | refine Rf.mk rfl ?_ | (apply Bd.t; (focus (first | assumption | omega | rfl))) | (apply Om.mk; (focus first | omega | (simp <;> omega))) | (apply TkB.r; (focus (repeat (first | exact Take.here | apply Take.there)))) | (apply Ix.q; (focus exact rfl); (focus assumption)) | (apply Ov.n; (focus first | omega | (simp <;> omega))) | fail)
        rw [← hb]
        exact PA.lp (k + 1) ⟨by (repeat (first | exact trivial | refine ⟨rfl, ?_⟩)), by (repeat (first | exact Subl.nil | refine Subl.cons (by (repeat (first | exact Take.here | apply Take.there))) ?_))⟩ ⟨hkn, by omega⟩
      have hke : k = t.cols.length := by omega
      subst hke
      simp only [List.take_length]
      rw [h1.1]
      repeat' (first | refine Sp.h ?_ | refine Lk.r rfl ?_ | refine Rf.mk rfl ?_ | (apply Bd.f; (focus (first | assumption | omega | exact Bool.false_ne_true))) | fail)
      refine CA.loop (fun x : Nat × Value => ⟨[(1, pm b1), (3, .ow x.2), (5, pm b5), (10, tbls m.tables), (11, it (m.tables.length : Nat)), (12, it i), (39, it (szF m t : Nat)), (40, it x.1)], [mR b1 m, arrR x.2 157 6 (mrgL m (m.tables.take i) ++ List.replicate x.1 t) tblC, blkR b5 157 (tblC t)]⟩) (fun x => x.1 ≤ szF m t) (fun x => szF m t - x.1) (0, v) ?_ (Nat.zero_le _) ?_
      · simp only [List.replicate_zero, List.append_nil]
        exact ⟨by (repeat (first | exact trivial | refine ⟨rfl, ?_⟩)), by (repeat (first | exact Subl.nil | refine Subl.cons (by (repeat (first | exact Take.here | apply Take.there))) ?_))⟩
      rintro ⟨q, v⟩ hq
      simp only at hq
      simp only
      by_cases hqn : q < szF m t
      · repeat' (first | refine Sp.h ?_ | refine Lk.r rfl ?_ | refine Rf.mk rfl ?_ | (apply Bd.t; (focus (first | assumption | omega | rfl))) | (apply Om.mk; (focus first | omega | (simp <;> omega))) | (refine All.mk ?_; intro _) | (apply TkA.r; (focus (repeat (first | exact Take.here | apply Take.there)))) | (apply TkB.r; (focus (repeat (first | exact Take.here | apply Take.there)))) | refine Ce.r ?_ | refine Ch.l ⟨rfl, rfl⟩ ?_ | (apply Fk.r; (focus (repeat (first | exact FillA.nil | (apply FillA.agg; (focus rfl); (focus rfl); (focus (repeat (first | exact SetAs.z | (apply SetAs.c; (focus (repeat (first | assumption | exact SetA.z | apply SetA.s)))))))) | (apply FillA.one; (focus rfl); (focus infer_instance); (focus (repeat (first | assumption | exact SetA.z | apply SetA.s)))))))) | refine Rf.mk ⟨rfl, rfl⟩ ?_ | refine Rf.mk ⟨rfl, rfl, rfl⟩ ?_ | (apply Mp.lit; (focus repeat (first | exact MpL.nil | (apply MpL.cons; (focus rfl)) | (apply MpL.inv; (focus repeat (first | apply LN.cons | exact LN.nil)); (focus infer_instance))))) | (apply Ov.n; (focus first | omega | (simp <;> omega))) | fail)
        rw [List.append_assoc, show List.replicate q t ++ [t] = List.replicate (q + 1) t from List.replicate_succ'.symm]
        exact PA.lp (q + 1, _) ⟨by (repeat (first | exact trivial | refine ⟨rfl, ?_⟩)), by (repeat (first | exact Subl.nil | refine Subl.cons (by (repeat (first | exact Take.here | apply Take.there))) ?_))⟩ ⟨hqn, by simp only; omega⟩
      have hqe : q = szF m t := by omega
      subst hqe
      rw [← hsu]
      repeat' (first | refine Sp.h ?_ | refine Lk.r rfl ?_ | refine Rf.mk rfl ?_ | (apply Bd.f; (focus (first | assumption | omega | exact Bool.false_ne_true))) | (apply Ov.n; (focus first | omega | (simp <;> omega))) | fail)
      exact PA.lp (i + 1, v) ⟨by (repeat (first | exact trivial | refine ⟨rfl, ?_⟩)), by (repeat (first | exact Subl.nil | refine Subl.cons (by (repeat (first | exact Take.here | apply Take.there))) ?_))⟩ ⟨hin, by simp only; omega⟩
  have hie : i = m.tables.length := by omega
  subst hie
  simp only [List.take_length]
  repeat' (first | refine Sp.h ?_ | refine Lk.r rfl ?_ | refine Rf.mk rfl ?_ | (apply Bd.f; (focus (first | assumption | omega | exact Bool.false_ne_true))) | (apply Nm.r; (focus repeat (first | apply LN.cons | exact LN.nil))) | fail)
  exact ⟨_, _, .one (.same (.nil (by (repeat (first | exact Subl.nil | refine Subl.cons (by (repeat (first | exact Take.here | apply Take.there))) ?_))))), _, rfl, rfl⟩
theorem cells_p (m : ModS) (hm : LayOK m.sorts m.tables) : CallP Tryz.prog 185 [mdl m] (tbls (mrgF m)) :=
  CallA.fz (by have := mrgF_le hm; omega) (cells_o m hm)
structure MkS where
  rep : Int
  num : Int
  time : Int
  val : Int
def mkC (x : MkS) : List AV := [it x.rep, it x.num, it x.time, it x.val]
structure MgS where
  put : Bool
  drop : Bool
  marks : List MkS
abbrev bl (b : Bool) : AV := .val (.bool b)
abbrev mks (l : List MkS) : AV := .sl 4 l mkC
def mgC (g : MgS) : List AV := [bl g.put, bl g.drop, mks g.marks]
abbrev mgs (l : List MgS) : AV := .sl 3 l mgC
def isReg (k : Int) : Prop := k = 4 ∨ k = 5
noncomputable instance (k : Int) : Decidable (isReg k) := Classical.propDecidable _
theorem register_p (t : TblS) : CallP Tryz.prog 189 [.agg (tblC t)] (bl (decide (isReg t.kind))) := by
  refine CallA.of pg ord189 Tryz.func189 rfl Tryz.ntmps189 Tryz.results189 rfl fun h0 G0 O0 => ?_
  repeat' (first | refine Sp.h ?_ | refine Lk.r rfl ?_ | refine Rf.mk rfl ?_ | (apply Bd.t; (focus (first | assumption | omega | rfl))) | (apply Bd.f; (focus (first | assumption | omega | exact Bool.false_ne_true))) | (refine Bd.mk ?_ ?_ <;> intro _) | (refine All.mk ?_; intro _) | (apply TkB.r; (focus (repeat (first | exact Take.here | apply Take.there)))) | (apply Nm.r; (focus repeat (first | apply LN.cons | exact LN.nil))) | fail)
  all_goals refine Fin.p rfl (vb ?_)
  all_goals first
    | exact decide_eq_decide.2 (by unfold isReg; omega)
    | exact (decide_eq_true (by unfold isReg; omega)).symm
theorem dot_p (x : MkS) : CallP Tryz.prog 276 [.agg (mkC x)] (dotC x.rep x.num) := by
  refine CallA.of pg ord276 Tryz.func276 rfl Tryz.ntmps276 Tryz.results276 rfl fun h0 G0 O0 => ?_
  repeat' (first | refine Sp.h ?_ | refine Lk.r rfl ?_ | refine Rf.mk rfl ?_ | (refine All.mk ?_; intro _) | (apply TkB.r; (focus (repeat (first | exact Take.here | apply Take.there)))) | (apply SetAsk.r; (focus (repeat (first | exact SetAs.z | (apply SetAs.c; (focus (repeat (first | assumption | exact SetA.z | apply SetA.s)))))))) | (apply Fk.r; (focus (repeat (first | exact FillA.nil | (apply FillA.agg; (focus rfl); (focus rfl); (focus (repeat (first | exact SetAs.z | (apply SetAs.c; (focus (repeat (first | assumption | exact SetA.z | apply SetA.s)))))))) | (apply FillA.one; (focus rfl); (focus infer_instance); (focus (repeat (first | assumption | exact SetA.z | apply SetA.s)))))))) | (apply Nm.r; (focus repeat (first | apply LN.cons | exact LN.nil))) | fail)
  exact Fin.p rfl rfl
noncomputable def lowT (t : TblS) : Int := if isReg t.kind then t.lo else 0
noncomputable def highT (t : TblS) : Int := if isReg t.kind then t.hi else 0
/-- What a mark of a cell of a table can be. -/
def RightK (t : TblS) (x : MkS) : Prop := (0 ≤ x.rep ∧ x.rep ≤ 4) ∧ (1 ≤ x.num ∧ x.num ≤ 1024) ∧ (1 ≤ x.time ∧ x.time ≤ 1073741824) ∧ lowT t ≤ x.val ∧ x.val ≤ highT t
noncomputable instance (t : TblS) (x : MkS) : Decidable (RightK t x) := Classical.propDecidable _
theorem right_p (t : TblS) (x : MkS) : CallP Tryz.prog 275 [.agg (tblC t), .agg (mkC x)] (bl (decide (RightK t x))) := by
  refine CallA.of pg ord275 Tryz.func275 rfl Tryz.ntmps275 Tryz.results275 rfl fun h0 G0 O0 => ?_
  by_cases hr : isReg t.kind
  · have hlo : lowT t = t.lo := if_pos hr
    have hhi : highT t = t.hi := if_pos hr
    repeat' (first | refine Sp.h ?_ | refine Lk.r rfl ?_ | refine Rf.mk rfl ?_ | (apply Bd.t; (focus (first | assumption | omega | rfl))) | (apply Bd.f; (focus (first | assumption | omega | exact Bool.false_ne_true))) | (refine Bd.mk ?_ ?_ <;> intro _) | refine OpK.r rfl ?_ | (refine All.mk ?_; intro _) | (apply TkB.r; (focus (repeat (first | exact Take.here | apply Take.there)))) | refine Ch.l ⟨rfl, rfl⟩ ?_ | (apply Nm.r; (focus repeat (first | apply LN.cons | exact LN.nil))) | (apply CA.draw; (focus rfl); (focus kernel_rfl); (focus kernel_rfl); (focus repeat' (first | apply ON.one | exact ON.done | exact ON.none | apply ON.alt)); (focus rfl)) | fail | (apply Cl.p (register_p _); (focus repeat' (first | exact Lend.nil | apply Lend.keep | fail))))
    all_goals refine Fin.p rfl (vb ?_)
    all_goals first
      | exact decide_eq_decide.2 (by unfold RightK; omega)
      | exact (decide_eq_false (by unfold RightK; omega)).symm
  · have hlo : lowT t = 0 := if_neg hr
    have hhi : highT t = 0 := if_neg hr
    repeat' (first | refine Sp.h ?_ | refine Lk.r rfl ?_ | refine Rf.mk rfl ?_ | (apply Bd.t; (focus (first | assumption | omega | rfl))) | (apply Bd.f; (focus (first | assumption | omega | exact Bool.false_ne_true))) | (refine Bd.mk ?_ ?_ <;> intro _) | (refine All.mk ?_; intro _) | (apply TkB.r; (focus (repeat (first | exact Take.here | apply Take.there)))) | refine Ch.l ⟨rfl, rfl⟩ ?_ | (apply Nm.r; (focus repeat (first | apply LN.cons | exact LN.nil))) | fail | (apply Cl.p (register_p _); (focus repeat' (first | exact Lend.nil | apply Lend.keep | fail))))
    all_goals refine Fin.p rfl (vb ?_)
    all_goals first
      | exact decide_eq_decide.2 (by unfold RightK; omega)
      | exact (decide_eq_false (by unfold RightK; omega)).symm
theorem isNaN_p (x : Int) : CallP Tryz.prog 224 [it x] (bl false) := by
  refine CallA.of pg ord224 Tryz.func224 rfl Tryz.ntmps224 Tryz.results224 rfl fun h0 G0 O0 => ?_
  repeat' (first | refine Sp.h ?_ | refine Lk.r rfl ?_ | refine Rf.mk rfl ?_ | (apply Nm.r; (focus repeat (first | apply LN.cons | exact LN.nil))) | fail)
  exact Fin.p rfl (vb (by simp))
def cmpI (x y : Int) : Int := if x < y then -1 else if y < x then 1 else 0
theorem compareI_p (x y : Int) : CallP Tryz.prog 146 [it x, it y] (it (cmpI x y)) := by
  refine CallA.of pg ord146 Tryz.func146 rfl Tryz.ntmps146 Tryz.results146 rfl fun h0 G0 O0 => ?_
  repeat' (first | refine Sp.h ?_ | refine Lk.r rfl ?_ | refine Rf.mk rfl ?_ | (refine Bd.mk ?_ ?_ <;> intro _) | (apply Nm.r; (focus repeat (first | apply LN.cons | exact LN.nil))) | fail | (apply Cl.p (isNaN_p _); (focus repeat' (first | exact Lend.nil | apply Lend.keep | fail))))
  all_goals refine Fin.p rfl ?_
  all_goals unfold cmpI
  all_goals congr 2
  all_goals repeat' split
  all_goals omega
def orI (l : List Int) : Int := (l.find? (fun x => decide (x ≠ 0))).getD 0
theorem orI_p (l : List Int) : CallP Tryz.prog 145 [ints l] (it (orI l)) := by
  refine CallA.of pg ord145 Tryz.func145 rfl Tryz.ntmps145 Tryz.results145 rfl fun h0 G0 O0 => ?_
  repeat' (first | refine Sp.h ?_ | refine Lk.r rfl ?_ | refine Rf.mk rfl ?_ | (refine Im.mk ?_; intro _) | fail)
  refine CA.loop (fun i : Nat => ⟨[(3, it 0), (6, ints l), (7, it (l.length : Nat)), (8, it i)], []⟩) (fun i => i ≤ l.length ∧ ∀ x ∈ l.take i, x = 0) (fun i => l.length - i) 0 ⟨by (repeat (first | exact trivial | refine ⟨rfl, ?_⟩)), by (repeat (first | exact Subl.nil | refine Subl.cons (by (repeat (first | exact Take.here | apply Take.there))) ?_))⟩ ⟨Nat.zero_le _, by simp⟩ ?_
  rintro i ⟨hi, ha⟩
  by_cases hin : i < l.length
  · obtain ⟨x, hx⟩ := get_of hin
    repeat' (first | refine Sp.h ?_ | refine Lk.r rfl ?_ | refine Rf.mk rfl ?_ | (apply Bd.t; (focus (first | assumption | omega | rfl))) | (refine Bd.mk ?_ ?_ <;> intro _) | (apply Ix.q; (focus exact rfl); (focus assumption)) | (apply Nm.r; (focus repeat (first | apply LN.cons | exact LN.nil))) | (apply Ov.n; (focus first | omega | (simp <;> omega))) | fail)
    · exact PA.lp (i + 1) ⟨by (repeat (first | exact trivial | refine ⟨rfl, ?_⟩)), by (repeat (first | exact Subl.nil | refine Subl.cons (by (repeat (first | exact Take.here | apply Take.there))) ?_))⟩ ⟨⟨hin, all_succ hx ha (by omega)⟩, by omega⟩
    · rename_i h
      refine Fin.p rfl ?_
      have hf : l.find? (fun x => decide (x ≠ 0)) = some x := find_at hx (by simpa using h) fun j y hj hy => by
        have := ha y (List.mem_of_getElem? (i := j) (by rw [List.getElem?_take, if_pos hj]; exact hy))
        simp [this]
      rw [orI, hf]; rfl
  have hie : i = l.length := by omega
  subst hie
  rw [List.take_length] at ha
  repeat' (first | refine Sp.h ?_ | refine Lk.r rfl ?_ | refine Rf.mk rfl ?_ | (apply Bd.f; (focus (first | assumption | omega | exact Bool.false_ne_true))) | (apply Nm.r; (focus repeat (first | apply LN.cons | exact LN.nil))) | fail)
  refine Fin.p rfl ?_
  have hf : l.find? (fun x => decide (x ≠ 0)) = none := List.find?_eq_none.2 fun x hx => by simp [ha x hx]
  rw [orI, hf]; rfl
def cmpK (a b : MkS) : Int := orI [cmpI a.time b.time, cmpI a.rep b.rep, cmpI a.num b.num]
theorem compareK_p (a b : MkS) : CallP Tryz.prog 277 [.agg (mkC a), .agg (mkC b)] (it (cmpK a b)) := by
  refine CallA.of pg ord277 Tryz.func277 rfl Tryz.ntmps277 Tryz.results277 rfl fun h0 G0 O0 => ?_
  repeat' (first | refine Sp.h ?_ | refine Lk.r rfl ?_ | refine Rf.mk rfl ?_ | refine OpK.r rfl ?_ | (refine All.mk ?_; intro _) | (apply TkB.r; (focus (repeat (first | exact Take.here | apply Take.there)))) | (apply Fk.r; (focus (repeat (first | exact FillA.nil | (apply FillA.agg; (focus rfl); (focus rfl); (focus (repeat (first | exact SetAs.z | (apply SetAs.c; (focus (repeat (first | assumption | exact SetA.z | apply SetA.s)))))))) | (apply FillA.one; (focus rfl); (focus infer_instance); (focus (repeat (first | assumption | exact SetA.z | apply SetA.s)))))))) | refine Rf.mk ⟨rfl, rfl, rfl⟩ ?_ | (apply CA.draw; (focus rfl); (focus kernel_rfl); (focus kernel_rfl); (focus repeat' (first | apply ON.one | exact ON.done | exact ON.none | apply ON.alt)); (focus rfl)) | fail | (apply Cl.p (compareI_p _ _); (focus repeat' (first | exact Lend.nil | apply Lend.keep | fail))))
  have h := orI_p [cmpI a.time b.time, cmpI a.rep b.rep, cmpI a.num b.num]
  (apply Cl.lend (h); (focus repeat' (first | exact Lend.nil | (apply Lend.lendm; (focus (repeat (first | exact Take.here | apply Take.there))); (focus rfl); (focus first | omega | decide | (simp; omega) | exact Nat.le_of_ble_eq_true rfl)) | fail)))
  repeat' (first | refine Sp.h ?_ | refine Lk.r rfl ?_ | refine OpK.r rfl ?_ | (apply Nm.r; (focus repeat (first | apply LN.cons | exact LN.nil))) | fail)
  exact Fin.p rfl rfl
/-- A mark stands ahead of another one. -/
def LtK (a b : MkS) : Prop := a.time < b.time ∨ a.time = b.time ∧ (a.rep < b.rep ∨ a.rep = b.rep ∧ a.num < b.num)
noncomputable instance (a b : MkS) : Decidable (LtK a b) := Classical.propDecidable _
theorem cmpK_neg {a b : MkS} : cmpK a b < 0 ↔ LtK a b := by
  unfold cmpK orI LtK cmpI
  by_cases h1 : a.time < b.time
  · simp [h1]
  by_cases h2 : b.time < a.time
  · simp [h1, h2]; omega
  have h3 : a.time = b.time := by omega
  by_cases h4 : a.rep < b.rep
  · simp [h3, h4]
  by_cases h5 : b.rep < a.rep
  · simp [h3, h4, h5]; omega
  have h6 : a.rep = b.rep := by omega
  by_cases h7 : a.num < b.num
  · simp [h3, h6, h7]
  by_cases h8 : b.num < a.num
  · simp [h3, h6, h7, h8]
  · simp [h3, h6, h7, h8]
theorem cmpK_pos {a b : MkS} : 0 < cmpK a b ↔ LtK b a := by
  unfold cmpK orI LtK cmpI
  by_cases h1 : a.time < b.time
  · simp [h1]; omega
  by_cases h2 : b.time < a.time
  · simp [h1, h2]
  have h3 : a.time = b.time := by omega
  by_cases h4 : a.rep < b.rep
  · simp [h3, h4]; omega
  by_cases h5 : b.rep < a.rep
  · simp [h3, h4, h5]
  have h6 : a.rep = b.rep := by omega
  by_cases h7 : a.num < b.num
  · simp [h3, h6, h7]; omega
  by_cases h8 : b.num < a.num
  · simp [h3, h6, h7, h8]
  · simp [h3, h6, h7, h8]
end Go.Proofs.YtmllihbhphnolaaGreat
namespace Go.Proofs.YtmllihbhphnolaaGreat
open Go Go.CF
set_option maxRecDepth 20000
abbrev rI : Rp Int := Rp.int .i64
theorem rdStr : RdT Tryz.prog 9 Rp.str := RdT.str Tryz.underlying9 (by kernel_rfl)
theorem rdBool : RdT Tryz.prog 4 Rp.bool := RdT.bool Tryz.underlying4 (by kernel_rfl)
def Rp.rng : Rp (Int × Int × Unit) := rI.pair (rI.pair Rp.unit)
theorem rdRng : RdT Tryz.prog 155 Rp.rng := RdT.struct Tryz.underlying155 rfl (by kernel_rfl) (RdF.cons rfl rdInt rfl (RdF.cons rfl rdInt rfl RdF.nil))
def Rp.table : Rp TblS := (Rp.str.pair (rI.pair (rI.slice.pair (Rp.rng.pair (rI.pair Rp.unit))))).iso fun t : TblS => (t.name, t.kind, t.cols, (t.lo, t.hi, ()), t.first, ())
theorem rdTable : RdT Tryz.prog 157 Rp.table := RdT.iso (RdT.struct Tryz.underlying157 rfl (by kernel_rfl) (RdF.cons rfl rdStr rfl (RdF.cons rfl rdInt rfl (RdF.cons rfl rdInts rfl (RdF.cons rfl rdRng rfl (RdF.cons rfl rdInt rfl RdF.nil)))))) _ (fun x => ⟨x.1, x.2.1, x.2.2.1, x.2.2.2.1.1, x.2.2.2.1.2.1, x.2.2.2.2.1⟩) (fun _ => rfl)
theorem avTable : Avr Rp.table tblC := ((Avr.str.pair (Avr.int.pair (avInts.pair ((Avr.int.pair (Avr.int.pair Avr.unit)).pair (Avr.int.pair Avr.unit))))).iso _).cast fun _ => rfl
def Rp.term : Rp (Int × Int) := (rI.pair (rI.pair Rp.unit)).iso fun t : Int × Int => (t.1, t.2, ())
theorem avTerm : Avr Rp.term rngC := ((Avr.int.pair (Avr.int.pair Avr.unit)).iso _).cast fun _ => rfl
theorem rdTerm : RdT Tryz.prog 220 Rp.term := RdT.iso (RdT.struct Tryz.underlying220 rfl (by kernel_rfl) (RdF.cons rfl rdInt rfl (RdF.cons rfl rdInt rfl RdF.nil))) _ (fun x => (x.1, x.2.1)) (fun _ => rfl)
theorem rdChange : RdT Tryz.prog 160 Rp.term := RdT.iso (RdT.struct Tryz.underlying160 rfl (by kernel_rfl) (RdF.cons rfl rdInt rfl (RdF.cons rfl rdInt rfl RdF.nil))) _ (fun x => (x.1, x.2.1)) (fun _ => rfl)
def Rp.row : Rp RowS := (Rp.term.slice.pair (rI.pair Rp.unit)).iso fun r : RowS => (r.terms, r.bound, ())
theorem rdRow : RdT Tryz.prog 223 Rp.row := RdT.iso (RdT.struct Tryz.underlying223 rfl (by kernel_rfl) (RdF.cons rfl (RdT.slice Tryz.underlying221 (by kernel_rfl) rdTerm (by decide)) rfl (RdF.cons rfl rdInt rfl RdF.nil))) _ (fun x => ⟨x.1, x.2.1⟩) (fun _ => rfl)
theorem avRow : Avr Rp.row rowC := ((avTerm.slice.pair (Avr.int.pair Avr.unit)).iso _).cast fun _ => rfl
def Rp.cns : Rp CnsS := (rI.pair (rI.pair (Rp.row.pair (rI.pair (rI.pair Rp.unit))))).iso fun c : CnsS => (c.kind, c.family, c.row, c.first, c.size, ())
theorem rdCns : RdT Tryz.prog 225 Rp.cns := RdT.iso (RdT.struct Tryz.underlying225 rfl (by kernel_rfl) (RdF.cons rfl rdInt rfl (RdF.cons rfl rdInt rfl (RdF.cons rfl rdRow rfl (RdF.cons rfl rdInt rfl (RdF.cons rfl rdInt rfl RdF.nil)))))) _ (fun x => ⟨x.1, x.2.1, x.2.2.1, x.2.2.2.1, x.2.2.2.2.1⟩) (fun _ => rfl)
theorem avCns : Avr Rp.cns cnsC := ((Avr.int.pair (Avr.int.pair (avRow.pair (Avr.int.pair (Avr.int.pair Avr.unit))))).iso _).cast fun _ => rfl
def Rp.op : Rp OpS := (Rp.str.pair (Rp.bool.pair (rI.slice.pair Rp.unit))).iso fun o : OpS => (o.name, o.ordered, o.sorts, ())
theorem rdOp : RdT Tryz.prog 227 Rp.op := RdT.iso (RdT.struct Tryz.underlying227 rfl (by kernel_rfl) (RdF.cons rfl rdStr rfl (RdF.cons rfl rdBool rfl (RdF.cons rfl rdInts rfl RdF.nil)))) _ (fun x => ⟨x.1, x.2.1, x.2.2.1⟩) (fun _ => rfl)
theorem avOp : Avr Rp.op opC := ((Avr.str.pair (Avr.bool.pair (avInts.pair Avr.unit))).iso _).cast fun _ => rfl
def Rp.upd : Rp (Int × Int × Int) := (rI.pair (rI.pair (rI.pair Rp.unit))).iso fun u : Int × Int × Int => (u.1, u.2.1, u.2.2, ())
theorem rdUpd : RdT Tryz.prog 153 Rp.upd := RdT.iso (RdT.struct Tryz.underlying153 rfl (by kernel_rfl) (RdF.cons rfl rdInt rfl (RdF.cons rfl rdInt rfl (RdF.cons rfl rdInt rfl RdF.nil)))) _ (fun x => (x.1, x.2.1, x.2.2.1)) (fun _ => rfl)
theorem rdHide : RdT Tryz.prog 303 Rp.upd := RdT.iso (RdT.struct Tryz.underlying303 rfl (by kernel_rfl) (RdF.cons rfl rdInt rfl (RdF.cons rfl rdInt rfl (RdF.cons rfl rdInt rfl RdF.nil)))) _ (fun x => (x.1, x.2.1, x.2.2.1)) (fun _ => rfl)
theorem avUpd : Avr Rp.upd updC := ((Avr.int.pair (Avr.int.pair (Avr.int.pair Avr.unit))).iso _).cast fun _ => rfl
def Rp.eff : Rp EffS := (Rp.term.slice.pair (Rp.row.slice.pair (Rp.upd.slice.pair Rp.unit))).iso fun x : EffS => (x.delta, x.hold, x.updates, ())
theorem rdEff : RdT Tryz.prog 149 Rp.eff := RdT.iso (RdT.struct Tryz.underlying149 rfl (by kernel_rfl) (RdF.cons rfl (RdT.slice Tryz.underlying145 (by kernel_rfl) rdChange (by decide)) rfl (RdF.cons rfl (RdT.slice Tryz.underlying146 (by kernel_rfl) rdRow (by decide)) rfl (RdF.cons rfl (RdT.slice Tryz.underlying147 (by kernel_rfl) rdUpd (by decide)) rfl RdF.nil)))) _ (fun x => ⟨x.1, x.2.1, x.2.2.1⟩) (fun _ => rfl)
theorem avEff : Avr Rp.eff effC := ((avTerm.slice.pair (avRow.slice.pair (avUpd.slice.pair Avr.unit))).iso _).cast fun _ => rfl
def Rp.act : Rp ActS := (rI.pair (rI.slice.pair (Rp.eff.pair Rp.unit))).iso fun a : ActS => (a.op, a.args, a.eff, ())
theorem rdAct : RdT Tryz.prog 151 Rp.act := RdT.iso (RdT.struct Tryz.underlying151 rfl (by kernel_rfl) (RdF.cons rfl rdInt rfl (RdF.cons rfl rdInts rfl (RdF.cons rfl rdEff rfl RdF.nil)))) _ (fun x => ⟨x.1, x.2.1, x.2.2.1⟩) (fun _ => rfl)
theorem avAct : Avr Rp.act actC := ((Avr.int.pair (avInts.pair (avEff.pair Avr.unit))).iso _).cast fun _ => rfl
def Rp.model : Rp ModS := (rI.slice.pair (Rp.table.slice.pair (Rp.str.slice.pair (Rp.cns.slice.pair (Rp.op.slice.pair (Rp.act.slice.pair (Rp.upd.slice.pair Rp.unit))))))).iso fun m : ModS => (m.sorts, m.tables, m.families, m.cons, m.ops, m.acts, m.hides, ())
theorem rdModel : RdT Tryz.prog 30 Rp.model := RdT.iso (RdT.struct Tryz.underlying30 rfl (by kernel_rfl) (RdF.cons rfl rdInts rfl
  (RdF.cons rfl (RdT.slice Tryz.underlying23 (by kernel_rfl) rdTable (by decide)) rfl (RdF.cons rfl (RdT.slice Tryz.underlying24 (by kernel_rfl) rdStr (by decide)) rfl
  (RdF.cons rfl (RdT.slice Tryz.underlying25 (by kernel_rfl) rdCns (by decide)) rfl (RdF.cons rfl (RdT.slice Tryz.underlying26 (by kernel_rfl) rdOp (by decide)) rfl
  (RdF.cons rfl (RdT.slice Tryz.underlying27 (by kernel_rfl) rdAct (by decide)) rfl (RdF.cons rfl (RdT.slice Tryz.underlying28 (by kernel_rfl) rdHide (by decide)) rfl RdF.nil)))))))) _
  (fun x => ⟨x.1, x.2.1, x.2.2.1, x.2.2.2.1, x.2.2.2.2.1, x.2.2.2.2.2.1, x.2.2.2.2.2.2.1⟩) (fun _ => rfl)
theorem avModel : Avr Rp.model modC := ((avInts.pair (avTable.slice.pair (Avr.str.slice.pair (avCns.slice.pair (avOp.slice.pair (avAct.slice.pair (avUpd.slice.pair Avr.unit))))))).iso _).cast fun _ => rfl
end Go.Proofs.YtmllihbhphnolaaGreat
namespace Go.Proofs.YtmllihbhphnolaaGreat
open Go Go.CF Go.ChangeShapes Go.WideShapes Go.ChangeAt Go.RowKit
set_option maxRecDepth 100000
def rng (x : Int) : Prop := -9223372036854775808 ≤ x ∧ x ≤ 9223372036854775807
theorem aggArg {W : World} {r : Reach} {b : Nat} {t : TypeId} {v : Value} {fs : Array Field} (ht : Tryz.prog.underlying t = some (.struct fs)) (hv : Value.okWide Tryz.prog W r b t v) : v = .agg v.cells := by
  cases v with
  | agg c => rfl
  | _ => simp [Value.okWide, ht] at hv
end Go.Proofs.YtmllihbhphnolaaGreat
namespace Go.Proofs.YtmllihbhphnolaaGreat
open Go Go.CF Go.ChangeShapes Go.WideShapes Go.ChangeAt Go.RowKit
set_option maxRecDepth 100000

theorem storeMakes_lift (os : Os) (started : os.Started) (H : Type) (enc : TypeId × Value → H)
    (walk : ∀ (h : Heap) (v0 : Value) (l0 : ModS) (v1 : Value) (l1 : (List Int)) (v2 : Value) (l2 : (List EvS)) (x3 : Int) (v4 : Value) (l4 : EvS), v0 = .agg v0.cells → Rp.model.R h (Old h) v0.cells.toList l0 → (Rp.int .i64).slice.R h (Old h) [v1] l1 → Rp.event.slice.R h (Old h) [v2] l2 → rng x3 → v4 = .agg v4.cells → Rp.event.R h (Old h) v4.cells.toList l4 → CallsH Tryz.prog 3 #[v0, v1, v2, .int .i64 x3, v4] h fun x h' => x = .bool true ∧ Stp [] h h') :
    ReturnsInHanded {} Tryz.checked os 3 .any (Rows.storeMakesSpec.pre6 enc Tryz.prog Tryz.f3 Rows.storeMakesRow.domain false) (Rows.storeMakesSpec.post enc Tryz.prog Tryz.f3 false true false false) := by
  refine returnsInHanded_of_change (C := Tryz.checked) knob started (by kernel_rfl) Tryz.func3
    (ChangeSpec.witness6 (enc := enc) (C := Tryz.checked) false ⟨#[], #[.agg #[.slice none 0 0, .slice none 0 0, .slice none 0 0, .slice none 0 0, .slice none 0 0, .slice none 0 0, .slice none 0 0], .slice none 0 0, .slice none 0 0, .int .i64 0, .agg #[.int .i64 0, .int .i64 0, .int .i64 0, .slice none 0 0, .int .i64 0, .int .i64 0, .int .i64 0, .int .i64 0, .int .i64 0, .int .i64 0, .int .i64 0, .int .i64 0, .int .i64 0]], []⟩ 8 (by kernel_rfl) (by kernel_rfl) (by kernel_rfl) (by kernel_rfl)) ?_
  intro W base args ds gs before hval0 hW hcnd _
  have hW' := hW
  have hval : ∀ (j : Nat) t v, Tryz.f3.params[j]? = some t → args[j]? = some v → Value.okWide Tryz.prog W .any base t v := hval0
  obtain ⟨p, q, hA0, hV, rfl, hfz, hnd⟩ := hW
  have hA : DataW.TrodAll enc Tryz.prog W 0 (fun _ => true) true Tryz.f3.params.toList args.toList ds p := hA0
  rw [Tryz.params3] at hA hval
  obtain ⟨v0, vs0, d0, ds0, p0, q0, e0, rfl, h0, hA⟩ := CF.trodAll_cons hA
  obtain ⟨v1, vs1, d1, ds1, p1, q1, rfl, rfl, h1, hA⟩ := CF.trodAll_cons hA
  obtain ⟨v2, vs2, d2, ds2, p2, q2, rfl, rfl, h2, hA⟩ := CF.trodAll_cons hA
  obtain ⟨v3, vs3, d3, ds3, p3, q3, rfl, rfl, h3, hA⟩ := CF.trodAll_cons hA
  obtain ⟨v4, vs4, d4, ds4, p4, q4, rfl, rfl, h4, hA⟩ := CF.trodAll_cons hA
  obtain ⟨rfl, rfl⟩ := CF.trodAll_end hA
  obtain rfl : args = #[v0, v1, v2, v3, v4] := Array.ext' e0
  obtain ⟨l0, hl0⟩ := rdModel.arg h0
  have ha0 := aggArg Tryz.underlying30 (hval 0 30 v0 rfl rfl)
  obtain ⟨l1, hl1⟩ := rdInts.arg h1
  have hl1 := sliceArg Tryz.underlying22 (hval 1 22 v1 rfl rfl) hl1
  obtain ⟨l2, hl2⟩ := rdEvs.arg h2
  have hl2 := sliceArg Tryz.underlying31 (hval 2 31 v2 rfl rfl) hl2
  obtain ⟨x3, rfl, rfl, rfl, w3⟩ := open_int Tryz.underlying3 (hval 3 3 v3 rfl rfl) h3
  obtain ⟨l4, hl4⟩ := rdEv.arg h4
  have ha4 := aggArg Tryz.underlying37 (hval 4 37 v4 rfl rfl)
  refine law_contract laid (tb := 4) (by rw [Tryz.params3]; intro t ht; simp at ht; (repeat' (rcases ht with rfl | ht)) <;> exact ⟨by kernel_rfl, of_decide_eq_true (by kernel_rfl)⟩) rfl (by rfl) Tryz.underlying4 rfl hW' ?_
  exact walk W.heap v0 l0 v1 l1 v2 l2 x3 v4 l4 ha0 hl0 hl1 hl2 (wf_i64.1 w3) ha4 hl4

theorem storeMakes_j1 : (Rows.storeMakesRow.inPlace == Tryz.pinned.checked.prog.inPlace 3) = true := by kernel_rfl
theorem storeMakes_j2 : (Rows.storeMakesRow.unfollowed == Tryz.pinned.checked.prog.unfollowed 3) = true := by kernel_rfl
theorem storeMakes_j3 : (Rows.storeMakesRow.recurses == Tryz.pinned.checked.prog.recurses 3) = true := by kernel_rfl
theorem storeMakes_j4 : (Rows.storeMakesRow.named == Tryz.pinned.checked.prog.varsNamed 3) = true := by kernel_rfl
theorem storeMakes_joined : joinedFacts Tryz.pinned.checked.prog 3 Tryz.f3 Rows.storeMakesSpec Rows.storeMakesRow = true := by
  unfold joinedFacts
  rw [storeMakes_j1, storeMakes_j2, storeMakes_j3, storeMakes_j4]
  kernel_rfl

theorem storeMakes_of (walk : ∀ (h : Heap) (v0 : Value) (l0 : ModS) (v1 : Value) (l1 : (List Int)) (v2 : Value) (l2 : (List EvS)) (x3 : Int) (v4 : Value) (l4 : EvS), v0 = .agg v0.cells → Rp.model.R h (Old h) v0.cells.toList l0 → (Rp.int .i64).slice.R h (Old h) [v1] l1 → Rp.event.slice.R h (Old h) [v2] l2 → rng x3 → v4 = .agg v4.cells → Rp.event.R h (Old h) v4.cells.toList l4 → CallsH Tryz.prog 3 #[v0, v1, v2, .int .i64 x3, v4] h fun x h' => x = .bool true ∧ Stp [] h h') :
    Rows.StoreMakesSaid :=
  OpenClaim.holds_of_wide (p := Tryz.pinned) (s := Rows.storeMakesSpec) (c := Rows.storeMakesRow) 3 Tryz.f3 rfl rfl rfl rfl rfl rfl rfl ⟨rfl, rfl, rfl, rfl, rfl⟩ rfl rfl rfl rfl rfl (by kernel_rfl) Tryz.func3 storeMakes_joined
    (of_decide_eq_true (by kernel_rfl)) (by unfold Func.isWrapper; first | (rw [if_pos (by decide +kernel)]; kernel_rfl) | (rw [if_neg (by decide +kernel)]; exact ⟨rfl, rfl⟩))
    (fun os started H enc _ => storeMakes_lift os started H enc walk)
end Go.Proofs.YtmllihbhphnolaaGreat
namespace Go.Proofs.YtmllihbhphnolaaGreat
open Go Go.CF
set_option maxRecDepth 20000
def Nm (x y : MkS) : Prop := x.rep = y.rep ∧ x.num = y.num
/-- The marks of a cell of a table, up to some place. -/
def MksTo (t : TblS) (l : List MkS) (n : Nat) : Prop := ∀ i x, i < n → l[i]? = some x → RightK t x ∧ (∀ j y, j < i → l[j]? = some y → ¬ Nm y x) ∧ (∀ y, 0 < i → l[i - 1]? = some y → ¬ LtK x y)
def GenG (t : TblS) (g : MgS) : Prop := (g.drop = true → t.kind = 3) ∧ ¬ (g.put = true ∧ isReg t.kind) ∧ ¬ (t.kind = 4 ∧ 1 < g.marks.length) ∧ g.marks.length ≤ 1024
/-- What can be known of a cell of a table. -/
def ValG (t : TblS) (g : MgS) : Prop := GenG t g ∧ MksTo t g.marks g.marks.length
noncomputable instance (t : TblS) (g : MgS) : Decidable (ValG t g) := Classical.propDecidable _
def namesL (l : List MkS) : List (List Int × Bool) := l.map fun x => ([x.rep, x.num], true)
def HasNm (l : List MkS) (x : MkS) : Prop := ∃ y ∈ l, Nm y x
noncomputable instance (l : List MkS) (x : MkS) : Decidable (HasNm l x) := Classical.propDecidable _
theorem names_look (l : List MkS) (x : MkS) : lookL (namesL l) [x.rep, x.num] = if HasNm l x then some true else none := by
  induction l with
  | nil => simp [namesL, lookL, HasNm]
  | cons a l ih =>
    simp only [namesL, lookL, List.map_cons, List.find?_cons] at ih ⊢
    by_cases h : Nm a x
    · rw [if_pos ⟨a, by simp, h⟩]
      simp [h.1, h.2]
    · have h2 : decide ([a.rep, a.num] = [x.rep, x.num]) = false := by simpa [Nm] using h
      rw [h2]
      rw [ih]
      have e : HasNm l x ↔ HasNm (a :: l) x := by simp [HasNm, h]
      by_cases hh : HasNm l x
      · rw [if_pos hh, if_pos (e.1 hh)]
      · rw [if_neg hh, if_neg (fun h9 => hh (e.2 h9))]
theorem names_app {l : List MkS} {i : Nat} {x : MkS} (hx : l[i]? = some x) (hn : lookL (namesL (l.take i)) [x.rep, x.num] = none) : updL (namesL (l.take i)) [x.rep, x.num] true = namesL (l.take (i + 1)) := by
  rw [updL_none _ _ _ hn, List.take_add_one, hx]; simp [namesL]
theorem mksTo_zero (t : TblS) (l : List MkS) : MksTo t l 0 := fun i x h => by omega
theorem mksTo_succ {t : TblS} {l : List MkS} {i : Nat} {x : MkS} (hx : l[i]? = some x) (h : MksTo t l i) (h1 : RightK t x) (h2 : ∀ j y, j < i → l[j]? = some y → ¬ Nm y x) (h3 : ∀ y, 0 < i → l[i - 1]? = some y → ¬ LtK x y) : MksTo t l (i + 1) := by
  intro k y hk hy
  by_cases hki : k = i
  · subst hki; rw [hx] at hy; cases hy; exact ⟨h1, h2, h3⟩
  · exact h k y (by omega) hy
set_option maxHeartbeats 4000000 in
theorem valid34_p (t : TblS) (g : MgS) : CallP Tryz.prog 244 [.agg (tblC t), .agg (mgC g)] (bl (decide (ValG t g))) := by
  obtain ⟨put, drop, l⟩ := g
  have no : ∀ {p : Prop}, (p → False) → ¬ p := fun h => h
  refine CallA.of pg ord244 Tryz.func244 rfl Tryz.ntmps244 Tryz.results244 rfl fun h0 G0 O0 => ?_
  by_cases hg : GenG t ⟨put, drop, l⟩
  · have g1 : drop = true → t.kind = 3 := hg.1
    have g2 : put = true → ¬ isReg t.kind := fun h h' => hg.2.1 ⟨h, h'⟩
    have g3 : ¬ (t.kind = 4 ∧ 1 < l.length) := hg.2.2.1
    have g4 : l.length ≤ 1024 := hg.2.2.2
    repeat' (first | refine Sp.h ?_ | refine Lk.r rfl ?_ | refine Rf.mk rfl ?_ | (apply Bd.t; (focus (first | assumption | omega | rfl))) | (apply Bd.f; (focus (first | assumption | omega | exact Bool.false_ne_true))) | (refine Bd.mk ?_ ?_ <;> intro _) | (refine Im.mk ?_; intro _) | (refine All.mk ?_; intro _) | (apply TkB.r; (focus (repeat (first | exact Take.here | apply Take.there)))) | refine Ch.l ⟨rfl, rfl⟩ ?_ | (apply Nm.r; (focus repeat (first | apply LN.cons | exact LN.nil))) | fail | (apply Cl.p (register_p _); (focus repeat' (first | exact Lend.nil | apply Lend.keep | fail))))
    all_goals try exact absurd (by assumption) (g2 (by assumption))
    all_goals try exact absurd (g1 (by assumption)) (by assumption)
    all_goals try exact (g3 ⟨by omega, by omega⟩).elim
    all_goals try (simp only at *; omega)
    all_goals refine MkM.r bl ?_
    all_goals repeat' (first | refine Sp.h ?_ | refine Lk.r rfl ?_ | refine Rf.mk rfl ?_ | (refine Im.mk ?_; intro _) | (refine All.mk ?_; intro _) | (apply TkB.r; (focus (repeat (first | exact Take.here | apply Take.there)))) | fail)
    all_goals refine CA.loop (fun i : Nat => ⟨[(2, pm _), (3, pm _), (5, .val (.map (some _))), (42, mks l), (43, it (l.length : Nat)), (44, it i)], [blkR _ 157 (tblC t), blkR _ 123 (mgC ⟨put, drop, l⟩), mapR Tryz.prog _ 53 (namesL (l.take i)) bl]⟩) (fun i => i ≤ l.length ∧ MksTo t l i) (fun i => l.length - i) 0 ⟨by (repeat (first | exact trivial | refine ⟨rfl, ?_⟩)), by (repeat (first | exact Subl.nil | refine Subl.cons (by (repeat (first | exact Take.here | apply Take.there))) ?_))⟩ ⟨Nat.zero_le _, mksTo_zero t l⟩ ?_
    all_goals
      rintro i ⟨hi, hm⟩
      by_cases hin : i < l.length
      · obtain ⟨x, hx⟩ := get_of hin
        have hlk := names_look (l.take i) x
        by_cases hdup : HasNm (l.take i) x
        · rw [if_pos hdup] at hlk
          repeat' (first | refine Sp.h ?_ | refine Lk.r rfl ?_ | refine Rf.mk rfl ?_ | (apply Bd.t; (focus (first | assumption | omega | rfl))) | (apply Bd.f; (focus (first | assumption | omega | exact Bool.false_ne_true))) | (refine Bd.mk ?_ ?_ <;> intro _) | refine OpK.r rfl ?_ | (refine All.mk ?_; intro _) | (apply TkB.r; (focus (repeat (first | exact Take.here | apply Take.there)))) | (apply Ix.q; (focus exact rfl); (focus assumption)) | refine Ch.l ⟨rfl, rfl⟩ ?_ | (apply SetAsk.r; (focus (repeat (first | exact SetAs.z | (apply SetAs.c; (focus (repeat (first | assumption | exact SetA.z | apply SetA.s)))))))) | (apply Nm.r; (focus repeat (first | apply LN.cons | exact LN.nil))) | (apply Il.r; (focus repeat (first | apply ILit.cons | exact ILit.nil))) | (apply Kf.mk; (focus kernel_rfl)) | (apply TkM.r; (focus (repeat (first | exact Take.here | apply Take.there)))) | (apply LkM.s; (focus first | assumption | rfl)) | (apply CA.draw; (focus rfl); (focus kernel_rfl); (focus kernel_rfl); (focus repeat' (first | apply ON.one | exact ON.done | exact ON.none | apply ON.alt)); (focus rfl)) | fail | (apply Cl.p (right_p _ _); (focus repeat' (first | exact Lend.nil | apply Lend.keep | fail))) | (apply Cl.p (dot_p _); (focus repeat' (first | exact Lend.nil | apply Lend.keep | fail))))
          all_goals refine Fin.p rfl (vb (decide_eq_false (fun h => ?_)).symm)
          all_goals
            obtain ⟨h1, h2, -⟩ := h.2 i x hin hx
            first
              | exact absurd h1 (by assumption)
              | (obtain ⟨y, hy, hn⟩ := hdup
                 obtain ⟨j, hj⟩ := List.getElem?_of_mem hy
                 have hji : j < i := by have := (List.getElem?_eq_some_iff.1 hj).1; rw [List.length_take] at this; omega
                 rw [List.getElem?_take, if_pos hji] at hj
                 exact h2 j y hji hj hn)
        · rw [if_neg hdup] at hlk
          have hap := names_app hx hlk
          have hd : ∀ j y, j < i → l[j]? = some y → ¬ Nm y x := fun j y hj hy hn => hdup ⟨y, List.mem_of_getElem? (i := j) (by rw [List.getElem?_take, if_pos hj]; exact hy), hn⟩
          rcases Nat.eq_zero_or_pos i with h0 | h0
          · subst h0
            repeat' (first | refine Sp.h ?_ | refine Lk.r rfl ?_ | refine Rf.mk rfl ?_ | (apply Bd.t; (focus (first | assumption | omega | rfl))) | (apply Bd.f; (focus (first | assumption | omega | exact Bool.false_ne_true))) | (refine Bd.mk ?_ ?_ <;> intro _) | refine OpK.r rfl ?_ | (refine All.mk ?_; intro _) | (apply TkB.r; (focus (repeat (first | exact Take.here | apply Take.there)))) | (apply Ix.q; (focus exact rfl); (focus assumption)) | refine Ch.l ⟨rfl, rfl⟩ ?_ | (apply SetAsk.r; (focus (repeat (first | exact SetAs.z | (apply SetAs.c; (focus (repeat (first | assumption | exact SetA.z | apply SetA.s)))))))) | (apply Nm.r; (focus repeat (first | apply LN.cons | exact LN.nil))) | (apply Il.r; (focus repeat (first | apply ILit.cons | exact ILit.nil))) | (apply Kf.mk; (focus kernel_rfl)) | (apply TkM.r; (focus (repeat (first | exact Take.here | apply Take.there)))) | refine UpV.r rfl ?_ | (apply Zx.b; (focus rfl)) | (apply LkM.n; (focus first | assumption | rfl)) | (apply CA.draw; (focus rfl); (focus kernel_rfl); (focus kernel_rfl); (focus repeat' (first | apply ON.one | exact ON.done | exact ON.none | apply ON.alt)); (focus rfl)) | (apply Ov.n; (focus first | omega | (simp <;> omega))) | fail | (apply Cl.p (right_p _ _); (focus repeat' (first | exact Lend.nil | apply Lend.keep | fail))) | (apply Cl.p (dot_p _); (focus repeat' (first | exact Lend.nil | apply Lend.keep | fail))))
            all_goals first
              | (refine Fin.p rfl (vb (decide_eq_false (fun h => ?_)).symm)
                 exact absurd (h.2 0 x hin hx).1 (by assumption))
              | (rw [hap]
                 exact PA.lp 1 ⟨by (repeat (first | exact trivial | refine ⟨rfl, ?_⟩)), by (repeat (first | exact Subl.nil | refine Subl.cons (by (repeat (first | exact Take.here | apply Take.there))) ?_))⟩ ⟨⟨hin, mksTo_succ hx hm (by assumption) hd (fun y h _ => absurd h (Nat.lt_irrefl 0))⟩, by omega⟩)
          · obtain ⟨k, rfl⟩ : ∃ k, i = k + 1 := ⟨i - 1, by omega⟩
            obtain ⟨y, hy⟩ := get_of (l := l) (i := k) (by omega)
            have hk4 : ¬ t.kind = 4 := fun h => g3 ⟨h, by omega⟩
            have hcm := cmpK_pos (a := y) (b := x)
            first
              | exact absurd (by assumption) hk4
              | skip
            all_goals repeat' (first | refine Sp.h ?_ | refine Lk.r rfl ?_ | refine Rf.mk rfl ?_ | (apply Bd.t; (focus (first | assumption | omega | rfl))) | (apply Bd.f; (focus (first | assumption | omega | exact Bool.false_ne_true))) | (refine Bd.mk ?_ ?_ <;> intro _) | refine OpK.r rfl ?_ | (refine All.mk ?_; intro _) | (apply TkB.r; (focus (repeat (first | exact Take.here | apply Take.there)))) | (apply Ix.q; (focus exact rfl); (focus assumption)) | (apply Ix.r; (focus assumption); (focus omega)) | refine Ch.l ⟨rfl, rfl⟩ ?_ | (apply SetAsk.r; (focus (repeat (first | exact SetAs.z | (apply SetAs.c; (focus (repeat (first | assumption | exact SetA.z | apply SetA.s)))))))) | (apply Nm.r; (focus repeat (first | apply LN.cons | exact LN.nil))) | (apply Il.r; (focus repeat (first | apply ILit.cons | exact ILit.nil))) | (apply Kf.mk; (focus kernel_rfl)) | (apply TkM.r; (focus (repeat (first | exact Take.here | apply Take.there)))) | (apply Zx.b; (focus rfl)) | (apply LkM.n; (focus first | assumption | rfl)) | (apply CA.draw; (focus rfl); (focus kernel_rfl); (focus kernel_rfl); (focus repeat' (first | apply ON.one | exact ON.done | exact ON.none | apply ON.alt)); (focus rfl)) | (apply Ov.n; (focus first | omega | (simp <;> omega))) | fail | (apply Cl.p (right_p _ _); (focus repeat' (first | exact Lend.nil | apply Lend.keep | fail))) | (apply Cl.p (dot_p _); (focus repeat' (first | exact Lend.nil | apply Lend.keep | fail))))
            all_goals try (refine Fin.p rfl (vb (decide_eq_false (fun h => ?_)).symm); exact absurd (h.2 (k + 1) x hin hx).1 (by assumption))
            all_goals repeat' (first | refine Sp.h ?_ | refine Lk.r rfl ?_ | refine Rf.mk rfl ?_ | (apply Bd.t; (focus (first | assumption | omega | rfl))) | (refine Bd.mk ?_ ?_ <;> intro _) | refine OpK.r rfl ?_ | (apply TkB.r; (focus (repeat (first | exact Take.here | apply Take.there)))) | refine Ch.l ⟨rfl, rfl⟩ ?_ | (apply Nm.r; (focus repeat (first | apply LN.cons | exact LN.nil))) | (apply Il.r; (focus repeat (first | apply ILit.cons | exact ILit.nil))) | (apply Kf.mk; (focus kernel_rfl)) | (apply TkM.r; (focus (repeat (first | exact Take.here | apply Take.there)))) | refine UpV.r rfl ?_ | (apply Ov.n; (focus first | omega | (simp <;> omega))) | fail | (apply Cl.p (compareK_p _ _); (focus repeat' (first | exact Lend.nil | apply Lend.keep | fail))) | (apply Cl.p (dot_p _); (focus repeat' (first | exact Lend.nil | apply Lend.keep | fail))))
            all_goals first
              | (refine Fin.p rfl (vb (decide_eq_false (fun h => ?_)).symm)
                 exact (h.2 (k + 1) x hin hx).2.2 y h0 hy (hcm.1 (by assumption)))
              | (rw [hap]
                 exact PA.lp (k + 1 + 1) ⟨by (repeat (first | exact trivial | refine ⟨rfl, ?_⟩)), by (repeat (first | exact Subl.nil | refine Subl.cons (by (repeat (first | exact Take.here | apply Take.there))) ?_))⟩ ⟨⟨hin, mksTo_succ hx hm (by assumption) hd (fun z _ hz => by rw [show k + 1 - 1 = k from rfl, hy] at hz; cases hz; exact fun h => absurd (hcm.2 h) (by assumption))⟩, by omega⟩)
      · have hie : i = l.length := by omega
        subst hie
        repeat' (first | refine Sp.h ?_ | refine Lk.r rfl ?_ | refine Rf.mk rfl ?_ | (apply Bd.f; (focus (first | assumption | omega | exact Bool.false_ne_true))) | (apply Nm.r; (focus repeat (first | apply LN.cons | exact LN.nil))) | fail)
        exact Fin.p rfl (vb (decide_eq_true (show ValG t ⟨put, drop, l⟩ from ⟨hg, hm⟩)).symm)
  · have hng : ¬ ValG t ⟨put, drop, l⟩ := fun h => hg h.1
    unfold GenG at hg
    repeat' (first | refine Sp.h ?_ | refine Lk.r rfl ?_ | refine Rf.mk rfl ?_ | (apply Bd.t; (focus (first | assumption | omega | rfl))) | (apply Bd.f; (focus (first | assumption | omega | exact Bool.false_ne_true))) | (refine Bd.mk ?_ ?_ <;> intro _) | (refine Im.mk ?_; intro _) | (refine All.mk ?_; intro _) | (apply TkB.r; (focus (repeat (first | exact Take.here | apply Take.there)))) | refine Ch.l ⟨rfl, rfl⟩ ?_ | (apply Nm.r; (focus repeat (first | apply LN.cons | exact LN.nil))) | fail | (apply Cl.p (register_p _); (focus repeat' (first | exact Lend.nil | apply Lend.keep | fail))))
    all_goals first
      | exact Fin.p rfl (vb (decide_eq_false hng).symm)
      | (refine (hg ⟨fun h => ?_, fun h => ?_, fun h => ?_, ?_⟩).elim
         all_goals (simp only at *; first | assumption | omega | simp_all))
/-- What can be known of the cells of some tables. -/
def ValL (ts : List TblS) (l : List MgS) : Prop := ts.length = l.length ∧ ∀ (i : Nat) (t : TblS) (g : MgS), ts[i]? = some t → l[i]? = some g → ValG t g
noncomputable instance (ts : List TblS) (l : List MgS) : Decidable (ValL ts l) := Classical.propDecidable _
abbrev EqFn : FuncId := 243
theorem equalTM_p (ts : List TblS) (l : List MgS) : CallP Tryz.prog EqFn [tbls ts, mgs l, .fn 244 []] (bl (decide (ValL ts l))) := by
  refine CallA.of pg ord243 Tryz.func243 rfl Tryz.ntmps243 Tryz.results243 rfl fun h0 G0 O0 => ?_
  repeat' (first | refine Sp.h ?_ | refine Lk.r rfl ?_ | refine Rf.mk rfl ?_ | (refine Bd.mk ?_ ?_ <;> intro _) | (refine Im.mk ?_; intro _) | (apply Nm.r; (focus repeat (first | apply LN.cons | exact LN.nil))) | fail)
  rotate_left
  · rename_i hlen
    exact Fin.p rfl (vb (decide_eq_false (fun h => by have := h.1; omega)).symm)
  refine CA.loop (fun i : Nat => ⟨[(1, mgs l), (2, .fn 244 []), (15, tbls ts), (16, it (ts.length : Nat)), (17, it i)], []⟩) (fun i => i ≤ ts.length ∧ ∀ j t g, j < i → ts[j]? = some t → l[j]? = some g → ValG t g) (fun i => ts.length - i) 0 ⟨by (repeat (first | exact trivial | refine ⟨rfl, ?_⟩)), by (repeat (first | exact Subl.nil | refine Subl.cons (by (repeat (first | exact Take.here | apply Take.there))) ?_))⟩ ⟨Nat.zero_le _, fun j t g h => by omega⟩ ?_
  rintro i ⟨hi, ha⟩
  by_cases hin : i < ts.length
  · obtain ⟨t, ht⟩ := get_of hin
    obtain ⟨g, hg⟩ := get_of (l := l) (i := i) (by omega)
    repeat' (first | refine Sp.h ?_ | refine Lk.r rfl ?_ | refine Rf.mk rfl ?_ | (apply Bd.t; (focus (first | assumption | omega | rfl))) | (refine Bd.mk ?_ ?_ <;> intro _) | (refine All.mk ?_; intro _) | (apply TkB.r; (focus (repeat (first | exact Take.here | apply Take.there)))) | (apply Ix.q; (focus exact rfl); (focus assumption)) | refine Ch.l ⟨rfl, rfl⟩ ?_ | (apply SetAsk.r; (focus (repeat (first | exact SetAs.z | (apply SetAs.c; (focus (repeat (first | assumption | exact SetA.z | apply SetA.s)))))))) | (apply Nm.r; (focus repeat (first | apply LN.cons | exact LN.nil))) | (apply Ov.n; (focus first | omega | (simp <;> omega))) | fail | (apply Cl.p (valid34_p _ _); (focus repeat' (first | exact Lend.nil | apply Lend.keep | fail))))
    · refine PA.lp (i + 1) ⟨by (repeat (first | exact trivial | refine ⟨rfl, ?_⟩)), by (repeat (first | exact Subl.nil | refine Subl.cons (by (repeat (first | exact Take.here | apply Take.there))) ?_))⟩ ⟨⟨hin, fun j t' g' hj h1 h2 => ?_⟩, by omega⟩
      by_cases hji : j = i
      · subst hji; rw [ht] at h1; rw [hg] at h2; cases h1; cases h2; assumption
      · exact ha j t' g' (by omega) h1 h2
    · exact Fin.p rfl (vb (decide_eq_false (fun h => by have := h.2 i t g ht hg; contradiction)).symm)
  have hie : i = ts.length := by omega
  subst hie
  repeat' (first | refine Sp.h ?_ | refine Lk.r rfl ?_ | refine Rf.mk rfl ?_ | (apply Bd.f; (focus (first | assumption | omega | exact Bool.false_ne_true))) | (apply Nm.r; (focus repeat (first | apply LN.cons | exact LN.nil))) | fail)
  exact Fin.p rfl (vb (decide_eq_true (show ValL ts l from ⟨by omega, fun j t g h1 h2 => ha j t g (List.getElem?_eq_some_iff.1 h1).1 h1 h2⟩)).symm)
theorem validM_p (m : ModS) (l : List MgS) (hm : LayOK m.sorts m.tables) : CallP Tryz.prog 176 [mdl m, mgs l] (bl (decide (ValL (mrgF m) l))) := by
  have hc := cells_p m hm
  have he := equalTM_p (mrgF m) l
  refine CallA.of pg ord176 Tryz.func176 rfl Tryz.ntmps176 Tryz.results176 rfl fun h0 G0 O0 => ?_
  repeat' (first | refine Sp.h ?_ | refine Lk.r rfl ?_ | refine Rf.mk rfl ?_ | (refine All.mk ?_; intro _) | (apply TkB.r; (focus (repeat (first | exact Take.here | apply Take.there)))) | refine Ch.l ⟨rfl, rfl⟩ ?_ | fail | (apply Cl.p (hc); (focus repeat' (first | exact Lend.nil | apply Lend.keep | fail))))
  (apply Cl.p (he); (focus repeat' (first | exact Lend.nil | apply Lend.keep | fail)))
  repeat' (first | refine Sp.h ?_ | refine Lk.r rfl ?_ | (apply Nm.r; (focus repeat (first | apply LN.cons | exact LN.nil))) | fail)
  exact Fin.p rfl rfl
end Go.Proofs.YtmllihbhphnolaaGreat
namespace Go.Proofs.YtmllihbhphnolaaGreat
open Go Go.CF
set_option maxRecDepth 20000
/-- Tables of convergent cells. -/
def KindM (ts : List TblS) : Prop := ∀ t ∈ ts, 2 ≤ t.kind ∧ t.kind ≤ 5
theorem mrgL_mem {m : ModS} {l : List TblS} {t : TblS} (h : t ∈ mrgL m l) : t ∈ l ∧ ¬ isStrict t.kind := by
  unfold mrgL at h
  obtain ⟨u, hu, ht⟩ := List.mem_flatMap.1 h
  split at ht
  · cases ht
  · rename_i hs
    have := List.eq_of_mem_replicate ht
    subst this
    exact ⟨hu, hs⟩
theorem kindM {m : ModS} (hm : LayOK m.sorts m.tables) : KindM (mrgF m) := by
  intro t ht
  obtain ⟨h1, h2⟩ := mrgL_mem ht
  have := (hm.2.2.2 t h1).2
  unfold isStrict at h2
  omega
/-- A walk stops here. -/
structure Stopped (p : Prop) : Prop where
  h : p
theorem Stopped.out {p : Prop} (h : Stopped p) : p := h.h
end Go.Proofs.YtmllihbhphnolaaGreat
namespace Go.CF
open Go
section
variable {P : Program} {tt : Nat → Option TI} {en : Nat → Bool} {n : Nat} {γ : Type} [Membership Nat γ] {fp : γ} {c : Cls} {d : Tmp} {ty t u : TypeId} {env : Env} {h : Heap} {N : Env → Heap → Prop} {x y z : Operand} {k1 k2 : IntKind}
theorem run_copyG (w : World) (dT sT ty elem : TypeId) {i : TypeInfo} (g o dLen dCap : Nat) (a : Addr) (sLen sCap : Nat) (cur : Array Value) (t : TypeId) (cs : List Value)
    (hu : P.underlying dT = some (.slice elem)) (hi : P.info? elem = some i) (hg : w.heap[g]? = some (.cells cur t (0, 0))) (hn : cs.length = Nat.min sLen dLen * i.size)
    (hsrc : ∀ j v, cs[j]? = some v → w.cell? (a.add j) = some v) (hfit : o + cs.length ≤ cur.size) (h1 : ∀ v ∈ cs, v.oneCell' = true) :
    (Builtin.copy_ #[dT, sT] ty #[.slice (some ⟨g, o, none⟩) dLen dCap, .slice (some a) sLen sCap]).run P w =
      .ok (goInt (Nat.min sLen dLen : Nat)) (w.setRow g (cur.toList.take o ++ cs ++ cur.toList.drop (o + cs.length)).toArray) := by
  have hst := run_storeCells_at P g o t cs 0 cur w hg (by simpa using hfit) h1
  have hf := run_firstCells_some (P := P) w i.size (Nat.min sLen dLen) a sLen sCap cs hn hsrc
  simp only [Nat.add_zero] at hst
  simp [Builtin.copy_, run_underlying hu, Builtin.lenOf, sizeOf, typeInfo, hi, hf, hst]
theorem run_copy0 (w : World) (dT sT ty elem : TypeId) {i : TypeInfo} (p q : Option Addr) (dLen dCap sLen sCap : Nat) (hu : P.underlying dT = some (.slice elem)) (hi : P.info? elem = some i) (hn : Nat.min sLen dLen = 0) :
    (Builtin.copy_ #[dT, sT] ty #[.slice p dLen dCap, .slice q sLen sCap]).run P w = .ok (goInt (0 : Nat)) w := by
  have hl : ∀ (a : Addr), (Builtin.firstCells i.size 0 (.slice (some a) sLen sCap)).run P w = .ok #[] w := fun a => by
    have := run_firstCells_some (P := P) w i.size 0 a sLen sCap [] (by simp) (by simp)
    simpa using this
  have hs : ∀ (a : Addr), (storeCells a []).run P w = .ok () w := fun a => by simp [storeCells]
  cases p <;> cases q <;> simp [Builtin.copy_, run_underlying hu, Builtin.lenOf, sizeOf, typeInfo, hi, hn, hl, hs, run_firstCells_none]
/-- copy into a slice of one's own. -/
theorem ld_copy (G : PgOK P tt en) {ti te : TI} {e b o dl dc m : Nat} {l news : List Value} {xv : Value} {K : Value → Heap → Prop} (ht : tt t = some ti) (hk : ti.kind = .slice e) (hte : tt e = some te)
    (hx : ev env x = some (.slice (some ⟨b, o, none⟩) dl dc)) (hy : ev env y = some xv) (hb : Blk h b e l) (hs : Sl h xv m news) (hm : news.length = m * te.size) (h1 : ∀ v ∈ news.take (min m dl * te.size), v.oneCell' = true) (hfit : o + min m dl * te.size ≤ l.length)
    (k : ∀ h', h'.size = h.size → Upd h b e (l.take o ++ news.take (min m dl * te.size) ++ l.drop (o + min m dl * te.size)) h' → K (.int .i64 (min m dl : Nat)) h') : Ld P n (.call { callee := .builtin .copy, args := #[x, y], argTypes := #[t, u] }) ty env h K := by
  intro a w oo next Q ha hw hop hty hn
  obtain ⟨i, dd, hi, hd, hi1, hi2, hi3, _⟩ := (G.ok _ _ hte).ok
  have hu := (G.ok _ _ ht).slice hk
  unfold Oper.wp
  have fin : ∀ w', (Builtin.copy_ #[t, u] ty #[.slice (some ⟨b, o, none⟩) dl dc, xv]).run P w = .ok (goInt (min m dl : Nat)) w' → Same w w' → w'.heap.size = h.size → Upd h b e (l.take o ++ news.take (min m dl * te.size) ++ l.drop (o + min m dl * te.size)) w'.heap → oo.upon P a next Q ((execOp a.eval oo).run P w) := by
    intro w' hr hsm hsz hup
    have hrun : (execOp a.eval (mkOp (.call { callee := .builtin .copy, args := #[x, y], argTypes := #[t, u] }) ty)).run P w = .ok (.value (goInt (min m dl : Nat))) w' := by
      simp [mkOp, execOp, resolve, invoke, builtin, ha.ev hx, ha.ev hy, hr]
    rw [exec_mk, hop, hty, hrun]
    exact hn _ w' hsm (k w'.heap hsz hup)
  have zero : min m dl = 0 → oo.upon P a next Q ((execOp a.eval oo).run P w) := fun h0 => by
    obtain ⟨q, qc, rfl⟩ := hs.shape
    have hr := run_copy0 (P := P) w t u ty e (some ⟨b, o, none⟩) q dl dc m qc hu hi h0
    rw [← show min m dl = 0 from h0] at hr
    refine fin w hr (Same.refl w) (by rw [hw]) ?_
    rw [h0, Nat.zero_mul, List.take_zero, List.append_nil, Nat.add_zero, List.take_append_drop, hw]
    refine ⟨hb.lt, ?_⟩
    obtain ⟨hlt, hget⟩ := Array.getElem?_eq_some_iff.1 hb.get
    apply Array.ext
    · simp
    · intro q h1 h2
      rw [Array.getElem_setIfInBounds]
      split
      · rename_i hq; subst hq; exact hget
      · rfl
  rcases hs.ok with ⟨p, cap, rfl, h2, h3⟩ | ⟨b', o', cap, rfl, hpos, hcap, _, hc⟩
  · exact zero (by simp; omega)
  · rcases Nat.eq_zero_or_pos (min m dl) with h0 | h0
    · exact zero h0
    · have hg : w.heap[b]? = some (.cells l.toArray e (0, 0)) := hb.heap hw
      have hmin : min m dl * te.size ≤ m * te.size := Nat.mul_le_mul_right _ (Nat.min_le_left _ _)
      have hlen : (news.take (min m dl * te.size)).length = min m dl * te.size := by rw [List.length_take]; omega
      have hr := run_copyG (P := P) w t u ty e (i := i) b o dl dc ⟨b', o', none⟩ m cap l.toArray e (news.take (min m dl * te.size)) hu hi hg (by rw [hlen, hi1])
        (fun j v hv => by
          rw [List.getElem?_take] at hv
          split at hv
          · exact (hc.get j v hv).get w hw
          · cases hv) (by rw [hlen]; simpa using hfit) h1
      refine fin _ hr ⟨rfl, rfl, rfl, by first | exact Nat.le_refl _ | exact Nat.le_succ _⟩ (by simp [World.setRow_heap' hg, hw]) ⟨hb.lt, ?_⟩
      rw [World.setRow_heap' hg, hw, hlen]
theorem St.cap (G : PgOK P tt en) {ti : TI} {e len cap : Nat} {p : Option Addr} (ht : tt t = some ti) (hk : ti.kind = .slice e) (hx : ev env x = some (.slice p len cap)) (k : N ((d, .int .i64 (cap : Nat)) :: env) h) :
    St P n fp c (some d) (.call { callee := .builtin .cap, args := #[x], argTypes := #[t] }) ty env h N :=
  .ofPu (v := .int .i64 (cap : Nat)) (fun a w ha => by
    have hu := (G.ok _ _ ht).slice hk
    simp [mkOp, execOp, resolve, invoke, builtin, ha.ev hx, Builtin.cap_, run_underlying hu, goInt]) k
end
end Go.CF
namespace Go.CF
open Go
/-! ### Lists in parts -/
theorem flat_take {α : Type} {sz : Nat} : ∀ (rows : List (List α)) (a : Nat), (∀ r ∈ rows, r.length = sz) → (rows.take a).flatten = rows.flatten.take (a * sz)
  | [], a, _ => by simp
  | r :: rs, 0, _ => by simp
  | r :: rs, a + 1, h => by
    have h1 := h r (by simp)
    have h2 : (a + 1) * sz = sz + a * sz := by rw [Nat.add_mul]; omega
    rw [List.take_succ_cons, List.flatten_cons, List.flatten_cons, flat_take rs a fun q hq => h q (by simp [hq]), List.take_append, h2, List.take_of_length_le (l := r) (by omega), h1, Nat.add_sub_cancel_left]
theorem flat_drop {α : Type} {sz : Nat} : ∀ (rows : List (List α)) (a : Nat), (∀ r ∈ rows, r.length = sz) → (rows.drop a).flatten = rows.flatten.drop (a * sz)
  | [], a, _ => by simp
  | r :: rs, 0, _ => by simp
  | r :: rs, a + 1, h => by
    have h1 := h r (by simp)
    have h2 : (a + 1) * sz = sz + a * sz := by rw [Nat.add_mul]; omega
    rw [List.drop_succ_cons, List.flatten_cons, flat_drop rs a fun q hq => h q (by simp [hq]), List.drop_append, h2, List.drop_of_length_le (l := r) (by omega), h1, Nat.add_sub_cancel_left, List.nil_append]
theorem own_write {α : Type} {l X : List α} {of a k : Nat} (hx : a + X.length ≤ k) (hk : of + k ≤ l.length) : ((l.take (of + a) ++ X ++ l.drop (of + a + X.length)).drop of).take k = ((l.drop of).take k).take a ++ X ++ ((l.drop of).take k).drop (a + X.length) := by
  apply List.ext_getElem?
  intro q
  simp only [List.getElem?_append, List.getElem?_take, List.getElem?_drop, List.length_append, List.length_take, List.length_drop]
  by_cases h1 : q < k
  · by_cases h2 : q < a
    · simp [h1, h2, show of + q < of + a by omega, show of + q < l.length by omega, show min a (min k (l.length - of)) = a by omega, show min (of + a) l.length = of + a by omega, show q < a + X.length by omega]
      intros; omega
    · by_cases h3 : q < a + X.length
      · simp [h1, h2, h3, show ¬ of + q < of + a by omega, show min a (min k (l.length - of)) = a by omega, show min (of + a) l.length = of + a by omega, show of + q - (of + a) = q - a by omega]
        intros; omega
      · simp [h1, h3, show min a (min k (l.length - of)) = a by omega, show min (of + a) l.length = of + a by omega, show ¬ of + q < of + a + X.length by omega, show of + a + X.length + (of + q - (of + a + X.length)) = of + (a + X.length + (q - (a + X.length))) by omega]
        omega
  · simp [h1, show min a (min k (l.length - of)) = a by omega, show ¬ q < a + X.length by omega]
    omega
end Go.CF
namespace Go.CF
open Go
section
variable {Γ : Cx} {k : List KI} {e : EA} {o : List Res} {N : NA} {c : Cls} {d : Tmp} {ty : TypeId} {x y z : Operand} {t u : TypeId} {kk : IntKind} {i : Int}
/-! ### Capacity -/
def capV : Value → Nat
  | .slice _ _ c => c
  | _ => 0
structure Cpv (Γ : Cx) (c : Cls) (d : Tmp) (t : TypeId) (x : Operand) (ty : TypeId) (e : EA) (o : List Res) (N : NA) (a : AV) : Prop where
  h : evA e x = some a → SA Γ c (some d) (.call { callee := .builtin .cap, args := #[x], argTypes := #[t] }) ty e o N
instance : Sp (SA Γ c (some d) (.call { callee := .builtin .cap, args := #[x], argTypes := #[t] }) ty e o N) (Lk (evA e x) fun a => Cpv Γ c d t x ty e o N a) := ⟨fun ⟨_, ha, h⟩ => h.h ha⟩
instance {v : Value} : Sp (Cpv Γ c d t x ty e o N (.ow v)) (Lk (slE Γ.tt t) fun _ => TkA o v fun _ _ l _ _ => Im (l.length ≤ capV v) (N ((d, .val (.int .i64 (capV v : Nat))) :: e) o)) := ⟨fun ⟨p, hp, α, T, sz, l, f, rest, tk, hn⟩ => ⟨fun ha => ⟨fun env hh G Os cn => by
  obtain ⟨w, g1, rfl, q, len, cap, rfl⟩ := cn.get ha
  obtain ⟨O, Os', cn2⟩ := cn.take tk
  obtain ⟨⟨_, rows, hw, _⟩, _⟩ := cn2.hp.own
  obtain ⟨ti, t1, t2, _⟩ := slE_spec hp
  have hlc : l.length ≤ cap := by
    rcases hw.ok with ⟨e1, e2⟩ | ⟨b', of, cap', L, e1, _, _, e2, _⟩
    · cases e1; omega
    · cases e1; exact e2
  exact St.cap Γ.ok t1 t2 g1 (CN.mk (cn.put d (a := .val _) rfl) (hn.k hlc))⟩⟩⟩

/-! ### Rows of plain values -/
def valR (r : List Value) : List AV := r.map AV.val
theorem repT_val {h : Heap} {G : Nat → Prop} : ∀ {vs r : List Value}, RepT h G vs (valR r) → vs = r
  | [], [], _ => rfl
  | _ :: _, _ :: _, ⟨h1, h2⟩ => by
    have h1 : _ = _ := h1
    rw [h1, repT_val h2]
  | [], _ :: _, h => h.elim
  | _ :: _, [], h => h.elim
theorem repT_val' {h : Heap} {G : Nat → Prop} : ∀ r : List Value, RepT h G r (valR r)
  | [] => trivial
  | _ :: r => ⟨rfl, repT_val' r⟩
theorem rows_val {h : Heap} {G : Nat → Prop} {sz : Nat} {rows L : List (List Value)} (hr : Rows h G sz rows L valR) : rows = L := by
  apply List.ext_getElem?
  intro j
  by_cases hj : j < L.length
  · obtain ⟨r, h1⟩ := List.getElem?_eq_some_iff.2 ⟨by rw [hr.len]; exact hj, rfl⟩ |> fun h => (⟨_, h⟩ : ∃ r, rows[j]? = some r)
    obtain ⟨s, h2⟩ : ∃ s, L[j]? = some s := ⟨_, List.getElem?_eq_getElem hj⟩
    rw [h1, h2, repT_val (hr.row j r s h1 h2).t]
  · rw [List.getElem?_eq_none (by rw [hr.len]; omega), List.getElem?_eq_none (by omega)]
structure RowsV (sz : Nat) (L : List (List Value)) : Prop where
  sz : ∀ r ∈ L, r.length = sz
  one : ∀ r ∈ L, ∀ u ∈ r, u.oneCell' = true
theorem RowsV.of {h : Heap} {G : Nat → Prop} {sz : Nat} {rows L : List (List Value)} (hr : Rows h G sz rows L valR) : RowsV sz L := by
  have e := rows_val hr
  subst e
  refine ⟨hr.sz, fun r hm u hu => ?_⟩
  obtain ⟨j, hj⟩ := List.getElem?_of_mem hm
  exact (hr.row j r r hj hj).one u hu
theorem RowsV.rows {sz : Nat} {L : List (List Value)} (hv : RowsV sz L) (h : Heap) (G : Nat → Prop) : Rows h G sz L L valR :=
  ⟨rfl, fun j r s h1 h2 => by rw [h1] at h2; cases h2; exact ⟨repT_val' r, fun u hu => hv.one r (List.mem_of_getElem? h1) u hu⟩, hv.sz⟩
theorem RowsV.flen {sz : Nat} {L : List (List Value)} (hv : RowsV sz L) : L.flatten.length = L.length * sz := flat_len L hv.sz
/-- A slice of one's own of which the first elements are known. -/
def arrX (v : Value) (T : TypeId) (sz : Nat) (L : List (List Value)) (m : Nat) : Res :=
  ⟨fun h O _ => (∀ x, O x ↔ x ∈ blkOf v) ∧ RowsV sz L ∧ L.length ≤ m ∧ ∃ junk, Own h v T sz m (L.flatten ++ junk),
   fun x ⟨ho, hv, hl, junk, hb⟩ => ⟨ho, hv, hl, junk, by
      rcases hb.ok with h1 | ⟨b, of, cap, L', e, hbl, h1, h2, h3⟩
      · exact ⟨hb.len_vs, .inl h1⟩
      · exact ⟨hb.len_vs, .inr ⟨b, of, cap, L', e, ⟨(x.same b (.inl ((ho b).2 (by simp [e, blkOf]))) hbl.lt).trans hbl.get⟩, h1, h2, h3⟩⟩⟩,
   fun _ ⟨ho, hv, hl, junk, hb⟩ => ⟨ho, hv, hl, junk, hb⟩⟩
/-- .. a value of which is this. -/
def AV.ox (v : Value) : AV := ⟨fun _ _ u => u = v ∧ ∃ p len cap, v = .slice p len cap, fun _ h => h, fun _ h => h⟩
theorem CA.toX {y : Code} (q : Tmp) {v : Value} {T sz : Nat} {L : List (List Value)} {rest : List Res} (ht : lookA e q = some (.ow v)) (tk : Take o (arrR v T sz L valR) rest) (h : L.length ≤ capV v → CA Γ k y ((q, .ox v) :: e) (arrX v T sz L L.length :: rest)) : CA Γ k y e o := by
  refine ⟨fun env hh G Os cn => ?_⟩
  obtain ⟨O, Os', cn2⟩ := cn.take tk
  obtain ⟨⟨ho, rows, hw, hr⟩, hrest⟩ := cn2.hp.own
  have hv := RowsV.of hr
  have e1 := rows_val hr
  subst e1
  have c3 : Con Γ ⟨e, arrX v T sz rows rows.length :: rest⟩ env hh G (O :: Os') := ⟨cn2.hp.perm ⟨⟨ho, hv, Nat.le_refl _, [], by rw [List.append_nil]; exact hw⟩, hrest⟩ (List.Perm.refl _), cn2.env, cn2.nf⟩
  have hcap : rows.length ≤ capV v := by
    rcases hw.ok with ⟨e1, e2⟩ | ⟨b', of, cap', L, e1, _, _, e2, _⟩
    · rw [e2]; exact Nat.zero_le _
    · rw [e1]; exact e2
  exact (h hcap).h env hh G (O :: Os') (con_re (σ := ⟨e, arrX v T sz rows rows.length :: rest⟩) c3 q (fun w hw' => by
    obtain ⟨w', g1, g2⟩ := cn.env q _ ht
    rw [hw'] at g1; cases g1; exact g2) ht)
structure TkX (o : List Res) (v : Value) (k : TypeId → Nat → List (List Value) → Nat → List Res → Prop) : Prop where
  ok : ∃ T sz L m rest, Take o (arrX v T sz L m) rest ∧ k T sz L m rest
theorem TkX.r {o rest : List Res} {v : Value} {k : TypeId → Nat → List (List Value) → Nat → List Res → Prop} {T : TypeId} {sz m : Nat} {L : List (List Value)} (h : Take o (arrX v T sz L m) rest) (hk : k T sz L m rest) : TkX o v k := ⟨T, sz, L, m, rest, h, hk⟩
instance {q : Operand} {v : Value} : Sp (Slp Γ c d t x (some q) none ty e o N (.ox v)) (Lk (slE Γ.tt t) fun p => TkX o v fun _ sz _ m _ => Rf (p.2.size = sz) (Lk (evA e q) fun a => Nb a fun i => Jx i m fun j => N ((d, .os v sz j (m - j)) :: e) o)) := ⟨fun ⟨p, hp, T, sz, L, m, rest, tk, hz, a, ha2, kk, i, hk, j, hij, hjm, hn⟩ => ⟨fun ha => ⟨fun env hh G Os cn => by
  obtain ⟨w, g1, rfl, q', len, cap, rfl⟩ := cn.get ha
  obtain ⟨O, Os', cn2⟩ := cn.take tk
  obtain ⟨⟨_, _, _, junk, hw⟩, _⟩ := cn2.hp.own
  have hlc : len = m ∧ m ≤ cap := by
    rcases hw.ok with ⟨e1, e2⟩ | ⟨b', of, cap', L', e1, _, _, e2, _⟩
    · cases e1; omega
    · cases e1; exact ⟨rfl, e2⟩
  obtain ⟨rfl, hlc⟩ := hlc
  exact slice_at (lo := some q) (hi := none) cn hp g1 hjm (Nat.le_refl _) hlc ⟨kk, i, hk ▸ ha2, hij⟩ rfl (CN.mk (cn.put d (a := .os _ sz j (len - j)) ⟨q', _, cap, rfl, by omega, by rw [hz]⟩) hn) (.inl (by simp))⟩⟩⟩
/-- The value of a slice cut at its end. -/
def reV : Value → Nat → Value
  | .slice p _ c, m => .slice (subA p 0 0 c) m c
  | v, _ => v
/-- A cut at the end: within what is known, or beyond it. -/
structure ExX (i : Int) (L m : Nat) (cp : Nat) (A X : Nat → Prop) : Prop where
  ok : ∃ j : Nat, i = (j : Int) ∧ j ≤ cp ∧ ((j ≤ L ∧ A j) ∨ (L ≤ j ∧ X j))
theorem ExX.short {i : Int} {L m cp : Nat} {A X : Nat → Prop} {j : Nat} (h : i = (j : Int)) (h1 : j ≤ cp) (h2 : j ≤ L) (hk : A j) : ExX i L m cp A X := ⟨j, h, h1, .inl ⟨h2, hk⟩⟩
theorem ExX.long {i : Int} {L m cp : Nat} {A X : Nat → Prop} {j : Nat} (h : i = (j : Int)) (h1 : j ≤ cp) (h2 : L ≤ j) (hk : X j) : ExX i L m cp A X := ⟨j, h, h1, .inr ⟨h2, hk⟩⟩
theorem subA_zero {p : Option Addr} {sz cap : Nat} (hp : ∀ a, p = some a → a.spot = none) : subA p sz 0 cap = p := by
  unfold subA
  split
  · rfl
  · cases p with
    | none => rfl
    | some a =>
      have := hp a rfl
      obtain ⟨b, of, sp⟩ := a
      simp only at this
      subst this
      simp [addr_add]
theorem own_short {h : Heap} {p : Option Addr} {len cap T sz m : Nat} {R : List Value} (hw : Own h (.slice p len cap) T sz len R) (hm : m ≤ len) : Own h (.slice p m cap) T sz m (R.take (m * sz)) := by
  have hl := hw.len_vs
  have hms : m * sz ≤ len * sz := Nat.mul_le_mul_right _ hm
  refine ⟨by rw [List.length_take]; omega, ?_⟩
  rcases hw.ok with ⟨e1, e2⟩ | ⟨b, of, cap', l, e1, hb, h1, h2, h3⟩
  · cases e1
    exact .inl ⟨by rw [show m = 0 by omega], by omega⟩
  · cases e1
    exact .inr ⟨b, of, cap, l, rfl, hb, h1, by omega, by rw [← h3, List.take_take, Nat.min_eq_left hms]⟩
theorem own_long {h : Heap} {p : Option Addr} {len cap T sz m : Nat} {R : List Value} (hw : Own h (.slice p len cap) T sz len R) (hm : len ≤ m) (hc : m ≤ cap) : ∃ junk, Own h (.slice p m cap) T sz m (R ++ junk) := by
  have hl := hw.len_vs
  have hms : len * sz ≤ m * sz := Nat.mul_le_mul_right _ hm
  rcases hw.ok with ⟨e1, e2⟩ | ⟨b, of, cap', l, e1, hb, h1, h2, h3⟩
  · cases e1
    obtain rfl : m = 0 := by omega
    exact ⟨[], by simpa using hw⟩
  · cases e1
    have hmc : m * sz ≤ cap * sz := Nat.mul_le_mul_right _ hc
    refine ⟨(l.drop (of + len * sz)).take (m * sz - len * sz), ?_, .inr ⟨b, of, cap, l, rfl, hb, h1, hc, ?_⟩⟩
    · rw [List.length_append, hl, List.length_take, List.length_drop]; omega
    · rw [← h3, ← List.drop_drop, show m * sz = len * sz + (m * sz - len * sz) by omega, List.take_add]
      simp
theorem own_spot {h : Heap} {p : Option Addr} {len cap T sz m : Nat} {R : List Value} (hw : Own h (.slice p len cap) T sz m R) : ∀ a, p = some a → a.spot = none := by
  intro a ha
  rcases hw.ok with ⟨e1, e2⟩ | ⟨b, of, cap', l, e1, _⟩
  · cases e1; cases ha
  · cases e1; cases ha; rfl
instance {q : Operand} {v : Value} : Sp (Slp Γ c d t x none (some q) ty e o N (.ox v)) (Lk (slE Γ.tt t) fun p => TkX o v fun T sz L m rest => Rf (p.2.size = sz) (Lk (evA e q) fun a => Nb a fun i =>
    ExX i L.length m (capV v) (fun j => N ((d, .ow (reV v j)) :: e) (arrR (reV v j) T sz (L.take j) valR :: rest)) (fun j => N ((d, .ox (reV v j)) :: e) (arrX (reV v j) T sz L j :: rest)))) := ⟨fun ⟨p, hp, T, sz, L, m, rest, tk, hz, a, ha2, kk, i, hk, j, hij, hjc, hn⟩ => ⟨fun ha => ⟨fun env hh G Os cn => by
  obtain ⟨w, g1, rfl, q', len, cap, rfl⟩ := cn.get ha
  obtain ⟨O, Os', cn2⟩ := cn.take tk
  obtain ⟨⟨ho, hv, hLm, junk, hw⟩, hrest⟩ := cn2.hp.own
  obtain ⟨ti, t1, t2, t3⟩ := slE_spec hp
  have hlc : len = m := by
    rcases hw.ok with ⟨e1, e2⟩ | ⟨b', of, cap', L', e1, _, _, e2, _⟩
    · cases e1; omega
    · cases e1; rfl
  subst hlc
  have hsp := own_spot hw
  have hre : subA q' 0 0 cap = q' := subA_zero hsp
  have hre2 : subA q' p.2.size 0 cap = q' := subA_zero hsp
  have hq : evA e q = some (.val (.int kk i)) := hk ▸ ha2
  obtain ⟨vq, hq1, hq2⟩ := cn.get hq
  have hq2 : vq = _ := hq2
  subst hq2
  have hblk : ∀ b, b ∈ blkOf (Value.slice q' j cap) ↔ b ∈ blkOf (Value.slice q' len cap) := by intro b; cases q' <;> simp [blkOf]
  have hev : reV (.slice q' len cap) j = .slice q' j cap := by simp only [reV, hre]
  rw [hev] at hn
  refine St.sliceH Γ.ok t1 t2 t3 g1 hq1 hij hjc ?_
  rw [hre2]
  rcases hn with ⟨hjL, hn⟩ | ⟨hjL, hn⟩
  · have hsh := own_short hw (show j ≤ len by omega)
    have hfl := hv.flen
    have hjs : j * sz ≤ L.length * sz := Nat.mul_le_mul_right _ hjL
    have he : (L.flatten ++ junk).take (j * sz) = (L.take j).flatten := by
      rw [flat_take L j hv.sz, List.take_append_of_le_length (by omega)]
    rw [he] at hsh
    have hvt : RowsV sz (L.take j) := ⟨fun r hr => hv.sz r (List.mem_of_mem_take hr), fun r hr => hv.one r (List.mem_of_mem_take hr)⟩
    have c3 : Con Γ ⟨e, arrR (.slice q' j cap) T sz (L.take j) valR :: rest⟩ env hh G (O :: Os') := ⟨cn2.hp.perm ⟨⟨fun b => (ho b).trans (hblk b).symm, L.take j, by rw [List.length_take, Nat.min_eq_left hjL]; exact hsh, hvt.rows hh G⟩, hrest⟩ (List.Perm.refl _), cn2.env, cn2.nf⟩
    exact CN.mk (c3.put d (a := .ow _) ⟨rfl, _, _, _, rfl⟩) hn
  · by_cases hjl : j ≤ len
    · have hsh := own_short hw hjl
      have hfl := hv.flen
      have hjs : L.length * sz ≤ j * sz := Nat.mul_le_mul_right _ hjL
      rw [List.take_append, List.take_of_length_le (by omega)] at hsh
      have c3 : Con Γ ⟨e, arrX (.slice q' j cap) T sz L j :: rest⟩ env hh G (O :: Os') := ⟨cn2.hp.perm ⟨⟨fun b => (ho b).trans (hblk b).symm, hv, hjL, _, hsh⟩, hrest⟩ (List.Perm.refl _), cn2.env, cn2.nf⟩
      exact CN.mk (c3.put d (a := .ox _) ⟨rfl, _, _, _, rfl⟩) hn
    · obtain ⟨jk, hlg⟩ := own_long hw (show len ≤ j by omega) hjc
      have c3 : Con Γ ⟨e, arrX (.slice q' j cap) T sz L j :: rest⟩ env hh G (O :: Os') := ⟨cn2.hp.perm ⟨⟨fun b => (ho b).trans (hblk b).symm, hv, hjL, junk ++ jk, by rw [← List.append_assoc]; exact hlg⟩, hrest⟩ (List.Perm.refl _), cn2.env, cn2.nf⟩
      exact CN.mk (c3.put d (a := .ox _) ⟨rfl, _, _, _, rfl⟩) hn⟩⟩⟩
end
end Go.CF
namespace Go.CF
open Go
section
variable {P : Program} {tt : Nat → Option TI} {en : Nat → Bool} {n : Nat} {ty t u : TypeId} {env : Env} {h : Heap} {x y : Operand}
theorem ld_copy0 (G : PgOK P tt en) {ti te : TI} {e dl dc m : Nat} {p : Option Addr} {news : List Value} {xv : Value} {K : Value → Heap → Prop} (ht : tt t = some ti) (hk : ti.kind = .slice e) (hte : tt e = some te)
    (hx : ev env x = some (.slice p dl dc)) (hy : ev env y = some xv) (hs : Sl h xv m news) (hm : min m dl = 0) (k : K (.int .i64 (0 : Nat)) h) : Ld P n (.call { callee := .builtin .copy, args := #[x, y], argTypes := #[t, u] }) ty env h K := by
  intro a w oo next Q ha hw hop hty hn
  obtain ⟨i, dd, hi, hd, hi1, hi2, hi3, _⟩ := (G.ok _ _ hte).ok
  have hu := (G.ok _ _ ht).slice hk
  obtain ⟨q, qc, rfl⟩ := hs.shape
  have hr := run_copy0 (P := P) w t u ty e p q dl dc m qc hu hi hm
  have hrun : (execOp a.eval (mkOp (.call { callee := .builtin .copy, args := #[x, y], argTypes := #[t, u] }) ty)).run P w = .ok (.value (goInt (0 : Nat))) w := by
    simp [mkOp, execOp, resolve, invoke, builtin, ha.ev hx, ha.ev hy, hr]
  unfold Oper.wp
  rw [exec_mk, hop, hty, hrun]
  exact hn _ w (Same.refl w) (hw ▸ k)
end
section
variable {Γ : Cx} {k : List KI} {e : EA} {o : List Res} {N : NA} {c : Cls} {d : Tmp} {ty : TypeId} {x y z : Operand} {t u : TypeId} {kk : IntKind} {i : Int}
structure Cpy (Γ : Cx) (c : Cls) (d : Tmp) (t u : TypeId) (x y : Operand) (ty : TypeId) (e : EA) (o : List Res) (N : NA) (a b : AV) : Prop where
  h : evA e x = some a → evA e y = some b → isLoud c = true → SA Γ c (some d) (.call { callee := .builtin .copy, args := #[x, y], argTypes := #[t, u] }) ty e o N
instance : Sp (SA Γ c (some d) (.call { callee := .builtin .copy, args := #[x, y], argTypes := #[t, u] }) ty e o N) (Rf (isLoud c = true) (Lk (evA e x) fun a => Lk (evA e y) fun b => Cpy Γ c d t u x y ty e o N a b)) := ⟨fun ⟨hc, _, ha, _, hb, h⟩ => h.h ha hb hc⟩
theorem own_seg {h h' : Heap} {b of cap len T sz : Nat} {l X : List Value} {R : List Value} {j cnt : Nat} (hw : Own h (.slice (some ⟨b, of, none⟩) len cap) T sz len R) (hX : X.length = cnt * sz) (hj : j + cnt ≤ len)
    (hu : Upd h b T (l.take (of + j * sz) ++ X ++ l.drop (of + j * sz + cnt * sz)) h') (hfit : of + cap * sz ≤ l.length) (hlc : len ≤ cap) (hR : (l.drop of).take (len * sz) = R) : Own h' (.slice (some ⟨b, of, none⟩) len cap) T sz len (R.take (j * sz) ++ X ++ R.drop (j * sz + cnt * sz)) := by
  have hjs : j * sz + cnt * sz ≤ len * sz := by rw [← Nat.add_mul]; exact Nat.mul_le_mul_right _ hj
  have hls : len * sz ≤ cap * sz := Nat.mul_le_mul_right _ hlc
  have hl := hw.len_vs
  refine ⟨by simp only [List.length_append, List.length_take, List.length_drop]; omega, .inr ⟨b, of, cap, _, rfl, hu.blk, ?_, hlc, ?_⟩⟩
  · simp only [List.length_append, List.length_take, List.length_drop]; omega
  · rw [← hX, own_write (by rw [hX]; exact hjs) (by omega), hR]
theorem Upd.fpx {h h' : Heap} {b : Nat} {T : TypeId} {l : List Value} (hu : Upd h b T l h') {O : Nat → Prop} (ho : O b) : FPx (fun y => ¬ O y) h h' :=
  ⟨hu.stp.size, fun y hy hl => hu.stp.same y hl (fun hm => hy (by rw [List.mem_singleton.1 hm]; exact ho))⟩
theorem con_seg {h' : Heap} {hh : Heap} {env : Env} {G : Nat → Prop} {R R' : Res} {rest : List Res} {O : Nat → Prop} {Os : List (Nat → Prop)} {b : Nat} {T : TypeId} {l : List Value} (cn : Con Γ ⟨e, R :: rest⟩ env hh G (O :: Os)) (hu : Upd hh b T l h') (ho : O b) (hr : FPx G hh h' → R'.R h' O G) : Con Γ ⟨e, R' :: rest⟩ env h' G (O :: Os) := by
  have hx := hu.fpx ho
  have hg : FPx G hh h' := hx.mono fun y hy hoy => (cn.hp.o O (by simp) y hoy).2.2 hy
  exact cn.upd (R' := R') (O' := O) hx (fun y hy => ⟨Nat.lt_of_lt_of_le (cn.hp.o O (by simp) y hy).1 hu.stp.size, .inl hy⟩) (hr hg)
instance {v : Value} {s j m : Nat} {b : AV} : Sp (Cpy Γ c d t u x y ty e o N (.os v s j m) b) (Lk (slE Γ.tt t) fun p => Src o b p.2.size fun q g => TkA o v fun T sz l f rest => Rf (T = p.1 ∧ sz = p.2.size ∧ s = sz) (Mp q g f fun q' =>
    N ((d, .val (.int .i64 (min q'.length m : Nat))) :: e) (arrR v T sz (l.take j ++ q'.take (min q'.length m) ++ l.drop (j + min q'.length m)) f :: rest))) := ⟨fun ⟨p, hp, β, q, g, ⟨α, T, sz, l, f, rest, tk, ⟨hT, hz, hs⟩, q', hq', hn⟩, hsrc⟩ => ⟨fun ha hb hc => ⟨fun env hh G Os cn => by
  obtain ⟨w, g1, p0, len, cap, rfl, hjm, rfl⟩ := cn.get ha
  obtain ⟨w2, g2, r2⟩ := cn.get hb
  obtain ⟨srows, hsl, hsr⟩ := hsrc cn.hp r2
  have hql : q'.length = q.length := by have := congrArg List.length hq'; simpa using this
  have hsr' := hsr.map hq'
  subst hs; subst hT; subst hz
  obtain ⟨ti, t1, t2, t3⟩ := slE_spec hp
  obtain ⟨O, Os', cn2⟩ := cn.take tk
  obtain ⟨⟨ho, rows, hw, hr⟩, hrest⟩ := cn2.hp.own
  by_cases h0 : min q'.length m = 0
  · refine .ofLd hc (ld_copy0 Γ.ok t1 t2 t3 g1 g2 hsl (by rw [← hql]; exact h0) ?_)
    rw [h0, List.take_zero, List.append_nil, Nat.add_zero, List.take_append_drop] at hn
    exact CN.mk (cn2.put d (a := .val (.int .i64 (0 : Nat))) rfl) hn
  · rcases hw.ok with ⟨e1, e2⟩ | ⟨b, of, cap', L, e1, hbk, h1, h2, h3⟩
    · cases e1; omega
    · cases e1
      have hsub : subA (some ⟨b, of, none⟩) p.2.size j cap = some ⟨b, of + j * p.2.size, none⟩ := by
        unfold subA; rw [if_neg (by omega)]; simp [addr_add]
      rw [hsub] at g1
      have hlen := hw.len_vs
      have hssz := hsr.sz
      have hsfl : srows.flatten.length = q.length * p.2.size := by rw [hsr.flen]
      have hmin : min q'.length m * p.2.size ≤ q.length * p.2.size := Nat.mul_le_mul_right _ (by omega)
      have hjs : j * p.2.size + min q'.length m * p.2.size ≤ l.length * p.2.size := by rw [← Nat.add_mul]; exact Nat.mul_le_mul_right _ (by omega)
      have hls : l.length * p.2.size ≤ cap * p.2.size := Nat.mul_le_mul_right _ h2
      refine .ofLd hc (ld_copy Γ.ok t1 t2 t3 g1 g2 hbk hsl hsfl (fun v hv => hsr.one v (List.mem_of_mem_take hv)) (by rw [← hql]; omega) fun h' hsz hu => ?_)
      rw [← hql] at hu ⊢
      have hob : O b := (ho b).2 (by simp [blkOf])
      have hX : (srows.flatten.take (min q'.length m * p.2.size)).length = min q'.length m * p.2.size := by rw [List.length_take]; omega
      have hown := own_seg (j := j) hw hX (by omega) hu h1 h2 h3
      have hlen2 : (l.take j ++ q'.take (min q'.length m) ++ l.drop (j + min q'.length m)).length = l.length := by simp; omega
      have hfl : (rows.take j ++ srows.take (min q'.length m) ++ rows.drop (j + min q'.length m)).flatten = rows.flatten.take (j * p.2.size) ++ srows.flatten.take (min q'.length m * p.2.size) ++ rows.flatten.drop (j * p.2.size + min q'.length m * p.2.size) := by
        rw [List.flatten_append, List.flatten_append, flat_take rows j hr.sz, flat_take srows _ hssz, flat_drop rows _ hr.sz, Nat.add_mul]
      have c3 := con_seg (R' := arrR (.slice (some ⟨b, of, none⟩) l.length cap) p.1 p.2.size (l.take j ++ q'.take (min q'.length m) ++ l.drop (j + min q'.length m)) f) cn2 hu hob (fun hg => ⟨ho, rows.take j ++ srows.take (min q'.length m) ++ rows.drop (j + min q'.length m), by rw [hlen2, hfl]; exact hown, (((hr.take j).app (hsr'.take _)).app (hr.drop _)).stp hg⟩)
      exact CN.mk (c3.put d (a := .val _) rfl) hn⟩⟩⟩
end
end Go.CF
namespace Go.CF
open Go
section
variable {Γ : Cx} {k : List KI} {e : EA} {o : List Res} {N : NA} {c : Cls} {d : Tmp} {ty : TypeId} {x y z : Operand} {t u : TypeId} {kk : IntKind} {i : Int}
/-- A slice of one's own: all of it is known, or a part. -/
structure CpS (o : List Res) (v : Value) (A : Prop) (X : TypeId → Nat → List (List Value) → Nat → List Res → Prop) : Prop where
  ok : A ∨ ∃ T sz L m rest, Take o (arrX v T sz L m) rest ∧ X T sz L m rest
theorem CpS.all {α : Type} {o rest : List Res} {v : Value} {A : Prop} {X : TypeId → Nat → List (List Value) → Nat → List Res → Prop} {T : TypeId} {sz : Nat} {l : List α} {f : α → List AV} (_ : Take o (arrR v T sz l f) rest) (h : A) : CpS o v A X := ⟨.inl h⟩
theorem CpS.part {o rest : List Res} {v : Value} {A : Prop} {X : TypeId → Nat → List (List Value) → Nat → List Res → Prop} {T : TypeId} {sz m : Nat} {L : List (List Value)} (tk : Take o (arrX v T sz L m) rest) (h : X T sz L m rest) : CpS o v A X := ⟨.inr ⟨T, sz, L, m, rest, tk, h⟩⟩
/-- copy, without looking where from. -/
structure Cpg (Γ : Cx) (c : Cls) (d : Tmp) (t u : TypeId) (x y : Operand) (ty : TypeId) (e : EA) (o : List Res) (N : NA) (v : Value) (s j m : Nat) (b : AV) : Prop where
  h : Lk (slE Γ.tt t) fun p => Src o b p.2.size fun q g => TkA o v fun T sz l f rest => Rf (T = p.1 ∧ sz = p.2.size ∧ s = sz) (Mp q g f fun q' =>
    N ((d, .val (.int .i64 (min q'.length m : Nat))) :: e) (arrR v T sz (l.take j ++ q'.take (min q'.length m) ++ l.drop (j + min q'.length m)) f :: rest))
instance {v : Value} {s j m : Nat} {b : AV} : Sp (Cpg Γ c d t u x y ty e o N v s j m b) (Lk (slE Γ.tt t) fun p => Src o b p.2.size fun q g => TkA o v fun T sz l f rest => Rf (T = p.1 ∧ sz = p.2.size ∧ s = sz) (Mp q g f fun q' =>
    N ((d, .val (.int .i64 (min q'.length m : Nat))) :: e) (arrR v T sz (l.take j ++ q'.take (min q'.length m) ++ l.drop (j + min q'.length m)) f :: rest))) := ⟨fun h => ⟨h⟩⟩
instance (priority := 1100) {v : Value} {s j m s' j' m' : Nat} : Sp (Cpy Γ c d t u x y ty e o N (.os v s j m) (.os v s' j' m')) (CpS o v (Cpg Γ c d t u x y ty e o N v s j m (.os v s' j' m')) fun T sz L M rest => Lk (slE Γ.tt t) fun p => Rf (T = p.1 ∧ sz = p.2.size ∧ s = sz) (Rf (s' = sz)
    (Om (j' + min m' m ≤ L.length ∧ j ≤ L.length ∧ j + min m' m = M) (N ((d, .val (.int .i64 (min m' m : Nat))) :: e) (arrR v T sz (L.take j ++ (L.drop j').take (min m' m)) valR :: rest))))) := ⟨fun ⟨hor⟩ => by
  rcases hor with hA | ⟨T, sz, L, M, rest, tk, p, hp, ⟨hT, hz, hs⟩, hs', ⟨hc1, hc2, hc3⟩, hn⟩
  · exact Sp.h hA.h
  · subst hs; subst hT; subst hz; subst hs'
    refine ⟨fun ha hb hc => ⟨fun env hh G Os cn => ?_⟩⟩
    obtain ⟨w, g1, p0, len, cap, rfl, hjm, rfl⟩ := cn.get ha
    obtain ⟨w2, g2, p1, len1, cap1, e2, hjm2, rfl⟩ := cn.get hb
    cases e2
    obtain ⟨ti, t1, t2, t3⟩ := slE_spec hp
    obtain ⟨O, Os', cn2⟩ := cn.take tk
    obtain ⟨⟨ho, hv, hLM, junk, hw⟩, hrest⟩ := cn2.hp.own
    rcases hw.ok with ⟨e1, e2⟩ | ⟨b, of, cap', l, e1, hbk, h1, h2, h3⟩
    · cases e1
      have hL0 : L.length = 0 := by omega
      have hm0 : min m' m = 0 := by omega
      refine .ofLd hc (ld_copy0 Γ.ok t1 t2 t3 g1 g2 (m := m') (news := []) ⟨.inl ⟨_, _, by rw [show m' = 0 by omega], by omega, rfl⟩⟩ hm0 ?_)
      have hLn : L = [] := List.eq_nil_of_length_eq_zero hL0
      subst hLn
      rw [hm0, List.take_nil, List.drop_nil, List.take_nil, List.append_nil] at hn
      have hM : M = 0 := by omega
      subst hM
      have c3 : Con Γ ⟨e, arrR (.slice none 0 0) p.1 p.2.size [] valR :: rest⟩ env hh G (O :: Os') := ⟨cn2.hp.perm ⟨⟨ho, [], by simpa using (Own.nil : Own hh _ p.1 p.2.size 0 []), Rows.nil⟩, hrest⟩ (List.Perm.refl _), cn2.env, cn2.nf⟩
      exact CN.mk (c3.put d (a := .val (.int .i64 (0 : Nat))) rfl) hn
    · cases e1
      have hfl := hv.flen
      have hlen := hw.len_vs
      have hMs : L.length * p.2.size ≤ M * p.2.size := Nat.mul_le_mul_right _ hLM
      have hMc : M * p.2.size ≤ cap * p.2.size := Nat.mul_le_mul_right _ h2
      by_cases h0 : min m' m = 0
      · have hjM : j = M := by omega
        have hLe : L.length = M := by omega
        have hr0 : ∃ news, Sl hh (.slice (subA (some ⟨b, of, none⟩) p.2.size j' cap) m' (cap - j')) m' news := by
          rcases Nat.eq_zero_or_pos m' with hz | hz
          · exact ⟨[], ⟨.inl ⟨_, _, by rw [hz], hz, rfl⟩⟩⟩
          · refine ⟨(l.drop (of + j' * p.2.size)).take (m' * p.2.size), ⟨.inr ⟨b, of + j' * p.2.size, cap - j', ?_, hz, by omega, hbk.lt, hbk.cels _ _⟩⟩⟩
            unfold subA; rw [if_neg (by omega)]; simp [addr_add]
        obtain ⟨news, hsl⟩ := hr0
        refine .ofLd hc (ld_copy0 Γ.ok t1 t2 t3 g1 g2 hsl h0 ?_)
        rw [h0, List.take_zero, List.append_nil, List.take_of_length_le (by omega)] at hn
        have hjk : junk = [] := List.eq_nil_of_length_eq_zero (by rw [List.length_append] at hlen; rw [hLe] at hfl; omega)
        subst hjk
        have c3 : Con Γ ⟨e, arrR (.slice (some ⟨b, of, none⟩) M cap) p.1 p.2.size L valR :: rest⟩ env hh G (O :: Os') := ⟨cn2.hp.perm ⟨⟨ho, L, by rw [hLe]; simpa using hw, hv.rows hh G⟩, hrest⟩ (List.Perm.refl _), cn2.env, cn2.nf⟩
        exact CN.mk (c3.put d (a := .val (.int .i64 (0 : Nat))) rfl) hn
      · have hsub : ∀ q, q < cap → subA (some ⟨b, of, none⟩) p.2.size q cap = some ⟨b, of + q * p.2.size, none⟩ := fun q hq => by
          unfold subA; rw [if_neg (by omega)]; simp [addr_add]
        rw [hsub j (by omega)] at g1
        rw [hsub j' (by omega)] at g2
        have hjs : j' * p.2.size + min m' m * p.2.size ≤ L.length * p.2.size := by rw [← Nat.add_mul]; exact Nat.mul_le_mul_right _ hc1
        have hjd : j * p.2.size + min m' m * p.2.size = M * p.2.size := by rw [← Nat.add_mul, hc3]
        have hm's : min m' m * p.2.size ≤ m' * p.2.size := Nat.mul_le_mul_right _ (by omega)
        -- what is read
        have hseg : ((l.drop (of + j' * p.2.size)).take (m' * p.2.size)).take (min m' m * p.2.size) = (L.flatten.drop (j' * p.2.size)).take (min m' m * p.2.size) := by
          have e9 : L.flatten = ((l.drop of).take (M * p.2.size)).take (L.length * p.2.size) := by rw [h3, ← hfl, List.take_left]
          rw [e9]
          simp only [List.take_take, List.drop_take, List.drop_drop]
          congr 1
          omega
        have hm'l : of + j' * p.2.size + m' * p.2.size ≤ l.length := by
          have : j' * p.2.size + m' * p.2.size ≤ M * p.2.size := by rw [← Nat.add_mul]; exact Nat.mul_le_mul_right _ (by omega)
          omega
        have hsrc : Sl hh (.slice (some ⟨b, of + j' * p.2.size, none⟩) m' (cap - j')) m' ((l.drop (of + j' * p.2.size)).take (m' * p.2.size)) := ⟨.inr ⟨b, of + j' * p.2.size, cap - j', rfl, by omega, by omega, hbk.lt, hbk.cels _ _⟩⟩
        have hX1 : ((L.flatten.drop (j' * p.2.size)).take (min m' m * p.2.size)).length = min m' m * p.2.size := by rw [List.length_take, List.length_drop]; omega
        have hone : ∀ w ∈ L.flatten, w.oneCell' = true := fun w hw => by
          obtain ⟨r, hr, hw⟩ := List.mem_flatten.1 hw
          exact hv.one r hr w hw
        refine .ofLd hc (ld_copy Γ.ok t1 t2 t3 g1 g2 hbk hsrc (by rw [List.length_take, List.length_drop]; omega) (fun w hw => by rw [hseg] at hw; exact hone w (List.mem_of_mem_drop (List.mem_of_mem_take hw))) (by omega) fun h' hsz hu => ?_)
        rw [hseg] at hu
        have hob : O b := (ho b).2 (by simp [blkOf])
        have hown := own_seg (j := j) hw hX1 (by omega) hu h1 h2 h3
        have hLj : j * p.2.size ≤ L.length * p.2.size := Nat.mul_le_mul_right _ hc2
        rw [List.take_append_of_le_length (by omega), List.drop_of_length_le (l := L.flatten ++ junk) (by rw [hlen]; omega), List.append_nil] at hown
        have hvn : RowsV p.2.size (L.take j ++ (L.drop j').take (min m' m)) := ⟨fun r hr => by
            rcases List.mem_append.1 hr with h | h
            · exact hv.sz r (List.mem_of_mem_take h)
            · exact hv.sz r (List.mem_of_mem_drop (List.mem_of_mem_take h)), fun r hr => by
            rcases List.mem_append.1 hr with h | h
            · exact hv.one r (List.mem_of_mem_take h)
            · exact hv.one r (List.mem_of_mem_drop (List.mem_of_mem_take h))⟩
        have hfl2 : (L.take j ++ (L.drop j').take (min m' m)).flatten = L.flatten.take (j * p.2.size) ++ (L.flatten.drop (j' * p.2.size)).take (min m' m * p.2.size) := by
          rw [List.flatten_append, flat_take L j hv.sz, flat_take _ _ (fun r hr => hv.sz r (List.mem_of_mem_drop hr)), flat_drop L _ hv.sz]
        have hln : (L.take j ++ (L.drop j').take (min m' m)).length = M := by simp; omega
        have c3 := con_seg (R' := arrR (.slice (some ⟨b, of, none⟩) M cap) p.1 p.2.size (L.take j ++ (L.drop j').take (min m' m)) valR) cn2 hu hob (fun _ => ⟨ho, _, by rw [hln, hfl2]; exact hown, hvn.rows h' G⟩)
        exact CN.mk (c3.put d (a := .val _) rfl) hn⟩
end
end Go.CF
namespace Go.CF
open Go
section
variable {Γ : Cx} {k : List KI} {e : EA} {o : List Res} {N : NA} {c : Cls} {d : Tmp} {ty : TypeId} {x y z : Operand} {t u : TypeId} {kk : IntKind} {i : Int}
structure Clr (Γ : Cx) (c : Cls) (t : TypeId) (x : Operand) (ty : TypeId) (e : EA) (o : List Res) (N : NA) (a : AV) : Prop where
  h : evA e x = some a → isLoud c = true → SA Γ c none (.call { callee := .builtin .clear, args := #[x], argTypes := #[t] }) ty e o N
instance : Sp (SA Γ c none (.call { callee := .builtin .clear, args := #[x], argTypes := #[t] }) ty e o N) (Rf (isLoud c = true) (Lk (evA e x) fun a => Clr Γ c t x ty e o N a)) := ⟨fun ⟨hc, _, ha, h⟩ => h.h ha hc⟩
instance {v : Value} {s j m : Nat} : Sp (Clr Γ c t x ty e o N (.os v s j m)) (Lk (slE Γ.tt t) fun p => TkX o v fun T sz L M rest => Rf (T = p.1 ∧ sz = p.2.size ∧ s = sz) (Rf (p.2.zero.cells.toList.all Value.oneCell' = true ∧ p.2.zero.cells.size = p.2.size) (Om (0 < m ∧ j ≤ L.length) (N e (arrX v T sz (L.take j) M :: rest))))) := ⟨fun ⟨p, hp, T, sz, L, M, rest, tk, ⟨hT, hz, hs⟩, ⟨hz1, hz2⟩, ⟨hm, hjL⟩, hn⟩ => ⟨fun ha hc => ⟨fun env hh G Os cn => by
  subst hs; subst hT; subst hz
  obtain ⟨w, g1, p0, len, cap, rfl, hjm, rfl⟩ := cn.get ha
  obtain ⟨ti, t1, t2, t3⟩ := slE_spec hp
  obtain ⟨O, Os', cn2⟩ := cn.take tk
  obtain ⟨⟨ho, hv, hLM, junk, hw⟩, hrest⟩ := cn2.hp.own
  rcases hw.ok with ⟨e1, e2⟩ | ⟨b, of, cap', l, e1, hbk, h1, h2, h3⟩
  · cases e1; omega
  · cases e1
    obtain ⟨q, rfl⟩ : ∃ q, m = q + 1 := ⟨m - 1, by omega⟩
    have hMc : M * p.2.size ≤ cap * p.2.size := Nat.mul_le_mul_right _ h2
    have hjs : j * p.2.size + (q + 1) * p.2.size ≤ M * p.2.size := by rw [← Nat.add_mul]; exact Nat.mul_le_mul_right _ hjm
    have hsub : subA (some ⟨b, of, none⟩) p.2.size j cap = some ⟨b, of + j * p.2.size, none⟩ := by unfold subA; rw [if_neg (by omega)]; simp [addr_add]
    rw [hsub] at g1
    refine St.clearS Γ.ok t1 t2 t3 (fun u hu => List.all_eq_true.1 hz1 u hu) hz2 g1 hbk (by omega) hc fun h' l' hu hsz hl' hsame => ?_
    have hob : O b := (ho b).2 (by simp [blkOf])
    have hfl := hv.flen
    have hLjs : j * p.2.size ≤ L.length * p.2.size := Nat.mul_le_mul_right _ hjL
    have hvt : RowsV p.2.size (L.take j) := ⟨fun r hr => hv.sz r (List.mem_of_mem_take hr), fun r hr => hv.one r (List.mem_of_mem_take hr)⟩
    have hpre : (l'.drop of).take (j * p.2.size) = (L.take j).flatten := by
      rw [flat_take L j hv.sz]
      have e9 : L.flatten.take (j * p.2.size) = (l.drop of).take (j * p.2.size) := by
        have e8 : ((l.drop of).take (M * p.2.size)).take (j * p.2.size) = (L.flatten ++ junk).take (j * p.2.size) := by rw [h3]
        rw [List.take_append_of_le_length (by omega), List.take_take, Nat.min_eq_left (by omega)] at e8
        exact e8.symm
      rw [e9]
      apply List.ext_getElem?
      intro r
      simp only [List.getElem?_take, List.getElem?_drop]
      split
      · exact hsame _ (by omega)
      · rfl
    have c3 := con_seg (R' := arrX (.slice (some ⟨b, of, none⟩) M cap) p.1 p.2.size (L.take j) M) cn2 hu hob (fun _ => ⟨ho, hvt, by rw [List.length_take]; omega, ((l'.drop of).take (M * p.2.size)).drop (j * p.2.size), by rw [List.length_append, ← hpre]; simp only [List.length_take, List.length_drop, hl']; omega, .inr ⟨b, of, cap, l', rfl, hu.blk, by omega, h2, by
      rw [← hpre]
      conv => lhs; rw [← List.take_append_drop (j * p.2.size) ((l'.drop of).take (M * p.2.size)), List.take_take, Nat.min_eq_left (by omega)]⟩⟩)
    exact CN.mk c3 hn⟩⟩⟩
/-- copy into a slice of which a part is known. -/
instance (priority := 1050) {v : Value} {s j m : Nat} {b : AV} : Sp (Cpy Γ c d t u x y ty e o N (.os v s j m) b) (CpS o v (Cpg Γ c d t u x y ty e o N v s j m b) fun T sz L M rest => Lk (slE Γ.tt t) fun p => Rf (T = p.1 ∧ sz = p.2.size ∧ s = sz) (Src o b p.2.size fun q g => Mp q g valR fun q' =>
    Om (j ≤ L.length) (N ((d, .val (.int .i64 (min q'.length m : Nat))) :: e) (arrX v T sz (L.take j ++ q'.take (min q'.length m)) M :: rest)))) := ⟨fun ⟨hor⟩ => by
  rcases hor with hA | ⟨T, sz, L, M, rest, tk, p, hp, ⟨hT, hz, hs⟩, β, q, g, ⟨q', hq', hc2, hn⟩, hsrc⟩
  · exact Sp.h hA.h
  · subst hs; subst hT; subst hz
    refine ⟨fun ha hb hc => ⟨fun env hh G Os cn => ?_⟩⟩
    obtain ⟨w, g1, p0, len, cap, rfl, hjm, rfl⟩ := cn.get ha
    obtain ⟨w2, g2, r2⟩ := cn.get hb
    obtain ⟨srows, hsl, hsr⟩ := hsrc cn.hp r2
    have hql : q'.length = q.length := by have := congrArg List.length hq'; simpa using this
    have hsr' := hsr.map hq'
    have hsv := RowsV.of hsr'
    have e9 := rows_val hsr'
    subst e9
    obtain ⟨ti, t1, t2, t3⟩ := slE_spec hp
    obtain ⟨O, Os', cn2⟩ := cn.take tk
    obtain ⟨⟨ho, hv, hLM, junk, hw⟩, hrest⟩ := cn2.hp.own
    have hvt : RowsV p.2.size (L.take j ++ srows.take (min srows.length m)) := ⟨fun r hr => by
        rcases List.mem_append.1 hr with h | h
        · exact hv.sz r (List.mem_of_mem_take h)
        · exact hsv.sz r (List.mem_of_mem_take h), fun r hr => by
        rcases List.mem_append.1 hr with h | h
        · exact hv.one r (List.mem_of_mem_take h)
        · exact hsv.one r (List.mem_of_mem_take h)⟩
    have hfl := hv.flen
    have hsfl := hsv.flen
    have hlen := hw.len_vs
    have hfl2 : (L.take j ++ srows.take (min srows.length m)).flatten = L.flatten.take (j * p.2.size) ++ srows.flatten.take (min srows.length m * p.2.size) := by
      rw [List.flatten_append, flat_take L j hv.sz, flat_take _ _ hsv.sz]
    have hLj : j * p.2.size ≤ L.length * p.2.size := Nat.mul_le_mul_right _ hc2
    rcases hw.ok with ⟨e1, e2⟩ | ⟨b, of, cap', l, e1, hbk, h1, h2, h3⟩
    · cases e1
      have h0 : min srows.length m = 0 := by omega
      refine .ofLd hc (ld_copy0 Γ.ok t1 t2 t3 g1 g2 hsl (by rw [← hql]; exact h0) ?_)
      rw [h0, List.take_zero, List.append_nil] at hn
      rw [h0, List.take_zero, List.append_nil] at hvt
      have c3 : Con Γ ⟨e, arrX (.slice none 0 0) p.1 p.2.size (L.take j) M :: rest⟩ env hh G (O :: Os') := ⟨cn2.hp.perm ⟨⟨ho, hvt, by rw [List.length_take]; omega, L.flatten.drop (j * p.2.size) ++ junk, by rw [← List.append_assoc, flat_take L j hv.sz, List.take_append_drop]; exact hw⟩, hrest⟩ (List.Perm.refl _), cn2.env, cn2.nf⟩
      exact CN.mk (c3.put d (a := .val (.int .i64 (0 : Nat))) rfl) hn
    · cases e1
      by_cases h0 : min srows.length m = 0
      · refine .ofLd hc (ld_copy0 Γ.ok t1 t2 t3 g1 g2 hsl (by rw [← hql]; exact h0) ?_)
        rw [h0, List.take_zero, List.append_nil] at hn
        rw [h0, List.take_zero, List.append_nil] at hvt
        have c3 : Con Γ ⟨e, arrX (.slice (some ⟨b, of, none⟩) M cap) p.1 p.2.size (L.take j) M :: rest⟩ env hh G (O :: Os') := ⟨cn2.hp.perm ⟨⟨ho, hvt, by rw [List.length_take]; omega, L.flatten.drop (j * p.2.size) ++ junk, by rw [← List.append_assoc, flat_take L j hv.sz, List.take_append_drop]; exact hw⟩, hrest⟩ (List.Perm.refl _), cn2.env, cn2.nf⟩
        exact CN.mk (c3.put d (a := .val (.int .i64 (0 : Nat))) rfl) hn
      · have hsub : subA (some ⟨b, of, none⟩) p.2.size j cap = some ⟨b, of + j * p.2.size, none⟩ := by unfold subA; rw [if_neg (by omega)]; simp [addr_add]
        rw [hsub] at g1
        have hMc : M * p.2.size ≤ cap * p.2.size := Nat.mul_le_mul_right _ h2
        have hjs : j * p.2.size + min srows.length m * p.2.size ≤ M * p.2.size := by rw [← Nat.add_mul]; exact Nat.mul_le_mul_right _ (by omega)
        have hmin : min srows.length m * p.2.size ≤ srows.length * p.2.size := Nat.mul_le_mul_right _ (by omega)
        have hone : ∀ w ∈ srows.flatten, w.oneCell' = true := fun w hw => by
          obtain ⟨r, hr, hw⟩ := List.mem_flatten.1 hw
          exact hsv.one r hr w hw
        refine .ofLd hc (ld_copy Γ.ok t1 t2 t3 g1 g2 hbk hsl (by rw [hsfl, hql]) (fun w hw => hone w (List.mem_of_mem_take hw)) (by rw [← hql]; omega) fun h' hsz hu => ?_)
        rw [← hql] at hu ⊢
        have hob : O b := (ho b).2 (by simp [blkOf])
        have hX : (srows.flatten.take (min srows.length m * p.2.size)).length = min srows.length m * p.2.size := by rw [List.length_take]; omega
        have hown := own_seg (j := j) hw hX (by omega) hu h1 h2 h3
        rw [List.take_append_of_le_length (by omega), ← hfl2] at hown
        have c3 := con_seg (R' := arrX (.slice (some ⟨b, of, none⟩) M cap) p.1 p.2.size (L.take j ++ srows.take (min srows.length m)) M) cn2 hu hob (fun _ => ⟨ho, hvt, by rw [List.length_append, List.length_take, List.length_take]; omega, _, hown⟩)
        exact CN.mk (c3.put d (a := .val _) rfl) hn⟩
/-- All of it is known. -/
theorem CA.ofX {y : Code} (q : Tmp) {v : Value} {T sz m : Nat} {L : List (List Value)} {rest : List Res} (ht : lookA e q = some (.ox v)) (tk : Take o (arrX v T sz L m) rest) (hl : L.length = m) (h : CA Γ k y ((q, .ow v) :: e) (arrR v T sz L valR :: rest)) : CA Γ k y e o := by
  refine ⟨fun env hh G Os cn => ?_⟩
  obtain ⟨O, Os', cn2⟩ := cn.take tk
  obtain ⟨⟨ho, hv, hLM, junk, hw⟩, hrest⟩ := cn2.hp.own
  subst hl
  have hlen := hw.len_vs
  have hfl := hv.flen
  have hj : junk = [] := List.eq_nil_of_length_eq_zero (by rw [List.length_append] at hlen; omega)
  subst hj
  rw [List.append_nil] at hw
  have c3 : Con Γ ⟨e, arrR v T sz L valR :: rest⟩ env hh G (O :: Os') := ⟨cn2.hp.perm ⟨⟨ho, L, hw, hv.rows hh G⟩, hrest⟩ (List.Perm.refl _), cn2.env, cn2.nf⟩
  exact h.h env hh G (O :: Os') (con_re (σ := ⟨e, arrR v T sz L valR :: rest⟩) c3 q (fun w hw' => by
    obtain ⟨w', g1, g2⟩ := cn.env q _ ht
    rw [hw'] at g1; cases g1; exact g2) ht)
/-! ### append of zeros, where a new row is needed -/
theorem run_append_grow_zeros {P : Program} {w : World} (t tn ty e : TypeId) (i : TypeInfo) (z : Value) (k kn : IntKind) (ht : P.underlying t = some (.slice e)) (htn : P.underlying tn = some (.int kn)) (hi : P.info? e = some i) (hz : i.zero = some z)
    (b : Addr) (sLen sCap : Nat) (olds : List Value) (hlo : olds.length = sLen * i.size) (holds : ∀ j v, olds[j]? = some v → w.cell? (b.add j) = some v) (n : Nat) (h0 : 0 < n) (hs : 0 < i.size)
    (hg : sCap < sLen + n) (h63 : ((sLen + n : Nat) : Int) ≤ 9223372036854775807) (h48 : n * i.bytes ≤ 281474976710656) (hfit : Builtin.nextslicecap (sLen + n) sCap * i.bytes ≤ 281474976710656) :
    (Builtin.append_ #[t, tn] ty #[.slice (some b) sLen sCap, .int k n]).run P w =
      .ok (.slice (some ⟨w.heap.size, 0, none⟩) (sLen + n) (grownCap w (sLen + n) sCap e))
        (w.drew.alloc (.cells (olds.toArray ++ Builtin.zeroCells z.cells n ++ Builtin.zeroCells z.cells (grownCap w (sLen + n) sCap e - (sLen + n))) e)) := by
  have hn : ¬ (sLen + n ≤ sCap) := by omega
  have hw : IntKind.i64.wrap (n : Int) = n := by rw [IntKind.wrap_i64]; omega
  have h63' : ¬ (9223372036854775807 < ((sLen : Int) + (n : Int))) := by omega
  have h48' : ¬ (281474976710656 < Builtin.nextslicecap (sLen + n) sCap * i.bytes) := by omega
  have h48i : ¬ (281474976710656 < (n : Int) * (i.bytes : Int)) := by
    rw [← Int.natCast_mul]; omega
  have hneg : ¬ ((n : Int) < 0) := by omega
  have hns : ¬ (n * i.size = 0) := Nat.mul_ne_zero (by omega) (by omega)
  have hfo := run_firstCells_some (P := P) w.drew i.size sLen b sLen sCap olds hlo (by simpa using holds)
  simp [Builtin.append_, run_underlying ht, run_underlying htn, sizeOf, typeInfo, zeroValue, hi, hz, asInt, asIntOf, hw, hn, hneg, hns, h63', h48', h48i, Question.forced, hfo, newRow, grownCap]
end
end Go.CF
namespace Go.CF
open Go
section
variable {Γ : Cx} {k : List KI} {e : EA} {o : List Res} {N : NA} {c : Cls} {d : Tmp} {ty : TypeId} {x y z : Operand} {t u : TypeId} {kk : IntKind} {i : Int}
structure Apz (Γ : Cx) (c : Cls) (d : Tmp) (t u : TypeId) (x y : Operand) (ty : TypeId) (e : EA) (o : List Res) (N : NA) (a b : AV) : Prop where
  h : evA e x = some a → evA e y = some b → isLoud c = true → SA Γ c (some d) (.call { callee := .builtin .append, args := #[x, y], argTypes := #[t, u] }) ty e o N
instance (priority := 900) : Sp (SA Γ c (some d) (.call { callee := .builtin .append, args := #[x, y], argTypes := #[t, u] }) ty e o N) (Rf (isLoud c = true) (Lk (evA e x) fun a => Lk (evA e y) fun b => Apz Γ c d t u x y ty e o N a b)) := ⟨fun ⟨hc, _, ha, _, hb, h⟩ => h.h ha hb hc⟩
instance {v : Value} {s m : Nat} : Sp (Apz Γ c d t u x y ty e o N (.os v s 0 m) (.val (.int .i64 i))) (Lk (slE Γ.tt t) fun p => Lk (Γ.tt u) fun ui => Rf (ui.kind = .int .i64) (Rf ((Nat.blt 0 p.2.size && Nat.ble p.2.bytes 1000) = true ∧ p.2.zero.cells.size = p.2.size) (TkA o v fun T sz l f _ => Rf (T = p.1 ∧ sz = p.2.size ∧ s = sz) (Mp l f valR fun L =>
    Jx i 100000000000 fun n => Om (0 < n ∧ capV v < m + n ∧ m ≤ l.length ∧ 0 < l.length ∧ m + n ≤ 100000000000) (All fun w : Value => N ((d, .ox w) :: e) (arrX w p.1 p.2.size (L.take m) (m + n) :: o)))))) := ⟨fun ⟨p, hp, ui, hui, huk, ⟨hs1, hs2⟩, α, T, sz, l, f, rest, tk, ⟨hT, hz, hs⟩, L, hL, n, hi, _, ⟨hn0, hcap, hml, hl0, hmn⟩, hn⟩ => ⟨fun ha hb hc => ⟨fun env hh G Os cn => by
  subst hs; subst hT; subst hz; subst hi
  obtain ⟨w, g1, p0, len, cap, rfl, hjm, rfl⟩ := cn.get ha
  obtain ⟨w2, g2, rfl⟩ := cn.get hb
  obtain ⟨ti, t1, t2, t3⟩ := slE_spec hp
  obtain ⟨O, Os', cn2⟩ := cn.take tk
  obtain ⟨⟨ho, rows, hw, hr⟩, hrest⟩ := cn2.hp.own
  have hr2 : Rows hh G p.2.size rows L valR := hr.map hL
  have hv := RowsV.of hr2
  have e9 := rows_val hr2
  subst e9
  have hLl : rows.length = l.length := hr.len
  simp only [Bool.and_eq_true, Nat.blt_eq] at hs1
  have hb1000 := Nat.le_of_ble_eq_true hs1.2
  have hlen := hw.len_vs
  have hfl := hv.flen
  rcases hw.ok with ⟨e1, e2⟩ | ⟨b, of, cap', l', e1, hbk, h1, h2, h3⟩
  · omega
  · cases e1
    have hsub : subA (some ⟨b, of, none⟩) p.2.size 0 cap = some ⟨b, of, none⟩ := subA_zero (fun a h => by cases h; rfl)
    rw [hsub] at g1
    have hcap : cap < m + n := hcap
    refine .ofLd hc fun a w oo next Q ha' hw' hop hty hnn => ?_
    obtain ⟨ie, dd, hie, hd, hi1, hi2, hi3, _⟩ := (Γ.ok.ok _ _ t3).ok
    have hu := (Γ.ok.ok _ _ t1).slice t2
    have hun := (Γ.ok.ok _ _ hui).int huk
    have hms : m * p.2.size ≤ l.length * p.2.size := Nat.mul_le_mul_right _ hml
    have hlc : l.length * p.2.size ≤ cap * p.2.size := Nat.mul_le_mul_right _ h2
    have holds : ∀ j v, (rows.take m).flatten[j]? = some v → w.cell? ((⟨b, of, none⟩ : Addr).add j) = some v := fun j v hv' => by
      rw [flat_take rows m hv.sz, ← h3, List.take_take, Nat.min_eq_left hms] at hv'
      exact ((hbk.cels of (m * p.2.size)).get j v hv').get w hw'
    have hof : (rows.take m).flatten.length = m * ie.size := by rw [flat_take rows m hv.sz, List.length_take, hfl, hi1, hLl]; omega
    have hbytes : n * ie.bytes ≤ 281474976710656 := by
      rw [hi2]
      have : n * p.2.bytes ≤ 100000000000 * 1000 := Nat.mul_le_mul (by omega) hb1000
      omega
    have hfit : Builtin.nextslicecap (m + n) cap * ie.bytes ≤ 281474976710656 := growslice_fits (by omega) (by
      rw [hi2]
      have : (m + n) * p.2.bytes ≤ 100000000000 * 1000 := Nat.mul_le_mul (by omega) hb1000
      omega)
    have hrz := run_append_grow_zeros (P := Γ.P) (w := w) t u ty p.1 ie p.2.zero .i64 .i64 hu hun hie hi3 ⟨b, of, none⟩ m cap (rows.take m).flatten hof holds n hn0 (by rw [hi1]; exact hs1.1) hcap (by omega) hbytes hfit
    have hge := grownCap_ge w (m + n) cap p.1
    generalize grownCap w (m + n) cap p.1 = cap2 at hrz hge
    have hrun : (execOp a.eval (mkOp (.call { callee := .builtin .append, args := #[x, y], argTypes := #[t, u] }) ty)).run Γ.P w = .ok (.value (.slice (some ⟨w.heap.size, 0, none⟩) (m + n) cap2)) (w.drew.alloc (.cells ((rows.take m).flatten.toArray ++ Builtin.zeroCells p.2.zero.cells n ++ Builtin.zeroCells p.2.zero.cells (cap2 - (m + n))) p.1)) := by
      simp [mkOp, execOp, resolve, invoke, builtin, ha'.ev g1, ha'.ev g2, hrz]
    unfold Oper.wp
    rw [exec_mk, hop, hty, hrun]
    have hheap : (w.drew.alloc (.cells ((rows.take m).flatten.toArray ++ Builtin.zeroCells p.2.zero.cells n ++ Builtin.zeroCells p.2.zero.cells (cap2 - (m + n))) p.1)).heap = hh.push (.cells ((rows.take m).flatten ++ (Builtin.zeroCells p.2.zero.cells n).toList ++ (Builtin.zeroCells p.2.zero.cells (cap2 - (m + n))).toList).toArray p.1 (0, 0)) := by
      simp only [World.alloc, World.drew, hw']
      congr 2
      apply Array.ext'
      simp
    have hnew : New hh hh.size p.1 ((rows.take m).flatten ++ (Builtin.zeroCells p.2.zero.cells n).toList ++ (Builtin.zeroCells p.2.zero.cells (cap2 - (m + n))).toList) (w.drew.alloc (.cells ((rows.take m).flatten.toArray ++ Builtin.zeroCells p.2.zero.cells n ++ Builtin.zeroCells p.2.zero.cells (cap2 - (m + n))) p.1)).heap := ⟨rfl, hheap⟩
    have hvt : RowsV p.2.size (rows.take m) := ⟨fun r hr => hv.sz r (List.mem_of_mem_take hr), fun r hr => hv.one r (List.mem_of_mem_take hr)⟩
    refine hnn _ _ ⟨rfl, rfl, rfl, by first | exact Nat.le_refl _ | exact Nat.le_succ _⟩ ?_
    have hzl : (Builtin.zeroCells p.2.zero.cells n).toList.length = n * p.2.size := by simp [size_zeroCells, hs2]
    have hzl2 : (Builtin.zeroCells p.2.zero.cells (cap2 - (m + n))).toList.length = (cap2 - (m + n)) * p.2.size := by simp [size_zeroCells, hs2]
    rw [hi1] at hof
    have hcs : (m + n) * p.2.size + (cap2 - (m + n)) * p.2.size = cap2 * p.2.size := by rw [← Nat.add_mul]; congr 1; omega
    have hmns : (m + n) * p.2.size = m * p.2.size + n * p.2.size := Nat.add_mul _ _ _
    have c3 := cn.new (R := arrX (.slice (some ⟨hh.size, 0, none⟩) (m + n) cap2) p.1 p.2.size (rows.take m) (m + n)) (O := fun y => y = hh.size) hnew (fun y h => h)
      ⟨fun y => by simp [blkOf], hvt, by rw [List.length_take]; omega, (Builtin.zeroCells p.2.zero.cells n).toList, by rw [List.length_append, hof, hzl, hmns], .inr ⟨hh.size, 0, cap2, _, rfl, hnew.blk, by simp only [List.length_append, hof, hzl, hzl2]; omega, by omega, by rw [List.drop_zero, List.take_left' (by rw [List.length_append, hof, hzl, hmns])]⟩⟩
    rw [hw']
    exact CN.mk (c3.put d (a := .ox _) ⟨rfl, _, _, _, rfl⟩) (hn.ok _)⟩⟩⟩
end
end Go.CF
