/- Part 6 of the ground of this proof: what its texts say of the model, the program and the plain data; conditions: those that are named. -/
import Derived.Laws.CopyRow
import Derived.Lib.Overlaps
import Derived.Test.YtpgpdmmobblffaaGreatP05
namespace Go.Proofs.YtpgpdmmobblffaaGreat
open Go Go.CF
set_option maxRecDepth 20000
/-- The number of the cells of a table. -/
def szF (m : ModS) (t : TblS) : Nat := (prodF m.sorts t.cols).toNat
noncomputable def strN (m : ModS) (l : List TblS) : Nat := (l.map fun t => if isStrict t.kind then szF m t else 0).sum
noncomputable def mrgL (m : ModS) (l : List TblS) : List TblS := l.flatMap fun t => if isStrict t.kind then [] else List.replicate (szF m t) t
/-- The number of the strict cells. -/
noncomputable def strF (m : ModS) : Nat := strN m m.tables
/-- The tables of the convergent cells. -/
noncomputable def mrgF (m : ModS) : List TblS := mrgL m m.tables
theorem sz_fit {m : ModS} {t : TblS} (h : ColOK m.sorts t.cols) : (prodF m.sorts t.cols = (szF m t : Nat)) ∧ szF m t ≤ 216 ∧ 1 ≤ szF m t := by
  have := prod_fit' h
  unfold szF
  omega
theorem strN_succ {m : ModS} {l : List TblS} {i : Nat} {t : TblS} (h : l[i]? = some t) : strN m (l.take (i + 1)) = strN m (l.take i) + if isStrict t.kind then szF m t else 0 := by
  unfold strN; rw [List.take_add_one, h]; simp
theorem mrgL_succ {m : ModS} {l : List TblS} {i : Nat} {t : TblS} (h : l[i]? = some t) : mrgL m (l.take (i + 1)) = mrgL m (l.take i) ++ if isStrict t.kind then [] else List.replicate (szF m t) t := by
  unfold mrgL; rw [List.take_add_one, h]; simp
theorem strN_le {m : ModS} (hm : LayOK m.sorts m.tables) : ∀ i, i ≤ m.tables.length → strN m (m.tables.take i) ≤ 216 * i := by
  intro i
  induction i with
  | zero => simp [strN]
  | succ i ih =>
    intro hi
    obtain ⟨t, ht⟩ := get_of (l := m.tables) (i := i) (by omega)
    have h1 := sz_fit (m := m) (hm.2.2.2 t (List.mem_of_getElem? ht)).1
    have := ih (by omega)
    rw [strN_succ ht]
    split <;> omega
theorem mrgL_le {m : ModS} (hm : LayOK m.sorts m.tables) : ∀ i, i ≤ m.tables.length → (mrgL m (m.tables.take i)).length ≤ 216 * i := by
  intro i
  induction i with
  | zero => simp [mrgL]
  | succ i ih =>
    intro hi
    obtain ⟨t, ht⟩ := get_of (l := m.tables) (i := i) (by omega)
    have h1 := sz_fit (m := m) (hm.2.2.2 t (List.mem_of_getElem? ht)).1
    have := ih (by omega)
    rw [mrgL_succ ht]
    split <;> simp <;> omega
theorem strict32_p (m : ModS) (hm : LayOK m.sorts m.tables) : CallP Tryz.prog 39 [mdl m] (it (strF m : Nat)) := by
  have hml := hm.2.2.1
  refine CallA.of pg ord39 Tryz.func39 rfl Tryz.ntmps39 Tryz.results39 rfl fun h0 G0 O0 => ?_
  repeat' (first | refine Sp.h ?_ | refine Lk.r rfl ?_ | refine Rf.mk rfl ?_ | (refine All.mk ?_; intro _) | fail)
  rename_i b1
  refine CA.loop (fun i : Nat => ⟨[(1, pm b1), (3, it (strN m (m.tables.take i) : Nat)), (4, it i)], [mR b1 m]⟩) (fun i => i ≤ m.tables.length) (fun i => m.tables.length - i) 0 ⟨by (repeat (first | exact trivial | refine ⟨rfl, ?_⟩)), by (repeat (first | exact Subl.nil | refine Subl.cons (by (repeat (first | exact Take.here | apply Take.there))) ?_))⟩ (Nat.zero_le _) ?_
  intro i hi
  by_cases hin : i < m.tables.length
  · obtain ⟨t, ht⟩ := get_of hin
    have hc := (hm.2.2.2 t (List.mem_of_getElem? ht)).1
    have h1 := sz_fit (m := m) hc
    have hs := size32_p m t hc
    have hn := strN_le hm i hi
    have hsu := strN_succ (m := m) ht
    rw [h1.1] at hs
    by_cases hst : isStrict t.kind
    · rw [if_pos hst] at hsu
      repeat' (first | refine Sp.h ?_ | refine Lk.r rfl ?_ | refine Rf.mk rfl ?_ | (apply Bd.t; (focus (first | assumption | omega | rfl))) | refine OpK.r rfl ?_ | (refine Im.mk ?_; intro _) | (apply TkB.r; (focus (repeat (first | exact Take.here | apply Take.there)))) | (apply Ix.q; (focus exact rfl); (focus assumption)) | refine Ch.l ⟨rfl, rfl⟩ ?_ | (apply CA.draw; (focus rfl); (focus kernel_rfl); (focus kernel_rfl); (focus repeat' (first | apply ON.one | exact ON.done | exact ON.none | apply ON.alt)); (focus rfl)) | (apply Ov.n; (focus first | omega | (simp <;> omega))) | fail | (apply Cl.p (isStrict32_p _); (focus repeat' (first | exact Lend.nil | apply Lend.keep | fail))) | (apply Cl.p (hs); (focus repeat' (first | exact Lend.nil | apply Lend.keep | fail))))
      rw [show ((strN m (m.tables.take i) : Nat) : Int) + (szF m t : Nat) = (strN m (m.tables.take (i + 1)) : Nat) by omega]
      exact PA.lp (i + 1) ⟨by (repeat (first | exact trivial | refine ⟨rfl, ?_⟩)), by (repeat (first | exact Subl.nil | refine Subl.cons (by (repeat (first | exact Take.here | apply Take.there))) ?_))⟩ ⟨hin, by omega⟩
    · rw [if_neg hst] at hsu
      repeat' (first | refine Sp.h ?_ | refine Lk.r rfl ?_ | refine Rf.mk rfl ?_ | (apply Bd.t; (focus (first | assumption | omega | rfl))) | (apply Bd.f; (focus (first | assumption | omega | exact Bool.false_ne_true))) | (refine Im.mk ?_; intro _) | (apply TkB.r; (focus (repeat (first | exact Take.here | apply Take.there)))) | (apply Ix.q; (focus exact rfl); (focus assumption)) | (apply Ov.n; (focus first | omega | (simp <;> omega))) | fail | (apply Cl.p (isStrict32_p _); (focus repeat' (first | exact Lend.nil | apply Lend.keep | fail))) | (apply Cl.p (hs); (focus repeat' (first | exact Lend.nil | apply Lend.keep | fail))))
      rw [show strN m (m.tables.take i) = strN m (m.tables.take (i + 1)) by omega]
      exact PA.lp (i + 1) ⟨by (repeat (first | exact trivial | refine ⟨rfl, ?_⟩)), by (repeat (first | exact Subl.nil | refine Subl.cons (by (repeat (first | exact Take.here | apply Take.there))) ?_))⟩ ⟨hin, by omega⟩
  · have : i = m.tables.length := by omega
    subst this
    simp only [List.take_length]
    repeat' (first | refine Sp.h ?_ | refine Lk.r rfl ?_ | refine Rf.mk rfl ?_ | (apply Bd.f; (focus (first | assumption | omega | exact Bool.false_ne_true))) | (refine Im.mk ?_; intro _) | (apply TkB.r; (focus (repeat (first | exact Take.here | apply Take.there)))) | (apply Nm.r; (focus repeat (first | apply LN.cons | exact LN.nil))) | fail)
    exact Fin.p rfl rfl
theorem merged32_o (m : ModS) (hm : LayOK m.sorts m.tables) : CallO Tryz.prog 31 [mdl m] 84 6 (mrgF m) tblC := by
  have hml := hm.2.2.1
  refine CallA.of pg ord31 Tryz.func31 rfl Tryz.ntmps31 Tryz.results31 rfl fun h0 G0 O0 => ?_
  repeat' (first | refine Sp.h ?_ | refine Lk.r rfl ?_ | refine Rf.mk rfl ?_ | (refine All.mk ?_; intro _) | (apply Fk.r; (focus (repeat (first | exact FillA.nil | (apply FillA.agg; (focus rfl); (focus rfl); (focus (repeat (first | exact SetAs.z | (apply SetAs.c; (focus (repeat (first | assumption | exact SetA.z | apply SetA.s)))))))) | (apply FillA.one; (focus rfl); (focus infer_instance); (focus (repeat (first | assumption | exact SetA.z | apply SetA.s)))))))) | refine Rf.mk ⟨rfl, rfl, rfl⟩ ?_ | fail)
  rename_i b1 v
  apply CA.retype (m := ([] : List TblS)) (g := tblC)
  focus (repeat (first | exact Take.here | apply Take.there))
  focus rfl
  refine CA.loop (fun x : Nat × Value => ⟨[(1, pm b1), (3, .ow x.2), (4, it x.1)], [mR b1 m, arrR x.2 84 6 (mrgL m (m.tables.take x.1)) tblC]⟩) (fun x => x.1 ≤ m.tables.length) (fun x => m.tables.length - x.1) (0, v) ⟨by (repeat (first | exact trivial | refine ⟨rfl, ?_⟩)), by (repeat (first | exact Subl.nil | refine Subl.cons (by (repeat (first | exact Take.here | apply Take.there))) ?_))⟩ (Nat.zero_le _) ?_
  rintro ⟨i, v⟩ hi
  simp only at hi
  simp only
  by_cases hin : i < m.tables.length
  · obtain ⟨t, ht⟩ := get_of hin
    have hc := (hm.2.2.2 t (List.mem_of_getElem? ht)).1
    have h1 := sz_fit (m := m) hc
    have hs := size32_p m t hc
    have hn := mrgL_le hm i hi
    have hsu := mrgL_succ (m := m) ht
    rw [h1.1] at hs
    repeat' (first | refine Sp.h ?_ | refine Lk.r rfl ?_ | refine Rf.mk rfl ?_ | (apply Bd.t; (focus (first | assumption | omega | rfl))) | (refine Im.mk ?_; intro _) | (apply TkB.r; (focus (repeat (first | exact Take.here | apply Take.there)))) | fail)
    refine CA.loop (fun x : Nat × Value => ⟨[(1, pm b1), (3, .ow x.2), (4, it i), (5, it x.1)], [mR b1 m, arrR x.2 84 6 (mrgL m (m.tables.take i) ++ List.replicate x.1 t) tblC]⟩) (fun x => x.1 ≤ szF m t ∧ (isStrict t.kind → x.1 = 0)) (fun x => szF m t - x.1) (0, v) ?_ ⟨Nat.zero_le _, fun _ => rfl⟩ ?_
    · simp only [List.replicate_zero, List.append_nil]
      exact ⟨by (repeat (first | exact trivial | refine ⟨rfl, ?_⟩)), by (repeat (first | exact Subl.nil | refine Subl.cons (by (repeat (first | exact Take.here | apply Take.there))) ?_))⟩
    rintro ⟨k, v⟩ ⟨hk, hk0⟩
    simp only at hk hk0
    simp only
    by_cases hst : isStrict t.kind
    · have hk0 := hk0 hst
      subst hk0
      rw [if_pos hst, List.append_nil] at hsu
      simp only [List.replicate_zero, List.append_nil]
      repeat' (first | refine Sp.h ?_ | refine Lk.r rfl ?_ | refine Rf.mk rfl ?_ | (apply Bd.t; (focus (first | assumption | omega | rfl))) | refine OpK.r rfl ?_ | (apply TkB.r; (focus (repeat (first | exact Take.here | apply Take.there)))) | (apply Ix.q; (focus exact rfl); (focus assumption)) | refine Ch.l ⟨rfl, rfl⟩ ?_ | (apply CA.draw; (focus rfl); (focus kernel_rfl); (focus kernel_rfl); (focus repeat' (first | apply ON.one | exact ON.done | exact ON.none | apply ON.alt)); (focus rfl)) | (apply Ov.n; (focus first | omega | (simp <;> omega))) | fail | (apply Cl.p (isStrict32_p _); (focus repeat' (first | exact Lend.nil | apply Lend.keep | fail))) | (apply Cl.p (hs); (focus repeat' (first | exact Lend.nil | apply Lend.keep | fail))))
      rw [← hsu]
      exact PA.lp (i + 1, v) ⟨by (repeat (first | exact trivial | refine ⟨rfl, ?_⟩)), by (repeat (first | exact Subl.nil | refine Subl.cons (by (repeat (first | exact Take.here | apply Take.there))) ?_))⟩ ⟨hin, by simp only; omega⟩
    · rw [if_neg hst] at hsu
      by_cases hkn : k < szF m t
      · repeat' (first | refine Sp.h ?_ | refine Lk.r rfl ?_ | refine Rf.mk rfl ?_ | (apply Bd.t; (focus (first | assumption | omega | rfl))) | (apply Bd.f; (focus (first | assumption | omega | exact Bool.false_ne_true))) | refine OpK.r rfl ?_ | (apply Om.mk; (focus first | omega | (simp <;> omega))) | (refine All.mk ?_; intro _) | (apply TkA.r; (focus (repeat (first | exact Take.here | apply Take.there)))) | (apply TkB.r; (focus (repeat (first | exact Take.here | apply Take.there)))) | (apply Ix.q; (focus exact rfl); (focus assumption)) | refine Ce.r ?_ | refine Ch.l ⟨rfl, rfl⟩ ?_ | (apply Fk.r; (focus (repeat (first | exact FillA.nil | (apply FillA.agg; (focus rfl); (focus rfl); (focus (repeat (first | exact SetAs.z | (apply SetAs.c; (focus (repeat (first | assumption | exact SetA.z | apply SetA.s)))))))) | (apply FillA.one; (focus rfl); (focus infer_instance); (focus (repeat (first | assumption | exact SetA.z | apply SetA.s)))))))) | refine Rf.mk ⟨rfl, rfl⟩ ?_ | refine Rf.mk ⟨rfl, rfl, rfl⟩ ?_ | (apply Mp.lit; (focus repeat (first | exact MpL.nil | (apply MpL.cons; (focus rfl)) | (apply MpL.inv; (focus repeat (first | apply LN.cons | exact LN.nil)); (focus infer_instance))))) | (apply CA.draw; (focus rfl); (focus kernel_rfl); (focus kernel_rfl); (focus repeat' (first | apply ON.one | exact ON.done | exact ON.none | apply ON.alt)); (focus rfl)) | (apply Ov.n; (focus first | omega | (simp <;> omega))) | fail | (apply Cl.p (isStrict32_p _); (focus repeat' (first | exact Lend.nil | apply Lend.keep | fail))) | (apply Cl.p (hs); (focus repeat' (first | exact Lend.nil | apply Lend.keep | fail))))
        rw [List.append_assoc, show List.replicate k t ++ [t] = List.replicate (k + 1) t from List.replicate_succ'.symm]
        exact PA.lp (k + 1, _) ⟨by (repeat (first | exact trivial | refine ⟨rfl, ?_⟩)), by (repeat (first | exact Subl.nil | refine Subl.cons (by (repeat (first | exact Take.here | apply Take.there))) ?_))⟩ ⟨⟨hkn, fun h => absurd h hst⟩, by simp only; omega⟩
      · have hke : k = szF m t := by omega
        subst hke
        rw [← hsu]
        repeat' (first | refine Sp.h ?_ | refine Lk.r rfl ?_ | refine Rf.mk rfl ?_ | (apply Bd.f; (focus (first | assumption | omega | exact Bool.false_ne_true))) | refine OpK.r rfl ?_ | (apply TkB.r; (focus (repeat (first | exact Take.here | apply Take.there)))) | (apply Ix.q; (focus exact rfl); (focus assumption)) | refine Ch.l ⟨rfl, rfl⟩ ?_ | (apply CA.draw; (focus rfl); (focus kernel_rfl); (focus kernel_rfl); (focus repeat' (first | apply ON.one | exact ON.done | exact ON.none | apply ON.alt)); (focus rfl)) | (apply Ov.n; (focus first | omega | (simp <;> omega))) | fail | (apply Cl.p (isStrict32_p _); (focus repeat' (first | exact Lend.nil | apply Lend.keep | fail))) | (apply Cl.p (hs); (focus repeat' (first | exact Lend.nil | apply Lend.keep | fail))))
        exact PA.lp (i + 1, v) ⟨by (repeat (first | exact trivial | refine ⟨rfl, ?_⟩)), by (repeat (first | exact Subl.nil | refine Subl.cons (by (repeat (first | exact Take.here | apply Take.there))) ?_))⟩ ⟨hin, by simp only; omega⟩
  · have : i = m.tables.length := by omega
    subst this
    simp only [List.take_length]
    repeat' (first | refine Sp.h ?_ | refine Lk.r rfl ?_ | refine Rf.mk rfl ?_ | (apply Bd.f; (focus (first | assumption | omega | exact Bool.false_ne_true))) | (refine Im.mk ?_; intro _) | (apply TkB.r; (focus (repeat (first | exact Take.here | apply Take.there)))) | (apply Nm.r; (focus repeat (first | apply LN.cons | exact LN.nil))) | fail)
    exact ⟨_, _, .one (.same (.nil (by (repeat (first | exact Subl.nil | refine Subl.cons (by (repeat (first | exact Take.here | apply Take.there))) ?_))))), _, rfl, rfl⟩
theorem mrgF_le {m : ModS} (hm : LayOK m.sorts m.tables) : (mrgF m).length ≤ 2592 := by
  have := mrgL_le hm m.tables.length (Nat.le_refl _)
  rw [List.take_length] at this
  have := hm.2.2.1
  unfold mrgF
  omega
theorem merged32_p (m : ModS) (hm : LayOK m.sorts m.tables) : CallP Tryz.prog 31 [mdl m] (tbls (mrgF m)) :=
  CallA.fz (by have := mrgF_le hm; omega) (merged32_o m hm)
end Go.Proofs.YtpgpdmmobblffaaGreat
namespace Go.Proofs.YtpgpdmmobblffaaGreat
open Go Go.CF
set_option maxRecDepth 20000
def FewV (l : List EvS) : Prop := l.length ≤ 60 ∧ ∀ e ∈ l, e.past.length ≤ 8
/-- An effect whose cells are cells of the model. -/
structure EffOK (m : ModS) (x : EffS) : Prop where
  dl : x.delta.length ≤ 20
  hl : x.hold.length ≤ 8
  ul : x.updates.length ≤ 20
  d : ∀ p ∈ x.delta, 0 ≤ p.1 ∧ p.1 < (strF m : Nat)
  u : ∀ p ∈ x.updates, 0 ≤ p.2.1 ∧ p.2.1 < ((mrgF m).length : Nat)
/-- A small model. -/
structure MOK (m : ModS) : Prop where
  lay : LayOK m.sorts m.tables
  ops : m.ops.length ≤ 8
  acts : m.acts.length ≤ 30
  eff : ∀ a ∈ m.acts, EffOK m a.eff
  str : strF m ≤ 40
  mrg : (mrgF m).length ≤ 20
set_option maxHeartbeats 8000000 in
theorem few32_c (m : ModS) (l : List EvS) : CallF Tryz.prog 9 [mdl m, evs l] (MOK m ∧ FewV l) := by
  refine CallA.of pg ord9 Tryz.func9 rfl Tryz.ntmps9 Tryz.results9 rfl fun h0 G0 O0 => ?_
  by_cases hol : ¬ m.ops.length ≤ 8
  · repeat' (first | refine Sp.h ?_ | refine Lk.r rfl ?_ | refine Rf.mk rfl ?_ | (apply Bd.t; (focus (first | assumption | omega | rfl))) | (apply Bd.f; (focus (first | assumption | omega | exact Bool.false_ne_true))) | (refine Bd.mk ?_ ?_ <;> intro _) | (refine Im.mk ?_; intro _) | (refine All.mk ?_; intro _) | (apply TkB.r; (focus (repeat (first | exact Take.here | apply Take.there)))) | (apply Nm.r; (focus repeat (first | apply LN.cons | exact LN.nil))) | fail)
    all_goals first
      | exact ⟨_, _, .one (.same (.nil (by (repeat (first | exact Subl.nil | refine Subl.cons (by (repeat (first | exact Take.here | apply Take.there))) ?_))))), _, rfl, rfl, fun h => by cases h⟩
      | exact (hol (by omega)).elim
  have hol : m.ops.length ≤ 8 := Classical.not_not.1 hol
  repeat' (first | refine Sp.h ?_ | refine Lk.r rfl ?_ | refine Rf.mk rfl ?_ | (apply Bd.t; (focus (first | assumption | omega | rfl))) | (apply Bd.f; (focus (first | assumption | omega | exact Bool.false_ne_true))) | (refine Bd.mk ?_ ?_ <;> intro _) | (refine Im.mk ?_; intro _) | (refine All.mk ?_; intro _) | (apply TkB.r; (focus (repeat (first | exact Take.here | apply Take.there)))) | refine Ch.l ⟨rfl, rfl⟩ ?_ | (apply Nm.r; (focus repeat (first | apply LN.cons | exact LN.nil))) | fail)
  all_goals try exact ⟨_, _, .one (.same (.nil (by (repeat (first | exact Subl.nil | refine Subl.cons (by (repeat (first | exact Take.here | apply Take.there))) ?_))))), _, rfl, rfl, fun h => by cases h⟩
  have hvc := valid13_c m (by omega)
  (apply Cl.use (hvc); (focus repeat' (first | exact Lend.nil | apply Lend.keep | fail)); (focus (repeat (first | exact Takes.nil | (apply Takes.cons; (focus (repeat (first | exact Take.here | apply Take.there))))))); (focus rfl))
  rintro _ _ ⟨b, rfl, rfl, hv⟩
  cases b
  · repeat' (first | refine Sp.h ?_ | refine Lk.r rfl ?_ | refine Rf.mk rfl ?_ | (apply Bd.f; (focus (first | assumption | omega | exact Bool.false_ne_true))) | (apply Nm.r; (focus repeat (first | apply LN.cons | exact LN.nil))) | fail)
    exact ⟨_, _, .one (.same (.nil (by (repeat (first | exact Subl.nil | refine Subl.cons (by (repeat (first | exact Take.here | apply Take.there))) ?_))))), _, rfl, rfl, fun h => by cases h⟩
  have hm := hv rfl
  have hst := strict32_p m hm
  have hmg := merged32_p m hm
  have hml := mrgF_le hm
  repeat' (first | refine Sp.h ?_ | refine Lk.r rfl ?_ | refine Rf.mk rfl ?_ | (apply Bd.t; (focus (first | assumption | omega | rfl))) | (apply Bd.f; (focus (first | assumption | omega | exact Bool.false_ne_true))) | fail)
  rename_i b2 _ _ _ _ _ _ _ _ _ _ _
  have hac : m.acts.length ≤ 30 := by omega
  have hll : l.length ≤ 60 := by omega
  refine CA.loop (fun i : Nat => ⟨[(1, evs l), (2, pm b2), (5, it i)], [mR b2 m]⟩) (fun i => i ≤ m.sorts.length) (fun i => m.sorts.length - i) 0 ⟨by (repeat (first | exact trivial | refine ⟨rfl, ?_⟩)), by (repeat (first | exact Subl.nil | refine Subl.cons (by (repeat (first | exact Take.here | apply Take.there))) ?_))⟩ (Nat.zero_le _) ?_
  intro i hi
  by_cases hin : i < m.sorts.length
  · obtain ⟨x, hx⟩ := get_of hin
    repeat' (first | refine Sp.h ?_ | refine Lk.r rfl ?_ | refine Rf.mk rfl ?_ | (apply Bd.t; (focus (first | assumption | omega | rfl))) | (apply Bd.f; (focus (first | assumption | omega | exact Bool.false_ne_true))) | (refine Bd.mk ?_ ?_ <;> intro _) | (refine Im.mk ?_; intro _) | (apply TkB.r; (focus (repeat (first | exact Take.here | apply Take.there)))) | (apply Ix.q; (focus exact rfl); (focus assumption)) | (apply Nm.r; (focus repeat (first | apply LN.cons | exact LN.nil))) | (apply Ov.n; (focus first | omega | (simp <;> omega))) | fail)
    all_goals first
      | exact ⟨_, _, .one (.same (.nil (by (repeat (first | exact Subl.nil | refine Subl.cons (by (repeat (first | exact Take.here | apply Take.there))) ?_))))), _, rfl, rfl, fun h => by cases h⟩
      | exact PA.lp (i + 1) ⟨by (repeat (first | exact trivial | refine ⟨rfl, ?_⟩)), by (repeat (first | exact Subl.nil | refine Subl.cons (by (repeat (first | exact Take.here | apply Take.there))) ?_))⟩ ⟨hin, by omega⟩

  repeat' (first | refine Sp.h ?_ | refine Lk.r rfl ?_ | refine Rf.mk rfl ?_ | (apply Bd.f; (focus (first | assumption | omega | exact Bool.false_ne_true))) | (refine Im.mk ?_; intro _) | (apply TkB.r; (focus (repeat (first | exact Take.here | apply Take.there)))) | fail)
  refine CA.loop (fun i : Nat => ⟨[(1, evs l), (2, pm b2), (6, it i)], [mR b2 m]⟩) (fun i => i ≤ m.tables.length) (fun i => m.tables.length - i) 0 ⟨by (repeat (first | exact trivial | refine ⟨rfl, ?_⟩)), by (repeat (first | exact Subl.nil | refine Subl.cons (by (repeat (first | exact Take.here | apply Take.there))) ?_))⟩ (Nat.zero_le _) ?_
  intro i hi
  by_cases hin : i < m.tables.length
  · obtain ⟨x, hx⟩ := get_of hin
    repeat' (first | refine Sp.h ?_ | refine Lk.r rfl ?_ | refine Rf.mk rfl ?_ | (apply Bd.t; (focus (first | assumption | omega | rfl))) | (apply Bd.f; (focus (first | assumption | omega | exact Bool.false_ne_true))) | (refine Bd.mk ?_ ?_ <;> intro _) | refine OpK.r rfl ?_ | (refine Im.mk ?_; intro _) | (apply TkB.r; (focus (repeat (first | exact Take.here | apply Take.there)))) | (apply Ix.q; (focus exact rfl); (focus assumption)) | (apply Nm.r; (focus repeat (first | apply LN.cons | exact LN.nil))) | (apply CA.draw; (focus rfl); (focus kernel_rfl); (focus kernel_rfl); (focus repeat' (first | apply ON.one | exact ON.done | exact ON.none | apply ON.alt)); (focus rfl)) | (apply Ov.n; (focus first | omega | (simp <;> omega))) | fail)
    all_goals first
      | exact ⟨_, _, .one (.same (.nil (by (repeat (first | exact Subl.nil | refine Subl.cons (by (repeat (first | exact Take.here | apply Take.there))) ?_))))), _, rfl, rfl, fun h => by cases h⟩
      | exact PA.lp (i + 1) ⟨by (repeat (first | exact trivial | refine ⟨rfl, ?_⟩)), by (repeat (first | exact Subl.nil | refine Subl.cons (by (repeat (first | exact Take.here | apply Take.there))) ?_))⟩ ⟨hin, by omega⟩

  repeat' (first | refine Sp.h ?_ | refine Lk.r rfl ?_ | refine Rf.mk rfl ?_ | (apply Bd.f; (focus (first | assumption | omega | exact Bool.false_ne_true))) | refine OpK.r rfl ?_ | (refine Im.mk ?_; intro _) | (apply TkB.r; (focus (repeat (first | exact Take.here | apply Take.there)))) | refine Ch.l ⟨rfl, rfl⟩ ?_ | (apply CA.draw; (focus rfl); (focus kernel_rfl); (focus kernel_rfl); (focus repeat' (first | apply ON.one | exact ON.done | exact ON.none | apply ON.alt)); (focus rfl)) | fail | (apply Cl.p (hst); (focus repeat' (first | exact Lend.nil | apply Lend.keep | fail))) | (apply Cl.p (hmg); (focus repeat' (first | exact Lend.nil | apply Lend.keep | fail))))
  refine CA.loop (fun i : Nat => ⟨[(1, evs l), (2, pm b2), (7, it (strF m : Nat)), (8, it ((mrgF m).length : Nat)), (9, it i)], [mR b2 m]⟩) (fun i => i ≤ m.acts.length ∧ ∀ a ∈ m.acts.take i, EffOK m a.eff) (fun i => m.acts.length - i) 0 ⟨by (repeat (first | exact trivial | refine ⟨rfl, ?_⟩)), by (repeat (first | exact Subl.nil | refine Subl.cons (by (repeat (first | exact Take.here | apply Take.there))) ?_))⟩ ⟨Nat.zero_le _, by simp⟩ ?_
  rintro i ⟨hi, hae⟩
  by_cases hin : i < m.acts.length
  · obtain ⟨a, ha⟩ := get_of hin
    by_cases hsz : a.eff.delta.length ≤ 20 ∧ a.eff.hold.length ≤ 8 ∧ a.eff.updates.length ≤ 20
    · obtain ⟨hs1, hs2, hs3⟩ := hsz
      repeat' (first | refine Sp.h ?_ | refine Lk.r rfl ?_ | refine Rf.mk rfl ?_ | (apply Bd.t; (focus (first | assumption | omega | rfl))) | (apply Bd.f; (focus (first | assumption | omega | exact Bool.false_ne_true))) | (refine Im.mk ?_; intro _) | (refine All.mk ?_; intro _) | (apply TkB.r; (focus (repeat (first | exact Take.here | apply Take.there)))) | (apply Ix.q; (focus exact rfl); (focus assumption)) | refine Ch.r ?_ | (apply SetAsk.r; (focus (repeat (first | exact SetAs.z | (apply SetAs.c; (focus (repeat (first | assumption | exact SetA.z | apply SetA.s)))))))) | (apply Nm.r; (focus repeat (first | apply LN.cons | exact LN.nil))) | fail)
      rename_i b10 _ _ _
      refine CA.loop (fun k : Nat => ⟨[(1, evs l), (2, pm b2), (7, it (strF m : Nat)), (8, it ((mrgF m).length : Nat)), (9, it i), (10, pm b10), (11, it k)], [mR b2 m, blkR b10 57 (effC a.eff)]⟩) (fun k => k ≤ a.eff.delta.length ∧ ∀ p ∈ a.eff.delta.take k, 0 ≤ p.1 ∧ p.1 < (strF m : Nat)) (fun k => a.eff.delta.length - k) 0 ⟨by (repeat (first | exact trivial | refine ⟨rfl, ?_⟩)), by (repeat (first | exact Subl.nil | refine Subl.cons (by (repeat (first | exact Take.here | apply Take.there))) ?_))⟩ ⟨Nat.zero_le _, by simp⟩ ?_
      rintro k ⟨hk, hks⟩
      by_cases hkn : k < a.eff.delta.length
      · obtain ⟨p, hp⟩ := get_of hkn
        repeat' (first | refine Sp.h ?_ | refine Lk.r rfl ?_ | refine Rf.mk rfl ?_ | (apply Bd.t; (focus (first | assumption | omega | rfl))) | (apply Bd.f; (focus (first | assumption | omega | exact Bool.false_ne_true))) | (refine Bd.mk ?_ ?_ <;> intro _) | (refine Im.mk ?_; intro _) | (apply TkB.r; (focus (repeat (first | exact Take.here | apply Take.there)))) | (apply Ix.q; (focus exact rfl); (focus assumption)) | (apply Nm.r; (focus repeat (first | apply LN.cons | exact LN.nil))) | (apply Ov.n; (focus first | omega | (simp <;> omega))) | fail)
        all_goals first
          | exact ⟨_, _, .one (.same (.nil (by (repeat (first | exact Subl.nil | refine Subl.cons (by (repeat (first | exact Take.here | apply Take.there))) ?_))))), _, rfl, rfl, fun h => by cases h⟩
          | exact PA.lp (k + 1) ⟨by (repeat (first | exact trivial | refine ⟨rfl, ?_⟩)), by (repeat (first | exact Subl.nil | refine Subl.cons (by (repeat (first | exact Take.here | apply Take.there))) ?_))⟩ ⟨⟨hkn, all_succ hp hks ⟨by omega, by omega⟩⟩, by omega⟩
      have hke : k = a.eff.delta.length := by omega
      subst hke
      rw [List.take_length] at hks
      repeat' (first | refine Sp.h ?_ | refine Lk.r rfl ?_ | refine Rf.mk rfl ?_ | (apply Bd.f; (focus (first | assumption | omega | exact Bool.false_ne_true))) | (refine Im.mk ?_; intro _) | (apply TkB.r; (focus (repeat (first | exact Take.here | apply Take.there)))) | fail)
      refine CA.loop (fun k : Nat => ⟨[(1, evs l), (2, pm b2), (7, it (strF m : Nat)), (8, it ((mrgF m).length : Nat)), (9, it i), (10, pm b10), (12, it k)], [mR b2 m, blkR b10 57 (effC a.eff)]⟩) (fun k => k ≤ a.eff.updates.length ∧ ∀ p ∈ a.eff.updates.take k, 0 ≤ p.2.1 ∧ p.2.1 < ((mrgF m).length : Nat)) (fun k => a.eff.updates.length - k) 0 ⟨by (repeat (first | exact trivial | refine ⟨rfl, ?_⟩)), by (repeat (first | exact Subl.nil | refine Subl.cons (by (repeat (first | exact Take.here | apply Take.there))) ?_))⟩ ⟨Nat.zero_le _, by simp⟩ ?_
      rintro k ⟨hk2, hku⟩
      by_cases hkn2 : k < a.eff.updates.length
      · obtain ⟨⟨uk, uc, uv⟩, hu⟩ := get_of hkn2
        repeat' (first | refine Sp.h ?_ | refine Lk.r rfl ?_ | refine Rf.mk rfl ?_ | (apply Bd.t; (focus (first | assumption | omega | rfl))) | (apply Bd.f; (focus (first | assumption | omega | exact Bool.false_ne_true))) | (refine Bd.mk ?_ ?_ <;> intro _) | (refine Im.mk ?_; intro _) | (apply TkB.r; (focus (repeat (first | exact Take.here | apply Take.there)))) | (apply Ix.q; (focus exact rfl); (focus assumption)) | (apply Nm.r; (focus repeat (first | apply LN.cons | exact LN.nil))) | (apply Ov.n; (focus first | omega | (simp <;> omega))) | fail)
        all_goals first
          | exact ⟨_, _, .one (.same (.nil (by (repeat (first | exact Subl.nil | refine Subl.cons (by (repeat (first | exact Take.here | apply Take.there))) ?_))))), _, rfl, rfl, fun h => by cases h⟩
          | exact PA.lp (k + 1) ⟨by (repeat (first | exact trivial | refine ⟨rfl, ?_⟩)), by (repeat (first | exact Subl.nil | refine Subl.cons (by (repeat (first | exact Take.here | apply Take.there))) ?_))⟩ ⟨⟨hkn2, all_succ hu hku ⟨by simp only; omega, by simp only; omega⟩⟩, by omega⟩
      have hke : k = a.eff.updates.length := by omega
      subst hke
      rw [List.take_length] at hku
      repeat' (first | refine Sp.h ?_ | refine Lk.r rfl ?_ | refine Rf.mk rfl ?_ | (apply Bd.f; (focus (first | assumption | omega | exact Bool.false_ne_true))) | (refine Im.mk ?_; intro _) | (apply TkB.r; (focus (repeat (first | exact Take.here | apply Take.there)))) | (apply Ov.n; (focus first | omega | (simp <;> omega))) | fail)
      exact PA.lp (i + 1) ⟨by (repeat (first | exact trivial | refine ⟨rfl, ?_⟩)), by (repeat (first | exact Subl.nil | refine Subl.cons (by (repeat (first | exact Take.here | apply Take.there))) ?_))⟩ ⟨⟨hin, all_succ ha hae ⟨hs1, hs2, hs3, hks, hku⟩⟩, by omega⟩
    · repeat' (first | refine Sp.h ?_ | refine Lk.r rfl ?_ | refine Rf.mk rfl ?_ | (apply Bd.t; (focus (first | assumption | omega | rfl))) | (apply Bd.f; (focus (first | assumption | omega | exact Bool.false_ne_true))) | (refine Bd.mk ?_ ?_ <;> intro _) | (refine Im.mk ?_; intro _) | (refine All.mk ?_; intro _) | (apply TkB.r; (focus (repeat (first | exact Take.here | apply Take.there)))) | (apply Ix.q; (focus exact rfl); (focus assumption)) | refine Ch.r ?_ | (apply SetAsk.r; (focus (repeat (first | exact SetAs.z | (apply SetAs.c; (focus (repeat (first | assumption | exact SetA.z | apply SetA.s)))))))) | (apply Nm.r; (focus repeat (first | apply LN.cons | exact LN.nil))) | fail)
      all_goals first
        | exact ⟨_, _, .one (.same (.nil (by (repeat (first | exact Subl.nil | refine Subl.cons (by (repeat (first | exact Take.here | apply Take.there))) ?_))))), _, rfl, rfl, fun h => by cases h⟩
        | exact (hsz ⟨by omega, by omega, by omega⟩).elim
  have hie : i = m.acts.length := by omega
  subst hie
  rw [List.take_length] at hae

  repeat' (first | refine Sp.h ?_ | refine Lk.r rfl ?_ | refine Rf.mk rfl ?_ | (apply Bd.f; (focus (first | assumption | omega | exact Bool.false_ne_true))) | (refine Im.mk ?_; intro _) | (apply TkB.r; (focus (repeat (first | exact Take.here | apply Take.there)))) | fail)
  refine CA.loop (fun i : Nat => ⟨[(1, evs l), (7, it (strF m : Nat)), (8, it ((mrgF m).length : Nat)), (13, it i)], [mR b2 m]⟩) (fun i => i ≤ l.length ∧ ∀ e ∈ l.take i, e.past.length ≤ 8) (fun i => l.length - i) 0 ⟨by (repeat (first | exact trivial | refine ⟨rfl, ?_⟩)), by (repeat (first | exact Subl.nil | refine Subl.cons (by (repeat (first | exact Take.here | apply Take.there))) ?_))⟩ ⟨Nat.zero_le _, by simp⟩ ?_
  rintro i ⟨hi, hpa⟩
  by_cases hin : i < l.length
  · obtain ⟨e, he⟩ := get_of hin
    repeat' (first | refine Sp.h ?_ | refine Lk.r rfl ?_ | refine Rf.mk rfl ?_ | (apply Bd.t; (focus (first | assumption | omega | rfl))) | (refine Bd.mk ?_ ?_ <;> intro _) | (refine Im.mk ?_; intro _) | (apply Ix.q; (focus exact rfl); (focus assumption)) | (apply Nm.r; (focus repeat (first | apply LN.cons | exact LN.nil))) | (apply Ov.n; (focus first | omega | (simp <;> omega))) | fail)
    all_goals first
      | exact ⟨_, _, .one (.same (.nil (by (repeat (first | exact Subl.nil | refine Subl.cons (by (repeat (first | exact Take.here | apply Take.there))) ?_))))), _, rfl, rfl, fun h => by cases h⟩
      | exact PA.lp (i + 1) ⟨by (repeat (first | exact trivial | refine ⟨rfl, ?_⟩)), by (repeat (first | exact Subl.nil | refine Subl.cons (by (repeat (first | exact Take.here | apply Take.there))) ?_))⟩ ⟨⟨hin, all_succ he hpa (by omega)⟩, by omega⟩
  have hie : i = l.length := by omega
  subst hie
  rw [List.take_length] at hpa
  repeat' (first | refine Sp.h ?_ | refine Lk.r rfl ?_ | refine Rf.mk rfl ?_ | (apply Bd.t; (focus (first | assumption | omega | rfl))) | (apply Bd.f; (focus (first | assumption | omega | exact Bool.false_ne_true))) | (refine Bd.mk ?_ ?_ <;> intro _) | (refine Im.mk ?_; intro _) | (apply Nm.r; (focus repeat (first | apply LN.cons | exact LN.nil))) | fail)
  · refine ⟨_, _, .one (.same (.nil (by (repeat (first | exact Subl.nil | refine Subl.cons (by (repeat (first | exact Take.here | apply Take.there))) ?_))))), _, rfl, rfl, fun h => ⟨⟨hm, hol, hac, hae, by omega, ?_⟩, hll, hpa⟩⟩
    have := of_decide_eq_true h
    omega
  · exact ⟨_, _, .one (.same (.nil (by (repeat (first | exact Subl.nil | refine Subl.cons (by (repeat (first | exact Take.here | apply Take.there))) ?_))))), _, rfl, rfl, fun h => by cases h⟩
end Go.Proofs.YtpgpdmmobblffaaGreat
namespace Go.Proofs.YtpgpdmmobblffaaGreat
open Go Go.CF
set_option maxRecDepth 20000
theorem cells_o (m : ModS) (hm : LayOK m.sorts m.tables) : CallO Tryz.prog 42 [mdl m] 84 6 (mrgF m) tblC := by
  have hml := hm.2.2.1
  refine CallA.of pg ord42 Tryz.func42 rfl Tryz.ntmps42 Tryz.results42 rfl fun h0 G0 O0 => ?_
  repeat' (first | refine Sp.h ?_ | refine Lk.r rfl ?_ | refine Rf.mk rfl ?_ | (refine Im.mk ?_; intro _) | (refine All.mk ?_; intro _) | (apply TkB.r; (focus (repeat (first | exact Take.here | apply Take.there)))) | fail)
  rename_i b1 _
  refine CA.nilOwn 3 84 6 tblC rfl fun v => ?_
  refine CA.loop (fun x : Nat × Value => ⟨[(1, pm b1), (3, .ow x.2), (10, tbls m.tables), (11, it (m.tables.length : Nat)), (12, it x.1)], [mR b1 m, arrR x.2 84 6 (mrgL m (m.tables.take x.1)) tblC]⟩) (fun x => x.1 ≤ m.tables.length) (fun x => m.tables.length - x.1) (0, v) ⟨by (repeat (first | exact trivial | refine ⟨rfl, ?_⟩)), by (repeat (first | exact Subl.nil | refine Subl.cons (by (repeat (first | exact Take.here | apply Take.there))) ?_))⟩ (Nat.zero_le _) ?_
  rintro ⟨i, v⟩ hi
  simp only at hi
  simp only
  by_cases hin : i < m.tables.length
  · obtain ⟨t, ht⟩ := get_of hin
    have hc := (hm.2.2.2 t (List.mem_of_getElem? ht)).1
    have h1 := sz_fit (m := m) hc
    have hn := mrgL_le hm i hi
    have hsu := mrgL_succ (m := m) ht
    by_cases hst : isStrict t.kind
    · rw [if_pos hst, List.append_nil] at hsu
      unfold isStrict at hst
      repeat' (first | refine Sp.h ?_ | refine Lk.r rfl ?_ | refine Rf.mk rfl ?_ | (apply Bd.t; (focus (first | assumption | omega | rfl))) | (apply Bd.f; (focus (first | assumption | omega | exact Bool.false_ne_true))) | (refine Bd.mk ?_ ?_ <;> intro _) | (refine All.mk ?_; intro _) | (apply TkB.r; (focus (repeat (first | exact Take.here | apply Take.there)))) | (apply Ix.q; (focus exact rfl); (focus assumption)) | refine Ch.l ⟨rfl, rfl⟩ ?_ | (apply SetAsk.r; (focus (repeat (first | exact SetAs.z | (apply SetAs.c; (focus (repeat (first | assumption | exact SetA.z | apply SetA.s)))))))) | (apply Nm.r; (focus repeat (first | apply LN.cons | exact LN.nil))) | (apply Ov.n; (focus first | omega | (simp <;> omega))) | fail)
      all_goals rw [← hsu]
      all_goals exact PA.lp (i + 1, v) ⟨by (repeat (first | exact trivial | refine ⟨rfl, ?_⟩)), by (repeat (first | exact Subl.nil | refine Subl.cons (by (repeat (first | exact Take.here | apply Take.there))) ?_))⟩ ⟨hin, by simp only; omega⟩
    · rw [if_neg hst] at hsu
      unfold isStrict at hst
      repeat' (first | refine Sp.h ?_ | refine Lk.r rfl ?_ | refine Rf.mk rfl ?_ | (apply Bd.t; (focus (first | assumption | omega | rfl))) | (apply Bd.f; (focus (first | assumption | omega | exact Bool.false_ne_true))) | (refine Im.mk ?_; intro _) | (refine All.mk ?_; intro _) | (apply TkB.r; (focus (repeat (first | exact Take.here | apply Take.there)))) | (apply Ix.q; (focus exact rfl); (focus assumption)) | refine Ch.l ⟨rfl, rfl⟩ ?_ | (apply SetAsk.r; (focus (repeat (first | exact SetAs.z | (apply SetAs.c; (focus (repeat (first | assumption | exact SetA.z | apply SetA.s)))))))) | (apply Nm.r; (focus repeat (first | apply LN.cons | exact LN.nil))) | fail)
      rename_i b5 _
      refine CA.loop (fun k : Nat => ⟨[(1, pm b1), (3, .ow v), (5, pm b5), (6, it (prodF m.sorts (t.cols.take k))), (10, tbls m.tables), (11, it (m.tables.length : Nat)), (12, it i), (25, ints t.cols), (26, it (t.cols.length : Nat)), (27, it k)], [mR b1 m, arrR v 84 6 (mrgL m (m.tables.take i)) tblC, blkR b5 84 (tblC t)]⟩) (fun k => k ≤ t.cols.length) (fun k => t.cols.length - k) 0 ⟨by (repeat (first | exact trivial | refine ⟨rfl, ?_⟩)), by (repeat (first | exact Subl.nil | refine Subl.cons (by (repeat (first | exact Take.here | apply Take.there))) ?_))⟩ (Nat.zero_le _) ?_
      intro k hk
      by_cases hkn : k < t.cols.length
      · obtain ⟨x, hx⟩ := get_of hkn
        obtain ⟨j, rfl, y, hy, hy1, hy2⟩ := col_get hc hx
        have hb := prod_succ hx (show m.sorts[((j : Int)).toNat]? = some y by simpa using hy)
        have hp := prod_fit hc k
        have hp2 := prod_fit hc (k + 1)
        rw [hb] at hp2
        have hj := (List.getElem?_eq_some_iff.1 hy).1
        repeat' (first | refine Sp.h ?_ | refine Lk.r rfl ?_ | refine Rf.mk rfl ?_ | (apply Bd.t; (focus (first | assumption | omega | rfl))) | (apply Om.mk; (focus first | omega | (simp <;> omega))) | (apply TkB.r; (focus (repeat (first | exact Take.here | apply Take.there)))) | (apply Ix.q; (focus exact rfl); (focus assumption)) | (apply Ov.n; (focus first | omega | (simp <;> omega))) | fail)
        rw [← hb]
        exact PA.lp (k + 1) ⟨by (repeat (first | exact trivial | refine ⟨rfl, ?_⟩)), by (repeat (first | exact Subl.nil | refine Subl.cons (by (repeat (first | exact Take.here | apply Take.there))) ?_))⟩ ⟨hkn, by omega⟩
      have hke : k = t.cols.length := by omega
      subst hke
      simp only [List.take_length]
      rw [h1.1]
      repeat' (first | refine Sp.h ?_ | refine Lk.r rfl ?_ | refine Rf.mk rfl ?_ | (apply Bd.f; (focus (first | assumption | omega | exact Bool.false_ne_true))) | fail)
      refine CA.loop (fun x : Nat × Value => ⟨[(1, pm b1), (3, .ow x.2), (5, pm b5), (10, tbls m.tables), (11, it (m.tables.length : Nat)), (12, it i), (39, it (szF m t : Nat)), (40, it x.1)], [mR b1 m, arrR x.2 84 6 (mrgL m (m.tables.take i) ++ List.replicate x.1 t) tblC, blkR b5 84 (tblC t)]⟩) (fun x => x.1 ≤ szF m t) (fun x => szF m t - x.1) (0, v) ?_ (Nat.zero_le _) ?_
      · simp only [List.replicate_zero, List.append_nil]
        exact ⟨by (repeat (first | exact trivial | refine ⟨rfl, ?_⟩)), by (repeat (first | exact Subl.nil | refine Subl.cons (by (repeat (first | exact Take.here | apply Take.there))) ?_))⟩
      rintro ⟨q, v⟩ hq
      simp only at hq
      simp only
      by_cases hqn : q < szF m t
      · repeat' (first | refine Sp.h ?_ | refine Lk.r rfl ?_ | refine Rf.mk rfl ?_ | (apply Bd.t; (focus (first | assumption | omega | rfl))) | (apply Om.mk; (focus first | omega | (simp <;> omega))) | (refine All.mk ?_; intro _) | (apply TkA.r; (focus (repeat (first | exact Take.here | apply Take.there)))) | (apply TkB.r; (focus (repeat (first | exact Take.here | apply Take.there)))) | refine Ce.r ?_ | refine Ch.l ⟨rfl, rfl⟩ ?_ | (apply Fk.r; (focus (repeat (first | exact FillA.nil | (apply FillA.agg; (focus rfl); (focus rfl); (focus (repeat (first | exact SetAs.z | (apply SetAs.c; (focus (repeat (first | assumption | exact SetA.z | apply SetA.s)))))))) | (apply FillA.one; (focus rfl); (focus infer_instance); (focus (repeat (first | assumption | exact SetA.z | apply SetA.s)))))))) | refine Rf.mk ⟨rfl, rfl⟩ ?_ | refine Rf.mk ⟨rfl, rfl, rfl⟩ ?_ | (apply Mp.lit; (focus repeat (first | exact MpL.nil | (apply MpL.cons; (focus rfl)) | (apply MpL.inv; (focus repeat (first | apply LN.cons | exact LN.nil)); (focus infer_instance))))) | (apply Ov.n; (focus first | omega | (simp <;> omega))) | fail)
        rw [List.append_assoc, show List.replicate q t ++ [t] = List.replicate (q + 1) t from List.replicate_succ'.symm]
        exact PA.lp (q + 1, _) ⟨by (repeat (first | exact trivial | refine ⟨rfl, ?_⟩)), by (repeat (first | exact Subl.nil | refine Subl.cons (by (repeat (first | exact Take.here | apply Take.there))) ?_))⟩ ⟨hqn, by simp only; omega⟩
      have hqe : q = szF m t := by omega
      subst hqe
      rw [← hsu]
      repeat' (first | refine Sp.h ?_ | refine Lk.r rfl ?_ | refine Rf.mk rfl ?_ | (apply Bd.f; (focus (first | assumption | omega | exact Bool.false_ne_true))) | (apply Ov.n; (focus first | omega | (simp <;> omega))) | fail)
      exact PA.lp (i + 1, v) ⟨by (repeat (first | exact trivial | refine ⟨rfl, ?_⟩)), by (repeat (first | exact Subl.nil | refine Subl.cons (by (repeat (first | exact Take.here | apply Take.there))) ?_))⟩ ⟨hin, by simp only; omega⟩
  have hie : i = m.tables.length := by omega
  subst hie
  simp only [List.take_length]
  repeat' (first | refine Sp.h ?_ | refine Lk.r rfl ?_ | refine Rf.mk rfl ?_ | (apply Bd.f; (focus (first | assumption | omega | exact Bool.false_ne_true))) | (apply Nm.r; (focus repeat (first | apply LN.cons | exact LN.nil))) | fail)
  exact ⟨_, _, .one (.same (.nil (by (repeat (first | exact Subl.nil | refine Subl.cons (by (repeat (first | exact Take.here | apply Take.there))) ?_))))), _, rfl, rfl⟩
theorem cells_p (m : ModS) (hm : LayOK m.sorts m.tables) : CallP Tryz.prog 42 [mdl m] (tbls (mrgF m)) :=
  CallA.fz (by have := mrgF_le hm; omega) (cells_o m hm)
structure MkS where
  rep : Int
  num : Int
  time : Int
  val : Int
def mkC (x : MkS) : List AV := [it x.rep, it x.num, it x.time, it x.val]
structure MgS where
  put : Bool
  drop : Bool
  marks : List MkS
abbrev bl (b : Bool) : AV := .val (.bool b)
abbrev mks (l : List MkS) : AV := .sl 4 l mkC
def mgC (g : MgS) : List AV := [bl g.put, bl g.drop, mks g.marks]
abbrev mgs (l : List MgS) : AV := .sl 3 l mgC
def isReg (k : Int) : Prop := k = 4 ∨ k = 5
noncomputable instance (k : Int) : Decidable (isReg k) := Classical.propDecidable _
theorem register_p (t : TblS) : CallP Tryz.prog 44 [.agg (tblC t)] (bl (decide (isReg t.kind))) := by
  refine CallA.of pg ord44 Tryz.func44 rfl Tryz.ntmps44 Tryz.results44 rfl fun h0 G0 O0 => ?_
  repeat' (first | refine Sp.h ?_ | refine Lk.r rfl ?_ | refine Rf.mk rfl ?_ | (apply Bd.t; (focus (first | assumption | omega | rfl))) | (apply Bd.f; (focus (first | assumption | omega | exact Bool.false_ne_true))) | (refine Bd.mk ?_ ?_ <;> intro _) | (refine All.mk ?_; intro _) | (apply TkB.r; (focus (repeat (first | exact Take.here | apply Take.there)))) | (apply Nm.r; (focus repeat (first | apply LN.cons | exact LN.nil))) | fail)
  all_goals refine Fin.p rfl (vb ?_)
  all_goals first
    | exact decide_eq_decide.2 (by unfold isReg; omega)
    | exact (decide_eq_true (by unfold isReg; omega)).symm
theorem dot_p (x : MkS) : CallP Tryz.prog 51 [.agg (mkC x)] (dotC x.rep x.num) := by
  refine CallA.of pg ord51 Tryz.func51 rfl Tryz.ntmps51 Tryz.results51 rfl fun h0 G0 O0 => ?_
  repeat' (first | refine Sp.h ?_ | refine Lk.r rfl ?_ | refine Rf.mk rfl ?_ | (refine All.mk ?_; intro _) | (apply TkB.r; (focus (repeat (first | exact Take.here | apply Take.there)))) | (apply SetAsk.r; (focus (repeat (first | exact SetAs.z | (apply SetAs.c; (focus (repeat (first | assumption | exact SetA.z | apply SetA.s)))))))) | (apply Fk.r; (focus (repeat (first | exact FillA.nil | (apply FillA.agg; (focus rfl); (focus rfl); (focus (repeat (first | exact SetAs.z | (apply SetAs.c; (focus (repeat (first | assumption | exact SetA.z | apply SetA.s)))))))) | (apply FillA.one; (focus rfl); (focus infer_instance); (focus (repeat (first | assumption | exact SetA.z | apply SetA.s)))))))) | (apply Nm.r; (focus repeat (first | apply LN.cons | exact LN.nil))) | fail)
  exact Fin.p rfl rfl
noncomputable def lowT (t : TblS) : Int := if isReg t.kind then t.lo else 0
noncomputable def highT (t : TblS) : Int := if isReg t.kind then t.hi else 0
/-- What a mark of a cell of a table can be. -/
def RightK (t : TblS) (x : MkS) : Prop := (0 ≤ x.rep ∧ x.rep ≤ 4) ∧ (1 ≤ x.num ∧ x.num ≤ 1024) ∧ (1 ≤ x.time ∧ x.time ≤ 1073741824) ∧ lowT t ≤ x.val ∧ x.val ≤ highT t
noncomputable instance (t : TblS) (x : MkS) : Decidable (RightK t x) := Classical.propDecidable _
theorem right_p (t : TblS) (x : MkS) : CallP Tryz.prog 94 [.agg (tblC t), .agg (mkC x)] (bl (decide (RightK t x))) := by
  refine CallA.of pg ord94 Tryz.func94 rfl Tryz.ntmps94 Tryz.results94 rfl fun h0 G0 O0 => ?_
  by_cases hr : isReg t.kind
  · have hlo : lowT t = t.lo := if_pos hr
    have hhi : highT t = t.hi := if_pos hr
    repeat' (first | refine Sp.h ?_ | refine Lk.r rfl ?_ | refine Rf.mk rfl ?_ | (apply Bd.t; (focus (first | assumption | omega | rfl))) | (apply Bd.f; (focus (first | assumption | omega | exact Bool.false_ne_true))) | (refine Bd.mk ?_ ?_ <;> intro _) | refine OpK.r rfl ?_ | (refine All.mk ?_; intro _) | (apply TkB.r; (focus (repeat (first | exact Take.here | apply Take.there)))) | refine Ch.l ⟨rfl, rfl⟩ ?_ | (apply Nm.r; (focus repeat (first | apply LN.cons | exact LN.nil))) | (apply CA.draw; (focus rfl); (focus kernel_rfl); (focus kernel_rfl); (focus repeat' (first | apply ON.one | exact ON.done | exact ON.none | apply ON.alt)); (focus rfl)) | fail | (apply Cl.p (register_p _); (focus repeat' (first | exact Lend.nil | apply Lend.keep | fail))))
    all_goals refine Fin.p rfl (vb ?_)
    all_goals first
      | exact decide_eq_decide.2 (by unfold RightK; omega)
      | exact (decide_eq_false (by unfold RightK; omega)).symm
  · have hlo : lowT t = 0 := if_neg hr
    have hhi : highT t = 0 := if_neg hr
    repeat' (first | refine Sp.h ?_ | refine Lk.r rfl ?_ | refine Rf.mk rfl ?_ | (apply Bd.t; (focus (first | assumption | omega | rfl))) | (apply Bd.f; (focus (first | assumption | omega | exact Bool.false_ne_true))) | (refine Bd.mk ?_ ?_ <;> intro _) | (refine All.mk ?_; intro _) | (apply TkB.r; (focus (repeat (first | exact Take.here | apply Take.there)))) | refine Ch.l ⟨rfl, rfl⟩ ?_ | (apply Nm.r; (focus repeat (first | apply LN.cons | exact LN.nil))) | fail | (apply Cl.p (register_p _); (focus repeat' (first | exact Lend.nil | apply Lend.keep | fail))))
    all_goals refine Fin.p rfl (vb ?_)
    all_goals first
      | exact decide_eq_decide.2 (by unfold RightK; omega)
      | exact (decide_eq_false (by unfold RightK; omega)).symm
theorem isNaN_p (x : Int) : CallP Tryz.prog 99 [it x] (bl false) := by
  refine CallA.of pg ord99 Tryz.func99 rfl Tryz.ntmps99 Tryz.results99 rfl fun h0 G0 O0 => ?_
  repeat' (first | refine Sp.h ?_ | refine Lk.r rfl ?_ | refine Rf.mk rfl ?_ | (apply Nm.r; (focus repeat (first | apply LN.cons | exact LN.nil))) | fail)
  exact Fin.p rfl (vb (by simp))
def cmpI (x y : Int) : Int := if x < y then -1 else if y < x then 1 else 0
theorem compareI_p (x y : Int) : CallP Tryz.prog 68 [it x, it y] (it (cmpI x y)) := by
  refine CallA.of pg ord68 Tryz.func68 rfl Tryz.ntmps68 Tryz.results68 rfl fun h0 G0 O0 => ?_
  repeat' (first | refine Sp.h ?_ | refine Lk.r rfl ?_ | refine Rf.mk rfl ?_ | (refine Bd.mk ?_ ?_ <;> intro _) | (apply Nm.r; (focus repeat (first | apply LN.cons | exact LN.nil))) | fail | (apply Cl.p (isNaN_p _); (focus repeat' (first | exact Lend.nil | apply Lend.keep | fail))))
  all_goals refine Fin.p rfl ?_
  all_goals unfold cmpI
  all_goals congr 2
  all_goals repeat' split
  all_goals omega
def orI (l : List Int) : Int := (l.find? (fun x => decide (x ≠ 0))).getD 0
theorem orI_p (l : List Int) : CallP Tryz.prog 67 [ints l] (it (orI l)) := by
  refine CallA.of pg ord67 Tryz.func67 rfl Tryz.ntmps67 Tryz.results67 rfl fun h0 G0 O0 => ?_
  repeat' (first | refine Sp.h ?_ | refine Lk.r rfl ?_ | refine Rf.mk rfl ?_ | (refine Im.mk ?_; intro _) | fail)
  refine CA.loop (fun i : Nat => ⟨[(3, it 0), (6, ints l), (7, it (l.length : Nat)), (8, it i)], []⟩) (fun i => i ≤ l.length ∧ ∀ x ∈ l.take i, x = 0) (fun i => l.length - i) 0 ⟨by (repeat (first | exact trivial | refine ⟨rfl, ?_⟩)), by (repeat (first | exact Subl.nil | refine Subl.cons (by (repeat (first | exact Take.here | apply Take.there))) ?_))⟩ ⟨Nat.zero_le _, by simp⟩ ?_
  rintro i ⟨hi, ha⟩
  by_cases hin : i < l.length
  · obtain ⟨x, hx⟩ := get_of hin
    repeat' (first | refine Sp.h ?_ | refine Lk.r rfl ?_ | refine Rf.mk rfl ?_ | (apply Bd.t; (focus (first | assumption | omega | rfl))) | (refine Bd.mk ?_ ?_ <;> intro _) | (apply Ix.q; (focus exact rfl); (focus assumption)) | (apply Nm.r; (focus repeat (first | apply LN.cons | exact LN.nil))) | (apply Ov.n; (focus first | omega | (simp <;> omega))) | fail)
    · exact PA.lp (i + 1) ⟨by (repeat (first | exact trivial | refine ⟨rfl, ?_⟩)), by (repeat (first | exact Subl.nil | refine Subl.cons (by (repeat (first | exact Take.here | apply Take.there))) ?_))⟩ ⟨⟨hin, all_succ hx ha (by omega)⟩, by omega⟩
    · rename_i h
      refine Fin.p rfl ?_
      have hf : l.find? (fun x => decide (x ≠ 0)) = some x := find_at hx (by simpa using h) fun j y hj hy => by
        have := ha y (List.mem_of_getElem? (i := j) (by rw [List.getElem?_take, if_pos hj]; exact hy))
        simp [this]
      rw [orI, hf]; rfl
  have hie : i = l.length := by omega
  subst hie
  rw [List.take_length] at ha
  repeat' (first | refine Sp.h ?_ | refine Lk.r rfl ?_ | refine Rf.mk rfl ?_ | (apply Bd.f; (focus (first | assumption | omega | exact Bool.false_ne_true))) | (apply Nm.r; (focus repeat (first | apply LN.cons | exact LN.nil))) | fail)
  refine Fin.p rfl ?_
  have hf : l.find? (fun x => decide (x ≠ 0)) = none := List.find?_eq_none.2 fun x hx => by simp [ha x hx]
  rw [orI, hf]; rfl
def cmpK (a b : MkS) : Int := orI [cmpI a.time b.time, cmpI a.rep b.rep, cmpI a.num b.num]
theorem compareK_p (a b : MkS) : CallP Tryz.prog 95 [.agg (mkC a), .agg (mkC b)] (it (cmpK a b)) := by
  refine CallA.of pg ord95 Tryz.func95 rfl Tryz.ntmps95 Tryz.results95 rfl fun h0 G0 O0 => ?_
  repeat' (first | refine Sp.h ?_ | refine Lk.r rfl ?_ | refine Rf.mk rfl ?_ | refine OpK.r rfl ?_ | (refine All.mk ?_; intro _) | (apply TkB.r; (focus (repeat (first | exact Take.here | apply Take.there)))) | (apply Fk.r; (focus (repeat (first | exact FillA.nil | (apply FillA.agg; (focus rfl); (focus rfl); (focus (repeat (first | exact SetAs.z | (apply SetAs.c; (focus (repeat (first | assumption | exact SetA.z | apply SetA.s)))))))) | (apply FillA.one; (focus rfl); (focus infer_instance); (focus (repeat (first | assumption | exact SetA.z | apply SetA.s)))))))) | refine Rf.mk ⟨rfl, rfl, rfl⟩ ?_ | (apply CA.draw; (focus rfl); (focus kernel_rfl); (focus kernel_rfl); (focus repeat' (first | apply ON.one | exact ON.done | exact ON.none | apply ON.alt)); (focus rfl)) | fail | (apply Cl.p (compareI_p _ _); (focus repeat' (first | exact Lend.nil | apply Lend.keep | fail))))
  have h := orI_p [cmpI a.time b.time, cmpI a.rep b.rep, cmpI a.num b.num]
  (apply Cl.lend (h); (focus repeat' (first | exact Lend.nil | (apply Lend.lendm; (focus (repeat (first | exact Take.here | apply Take.there))); (focus rfl); (focus first | omega | decide | (simp; omega) | exact Nat.le_of_ble_eq_true rfl)) | fail)))
  repeat' (first | refine Sp.h ?_ | refine Lk.r rfl ?_ | refine OpK.r rfl ?_ | (apply Nm.r; (focus repeat (first | apply LN.cons | exact LN.nil))) | fail)
  exact Fin.p rfl rfl
/-- A mark stands ahead of another one. -/
def LtK (a b : MkS) : Prop := a.time < b.time ∨ a.time = b.time ∧ (a.rep < b.rep ∨ a.rep = b.rep ∧ a.num < b.num)
noncomputable instance (a b : MkS) : Decidable (LtK a b) := Classical.propDecidable _
theorem cmpK_neg {a b : MkS} : cmpK a b < 0 ↔ LtK a b := by
  unfold cmpK orI LtK cmpI
  by_cases h1 : a.time < b.time
  · simp [h1]
  by_cases h2 : b.time < a.time
  · simp [h1, h2]; omega
  have h3 : a.time = b.time := by omega
  by_cases h4 : a.rep < b.rep
  · simp [h3, h4]
  by_cases h5 : b.rep < a.rep
  · simp [h3, h4, h5]; omega
  have h6 : a.rep = b.rep := by omega
  by_cases h7 : a.num < b.num
  · simp [h3, h6, h7]
  by_cases h8 : b.num < a.num
  · simp [h3, h6, h7, h8]
  · simp [h3, h6, h7, h8]
theorem cmpK_pos {a b : MkS} : 0 < cmpK a b ↔ LtK b a := by
  unfold cmpK orI LtK cmpI
  by_cases h1 : a.time < b.time
  · simp [h1]; omega
  by_cases h2 : b.time < a.time
  · simp [h1, h2]
  have h3 : a.time = b.time := by omega
  by_cases h4 : a.rep < b.rep
  · simp [h3, h4]; omega
  by_cases h5 : b.rep < a.rep
  · simp [h3, h4, h5]
  have h6 : a.rep = b.rep := by omega
  by_cases h7 : a.num < b.num
  · simp [h3, h6, h7]; omega
  by_cases h8 : b.num < a.num
  · simp [h3, h6, h7, h8]
  · simp [h3, h6, h7, h8]
theorem less34_p (a b : MkS) : CallP Tryz.prog 56 [.agg (mkC a), .agg (mkC b)] (bl (decide (LtK a b))) := by
  refine CallA.of pg ord56 Tryz.func56 rfl Tryz.ntmps56 Tryz.results56 rfl fun h0 G0 O0 => ?_
  repeat' (first | refine Sp.h ?_ | refine Lk.r rfl ?_ | refine Rf.mk rfl ?_ | (refine Bd.mk ?_ ?_ <;> intro _) | (refine All.mk ?_; intro _) | (apply TkB.r; (focus (repeat (first | exact Take.here | apply Take.there)))) | (apply Nm.r; (focus repeat (first | apply LN.cons | exact LN.nil))) | fail)
  all_goals refine Fin.p rfl (vb ?_)
  all_goals exact decide_eq_decide.2 (by unfold LtK; omega)
end Go.Proofs.YtpgpdmmobblffaaGreat
namespace Go.Proofs.YtpgpdmmobblffaaGreat
open Go Go.CF
set_option maxRecDepth 20000
abbrev rI : Rp Int := Rp.int .i64
theorem rdStr : RdT Tryz.prog 9 Rp.str := RdT.str Tryz.underlying9 (by kernel_rfl)
theorem rdBool : RdT Tryz.prog 4 Rp.bool := RdT.bool Tryz.underlying4 (by kernel_rfl)
def Rp.rng : Rp (Int × Int × Unit) := rI.pair (rI.pair Rp.unit)
theorem rdRng : RdT Tryz.prog 82 Rp.rng := RdT.struct Tryz.underlying82 rfl (by kernel_rfl) (RdF.cons rfl rdInt rfl (RdF.cons rfl rdInt rfl RdF.nil))
def Rp.table : Rp TblS := (Rp.str.pair (rI.pair (rI.slice.pair (Rp.rng.pair (rI.pair Rp.unit))))).iso fun t : TblS => (t.name, t.kind, t.cols, (t.lo, t.hi, ()), t.first, ())
theorem rdTable : RdT Tryz.prog 84 Rp.table := RdT.iso (RdT.struct Tryz.underlying84 rfl (by kernel_rfl) (RdF.cons rfl rdStr rfl (RdF.cons rfl rdInt rfl (RdF.cons rfl rdInts rfl (RdF.cons rfl rdRng rfl (RdF.cons rfl rdInt rfl RdF.nil)))))) _ (fun x => ⟨x.1, x.2.1, x.2.2.1, x.2.2.2.1.1, x.2.2.2.1.2.1, x.2.2.2.2.1⟩) (fun _ => rfl)
theorem avTable : Avr Rp.table tblC := ((Avr.str.pair (Avr.int.pair (avInts.pair ((Avr.int.pair (Avr.int.pair Avr.unit)).pair (Avr.int.pair Avr.unit))))).iso _).cast fun _ => rfl
def Rp.term : Rp (Int × Int) := (rI.pair (rI.pair Rp.unit)).iso fun t : Int × Int => (t.1, t.2, ())
theorem avTerm : Avr Rp.term rngC := ((Avr.int.pair (Avr.int.pair Avr.unit)).iso _).cast fun _ => rfl
theorem rdTerm : RdT Tryz.prog 168 Rp.term := RdT.iso (RdT.struct Tryz.underlying168 rfl (by kernel_rfl) (RdF.cons rfl rdInt rfl (RdF.cons rfl rdInt rfl RdF.nil))) _ (fun x => (x.1, x.2.1)) (fun _ => rfl)
theorem rdChange : RdT Tryz.prog 98 Rp.term := RdT.iso (RdT.struct Tryz.underlying98 rfl (by kernel_rfl) (RdF.cons rfl rdInt rfl (RdF.cons rfl rdInt rfl RdF.nil))) _ (fun x => (x.1, x.2.1)) (fun _ => rfl)
def Rp.row : Rp RowS := (Rp.term.slice.pair (rI.pair Rp.unit)).iso fun r : RowS => (r.terms, r.bound, ())
theorem rdRow : RdT Tryz.prog 171 Rp.row := RdT.iso (RdT.struct Tryz.underlying171 rfl (by kernel_rfl) (RdF.cons rfl (RdT.slice Tryz.underlying169 (by kernel_rfl) rdTerm (by decide)) rfl (RdF.cons rfl rdInt rfl RdF.nil))) _ (fun x => ⟨x.1, x.2.1⟩) (fun _ => rfl)
theorem avRow : Avr Rp.row rowC := ((avTerm.slice.pair (Avr.int.pair Avr.unit)).iso _).cast fun _ => rfl
def Rp.cns : Rp CnsS := (rI.pair (rI.pair (Rp.row.pair (rI.pair (rI.pair Rp.unit))))).iso fun c : CnsS => (c.kind, c.family, c.row, c.first, c.size, ())
theorem rdCns : RdT Tryz.prog 174 Rp.cns := RdT.iso (RdT.struct Tryz.underlying174 rfl (by kernel_rfl) (RdF.cons rfl rdInt rfl (RdF.cons rfl rdInt rfl (RdF.cons rfl rdRow rfl (RdF.cons rfl rdInt rfl (RdF.cons rfl rdInt rfl RdF.nil)))))) _ (fun x => ⟨x.1, x.2.1, x.2.2.1, x.2.2.2.1, x.2.2.2.2.1⟩) (fun _ => rfl)
theorem avCns : Avr Rp.cns cnsC := ((Avr.int.pair (Avr.int.pair (avRow.pair (Avr.int.pair (Avr.int.pair Avr.unit))))).iso _).cast fun _ => rfl
def Rp.op : Rp OpS := (Rp.str.pair (Rp.bool.pair (rI.slice.pair Rp.unit))).iso fun o : OpS => (o.name, o.ordered, o.sorts, ())
theorem rdOp : RdT Tryz.prog 144 Rp.op := RdT.iso (RdT.struct Tryz.underlying144 rfl (by kernel_rfl) (RdF.cons rfl rdStr rfl (RdF.cons rfl rdBool rfl (RdF.cons rfl rdInts rfl RdF.nil)))) _ (fun x => ⟨x.1, x.2.1, x.2.2.1⟩) (fun _ => rfl)
theorem avOp : Avr Rp.op opC := ((Avr.str.pair (Avr.bool.pair (avInts.pair Avr.unit))).iso _).cast fun _ => rfl
def Rp.upd : Rp (Int × Int × Int) := (rI.pair (rI.pair (rI.pair Rp.unit))).iso fun u : Int × Int × Int => (u.1, u.2.1, u.2.2, ())
theorem rdUpd : RdT Tryz.prog 61 Rp.upd := RdT.iso (RdT.struct Tryz.underlying61 rfl (by kernel_rfl) (RdF.cons rfl rdInt rfl (RdF.cons rfl rdInt rfl (RdF.cons rfl rdInt rfl RdF.nil)))) _ (fun x => (x.1, x.2.1, x.2.2.1)) (fun _ => rfl)
theorem rdHide : RdT Tryz.prog 180 Rp.upd := RdT.iso (RdT.struct Tryz.underlying180 rfl (by kernel_rfl) (RdF.cons rfl rdInt rfl (RdF.cons rfl rdInt rfl (RdF.cons rfl rdInt rfl RdF.nil)))) _ (fun x => (x.1, x.2.1, x.2.2.1)) (fun _ => rfl)
theorem avUpd : Avr Rp.upd updC := ((Avr.int.pair (Avr.int.pair (Avr.int.pair Avr.unit))).iso _).cast fun _ => rfl
def Rp.eff : Rp EffS := (Rp.term.slice.pair (Rp.row.slice.pair (Rp.upd.slice.pair Rp.unit))).iso fun x : EffS => (x.delta, x.hold, x.updates, ())
theorem rdEff : RdT Tryz.prog 57 Rp.eff := RdT.iso (RdT.struct Tryz.underlying57 rfl (by kernel_rfl) (RdF.cons rfl (RdT.slice Tryz.underlying53 (by kernel_rfl) rdChange (by decide)) rfl (RdF.cons rfl (RdT.slice Tryz.underlying54 (by kernel_rfl) rdRow (by decide)) rfl (RdF.cons rfl (RdT.slice Tryz.underlying55 (by kernel_rfl) rdUpd (by decide)) rfl RdF.nil)))) _ (fun x => ⟨x.1, x.2.1, x.2.2.1⟩) (fun _ => rfl)
theorem avEff : Avr Rp.eff effC := ((avTerm.slice.pair (avRow.slice.pair (avUpd.slice.pair Avr.unit))).iso _).cast fun _ => rfl
def Rp.act : Rp ActS := (rI.pair (rI.slice.pair (Rp.eff.pair Rp.unit))).iso fun a : ActS => (a.op, a.args, a.eff, ())
theorem rdAct : RdT Tryz.prog 59 Rp.act := RdT.iso (RdT.struct Tryz.underlying59 rfl (by kernel_rfl) (RdF.cons rfl rdInt rfl (RdF.cons rfl rdInts rfl (RdF.cons rfl rdEff rfl RdF.nil)))) _ (fun x => ⟨x.1, x.2.1, x.2.2.1⟩) (fun _ => rfl)
theorem avAct : Avr Rp.act actC := ((Avr.int.pair (avInts.pair (avEff.pair Avr.unit))).iso _).cast fun _ => rfl
def Rp.model : Rp ModS := (rI.slice.pair (Rp.table.slice.pair (Rp.str.slice.pair (Rp.cns.slice.pair (Rp.op.slice.pair (Rp.act.slice.pair (Rp.upd.slice.pair Rp.unit))))))).iso fun m : ModS => (m.sorts, m.tables, m.families, m.cons, m.ops, m.acts, m.hides, ())
theorem rdModel : RdT Tryz.prog 30 Rp.model := RdT.iso (RdT.struct Tryz.underlying30 rfl (by kernel_rfl) (RdF.cons rfl rdInts rfl
  (RdF.cons rfl (RdT.slice Tryz.underlying23 (by kernel_rfl) rdTable (by decide)) rfl (RdF.cons rfl (RdT.slice Tryz.underlying24 (by kernel_rfl) rdStr (by decide)) rfl
  (RdF.cons rfl (RdT.slice Tryz.underlying25 (by kernel_rfl) rdCns (by decide)) rfl (RdF.cons rfl (RdT.slice Tryz.underlying26 (by kernel_rfl) rdOp (by decide)) rfl
  (RdF.cons rfl (RdT.slice Tryz.underlying27 (by kernel_rfl) rdAct (by decide)) rfl (RdF.cons rfl (RdT.slice Tryz.underlying28 (by kernel_rfl) rdHide (by decide)) rfl RdF.nil)))))))) _
  (fun x => ⟨x.1, x.2.1, x.2.2.1, x.2.2.2.1, x.2.2.2.2.1, x.2.2.2.2.2.1, x.2.2.2.2.2.2.1⟩) (fun _ => rfl)
theorem avModel : Avr Rp.model modC := ((avInts.pair (avTable.slice.pair (Avr.str.slice.pair (avCns.slice.pair (avOp.slice.pair (avAct.slice.pair (avUpd.slice.pair Avr.unit))))))).iso _).cast fun _ => rfl
def Rp.mark : Rp MkS := (rI.pair (rI.pair (rI.pair (rI.pair Rp.unit)))).iso fun x : MkS => (x.rep, x.num, x.time, x.val, ())
theorem rdMark : RdT Tryz.prog 47 Rp.mark := RdT.iso (RdT.struct Tryz.underlying47 rfl (by kernel_rfl) (RdF.cons rfl rdInt rfl (RdF.cons rfl rdInt rfl (RdF.cons rfl rdInt rfl (RdF.cons rfl rdInt rfl RdF.nil))))) _ (fun x => ⟨x.1, x.2.1, x.2.2.1, x.2.2.2.1⟩) (fun _ => rfl)
theorem avMark : Avr Rp.mark mkC := ((Avr.int.pair (Avr.int.pair (Avr.int.pair (Avr.int.pair Avr.unit)))).iso _).cast fun _ => rfl
def Rp.merged : Rp MgS := (Rp.bool.pair (Rp.bool.pair (Rp.mark.slice.pair Rp.unit))).iso fun x : MgS => (x.put, x.drop, x.marks, ())
theorem rdMerged : RdT Tryz.prog 44 Rp.merged := RdT.iso (RdT.struct Tryz.underlying44 rfl (by kernel_rfl) (RdF.cons rfl rdBool rfl (RdF.cons rfl rdBool rfl (RdF.cons rfl (RdT.slice Tryz.underlying42 (by kernel_rfl) rdMark (by decide)) rfl RdF.nil)))) _ (fun x => ⟨x.1, x.2.1, x.2.2.1⟩) (fun _ => rfl)
theorem avMerged : Avr Rp.merged mgC := ((Avr.bool.pair (Avr.bool.pair (avMark.slice.pair Avr.unit))).iso _).cast fun _ => rfl
theorem rdMergeds : RdT Tryz.prog 31 Rp.merged.slice := RdT.slice Tryz.underlying31 (by kernel_rfl) rdMerged (by decide)
theorem avMergeds : Avr Rp.merged.slice fun l => [mgs l] := avMerged.slice
end Go.Proofs.YtpgpdmmobblffaaGreat
namespace Go.Proofs.YtpgpdmmobblffaaGreat
open Go Go.CF Go.ChangeShapes Go.WideShapes Go.ChangeAt Go.RowKit
set_option maxRecDepth 100000
theorem aggArg {W : World} {r : Reach} {b : Nat} {t : TypeId} {v : Value} {fs : Array Field} (ht : Tryz.prog.underlying t = some (.struct fs)) (hv : Value.okWide Tryz.prog W r b t v) : v = .agg v.cells := by
  cases v with
  | agg c => rfl
  | _ => simp [Value.okWide, ht] at hv
end Go.Proofs.YtpgpdmmobblffaaGreat
namespace Go.Proofs.YtpgpdmmobblffaaGreat
open Go Go.CF Go.ChangeShapes Go.WideShapes Go.ChangeAt Go.RowKit
set_option maxRecDepth 100000

theorem mergeForms_lift (os : Os) (started : os.Started) (H : Type) (enc : TypeId × Value → H)
    (walk : ∀ (h : Heap) (v0 : Value) (l0 : ModS) (v1 : Value) (l1 : (List MgS)) (v2 : Value) (l2 : (List Int)), v0 = .agg v0.cells → Rp.model.R h (Old h) v0.cells.toList l0 → Rp.merged.slice.R h (Old h) [v1] l1 → (Rp.int .i64).slice.R h (Old h) [v2] l2 → CallsH Tryz.prog 4 #[v0, v1, v2] h fun x h' => x = .bool true ∧ Stp [] h h') :
    ReturnsInHanded {} Tryz.checked os 4 .any (Rows.mergeFormsSpec.pre6 enc Tryz.prog Tryz.f4 Rows.mergeFormsRow.domain false) (Rows.mergeFormsSpec.post enc Tryz.prog Tryz.f4 false true false false) := by
  refine returnsInHanded_of_change (C := Tryz.checked) knob started (by kernel_rfl) Tryz.func4
    (ChangeSpec.witness6 (enc := enc) (C := Tryz.checked) false ⟨#[], #[.agg #[.slice none 0 0, .slice none 0 0, .slice none 0 0, .slice none 0 0, .slice none 0 0, .slice none 0 0, .slice none 0 0], .slice none 0 0, .slice none 0 0], []⟩ 8 (by kernel_rfl) (by kernel_rfl) (by kernel_rfl) (by kernel_rfl)) ?_
  intro W base args ds gs before hval0 hW hcnd _
  have hW' := hW
  have hval : ∀ (j : Nat) t v, Tryz.f4.params[j]? = some t → args[j]? = some v → Value.okWide Tryz.prog W .any base t v := hval0
  obtain ⟨p, q, hA0, hV, rfl, hfz, hnd⟩ := hW
  have hA : DataW.TrodAll enc Tryz.prog W 0 (fun _ => true) true Tryz.f4.params.toList args.toList ds p := hA0
  rw [Tryz.params4] at hA hval
  obtain ⟨v0, vs0, d0, ds0, p0, q0, e0, rfl, h0, hA⟩ := CF.trodAll_cons hA
  obtain ⟨v1, vs1, d1, ds1, p1, q1, rfl, rfl, h1, hA⟩ := CF.trodAll_cons hA
  obtain ⟨v2, vs2, d2, ds2, p2, q2, rfl, rfl, h2, hA⟩ := CF.trodAll_cons hA
  obtain ⟨rfl, rfl⟩ := CF.trodAll_end hA
  obtain rfl : args = #[v0, v1, v2] := Array.ext' e0
  obtain ⟨l0, hl0⟩ := rdModel.arg h0
  have ha0 := aggArg Tryz.underlying30 (hval 0 30 v0 rfl rfl)
  obtain ⟨l1, hl1⟩ := rdMergeds.arg h1
  have hl1 := sliceArg Tryz.underlying31 (hval 1 31 v1 rfl rfl) hl1
  obtain ⟨l2, hl2⟩ := rdInts.arg h2
  have hl2 := sliceArg Tryz.underlying22 (hval 2 22 v2 rfl rfl) hl2
  refine law_contract laid (tb := 4) (by rw [Tryz.params4]; intro t ht; simp at ht; rcases ht with rfl | rfl | rfl <;> exact ⟨by kernel_rfl, of_decide_eq_true (by kernel_rfl)⟩) rfl (by rfl) Tryz.underlying4 rfl hW' ?_
  exact walk W.heap v0 l0 v1 l1 v2 l2 ha0 hl0 hl1 hl2

theorem mergeForms_of (walk : ∀ (h : Heap) (v0 : Value) (l0 : ModS) (v1 : Value) (l1 : (List MgS)) (v2 : Value) (l2 : (List Int)), v0 = .agg v0.cells → Rp.model.R h (Old h) v0.cells.toList l0 → Rp.merged.slice.R h (Old h) [v1] l1 → (Rp.int .i64).slice.R h (Old h) [v2] l2 → CallsH Tryz.prog 4 #[v0, v1, v2] h fun x h' => x = .bool true ∧ Stp [] h h') :
    Rows.MergeFormsSaid :=
  OpenClaim.holds_of_wide (p := Tryz.pinned) (s := Rows.mergeFormsSpec) (c := Rows.mergeFormsRow) 4 Tryz.f4 rfl rfl rfl rfl rfl rfl rfl ⟨rfl, rfl, rfl, rfl, rfl⟩ rfl rfl rfl rfl rfl (by kernel_rfl) Tryz.func4 (by kernel_rfl)
    (of_decide_eq_true (by kernel_rfl)) (by unfold Func.isWrapper; first | (rw [if_pos (by decide +kernel)]; kernel_rfl) | (rw [if_neg (by decide +kernel)]; exact ⟨rfl, rfl⟩))
    (fun os started H enc _ => mergeForms_lift os started H enc walk)
end Go.Proofs.YtpgpdmmobblffaaGreat
namespace Go.Proofs.YtpgpdmmobblffaaGreat
open Go Go.CF
set_option maxRecDepth 20000
def Nm (x y : MkS) : Prop := x.rep = y.rep ∧ x.num = y.num
/-- The marks of a cell of a table, up to some place. -/
def MksTo (t : TblS) (l : List MkS) (n : Nat) : Prop := ∀ i x, i < n → l[i]? = some x → RightK t x ∧ (∀ j y, j < i → l[j]? = some y → ¬ Nm y x) ∧ (∀ y, 0 < i → l[i - 1]? = some y → ¬ LtK x y)
def GenG (t : TblS) (g : MgS) : Prop := (g.drop = true → t.kind = 3) ∧ ¬ (g.put = true ∧ isReg t.kind) ∧ ¬ (t.kind = 4 ∧ 1 < g.marks.length) ∧ g.marks.length ≤ 1024
/-- What can be known of a cell of a table. -/
def ValG (t : TblS) (g : MgS) : Prop := GenG t g ∧ MksTo t g.marks g.marks.length
noncomputable instance (t : TblS) (g : MgS) : Decidable (ValG t g) := Classical.propDecidable _
def namesL (l : List MkS) : List (List Int × Bool) := l.map fun x => ([x.rep, x.num], true)
def HasNm (l : List MkS) (x : MkS) : Prop := ∃ y ∈ l, Nm y x
noncomputable instance (l : List MkS) (x : MkS) : Decidable (HasNm l x) := Classical.propDecidable _
theorem names_look (l : List MkS) (x : MkS) : lookL (namesL l) [x.rep, x.num] = if HasNm l x then some true else none := by
  induction l with
  | nil => simp [namesL, lookL, HasNm]
  | cons a l ih =>
    simp only [namesL, lookL, List.map_cons, List.find?_cons] at ih ⊢
    by_cases h : Nm a x
    · rw [if_pos ⟨a, by simp, h⟩]
      simp [h.1, h.2]
    · have h2 : decide ([a.rep, a.num] = [x.rep, x.num]) = false := by simpa [Nm] using h
      rw [h2]
      rw [ih]
      have e : HasNm l x ↔ HasNm (a :: l) x := by simp [HasNm, h]
      by_cases hh : HasNm l x
      · rw [if_pos hh, if_pos (e.1 hh)]
      · rw [if_neg hh, if_neg (fun h9 => hh (e.2 h9))]
theorem names_app {l : List MkS} {i : Nat} {x : MkS} (hx : l[i]? = some x) (hn : lookL (namesL (l.take i)) [x.rep, x.num] = none) : updL (namesL (l.take i)) [x.rep, x.num] true = namesL (l.take (i + 1)) := by
  rw [updL_none _ _ _ hn, List.take_add_one, hx]; simp [namesL]
theorem mksTo_zero (t : TblS) (l : List MkS) : MksTo t l 0 := fun i x h => by omega
theorem mksTo_succ {t : TblS} {l : List MkS} {i : Nat} {x : MkS} (hx : l[i]? = some x) (h : MksTo t l i) (h1 : RightK t x) (h2 : ∀ j y, j < i → l[j]? = some y → ¬ Nm y x) (h3 : ∀ y, 0 < i → l[i - 1]? = some y → ¬ LtK x y) : MksTo t l (i + 1) := by
  intro k y hk hy
  by_cases hki : k = i
  · subst hki; rw [hx] at hy; cases hy; exact ⟨h1, h2, h3⟩
  · exact h k y (by omega) hy
set_option maxHeartbeats 4000000 in
theorem valid34_p (t : TblS) (g : MgS) : CallP Tryz.prog 55 [.agg (tblC t), .agg (mgC g)] (bl (decide (ValG t g))) := by
  obtain ⟨put, drop, l⟩ := g
  have no : ∀ {p : Prop}, (p → False) → ¬ p := fun h => h
  refine CallA.of pg ord55 Tryz.func55 rfl Tryz.ntmps55 Tryz.results55 rfl fun h0 G0 O0 => ?_
  by_cases hg : GenG t ⟨put, drop, l⟩
  · have g1 : drop = true → t.kind = 3 := hg.1
    have g2 : put = true → ¬ isReg t.kind := fun h h' => hg.2.1 ⟨h, h'⟩
    have g3 : ¬ (t.kind = 4 ∧ 1 < l.length) := hg.2.2.1
    have g4 : l.length ≤ 1024 := hg.2.2.2
    repeat' (first | refine Sp.h ?_ | refine Lk.r rfl ?_ | refine Rf.mk rfl ?_ | (apply Bd.t; (focus (first | assumption | omega | rfl))) | (apply Bd.f; (focus (first | assumption | omega | exact Bool.false_ne_true))) | (refine Bd.mk ?_ ?_ <;> intro _) | (refine Im.mk ?_; intro _) | (refine All.mk ?_; intro _) | (apply TkB.r; (focus (repeat (first | exact Take.here | apply Take.there)))) | refine Ch.l ⟨rfl, rfl⟩ ?_ | (apply Nm.r; (focus repeat (first | apply LN.cons | exact LN.nil))) | fail | (apply Cl.p (register_p _); (focus repeat' (first | exact Lend.nil | apply Lend.keep | fail))))
    all_goals try exact absurd (by assumption) (g2 (by assumption))
    all_goals try exact absurd (g1 (by assumption)) (by assumption)
    all_goals try exact (g3 ⟨by omega, by omega⟩).elim
    all_goals try (simp only at *; omega)
    all_goals refine MkM.r bl ?_
    all_goals repeat' (first | refine Sp.h ?_ | refine Lk.r rfl ?_ | refine Rf.mk rfl ?_ | (refine Im.mk ?_; intro _) | (refine All.mk ?_; intro _) | (apply TkB.r; (focus (repeat (first | exact Take.here | apply Take.there)))) | fail)
    all_goals refine CA.loop (fun i : Nat => ⟨[(2, pm _), (3, pm _), (5, .val (.map (some _))), (42, mks l), (43, it (l.length : Nat)), (44, it i)], [blkR _ 84 (tblC t), blkR _ 44 (mgC ⟨put, drop, l⟩), mapR Tryz.prog _ 87 (namesL (l.take i)) bl]⟩) (fun i => i ≤ l.length ∧ MksTo t l i) (fun i => l.length - i) 0 ⟨by (repeat (first | exact trivial | refine ⟨rfl, ?_⟩)), by (repeat (first | exact Subl.nil | refine Subl.cons (by (repeat (first | exact Take.here | apply Take.there))) ?_))⟩ ⟨Nat.zero_le _, mksTo_zero t l⟩ ?_
    all_goals
      rintro i ⟨hi, hm⟩
      by_cases hin : i < l.length
      · obtain ⟨x, hx⟩ := get_of hin
        have hlk := names_look (l.take i) x
        by_cases hdup : HasNm (l.take i) x
        · rw [if_pos hdup] at hlk
          repeat' (first | refine Sp.h ?_ | refine Lk.r rfl ?_ | refine Rf.mk rfl ?_ | (apply Bd.t; (focus (first | assumption | omega | rfl))) | (apply Bd.f; (focus (first | assumption | omega | exact Bool.false_ne_true))) | (refine Bd.mk ?_ ?_ <;> intro _) | refine OpK.r rfl ?_ | (refine All.mk ?_; intro _) | (apply TkB.r; (focus (repeat (first | exact Take.here | apply Take.there)))) | (apply Ix.q; (focus exact rfl); (focus assumption)) | refine Ch.l ⟨rfl, rfl⟩ ?_ | (apply SetAsk.r; (focus (repeat (first | exact SetAs.z | (apply SetAs.c; (focus (repeat (first | assumption | exact SetA.z | apply SetA.s)))))))) | (apply Nm.r; (focus repeat (first | apply LN.cons | exact LN.nil))) | (apply Il.r; (focus repeat (first | apply ILit.cons | exact ILit.nil))) | (apply Kf.mk; (focus kernel_rfl)) | (apply TkM.r; (focus (repeat (first | exact Take.here | apply Take.there)))) | (apply LkM.s; (focus first | assumption | rfl)) | (apply CA.draw; (focus rfl); (focus kernel_rfl); (focus kernel_rfl); (focus repeat' (first | apply ON.one | exact ON.done | exact ON.none | apply ON.alt)); (focus rfl)) | fail | (apply Cl.p (right_p _ _); (focus repeat' (first | exact Lend.nil | apply Lend.keep | fail))) | (apply Cl.p (dot_p _); (focus repeat' (first | exact Lend.nil | apply Lend.keep | fail))))
          all_goals refine Fin.p rfl (vb (decide_eq_false (fun h => ?_)).symm)
          all_goals
            obtain ⟨h1, h2, -⟩ := h.2 i x hin hx
            first
              | exact absurd h1 (by assumption)
              | (obtain ⟨y, hy, hn⟩ := hdup
                 obtain ⟨j, hj⟩ := List.getElem?_of_mem hy
                 have hji : j < i := by have := (List.getElem?_eq_some_iff.1 hj).1; rw [List.length_take] at this; omega
                 rw [List.getElem?_take, if_pos hji] at hj
                 exact h2 j y hji hj hn)
        · rw [if_neg hdup] at hlk
          have hap := names_app hx hlk
          have hd : ∀ j y, j < i → l[j]? = some y → ¬ Nm y x := fun j y hj hy hn => hdup ⟨y, List.mem_of_getElem? (i := j) (by rw [List.getElem?_take, if_pos hj]; exact hy), hn⟩
          rcases Nat.eq_zero_or_pos i with h0 | h0
          · subst h0
            repeat' (first | refine Sp.h ?_ | refine Lk.r rfl ?_ | refine Rf.mk rfl ?_ | (apply Bd.t; (focus (first | assumption | omega | rfl))) | (apply Bd.f; (focus (first | assumption | omega | exact Bool.false_ne_true))) | (refine Bd.mk ?_ ?_ <;> intro _) | refine OpK.r rfl ?_ | (refine All.mk ?_; intro _) | (apply TkB.r; (focus (repeat (first | exact Take.here | apply Take.there)))) | (apply Ix.q; (focus exact rfl); (focus assumption)) | refine Ch.l ⟨rfl, rfl⟩ ?_ | (apply SetAsk.r; (focus (repeat (first | exact SetAs.z | (apply SetAs.c; (focus (repeat (first | assumption | exact SetA.z | apply SetA.s)))))))) | (apply Nm.r; (focus repeat (first | apply LN.cons | exact LN.nil))) | (apply Il.r; (focus repeat (first | apply ILit.cons | exact ILit.nil))) | (apply Kf.mk; (focus kernel_rfl)) | (apply TkM.r; (focus (repeat (first | exact Take.here | apply Take.there)))) | refine UpV.r rfl ?_ | (apply Zx.b; (focus rfl)) | (apply LkM.n; (focus first | assumption | rfl)) | (apply CA.draw; (focus rfl); (focus kernel_rfl); (focus kernel_rfl); (focus repeat' (first | apply ON.one | exact ON.done | exact ON.none | apply ON.alt)); (focus rfl)) | (apply Ov.n; (focus first | omega | (simp <;> omega))) | fail | (apply Cl.p (right_p _ _); (focus repeat' (first | exact Lend.nil | apply Lend.keep | fail))) | (apply Cl.p (dot_p _); (focus repeat' (first | exact Lend.nil | apply Lend.keep | fail))))
            all_goals first
              | (refine Fin.p rfl (vb (decide_eq_false (fun h => ?_)).symm)
                 exact absurd (h.2 0 x hin hx).1 (by assumption))
              | (rw [hap]
                 exact PA.lp 1 ⟨by (repeat (first | exact trivial | refine ⟨rfl, ?_⟩)), by (repeat (first | exact Subl.nil | refine Subl.cons (by (repeat (first | exact Take.here | apply Take.there))) ?_))⟩ ⟨⟨hin, mksTo_succ hx hm (by assumption) hd (fun y h _ => absurd h (Nat.lt_irrefl 0))⟩, by omega⟩)
          · obtain ⟨k, rfl⟩ : ∃ k, i = k + 1 := ⟨i - 1, by omega⟩
            obtain ⟨y, hy⟩ := get_of (l := l) (i := k) (by omega)
            have hk4 : ¬ t.kind = 4 := fun h => g3 ⟨h, by omega⟩
            have hcm := cmpK_pos (a := y) (b := x)
            first
              | exact absurd (by assumption) hk4
              | skip
            all_goals repeat' (first | refine Sp.h ?_ | refine Lk.r rfl ?_ | refine Rf.mk rfl ?_ | (apply Bd.t; (focus (first | assumption | omega | rfl))) | (apply Bd.f; (focus (first | assumption | omega | exact Bool.false_ne_true))) | (refine Bd.mk ?_ ?_ <;> intro _) | refine OpK.r rfl ?_ | (refine All.mk ?_; intro _) | (apply TkB.r; (focus (repeat (first | exact Take.here | apply Take.there)))) | (apply Ix.q; (focus exact rfl); (focus assumption)) | (apply Ix.r; (focus assumption); (focus omega)) | refine Ch.l ⟨rfl, rfl⟩ ?_ | (apply SetAsk.r; (focus (repeat (first | exact SetAs.z | (apply SetAs.c; (focus (repeat (first | assumption | exact SetA.z | apply SetA.s)))))))) | (apply Nm.r; (focus repeat (first | apply LN.cons | exact LN.nil))) | (apply Il.r; (focus repeat (first | apply ILit.cons | exact ILit.nil))) | (apply Kf.mk; (focus kernel_rfl)) | (apply TkM.r; (focus (repeat (first | exact Take.here | apply Take.there)))) | (apply Zx.b; (focus rfl)) | (apply LkM.n; (focus first | assumption | rfl)) | (apply CA.draw; (focus rfl); (focus kernel_rfl); (focus kernel_rfl); (focus repeat' (first | apply ON.one | exact ON.done | exact ON.none | apply ON.alt)); (focus rfl)) | (apply Ov.n; (focus first | omega | (simp <;> omega))) | fail | (apply Cl.p (right_p _ _); (focus repeat' (first | exact Lend.nil | apply Lend.keep | fail))) | (apply Cl.p (dot_p _); (focus repeat' (first | exact Lend.nil | apply Lend.keep | fail))))
            all_goals try (refine Fin.p rfl (vb (decide_eq_false (fun h => ?_)).symm); exact absurd (h.2 (k + 1) x hin hx).1 (by assumption))
            all_goals repeat' (first | refine Sp.h ?_ | refine Lk.r rfl ?_ | refine Rf.mk rfl ?_ | (apply Bd.t; (focus (first | assumption | omega | rfl))) | (refine Bd.mk ?_ ?_ <;> intro _) | refine OpK.r rfl ?_ | (apply TkB.r; (focus (repeat (first | exact Take.here | apply Take.there)))) | refine Ch.l ⟨rfl, rfl⟩ ?_ | (apply Nm.r; (focus repeat (first | apply LN.cons | exact LN.nil))) | (apply Il.r; (focus repeat (first | apply ILit.cons | exact ILit.nil))) | (apply Kf.mk; (focus kernel_rfl)) | (apply TkM.r; (focus (repeat (first | exact Take.here | apply Take.there)))) | refine UpV.r rfl ?_ | (apply Ov.n; (focus first | omega | (simp <;> omega))) | fail | (apply Cl.p (compareK_p _ _); (focus repeat' (first | exact Lend.nil | apply Lend.keep | fail))) | (apply Cl.p (dot_p _); (focus repeat' (first | exact Lend.nil | apply Lend.keep | fail))))
            all_goals first
              | (refine Fin.p rfl (vb (decide_eq_false (fun h => ?_)).symm)
                 exact (h.2 (k + 1) x hin hx).2.2 y h0 hy (hcm.1 (by assumption)))
              | (rw [hap]
                 exact PA.lp (k + 1 + 1) ⟨by (repeat (first | exact trivial | refine ⟨rfl, ?_⟩)), by (repeat (first | exact Subl.nil | refine Subl.cons (by (repeat (first | exact Take.here | apply Take.there))) ?_))⟩ ⟨⟨hin, mksTo_succ hx hm (by assumption) hd (fun z _ hz => by rw [show k + 1 - 1 = k from rfl, hy] at hz; cases hz; exact fun h => absurd (hcm.2 h) (by assumption))⟩, by omega⟩)
      · have hie : i = l.length := by omega
        subst hie
        repeat' (first | refine Sp.h ?_ | refine Lk.r rfl ?_ | refine Rf.mk rfl ?_ | (apply Bd.f; (focus (first | assumption | omega | exact Bool.false_ne_true))) | (apply Nm.r; (focus repeat (first | apply LN.cons | exact LN.nil))) | fail)
        exact Fin.p rfl (vb (decide_eq_true (show ValG t ⟨put, drop, l⟩ from ⟨hg, hm⟩)).symm)
  · have hng : ¬ ValG t ⟨put, drop, l⟩ := fun h => hg h.1
    unfold GenG at hg
    repeat' (first | refine Sp.h ?_ | refine Lk.r rfl ?_ | refine Rf.mk rfl ?_ | (apply Bd.t; (focus (first | assumption | omega | rfl))) | (apply Bd.f; (focus (first | assumption | omega | exact Bool.false_ne_true))) | (refine Bd.mk ?_ ?_ <;> intro _) | (refine Im.mk ?_; intro _) | (refine All.mk ?_; intro _) | (apply TkB.r; (focus (repeat (first | exact Take.here | apply Take.there)))) | refine Ch.l ⟨rfl, rfl⟩ ?_ | (apply Nm.r; (focus repeat (first | apply LN.cons | exact LN.nil))) | fail | (apply Cl.p (register_p _); (focus repeat' (first | exact Lend.nil | apply Lend.keep | fail))))
    all_goals first
      | exact Fin.p rfl (vb (decide_eq_false hng).symm)
      | (refine (hg ⟨fun h => ?_, fun h => ?_, fun h => ?_, ?_⟩).elim
         all_goals (simp only at *; first | assumption | omega | simp_all))
/-- What can be known of the cells of some tables. -/
def ValL (ts : List TblS) (l : List MgS) : Prop := ts.length = l.length ∧ ∀ (i : Nat) (t : TblS) (g : MgS), ts[i]? = some t → l[i]? = some g → ValG t g
noncomputable instance (ts : List TblS) (l : List MgS) : Decidable (ValL ts l) := Classical.propDecidable _
abbrev EqFn : FuncId := 54
theorem equalTM_p (ts : List TblS) (l : List MgS) : CallP Tryz.prog EqFn [tbls ts, mgs l, .fn 55 []] (bl (decide (ValL ts l))) := by
  refine CallA.of pg ord54 Tryz.func54 rfl Tryz.ntmps54 Tryz.results54 rfl fun h0 G0 O0 => ?_
  repeat' (first | refine Sp.h ?_ | refine Lk.r rfl ?_ | refine Rf.mk rfl ?_ | (refine Bd.mk ?_ ?_ <;> intro _) | (refine Im.mk ?_; intro _) | (apply Nm.r; (focus repeat (first | apply LN.cons | exact LN.nil))) | fail)
  rotate_left
  · rename_i hlen
    exact Fin.p rfl (vb (decide_eq_false (fun h => by have := h.1; omega)).symm)
  refine CA.loop (fun i : Nat => ⟨[(1, mgs l), (2, .fn 55 []), (15, tbls ts), (16, it (ts.length : Nat)), (17, it i)], []⟩) (fun i => i ≤ ts.length ∧ ∀ j t g, j < i → ts[j]? = some t → l[j]? = some g → ValG t g) (fun i => ts.length - i) 0 ⟨by (repeat (first | exact trivial | refine ⟨rfl, ?_⟩)), by (repeat (first | exact Subl.nil | refine Subl.cons (by (repeat (first | exact Take.here | apply Take.there))) ?_))⟩ ⟨Nat.zero_le _, fun j t g h => by omega⟩ ?_
  rintro i ⟨hi, ha⟩
  by_cases hin : i < ts.length
  · obtain ⟨t, ht⟩ := get_of hin
    obtain ⟨g, hg⟩ := get_of (l := l) (i := i) (by omega)
    repeat' (first | refine Sp.h ?_ | refine Lk.r rfl ?_ | refine Rf.mk rfl ?_ | (apply Bd.t; (focus (first | assumption | omega | rfl))) | (refine Bd.mk ?_ ?_ <;> intro _) | (refine All.mk ?_; intro _) | (apply TkB.r; (focus (repeat (first | exact Take.here | apply Take.there)))) | (apply Ix.q; (focus exact rfl); (focus assumption)) | refine Ch.l ⟨rfl, rfl⟩ ?_ | (apply SetAsk.r; (focus (repeat (first | exact SetAs.z | (apply SetAs.c; (focus (repeat (first | assumption | exact SetA.z | apply SetA.s)))))))) | (apply Nm.r; (focus repeat (first | apply LN.cons | exact LN.nil))) | (apply Ov.n; (focus first | omega | (simp <;> omega))) | fail | (apply Cl.p (valid34_p _ _); (focus repeat' (first | exact Lend.nil | apply Lend.keep | fail))))
    · refine PA.lp (i + 1) ⟨by (repeat (first | exact trivial | refine ⟨rfl, ?_⟩)), by (repeat (first | exact Subl.nil | refine Subl.cons (by (repeat (first | exact Take.here | apply Take.there))) ?_))⟩ ⟨⟨hin, fun j t' g' hj h1 h2 => ?_⟩, by omega⟩
      by_cases hji : j = i
      · subst hji; rw [ht] at h1; rw [hg] at h2; cases h1; cases h2; assumption
      · exact ha j t' g' (by omega) h1 h2
    · exact Fin.p rfl (vb (decide_eq_false (fun h => by have := h.2 i t g ht hg; contradiction)).symm)
  have hie : i = ts.length := by omega
  subst hie
  repeat' (first | refine Sp.h ?_ | refine Lk.r rfl ?_ | refine Rf.mk rfl ?_ | (apply Bd.f; (focus (first | assumption | omega | exact Bool.false_ne_true))) | (apply Nm.r; (focus repeat (first | apply LN.cons | exact LN.nil))) | fail)
  exact Fin.p rfl (vb (decide_eq_true (show ValL ts l from ⟨by omega, fun j t g h1 h2 => ha j t g (List.getElem?_eq_some_iff.1 h1).1 h1 h2⟩)).symm)
theorem validM_p (m : ModS) (l : List MgS) (hm : LayOK m.sorts m.tables) : CallP Tryz.prog 20 [mdl m, mgs l] (bl (decide (ValL (mrgF m) l))) := by
  have hc := cells_p m hm
  have he := equalTM_p (mrgF m) l
  refine CallA.of pg ord20 Tryz.func20 rfl Tryz.ntmps20 Tryz.results20 rfl fun h0 G0 O0 => ?_
  repeat' (first | refine Sp.h ?_ | refine Lk.r rfl ?_ | refine Rf.mk rfl ?_ | (refine All.mk ?_; intro _) | (apply TkB.r; (focus (repeat (first | exact Take.here | apply Take.there)))) | refine Ch.l ⟨rfl, rfl⟩ ?_ | fail | (apply Cl.p (hc); (focus repeat' (first | exact Lend.nil | apply Lend.keep | fail))))
  (apply Cl.p (he); (focus repeat' (first | exact Lend.nil | apply Lend.keep | fail)))
  repeat' (first | refine Sp.h ?_ | refine Lk.r rfl ?_ | (apply Nm.r; (focus repeat (first | apply LN.cons | exact LN.nil))) | fail)
  exact Fin.p rfl rfl
end Go.Proofs.YtpgpdmmobblffaaGreat
namespace Go.Proofs.YtpgpdmmobblffaaGreat
open Go Go.CF
set_option maxRecDepth 20000
def isSetK (k : Int) : Prop := k = 2 ∨ k = 3
noncomputable instance (k : Int) : Decidable (isSetK k) := Classical.propDecidable _
theorem isSet34_p (k : Int) : CallP Tryz.prog 46 [it k] (bl (decide (isSetK k))) := by
  refine CallA.of pg ord46 Tryz.func46 rfl Tryz.ntmps46 Tryz.results46 rfl fun h0 G0 O0 => ?_
  repeat' (first | refine Sp.h ?_ | refine Lk.r rfl ?_ | refine Rf.mk rfl ?_ | (apply Bd.t; (focus (first | assumption | omega | rfl))) | (apply Bd.f; (focus (first | assumption | omega | exact Bool.false_ne_true))) | (refine Bd.mk ?_ ?_ <;> intro _) | (apply Nm.r; (focus repeat (first | apply LN.cons | exact LN.nil))) | fail)
  all_goals refine Fin.p rfl (vb ?_)
  all_goals first
    | exact decide_eq_decide.2 (by unfold isSetK; omega)
    | exact (decide_eq_true (by unfold isSetK; omega)).symm
/-- Tables of convergent cells. -/
def KindM (ts : List TblS) : Prop := ∀ t ∈ ts, 2 ≤ t.kind ∧ t.kind ≤ 5
theorem mrgL_mem {m : ModS} {l : List TblS} {t : TblS} (h : t ∈ mrgL m l) : t ∈ l ∧ ¬ isStrict t.kind := by
  unfold mrgL at h
  obtain ⟨u, hu, ht⟩ := List.mem_flatMap.1 h
  split at ht
  · cases ht
  · rename_i hs
    have := List.eq_of_mem_replicate ht
    subst this
    exact ⟨hu, hs⟩
theorem kindM {m : ModS} (hm : LayOK m.sorts m.tables) : KindM (mrgF m) := by
  intro t ht
  obtain ⟨h1, h2⟩ := mrgL_mem ht
  have := (hm.2.2.2 t h1).2
  unfold isStrict at h2
  omega
theorem ltK_total {a b : MkS} (h1 : ¬ LtK a b) (h2 : ¬ LtK b a) : Nm a b := by unfold LtK at h1 h2; unfold Nm; omega
theorem ltK_asym {a b : MkS} (h1 : LtK a b) : ¬ LtK b a := by unfold LtK at h1 ⊢; omega
/-- A walk stops here. -/
structure Stopped (p : Prop) : Prop where
  h : p
theorem Stopped.out {p : Prop} (h : Stopped p) : p := h.h
set_option maxHeartbeats 16000000 in
theorem validR34_p (m : ModS) (l : List MgS) (hm : LayOK m.sorts m.tables) : CallP Tryz.prog 21 [mdl m, mgs l] (bl (decide (ValL (mrgF m) l))) := by
  have hc := merged32_p m hm
  have hk := kindM hm
  have hml := mrgF_le hm
  obtain ⟨ts, hts⟩ : ∃ ts, ts = mrgF m := ⟨_, rfl⟩
  rw [← hts] at hc hk hml ⊢
  refine CallA.of pg ord21 Tryz.func21 rfl Tryz.ntmps21 Tryz.results21 rfl fun h0 G0 O0 => ?_
  repeat' (first | refine Sp.h ?_ | refine Lk.r rfl ?_ | refine Rf.mk rfl ?_ | (refine Bd.mk ?_ ?_ <;> intro _) | (refine Im.mk ?_; intro _) | (refine All.mk ?_; intro _) | (apply TkB.r; (focus (repeat (first | exact Take.here | apply Take.there)))) | refine Ch.l ⟨rfl, rfl⟩ ?_ | (apply Nm.r; (focus repeat (first | apply LN.cons | exact LN.nil))) | fail | (apply Cl.p (hc); (focus repeat' (first | exact Lend.nil | apply Lend.keep | fail))))
  rotate_left
  · exact Fin.p rfl (vb (decide_eq_false (fun h => by have := h.1; omega)).symm)
  rename_i hlen
  refine CA.loop (fun i : Nat => ⟨[(1, mgs l), (5, tbls ts), (6, it i)], []⟩) (fun i => i ≤ l.length ∧ ∀ (j : Nat) (t : TblS) (g : MgS), j < i → ts[j]? = some t → l[j]? = some g → ValG t g) (fun i => l.length - i) 0 ⟨by (repeat (first | exact trivial | refine ⟨rfl, ?_⟩)), by (repeat (first | exact Subl.nil | refine Subl.cons (by (repeat (first | exact Take.here | apply Take.there))) ?_))⟩ ⟨Nat.zero_le _, fun j t g h => by omega⟩ ?_
  rintro i ⟨hi, ha⟩
  by_cases hin : i < l.length
  · obtain ⟨g, hg⟩ := get_of hin
    obtain ⟨t, ht⟩ := get_of (l := ts) (i := i) (by omega)
    obtain ⟨hk1, hk2⟩ := hk t (List.mem_of_getElem? ht)
    have hbad : ¬ ValG t g → ¬ ValL ts l := fun h h' => h (h'.2 i t g ht hg)
    (repeat' (first | (show CA _ _ (Code.region 7 _ _) _ _; apply Stopped.out) | refine Sp.h ?_ | refine Lk.r rfl ?_ | refine Rf.mk rfl ?_ | (apply Bd.t; (focus (first | assumption | omega | rfl))) | (refine Im.mk ?_; intro _) | fail)); any_goals apply Stopped.mk
    refine CA.cut (fun p : Nat × Nat => ⟨[(1, mgs l), (5, tbls ts), (6, it i), (7, pm p.1), (8, pm p.2)], [blkR p.1 84 (tblC t), blkR p.2 44 (mgC g)]⟩) (fun _ => True) ?_ ?_
    · repeat' (first | refine Sp.h ?_ | refine Lk.r rfl ?_ | refine Rf.mk rfl ?_ | refine OpK.r rfl ?_ | (apply Om.mk; (focus first | omega | (simp <;> omega))) | (refine Im.mk ?_; intro _) | (refine All.mk ?_; intro _) | (apply TkB.r; (focus (repeat (first | exact Take.here | apply Take.there)))) | (apply Ix.q; (focus exact rfl); (focus assumption)) | refine Ch.l ⟨rfl, rfl⟩ ?_ | (apply SetAsk.r; (focus (repeat (first | exact SetAs.z | (apply SetAs.c; (focus (repeat (first | assumption | exact SetA.z | apply SetA.s)))))))) | (apply Nm.r; (focus repeat (first | apply LN.cons | exact LN.nil))) | exact trivial | (apply CA.drawF; (focus rfl); (focus kernel_rfl); (focus kernel_rfl); (focus repeat' (first | apply ON.one | exact ON.done | exact ON.none | apply ON.alt)); (focus rfl); intro _n0 _hlt) | apply RA'.both | fail)
      all_goals exact PA.lp (_, _) ⟨by (repeat (first | exact trivial | refine ⟨rfl, ?_⟩)), by (repeat (first | exact Subl.nil | refine Subl.cons (by (repeat (first | exact Take.here | apply Take.there))) ?_))⟩ trivial
    rintro ⟨b7, b8⟩ -
    simp only
    (repeat' (first | (show CA _ _ (Code.region 8 _ _) _ _; apply Stopped.out) | refine Sp.h ?_ | fail | (apply Cl.p (isSet34_p _); (focus repeat' (first | fail))))); any_goals apply Stopped.mk
    refine CA.cut (fun b : Bool => ⟨[(1, mgs l), (5, tbls ts), (6, it i), (7, pm b7), (8, pm b8), (66, bl b)], [blkR b7 84 (tblC t), blkR b8 44 (mgC g)]⟩) (fun b => b = true ↔ ¬ GenG t g) ?_ ?_
    · obtain ⟨put, drop, k⟩ := g
      cases put <;> cases drop
      all_goals repeat' (first | refine Sp.h ?_ | refine Lk.r rfl ?_ | refine Rf.mk rfl ?_ | (apply Bd.t; (focus (first | assumption | omega | rfl))) | (apply Bd.f; (focus (first | assumption | omega | exact Bool.false_ne_true))) | (refine Bd.mk ?_ ?_ <;> intro _) | (refine Im.mk ?_; intro _) | (apply TkB.r; (focus (repeat (first | exact Take.here | apply Take.there)))) | fail | (apply Cl.p (isSet34_p _); (focus repeat' (first | exact Lend.nil | apply Lend.keep | fail))))
      all_goals exact PA.lp _ ⟨by (repeat (first | exact trivial | refine ⟨rfl, ?_⟩)), by (repeat (first | exact Subl.nil | refine Subl.cons (by (repeat (first | exact Take.here | apply Take.there))) ?_))⟩ (by simp [GenG, isReg, isSetK] at *; omega)
    rintro b hb
    cases b
    · have hgen : GenG t g := Classical.not_not.1 fun h => by have := hb.2 h; cases this
      simp only
      repeat' (first | refine Sp.h ?_ | refine Lk.r rfl ?_ | refine Rf.mk rfl ?_ | fail)
      refine CA.loop (fun n : Nat => ⟨[(1, mgs l), (5, tbls ts), (6, it i), (7, pm b7), (8, pm b8), (9, it n)], [blkR b7 84 (tblC t), blkR b8 44 (mgC g)]⟩) (fun n => n ≤ g.marks.length ∧ MksTo t g.marks n) (fun n => g.marks.length - n) 0 ⟨by (repeat (first | exact trivial | refine ⟨rfl, ?_⟩)), by (repeat (first | exact Subl.nil | refine Subl.cons (by (repeat (first | exact Take.here | apply Take.there))) ?_))⟩ ⟨Nat.zero_le _, mksTo_zero t g.marks⟩ ?_
      rintro n ⟨hn, hmt⟩
      by_cases hnn : n < g.marks.length
      · obtain ⟨x, hx⟩ := get_of hnn
        have hno : ¬ (RightK t x ∧ (∀ (j : Nat) (y : MkS), j < n → g.marks[j]? = some y → ¬ Nm y x) ∧ (∀ y, 0 < n → g.marks[n - 1]? = some y → ¬ LtK x y)) → ¬ ValL ts l := fun h => hbad fun h' => h (h'.2 n x hnn hx)
        (repeat' (first | (show CA _ _ (Code.region 14 _ _) _ _; apply Stopped.out) | refine Sp.h ?_ | refine Lk.r rfl ?_ | refine Rf.mk rfl ?_ | (apply Bd.t; (focus (first | assumption | omega | rfl))) | (refine Im.mk ?_; intro _) | (refine All.mk ?_; intro _) | (apply TkB.r; (focus (repeat (first | exact Take.here | apply Take.there)))) | (apply Ix.q; (focus exact rfl); (focus assumption)) | refine Ch.l ⟨rfl, rfl⟩ ?_ | (apply SetAsk.r; (focus (repeat (first | exact SetAs.z | (apply SetAs.c; (focus (repeat (first | assumption | exact SetA.z | apply SetA.s)))))))) | (apply Nm.r; (focus repeat (first | apply LN.cons | exact LN.nil))) | fail)); any_goals apply Stopped.mk
        rename_i b10
        refine CA.cut (fun b : Bool => ⟨[(1, mgs l), (5, tbls ts), (6, it i), (7, pm b7), (8, pm b8), (9, it n), (10, pm b10), (106, bl b)], [blkR b7 84 (tblC t), blkR b8 44 (mgC g), blkR b10 47 (mkC x)]⟩) (fun b => b = true ↔ ¬ ((0 ≤ x.rep ∧ x.rep ≤ 4) ∧ (1 ≤ x.num ∧ x.num ≤ 1024) ∧ (1 ≤ x.time ∧ x.time ≤ 1073741824))) ?_ ?_
        · repeat' (first | refine Sp.h ?_ | refine Lk.r rfl ?_ | refine Rf.mk rfl ?_ | (apply Bd.t; (focus (first | assumption | omega | rfl))) | (apply Bd.f; (focus (first | assumption | omega | exact Bool.false_ne_true))) | (refine Bd.mk ?_ ?_ <;> intro _) | (apply TkB.r; (focus (repeat (first | exact Take.here | apply Take.there)))) | fail)
          all_goals exact PA.lp _ ⟨by (repeat (first | exact trivial | refine ⟨rfl, ?_⟩)), by (repeat (first | exact Subl.nil | refine Subl.cons (by (repeat (first | exact Take.here | apply Take.there))) ?_))⟩ (by simp only [decide_eq_true_eq, true_iff]; omega)
        rintro b hb14
        cases b
        rotate_left
        · simp only
          repeat' (first | refine Sp.h ?_ | refine Lk.r rfl ?_ | refine Rf.mk rfl ?_ | (apply Nm.r; (focus repeat (first | apply LN.cons | exact LN.nil))) | fail)
          exact Fin.p rfl (vb (decide_eq_false (hno fun h => hb14.1 rfl ⟨h.1.1, h.1.2.1, h.1.2.2.1⟩)).symm)
        have hr14 := Classical.not_not.1 fun h => by have := hb14.2 h; cases this
        simp only
        (repeat' (first | (show CA _ _ (Code.region 16 _ _) _ _; apply Stopped.out) | refine Sp.h ?_ | refine Lk.r rfl ?_ | fail)); any_goals apply Stopped.mk
        refine CA.cut (fun b : Bool => ⟨[(1, mgs l), (5, tbls ts), (6, it i), (7, pm b7), (8, pm b8), (9, it n), (10, pm b10), (151, bl b)], [blkR b7 84 (tblC t), blkR b8 44 (mgC g), blkR b10 47 (mkC x)]⟩) (fun b => b = true ↔ ¬ (RightK t x ∧ (∀ y, 0 < n → g.marks[n - 1]? = some y → LtK y x))) ?_ ?_
        · have hrt : RightK t x ↔ (isSetK t.kind ∧ x.val = 0 ∨ ¬ isSetK t.kind ∧ t.lo ≤ x.val ∧ x.val ≤ t.hi) := by
            unfold RightK lowT highT
            by_cases hs : isReg t.kind
            · rw [if_pos hs, if_pos hs]; unfold isReg at hs; unfold isSetK; omega
            · rw [if_neg hs, if_neg hs]; unfold isReg at hs; unfold isSetK; omega
          rw [hrt]
          rcases Nat.eq_zero_or_pos n with h0 | h0
          · subst h0
            have hz : (∀ y, 0 < 0 → g.marks[0 - 1]? = some y → LtK y x) ↔ True := ⟨fun _ => trivial, fun _ y h => absurd h (Nat.lt_irrefl 0)⟩
            rw [hz]
            repeat' (first | refine Sp.h ?_ | refine Lk.r rfl ?_ | refine Rf.mk rfl ?_ | (apply Bd.t; (focus (first | assumption | omega | rfl))) | (apply Bd.f; (focus (first | assumption | omega | exact Bool.false_ne_true))) | (refine Bd.mk ?_ ?_ <;> intro _) | refine OpK.r rfl ?_ | (apply TkB.r; (focus (repeat (first | exact Take.here | apply Take.there)))) | (apply CA.draw; (focus rfl); (focus kernel_rfl); (focus kernel_rfl); (focus repeat' (first | apply ON.one | exact ON.done | exact ON.none | apply ON.alt)); (focus rfl)) | fail | (apply Cl.p (isSet34_p _); (focus repeat' (first | exact Lend.nil | apply Lend.keep | fail))) | (apply Cl.p (less34_p _ _); (focus repeat' (first | exact Lend.nil | apply Lend.keep | fail))))
            all_goals exact PA.lp _ ⟨by (repeat (first | exact trivial | refine ⟨rfl, ?_⟩)), by (repeat (first | exact Subl.nil | refine Subl.cons (by (repeat (first | exact Take.here | apply Take.there))) ?_))⟩ (by (try unfold isSetK at *); (try simp only [and_true, true_iff, Bool.false_eq_true, false_iff]); omega)
          · obtain ⟨q, rfl⟩ : ∃ q, n = q + 1 := ⟨n - 1, by omega⟩
            obtain ⟨y, hy⟩ := get_of (l := g.marks) (i := q) (by omega)
            have hz : (∀ y, 0 < q + 1 → g.marks[q + 1 - 1]? = some y → LtK y x) ↔ LtK y x := ⟨fun h => h y h0 hy, fun h z _ hz => by rw [show q + 1 - 1 = q from rfl, hy] at hz; cases hz; exact h⟩
            rw [hz]
            repeat' (first | refine Sp.h ?_ | refine Lk.r rfl ?_ | refine Rf.mk rfl ?_ | (apply Bd.t; (focus (first | assumption | omega | rfl))) | (apply Bd.f; (focus (first | assumption | omega | exact Bool.false_ne_true))) | (refine Bd.mk ?_ ?_ <;> intro _) | refine OpK.r rfl ?_ | (apply TkB.r; (focus (repeat (first | exact Take.here | apply Take.there)))) | (apply Ix.r; (focus assumption); (focus omega)) | refine Ch.l ⟨rfl, rfl⟩ ?_ | (apply CA.draw; (focus rfl); (focus kernel_rfl); (focus kernel_rfl); (focus repeat' (first | apply ON.one | exact ON.done | exact ON.none | apply ON.alt)); (focus rfl)) | (apply Ov.n; (focus first | omega | (simp <;> omega))) | fail | (apply Cl.p (isSet34_p _); (focus repeat' (first | exact Lend.nil | apply Lend.keep | fail))) | (apply Cl.p (less34_p _ _); (focus repeat' (first | exact Lend.nil | apply Lend.keep | fail))))
            all_goals exact PA.lp _ ⟨by (repeat (first | exact trivial | refine ⟨rfl, ?_⟩)), by (repeat (first | exact Subl.nil | refine Subl.cons (by (repeat (first | exact Take.here | apply Take.there))) ?_))⟩ (by (try unfold isSetK at *); (try unfold LtK at *); (try simp only [true_iff, decide_not, Bool.not_eq_true', decide_eq_false_iff_not]); omega)
        rintro b hb16
        cases b
        rotate_left
        · simp only
          repeat' (first | refine Sp.h ?_ | refine Lk.r rfl ?_ | refine Rf.mk rfl ?_ | (apply Nm.r; (focus repeat (first | apply LN.cons | exact LN.nil))) | fail)
          refine Fin.p rfl (vb (decide_eq_false (hno fun h => hb16.1 rfl ⟨h.1, fun y h1 h2 => Classical.byContradiction fun h3 => h.2.1 (n - 1) y (by omega) h2 (ltK_total h3 (h.2.2 y h1 h2))⟩)).symm)
        obtain ⟨hR, hlt⟩ := Classical.not_not.1 fun h => by have := hb16.2 h; cases this
        simp only
        repeat' (first | refine Sp.h ?_ | refine Lk.r rfl ?_ | refine Rf.mk rfl ?_ | fail)
        refine CA.loop (fun j : Nat => ⟨[(1, mgs l), (5, tbls ts), (6, it i), (7, pm b7), (8, pm b8), (9, it n), (10, pm b10), (11, it j)], [blkR b7 84 (tblC t), blkR b8 44 (mgC g), blkR b10 47 (mkC x)]⟩) (fun j => j ≤ n ∧ ∀ (j' : Nat) (z : MkS), j' < j → g.marks[j']? = some z → ¬ Nm z x) (fun j => n - j) 0 ⟨by (repeat (first | exact trivial | refine ⟨rfl, ?_⟩)), by (repeat (first | exact Subl.nil | refine Subl.cons (by (repeat (first | exact Take.here | apply Take.there))) ?_))⟩ ⟨Nat.zero_le _, fun j' z h => absurd h (Nat.not_lt_zero _)⟩ ?_
        rintro j ⟨hj, hjd⟩
        by_cases hjn : j < n
        · obtain ⟨z, hz⟩ := get_of (l := g.marks) (i := j) (by omega)
          by_cases hnm : Nm z x
          · obtain ⟨hn1, hn2⟩ := id hnm
            repeat' (first | refine Sp.h ?_ | refine Lk.r rfl ?_ | refine Rf.mk rfl ?_ | (apply Bd.t; (focus (first | assumption | omega | rfl))) | refine OpK.r rfl ?_ | (apply TkB.r; (focus (repeat (first | exact Take.here | apply Take.there)))) | (apply Ix.q; (focus exact rfl); (focus assumption)) | (apply Nm.r; (focus repeat (first | apply LN.cons | exact LN.nil))) | (apply CA.draw; (focus rfl); (focus kernel_rfl); (focus kernel_rfl); (focus repeat' (first | apply ON.one | exact ON.done | exact ON.none | apply ON.alt)); (focus rfl)) | fail)
            exact Fin.p rfl (vb (decide_eq_false (hno fun h => h.2.1 j z hjn hz hnm)).symm)
          · have hnm' : ¬ (z.rep = x.rep ∧ z.num = x.num) := hnm
            repeat' (first | refine Sp.h ?_ | refine Lk.r rfl ?_ | refine Rf.mk rfl ?_ | (apply Bd.t; (focus (first | assumption | omega | rfl))) | (apply Bd.f; (focus (first | assumption | omega | exact Bool.false_ne_true))) | (refine Bd.mk ?_ ?_ <;> intro _) | refine OpK.r rfl ?_ | (apply TkB.r; (focus (repeat (first | exact Take.here | apply Take.there)))) | (apply Ix.q; (focus exact rfl); (focus assumption)) | (apply CA.draw; (focus rfl); (focus kernel_rfl); (focus kernel_rfl); (focus repeat' (first | apply ON.one | exact ON.done | exact ON.none | apply ON.alt)); (focus rfl)) | (apply Ov.n; (focus first | omega | (simp <;> omega))) | fail)
            all_goals first
              | (refine PA.lp (j + 1) ⟨by (repeat (first | exact trivial | refine ⟨rfl, ?_⟩)), by (repeat (first | exact Subl.nil | refine Subl.cons (by (repeat (first | exact Take.here | apply Take.there))) ?_))⟩ ⟨⟨hjn, fun j' z' h1 h2 => ?_⟩, by omega⟩
                 by_cases hjj : j' = j
                 · subst hjj; rw [hz] at h2; cases h2; exact hnm
                 · exact hjd j' z' (by omega) h2)
              | exact (hnm' ⟨by assumption, by assumption⟩).elim
        · have hje : j = n := by omega
          subst hje
          repeat' (first | refine Sp.h ?_ | refine Lk.r rfl ?_ | refine Rf.mk rfl ?_ | (apply Bd.f; (focus (first | assumption | omega | exact Bool.false_ne_true))) | (apply Ov.n; (focus first | omega | (simp <;> omega))) | fail)
          exact PA.lp (j + 1) ⟨by (repeat (first | exact trivial | refine ⟨rfl, ?_⟩)), by (repeat (first | exact Subl.nil | refine Subl.cons (by (repeat (first | exact Take.here | apply Take.there))) ?_))⟩ ⟨⟨hnn, mksTo_succ hx hmt hR hjd (fun z h1 hz => ltK_asym (hlt z h1 hz))⟩, by omega⟩
      · have hne : n = g.marks.length := by omega
        subst hne
        repeat' (first | refine Sp.h ?_ | refine Lk.r rfl ?_ | refine Rf.mk rfl ?_ | (apply Bd.f; (focus (first | assumption | omega | exact Bool.false_ne_true))) | (refine Im.mk ?_; intro _) | (apply TkB.r; (focus (repeat (first | exact Take.here | apply Take.there)))) | (apply Ov.n; (focus first | omega | (simp <;> omega))) | fail)
        refine PA.lp (i + 1) ⟨by (repeat (first | exact trivial | refine ⟨rfl, ?_⟩)), by (repeat (first | exact Subl.nil | refine Subl.cons (by (repeat (first | exact Take.here | apply Take.there))) ?_))⟩ ⟨⟨hin, fun j t' g' hj h1 h2 => ?_⟩, by omega⟩
        by_cases hji : j = i
        · subst hji; rw [ht] at h1; rw [hg] at h2; cases h1; cases h2; exact ⟨hgen, hmt⟩
        · exact ha j t' g' (by omega) h1 h2
    · have hng : ¬ ValG t g := fun h => hb.1 rfl h.1
      simp only
      repeat' (first | refine Sp.h ?_ | refine Lk.r rfl ?_ | refine Rf.mk rfl ?_ | (apply Nm.r; (focus repeat (first | apply LN.cons | exact LN.nil))) | fail)
      exact Fin.p rfl (vb (decide_eq_false (hbad hng)).symm)
  have hie : i = l.length := by omega
  subst hie
  repeat' (first | refine Sp.h ?_ | refine Lk.r rfl ?_ | refine Rf.mk rfl ?_ | (apply Bd.f; (focus (first | assumption | omega | exact Bool.false_ne_true))) | (refine Im.mk ?_; intro _) | (apply Nm.r; (focus repeat (first | apply LN.cons | exact LN.nil))) | fail)
  exact Fin.p rfl (vb (decide_eq_true (show ValL ts l from ⟨by omega, fun j t g h1 h2 => ha j t g (List.getElem?_eq_some_iff.1 h2).1 h1 h2⟩)).symm)
end Go.Proofs.YtpgpdmmobblffaaGreat
namespace Go.CF
open Go
section
variable {P : Program} {tt : Nat → Option TI} {en : Nat → Bool} {n : Nat} {γ : Type} [Membership Nat γ] {fp : γ} {c : Cls} {d : Tmp} {ty t u : TypeId} {env : Env} {h : Heap} {N : Env → Heap → Prop} {x y z : Operand} {k1 k2 : IntKind}
theorem run_copyG (w : World) (dT sT ty elem : TypeId) {i : TypeInfo} (g o dLen dCap : Nat) (a : Addr) (sLen sCap : Nat) (cur : Array Value) (t : TypeId) (cs : List Value)
    (hu : P.underlying dT = some (.slice elem)) (hi : P.info? elem = some i) (hg : w.heap[g]? = some (.cells cur t (0, 0))) (hn : cs.length = Nat.min sLen dLen * i.size)
    (hsrc : ∀ j v, cs[j]? = some v → w.cell? (a.add j) = some v) (hfit : o + cs.length ≤ cur.size) (h1 : ∀ v ∈ cs, v.oneCell' = true) :
    (Builtin.copy_ #[dT, sT] ty #[.slice (some ⟨g, o, none⟩) dLen dCap, .slice (some a) sLen sCap]).run P w =
      .ok (goInt (Nat.min sLen dLen : Nat)) (w.setRow g (cur.toList.take o ++ cs ++ cur.toList.drop (o + cs.length)).toArray) := by
  have hst := run_storeCells_at P g o t cs 0 cur w hg (by simpa using hfit) h1
  have hf := run_firstCells_some (P := P) w i.size (Nat.min sLen dLen) a sLen sCap cs hn hsrc
  simp only [Nat.add_zero] at hst
  simp [Builtin.copy_, run_underlying hu, Builtin.lenOf, sizeOf, typeInfo, hi, hf, hst]
theorem run_copy0 (w : World) (dT sT ty elem : TypeId) {i : TypeInfo} (p q : Option Addr) (dLen dCap sLen sCap : Nat) (hu : P.underlying dT = some (.slice elem)) (hi : P.info? elem = some i) (hn : Nat.min sLen dLen = 0) :
    (Builtin.copy_ #[dT, sT] ty #[.slice p dLen dCap, .slice q sLen sCap]).run P w = .ok (goInt (0 : Nat)) w := by
  have hl : ∀ (a : Addr), (Builtin.firstCells i.size 0 (.slice (some a) sLen sCap)).run P w = .ok #[] w := fun a => by
    have := run_firstCells_some (P := P) w i.size 0 a sLen sCap [] (by simp) (by simp)
    simpa using this
  have hs : ∀ (a : Addr), (storeCells a []).run P w = .ok () w := fun a => by simp [storeCells]
  cases p <;> cases q <;> simp [Builtin.copy_, run_underlying hu, Builtin.lenOf, sizeOf, typeInfo, hi, hn, hl, hs, run_firstCells_none]
/-- copy into a slice of one's own. -/
theorem ld_copy (G : PgOK P tt en) {ti te : TI} {e b o dl dc m : Nat} {l news : List Value} {xv : Value} {K : Value → Heap → Prop} (ht : tt t = some ti) (hk : ti.kind = .slice e) (hte : tt e = some te)
    (hx : ev env x = some (.slice (some ⟨b, o, none⟩) dl dc)) (hy : ev env y = some xv) (hb : Blk h b e l) (hs : Sl h xv m news) (hm : news.length = m * te.size) (h1 : ∀ v ∈ news.take (min m dl * te.size), v.oneCell' = true) (hfit : o + min m dl * te.size ≤ l.length)
    (k : ∀ h', h'.size = h.size → Upd h b e (l.take o ++ news.take (min m dl * te.size) ++ l.drop (o + min m dl * te.size)) h' → K (.int .i64 (min m dl : Nat)) h') : Ld P n (.call { callee := .builtin .copy, args := #[x, y], argTypes := #[t, u] }) ty env h K := by
  intro a w oo next Q ha hw hop hty hn
  obtain ⟨i, dd, hi, hd, hi1, hi2, hi3, _⟩ := (G.ok _ _ hte).ok
  have hu := (G.ok _ _ ht).slice hk
  unfold Oper.wp
  have fin : ∀ w', (Builtin.copy_ #[t, u] ty #[.slice (some ⟨b, o, none⟩) dl dc, xv]).run P w = .ok (goInt (min m dl : Nat)) w' → Same w w' → w'.heap.size = h.size → Upd h b e (l.take o ++ news.take (min m dl * te.size) ++ l.drop (o + min m dl * te.size)) w'.heap → oo.upon P a next Q ((execOp a.eval oo).run P w) := by
    intro w' hr hsm hsz hup
    have hrun : (execOp a.eval (mkOp (.call { callee := .builtin .copy, args := #[x, y], argTypes := #[t, u] }) ty)).run P w = .ok (.value (goInt (min m dl : Nat))) w' := by
      simp [mkOp, execOp, resolve, invoke, builtin, ha.ev hx, ha.ev hy, hr]
    rw [exec_mk, hop, hty, hrun]
    exact hn _ w' hsm (k w'.heap hsz hup)
  have zero : min m dl = 0 → oo.upon P a next Q ((execOp a.eval oo).run P w) := fun h0 => by
    obtain ⟨q, qc, rfl⟩ := hs.shape
    have hr := run_copy0 (P := P) w t u ty e (some ⟨b, o, none⟩) q dl dc m qc hu hi h0
    rw [← show min m dl = 0 from h0] at hr
    refine fin w hr (Same.refl w) (by rw [hw]) ?_
    rw [h0, Nat.zero_mul, List.take_zero, List.append_nil, Nat.add_zero, List.take_append_drop, hw]
    refine ⟨hb.lt, ?_⟩
    obtain ⟨hlt, hget⟩ := Array.getElem?_eq_some_iff.1 hb.get
    apply Array.ext
    · simp
    · intro q h1 h2
      rw [Array.getElem_setIfInBounds]
      split
      · rename_i hq; subst hq; exact hget
      · rfl
  rcases hs.ok with ⟨p, cap, rfl, h2, h3⟩ | ⟨b', o', cap, rfl, hpos, hcap, _, hc⟩
  · exact zero (by simp; omega)
  · rcases Nat.eq_zero_or_pos (min m dl) with h0 | h0
    · exact zero h0
    · have hg : w.heap[b]? = some (.cells l.toArray e (0, 0)) := hb.heap hw
      have hmin : min m dl * te.size ≤ m * te.size := Nat.mul_le_mul_right _ (Nat.min_le_left _ _)
      have hlen : (news.take (min m dl * te.size)).length = min m dl * te.size := by rw [List.length_take]; omega
      have hr := run_copyG (P := P) w t u ty e (i := i) b o dl dc ⟨b', o', none⟩ m cap l.toArray e (news.take (min m dl * te.size)) hu hi hg (by rw [hlen, hi1])
        (fun j v hv => by
          rw [List.getElem?_take] at hv
          split at hv
          · exact (hc.get j v hv).get w hw
          · cases hv) (by rw [hlen]; simpa using hfit) h1
      refine fin _ hr ⟨rfl, rfl, rfl, by first | exact Nat.le_refl _ | exact Nat.le_succ _⟩ (by simp [World.setRow_heap' hg, hw]) ⟨hb.lt, ?_⟩
      rw [World.setRow_heap' hg, hw, hlen]
theorem St.cap (G : PgOK P tt en) {ti : TI} {e len cap : Nat} {p : Option Addr} (ht : tt t = some ti) (hk : ti.kind = .slice e) (hx : ev env x = some (.slice p len cap)) (k : N ((d, .int .i64 (cap : Nat)) :: env) h) :
    St P n fp c (some d) (.call { callee := .builtin .cap, args := #[x], argTypes := #[t] }) ty env h N :=
  .ofPu (v := .int .i64 (cap : Nat)) (fun a w ha => by
    have hu := (G.ok _ _ ht).slice hk
    simp [mkOp, execOp, resolve, invoke, builtin, ha.ev hx, Builtin.cap_, run_underlying hu, goInt]) k
end
end Go.CF
namespace Go.CF
open Go
/-! ### Lists in parts -/
theorem flat_take {α : Type} {sz : Nat} : ∀ (rows : List (List α)) (a : Nat), (∀ r ∈ rows, r.length = sz) → (rows.take a).flatten = rows.flatten.take (a * sz)
  | [], a, _ => by simp
  | r :: rs, 0, _ => by simp
  | r :: rs, a + 1, h => by
    have h1 := h r (by simp)
    have h2 : (a + 1) * sz = sz + a * sz := by rw [Nat.add_mul]; omega
    rw [List.take_succ_cons, List.flatten_cons, List.flatten_cons, flat_take rs a fun q hq => h q (by simp [hq]), List.take_append, h2, List.take_of_length_le (l := r) (by omega), h1, Nat.add_sub_cancel_left]
theorem flat_drop {α : Type} {sz : Nat} : ∀ (rows : List (List α)) (a : Nat), (∀ r ∈ rows, r.length = sz) → (rows.drop a).flatten = rows.flatten.drop (a * sz)
  | [], a, _ => by simp
  | r :: rs, 0, _ => by simp
  | r :: rs, a + 1, h => by
    have h1 := h r (by simp)
    have h2 : (a + 1) * sz = sz + a * sz := by rw [Nat.add_mul]; omega
    rw [List.drop_succ_cons, List.flatten_cons, flat_drop rs a fun q hq => h q (by simp [hq]), List.drop_append, h2, List.drop_of_length_le (l := r) (by omega), h1, Nat.add_sub_cancel_left, List.nil_append]
theorem own_write {α : Type} {l X : List α} {of a k : Nat} (hx : a + X.length ≤ k) (hk : of + k ≤ l.length) : ((l.take (of + a) ++ X ++ l.drop (of + a + X.length)).drop of).take k = ((l.drop of).take k).take a ++ X ++ ((l.drop of).take k).drop (a + X.length) := by
  apply List.ext_getElem?
  intro q
  simp only [List.getElem?_append, List.getElem?_take, List.getElem?_drop, List.length_append, List.length_take, List.length_drop]
  by_cases h1 : q < k
  · by_cases h2 : q < a
    · simp [h1, h2, show of + q < of + a by omega, show of + q < l.length by omega, show min a (min k (l.length - of)) = a by omega, show min (of + a) l.length = of + a by omega, show q < a + X.length by omega]
      intros; omega
    · by_cases h3 : q < a + X.length
      · simp [h1, h2, h3, show ¬ of + q < of + a by omega, show min a (min k (l.length - of)) = a by omega, show min (of + a) l.length = of + a by omega, show of + q - (of + a) = q - a by omega]
        intros; omega
      · simp [h1, h3, show min a (min k (l.length - of)) = a by omega, show min (of + a) l.length = of + a by omega, show ¬ of + q < of + a + X.length by omega, show of + a + X.length + (of + q - (of + a + X.length)) = of + (a + X.length + (q - (a + X.length))) by omega]
        omega
  · simp [h1, show min a (min k (l.length - of)) = a by omega, show ¬ q < a + X.length by omega]
    omega
end Go.CF
namespace Go.CF
open Go
section
variable {Γ : Cx} {k : List KI} {e : EA} {o : List Res} {N : NA} {c : Cls} {d : Tmp} {ty : TypeId} {x y z : Operand} {t u : TypeId} {kk : IntKind} {i : Int}
/-! ### Capacity -/
def capV : Value → Nat
  | .slice _ _ c => c
  | _ => 0
structure Cpv (Γ : Cx) (c : Cls) (d : Tmp) (t : TypeId) (x : Operand) (ty : TypeId) (e : EA) (o : List Res) (N : NA) (a : AV) : Prop where
  h : evA e x = some a → SA Γ c (some d) (.call { callee := .builtin .cap, args := #[x], argTypes := #[t] }) ty e o N
instance : Sp (SA Γ c (some d) (.call { callee := .builtin .cap, args := #[x], argTypes := #[t] }) ty e o N) (Lk (evA e x) fun a => Cpv Γ c d t x ty e o N a) := ⟨fun ⟨_, ha, h⟩ => h.h ha⟩
instance {v : Value} : Sp (Cpv Γ c d t x ty e o N (.ow v)) (Lk (slE Γ.tt t) fun _ => TkA o v fun _ _ l _ _ => Im (l.length ≤ capV v) (N ((d, .val (.int .i64 (capV v : Nat))) :: e) o)) := ⟨fun ⟨p, hp, α, T, sz, l, f, rest, tk, hn⟩ => ⟨fun ha => ⟨fun env hh G Os cn => by
  obtain ⟨w, g1, rfl, q, len, cap, rfl⟩ := cn.get ha
  obtain ⟨O, Os', cn2⟩ := cn.take tk
  obtain ⟨⟨_, rows, hw, _⟩, _⟩ := cn2.hp.own
  obtain ⟨ti, t1, t2, _⟩ := slE_spec hp
  have hlc : l.length ≤ cap := by
    rcases hw.ok with ⟨e1, e2⟩ | ⟨b', of, cap', L, e1, _, _, e2, _⟩
    · cases e1; omega
    · cases e1; exact e2
  exact St.cap Γ.ok t1 t2 g1 (CN.mk (cn.put d (a := .val _) rfl) (hn.k hlc))⟩⟩⟩

/-! ### Rows of plain values -/
def valR (r : List Value) : List AV := r.map AV.val
theorem repT_val {h : Heap} {G : Nat → Prop} : ∀ {vs r : List Value}, RepT h G vs (valR r) → vs = r
  | [], [], _ => rfl
  | _ :: _, _ :: _, ⟨h1, h2⟩ => by
    have h1 : _ = _ := h1
    rw [h1, repT_val h2]
  | [], _ :: _, h => h.elim
  | _ :: _, [], h => h.elim
theorem repT_val' {h : Heap} {G : Nat → Prop} : ∀ r : List Value, RepT h G r (valR r)
  | [] => trivial
  | _ :: r => ⟨rfl, repT_val' r⟩
theorem rows_val {h : Heap} {G : Nat → Prop} {sz : Nat} {rows L : List (List Value)} (hr : Rows h G sz rows L valR) : rows = L := by
  apply List.ext_getElem?
  intro j
  by_cases hj : j < L.length
  · obtain ⟨r, h1⟩ := List.getElem?_eq_some_iff.2 ⟨by rw [hr.len]; exact hj, rfl⟩ |> fun h => (⟨_, h⟩ : ∃ r, rows[j]? = some r)
    obtain ⟨s, h2⟩ : ∃ s, L[j]? = some s := ⟨_, List.getElem?_eq_getElem hj⟩
    rw [h1, h2, repT_val (hr.row j r s h1 h2).t]
  · rw [List.getElem?_eq_none (by rw [hr.len]; omega), List.getElem?_eq_none (by omega)]
structure RowsV (sz : Nat) (L : List (List Value)) : Prop where
  sz : ∀ r ∈ L, r.length = sz
  one : ∀ r ∈ L, ∀ u ∈ r, u.oneCell' = true
theorem RowsV.of {h : Heap} {G : Nat → Prop} {sz : Nat} {rows L : List (List Value)} (hr : Rows h G sz rows L valR) : RowsV sz L := by
  have e := rows_val hr
  subst e
  refine ⟨hr.sz, fun r hm u hu => ?_⟩
  obtain ⟨j, hj⟩ := List.getElem?_of_mem hm
  exact (hr.row j r r hj hj).one u hu
theorem RowsV.rows {sz : Nat} {L : List (List Value)} (hv : RowsV sz L) (h : Heap) (G : Nat → Prop) : Rows h G sz L L valR :=
  ⟨rfl, fun j r s h1 h2 => by rw [h1] at h2; cases h2; exact ⟨repT_val' r, fun u hu => hv.one r (List.mem_of_getElem? h1) u hu⟩, hv.sz⟩
theorem RowsV.flen {sz : Nat} {L : List (List Value)} (hv : RowsV sz L) : L.flatten.length = L.length * sz := flat_len L hv.sz
/-- A slice of one's own of which the first elements are known. -/
def arrX (v : Value) (T : TypeId) (sz : Nat) (L : List (List Value)) (m : Nat) : Res :=
  ⟨fun h O _ => (∀ x, O x ↔ x ∈ blkOf v) ∧ RowsV sz L ∧ L.length ≤ m ∧ ∃ junk, Own h v T sz m (L.flatten ++ junk),
   fun x ⟨ho, hv, hl, junk, hb⟩ => ⟨ho, hv, hl, junk, by
      rcases hb.ok with h1 | ⟨b, of, cap, L', e, hbl, h1, h2, h3⟩
      · exact ⟨hb.len_vs, .inl h1⟩
      · exact ⟨hb.len_vs, .inr ⟨b, of, cap, L', e, ⟨(x.same b (.inl ((ho b).2 (by simp [e, blkOf]))) hbl.lt).trans hbl.get⟩, h1, h2, h3⟩⟩⟩,
   fun _ ⟨ho, hv, hl, junk, hb⟩ => ⟨ho, hv, hl, junk, hb⟩⟩
/-- .. a value of which is this. -/
def AV.ox (v : Value) : AV := ⟨fun _ _ u => u = v ∧ ∃ p len cap, v = .slice p len cap, fun _ h => h, fun _ h => h⟩
theorem CA.toX {y : Code} (q : Tmp) {v : Value} {T sz : Nat} {L : List (List Value)} {rest : List Res} (ht : lookA e q = some (.ow v)) (tk : Take o (arrR v T sz L valR) rest) (h : L.length ≤ capV v → CA Γ k y ((q, .ox v) :: e) (arrX v T sz L L.length :: rest)) : CA Γ k y e o := by
  refine ⟨fun env hh G Os cn => ?_⟩
  obtain ⟨O, Os', cn2⟩ := cn.take tk
  obtain ⟨⟨ho, rows, hw, hr⟩, hrest⟩ := cn2.hp.own
  have hv := RowsV.of hr
  have e1 := rows_val hr
  subst e1
  have c3 : Con Γ ⟨e, arrX v T sz rows rows.length :: rest⟩ env hh G (O :: Os') := ⟨cn2.hp.perm ⟨⟨ho, hv, Nat.le_refl _, [], by rw [List.append_nil]; exact hw⟩, hrest⟩ (List.Perm.refl _), cn2.env, cn2.nf⟩
  have hcap : rows.length ≤ capV v := by
    rcases hw.ok with ⟨e1, e2⟩ | ⟨b', of, cap', L, e1, _, _, e2, _⟩
    · rw [e2]; exact Nat.zero_le _
    · rw [e1]; exact e2
  exact (h hcap).h env hh G (O :: Os') (con_re (σ := ⟨e, arrX v T sz rows rows.length :: rest⟩) c3 q (fun w hw' => by
    obtain ⟨w', g1, g2⟩ := cn.env q _ ht
    rw [hw'] at g1; cases g1; exact g2) ht)
structure TkX (o : List Res) (v : Value) (k : TypeId → Nat → List (List Value) → Nat → List Res → Prop) : Prop where
  ok : ∃ T sz L m rest, Take o (arrX v T sz L m) rest ∧ k T sz L m rest
theorem TkX.r {o rest : List Res} {v : Value} {k : TypeId → Nat → List (List Value) → Nat → List Res → Prop} {T : TypeId} {sz m : Nat} {L : List (List Value)} (h : Take o (arrX v T sz L m) rest) (hk : k T sz L m rest) : TkX o v k := ⟨T, sz, L, m, rest, h, hk⟩
instance {q : Operand} {v : Value} : Sp (Slp Γ c d t x (some q) none ty e o N (.ox v)) (Lk (slE Γ.tt t) fun p => TkX o v fun _ sz _ m _ => Rf (p.2.size = sz) (Lk (evA e q) fun a => Nb a fun i => Jx i m fun j => N ((d, .os v sz j (m - j)) :: e) o)) := ⟨fun ⟨p, hp, T, sz, L, m, rest, tk, hz, a, ha2, kk, i, hk, j, hij, hjm, hn⟩ => ⟨fun ha => ⟨fun env hh G Os cn => by
  obtain ⟨w, g1, rfl, q', len, cap, rfl⟩ := cn.get ha
  obtain ⟨O, Os', cn2⟩ := cn.take tk
  obtain ⟨⟨_, _, _, junk, hw⟩, _⟩ := cn2.hp.own
  have hlc : len = m ∧ m ≤ cap := by
    rcases hw.ok with ⟨e1, e2⟩ | ⟨b', of, cap', L', e1, _, _, e2, _⟩
    · cases e1; omega
    · cases e1; exact ⟨rfl, e2⟩
  obtain ⟨rfl, hlc⟩ := hlc
  exact slice_at (lo := some q) (hi := none) cn hp g1 hjm (Nat.le_refl _) hlc ⟨kk, i, hk ▸ ha2, hij⟩ rfl (CN.mk (cn.put d (a := .os _ sz j (len - j)) ⟨q', _, cap, rfl, by omega, by rw [hz]⟩) hn) (.inl (by simp))⟩⟩⟩
/-- The value of a slice cut at its end. -/
def reV : Value → Nat → Value
  | .slice p _ c, m => .slice (subA p 0 0 c) m c
  | v, _ => v
/-- A cut at the end: within what is known, or beyond it. -/
structure ExX (i : Int) (L m : Nat) (cp : Nat) (A X : Nat → Prop) : Prop where
  ok : ∃ j : Nat, i = (j : Int) ∧ j ≤ cp ∧ ((j ≤ L ∧ A j) ∨ (L ≤ j ∧ X j))
theorem ExX.short {i : Int} {L m cp : Nat} {A X : Nat → Prop} {j : Nat} (h : i = (j : Int)) (h1 : j ≤ cp) (h2 : j ≤ L) (hk : A j) : ExX i L m cp A X := ⟨j, h, h1, .inl ⟨h2, hk⟩⟩
theorem ExX.long {i : Int} {L m cp : Nat} {A X : Nat → Prop} {j : Nat} (h : i = (j : Int)) (h1 : j ≤ cp) (h2 : L ≤ j) (hk : X j) : ExX i L m cp A X := ⟨j, h, h1, .inr ⟨h2, hk⟩⟩
theorem subA_zero {p : Option Addr} {sz cap : Nat} (hp : ∀ a, p = some a → a.spot = none) : subA p sz 0 cap = p := by
  unfold subA
  split
  · rfl
  · cases p with
    | none => rfl
    | some a =>
      have := hp a rfl
      obtain ⟨b, of, sp⟩ := a
      simp only at this
      subst this
      simp [addr_add]
theorem own_short {h : Heap} {p : Option Addr} {len cap T sz m : Nat} {R : List Value} (hw : Own h (.slice p len cap) T sz len R) (hm : m ≤ len) : Own h (.slice p m cap) T sz m (R.take (m * sz)) := by
  have hl := hw.len_vs
  have hms : m * sz ≤ len * sz := Nat.mul_le_mul_right _ hm
  refine ⟨by rw [List.length_take]; omega, ?_⟩
  rcases hw.ok with ⟨e1, e2⟩ | ⟨b, of, cap', l, e1, hb, h1, h2, h3⟩
  · cases e1
    exact .inl ⟨by rw [show m = 0 by omega], by omega⟩
  · cases e1
    exact .inr ⟨b, of, cap, l, rfl, hb, h1, by omega, by rw [← h3, List.take_take, Nat.min_eq_left hms]⟩
theorem own_long {h : Heap} {p : Option Addr} {len cap T sz m : Nat} {R : List Value} (hw : Own h (.slice p len cap) T sz len R) (hm : len ≤ m) (hc : m ≤ cap) : ∃ junk, Own h (.slice p m cap) T sz m (R ++ junk) := by
  have hl := hw.len_vs
  have hms : len * sz ≤ m * sz := Nat.mul_le_mul_right _ hm
  rcases hw.ok with ⟨e1, e2⟩ | ⟨b, of, cap', l, e1, hb, h1, h2, h3⟩
  · cases e1
    obtain rfl : m = 0 := by omega
    exact ⟨[], by simpa using hw⟩
  · cases e1
    have hmc : m * sz ≤ cap * sz := Nat.mul_le_mul_right _ hc
    refine ⟨(l.drop (of + len * sz)).take (m * sz - len * sz), ?_, .inr ⟨b, of, cap, l, rfl, hb, h1, hc, ?_⟩⟩
    · rw [List.length_append, hl, List.length_take, List.length_drop]; omega
    · rw [← h3, ← List.drop_drop, show m * sz = len * sz + (m * sz - len * sz) by omega, List.take_add]
      simp
theorem own_spot {h : Heap} {p : Option Addr} {len cap T sz m : Nat} {R : List Value} (hw : Own h (.slice p len cap) T sz m R) : ∀ a, p = some a → a.spot = none := by
  intro a ha
  rcases hw.ok with ⟨e1, e2⟩ | ⟨b, of, cap', l, e1, _⟩
  · cases e1; cases ha
  · cases e1; cases ha; rfl
instance {q : Operand} {v : Value} : Sp (Slp Γ c d t x none (some q) ty e o N (.ox v)) (Lk (slE Γ.tt t) fun p => TkX o v fun T sz L m rest => Rf (p.2.size = sz) (Lk (evA e q) fun a => Nb a fun i =>
    ExX i L.length m (capV v) (fun j => N ((d, .ow (reV v j)) :: e) (arrR (reV v j) T sz (L.take j) valR :: rest)) (fun j => N ((d, .ox (reV v j)) :: e) (arrX (reV v j) T sz L j :: rest)))) := ⟨fun ⟨p, hp, T, sz, L, m, rest, tk, hz, a, ha2, kk, i, hk, j, hij, hjc, hn⟩ => ⟨fun ha => ⟨fun env hh G Os cn => by
  obtain ⟨w, g1, rfl, q', len, cap, rfl⟩ := cn.get ha
  obtain ⟨O, Os', cn2⟩ := cn.take tk
  obtain ⟨⟨ho, hv, hLm, junk, hw⟩, hrest⟩ := cn2.hp.own
  obtain ⟨ti, t1, t2, t3⟩ := slE_spec hp
  have hlc : len = m := by
    rcases hw.ok with ⟨e1, e2⟩ | ⟨b', of, cap', L', e1, _, _, e2, _⟩
    · cases e1; omega
    · cases e1; rfl
  subst hlc
  have hsp := own_spot hw
  have hre : subA q' 0 0 cap = q' := subA_zero hsp
  have hre2 : subA q' p.2.size 0 cap = q' := subA_zero hsp
  have hq : evA e q = some (.val (.int kk i)) := hk ▸ ha2
  obtain ⟨vq, hq1, hq2⟩ := cn.get hq
  have hq2 : vq = _ := hq2
  subst hq2
  have hblk : ∀ b, b ∈ blkOf (Value.slice q' j cap) ↔ b ∈ blkOf (Value.slice q' len cap) := by intro b; cases q' <;> simp [blkOf]
  have hev : reV (.slice q' len cap) j = .slice q' j cap := by simp only [reV, hre]
  rw [hev] at hn
  refine St.sliceH Γ.ok t1 t2 t3 g1 hq1 hij hjc ?_
  rw [hre2]
  rcases hn with ⟨hjL, hn⟩ | ⟨hjL, hn⟩
  · have hsh := own_short hw (show j ≤ len by omega)
    have hfl := hv.flen
    have hjs : j * sz ≤ L.length * sz := Nat.mul_le_mul_right _ hjL
    have he : (L.flatten ++ junk).take (j * sz) = (L.take j).flatten := by
      rw [flat_take L j hv.sz, List.take_append_of_le_length (by omega)]
    rw [he] at hsh
    have hvt : RowsV sz (L.take j) := ⟨fun r hr => hv.sz r (List.mem_of_mem_take hr), fun r hr => hv.one r (List.mem_of_mem_take hr)⟩
    have c3 : Con Γ ⟨e, arrR (.slice q' j cap) T sz (L.take j) valR :: rest⟩ env hh G (O :: Os') := ⟨cn2.hp.perm ⟨⟨fun b => (ho b).trans (hblk b).symm, L.take j, by rw [List.length_take, Nat.min_eq_left hjL]; exact hsh, hvt.rows hh G⟩, hrest⟩ (List.Perm.refl _), cn2.env, cn2.nf⟩
    exact CN.mk (c3.put d (a := .ow _) ⟨rfl, _, _, _, rfl⟩) hn
  · by_cases hjl : j ≤ len
    · have hsh := own_short hw hjl
      have hfl := hv.flen
      have hjs : L.length * sz ≤ j * sz := Nat.mul_le_mul_right _ hjL
      rw [List.take_append, List.take_of_length_le (by omega)] at hsh
      have c3 : Con Γ ⟨e, arrX (.slice q' j cap) T sz L j :: rest⟩ env hh G (O :: Os') := ⟨cn2.hp.perm ⟨⟨fun b => (ho b).trans (hblk b).symm, hv, hjL, _, hsh⟩, hrest⟩ (List.Perm.refl _), cn2.env, cn2.nf⟩
      exact CN.mk (c3.put d (a := .ox _) ⟨rfl, _, _, _, rfl⟩) hn
    · obtain ⟨jk, hlg⟩ := own_long hw (show len ≤ j by omega) hjc
      have c3 : Con Γ ⟨e, arrX (.slice q' j cap) T sz L j :: rest⟩ env hh G (O :: Os') := ⟨cn2.hp.perm ⟨⟨fun b => (ho b).trans (hblk b).symm, hv, hjL, junk ++ jk, by rw [← List.append_assoc]; exact hlg⟩, hrest⟩ (List.Perm.refl _), cn2.env, cn2.nf⟩
      exact CN.mk (c3.put d (a := .ox _) ⟨rfl, _, _, _, rfl⟩) hn⟩⟩⟩
end
end Go.CF
namespace Go.CF
open Go
section
variable {P : Program} {tt : Nat → Option TI} {en : Nat → Bool} {n : Nat} {ty t u : TypeId} {env : Env} {h : Heap} {x y : Operand}
theorem ld_copy0 (G : PgOK P tt en) {ti te : TI} {e dl dc m : Nat} {p : Option Addr} {news : List Value} {xv : Value} {K : Value → Heap → Prop} (ht : tt t = some ti) (hk : ti.kind = .slice e) (hte : tt e = some te)
    (hx : ev env x = some (.slice p dl dc)) (hy : ev env y = some xv) (hs : Sl h xv m news) (hm : min m dl = 0) (k : K (.int .i64 (0 : Nat)) h) : Ld P n (.call { callee := .builtin .copy, args := #[x, y], argTypes := #[t, u] }) ty env h K := by
  intro a w oo next Q ha hw hop hty hn
  obtain ⟨i, dd, hi, hd, hi1, hi2, hi3, _⟩ := (G.ok _ _ hte).ok
  have hu := (G.ok _ _ ht).slice hk
  obtain ⟨q, qc, rfl⟩ := hs.shape
  have hr := run_copy0 (P := P) w t u ty e p q dl dc m qc hu hi hm
  have hrun : (execOp a.eval (mkOp (.call { callee := .builtin .copy, args := #[x, y], argTypes := #[t, u] }) ty)).run P w = .ok (.value (goInt (0 : Nat))) w := by
    simp [mkOp, execOp, resolve, invoke, builtin, ha.ev hx, ha.ev hy, hr]
  unfold Oper.wp
  rw [exec_mk, hop, hty, hrun]
  exact hn _ w (Same.refl w) (hw ▸ k)
end
section
variable {Γ : Cx} {k : List KI} {e : EA} {o : List Res} {N : NA} {c : Cls} {d : Tmp} {ty : TypeId} {x y z : Operand} {t u : TypeId} {kk : IntKind} {i : Int}
structure Cpy (Γ : Cx) (c : Cls) (d : Tmp) (t u : TypeId) (x y : Operand) (ty : TypeId) (e : EA) (o : List Res) (N : NA) (a b : AV) : Prop where
  h : evA e x = some a → evA e y = some b → isLoud c = true → SA Γ c (some d) (.call { callee := .builtin .copy, args := #[x, y], argTypes := #[t, u] }) ty e o N
instance : Sp (SA Γ c (some d) (.call { callee := .builtin .copy, args := #[x, y], argTypes := #[t, u] }) ty e o N) (Rf (isLoud c = true) (Lk (evA e x) fun a => Lk (evA e y) fun b => Cpy Γ c d t u x y ty e o N a b)) := ⟨fun ⟨hc, _, ha, _, hb, h⟩ => h.h ha hb hc⟩
theorem own_seg {h h' : Heap} {b of cap len T sz : Nat} {l X : List Value} {R : List Value} {j cnt : Nat} (hw : Own h (.slice (some ⟨b, of, none⟩) len cap) T sz len R) (hX : X.length = cnt * sz) (hj : j + cnt ≤ len)
    (hu : Upd h b T (l.take (of + j * sz) ++ X ++ l.drop (of + j * sz + cnt * sz)) h') (hfit : of + cap * sz ≤ l.length) (hlc : len ≤ cap) (hR : (l.drop of).take (len * sz) = R) : Own h' (.slice (some ⟨b, of, none⟩) len cap) T sz len (R.take (j * sz) ++ X ++ R.drop (j * sz + cnt * sz)) := by
  have hjs : j * sz + cnt * sz ≤ len * sz := by rw [← Nat.add_mul]; exact Nat.mul_le_mul_right _ hj
  have hls : len * sz ≤ cap * sz := Nat.mul_le_mul_right _ hlc
  have hl := hw.len_vs
  refine ⟨by simp only [List.length_append, List.length_take, List.length_drop]; omega, .inr ⟨b, of, cap, _, rfl, hu.blk, ?_, hlc, ?_⟩⟩
  · simp only [List.length_append, List.length_take, List.length_drop]; omega
  · rw [← hX, own_write (by rw [hX]; exact hjs) (by omega), hR]
theorem Upd.fpx {h h' : Heap} {b : Nat} {T : TypeId} {l : List Value} (hu : Upd h b T l h') {O : Nat → Prop} (ho : O b) : FPx (fun y => ¬ O y) h h' :=
  ⟨hu.stp.size, fun y hy hl => hu.stp.same y hl (fun hm => hy (by rw [List.mem_singleton.1 hm]; exact ho))⟩
theorem con_seg {h' : Heap} {hh : Heap} {env : Env} {G : Nat → Prop} {R R' : Res} {rest : List Res} {O : Nat → Prop} {Os : List (Nat → Prop)} {b : Nat} {T : TypeId} {l : List Value} (cn : Con Γ ⟨e, R :: rest⟩ env hh G (O :: Os)) (hu : Upd hh b T l h') (ho : O b) (hr : FPx G hh h' → R'.R h' O G) : Con Γ ⟨e, R' :: rest⟩ env h' G (O :: Os) := by
  have hx := hu.fpx ho
  have hg : FPx G hh h' := hx.mono fun y hy hoy => (cn.hp.o O (by simp) y hoy).2.2 hy
  exact cn.upd (R' := R') (O' := O) hx (fun y hy => ⟨Nat.lt_of_lt_of_le (cn.hp.o O (by simp) y hy).1 hu.stp.size, .inl hy⟩) (hr hg)
instance {v : Value} {s j m : Nat} {b : AV} : Sp (Cpy Γ c d t u x y ty e o N (.os v s j m) b) (Lk (slE Γ.tt t) fun p => Src o b p.2.size fun q g => TkA o v fun T sz l f rest => Rf (T = p.1 ∧ sz = p.2.size ∧ s = sz) (Mp q g f fun q' =>
    N ((d, .val (.int .i64 (min q'.length m : Nat))) :: e) (arrR v T sz (l.take j ++ q'.take (min q'.length m) ++ l.drop (j + min q'.length m)) f :: rest))) := ⟨fun ⟨p, hp, β, q, g, ⟨α, T, sz, l, f, rest, tk, ⟨hT, hz, hs⟩, q', hq', hn⟩, hsrc⟩ => ⟨fun ha hb hc => ⟨fun env hh G Os cn => by
  obtain ⟨w, g1, p0, len, cap, rfl, hjm, rfl⟩ := cn.get ha
  obtain ⟨w2, g2, r2⟩ := cn.get hb
  obtain ⟨srows, hsl, hsr⟩ := hsrc cn.hp r2
  have hql : q'.length = q.length := by have := congrArg List.length hq'; simpa using this
  have hsr' := hsr.map hq'
  subst hs; subst hT; subst hz
  obtain ⟨ti, t1, t2, t3⟩ := slE_spec hp
  obtain ⟨O, Os', cn2⟩ := cn.take tk
  obtain ⟨⟨ho, rows, hw, hr⟩, hrest⟩ := cn2.hp.own
  by_cases h0 : min q'.length m = 0
  · refine .ofLd hc (ld_copy0 Γ.ok t1 t2 t3 g1 g2 hsl (by rw [← hql]; exact h0) ?_)
    rw [h0, List.take_zero, List.append_nil, Nat.add_zero, List.take_append_drop] at hn
    exact CN.mk (cn2.put d (a := .val (.int .i64 (0 : Nat))) rfl) hn
  · rcases hw.ok with ⟨e1, e2⟩ | ⟨b, of, cap', L, e1, hbk, h1, h2, h3⟩
    · cases e1; omega
    · cases e1
      have hsub : subA (some ⟨b, of, none⟩) p.2.size j cap = some ⟨b, of + j * p.2.size, none⟩ := by
        unfold subA; rw [if_neg (by omega)]; simp [addr_add]
      rw [hsub] at g1
      have hlen := hw.len_vs
      have hssz := hsr.sz
      have hsfl : srows.flatten.length = q.length * p.2.size := by rw [hsr.flen]
      have hmin : min q'.length m * p.2.size ≤ q.length * p.2.size := Nat.mul_le_mul_right _ (by omega)
      have hjs : j * p.2.size + min q'.length m * p.2.size ≤ l.length * p.2.size := by rw [← Nat.add_mul]; exact Nat.mul_le_mul_right _ (by omega)
      have hls : l.length * p.2.size ≤ cap * p.2.size := Nat.mul_le_mul_right _ h2
      refine .ofLd hc (ld_copy Γ.ok t1 t2 t3 g1 g2 hbk hsl hsfl (fun v hv => hsr.one v (List.mem_of_mem_take hv)) (by rw [← hql]; omega) fun h' hsz hu => ?_)
      rw [← hql] at hu ⊢
      have hob : O b := (ho b).2 (by simp [blkOf])
      have hX : (srows.flatten.take (min q'.length m * p.2.size)).length = min q'.length m * p.2.size := by rw [List.length_take]; omega
      have hown := own_seg (j := j) hw hX (by omega) hu h1 h2 h3
      have hlen2 : (l.take j ++ q'.take (min q'.length m) ++ l.drop (j + min q'.length m)).length = l.length := by simp; omega
      have hfl : (rows.take j ++ srows.take (min q'.length m) ++ rows.drop (j + min q'.length m)).flatten = rows.flatten.take (j * p.2.size) ++ srows.flatten.take (min q'.length m * p.2.size) ++ rows.flatten.drop (j * p.2.size + min q'.length m * p.2.size) := by
        rw [List.flatten_append, List.flatten_append, flat_take rows j hr.sz, flat_take srows _ hssz, flat_drop rows _ hr.sz, Nat.add_mul]
      have c3 := con_seg (R' := arrR (.slice (some ⟨b, of, none⟩) l.length cap) p.1 p.2.size (l.take j ++ q'.take (min q'.length m) ++ l.drop (j + min q'.length m)) f) cn2 hu hob (fun hg => ⟨ho, rows.take j ++ srows.take (min q'.length m) ++ rows.drop (j + min q'.length m), by rw [hlen2, hfl]; exact hown, (((hr.take j).app (hsr'.take _)).app (hr.drop _)).stp hg⟩)
      exact CN.mk (c3.put d (a := .val _) rfl) hn⟩⟩⟩
end
end Go.CF
