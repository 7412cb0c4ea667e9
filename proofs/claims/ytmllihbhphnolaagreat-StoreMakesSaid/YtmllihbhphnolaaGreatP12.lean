/- Part 12 of the ground of this proof: what its texts say of the model, the program and the plain data; conditions: those that are named. -/
import Derived.Test.YtmllihbhphnolaaGreatP11
namespace Go.Proofs.YtmllihbhphnolaaGreat
open Go Go.CF
set_option maxRecDepth 20000
/-! ### The model -/
def tC : TblS := ⟨⟨#[99]⟩, 1, [], 0, 9, 0⟩
def cntM : ModS := ⟨[], [tC], [⟨#[99]⟩], [⟨0, 0, ⟨[(0, -1)], 0⟩, 0, 0⟩, ⟨0, 0, ⟨[(0, 1)], 9⟩, 0, 0⟩], [⟨⟨#[111]⟩, false, []⟩, ⟨⟨#[112]⟩, false, []⟩], [⟨0, [], ⟨[(0, 2)], [], []⟩⟩, ⟨1, [], ⟨[(0, -1)], [], []⟩⟩], []⟩
theorem cnt_a : CallA Tryz.prog 78 [] [] fun r own => ∃ vt vf t1 t2 vc vo d1 d2 va, r = .agg [nl0, .ow vt, .ow vf, .ow vc, .ow vo, .ow va, nl0] ∧ own = [
    arrR va 151 5 [[it 0, nl0, .ow d1, nl0, nl0], [it 1, nl0, .ow d2, nl0, nl0]] id,
    arrR d2 160 2 [[it 0, it (-1)]] id,
    arrR d1 160 2 [[it 0, it 2]] id,
    arrR vo 227 3 [[sv ⟨#[111]⟩, bl false, nl0], [sv ⟨#[112]⟩, bl false, nl0]] id,
    arrR vc 225 6 [[it 0, it 0, .ow t1, it 0, it 0, it 0], [it 0, it 0, .ow t2, it 9, it 0, it 0]] id,
    arrR t2 220 2 [[it 0, it 1]] id,
    arrR t1 220 2 [[it 0, it (-1)]] id,
    arrR vf 9 1 [[sv ⟨#[99]⟩]] id,
    arrR vt 157 6 [[sv ⟨#[99]⟩, it 1, nl0, it 0, it 9, it 0]] id] := by
  refine CallA.of pg ord78 Tryz.func78 rfl Tryz.ntmps78 Tryz.results78 rfl fun h0 G0 O0 => ?_
  repeat' (first | refine Sp.h ?_ | refine Lk.r rfl ?_ | refine Rf.mk rfl ?_ | (refine All.mk ?_; intro _) | (apply TkB.r; (focus (repeat (first | exact Take.here | apply Take.there)))) | (apply SetAsk.r; (focus (repeat (first | exact SetAs.z | (apply SetAs.c; (focus (repeat (first | assumption | exact SetA.z | apply SetA.s)))))))) | (apply Fk.r; (focus (repeat (first | exact FillA.nil | (apply FillA.agg; (focus rfl); (focus rfl); (focus (repeat (first | exact SetAs.z | (apply SetAs.c; (focus (repeat (first | assumption | exact SetA.z | apply SetA.s)))))))) | (apply FillA.one; (focus rfl); (focus infer_instance); (focus (repeat (first | assumption | exact SetA.z | apply SetA.s)))))))) | (apply Nm.r; (focus repeat (first | apply LN.cons | exact LN.nil))) | refine Rf.mk ⟨rfl, rfl, rfl⟩ ?_ | fail)
  exact ⟨_, _, .one (.same (.nil (by (repeat (first | exact Subl.nil | refine Subl.cons (by (repeat (first | exact Take.here | apply Take.there))) ?_))))), _, _, _, _, _, _, _, _, _, rfl, rfl⟩
theorem cnt_p : CallP Tryz.prog 78 [] (mdl cntM) := by
  refine CallA.fx cnt_a ?_
  rintro _ _ ⟨vt, vf, t1, t2, vc, vo, d1, d2, va, rfl, rfl⟩
  repeat' (first
    | exact FX.nil
    | (apply FX.sl; (focus (repeat (first | exact Take.here | apply Take.there))); (focus exact Nat.le_of_ble_eq_true rfl))
    | apply FX.agg
    | (apply FX.le; (focus first | exact ALe.nil | exact ALe.refl _)))
theorem cnt_mrg : mrgF cntM = [] := by simp [mrgF, mrgL, cntM, isStrict, tC]
theorem cnt_str : strF cntM = 1 := by simp [strF, strN, cntM, isStrict, szF, prodF, tC]
theorem cnt_lay : LayOK cntM.sorts cntM.tables := by
  refine ⟨by simp [cntM], fun x hx => by simp [cntM] at hx, by simp [cntM], fun t ht => ?_⟩
  simp only [cntM, List.mem_cons, List.not_mem_nil, or_false] at ht
  subst ht
  simp [TabOK, ColOK, Sound, cntM, tC]
theorem cnt_ok : MOK cntM := by
  refine ⟨cnt_lay, by simp [cntM], by simp [cntM], fun a ha => ?_, by rw [cnt_str]; decide, by rw [cnt_mrg]; decide⟩
  simp only [cntM, List.mem_cons, List.not_mem_nil, or_false] at ha
  rcases ha with rfl | rfl
  all_goals
    refine ⟨by simp, by simp, by simp, fun p hp => ?_, fun p hp => by simp at hp⟩
    simp only [List.mem_cons, List.not_mem_nil, or_false] at hp
    subst hp
    rw [cnt_str]; decide
/-! ### Two events -/
def ca : EvS := ⟨0, 1, 1, [0, 0], 0, 0, 0, 0, 0, 0, 0, 0, 1⟩
def cb : EvS := ⟨1, 1, 1, [0, 0], 0, 1, 0, 0, 0, 0, 0, 0, 1⟩
theorem val2 (a b : Int) (ha : 0 ≤ a ∧ a ≤ 1024) (hb : 0 ≤ b ∧ b ≤ 1024) : ValC [a, b] := ⟨fun x hx => by
  simp only [List.mem_cons, List.not_mem_nil, or_false] at hx
  unfold rngK
  omega, by simp, by simp⟩
theorem ca_f : FormedE ca := ⟨val2 0 0 (by decide) (by decide), by decide, ⟨0, rfl, rfl⟩, by decide, by unfold Btw ca; decide, .inl ⟨rfl, by unfold Sub0 Btw ca; decide, by unfold GiveZ ca; decide⟩⟩
theorem cb_f : FormedE cb := ⟨val2 0 0 (by decide) (by decide), by decide, ⟨0, rfl, rfl⟩, by decide, by unfold Btw cb; decide, .inl ⟨rfl, by unfold Sub0 Btw cb; decide, by unfold GiveZ cb; decide⟩⟩
theorem cab_suit : SuitS cntM [3] [ca, cb] := by
  have hc : ClosedE [ca, cb] := by
    refine ⟨by simp, fun i j a b hi hj hab => ?_, fun e he => ?_, fun e he r n hr i h1 h2 => ?_⟩
    · match i, j with
      | 0, 0 => rfl
      | 1, 1 => rfl
      | 0, 1 => simp at hi hj; subst hi; subst hj; simp [nm, ca, cb] at hab
      | 1, 0 => simp at hi hj; subst hi; subst hj; simp [nm, ca, cb] at hab
      | i + 2, _ => simp at hi
      | 0, j + 2 => simp at hj
      | 1, j + 2 => simp at hj
    · simp only [List.mem_cons, List.not_mem_nil, or_false] at he
      rcases he with rfl | rfl
      · exact ⟨ca_f, rfl⟩
      · exact ⟨cb_f, rfl⟩
    · exfalso
      simp only [List.mem_cons, List.not_mem_nil, or_false] at he
      have hn : n = 0 := by
        rcases he with rfl | rfl
        all_goals
          have := List.mem_of_getElem? hr
          simp [ca, cb] at this
          exact this
      omega
  refine ⟨⟨cnt_ok, ⟨by simp, fun e he => ?_⟩, hc, fun a ha u hu i t _ ht => ?_, fun e he => ?_⟩, by simp, by rw [cnt_str]; rfl, by simp, fun a ha p hp => ?_⟩
  · simp only [List.mem_cons, List.not_mem_nil, or_false] at he
    rcases he with rfl | rfl <;> simp [ca, cb]
  · rw [cnt_mrg] at ht; simp at ht
  · simp only [List.mem_cons, List.not_mem_nil, or_false] at he
    rcases he with rfl | rfl
    · exact ⟨ca_f, rfl, fun _ => by decide⟩
    · exact ⟨cb_f, rfl, fun _ => by decide⟩
  · simp only [cntM, List.mem_cons, List.not_mem_nil, or_false] at ha
    rcases ha with rfl | rfl <;> (simp at hp; subst hp; decide)
theorem cab_ext : ExtO [ca, cb] [ca, cb] := by
  have hno : ∀ e, e = ca ∨ e = cb → ∀ d : EvS, ¬ HasC e.past d.rep d.num := fun e he d ⟨_, _, h1, x, hx, h2⟩ => by
    have h3 : e.past = [0, 0] := by rcases he with rfl | rfl <;> rfl
    rw [h3] at hx
    have := List.mem_of_getElem? hx
    simp at this
    omega
  refine ⟨fun e he => he, fun i e he => ⟨?_, fun d hd hh => absurd hh (hno e (by have := List.mem_of_getElem? he; simpa using this) d)⟩⟩
  match i with
  | 0 => simp
  | 1 => simp at he; subst he; simp [ca, cb]
  | i + 2 => simp at he
theorem cab_1 : deliverF cntM [] (stN cntM 2 [3] []) ca = (0, stN cntM 2 [3] [ca]) := (fill_sto cab_suit (by simp) cab_ext 0 (by simp)).2 ca rfl
theorem cab_2 : deliverF cntM [ca] (stN cntM 2 [3] [ca]) cb = (0, stN cntM 2 [3] [ca, cb]) := (fill_sto cab_suit (by simp) cab_ext 1 (by simp)).2 cb rfl
theorem st_cab : (stN cntM 2 [3] [ca, cb]).clock = [1, 1] ∧ (stN cntM 2 [3] [ca, cb]).state = [4] := by
  exact ⟨rfl, rfl⟩
theorem has_2 (x y : Int) (hx : 0 ≤ x ∧ x ≤ 1024) (hy : 0 ≤ y ∧ y ≤ 1024) : (HasC [x, y] 0 1 ↔ 1 ≤ x) ∧ (HasC [x, y] 1 1 ↔ 1 ≤ y) :=
  ⟨⟨fun ⟨_, _, _, z, h1, h2⟩ => by simp at h1; omega, fun h => ⟨val2 x y hx hy, by decide, by decide, x, rfl, h⟩⟩, ⟨fun ⟨_, _, _, z, h1, h2⟩ => by simp at h1; omega, fun h => ⟨val2 x y hx hy, by decide, by decide, y, rfl, h⟩⟩⟩
theorem ins_2 {a b c d : Int} (h1 : a ≤ c) (h2 : b ≤ d) : Ins [a, b] [c, d] := fun i x y hx hy => by
  match i with
  | 0 => simp at hx hy; omega
  | 1 => simp at hx hy; omega
  | i + 2 => simp at hx
theorem cab_3 : ∃ B N, compactF cntM ⟨stN cntM 2 [3] [], [ca, cb], stN cntM 2 [3] [ca, cb]⟩ [1, 0] = (0, ⟨B, [cb], N⟩) ∧ B.state = [5] ∧ SzN B ∧ N.clock = [1, 1] := by
  have hb : (stN cntM 2 [3] []).clock = [0, 0] := rfl
  obtain ⟨h1, h2⟩ := has_2 1 0 (by decide) (by decide)
  have e1 : inL [1, 0] [ca, cb] = [ca] := by
    have a1 : HasC [1, 0] ca.rep ca.num := h1.2 (by decide)
    have a2 : ¬ HasC [1, 0] cb.rep cb.num := fun h => absurd (h2.1 h) (by decide)
    simp [inL, a1, a2]
  have e2 : outL [1, 0] [ca, cb] = [cb] := by
    have a1 : HasC [1, 0] ca.rep ca.num := h1.2 (by decide)
    have a2 : ¬ HasC [1, 0] cb.rep cb.num := fun h => absurd (h2.1 h) (by decide)
    simp [outL, a1, a2]
  refine ⟨cmpB cntM (stN cntM 2 [3] []) [1, 0] [ca, cb], { stN cntM 2 [3] [ca, cb] with merged := [cb].foldl (mrg1 cntM) (cmpB cntM (stN cntM 2 [3] []) [1, 0] [ca, cb]).merged }, ?_, ?_, ?_, st_cab.1⟩
  · have q1 : ValC [1, 0] ∧ ([1, 0] : List Int).length = (stN cntM 2 [3] [ca, cb]).clock.length := ⟨val2 1 0 (by decide) (by decide), rfl⟩
    have q2 : Ins (stN cntM 2 [3] []).clock [1, 0] ∧ Ins [1, 0] (stN cntM 2 [3] [ca, cb]).clock ∧ ∀ e ∈ [ca, cb], HasC [1, 0] e.rep e.num → Ins e.past [1, 0] := by
      refine ⟨by rw [hb]; exact ins_2 (by decide) (by decide), by rw [st_cab.1]; exact ins_2 (by decide) (by decide), fun e he _ => ?_⟩
      simp only [List.mem_cons, List.not_mem_nil, or_false] at he
      rcases he with rfl | rfl <;> exact ins_2 (by decide) (by decide)
    refine (@if_neg _ (Classical.propDecidable _) (fun h9 => h9 q1) _ _ _).trans ((@if_neg _ (Classical.propDecidable _) (fun h9 => h9 q2) _ _ _).trans ?_)
    simp only [e2]
  · rw [cmpB, e1]; rfl
  · rw [cmpB, e1]
    have hsz : SzM (mrg1 cntM (stN cntM 2 [3] []).merged ca) := mrg1_sz (by
      simp only [stN, List.foldl_nil, cnt_mrg]
      exact ⟨by simp, by simp⟩)
    exact ⟨by simp, by simp only [List.foldl_cons, List.foldl_nil, cmp1, addE_len]; simp [stN], hsz.1, hsz.2, by simp only [List.foldl_cons, List.foldl_nil, cmp1]; simp [stN, plE, ca]⟩
theorem cmk : makeF cntM (stN cntM 2 [3] []) 0 { ev0 with serial := 1 } = (0, ca) := by
  have hm : mkN (stN cntM 2 [3] []) 0 { ev0 with serial := 1 } = ca := rfl
  rw [makeF, if_neg (by show ¬ ((0:Int) < 0 ∨ (2:Int) ≤ 0); decide), if_neg (by show ¬ ((1024:Int) ≤ 0 ∨ (1073741824 : Int) ≤ 0); decide), hm, if_neg (fun h => h ⟨ca_f, rfl, fun _ => by decide⟩)]
end Go.Proofs.YtmllihbhphnolaaGreat
namespace Go.Proofs.YtmllihbhphnolaaGreat
open Go Go.CF
set_option maxRecDepth 20000
set_option maxHeartbeats 2000000 in
theorem equal32_p (a b : EvS) : CallP Tryz.prog 113 [evA' a, evA' b] (.val (.bool (decide (a = b)))) := by
  refine CallA.of pg ord113 Tryz.func113 rfl Tryz.ntmps113 Tryz.results113 rfl fun h0 G0 O0 => ?_
  repeat' (first | refine Sp.h ?_ | refine Lk.r rfl ?_ | refine Rf.mk rfl ?_ | (apply Bd.t; (focus (first | assumption | omega | rfl))) | (apply Bd.f; (focus (first | assumption | omega | exact Bool.false_ne_true))) | (refine Bd.mk ?_ ?_ <;> intro _) | (refine All.mk ?_; intro _) | (apply TkB.r; (focus (repeat (first | exact Take.here | apply Take.there)))) | (apply Nm.r; (focus repeat (first | apply LN.cons | exact LN.nil))) | fail)
  (apply Cl.p (intsR_p _ _); (focus repeat' (first | exact Lend.nil | apply Lend.keep | fail)))
  repeat' (first | refine Sp.h ?_ | refine Lk.r rfl ?_ | refine Rf.mk rfl ?_ | (apply Bd.t; (focus (first | assumption | omega | rfl))) | (apply Bd.f; (focus (first | assumption | omega | exact Bool.false_ne_true))) | (refine Bd.mk ?_ ?_ <;> intro _) | (apply TkB.r; (focus (repeat (first | exact Take.here | apply Take.there)))) | refine Ch.r ?_ | (apply Nm.r; (focus repeat (first | apply LN.cons | exact LN.nil))) | (apply Il.r; (focus repeat (first | apply ILit.cons | exact ILit.nil))) | (apply Kf.mk; (focus kernel_rfl)) | fail)
  all_goals refine Fin.p rfl (vb ?_)
  · refine decide_eq_decide.2 ⟨fun h => ?_, fun h => by rw [h]⟩
    cases a; cases b; simp_all
  all_goals exact (decide_eq_false (fun h => by subst h; first | contradiction | simp_all)).symm
theorem same32_p (a b : List EvS) : CallP Tryz.prog 41 [evs a, evs b] (bl (decide (a = b))) := by
  refine CallA.of pg ord41 Tryz.func41 rfl Tryz.ntmps41 Tryz.results41 rfl fun h0 G0 O0 => ?_
  by_cases hl : a.length = b.length
  rotate_left
  · repeat' (first | refine Sp.h ?_ | refine Lk.r rfl ?_ | refine Rf.mk rfl ?_ | (apply Bd.f; (focus (first | assumption | omega | exact Bool.false_ne_true))) | (refine Im.mk ?_; intro _) | (apply Nm.r; (focus repeat (first | apply LN.cons | exact LN.nil))) | fail)
    exact Fin.p rfl (vb (decide_eq_false (fun e => hl (by rw [e]))).symm)
  repeat' (first | refine Sp.h ?_ | refine Lk.r rfl ?_ | refine Rf.mk rfl ?_ | (apply Bd.t; (focus (first | assumption | omega | rfl))) | (refine Im.mk ?_; intro _) | fail)
  refine CA.loop (fun i : Nat => ⟨[(0, evs a), (1, evs b), (5, it i)], []⟩) (fun i => i ≤ a.length ∧ ∀ (j : Nat) x y, j < i → a[j]? = some x → b[j]? = some y → x = y) (fun i => a.length - i) 0 ⟨by (repeat (first | exact trivial | refine ⟨rfl, ?_⟩)), by (repeat (first | exact Subl.nil | refine Subl.cons (by (repeat (first | exact Take.here | apply Take.there))) ?_))⟩ ⟨Nat.zero_le _, fun j x y h => by omega⟩ ?_
  rintro i ⟨hi, ha⟩
  by_cases hin : i < a.length
  · obtain ⟨x, hx⟩ := get_of hin
    obtain ⟨y, hy⟩ := get_of (l := b) (i := i) (by omega)
    have he := equal32_p x y
    by_cases hxy : x = y
    · rw [decide_eq_true hxy] at he
      repeat' (first | refine Sp.h ?_ | refine Lk.r rfl ?_ | refine Rf.mk rfl ?_ | (apply Bd.t; (focus (first | assumption | omega | rfl))) | refine OpK.r rfl ?_ | (refine Im.mk ?_; intro _) | (apply Ix.q; (focus exact rfl); (focus assumption)) | refine Ch.l ⟨rfl, rfl⟩ ?_ | (apply CA.draw; (focus rfl); (focus kernel_rfl); (focus kernel_rfl); (focus repeat' (first | apply ON.one | exact ON.done | exact ON.none | apply ON.alt)); (focus rfl)) | (apply Ov.n; (focus first | omega | (simp <;> omega))) | fail | (apply Cl.p (he); (focus repeat' (first | exact Lend.nil | apply Lend.keep | fail))))
      all_goals
        refine PA.lp (i + 1) ⟨by (repeat (first | exact trivial | refine ⟨rfl, ?_⟩)), by (repeat (first | exact Subl.nil | refine Subl.cons (by (repeat (first | exact Take.here | apply Take.there))) ?_))⟩ ⟨⟨hin, fun j x' y' h1 h2 h3 => ?_⟩, by omega⟩
        by_cases hij : j = i
        · subst hij; rw [hx] at h2; rw [hy] at h3; cases h2; cases h3; exact hxy
        · exact ha j x' y' (by omega) h2 h3
    · rw [decide_eq_false hxy] at he
      repeat' (first | refine Sp.h ?_ | refine Lk.r rfl ?_ | refine Rf.mk rfl ?_ | (apply Bd.t; (focus (first | assumption | omega | rfl))) | (apply Bd.f; (focus (first | assumption | omega | exact Bool.false_ne_true))) | refine OpK.r rfl ?_ | (refine Im.mk ?_; intro _) | (apply Ix.q; (focus exact rfl); (focus assumption)) | refine Ch.l ⟨rfl, rfl⟩ ?_ | (apply Nm.r; (focus repeat (first | apply LN.cons | exact LN.nil))) | (apply CA.draw; (focus rfl); (focus kernel_rfl); (focus kernel_rfl); (focus repeat' (first | apply ON.one | exact ON.done | exact ON.none | apply ON.alt)); (focus rfl)) | fail | (apply Cl.p (he); (focus repeat' (first | exact Lend.nil | apply Lend.keep | fail))))
      all_goals exact Fin.p rfl (vb (decide_eq_false (fun e => hxy (by subst e; rw [hx] at hy; cases hy; rfl))).symm)
  · have hie : i = a.length := by omega
    subst hie
    repeat' (first | refine Sp.h ?_ | refine Lk.r rfl ?_ | refine Rf.mk rfl ?_ | (apply Bd.f; (focus (first | assumption | omega | exact Bool.false_ne_true))) | (refine Im.mk ?_; intro _) | (apply Nm.r; (focus repeat (first | apply LN.cons | exact LN.nil))) | fail)
    refine Fin.p rfl (vb (decide_eq_true (List.ext_getElem? fun j => ?_)).symm)
    by_cases hj : j < a.length
    · obtain ⟨x, hx⟩ := get_of hj
      obtain ⟨y, hy⟩ := get_of (l := b) (i := j) (by omega)
      rw [hx, hy, ha j x y hj hx hy]
    · rw [List.getElem?_eq_none (by omega), List.getElem?_eq_none (by omega)]
theorem stN_okC (X : List EvS) (hX : ∀ e ∈ X, e ∈ [ca, cb]) (hl : X.length ≤ 1000) : NowOK cntM (stN cntM 2 [3] X) := stN_ok cab_suit hX hl
set_option maxHeartbeats 8000000 in
theorem awake35_p : CallP Tryz.prog 13 [] (bl true) := by
  have hc := cnt_p
  have h1 := new35_a cntM 2 [3] cnt_ok (by decide) (by rw [cnt_str]; rfl) (insS_ld (by simp))
  have h2 : ∀ p v, CallA Tryz.prog 18 [pm p, it 0, evA' { ev0 with serial := 1 }] [stoR p cntM (stN cntM 2 [3] []) v (stN cntM 2 [3] [])] fun q own => q = .tup [evA' ca, it 0] ∧ own = [stoR p cntM (stN cntM 2 [3] []) v (stN cntM 2 [3] [])] := fun p v => by
    have := smake_a p cntM (stN cntM 2 [3] []) v (stN cntM 2 [3] []) 0 { ev0 with serial := 1 } (by simp [stN, clkE]) (by simp [stN, clkE]) (by simp [stN])
    rwa [cmk] at this
  have h3 : ∀ p v, CallA Tryz.prog 21 [pm p, evA' ca] [stoR p cntM (stN cntM 2 [3] []) v (stN cntM 2 [3] []), arrR v 37 13 ([] : List EvS) evC] fun r own => r = it 0 ∧ ∃ v', own = [stoR p cntM (stN cntM 2 [3] []) v' (stN cntM 2 [3] [ca]), arrR v' 37 13 [ca] evC] := fun p v => by
    have := deliver_a p cntM (stN cntM 2 [3] []) v [] (stN cntM 2 [3] []) ca cnt_ok (stN_okC [] (by simp) (by simp)) (by simp)
    rw [evsD, cab_1, if_pos rfl] at this
    exact this
  have h4 : ∀ p v, CallA Tryz.prog 21 [pm p, evA' cb] [stoR p cntM (stN cntM 2 [3] []) v (stN cntM 2 [3] [ca]), arrR v 37 13 [ca] evC] fun r own => r = it 0 ∧ ∃ v', own = [stoR p cntM (stN cntM 2 [3] []) v' (stN cntM 2 [3] [ca, cb]), arrR v' 37 13 [ca, cb] evC] := fun p v => by
    have := deliver_a p cntM (stN cntM 2 [3] []) v [ca] (stN cntM 2 [3] [ca]) cb cnt_ok (stN_okC [ca] (by simp) (by simp)) (by simp)
    rw [evsD, cab_2, if_pos rfl] at this
    exact this
  obtain ⟨⟨bc, bt, bs, bm, bp⟩, ⟨nc, nt, ns, nm', np⟩, c1, c2, c3, c4⟩ := cab_3
  simp only at c2 c4
  subst c2
  subst c4
  obtain ⟨B, hB⟩ : ∃ B : NowS, B = ⟨bc, bt, [5], bm, bp⟩ := ⟨_, rfl⟩
  obtain ⟨N, hN⟩ : ∃ N : NowS, N = ⟨[1, 1], nt, ns, nm', np⟩ := ⟨_, rfl⟩
  rw [← hB, ← hN] at c1
  have h5 : ∀ p v, CallA Tryz.prog 66 [pm p, ints [1, 0]] [stoR p cntM (stN cntM 2 [3] []) v (stN cntM 2 [3] [ca, cb]), arrR v 37 13 [ca, cb] evC] fun r own => r = it 0 ∧ ∃ v', own = [stoR p cntM B v' N, arrR v' 37 13 [cb] evC] := fun p v => by
    have hN := stN_okC [ca, cb] (by simp) (by simp)
    have h0 := stN_okC [] (by simp) (by simp)
    have := compact_a p cntM (stN cntM 2 [3] []) v [ca, cb] (stN cntM 2 [3] [ca, cb]) [1, 0] cnt_ok hN ⟨h0.clk, rfl, h0.st, by simp only [stN, List.foldl_nil, cnt_mrg]; exact ⟨by simp, by simp⟩, h0.pls, by simp [stN]⟩ (by simp) (fun e he => by
      simp only [List.mem_cons, List.not_mem_nil, or_false] at he
      rcases he with rfl | rfl
      · exact ⟨ca_f, rfl, fun _ => by decide⟩
      · exact ⟨cb_f, rfl, fun _ => by decide⟩)
    rw [c1] at this
    exact this
  have e4 := equal_p [4] [4]
  have e5 := equal_p [5] [5]
  have e11 := equal_p [1, 1] [1, 1]
  have es := same32_p [cb] [cb]
  rw [decide_eq_true rfl] at e4 e5 e11 es
  have e5' : CallP Tryz.prog 19 [ints B.state, ints [5]] (bl true) := by rw [show B.state = [5] by rw [hB]]; exact e5
  have e11' : CallP Tryz.prog 19 [ints N.clock, ints [1, 1]] (bl true) := by rw [show N.clock = [1, 1] by rw [hN]]; exact e11
  refine CallA.of pg ord13 Tryz.func13 rfl Tryz.ntmps13 Tryz.results13 rfl fun h0 G0 O0 => ?_
  repeat' (first | refine Sp.h ?_ | refine Lk.r rfl ?_ | refine Rf.mk rfl ?_ | (refine All.mk ?_; intro _) | (apply Fk.r; (focus (repeat (first | exact FillA.nil | (apply FillA.agg; (focus rfl); (focus rfl); (focus (repeat (first | exact SetAs.z | (apply SetAs.c; (focus (repeat (first | assumption | exact SetA.z | apply SetA.s)))))))) | (apply FillA.one; (focus rfl); (focus infer_instance); (focus (repeat (first | assumption | exact SetA.z | apply SetA.s)))))))) | refine Rf.mk ⟨rfl, rfl, rfl⟩ ?_ | fail | (apply Cl.p (hc); (focus repeat' (first | exact Lend.nil | fail))))
  apply Cl.fx [mdl cntM, it 2, ints [3]]
  focus (repeat' (first | exact FX.nil | (apply FX.sl; (focus (repeat (first | exact Take.here | apply Take.there))); (focus exact Nat.le_of_ble_eq_true rfl)) | (apply FX.le; (focus first | exact ALe.refl _ | exact ALe.nil)) | apply FX.agg | apply FX.tup))
  (apply Cl.use (h1); (focus repeat' (first | exact Lend.nil | apply Lend.keep | fail)); (focus (repeat (first | exact Takes.nil | (apply Takes.cons; (focus (repeat (first | exact Take.here | apply Take.there))))))); (focus rfl))
  rintro _ _ ⟨p, v, rfl, rfl⟩
  repeat' (first | refine Sp.h ?_ | refine Lk.r rfl ?_ | refine Rf.mk rfl ?_ | (apply Bd.t; (focus (first | assumption | omega | rfl))) | (apply Bd.f; (focus (first | assumption | omega | exact Bool.false_ne_true))) | (apply Fk.r; (focus (repeat (first | exact FillA.nil | (apply FillA.agg; (focus rfl); (focus rfl); (focus (repeat (first | exact SetAs.z | (apply SetAs.c; (focus (repeat (first | assumption | exact SetA.z | apply SetA.s)))))))) | (apply FillA.one; (focus rfl); (focus infer_instance); (focus (repeat (first | assumption | exact SetA.z | apply SetA.s)))))))) | fail)
  apply Cl.fx [pm p, it 0, evA' { ev0 with serial := 1 }]
  focus (repeat' (first | exact FX.nil | (apply FX.sl; (focus (repeat (first | exact Take.here | apply Take.there))); (focus exact Nat.le_of_ble_eq_true rfl)) | (apply FX.le; (focus first | exact ALe.refl _ | exact ALe.nil)) | apply FX.agg | apply FX.tup))
  (apply Cl.use (h2 p v); (focus repeat' (first | exact Lend.nil | apply Lend.keep | fail)); (focus (repeat (first | exact Takes.nil | (apply Takes.cons; (focus (repeat (first | exact Take.here | apply Take.there))))))); (focus rfl))
  rintro _ _ ⟨rfl, rfl⟩
  (repeat' (first | (show CA _ _ (Code.region 6 _ _) _ _; apply Stopped.out) | refine Sp.h ?_ | refine Lk.r rfl ?_ | refine Rf.mk rfl ?_ | (refine All.mk ?_; intro _) | (apply TkB.r; (focus (repeat (first | exact Take.here | apply Take.there)))) | (apply SetAsk.r; (focus (repeat (first | exact SetAs.z | (apply SetAs.c; (focus (repeat (first | assumption | exact SetA.z | apply SetA.s)))))))) | (apply Fk.r; (focus (repeat (first | exact FillA.nil | (apply FillA.agg; (focus rfl); (focus rfl); (focus (repeat (first | exact SetAs.z | (apply SetAs.c; (focus (repeat (first | assumption | exact SetA.z | apply SetA.s)))))))) | (apply FillA.one; (focus rfl); (focus infer_instance); (focus (repeat (first | assumption | exact SetA.z | apply SetA.s)))))))) | (apply Nm.r; (focus repeat (first | apply LN.cons | exact LN.nil))) | refine Rf.mk ⟨rfl, rfl, rfl⟩ ?_ | fail)); any_goals apply Stopped.mk
  rename_i b3 u b4
  apply CA.own
  focus (apply OX.blk (b := b4); (focus (repeat (first | exact Take.here | apply Take.there))); (focus (apply FX.k; apply FX.k; apply FX.k; apply FX.sl (ys := [0, 0]) (g := intC); (focus (repeat (first | exact Take.here | apply Take.there))); (focus exact Nat.le_of_ble_eq_true rfl); (focus exact FX.le (ALe.refl _) (FX.le (ALe.refl _) FX.nil)); exact FX.refl _)); (focus (repeat (first | exact Take.here | apply Take.there))))
  repeat' (first | refine Sp.h ?_ | refine Lk.r rfl ?_ | refine Rf.mk rfl ?_ | (apply Bd.t; (focus (first | assumption | omega | rfl))) | (apply TkB.r; (focus (repeat (first | exact Take.here | apply Take.there)))) | refine Ch.l ⟨rfl, rfl⟩ ?_ | fail)
  (apply Cl.use (h3 p v); (focus repeat' (first | exact Lend.nil | apply Lend.keep | fail)); (focus (repeat (first | exact Takes.nil | (apply Takes.cons; (focus (repeat (first | exact Take.here | apply Take.there))))))); (focus rfl))
  rintro _ _ ⟨rfl, v1, rfl⟩
  repeat' (first | refine Sp.h ?_ | refine Lk.r rfl ?_ | refine Rf.mk rfl ?_ | (apply Bd.t; (focus (first | assumption | omega | rfl))) | (apply TkB.r; (focus (repeat (first | exact Take.here | apply Take.there)))) | refine Ch.l ⟨rfl, rfl⟩ ?_ | fail)
  (apply Cl.use (h4 p v1); (focus repeat' (first | exact Lend.nil | apply Lend.keep | fail)); (focus (repeat (first | exact Takes.nil | (apply Takes.cons; (focus (repeat (first | exact Take.here | apply Take.there))))))); (focus rfl))
  rintro _ _ ⟨rfl, v2, rfl⟩
  have h6 := sstate_p p cntM (stN cntM 2 [3] []) v2 (stN cntM 2 [3] [ca, cb]) (by rw [st_cab.2]; decide)
  rw [st_cab.2] at h6
  repeat' (first | refine Sp.h ?_ | refine Lk.r rfl ?_ | refine Rf.mk rfl ?_ | (apply Bd.t; (focus (first | assumption | omega | rfl))) | fail)
  (apply Cl.use (h6); (focus repeat' (first | exact Lend.nil | apply Lend.keep | fail)); (focus (repeat (first | exact Takes.nil | (apply Takes.cons; (focus (repeat (first | exact Take.here | apply Take.there))))))); (focus rfl))
  rintro _ _ ⟨rfl, rfl⟩
  repeat' (first | refine Sp.h ?_ | refine Lk.r rfl ?_ | refine Rf.mk rfl ?_ | (apply Bd.t; (focus (first | assumption | omega | rfl))) | (refine All.mk ?_; intro _) | (apply Fk.r; (focus (repeat (first | exact FillA.nil | (apply FillA.agg; (focus rfl); (focus rfl); (focus (repeat (first | exact SetAs.z | (apply SetAs.c; (focus (repeat (first | assumption | exact SetA.z | apply SetA.s)))))))) | (apply FillA.one; (focus rfl); (focus infer_instance); (focus (repeat (first | assumption | exact SetA.z | apply SetA.s)))))))) | refine Rf.mk ⟨rfl, rfl, rfl⟩ ?_ | fail)
  (apply Cl.lend (e4); (focus repeat' (first | exact Lend.nil | apply Lend.keep | (apply Lend.lendm; (focus (repeat (first | exact Take.here | apply Take.there))); (focus rfl); (focus first | omega | decide | (simp; omega) | exact Nat.le_of_ble_eq_true rfl)) | fail)))
  repeat' (first | refine Sp.h ?_ | refine Lk.r rfl ?_ | refine Rf.mk rfl ?_ | (apply Bd.t; (focus (first | assumption | omega | rfl))) | (refine All.mk ?_; intro _) | (apply Fk.r; (focus (repeat (first | exact FillA.nil | (apply FillA.agg; (focus rfl); (focus rfl); (focus (repeat (first | exact SetAs.z | (apply SetAs.c; (focus (repeat (first | assumption | exact SetA.z | apply SetA.s)))))))) | (apply FillA.one; (focus rfl); (focus infer_instance); (focus (repeat (first | assumption | exact SetA.z | apply SetA.s)))))))) | refine Rf.mk ⟨rfl, rfl, rfl⟩ ?_ | fail)
  apply Cl.fx [pm p, ints [1, 0]]
  focus (repeat' (first | exact FX.nil | (apply FX.sl; (focus (repeat (first | exact Take.here | apply Take.there))); (focus exact Nat.le_of_ble_eq_true rfl)) | (apply FX.le; (focus first | exact ALe.refl _ | exact ALe.nil)) | apply FX.agg | apply FX.tup))
  (apply Cl.use (h5 p v2); (focus repeat' (first | exact Lend.nil | apply Lend.keep | fail)); (focus (repeat (first | exact Takes.nil | (apply Takes.cons; (focus (repeat (first | exact Take.here | apply Take.there))))))); (focus rfl))
  rintro _ _ ⟨rfl, v3, rfl⟩
  have h7 := sbase_r cntM B N [cb] (by rw [hB]; exact c3)
  have h8 := sevents_z cntM B N [cb] (by simp) (by simp [cb])
  have h9 := sclock_z cntM B N [cb] (by rw [hN]; simp)
  (repeat' (first | (show CA _ _ (Code.region 9 _ _) _ _; apply Stopped.out) | refine Sp.h ?_ | refine Lk.r rfl ?_ | fail)); any_goals apply Stopped.mk
  (apply CA.own; (focus (apply OX.blk (b := p); (focus (repeat (first | exact Take.here | apply Take.there))); (focus (repeat' (first | exact FX.nil | (apply FX.s1; (focus (repeat (first | exact Take.here | apply Take.there))); (focus first | omega | (simp; done) | (simp; omega))) | apply FX.k))); (focus (repeat (first | exact Take.here | apply Take.there))))))
  apply CA.freezeB 1
  focus rfl
  focus (repeat (first | exact Take.here | apply Take.there))
  repeat' (first | refine Sp.h ?_ | refine Lk.r rfl ?_ | refine Rf.mk rfl ?_ | (apply Bd.t; (focus (first | assumption | omega | rfl))) | refine OpK.r rfl ?_ | (refine All.mk ?_; intro _) | (apply TkB.r; (focus (repeat (first | exact Take.here | apply Take.there)))) | refine Ch.l ⟨rfl, rfl⟩ ?_ | (apply Fk.r; (focus (repeat (first | exact FillA.nil | (apply FillA.agg; (focus rfl); (focus rfl); (focus (repeat (first | exact SetAs.z | (apply SetAs.c; (focus (repeat (first | assumption | exact SetA.z | apply SetA.s)))))))) | (apply FillA.one; (focus rfl); (focus infer_instance); (focus (repeat (first | assumption | exact SetA.z | apply SetA.s)))))))) | (apply Nm.r; (focus repeat (first | apply LN.cons | exact LN.nil))) | refine Rf.mk ⟨rfl, rfl, rfl⟩ ?_ | (apply CA.draw; (focus rfl); (focus kernel_rfl); (focus kernel_rfl); (focus repeat' (first | apply ON.one | exact ON.done | exact ON.none | apply ON.alt)); (focus rfl)) | exact trivial | apply RA'.both | fail | (apply Cl.p (h7); (focus ((repeat' (first | exact Lend.nil | apply Lend.keep | (apply Lend.lendm; (focus (repeat (first | exact Take.here | apply Take.there))); (focus rfl); (focus first | omega | decide | (simp; omega) | exact Nat.le_of_ble_eq_true rfl)) | fail)); done))) | (apply Cl.p (h8); (focus ((repeat' (first | exact Lend.nil | apply Lend.keep | (apply Lend.lendm; (focus (repeat (first | exact Take.here | apply Take.there))); (focus rfl); (focus first | omega | decide | (simp; omega) | exact Nat.le_of_ble_eq_true rfl)) | fail)); done))) | (apply Cl.p (h9); (focus ((repeat' (first | exact Lend.nil | apply Lend.keep | (apply Lend.lendm; (focus (repeat (first | exact Take.here | apply Take.there))); (focus rfl); (focus first | omega | decide | (simp; omega) | exact Nat.le_of_ble_eq_true rfl)) | fail)); done))) | (apply Cl.lend (e5'); (focus ((repeat' (first | exact Lend.nil | apply Lend.keep | (apply Lend.lendm; (focus (repeat (first | exact Take.here | apply Take.there))); (focus rfl); (focus first | omega | decide | (simp; omega) | exact Nat.le_of_ble_eq_true rfl)) | fail)); done))) | (apply Cl.lend (es); (focus ((repeat' (first | exact Lend.nil | apply Lend.keep | (apply Lend.lendm; (focus (repeat (first | exact Take.here | apply Take.there))); (focus rfl); (focus first | omega | decide | (simp; omega) | exact Nat.le_of_ble_eq_true rfl)) | fail)); done))) | (apply Cl.lend (e11'); (focus ((repeat' (first | exact Lend.nil | apply Lend.keep | (apply Lend.lendm; (focus (repeat (first | exact Take.here | apply Take.there))); (focus rfl); (focus first | omega | decide | (simp; omega) | exact Nat.le_of_ble_eq_true rfl)) | fail)); done))))
  all_goals exact Fin.p rfl rfl
end Go.Proofs.YtmllihbhphnolaaGreat
namespace Go.Proofs.YtmllihbhphnolaaGreat
open Go Go.CF
set_option maxRecDepth 20000
theorem ext_nil_ok {l : List EvS} (hc : ClosedE l) (order : List Int) (ho : ∀ x ∈ order, 0 ≤ x ∧ x ≤ 255) : ∃ X, ExtR order [] (ordE l) X ∧ ExtO l X ∧ X.Perm l := ext_ok hc fun x hx => (ho x hx).1
theorem makeF_ok {m : ModS} {w : NowS} {r : Int} {x : EvS} (h : (makeF m w r x).1 = 0) : 0 ≤ r ∧ r < w.clock.length ∧ (makeF m w r x).2 = mkN w r x ∧ EvV m (w.clock.length : Nat) (mkN w r x) := by
  unfold makeF at h ⊢
  split
  · rename_i h1; rw [if_pos h1] at h; exact absurd h (by decide)
  · rename_i h1
    rw [if_neg h1] at h
    split
    · rename_i h2; rw [if_pos h2] at h; exact absurd h (by decide)
    · rename_i h2
      rw [if_neg h2] at h
      split
      · rename_i h3; rw [if_pos h3] at h; exact absurd h (by decide)
      · rename_i h3
        exact ⟨by omega, by omega, rfl, Classical.not_not.1 h3⟩
theorem makeF_bad {m : ModS} {w : NowS} {r : Int} {x : EvS} (h : ¬ (makeF m w r x).1 = 0) : (makeF m w r x).2 = ev0 := by
  unfold makeF at h ⊢
  repeat' split
  all_goals first
    | rfl
    | (rename_i h1 h2 h3; rw [if_neg h1, if_neg h2, if_neg h3] at h; exact absurd rfl h)
theorem ev0_nf : ¬ FormedE ev0 := fun h => by have := h.1.2.1; simp [ev0] at this
theorem cnt_val {c : List Int} {e : EvS} (hc : ValC c) (hn : 0 ≤ e.num ∧ e.num ≤ 1024) : ValC (cntF c e) := by
  refine ⟨fun z hz => ?_, by simp [cntF]; exact hc.2.1, by simp [cntF]; exact hc.2.2⟩
  rcases List.mem_or_eq_of_mem_set hz with h | h
  · exact hc.1 z h
  · rw [h]
    cases hx : c[e.rep.toNat]? with
    | none => rw [Option.getD_none]; unfold rngK; omega
    | some y =>
      have := hc.1 y (List.mem_of_getElem? hx)
      rw [Option.getD_some]
      unfold rngK at *
      omega
theorem now_deliver {m : ModS} {evl : List EvS} {w : NowS} {e : EvS} (hw : NowOK m w) (hp : w.places.length < 100000) (h : (deliverF m evl w e).1 = 0) : NowOK m (deliverF m evl w e).2 := by
  have hv := (deliver_ok' h).2.1.1
  have hf := formed_rep hv
  rw [deliver_st h]
  refine ⟨cnt_val hw.clk ⟨by omega, hv.2.2.2.1⟩, by simp only [addE_len]; exact hw.st, (plE_srt hw.pls).1, by have := (plE_srt (e := e) hw.pls).2; simp only; omega⟩
set_option maxHeartbeats 8000000 in
theorem makes35_p (m : ModS) (ld : List Int) (l : List EvS) (r : Int) (x : EvS) : CallP Tryz.prog 3 [mdl m, ints ld, evs l, it r, evA' x] (bl true) := by
  have haw := awake35_p
  have hsu := suits35_c m ld l
  refine CallA.of pg ord3 Tryz.func3 rfl Tryz.ntmps3 Tryz.results3 rfl fun h0 G0 O0 => ?_
  repeat' (first | refine Sp.h ?_ | refine Lk.r rfl ?_ | refine Rf.mk rfl ?_ | (apply Bd.t; (focus (first | assumption | omega | rfl))) | (refine All.mk ?_; intro _) | (apply TkB.r; (focus (repeat (first | exact Take.here | apply Take.there)))) | refine Ch.l ⟨rfl, rfl⟩ ?_ | fail | (apply Cl.p (haw); (focus repeat' (first | exact Lend.nil | fail))))
  rename_i b5 b9
  (apply Cl.use (hsu); (focus repeat' (first | exact Lend.nil | apply Lend.keep | fail)); (focus (repeat (first | exact Takes.nil | (apply Takes.cons; (focus (repeat (first | exact Take.here | apply Take.there))))))); (focus rfl))
  rintro _ _ ⟨s, rfl, rfl, hs⟩
  cases s
  · repeat' (first | refine Sp.h ?_ | refine Lk.r rfl ?_ | refine Rf.mk rfl ?_ | (apply Bd.f; (focus (first | assumption | omega | exact Bool.false_ne_true))) | (apply Nm.r; (focus repeat (first | apply LN.cons | exact LN.nil))) | fail)
    exact Fin.p rfl rfl
  have hs := hs rfl
  by_cases h8 : 8 < x.past.length
  · repeat' (first | refine Sp.h ?_ | refine Lk.r rfl ?_ | refine Rf.mk rfl ?_ | (apply Bd.t; (focus (first | assumption | omega | rfl))) | (refine Im.mk ?_; intro _) | (apply TkB.r; (focus (repeat (first | exact Take.here | apply Take.there)))) | (apply Nm.r; (focus repeat (first | apply LN.cons | exact LN.nil))) | fail)
    exact Fin.p rfl rfl
  obtain ⟨d, hd⟩ := get_of (l := l) (i := 0) hs.ne
  have hnr := n0_rng hs.e.2.2.1 (List.mem_of_getElem? hd)
  have hl60 := hs.e.2.1.1
  obtain ⟨X, x1, x2, x3⟩ := ext_nil_ok hs.e.2.2.1 [] (by simp)
  have hXl := x3.length_eq
  have hfi := fill_a m ld l [] X hs (by simp) x1 x2 x3
  have hfi : CallA Tryz.prog 15 [mdl m, ints ld, evs l, nl0] [] fun q own => ∃ p v, q = pm p ∧ own = [stoR p m (stN m (n0 l) ld []) v (stN m (n0 l) ld X), arrR v 37 13 X evC] := by
    refine CallA.args ?_ hfi
    (repeat' (first | exact RLe.nil | (apply RLe.cons; (focus first | exact ALe.refl _ | exact ALe.nilow | exact ALe.nil))))
  obtain ⟨W, hW⟩ : ∃ W, W = stN m (n0 l) ld X := ⟨_, rfl⟩
  have hwo : NowOK m W := by rw [hW]; exact stN_ok hs x2.sub (by omega)
  have hst : StoA m l ld X W := by
    have := (fill_sto hs (by omega) x2 X.length (Nat.le_refl _)).1
    rwa [List.take_length, ← hW] at this
  have hwc : W.clock.length = n0 l := by rw [hst.clock, clkE_len]
  rw [← hW] at hfi
  repeat' (first | refine Sp.h ?_ | refine Lk.r rfl ?_ | refine Rf.mk rfl ?_ | (apply Bd.t; (focus (first | assumption | omega | rfl))) | (apply Bd.f; (focus (first | assumption | omega | exact Bool.false_ne_true))) | (refine Im.mk ?_; intro _) | (apply TkB.r; (focus (repeat (first | exact Take.here | apply Take.there)))) | refine Ch.l ⟨rfl, rfl⟩ ?_ | fail)
  (apply Cl.use (hfi); (focus repeat' (first | exact Lend.nil | apply Lend.keep | fail)); (focus (repeat (first | exact Takes.nil | (apply Takes.cons; (focus (repeat (first | exact Take.here | apply Take.there))))))); (focus rfl))
  rintro _ _ ⟨p, v, rfl, rfl⟩
  have hck := sclock_p p m (stN m (n0 l) ld []) v W (by omega)
  have htm := stime_p p m (stN m (n0 l) ld []) v W
  have ht0 := (time_le (X := X) 0).1
  rw [← hst.time] at ht0
  have hmk := smake_a p m (stN m (n0 l) ld []) v W r x (by omega) (fun y hy => by have := hwo.clk.1 y hy; unfold rngK at this; omega) (by omega)
  have hec := equal_p W.clock W.clock
  rw [decide_eq_true rfl] at hec
  repeat' (first | refine Sp.h ?_ | refine Lk.r rfl ?_ | refine Rf.mk rfl ?_ | (apply Bd.f; (focus (first | assumption | omega | exact Bool.false_ne_true))) | fail)
  (apply Cl.use (hck); (focus repeat' (first | exact Lend.nil | apply Lend.keep | fail)); (focus (repeat (first | exact Takes.nil | (apply Takes.cons; (focus (repeat (first | exact Take.here | apply Take.there))))))); (focus rfl))
  rintro _ _ ⟨rfl, rfl⟩
  repeat' (first | refine Sp.h ?_ | refine Lk.r rfl ?_ | refine Rf.mk rfl ?_ | fail)
  (apply Cl.use (htm); (focus repeat' (first | exact Lend.nil | apply Lend.keep | fail)); (focus (repeat (first | exact Takes.nil | (apply Takes.cons; (focus (repeat (first | exact Take.here | apply Take.there))))))); (focus rfl))
  rintro _ _ ⟨rfl, rfl⟩
  repeat' (first | refine Sp.h ?_ | refine Lk.r rfl ?_ | refine Rf.mk rfl ?_ | (apply TkB.r; (focus (repeat (first | exact Take.here | apply Take.there)))) | refine Ch.l ⟨rfl, rfl⟩ ?_ | fail)
  (apply Cl.use (hmk); (focus repeat' (first | exact Lend.nil | apply Lend.keep | fail)); (focus (repeat (first | exact Takes.nil | (apply Takes.cons; (focus (repeat (first | exact Take.here | apply Take.there))))))); (focus rfl))
  rintro _ _ ⟨rfl, rfl⟩
  repeat' (first | refine Sp.h ?_ | refine Lk.r rfl ?_ | refine Rf.mk rfl ?_ | (refine All.mk ?_; intro _) | (apply TkB.r; (focus (repeat (first | exact Take.here | apply Take.there)))) | (apply SetAsk.r; (focus (repeat (first | exact SetAs.z | (apply SetAs.c; (focus (repeat (first | assumption | exact SetA.z | apply SetA.s)))))))) | (apply Nm.r; (focus repeat (first | apply LN.cons | exact LN.nil))) | fail)
  rename_i b14
  (apply Cl.use (hck); (focus repeat' (first | exact Lend.nil | apply Lend.keep | fail)); (focus (repeat (first | exact Takes.nil | (apply Takes.cons; (focus (repeat (first | exact Take.here | apply Take.there))))))); (focus rfl))
  rintro _ _ ⟨rfl, rfl⟩
  repeat' (first | refine Sp.h ?_ | refine Lk.r rfl ?_ | refine Rf.mk rfl ?_ | (apply Bd.t; (focus (first | assumption | omega | rfl))) | fail | (apply Cl.p (hec); (focus repeat' (first | exact Lend.nil | apply Lend.keep | fail))))
  (apply Cl.use (htm); (focus repeat' (first | exact Lend.nil | apply Lend.keep | fail)); (focus (repeat (first | exact Takes.nil | (apply Takes.cons; (focus (repeat (first | exact Take.here | apply Take.there))))))); (focus rfl))
  rintro _ _ ⟨rfl, rfl⟩
  by_cases hcode : (makeF m W r x).1 = 0
  rotate_left
  · have hfm := formed_p (makeF m W r x).2
    rw [makeF_bad hcode, decide_eq_false ev0_nf] at hfm
    rw [makeF_bad hcode]
    repeat' (first | refine Sp.h ?_ | refine Lk.r rfl ?_ | refine Rf.mk rfl ?_ | (apply Bd.t; (focus (first | assumption | omega | rfl))) | (apply Bd.f; (focus (first | assumption | omega | exact Bool.false_ne_true))) | (apply TkB.r; (focus (repeat (first | exact Take.here | apply Take.there)))) | refine Ch.l ⟨rfl, rfl⟩ ?_ | (apply Nm.r; (focus repeat (first | apply LN.cons | exact LN.nil))) | fail | (apply Cl.p (hfm); (focus repeat' (first | exact Lend.nil | apply Lend.keep | fail))))
    exact Fin.p rfl rfl
  obtain ⟨k1, k2, k3, k4⟩ := makeF_ok hcode
  obtain ⟨y, hy⟩ : ∃ y, y = mkN W r x := ⟨_, rfl⟩
  have hyr : y.rep = r := by rw [hy]; rfl
  have hyp : y.past = W.clock := by rw [hy]; rfl
  have hyt : y.time = W.time + 1 := by rw [hy]; rfl
  have hyk : y.kind = x.kind := by rw [hy]; rfl
  have hya : y.action = x.action := by rw [hy]; rfl
  have hypl : y.place = x.place := by rw [hy]; rfl
  have hys : y.serial = x.serial := by rw [hy]; rfl
  rw [← hy] at k3 k4
  rw [k3]
  rw [hwc] at k4
  have hmd : Made (n0 l) W y := by
    refine ⟨hyp, ?_, hyt⟩
    obtain ⟨z, hz⟩ := get_of (l := W.clock) (i := r.toNat) (by omega)
    rw [hyr, hz, hy, mkN, hz, Option.getD_some]
    congr 1
    simp only
    omega
  obtain ⟨W', d1, d2, d3⟩ := made_ok hs.e hs.smd hs.ld hst (by omega) x2.all hmd k4
  have hwo' : NowOK m W' := by
    have := now_deliver (evl := X) (e := y) hwo (by
      rw [hst.places, places_srt]
      have := srtD_len (plL X); have := plL_len X
      omega) (by rw [d1])
    rw [d1] at this
    exact this
  have d4 := made_twice (A := X ++ [y]) k4 hwc hmd d2
  have hd1 := deliver_a p m (stN m (n0 l) ld []) v X W y hs.e.1 hwo (by omega)
  rw [evsD, d1, if_pos rfl] at hd1
  have hd2 : ∀ v, CallA Tryz.prog 21 [pm p, evA' y] [stoR p m (stN m (n0 l) ld []) v W', arrR v 37 13 (X ++ [y]) evC] fun r own => r = it 6 ∧ ∃ v', own = [stoR p m (stN m (n0 l) ld []) v' W', arrR v' 37 13 (X ++ [y]) evC] := fun v => by
    have := deliver_a p m (stN m (n0 l) ld []) v (X ++ [y]) W' y hs.e.1 hwo' (by simp; omega)
    rw [evsD, d4, if_neg (show ¬ (6 : Int) = 0 by decide)] at this
    exact this
  have hep := equal_p y.past W.clock
  rw [decide_eq_true hyp] at hep
  repeat' (first | refine Sp.h ?_ | refine Lk.r rfl ?_ | refine Rf.mk rfl ?_ | (apply Bd.t; (focus (first | assumption | omega | rfl))) | (apply Bd.f; (focus (first | assumption | omega | exact Bool.false_ne_true))) | (apply TkB.r; (focus (repeat (first | exact Take.here | apply Take.there)))) | refine Ch.l ⟨rfl, rfl⟩ ?_ | fail | (apply Cl.p (hep); (focus repeat' (first | exact Lend.nil | apply Lend.keep | fail))))
  (apply Cl.use (hd1); (focus repeat' (first | exact Lend.nil | apply Lend.keep | fail)); (focus (repeat (first | exact Takes.nil | (apply Takes.cons; (focus (repeat (first | exact Take.here | apply Take.there))))))); (focus rfl))
  rintro _ _ ⟨rfl, v1, rfl⟩
  repeat' (first | refine Sp.h ?_ | refine Lk.r rfl ?_ | refine Rf.mk rfl ?_ | (apply Bd.t; (focus (first | assumption | omega | rfl))) | (apply TkB.r; (focus (repeat (first | exact Take.here | apply Take.there)))) | refine Ch.l ⟨rfl, rfl⟩ ?_ | fail)
  (apply Cl.use (hd2 v1); (focus repeat' (first | exact Lend.nil | apply Lend.keep | fail)); (focus (repeat (first | exact Takes.nil | (apply Takes.cons; (focus (repeat (first | exact Take.here | apply Take.there))))))); (focus rfl))
  rintro _ _ ⟨rfl, v2, rfl⟩
  repeat' (first | refine Sp.h ?_ | refine Lk.r rfl ?_ | refine Rf.mk rfl ?_ | (apply Bd.t; (focus (first | assumption | omega | rfl))) | (refine Im.mk ?_; intro _) | fail)
  refine CA.loop (fun i : Nat => ⟨[(11, pm p), (14, pm b14), (121, evs l), (122, it (l.length : Nat)), (123, it i)], [stoR p m (stN m (n0 l) ld []) v2 W', arrR v2 37 13 (X ++ [y]) evC, blkR b14 37 (evC y)]⟩) (fun i => i ≤ l.length) (fun i => l.length - i) 0 ⟨by (repeat (first | exact trivial | refine ⟨rfl, ?_⟩)), by (repeat (first | exact Subl.nil | refine Subl.cons (by (repeat (first | exact Take.here | apply Take.there))) ?_))⟩ (Nat.zero_le _) ?_
  intro i hi
  by_cases hin : i < l.length
  · obtain ⟨z, hz⟩ := get_of hin
    have hzl := List.mem_of_getElem? hz
    have hbf := before_p z y
    have hB : BefE z y := ⟨(hs.e.2.2.1.2.2.1 z hzl).1, k4.1, by rw [hyp, hst.clock]; exact (clk_has hs.e.2.2.1 x2.all hzl).2 (x3.mem_iff.2 hzl)⟩
    rw [decide_eq_true hB] at hbf
    repeat' (first | refine Sp.h ?_ | refine Lk.r rfl ?_ | refine Rf.mk rfl ?_ | (apply Bd.t; (focus (first | assumption | omega | rfl))) | (refine All.mk ?_; intro _) | (apply TkB.r; (focus (repeat (first | exact Take.here | apply Take.there)))) | (apply Ix.q; (focus exact rfl); (focus assumption)) | refine Ch.l ⟨rfl, rfl⟩ ?_ | (apply SetAsk.r; (focus (repeat (first | exact SetAs.z | (apply SetAs.c; (focus (repeat (first | assumption | exact SetA.z | apply SetA.s)))))))) | (apply Nm.r; (focus repeat (first | apply LN.cons | exact LN.nil))) | (apply Ov.n; (focus first | omega | (simp <;> omega))) | fail | (apply Cl.p (hbf); (focus repeat' (first | exact Lend.nil | apply Lend.keep | fail))))
    exact PA.lp (i + 1) ⟨by (repeat (first | exact trivial | refine ⟨rfl, ?_⟩)), by (repeat (first | exact Subl.nil | refine Subl.cons (by (repeat (first | exact Take.here | apply Take.there))) ?_))⟩ ⟨hin, by omega⟩
  · have hie : i = l.length := by omega
    subst hie
    have hcl' : W'.clock.length ≤ 5 := hwo'.clk.2.2
    have h7 := sclock_z m (stN m (n0 l) ld []) W' (X ++ [y]) (by omega)
    have h9 := stime_r m (stN m (n0 l) ld []) W' (X ++ [y])
    have h10 := nameR_p y
    have h11 := hasC_p W'.clock y.rep y.num
    have hhas : HasC W'.clock y.rep y.num := by rw [d2]; exact cnt_has k4.1 hmd
    rw [decide_eq_true hhas] at h11
    have hXy : (X ++ [y]).length ≤ 100000 := by simp; omega
    have htt : W'.time = y.time := by rw [d3]; omega
    (repeat' (first | (show CA _ _ (Code.region 22 _ _) _ _; apply Stopped.out) | refine Sp.h ?_ | refine Lk.r rfl ?_ | refine Rf.mk rfl ?_ | (apply Bd.f; (focus (first | assumption | omega | exact Bool.false_ne_true))) | fail)); any_goals apply Stopped.mk
    (apply CA.own; (focus (apply OX.blk (b := p); (focus (repeat (first | exact Take.here | apply Take.there))); (focus (repeat' (first | exact FX.nil | (apply FX.s1; (focus (repeat (first | exact Take.here | apply Take.there))); (focus first | omega | (simp; done) | (simp; omega))) | apply FX.k))); (focus (repeat (first | exact Take.here | apply Take.there))))))
    apply CA.freezeB 11
    focus rfl
    focus (repeat (first | exact Take.here | apply Take.there))
    repeat' (first | refine Sp.h ?_ | refine Lk.r rfl ?_ | refine Rf.mk rfl ?_ | refine OpK.r rfl ?_ | (apply TkB.r; (focus (repeat (first | exact Take.here | apply Take.there)))) | refine Ch.l ⟨rfl, rfl⟩ ?_ | (apply Nm.r; (focus repeat (first | apply LN.cons | exact LN.nil))) | (apply CA.draw; (focus rfl); (focus kernel_rfl); (focus kernel_rfl); (focus repeat' (first | apply ON.one | exact ON.done | exact ON.none | apply ON.alt)); (focus rfl)) | fail | (apply Cl.p (h7); (focus ((repeat' (first | exact Lend.nil | apply Lend.keep | fail)); done))) | (apply Cl.p (h9); (focus ((repeat' (first | exact Lend.nil | apply Lend.keep | fail)); done))) | (apply Cl.p (h10); (focus ((repeat' (first | exact Lend.nil | apply Lend.keep | fail)); done))) | (apply Cl.p (h11); (focus ((repeat' (first | exact Lend.nil | apply Lend.keep | fail)); done))))
    all_goals exact Fin.p rfl (vb (by first | rfl | exact decide_eq_true htt))
end Go.Proofs.YtmllihbhphnolaaGreat
