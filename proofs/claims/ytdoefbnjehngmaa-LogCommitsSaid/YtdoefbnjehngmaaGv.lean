/- Plain law of LogLate: what the follower has; conditions: none. -/
import Derived.Test.YtdoefbnjehngmaaGs
import Derived.Test.YtdoefbnjehngmaaGu
namespace Go.Proofs.Ytdoefbnjehngmaa
open Go Go.CF
set_option maxRecDepth 20000

def opE (T k : Nat) : Ent := ⟨T, 1, 0, k, 0, []⟩
def lsE (T : Nat) : List Ent := [emptyE T, opE T 1, opE T 2, opE T 3, opE T 4, opE T 5]
def ldr (T k : Nat) : LogS := { n := 2, i := 0, ents := (lsE T).take (k + 1), commit := 0, leads := T, nx := fun _ => 1, mt := fun _ => 0 }
def msgK (T k : Nat) : Msg := { kind := 7, frm := 0, to := 1, term := T, index := 0, logt := 0, commit := 0, granted := false, ents := (lsE T).take (k + 2) }
def ansK (T k : Nat) : Msg := { kind := 8, frm := 1, to := 0, term := T, index := k + 2, logt := 0, commit := 0, granted := true, ents := [] }
def sentK (T k : Nat) : List (Msg × Zs) := (List.range k).map fun j => (msgK T j, zs0)
def folw (b : List Ent) (T has : Nat) : LogS := { n := 2, i := 1, ents := if has = 0 then b else (lsE T).take has, commit := 0, leads := 0, nx := fun _ => 0, mt := fun _ => 0 }
theorem valE.take {n : Int} {l : List Ent} (hv : valE n l) (k : Nat) : valE n (l.take k) := by
  refine ⟨fun j e hj he => ?_, by have := hv.2; simp; omega⟩
  rw [List.getElem?_take] at he
  split at he
  · rename_i hjk
    obtain ⟨g1, g2⟩ := hv.1 j e (List.getElem?_eq_some_iff.1 he).1 he
    refine ⟨g1, fun e' hp he' => g2 e' hp ?_⟩
    rw [List.getElem?_take, if_pos (by omega)] at he'
    exact he'
  · cases he
theorem rightO {T k : Nat} (hT : 1 ≤ T ∧ T ≤ 1048576) (hk : 1 ≤ k ∧ k ≤ 5) : rightE 2 (opE T k) := ⟨⟨by simp [opE]; omega, by simp [opE]; omega⟩, .inr (.inl ⟨rfl, rfl, by simp [opE], by simp [opE], by simp [opE]; omega, by simp [opE]; omega, by simp [opE], by simp [opE]⟩)⟩
theorem rightZT {T : Nat} (hT : 1 ≤ T ∧ T ≤ 1048576) : rightE 2 (emptyE T) := ⟨by simp [emptyE]; omega, .inl ⟨rfl, ⟨rfl, rfl, rfl⟩, rfl⟩⟩
theorem lsE_term {T : Nat} {e : Ent} (he : e ∈ lsE T) : e.term = T := by
  simp only [lsE, List.mem_cons, List.not_mem_nil, or_false] at he
  rcases he with rfl | rfl | rfl | rfl | rfl | rfl <;> rfl
theorem lsE_val {T : Nat} (hT : 1 ≤ T ∧ T ≤ 1048576) : valE (2 : Nat) (lsE T) := by
  refine valE_of (fun e he => ?_) ?_ (by simp [lsE])
  · simp only [lsE, List.mem_cons, List.not_mem_nil, or_false] at he
    rcases he with rfl | rfl | rfl | rfl | rfl | rfl
    · exact rightZT hT
    all_goals exact rightO hT (by omega)
  · rw [List.pairwise_iff_getElem]
    intro i j hi hj _
    rw [lsE_term (List.getElem_mem hi), lsE_term (List.getElem_mem hj)]
    exact Int.le_refl _
theorem lsE_len {T : Nat} : (lsE T).length = 6 := rfl
theorem late_lead {T : Nat} (hT : 1 ≤ T ∧ T ≤ 1048576) : leadR (log0 2 0 []) T = (ldr T 0, 1, 0) := by
  have h1 : ¬ ((T : Int) < 1 ∨ 1048576 < (T : Int) ∨ (T : Int) < termAt (log0 2 0 []).ents (log0 2 0 []).ents.length) := by
    simp [log0, termAt]; omega
  unfold leadR
  rw [if_neg h1, if_neg (by simp [log0])]
  simp [leadS, log0, ldr, lsE]
def propE (k : Nat) : Ent := ⟨0, 1, 0, k, 0, []⟩
theorem late_prop {T k : Nat} (hT : 1 ≤ T ∧ T ≤ 1048576) (hk : k < 5) : proposeR (ldr T k) (propE (k + 1)) = (ldr T (k + 1), ((k + 2 : Nat) : Int), 0) := by
  have he : (propE (k + 1)).at_ T = opE T (k + 1) := by simp [propE, Ent.at_, opE]
  have hr : rightE (ldr T k).n ((propE (k + 1)).at_ (ldr T k).leads) := by
    show rightE 2 ((propE (k + 1)).at_ T)
    rw [he]; exact rightO hT (by omega)
  unfold proposeR
  rw [if_neg (by show ¬ T = 0; omega), if_neg (fun h => h.elim (by simp [propE]) (fun h => h hr)), if_neg (by simp [ldr, lsE]; omega)]
  have : (lsE T).take (k + 1) ++ [opE T (k + 1)] = (lsE T).take (k + 1 + 1) := by
    have hc : k = 0 ∨ k = 1 ∨ k = 2 ∨ k = 3 ∨ k = 4 := by omega
    rcases hc with rfl | rfl | rfl | rfl | rfl <;> rfl
  show ({ ldr T k with ents := (lsE T).take (k + 1) ++ [(propE (k + 1)).at_ T] }, _, _) = _
  rw [he, this]
  simp only [ldr, Prod.mk.injEq, true_and, and_true]
  simp [lsE_len]; omega
theorem late_tm {T k : Nat} : LogTm (ldr T k) := fun _ e he => by rw [lsE_term (List.mem_of_mem_take he)]; exact Int.le_refl _
theorem late_send {T k : Nat} : sendM (ldr T (k + 1)) 1 = msgK T k := by
  have h9 : ∀ l : List Ent, l.length ≤ 6 → (l.drop (1 - 1)).take 16 = l := fun l hl => by
    rw [show 1 - 1 = 0 from rfl, List.drop_zero, List.take_of_length_le (by omega)]
  have h8 := h9 ((lsE T).take (k + 1 + 1)) (by rw [List.length_take, lsE_len]; omega)
  show (⟨7, 0, 1, T, 0, 0, 0, false, (((lsE T).take (k + 1 + 1)).drop (1 - 1)).take 16⟩ : Msg) = _
  rw [h8]; rfl
theorem late_fit {b : List Ent} {T has k : Nat} (hT : 1 ≤ T ∧ T ≤ 1048576) : fitM (folw b T has) (msgK T k) :=
  ⟨⟨rfl, rfl, ⟨by simp [msgK], by simp [msgK, folw], by simp [msgK, folw]⟩, by simp [msgK]; omega, by simp [msgK]; omega⟩, (lsE_val hT).take _, fun e he => by rw [lsE_term (List.mem_of_mem_take he)]; simp [msgK], by simp [fitC, msgK]⟩
theorem late_Fits {b : List Ent} {T has k : Nat} (hT : 1 ≤ T ∧ T ≤ 1048576) : Fits (folw b T has) (msgK T k) := ⟨late_fit hT, rfl, by show (0 : Int) ≤ _; omega, by simp [msgK, termAt]⟩
theorem late_newC {b : List Ent} {T has k : Nat} : newC (folw b T has) (msgK T k) = 0 := by simp [newC, folw, msgK]; omega
theorem late_ans {b : List Ent} {T has k : Nat} (hk : k < 5) : ansM (folw b T has) (msgK T k) true ((msgK T k).index + (msgK T k).ents.length) = ansK T k := by
  have : (((lsE T).take (k + 2)).length : Int) = k + 2 := by simp [lsE_len]; omega
  show (⟨8, 1, 0, T, 0 + (((lsE T).take (k + 2)).length : Int), 0, 0, true, []⟩ : Msg) = _
  rw [this, Int.zero_add]; rfl
/-- What the follower does with a message of the leader. -/
theorem late_ap {b : List Ent} {T has k : Nat} (hT : 1 ≤ T ∧ T ≤ 1048576) (hb : ∀ e ∈ b, e.term < T) (hh : has = 0 ∨ 2 ≤ has ∧ has ≤ 6) (hk : k < 5) :
    ∃ f : Int, ApR (folw b T has) (msgK T k) (folw b T (max has (k + 2))) (ansK T k) f 0 ∧ 0 ≤ f ∧ (0 < f ↔ has < k + 2) := by
  have hF : Fits (folw b T has) (msgK T k) := late_Fits hT
  have hml : (msgK T k).ents.length = k + 2 := by show ((lsE T).take (k + 2)).length = _; simp [lsE_len]; omega
  have hix : (msgK T k).index.toNat = 0 := rfl
  have hme : ∀ i, i < k + 2 → ∃ e, (msgK T k).ents[i]? = some e ∧ (lsE T)[i]? = some e := fun i hi => by
    have hi6 : i < (lsE T).length := by rw [lsE_len]; omega
    exact ⟨_, by show ((lsE T).take (k + 2))[i]? = _; rw [List.getElem?_take, if_pos hi, List.getElem?_eq_getElem hi6], List.getElem?_eq_getElem hi6⟩
  rcases hh with rfl | ⟨h2, h6⟩
  · have := ApR.put (g := folw b T 0) (m := msgK T k) 0 hF (by omega) (fun j hj => by omega) (fun ⟨e, a, h1, h2, h3⟩ => by
      have g1 := lsE_term (List.mem_of_mem_take (List.mem_of_getElem? h1))
      have g2 := hb a (List.mem_of_getElem? h2)
      omega) (by rw [hix]; simp [folw]) (by have h9 : (msgK T k).index = 0 := rfl; rw [h9, hml]; omega)
    rw [late_ans hk, late_newC, hix] at this
    refine ⟨((0 + 1 + 0 : Nat) : Int), ?_, by omega, by omega⟩
    rw [show max 0 (k + 2) = k + 2 by omega]
    have e1 : (folw b T (k + 2)) = { folw b T 0 with ents := (folw b T 0).ents.take (0 + 0) ++ (msgK T k).ents.drop 0, commit := 0 } := by
      simp [folw, msgK]
    rw [e1]; exact this
  · have hfe : (folw b T has).ents = (lsE T).take has := if_neg (by omega)
    have hmat : ∀ j, j < has → j < k + 2 → Mat (folw b T has) (msgK T k) j := fun j hj hjk => by
      obtain ⟨e, h1, h3⟩ := hme j hjk
      exact ⟨e, e, h1, by rw [hix, hfe, Nat.zero_add, List.getElem?_take, if_pos hj]; exact h3, rfl⟩
    by_cases hlt : has < k + 2
    · have := ApR.put (g := folw b T has) (m := msgK T k) has hF (by omega) (fun j hj => hmat j hj (by omega)) (fun ⟨e, a, h1, h2, h3⟩ => by
        rw [hix, hfe, Nat.zero_add, List.getElem?_take, if_neg (by omega)] at h2
        cases h2) (by rw [hix]; simp [folw]) (by have h9 : (msgK T k).index = 0 := rfl; rw [h9, hml]; omega)
      rw [late_ans hk, late_newC, hix] at this
      refine ⟨((0 + 1 + has : Nat) : Int), ?_, by omega, by omega⟩
      rw [show max has (k + 2) = k + 2 by omega]
      have e1 : (folw b T (k + 2)) = { folw b T has with ents := (folw b T has).ents.take (0 + has) ++ (msgK T k).ents.drop has, commit := 0 } := by
        rw [hfe]
        have : (lsE T).take (k + 2) = ((lsE T).take has).take (0 + has) ++ ((lsE T).take (k + 2)).drop has := by
          rw [Nat.zero_add, List.take_take, Nat.min_self]
          have h9 : (lsE T).take has = ((lsE T).take (k + 2)).take has := by rw [List.take_take, Nat.min_eq_left (by omega)]
          rw [h9, List.take_append_drop]
        simp only [folw, msgK]
        rw [if_neg (by omega), ← this]
      rw [e1]; exact this
    · have := ApR.same (g := folw b T has) (m := msgK T k) hF (fun j hj => hmat j (by omega) (by omega))
      rw [late_ans hk, late_newC] at this
      refine ⟨0, ?_, by omega, by omega⟩
      rw [show max has (k + 2) = has by omega]
      exact this
theorem sentK_snoc {T k : Nat} : sentK T (k + 1) = sentK T k ++ [(msgK T k, zs0)] := by simp [sentK, List.range_succ]
theorem sentK_len {T k : Nat} : (sentK T k).length = k := by simp [sentK]
theorem sentK_get {T k j : Nat} (h : j < k) : (sentK T k)[j]? = some (msgK T j, zs0) := by simp [sentK, h]
theorem msgK_rg {T k : Nat} (hT : 1 ≤ T ∧ T ≤ 1048576) : (msgK T k).rg := ⟨by simp [rng, msgK], by simp [rng, msgK], by simp [rng, msgK], by simp [rng, msgK]; omega, by simp [rng, msgK], by simp [rng, msgK], by simp [rng, msgK]⟩
end Go.Proofs.Ytdoefbnjehngmaa
