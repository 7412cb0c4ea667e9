/- The rounds of ElectionLogs as plain data; no conditions. -/
import Derived.Test.YtaopehadegknoaaEleQ
namespace Go.Proofs.Ytaopehadegknoaa
open Go Go.CF

/-! ### The rounds of ElectionLogs -/
def best (I T : Nat → Int) (n j : Nat) : Prop := ∀ k, k < n → bt I T j k
theorem bt_trans {I T : Nat → Int} {i j k : Nat} (h1 : bt I T i j) (h2 : bt I T j k) : bt I T i k := by unfold bt at *; omega
theorem bt_total (I T : Nat → Int) (i j : Nat) : bt I T i j ∨ bt I T j i := by unfold bt; omega
theorem best_some (I T : Nat → Int) : ∀ n, 0 < n → ∃ j, j < n ∧ best I T n j
  | 0, h => by omega
  | 1, _ => ⟨0, by omega, fun k hk => by have : k = 0 := by omega
                                         subst this; exact bt_self I T 0⟩
  | n + 2, _ => by
    obtain ⟨j, hj, hb⟩ := best_some I T (n + 1) (by omega)
    rcases bt_total I T j (n + 1) with h | h
    · exact ⟨j, by omega, fun k hk => by
        by_cases e : k = n + 1
        · rw [e]; exact h
        · exact hb k (by omega)⟩
    · exact ⟨n + 1, by omega, fun k hk => by
        by_cases e : k = n + 1
        · rw [e]; exact bt_self I T _
        · exact bt_trans h (hb k (by omega))⟩

structure RI (I T : Nat → Int) (n R i : Nat) (ss : List NodeS) (t : Int) : Prop where
  len : ss.length = n
  t0 : 0 ≤ t
  t1 : t ≤ 5 * R + i
  at_ : ∀ (j : Nat) (s : NodeS), ss[j]? = some s → s.rep = n ∧ s.i = j ∧ s.term = t ∧ s.role ≠ 2 ∧ 0 ≤ s.silent ∧ s.silent ≤ 22 ∧ s.votes.length ≤ 10
  best_ : ∀ (j : Nat) (s : NodeS), ss[j]? = some s → best I T n j → s.silent = R + (if j < i then 1 else 0)

theorem RI.start (I T : Nat → Int) {n : Nat} : RI I T n 0 0 ((List.range n).map fun (i : Nat) => node0 n i 0 (-1)) 0 := by
  have key : ∀ (j : Nat) (s : NodeS), ((List.range n).map fun (i : Nat) => node0 n i 0 (-1))[j]? = some s → s = node0 n j 0 (-1) := by
    intro j s h
    simp only [List.getElem?_map, Option.map_eq_some_iff] at h
    obtain ⟨k, hk, rfl⟩ := h
    have hj : j < n := by
      have := (List.getElem?_eq_some_iff.1 hk).1
      simpa using this
    rw [List.getElem?_range hj] at hk
    cases hk; rfl
  refine ⟨by simp, by omega, by omega, fun j s h => ?_, fun j s h _ => ?_⟩
  · rw [key j s h]; simp [node0]
  · rw [key j s h]; simp [node0]
theorem RI.round {I T : Nat → Int} {n R : Nat} {ss : List NodeS} {t : Int} (h : RI I T n R n ss t) (hn : n ≤ 5) : RI I T n (R + 1) 0 ss t := by
  refine ⟨h.len, h.t0, by have := h.t1; omega, h.at_, fun j s hj hb => ?_⟩
  have h1 := h.best_ j s hj hb
  have h2 := (List.getElem?_eq_some_iff.1 hj).1
  rw [h.len] at h2
  rw [if_pos h2] at h1
  rw [h1]; simp
theorem RI.bound {I T : Nat → Int} {n R : Nat} {ss : List NodeS} {t : Int} (h : RI I T n R 0 ss t) (hn : 0 < n) : R ≤ 22 := by
  obtain ⟨j, hj, hb⟩ := best_some I T n hn
  have hs : ss[j]? = some (ss[j]'(by rw [h.len]; exact hj)) := List.getElem?_eq_getElem _
  have h1 := h.best_ j _ hs hb
  have h2 := (h.at_ j _ hs).2.2.2.2.2.1
  simp at h1
  omega
theorem RI.wait {I T : Nat → Int} {n R i : Nat} {ss : List NodeS} {t : Int} {s : NodeS} (h : RI I T n R i ss t) (hs : ss[i]? = some s) (hi : i < n) (hn : n ≤ 5) (hw : s.silent + 1 < 10 + 3 * s.i) : RI I T n R (i + 1) (ss.set i { s with silent := s.silent + 1 }) t := by
  have key : ∀ j y, (ss.set i { s with silent := s.silent + 1 })[j]? = some y → (j ≠ i ∧ ss[j]? = some y) ∨ (j = i ∧ y = { s with silent := s.silent + 1 }) := by
    intro j y hj
    rw [List.getElem?_set] at hj
    split at hj
    · rename_i e; subst e
      split at hj
      · cases hj; exact .inr ⟨rfl, rfl⟩
      · cases hj
    · rename_i e; exact .inl ⟨fun e' => e e'.symm, hj⟩
  obtain ⟨a1, a2, a3, a4, a5, a6, a7⟩ := h.at_ i s hs
  refine ⟨by rw [List.length_set]; exact h.len, h.t0, by have := h.t1; omega, fun j y hj => ?_, fun j y hj hb => ?_⟩
  · rcases key j y hj with ⟨h1, h2⟩ | ⟨rfl, rfl⟩
    · exact h.at_ j y h2
    · exact ⟨a1, a2, a3, a4, by simp only; omega, by simp only; omega, a7⟩
  · rcases key j y hj with ⟨h1, h2⟩ | ⟨rfl, rfl⟩
    · rw [h.best_ j y h2 hb]
      congr 1
      by_cases e : j < i
      · rw [if_pos e, if_pos (by omega)]
      · rw [if_neg e, if_neg (by omega)]
    · have := h.best_ j s hs hb
      simp at this ⊢
      omega
theorem RI.lost {I T : Nat → Int} {n R i : Nat} {ss : List NodeS} {t : Int} {s s' : NodeS} (h : RI I T n R i ss t) (hs : ss[i]? = some s) (hi : i < n) (hn : n ≤ 5)
    (hh : Heard (rngI n) s.stand s' ((others n i).map (ans I T (t + 1) i))) (hr : s'.role ≠ 2) : RI I T n R (i + 1) (mid ss (aft I T (t + 1) i) i s' (others n i)) (t + 1) := by
  obtain ⟨a1, a2, a3, a4, a5, a6, a7⟩ := h.at_ i s hs
  obtain ⟨b1, b2, b3, b4, b5⟩ := hh.same
  have hnb : ¬ best I T n i := by
    intro hb
    rcases hh.res with ⟨_, _, c3, c4⟩ | ⟨c1, _⟩
    · rw [c3] at c4
      exact c4 (by simp only [NodeS.stand, a2]; exact granted_all hi hb)
    · exact hr c1
  have key : ∀ j y, (mid ss (aft I T (t + 1) i) i s' (others n i))[j]? = some y → (j = i ∧ y = s') ∨ (j ≠ i ∧ ∃ z, ss[j]? = some z ∧ y = aft I T (t + 1) i j z) := by
    intro j y hj
    have hjl : j < ss.length := by
      have := (List.getElem?_eq_some_iff.1 hj).1
      rwa [mid_length] at this
    rw [mid_get (List.getElem?_eq_getElem hjl)] at hj
    by_cases e : j = i
    · rw [if_pos e] at hj; cases hj; exact .inl ⟨e, rfl⟩
    · rw [if_neg e, if_pos (others_mem.2 ⟨by rw [← h.len]; exact hjl, e⟩)] at hj
      cases hj; exact .inr ⟨e, _, List.getElem?_eq_getElem hjl, rfl⟩
  refine ⟨by rw [mid_length]; exact h.len, by have := h.t0; omega, by have := h.t1; omega, fun j y hj => ?_, fun j y hj hb => ?_⟩
  · rcases key j y hj with ⟨rfl, rfl⟩ | ⟨h1, z, hz, rfl⟩
    · simp only [NodeS.stand] at b1 b2 b3 b5
      have hl := hh.len
      have hol : (others n j).length ≤ n := by have := List.length_filter_le (fun k => decide (k ≠ j)) (List.range n); simpa [others] using this
      simp only [NodeS.stand, List.length_map, List.length_singleton] at hl
      refine ⟨by omega, by omega, by omega, hr, by omega, by omega, by omega⟩
    · obtain ⟨z1, z2, z3, z4, z5, z6, z7⟩ := h.at_ j z hz
      unfold aft
      split <;> simp [NodeS.fresh, z1, z2, z5, z6]
  · rcases key j y hj with ⟨rfl, rfl⟩ | ⟨h1, z, hz, rfl⟩
    · exact absurd hb hnb
    · have hb1 : ¬ bt I T i j := fun hb1 => hnb fun k hk => bt_trans hb1 (hb k hk)
      have h2 := h.best_ j z hz hb
      unfold aft
      rw [if_neg hb1]
      simp only [NodeS.fresh]
      rw [h2]
      congr 1
      by_cases e : j < i
      · rw [if_pos e, if_pos (by omega)]
      · rw [if_neg e, if_neg (by omega)]
theorem won_maj {I T : Nat → Int} {n i : Nat} {t1 : Int} {c s' : NodeS} (hi : i < n) (hc : c.votes = [(i : Int)]) (hh : Heard (rngI n) c s' ((others n i).map (ans I T t1 i))) (hr : s'.role = 2) : maj (rngI n) (worse I T n i) := by
  rcases hh.res with ⟨c1, _⟩ | ⟨_, _, _, _, c5⟩
  · omega
  · rw [hc] at c5
    exact maj_mono (granted_worse hi (fun j hj => (others_mem.1 hj).1)) c5
end Go.Proofs.Ytaopehadegknoaa
