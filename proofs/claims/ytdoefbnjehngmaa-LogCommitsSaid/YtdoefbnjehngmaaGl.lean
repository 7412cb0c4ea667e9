/- Contracts of package replog: Append; conditions: the log and the message lie in the heap. -/
import Derived.Test.YtdoefbnjehngmaaGk
namespace Go.Proofs.Ytdoefbnjehngmaa
open Go Go.CF
set_option maxRecDepth 20000

/-- Entry j of the message is there already. -/
def Mat (g : LogS) (m : Msg) (j : Nat) : Prop := ∃ e a, m.ents[j]? = some e ∧ g.ents[m.index.toNat + j]? = some a ∧ a.term = e.term
noncomputable instance (g : LogS) (m : Msg) (j : Nat) : Decidable (Mat g m j) := Classical.propDecidable _
def ansM (g : LogS) (m : Msg) (gr : Bool) (idx : Int) : Msg := { kind := 8, frm := g.i, to := m.frm, term := m.term, index := idx, logt := 0, commit := 0, granted := gr, ents := [] }
/-- Where a message fits behind an entry. -/
structure Fits (g : LogS) (m : Msg) : Prop where
  fit : fitM g m
  ld : g.leads = 0
  le : m.index ≤ g.ents.length
  tm : termAt g.ents m.index.toNat = m.logt
def newC (g : LogS) (m : Msg) : Nat := max g.commit (min m.commit (m.index + m.ents.length)).toNat
inductive ApR (g : LogS) (m : Msg) : LogS → Msg → Int → Int → Prop where
  | bad : ¬ fitM g m → ApR g m g msg0 0 1
  | leads : fitM g m → 0 < g.leads → ApR g m g msg0 0 9
  | off : fitM g m → g.leads = 0 → ((g.ents.length : Int) < m.index ∨ termAt g.ents m.index.toNat ≠ m.logt) → ApR g m g (ansM g m false (min (m.index - 1) g.ents.length)) 0 0
  | same : Fits g m → (∀ j, j < m.ents.length → Mat g m j) → ApR g m { g with commit := newC g m } (ansM g m true (m.index + m.ents.length)) 0 0
  | corrupt (k : Nat) : Fits g m → k < m.ents.length → (∀ j, j < k → Mat g m j) → ¬ Mat g m k → m.index.toNat + 1 + k ≤ g.commit → ApR g m g msg0 0 13
  | large (k : Nat) : Fits g m → k < m.ents.length → (∀ j, j < k → Mat g m j) → ¬ Mat g m k → ¬ m.index.toNat + 1 + k ≤ g.commit → 1024 < m.index + m.ents.length → ApR g m g msg0 0 8
  | put (k : Nat) : Fits g m → k < m.ents.length → (∀ j, j < k → Mat g m j) → ¬ Mat g m k → ¬ m.index.toNat + 1 + k ≤ g.commit → m.index + m.ents.length ≤ 1024 →
      ApR g m { g with ents := g.ents.take (m.index.toNat + k) ++ m.ents.drop k, commit := newC g m } (ansM g m true (m.index + m.ents.length)) (m.index.toNat + 1 + k : Nat) 0

theorem mats_le {g : LogS} {m : Msg} {k : Nat} (hle : m.index.toNat ≤ g.ents.length) (h : ∀ j, j < k → Mat g m j) : m.index.toNat + k ≤ g.ents.length := by
  cases k with
  | zero => simpa using hle
  | succ k =>
    obtain ⟨e, a, _, h2, _⟩ := h k (by omega)
    have := (List.getElem?_eq_some_iff.1 h2).1
    omega
theorem put_val {g : LogS} {m : Msg} {k : Nat} (hok : LogOK g) (hf : Fits g m) (hk : k < m.ents.length) (h : ∀ j, j < k → Mat g m j) (hl : m.index + m.ents.length ≤ 1024) : valE g.n (g.ents.take (m.index.toNat + k) ++ m.ents.drop k) := by
  have hC := hf.fit.2.2.2
  have hle := hf.le
  unfold fitC at hC
  have hmk := mats_le (by omega) h
  have hlen : (g.ents.take (m.index.toNat + k)).length = m.index.toNat + k := by simp; omega
  refine ⟨fun j e hj he => ?_, by rw [List.length_append, hlen]; simp; omega⟩
  rw [List.getElem?_append, hlen] at he
  by_cases hjk : j < m.index.toNat + k
  · rw [if_pos hjk, List.getElem?_take, if_pos hjk] at he
    obtain ⟨g1, g2⟩ := hok.val.1 j e (List.getElem?_eq_some_iff.1 he).1 he
    refine ⟨g1, fun e' hp he' => g2 e' hp ?_⟩
    rw [List.getElem?_append, hlen, if_pos (by omega), List.getElem?_take, if_pos (by omega)] at he'
    exact he'
  · rw [if_neg hjk, List.getElem?_drop] at he
    obtain ⟨g1, g2⟩ := hf.fit.2.1.1 _ e (List.getElem?_eq_some_iff.1 he).1 he
    refine ⟨g1, fun e' hp he' => ?_⟩
    rw [List.getElem?_append, hlen] at he'
    by_cases hj1 : j - 1 < m.index.toNat + k
    · rw [if_pos hj1, List.getElem?_take, if_pos hj1] at he'
      have hje : j = m.index.toNat + k := by omega
      subst hje
      cases k with
      | zero =>
        have hB := hf.fit.2.2.1 e (List.mem_of_getElem? he)
        have ht := hf.tm
        obtain ⟨q, hq⟩ : ∃ q, m.index.toNat = q + 1 := ⟨m.index.toNat - 1, by omega⟩
        rw [hq] at he' ht
        simp only [Nat.add_zero, Nat.add_sub_cancel] at he'
        rw [termAt_get he'] at ht
        omega
      | succ k =>
        obtain ⟨e1, a1, h1, h2, h3⟩ := h k (by omega)
        rw [show m.index.toNat + (k + 1) - 1 = m.index.toNat + k by omega, h2] at he'
        cases he'
        rw [h3]
        refine g2 e1 (by omega) ?_
        rw [← h1]
        congr 1
        omega
    · rw [if_neg hj1, List.getElem?_drop] at he'
      refine g2 e' (by omega) ?_
      rw [← he']
      congr 1
      omega
theorem ap_ok {g g' : LogS} {m a : Msg} {f c : Int} (hok : LogOK g) (h : ApR g m g' a f c) : LogOK g' := by
  cases h with
  | bad => exact hok
  | leads => exact hok
  | off => exact hok
  | corrupt => exact hok
  | large => exact hok
  | same hf hm =>
    have hC := hf.fit.2.2.2
    unfold fitC at hC
    have hle := hf.le
    have := mats_le (by omega) hm
    have hc := hok.cm
    exact ⟨hok.n5, hok.i, hok.val, by simp only [newC]; omega, hok.ld, fun h0 => by have := hf.ld; simp at h0; omega⟩
  | put k hf hk hm hn hc hl =>
    have hC := hf.fit.2.2.2
    unfold fitC at hC
    have hle := hf.le
    have h1 := mats_le (by omega) hm
    have hcm := hok.cm
    exact ⟨hok.n5, hok.i, put_val hok hf hk hm hl, by simp only [newC, List.length_append, List.length_take, List.length_drop]; omega, hok.ld, fun h0 => by have := hf.ld; simp at h0; omega⟩
end Go.Proofs.Ytdoefbnjehngmaa
