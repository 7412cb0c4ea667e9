/- Elections as plain data: requests, answers, and what a candidate hears; no conditions. -/
import Derived.Test.YtaopehadegknoaaEl5
namespace Go.Proofs.Ytaopehadegknoaa
open Go Go.CF

/-! ### Elections, plain: no program in sight -/
def NodeS.fresh (s : NodeS) (t : Int) : NodeS := { s with term := t, vote := -1, role := 0, leader := -1, votes := [] }
theorem see_fresh {s : NodeS} {t : Int} (h1 : s.term < t) (h2 : t ≤ 1048576) : s.see t = s.fresh t := if_pos ⟨h1, h2⟩
theorem see_same {s : NodeS} {t : Int} (h1 : ¬ s.term < t) : s.see t = s := if_neg (fun h => h1 h.1)

/-- A node whose term is behind is asked. -/
theorem receive_ask {s : NodeS} {m : Msg} {voters : List Int} {index last : Int} (hk : m.kind = 5) (hto : m.to = s.i) (ho : s.other m.frm) (h1 : s.term < m.term) (h2 : m.term ≤ 1048576) (h3 : 1 ≤ m.term) :
    s.receive m voters index last = (if upTo m index last then { s.fresh m.term with vote := m.frm, silent := 0 } else s.fresh m.term,
      [{ kind := 6, frm := s.i, to := m.frm, term := m.term, index := 0, logTerm := 0, commit := 0, granted := decide (upTo m index last) }]) := by
  have hh : s.heeds m := ⟨.inl hk, hto, ho, h3, h2⟩
  have hg : (s.fresh m.term).grants m index last ↔ upTo m index last := by
    unfold NodeS.grants NodeS.fresh
    simp
  unfold NodeS.receive
  rw [if_pos hh, if_pos hk, see_fresh h1 h2]
  unfold NodeS.asked NodeS.reply
  have e1 : (if (s.fresh m.term).grants m index last then ({ s.fresh m.term with vote := m.frm, silent := 0 } : NodeS) else s.fresh m.term) = if upTo m index last then { s.fresh m.term with vote := m.frm, silent := 0 } else s.fresh m.term := by
    by_cases h : upTo m index last
    · rw [if_pos h, if_pos (hg.2 h)]
    · rw [if_neg h, if_neg (fun h' => h (hg.1 h'))]
  rw [e1]
  have e2 : decide ((s.fresh m.term).grants m index last) = decide (upTo m index last) := decide_eq_decide.2 hg
  rw [e2]
  rfl

/-- A candidate hears an answer of its own term. -/
theorem receive_answer {s : NodeS} {m : Msg} {voters : List Int} {index last : Int} (hk : m.kind = 6) (hto : m.to = s.i) (ho : s.other m.frm) (h1 : m.term = s.term) (h2 : m.term ≤ 1048576) (h3 : 1 ≤ m.term) :
    s.receive m voters index last = (s.voted m voters, []) := by
  have hh : s.heeds m := ⟨.inr hk, hto, ho, h3, h2⟩
  unfold NodeS.receive
  rw [if_pos hh, if_neg (by omega), see_same (by omega)]

theorem tick_wait {s : NodeS} {voters : List Int} {index term : Int} (h1 : s.role ≠ 2) (h2 : s.silent + 1 < 10 + 3 * s.i) : s.tick voters index term = ({ s with silent := s.silent + 1 }, []) := by
  unfold NodeS.tick; rw [if_neg h1, if_pos h2]
theorem tick_stand {s : NodeS} {voters : List Int} {index term : Int} (h1 : s.role ≠ 2) (h2 : ¬ s.silent + 1 < 10 + 3 * s.i) (h3 : s.i ∈ voters) (h4 : s.term < 1048576) :
    s.tick voters index term = if maj voters [s.i] then (s.stand.win voters, []) else (s.stand, asks s.stand index term voters) := by
  unfold NodeS.tick; rw [if_neg h1, if_neg h2, if_pos ⟨h3, h4⟩]

theorem cnt_mono {voters a b : List Int} (h : ∀ x ∈ a, x ∈ b) : cnt voters a ≤ cnt voters b := by
  induction voters with
  | nil => simp [cnt]
  | cons v vs ih =>
    simp only [cnt, List.filter_cons] at *
    by_cases h1 : v ∈ a
    · simp [h1, h v h1]; exact ih
    · by_cases h2 : v ∈ b
      · simp [h1, h2]; omega
      · simp [h1, h2]; exact ih
theorem maj_mono {voters a b : List Int} (h : ∀ x ∈ a, x ∈ b) (hm : maj voters a) : maj voters b := by
  have := cnt_mono (voters := voters) h
  unfold maj at *; omega

/-- A candidate hears answers, one behind the other. -/
def hears (voters : List Int) (c : NodeS) (l : List Msg) : NodeS := l.foldl (fun s m => s.voted m voters) c
def grantedBy (l : List Msg) : List Int := (l.filter (fun m => m.granted)).map (·.frm)
structure Heard (voters : List Int) (c s : NodeS) (l : List Msg) : Prop where
  same : s.term = c.term ∧ s.i = c.i ∧ s.rep = c.rep ∧ s.vote = c.vote ∧ s.silent = c.silent
  res : (s.role = 1 ∧ s.leader = c.leader ∧ s.votes = c.votes ++ grantedBy l ∧ ¬ maj voters s.votes) ∨ (s.role = 2 ∧ s.leader = s.i ∧ maj voters s.votes ∧ (∀ x ∈ s.votes, x ∈ c.votes ++ grantedBy l) ∧ maj voters (c.votes ++ grantedBy l))
  len : s.votes.length ≤ c.votes.length + l.length
theorem Heard.nil {voters : List Int} {c : NodeS} (hr : c.role = 1) (hm : ¬ maj voters c.votes) : Heard voters c c [] := ⟨⟨rfl, rfl, rfl, rfl, rfl⟩, .inl ⟨hr, rfl, by simp [grantedBy], hm⟩, by simp⟩
theorem Heard.more {voters : List Int} {c s : NodeS} {l : List Msg} {m : Msg} (h : Heard voters c s l) (ht : m.term = c.term) : Heard voters c (s.voted m voters) (l ++ [m]) := by
  obtain ⟨⟨h1, h2, h3, h4, h5⟩, hres, hlen⟩ := h
  have hlm : (l ++ [m]).length = l.length + 1 := by simp
  have hg : grantedBy (l ++ [m]) = grantedBy l ++ if m.granted then [m.frm] else [] := by
    simp only [grantedBy, List.filter_append, List.map_append, List.filter_cons, List.filter_nil]
    by_cases h : m.granted <;> simp [h]
  rcases hres with ⟨h6, h7, h8, h9⟩ | ⟨h6, h7, h8, h9, h10⟩
  · by_cases hgr : m.granted = true
    · have htk : s.takes m := ⟨h6, by rw [ht, h1], hgr⟩
      unfold NodeS.voted
      rw [if_pos htk]
      unfold NodeS.win
      simp only [h8]
      split
      · rename_i hm
        refine ⟨⟨h1, h2, h3, h4, h5⟩, .inr ⟨rfl, rfl, hm, ?_, ?_⟩, by rw [h8] at hlen; simp only [List.length_append, List.length_singleton] at hlen ⊢; omega⟩
        · intro x hx; rw [hg, if_pos hgr, ← List.append_assoc]; exact hx
        · rw [hg, if_pos hgr, ← List.append_assoc]; exact hm
      · rename_i hm
        exact ⟨⟨h1, h2, h3, h4, h5⟩, .inl ⟨h6, h7, by rw [hg, if_pos hgr, ← List.append_assoc], hm⟩, by rw [h8] at hlen; simp only [List.length_append, List.length_singleton] at hlen ⊢; omega⟩
    · have htk : ¬ s.takes m := fun h => hgr h.2.2
      unfold NodeS.voted
      rw [if_neg htk]
      exact ⟨⟨h1, h2, h3, h4, h5⟩, .inl ⟨h6, h7, by rw [hg, if_neg hgr, List.append_nil]; exact h8, h9⟩, by omega⟩
  · have htk : ¬ s.takes m := fun h => by have := h.1; omega
    unfold NodeS.voted
    rw [if_neg htk]
    refine ⟨⟨h1, h2, h3, h4, h5⟩, .inr ⟨h6, h7, h8, fun x hx => ?_, ?_⟩, by omega⟩
    · have := h9 x hx
      rw [hg, ← List.append_assoc]; exact List.mem_append_left _ this
    · exact maj_mono (fun x hx => by rw [hg, ← List.append_assoc]; exact List.mem_append_left _ hx) h10
end Go.Proofs.Ytaopehadegknoaa
