/- Promises of a node as plain data: what each call keeps; condition: the node keeps its invariants. -/
import Derived.Test.YtaopehadegknoaaEleP
namespace Go.Proofs.Ytaopehadegknoaa
open Go Go.CF

/-- What holds of a node at all times. -/
structure PI (s : NodeS) : Prop where
  rep : 1 ≤ s.rep ∧ s.rep ≤ 5
  i : 0 ≤ s.i ∧ s.i < s.rep
  term : 0 ≤ s.term ∧ s.term ≤ 1048576
  vote : -1 ≤ s.vote ∧ s.vote < s.rep
  silent : 0 ≤ s.silent ∧ s.silent ≤ 22
  lead : s.role = 2 ↔ s.leader = s.i
  own : s.role ≠ 0 → s.vote = s.i

theorem PI.wf {s : NodeS} (h : PI s) : s.wf := ⟨h.rep, h.i, h.term, h.silent⟩
theorem PI.start {rep i term vote : Int} (h : promiseOK rep i term vote) : PI (node0 rep i term vote) := by
  obtain ⟨h1, h2, h3, h4, h5, h6, h7, h8, h9⟩ := h
  refine ⟨⟨h1, h2⟩, ⟨h3, h4⟩, ⟨h5, h6⟩, ⟨h7, h8⟩, ⟨by simp [node0], by simp [node0]⟩, ?_, by simp [node0]⟩
  simp only [node0]; omega

/-- What a call keeps. -/
structure Keeps (s s' : NodeS) : Prop where
  pi : PI s'
  same : s'.i = s.i ∧ s'.rep = s.rep
  up : s.term ≤ s'.term
  vote : s'.term = s.term → s.vote ≠ -1 → s'.vote = s.vote
theorem Keeps.refl {s : NodeS} (h : PI s) : Keeps s s := ⟨h, ⟨rfl, rfl⟩, Int.le_refl _, fun _ _ => rfl⟩
theorem Keeps.trans {a b c : NodeS} (h : Keeps a b) (k : Keeps b c) : Keeps a c :=
  ⟨k.pi, ⟨k.same.1.trans h.same.1, k.same.2.trans h.same.2⟩, Int.le_trans h.up k.up, fun he hv => by
    have h1 := h.up
    have h2 := k.up
    have h3 := h.vote (by omega) hv
    rw [k.vote (by omega) (by rw [h3]; exact hv), h3]⟩

theorem keeps_see {s : NodeS} (h : PI s) (t : Int) : Keeps s (s.see t) := by
  unfold NodeS.see
  split
  · rename_i ht
    have h1 := h.rep; have h2 := h.i; have h3 := h.term
    exact ⟨⟨h.rep, h.i, ⟨by simp only; omega, by simp only; omega⟩, ⟨by simp only; omega, by simp only; omega⟩, h.silent, by simp only; omega, by simp⟩, ⟨rfl, rfl⟩, by simp only; omega, fun he => by simp only at he; omega⟩
  · exact Keeps.refl h
theorem keeps_win {s : NodeS} (h : PI s) (hr : s.role ≠ 0) (voters : List Int) : Keeps s (s.win voters) := by
  unfold NodeS.win
  split
  · exact ⟨⟨h.rep, h.i, h.term, h.vote, h.silent, by simp, fun _ => h.own hr⟩, ⟨rfl, rfl⟩, Int.le_refl _, fun _ _ => rfl⟩
  · exact Keeps.refl h
theorem keeps_stand {s : NodeS} (h : PI s) (ht : s.term < 1048576) : Keeps s s.stand := by
  have h1 := h.rep; have h2 := h.i; have h3 := h.term
  unfold NodeS.stand
  exact ⟨⟨h.rep, h.i, ⟨by simp only; omega, by simp only; omega⟩, ⟨by simp only; omega, by simp only; omega⟩, ⟨by simp only; omega, by simp only; omega⟩, by simp only; omega, by simp⟩, ⟨rfl, rfl⟩, by simp only; omega, fun he => by simp only at he; omega⟩
theorem keeps_silent {s : NodeS} (h : PI s) {k : Int} (hk : 0 ≤ k ∧ k ≤ 22) : Keeps s { s with silent := k } := ⟨⟨h.rep, h.i, h.term, h.vote, hk, h.lead, h.own⟩, ⟨rfl, rfl⟩, Int.le_refl _, fun _ _ => rfl⟩

theorem keeps_tick {s : NodeS} (h : PI s) (voters : List Int) (index term : Int) : Keeps s (s.tick voters index term).1 := by
  have h1 := h.rep; have h2 := h.i; have h4 := h.silent
  unfold NodeS.tick
  split
  · exact Keeps.refl h
  · split
    · exact keeps_silent h (by omega)
    · split
      · rename_i hst
        have k := keeps_stand h hst.2
        split
        · exact k.trans (keeps_win k.pi (by simp [NodeS.stand]) voters)
        · exact k
      · exact keeps_silent h (by omega)
theorem keeps_asked {s : NodeS} (h : PI s) {m : Msg} (ho : s.other m.frm) (index last : Int) : Keeps s (s.asked m index last) := by
  unfold NodeS.asked
  split
  · rename_i hg
    obtain ⟨_, hv, _⟩ := hg
    have h1 := h.rep; have h2 := h.i
    obtain ⟨o1, o2, o3⟩ := ho
    refine ⟨⟨h.rep, h.i, h.term, ⟨by simp only; omega, by simp only; omega⟩, ⟨by simp, by simp⟩, h.lead, fun hr => ?_⟩, ⟨rfl, rfl⟩, Int.le_refl _, fun _ hn => by simp only; omega⟩
    have := h.own hr
    omega
  · exact Keeps.refl h
theorem keeps_votes {s : NodeS} (h : PI s) (l : List Int) : Keeps s { s with votes := l } := ⟨⟨h.rep, h.i, h.term, h.vote, h.silent, h.lead, h.own⟩, ⟨rfl, rfl⟩, Int.le_refl _, fun _ _ => rfl⟩
theorem keeps_voted {s : NodeS} (h : PI s) (m : Msg) (voters : List Int) : Keeps s (s.voted m voters) := by
  unfold NodeS.voted
  split
  · rename_i ht
    have k := keeps_votes h (s.votes ++ [m.frm])
    exact k.trans (keeps_win k.pi (by simp only; have := ht.1; omega) voters)
  · exact Keeps.refl h
theorem keeps_receive {s : NodeS} (h : PI s) (m : Msg) (voters : List Int) (index last : Int) : Keeps s (s.receive m voters index last).1 := by
  unfold NodeS.receive
  split
  · rename_i hh
    have k := keeps_see h m.term
    have ho : (s.see m.term).other m.frm := by
      have := hh.2.2.1
      unfold NodeS.other at *
      rw [k.same.1, k.same.2]; exact this
    split
    · exact k.trans (keeps_asked k.pi ho index last)
    · exact k.trans (keeps_voted k.pi m voters)
  · exact Keeps.refl h
theorem keeps_follow {s : NodeS} (h : PI s) (l t : Int) : Keeps s (s.follow l t).1 := by
  unfold NodeS.follow
  split
  · rename_i hh
    have k := keeps_see h t
    split
    · exact k
    · rename_i hn
      have h2 := hh.1
      unfold NodeS.other at h2
      refine k.trans ⟨⟨k.pi.rep, k.pi.i, k.pi.term, k.pi.vote, ⟨by simp, by simp⟩, ?_, by simp⟩, ⟨rfl, rfl⟩, Int.le_refl _, fun _ _ => rfl⟩
      have h3 := k.same.1
      simp only
      omega
  · exact Keeps.refl h

/-- What a call's answer and the new state show. -/
structure Shows (s s' : NodeS) (out : List Msg) (voters : List Int) (m : Msg) (index last : Int) : Prop where
  keeps : Keeps s s'
  votes : s'.votes.length ≤ s.votes.length + 1
  stood : s'.role = 1 → s.role ≠ 1 → s.i ∈ voters
  says : ∀ x ∈ out, x.term = s'.term ∧ x.frm = s.i ∧ (x.kind = 6 → x.granted = true → s'.vote = x.to ∧ last ≤ m.logTerm ∧ (m.logTerm = last → index ≤ m.index))
  few : out.length ≤ voters.length + 1
  sane : ∀ x ∈ out, x.ok
theorem win_votes (s : NodeS) (voters : List Int) : (s.win voters).votes = s.votes := by unfold NodeS.win; split <;> rfl
theorem win_role {s : NodeS} {voters : List Int} (h : (s.win voters).role = 1) : s.role = 1 := by
  unfold NodeS.win at h
  split at h
  · simp at h
  · exact h
theorem see_role {s : NodeS} {t : Int} (h : (s.see t).role = 1) : s.role = 1 := by
  unfold NodeS.see at h
  split at h
  · simp at h
  · exact h
theorem shows_tick {s : NodeS} (h : PI s) (voters : List Int) (m : Msg) (index term : Int) : Shows s (s.tick voters index term).1 (s.tick voters index term).2 voters m index term := by
  refine ⟨keeps_tick h _ _ _, ?_, ?_, ?_, ?_, ?_⟩
  · unfold NodeS.tick
    split
    · simp
    · split
      · simp
      · split
        · split
          · rw [win_votes]; simp [NodeS.stand]
          · simp [NodeS.stand]
        · simp
  · intro h1 h2
    unfold NodeS.tick at h1
    split at h1
    · exact absurd h1 h2
    · split at h1
      · exact absurd h1 h2
      · split at h1
        · rename_i hst; exact hst.1
        · exact absurd h1 h2
  · intro x hx
    unfold NodeS.tick at hx ⊢
    split at hx
    · simp at hx
    · split at hx
      · simp at hx
      · split at hx
        · split at hx
          · simp at hx
          · rename_i g1 g2 g3 g4
            rw [if_neg g1, if_neg g2, if_pos g3, if_neg g4]
            simp only [asks, List.mem_map] at hx
            obtain ⟨v, _, rfl⟩ := hx
            refine ⟨rfl, rfl, fun hk => ?_⟩
            simp [voteMsg] at hk
        · simp at hx
  · unfold NodeS.tick
    split
    · simp
    · split
      · simp
      · split
        · split
          · simp
          · simp only [asks, List.length_map]
            have := List.length_filter_le (fun v => decide (v ≠ s.stand.i)) voters
            omega
        · simp
  · intro x hx
    unfold NodeS.tick at hx
    split at hx
    · simp at hx
    · split at hx
      · simp at hx
      · split at hx
        · split at hx
          · simp at hx
          · simp only [asks, List.mem_map] at hx
            obtain ⟨v, _, rfl⟩ := hx
            exact ⟨rfl, rfl, rfl, rfl, rfl, rfl, rfl, rfl, rfl, rfl⟩
        · simp at hx
theorem shows_receive {s : NodeS} (h : PI s) (m : Msg) (voters : List Int) (index last : Int) : Shows s (s.receive m voters index last).1 (s.receive m voters index last).2 voters m index last := by
  refine ⟨keeps_receive h _ _ _ _, ?_, ?_, ?_, ?_, ?_⟩
  · have hv := see_votes s m.term
    unfold NodeS.receive
    split
    · split
      · unfold NodeS.asked
        split
        · simp only; omega
        · simp only; omega
      · unfold NodeS.voted
        simp only
        split
        · rw [win_votes]; simp only [List.length_append, List.length_singleton]; omega
        · omega
    · simp
  · intro h1 h2
    exfalso
    apply h2
    unfold NodeS.receive at h1
    split at h1
    · split at h1
      · unfold NodeS.asked at h1
        simp only at h1
        split at h1
        · exact see_role h1
        · exact see_role h1
      · unfold NodeS.voted at h1
        simp only at h1
        split at h1
        · have := win_role h1
          exact see_role (s := s) (t := m.term) this
        · exact see_role h1
    · exact h1
  · intro x hx
    have hk := (keeps_see h m.term).same
    unfold NodeS.receive at hx ⊢
    split at hx
    · rename_i g1
      split at hx
      · rename_i g2
        rw [if_pos g1, if_pos g2]
        simp only [List.mem_singleton] at hx
        subst hx
        unfold NodeS.asked NodeS.reply
        refine ⟨?_, hk.1, fun _ hg => ?_⟩
        · simp only
          split <;> rfl
        · simp only [decide_eq_true_eq] at hg
          simp only
          rw [if_pos hg]
          obtain ⟨_, _, hu⟩ := hg
          unfold upTo at hu
          refine ⟨rfl, by omega, fun he => by omega⟩
      · simp at hx
    · simp at hx
  · unfold NodeS.receive
    split
    · split <;> simp
    · simp
  · intro x hx
    unfold NodeS.receive at hx
    split at hx
    · split at hx
      · simp only [List.mem_singleton] at hx
        subst hx
        exact ⟨rfl, rfl, rfl, rfl, rfl, rfl, rfl, rfl, rfl, rfl⟩
      · simp at hx
    · simp at hx
theorem shows_follow {s : NodeS} (h : PI s) (l t : Int) (voters : List Int) (m : Msg) (index last : Int) : Shows s (s.follow l t).1 [] voters m index last := by
  refine ⟨keeps_follow h l t, ?_, ?_, by simp, by simp, by simp⟩
  · have := see_votes s t
    unfold NodeS.follow
    split
    · split
      · simp only; omega
      · simp only; omega
    · simp
  · intro h1 h2
    exfalso
    apply h2
    unfold NodeS.follow at h1
    split at h1
    · split at h1
      · exact see_role h1
      · simp at h1
    · exact h1
theorem shows_see {s : NodeS} (h : PI s) (t : Int) (voters : List Int) (m : Msg) (index last : Int) : Shows s (s.see t) [] voters m index last := by
  refine ⟨keeps_see h t, ?_, fun h1 h2 => absurd (see_role h1) h2, by simp, by simp, by simp⟩
  have := see_votes s t
  omega
end Go.Proofs.Ytaopehadegknoaa
