/- ElectionEnds as plain data: delivery of all messages, and the turns of the nodes; no conditions. -/
import Derived.Test.YtaopehadegknoaaEleS
namespace Go.Proofs.Ytaopehadegknoaa
open Go Go.CF

/-- All messages are delivered: at most k rounds. -/
inductive Dl (voters : List Int) (I L : Int) : Nat → List NodeS → List Msg → List NodeS → Prop where
  | nil {k : Nat} {ss : List NodeS} : Dl voters I L (k + 1) ss [] ss
  | cons {k to : Nat} {ss ss' : List NodeS} {s : NodeS} {m : Msg} {box : List Msg} (hto : m.to = to) (hs : ss[to]? = some s) (hv : s.votes.length ≤ 1000) (hm : m.ok)
      (h : Dl voters I L k (ss.set to (s.receive m voters I L).1) (box ++ (s.receive m voters I L).2) ss') : Dl voters I L (k + 1) ss (m :: box) ss'
theorem Dl.more {voters : List Int} {I L : Int} {k : Nat} {ss ss' : List NodeS} {box : List Msg} (h : Dl voters I L k ss box ss') : Dl voters I L (k + 1) ss box ss' := by
  induction h with
  | nil => exact .nil
  | cons hto hs hv hm _ ih => exact .cons hto hs hv hm ih
theorem Dl.le {voters : List Int} {I L : Int} {k k' : Nat} {ss ss' : List NodeS} {box : List Msg} (h : Dl voters I L k ss box ss') (hk : k ≤ k') : Dl voters I L k' ss box ss' := by
  obtain ⟨d, rfl⟩ : ∃ d, k' = k + d := ⟨k' - k, by omega⟩
  clear hk
  induction d with
  | zero => exact h
  | succ d ih => exact ih.more

/-! ### One who stands, where logs are equal -/
def grantE (T i : Int) (s : NodeS) : Prop := s.term < T ∨ s.term = T ∧ (s.vote = -1 ∨ s.vote = i)
instance (T i : Int) (s : NodeS) : Decidable (grantE T i s) := inferInstanceAs (Decidable (_ ∨ _))
def afterE (T i : Int) (s : NodeS) : NodeS := if s.term < T then { s.fresh T with vote := i, silent := 0 } else if grantE T i s then { s with vote := i, silent := 0 } else s
def repE (T i : Int) (j : Nat) (s : NodeS) : Msg := { kind := 6, frm := j, to := i, term := max s.term T, index := 0, logTerm := 0, commit := 0, granted := decide (grantE T i s) }

theorem ask_stepE {I L : Int} {n i j : Nat} {cd s : NodeS} {voters : List Int} (hci : cd.i = i) (hin : i < n) (hij : j ≠ i) (hsi : s.i = j) (hsr : s.rep = n) (h2 : cd.term ≤ 1048576) (h3 : 1 ≤ cd.term) :
    s.receive (voteMsg cd I L j) voters I L = (afterE cd.term i s, [repE cd.term i j s]) := by
  have hh : s.heeds (voteMsg cd I L j) := ⟨.inl rfl, hsi.symm, by unfold NodeS.other; simp only [voteMsg]; omega, h3, h2⟩
  have hu : upTo (voteMsg cd I L j) I L := .inr ⟨rfl, Int.le_refl _⟩
  unfold NodeS.receive
  rw [if_pos hh, if_pos (show (voteMsg cd I L (j : Int)).kind = 5 from rfl)]
  have et : (voteMsg cd I L j).term = cd.term := rfl
  have ef : (voteMsg cd I L j).frm = i := hci
  rw [et]
  by_cases h1 : s.term < cd.term
  · have hg : (s.fresh cd.term).grants (voteMsg cd I L j) I L := ⟨rfl, .inl rfl, hu⟩
    have hge : grantE cd.term i s := .inl h1
    rw [see_fresh h1 h2]
    unfold NodeS.asked NodeS.reply afterE repE
    rw [if_pos hg, if_pos h1, ef, decide_eq_true hg, decide_eq_true hge]
    have : max s.term cd.term = cd.term := by omega
    simp [NodeS.fresh, hsi, this]
  · rw [see_same h1]
    unfold NodeS.asked NodeS.reply afterE repE
    rw [if_neg h1, ef]
    have : max s.term cd.term = s.term := by omega
    by_cases hg : s.grants (voteMsg cd I L j) I L
    · have hge : grantE cd.term i s := .inr ⟨hg.1.symm, by have := hg.2.1; rw [ef] at this; exact this⟩
      rw [if_pos hg, if_pos hge, decide_eq_true hg, decide_eq_true hge, this, hsi]
    · have hge : ¬ grantE cd.term i s := fun hge => hg (by
        rcases hge with h4 | ⟨h4, h5⟩
        · exact absurd h4 h1
        · exact ⟨h4.symm, by rw [ef]; exact h5, hu⟩)
      rw [if_neg hg, if_neg hge, decide_eq_false hg, decide_eq_false hge, this, hsi]

/-- The candidate, behind some answers. -/
structure Hd (voters : List Int) (cd s : NodeS) (l : List Msg) : Prop where
  same : s.i = cd.i ∧ s.rep = cd.rep ∧ s.silent = cd.silent
  low : cd.term ≤ s.term
  ge : ∀ m ∈ l, m.term ≤ s.term
  how : (s.term = cd.term ∧ Heard voters cd s l) ∨ (cd.term < s.term ∧ s.role = 0 ∧ s.vote = -1 ∧ ∃ m ∈ l, s.term = m.term)
  len : s.votes.length ≤ cd.votes.length + l.length
theorem Hd.nil {voters : List Int} {cd : NodeS} (hr : cd.role = 1) (hm : ¬ maj voters cd.votes) : Hd voters cd cd [] :=
  ⟨⟨rfl, rfl, rfl⟩, Int.le_refl _, by simp, .inl ⟨rfl, Heard.nil hr hm⟩, by simp⟩
theorem Hd.step {voters : List Int} {cd s : NodeS} {l : List Msg} (h : Hd voters cd s l) {n i j : Nat} {z : NodeS} (hci : cd.i = i) (hcr : cd.rep = n) (hij : j ≠ i) (hj : j < n) (h2 : cd.term ≤ 1048576) (h3 : 1 ≤ cd.term) (hz : z.term ≤ 1048576) (I L : Int) :
    ∃ s', s.receive (repE cd.term i j z) voters I L = (s', []) ∧ Hd voters cd s' (l ++ [repE cd.term i j z]) := by
  obtain ⟨e1, e2, e3⟩ := h.same
  obtain ⟨m, hm⟩ : ∃ m, repE cd.term i j z = m := ⟨_, rfl⟩
  have m1 : m.kind = 6 := by rw [← hm]; rfl
  have m2 : m.to = i := by rw [← hm]; rfl
  have m3 : m.frm = j := by rw [← hm]; rfl
  have m4 : m.term = max z.term cd.term := by rw [← hm]; rfl
  rw [hm]
  have hh : s.heeds m := ⟨.inr m1, by omega, by unfold NodeS.other; omega, by omega, by omega⟩
  unfold NodeS.receive
  rw [if_pos hh, if_neg (by omega)]
  have hll : (l ++ [m]).length = l.length + 1 := by simp
  by_cases h4 : s.term < m.term
  · rw [see_fresh h4 (by omega)]
    have hnt : ¬ (s.fresh m.term).takes m := fun ht => by have := ht.1; simp [NodeS.fresh] at this
    unfold NodeS.voted
    rw [if_neg hnt]
    refine ⟨_, rfl, ⟨⟨e1, e2, e3⟩, ?_, ?_, .inr ⟨?_, rfl, rfl, m, by simp, rfl⟩, by simp [NodeS.fresh]⟩⟩
    · simp only [NodeS.fresh]; omega
    · intro x hx
      simp only [NodeS.fresh]
      rcases List.mem_append.1 hx with h5 | h5
      · have := h.ge x h5; omega
      · simp at h5; rw [h5]; exact Int.le_refl _
    · simp only [NodeS.fresh]; have := h.low; omega
  · rw [see_same h4]
    have hge : ∀ x ∈ l ++ [m], x.term ≤ s.term := fun x hx => by
      rcases List.mem_append.1 hx with h5 | h5
      · exact h.ge x h5
      · simp at h5; rw [h5]; omega
    rcases h.how with ⟨h5, h6⟩ | ⟨h5, h6, h7, x, hx, h8⟩
    · have h7 := h6.more (m := m) (by omega)
      have h8 := h7.same
      refine ⟨_, rfl, ⟨⟨h8.2.1, h8.2.2.1, h8.2.2.2.2⟩, by have := h.low; omega, fun x hx => by have := hge x hx; omega, .inl ⟨h8.1, h7⟩, h7.len⟩⟩
    · have hnt : ¬ s.takes m := fun ht => by have := ht.1; omega
      unfold NodeS.voted
      rw [if_neg hnt]
      exact ⟨_, rfl, ⟨⟨e1, e2, e3⟩, h.low, hge, .inr ⟨h5, h6, h7, x, List.mem_append_left _ hx, h8⟩, by have := h.len; omega⟩⟩

section
variable {n i : Nat} {I L : Int} {cd : NodeS} {ss : List NodeS}
/-- The nodes before the candidate asks. -/
structure Pre (n i : Nat) (cd : NodeS) (ss : List NodeS) : Prop where
  len : ss.length = n
  hin : i < n
  ci : cd.i = i
  cr : cd.rep = n
  ct : 1 ≤ cd.term ∧ cd.term ≤ 1048576
  cv : cd.votes.length ≤ 10
  at_ : ∀ (j : Nat) (s : NodeS), ss[j]? = some s → s.rep = n ∧ s.i = j ∧ s.term ≤ 1048576 ∧ s.votes.length ≤ 100
def fE (cd : NodeS) (i : Nat) : Nat → NodeS → NodeS := fun _ s => afterE cd.term i s
def aE (cd : NodeS) (i : Nat) (ss : List NodeS) (j : Nat) : Msg := match ss[j]? with
  | some s => repE cd.term i j s
  | none => repE cd.term i j cd
theorem aE_get {j : Nat} {s : NodeS} (hs : ss[j]? = some s) : aE cd i ss j = repE cd.term i j s := by simp [aE, hs]
theorem aE_ok {j : Nat} : (aE cd i ss j).ok := by unfold aE; split <;> exact ⟨rfl, rfl, rfl, rfl, rfl, rfl, rfl, rfl, rfl, rfl⟩

theorem phase2 (p : Pre n i cd ss) (J : List Nat) : ∀ (l : List Nat) (done : List Msg) (s : NodeS), (∀ j ∈ l, j < n ∧ j ≠ i) → Hd (rngI n) cd s done → done.length + l.length ≤ 100 →
    ∃ s', Hd (rngI n) cd s' (done ++ l.map (aE cd i ss)) ∧ Dl (rngI n) I L (l.length + 1) (mid ss (fE cd i) i s J) (l.map (aE cd i ss)) (mid ss (fE cd i) i s' J)
  | [], done, s, _, h, _ => ⟨s, by simpa using h, .nil⟩
  | j :: l, done, s, hl, h, hlen => by
    obtain ⟨h1, h2⟩ := hl j (by simp)
    have hjl : j < ss.length := by rw [p.len]; exact h1
    have hz : ss[j]? = some ss[j] := List.getElem?_eq_getElem hjl
    obtain ⟨z1, z2, z3, z4⟩ := p.at_ j _ hz
    have hil : i < ss.length := by rw [p.len]; exact p.hin
    obtain ⟨s1, h3, h4⟩ := h.step (z := ss[j]) p.ci p.cr h2 h1 p.ct.2 p.ct.1 z3 I L
    rw [← aE_get hz] at h3 h4
    have hlen2 : (done ++ [aE cd i ss j]).length = done.length + 1 := by simp
    have hlen3 : (j :: l).length = l.length + 1 := rfl
    obtain ⟨s', h5, h6⟩ := phase2 p J l (done ++ [aE cd i ss j]) s1 (fun k hk => hl k (by simp [hk])) h4 (by omega)
    refine ⟨s', by simpa using h5, ?_⟩
    have hm : (mid ss (fE cd i) i s J)[i]? = some s := by rw [mid_get (List.getElem?_eq_getElem hil), if_pos rfl]
    refine .cons (to := i) (by rw [aE_get hz]; rfl) hm (by have := h.len; have := p.cv; omega) aE_ok ?_
    rw [h3]
    simp only [List.append_nil]
    rw [mid_cand hil]
    exact h6
theorem phase1 (p : Pre n i cd ss) {J : List Nat} (hJ : ∀ j ∈ J, j < n ∧ j ≠ i) (hn : J.Nodup) {k : Nat} {fin : List NodeS} : ∀ (l D : List Nat), D ++ l = J →
    Dl (rngI n) I L k (mid ss (fE cd i) i cd J) (J.map (aE cd i ss)) fin → Dl (rngI n) I L (l.length + k) (mid ss (fE cd i) i cd D) (l.map (fun (j : Nat) => voteMsg cd I L (j : Int)) ++ D.map (aE cd i ss)) fin
  | [], D, he, h => by rw [List.append_nil] at he; subst he; simpa using h
  | j :: l, D, he, h => by
    have hj : j ∈ J := by rw [← he]; simp
    obtain ⟨h1, h2⟩ := hJ j hj
    have hjl : j < ss.length := by rw [p.len]; exact h1
    have hz : ss[j]? = some ss[j] := List.getElem?_eq_getElem hjl
    obtain ⟨z1, z2, z3, z4⟩ := p.at_ j _ hz
    have hD : j ∉ D := by
      rw [← he] at hn
      intro hm
      exact (List.nodup_append.1 hn).2.2 j hm j (by simp) rfl
    have hm : (mid ss (fE cd i) i cd D)[j]? = some ss[j] := by rw [mid_get hz, if_neg h2, if_neg hD]
    have ih := phase1 p hJ hn l (D ++ [j]) (by simpa using he) h
    rw [show (j :: l).length + k = (l.length + k) + 1 by simp only [List.length_cons]; omega]
    refine .cons (to := j) rfl hm (by omega) ⟨rfl, rfl, rfl, rfl, rfl, rfl, rfl, rfl, rfl, rfl⟩ ?_
    rw [ask_stepE p.ci p.hin h2 z2 z1 p.ct.2 p.ct.1]
    have e := mid_step (f := fE cd i) (cd := cd) (D := D) hz h2
    simp only [fE] at e
    simp only
    have e2 : (mid ss (fE cd i) i cd D).set j (afterE cd.term i ss[j]) = mid ss (fE cd i) i cd (D ++ [j]) := e
    rw [e2]
    have e3 : l.map (fun (j : Nat) => voteMsg cd I L (j : Int)) ++ D.map (aE cd i ss) ++ [repE cd.term i j ss[j]] = l.map (fun (j : Nat) => voteMsg cd I L (j : Int)) ++ (D ++ [j]).map (aE cd i ss) := by
      rw [List.map_append, List.map_cons, List.map_nil, aE_get hz, List.append_assoc]
    show Dl (rngI n) I L (l.length + k) _ (l.map (fun (j : Nat) => voteMsg cd I L (j : Int)) ++ D.map (aE cd i ss) ++ [repE cd.term i j ss[j]]) fin
    rw [e3]
    exact ih
/-- All that one who stands sets off. -/
theorem stood (p : Pre n i cd ss) (hr : cd.role = 1) (hm : ¬ maj (rngI n) cd.votes) (hn5 : n ≤ 5) :
    ∃ s', Hd (rngI n) cd s' ((others n i).map (aE cd i ss)) ∧ Dl (rngI n) I L 100 (ss.set i cd) ((others n i).map fun (j : Nat) => voteMsg cd I L (j : Int)) (mid ss (fE cd i) i s' (others n i)) := by
  have hl := others_length (n := n) (i := i)
  obtain ⟨s', h1, h2⟩ := phase2 (I := I) (L := L) p (others n i) (others n i) [] cd (fun j hj => others_mem.1 hj) (Hd.nil hr hm) (by simp; omega)
  refine ⟨s', by simpa using h1, ?_⟩
  have h3 := phase1 (I := I) (L := L) p (J := others n i) (fun j hj => others_mem.1 hj) others_nodup (others n i) [] (by simp) h2
  simp only [List.map_nil, List.append_nil] at h3
  rw [mid_nil] at h3
  exact h3.le (by omega)
end
end Go.Proofs.Ytaopehadegknoaa
