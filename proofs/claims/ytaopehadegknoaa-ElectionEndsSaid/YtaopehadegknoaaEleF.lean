/- The rounds of ElectionEnds as plain data: when one leads at the latest; no conditions. -/
import Derived.Test.YtaopehadegknoaaEleE
namespace Go.Proofs.Ytaopehadegknoaa
open Go Go.CF

structure EC (n : Nat) (M : Int) (ss : List NodeS) : Prop where
  len : ss.length = n
  m4 : 0 ≤ M ∧ M ≤ 4
  at_ : ∀ (j : Nat) (s : NodeS), ss[j]? = some s → s.rep = n ∧ s.i = j ∧ 0 ≤ s.term ∧ s.term ≤ M ∧ s.role ≠ 2 ∧ 0 ≤ s.silent ∧ s.silent ≤ 22 ∧ s.votes.length ≤ 10
def b01 (p : Prop) [Decidable p] : Int := if p then 1 else 0
/-- Before node 0 stands. -/
def P1 (M : Int) (R i : Nat) (ss : List NodeS) : Prop :=
  R ≤ 9 ∧ (R = 9 → i = 0) ∧ (∃ (j : Nat) (s : NodeS), ss[j]? = some s ∧ s.term = M) ∧ ∀ (j : Nat) (s : NodeS), ss[j]? = some s → s.silent = R + b01 (j < i)
/-- Behind it. -/
def P2 (M : Int) (R i : Nat) (ss : List NodeS) : Prop :=
  9 ≤ R ∧ (R = 9 → 1 ≤ i) ∧ ∃ s0 : NodeS, ss[0]? = some s0 ∧ s0.term = M ∧ s0.silent ≤ 9 ∧
    ((s0.vote = -1 ∧ s0.silent = R - 10 + b01 (0 < i)) ∨ (∃ (c : Nat) (sc : NodeS), s0.vote = c ∧ ss[c]? = some sc ∧ sc.term = M ∧ R - 20 + b01 (0 < i) ≤ s0.silent))
structure EI (n R i : Nat) (ss : List NodeS) : Prop where
  ok : ∃ M, EC n M ss ∧ (P1 M R i ss ∨ P2 M R i ss)

theorem b01_t {p : Prop} [Decidable p] (h : p) : b01 p = 1 := if_pos h
theorem b01_f {p : Prop} [Decidable p] (h : ¬ p) : b01 p = 0 := if_neg h
theorem b01_or (p : Prop) [Decidable p] : b01 p = 0 ∨ b01 p = 1 := by unfold b01; split <;> simp

theorem EI.round {n R : Nat} {ss : List NodeS} (h : EI n R n ss) (hn : 1 ≤ n) : EI n (R + 1) 0 ss := by
  obtain ⟨M, hc, hp⟩ := h.ok
  refine ⟨M, hc, ?_⟩
  rcases hp with ⟨h1, h2, h3, h4⟩ | ⟨h1, h2, s0, h3, h4, h5, h6⟩
  · left
    refine ⟨by omega, fun _ => rfl, h3, fun j s hj => ?_⟩
    have h5 := h4 j s hj
    have h6 := (List.getElem?_eq_some_iff.1 hj).1
    rw [hc.len] at h6
    rw [b01_t h6] at h5
    rw [b01_f (by omega)]; omega
  · right
    rw [b01_t (by omega)] at h6
    refine ⟨by omega, by omega, s0, h3, h4, h5, ?_⟩
    rw [b01_f (by omega)]
    rcases h6 with ⟨h6, h7⟩ | ⟨c, sc, h6, h7, h8, h9⟩
    · exact .inl ⟨h6, by omega⟩
    · exact .inr ⟨c, sc, h6, h7, h8, by omega⟩
theorem EI.bound {n R : Nat} {ss : List NodeS} (h : EI n R 0 ss) : R ≤ 30 := by
  obtain ⟨M, hc, hp⟩ := h.ok
  rcases hp with ⟨h1, h2, h3, h4⟩ | ⟨h1, h2, s0, h3, h4, h5, h6⟩
  · omega
  · rw [b01_f (by omega)] at h6
    rcases h6 with ⟨h6, h7⟩ | ⟨c, sc, h6, h7, h8, h9⟩ <;> omega
theorem set_cases {ss : List NodeS} {i : Nat} {s' : NodeS} {j : Nat} {y : NodeS} (hj : (ss.set i s')[j]? = some y) : (j ≠ i ∧ ss[j]? = some y) ∨ (j = i ∧ y = s') := by
  rw [List.getElem?_set] at hj
  split at hj
  · rename_i e; subst e
    split at hj
    · cases hj; exact .inr ⟨rfl, rfl⟩
    · cases hj
  · rename_i e; exact .inl ⟨fun e' => e e'.symm, hj⟩
theorem set_at {ss : List NodeS} {i : Nat} {s' s : NodeS} (hi : ss[i]? = some s) : (ss.set i s')[i]? = some s' := by
  have := (List.getElem?_eq_some_iff.1 hi).1
  simp [this]
theorem set_off {ss : List NodeS} {i j : Nat} {s' : NodeS} (hij : j ≠ i) : (ss.set i s')[j]? = ss[j]? := by
  rw [List.getElem?_set, if_neg (fun e => hij e.symm)]
theorem EI.wait {n R i : Nat} {ss : List NodeS} {s : NodeS} (h : EI n R i ss) (hs : ss[i]? = some s) (hn : n ≤ 5) (hw : s.silent + 1 < 10 + 3 * s.i) : EI n R (i + 1) (ss.set i { s with silent := s.silent + 1 }) := by
  obtain ⟨M, hc, hp⟩ := h.ok
  obtain ⟨a1, a2, a3, a4, a5, a6, a7, a8⟩ := hc.at_ i s hs
  have hin := (List.getElem?_eq_some_iff.1 hs).1
  have hcl := hc.len
  refine ⟨M, ⟨by rw [List.length_set]; exact hc.len, hc.m4, fun j y hj => ?_⟩, ?_⟩
  · rcases set_cases hj with ⟨_, h2⟩ | ⟨rfl, rfl⟩
    · exact hc.at_ j y h2
    · exact ⟨a1, a2, a3, a4, a5, by simp only; omega, by simp only; omega, a8⟩
  rcases hp with ⟨h1, h2, ⟨j0, z0, h3, h3'⟩, h4⟩ | ⟨h1, h2, s0, h3, h4, h5, h6⟩
  · left
    have h5 := h4 i s hs
    rw [b01_f (by omega)] at h5
    refine ⟨h1, fun hR => ?_, ?_, fun j y hj => ?_⟩
    · have := h2 hR
      subst this
      rw [a2] at hw
      omega
    · by_cases e : j0 = i
      · subst e
        rw [hs] at h3; cases h3
        exact ⟨j0, _, set_at hs, h3'⟩
      · exact ⟨j0, z0, by rw [set_off e]; exact h3, h3'⟩
    · rcases set_cases hj with ⟨h6, h7⟩ | ⟨rfl, rfl⟩
      · rw [h4 j y h7]
        congr 1
        unfold b01
        by_cases e : j < i
        · rw [if_pos e, if_pos (by omega)]
        · rw [if_neg e, if_neg (by omega)]
      · rw [b01_t (by omega)]
        simp only; omega
  · right
    refine ⟨h1, by omega, ?_⟩
    have key : ∀ (c : Nat) (sc : NodeS), ss[c]? = some sc → sc.term = M → ∃ sc', (ss.set i { s with silent := s.silent + 1 })[c]? = some sc' ∧ sc'.term = M := by
      intro c sc h7 h8
      by_cases e : c = i
      · subst e
        rw [hs] at h7; cases h7
        exact ⟨_, set_at hs, h8⟩
      · exact ⟨sc, by rw [set_off e]; exact h7, h8⟩
    by_cases hi0 : i = 0
    · subst hi0
      rw [hs] at h3; cases h3
      rw [b01_f (by omega)] at h6
      refine ⟨_, set_at hs, h4, by simp only; omega, ?_⟩
      rw [b01_t (by omega)]
      rcases h6 with ⟨h6, h7⟩ | ⟨c, sc, h6, h7, h8, h9⟩
      · exact .inl ⟨h6, by simp only; omega⟩
      · obtain ⟨sc', h10, h11⟩ := key c sc h7 h8
        exact .inr ⟨c, sc', h6, h10, h11, by simp only; omega⟩
    · rw [b01_t (by omega)] at h6
      refine ⟨s0, by rw [set_off (fun e => hi0 e.symm)]; exact h3, h4, h5, ?_⟩
      rw [b01_t (by omega)]
      rcases h6 with ⟨h6, h7⟩ | ⟨c, sc, h6, h7, h8, h9⟩
      · exact .inl ⟨h6, h7⟩
      · obtain ⟨sc', h10, h11⟩ := key c sc h7 h8
        exact .inr ⟨c, sc', h6, h10, h11, h9⟩

/-- What is left to show when node i leads: all others follow. -/
structure Won (n i : Nat) (s' : NodeS) (ss : List NodeS) : Prop where
  me : s'.role = 2 ∧ s'.leader = i ∧ 1 ≤ s'.term ∧ s'.term ≤ 1048576 ∧ s'.i = i
  at_ : ∀ (j : Nat) (s : NodeS), ss[j]? = some s → j ≠ i → s.rep = n ∧ s.i = j ∧ s.term = s'.term ∧ s.role ≠ 2
  got : ss[i]? = some s'
  len : ss.length = n

theorem EI.pre {n R i : Nat} {ss : List NodeS} {s : NodeS} (h : EI n R i ss) (hs : ss[i]? = some s) : Pre n i s.stand ss ∧ s.role ≠ 2 ∧ s.term < 1048576 ∧ s.i = i ∧ s.rep = n ∧ 0 ≤ s.term ∧ 0 ≤ s.silent ∧ s.silent ≤ 22 ∧ s.votes.length ≤ 10 := by
  obtain ⟨M, hc, hp⟩ := h.ok
  obtain ⟨a1, a2, a3, a4, a5, a6, a7, a8⟩ := hc.at_ i s hs
  have hin := (List.getElem?_eq_some_iff.1 hs).1
  have hM := hc.m4
  refine ⟨⟨hc.len, by rw [← hc.len]; exact hin, a2, a1, ⟨by simp only [NodeS.stand]; omega, by simp only [NodeS.stand]; omega⟩, by simp [NodeS.stand], fun j z hz => ?_⟩, a5, by omega, a2, a1, a3, a6, a7, a8⟩
  obtain ⟨c1, c2, c3, c4, c5, c6, c7, c8⟩ := hc.at_ j z hz
  exact ⟨c1, c2, by omega, by omega⟩

theorem mid_cases {ss : List NodeS} {f : Nat → NodeS → NodeS} {n i : Nat} {cd : NodeS} (hl : ss.length = n) {j : Nat} {y : NodeS} (hj : (mid ss f i cd (others n i))[j]? = some y) : (j = i ∧ y = cd) ∨ (j ≠ i ∧ ∃ z, ss[j]? = some z ∧ y = f j z) := by
  have hjl : j < ss.length := by
    have := (List.getElem?_eq_some_iff.1 hj).1
    rwa [mid_length] at this
  rw [mid_get (List.getElem?_eq_getElem hjl)] at hj
  by_cases e : j = i
  · rw [if_pos e] at hj; cases hj; exact .inl ⟨e, rfl⟩
  · rw [if_neg e, if_pos (others_mem.2 ⟨by rw [← hl]; exact hjl, e⟩)] at hj
    cases hj; exact .inr ⟨e, _, List.getElem?_eq_getElem hjl, rfl⟩
theorem afterE_keep (T i : Int) (s : NodeS) : (afterE T i s).rep = s.rep ∧ (afterE T i s).i = s.i ∧ (afterE T i s).term = max s.term T ∧ (s.role ≠ 2 → (afterE T i s).role ≠ 2) ∧ (0 ≤ s.silent → s.silent ≤ 22 → 0 ≤ (afterE T i s).silent ∧ (afterE T i s).silent ≤ 22) ∧ (afterE T i s).votes.length ≤ s.votes.length := by
  unfold afterE
  split
  · refine ⟨rfl, rfl, by simp only [NodeS.fresh]; omega, by simp [NodeS.fresh], by simp, by simp [NodeS.fresh]⟩
  · split
    · exact ⟨rfl, rfl, by simp only; omega, fun h => h, by simp, by simp⟩
    · exact ⟨rfl, rfl, by omega, fun h => h, fun h1 h2 => ⟨h1, h2⟩, Nat.le_refl _⟩
/-- One who stands above all terms is elected. -/
theorem Hd.all {n i : Nat} {ss : List NodeS} {cd s' : NodeS} (p : Pre n i cd ss) (hv : cd.votes = [(i : Int)]) (hlt : ∀ (j : Nat) (s : NodeS), ss[j]? = some s → j ≠ i → s.term < cd.term)
    (h : Hd (rngI n) cd s' ((others n i).map (aE cd i ss))) : s'.role = 2 := by
  have hget : ∀ j ∈ others n i, ∃ z, ss[j]? = some z ∧ j < n ∧ j ≠ i := fun j hj => by
    obtain ⟨h1, h2⟩ := others_mem.1 hj
    exact ⟨_, List.getElem?_eq_getElem (by rw [p.len]; exact h1), h1, h2⟩
  rcases h.how with ⟨_, hh⟩ | ⟨h1, _, _, m, hm, h2⟩
  · rcases hh.res with ⟨_, _, h3, h4⟩ | ⟨h3, _⟩
    · exfalso
      apply h4
      have : cnt (rngI n) s'.votes = (rngI n).length := by
        apply cnt_all
        intro x hx
        simp only [rngI, List.mem_map, List.mem_range] at hx
        obtain ⟨j, hj, rfl⟩ := hx
        rw [h3, hv]
        simp only [List.mem_append, List.mem_singleton]
        by_cases e : j = i
        · exact .inl (by rw [e])
        · right
          have hjo := others_mem.2 ⟨hj, e⟩
          obtain ⟨z, hz, _, _⟩ := hget j hjo
          simp only [grantedBy, List.mem_map, List.mem_filter]
          refine ⟨_, ⟨⟨j, hjo, rfl⟩, ?_⟩, by rw [aE_get hz]; rfl⟩
          rw [aE_get hz]
          exact decide_eq_true (.inl (hlt j z hz e))
      unfold maj
      rw [this]
      have hl : (rngI n).length = n := by simp [rngI]
      have := p.hin
      omega
    · exact h3
  · exfalso
    obtain ⟨j, hj, rfl⟩ := List.mem_map.1 hm
    obtain ⟨z, hz, _, e⟩ := hget j hj
    have := hlt j z hz e
    rw [aE_get hz] at h2
    simp only [repE] at h2
    omega
theorem EI.stood {n R i : Nat} {ss : List NodeS} {s s' : NodeS} (h : EI n R i ss) (hs : ss[i]? = some s) (hn : n ≤ 5) (hw : ¬ s.silent + 1 < 10 + 3 * s.i)
    (hd : Hd (rngI n) s.stand s' ((others n i).map (aE s.stand i ss))) :
    (s'.role ≠ 2 ∧ EI n R (i + 1) (mid ss (fE s.stand i) i s' (others n i))) ∨ (s'.role = 2 ∧ Won n i s' (mid ss (fE s.stand i) i s' (others n i))) := by
  obtain ⟨hpre, g1, g2, g3, g4, g5, g6, g7, g8⟩ := h.pre hs
  obtain ⟨M, hc, hp⟩ := h.ok
  obtain ⟨T, hT⟩ : ∃ T, s.term + 1 = T := ⟨_, rfl⟩
  have hcT : s.stand.term = T := hT
  have hsi : s.stand.votes = [(i : Int)] := by simp [NodeS.stand, g3]
  obtain ⟨a1, a2, a3, a4, a5, a6, a7, a8⟩ := hc.at_ i s hs
  have hget : ∀ j z, ss[j]? = some z → j ≠ i → j ∈ others n i := fun j z hz e => others_mem.2 ⟨by rw [← hc.len]; exact (List.getElem?_eq_some_iff.1 hz).1, e⟩
  obtain ⟨e1, e2, e3⟩ := hd.same
  have hge : ∀ j z, ss[j]? = some z → j ≠ i → max z.term T ≤ s'.term := fun j z hz e => by
    have := hd.ge _ (List.mem_map.2 ⟨j, hget j z hz e, rfl⟩)
    rw [aE_get hz] at this
    simpa [repE, hcT] using this
  have hlow := hd.low
  rw [hcT] at hlow
  have hin := (List.getElem?_eq_some_iff.1 hs).1
  have hlen := hd.len
  have hol := others_length (n := n) (i := i)
  rw [hsi] at hlen
  simp only [List.length_map, List.length_singleton] at hlen
  have hmid : ∀ j y, (mid ss (fE s.stand i) i s' (others n i))[j]? = some y → (j = i ∧ y = s') ∨ (j ≠ i ∧ ∃ z, ss[j]? = some z ∧ y = afterE T i z) := by
    intro j y hj
    rcases mid_cases hc.len hj with h1 | ⟨h1, z, h2, h3⟩
    · exact .inl h1
    · exact .inr ⟨h1, z, h2, by rw [h3, ← hcT]; rfl⟩
  have hmi : (mid ss (fE s.stand i) i s' (others n i))[i]? = some s' := by rw [mid_get hs, if_pos rfl]
  have hmj : ∀ j z, ss[j]? = some z → j ≠ i → (mid ss (fE s.stand i) i s' (others n i))[j]? = some (afterE T i z) := fun j z hz e => by
    rw [mid_get hz, if_neg e, if_pos (hget j z hz e), ← hcT]; rfl
  by_cases hr : s'.role = 2
  · right
    refine ⟨hr, ?_⟩
    rcases hd.how with ⟨h1, hh⟩ | ⟨_, h2, _⟩
    · rcases hh.res with ⟨h2, _⟩ | ⟨_, h2, _⟩
      · omega
      · rw [hcT] at h1
        refine ⟨⟨hr, by rw [h2, e1]; exact g3, by omega, by omega, by rw [e1]; exact g3⟩, fun j y hj hji => ?_, hmi, by rw [mid_length]; exact hc.len⟩
        rcases hmid j y hj with ⟨h3, _⟩ | ⟨_, z, hz, rfl⟩
        · exact absurd h3 hji
        · obtain ⟨c1, c2, c3, c4, c5, _⟩ := hc.at_ j z hz
          obtain ⟨k1, k2, k3, k4, _⟩ := afterE_keep T i z
          have := hge j z hz hji
          exact ⟨by rw [k1, c1], by rw [k2, c2], by rw [k3]; omega, k4 c5⟩
    · omega
  · left
    refine ⟨hr, ?_⟩
    have hTM : T ≤ M := by
      apply Classical.byContradiction
      intro hn'
      exact hr (hd.all hpre hsi (fun j z hz e => by
        obtain ⟨_, _, _, c4, _⟩ := hc.at_ j z hz
        rw [hcT]; omega))
    have hsM : s'.term ≤ M := by
      rcases hd.how with ⟨h1, _⟩ | ⟨_, _, _, m, hm, h2⟩
      · rw [hcT] at h1; omega
      · obtain ⟨j, hj, rfl⟩ := List.mem_map.1 hm
        obtain ⟨h3, h4⟩ := others_mem.1 hj
        have hz : ss[j]? = some (ss[j]'(by rw [hc.len]; exact h3)) := List.getElem?_eq_getElem _
        obtain ⟨_, _, _, c4, _⟩ := hc.at_ j _ hz
        rw [aE_get hz] at h2
        simp only [repE, hcT] at h2
        omega
    have hsil : s'.silent = 0 := by rw [e3]; rfl
    refine ⟨M, ⟨by rw [mid_length]; exact hc.len, hc.m4, fun j y hj => ?_⟩, .inr ?_⟩
    · rcases hmid j y hj with ⟨rfl, rfl⟩ | ⟨_, z, hz, rfl⟩
      · exact ⟨by rw [e2]; exact g4, by rw [e1]; exact g3, by omega, hsM, hr, by omega, by omega, by omega⟩
      · obtain ⟨c1, c2, c3, c4, c5, c6, c7, c8⟩ := hc.at_ j z hz
        obtain ⟨k1, k2, k3, k4, k5, k6⟩ := afterE_keep T i z
        have := k5 c6 c7
        exact ⟨by rw [k1, c1], by rw [k2, c2], by omega, by omega, k4 c5, this.1, this.2, by omega⟩
    · rcases hp with ⟨h1, h2, ⟨j0, z0, h3, h3'⟩, h4⟩ | ⟨h1, h2, s0, h3, h4, h5, h6⟩
      · have h5 := h4 i s hs
        rw [b01_f (by omega)] at h5
        have hR : R = 9 := by omega
        have hi0 := h2 hR
        subst hi0
        have hj0 : j0 ≠ 0 := fun e => by subst e; rw [hs] at h3; cases h3; omega
        have hM2 := hge j0 z0 h3 hj0
        have hst : s'.term = M := by omega
        refine ⟨by omega, by omega, s', hmi, hst, by omega, ?_⟩
        rw [b01_t (by omega)]
        rcases hd.how with ⟨_, hh⟩ | ⟨_, _, h7, _⟩
        · obtain ⟨_, _, _, q4, _⟩ := hh.same
          refine .inr ⟨0, s', ?_, hmi, hst, by omega⟩
          rw [q4]; simpa [NodeS.stand] using g3
        · exact .inl ⟨h7, by omega⟩
      · have hi0 : i ≠ 0 := fun e => by subst e; rw [hs] at h3; cases h3; omega
        rw [b01_t (by omega)] at h6
        have hm0 := hmj 0 s0 h3 (fun e => hi0 e.symm)
        obtain ⟨k1, k2, k3, k4, k5, k6⟩ := afterE_keep T i s0
        refine ⟨by omega, by omega, afterE T i s0, hm0, by omega, ?_⟩
        rw [b01_t (by omega)]
        have hnl : ¬ s0.term < T := by omega
        rcases h6 with ⟨h6, h7⟩ | ⟨c, sc, h6, h7, h8, h9⟩
        · by_cases hg : grantE T i s0
          · have ea : afterE T i s0 = { s0 with vote := (i : Int), silent := 0 } := by unfold afterE; rw [if_neg hnl, if_pos hg]
            have hTt : s0.term = T := by
              rcases hg with hg | hg
              · exact absurd hg hnl
              · exact hg.1
            rw [ea]
            exact ⟨by simp only; omega, .inr ⟨i, s', rfl, hmi, by omega, by simp only; omega⟩⟩
          · have ea : afterE T i s0 = s0 := by unfold afterE; rw [if_neg hnl, if_neg hg]
            rw [ea]
            exact ⟨h5, .inl ⟨h6, h7⟩⟩
        · have hci : c ≠ i := fun e => by subst e; rw [hs] at h7; cases h7; omega
          have hg : ¬ grantE T i s0 := by unfold grantE; omega
          have ea : afterE T i s0 = s0 := by unfold afterE; rw [if_neg hnl, if_neg hg]
          obtain ⟨_, _, k3', _⟩ := afterE_keep T i sc
          rw [ea]
          exact ⟨h5, .inr ⟨c, afterE T i sc, h6, hmj c sc h7 hci, by omega, h9⟩⟩
end Go.Proofs.Ytaopehadegknoaa
