/- The walk of ElectionEnds: it returns true and changes nothing that was there; conditions: what an argument is. -/
import Derived.Test.YtaopehadegknoaaEl11
namespace Go.Proofs.Ytaopehadegknoaa
open Go Go.CF
set_option maxRecDepth 20000

theorem App.pre {h hA hB : Heap} {v v' : Value} {T sz len : Nat} {vs : List Value} (x : Stp [] h hA) (a : App hA hB v v' T sz len vs) : App h hB v v' T sz len vs :=
  ⟨a.own, (x.mono (fun _ hc => by cases hc)).trans a.stp, a.blk.imp id (fun hb c hc => Nat.le_trans x.size (hb c hc))⟩

structure SetUp (base h : Heap) (K N9 N10 N11 B6 B7 n i : Nat) (vL vV : Value) (I L : Int) (ns : List Nd) : Prop where
  hi : i ≤ n
  nl : ns.length = i
  st : ∀ (k : Nat) (x : Nd), ns[k]? = some x → ∃ t v : Int, x.2.1 = node0 n k t v ∧ 0 ≤ t ∧ t ≤ 4
  oL : Own h vL 27 1 i (ptrs ns)
  oV : Own h vV 3 1 i (intsV (rngI i))
  bx : Bx h N9 N10 N11 B6 B7 n vL vV I L
  cl : Cluster h ns
  stp : Stp [] base h
  new : ∀ c ∈ foot ns, K ≤ c
  bL : ∀ c ∈ blkOf vL, K ≤ c ∧ c ∉ foot ns ∧ c ∉ blkOf vV
  bV : ∀ c ∈ blkOf vV, K ≤ c ∧ c ∉ foot ns
  ks : ∀ c ∈ [N9, N10, N11, B6, B7], base.size ≤ c ∧ c < K
  nd : N10 ≠ N11 ∧ N9 ≠ N10 ∧ N9 ≠ N11 ∧ B6 ≠ N10 ∧ B6 ≠ N11 ∧ B7 ≠ N10 ∧ B7 ≠ N11
  kh : K ≤ h.size

theorem SetUp.step {base h h1 hB hD hE hF : Heap} {K N9 N10 N11 B6 B7 n i nb : Nat} {vL vV vL2 vV2 : Value} {I L t v : Int} {ns : List Nd} (s : SetUp base h K N9 N10 N11 B6 B7 n i vL vV I L ns) (hin : i < n) (ht : 0 ≤ t ∧ t ≤ 4)
    (hn : NodeAt h1 nb (node0 n i t v) [nb]) (hst1 : Stp [] h h1) (hnb : h.size ≤ nb) (aL : App h1 hB vL vL2 27 1 (i + 1) (ptrs ns ++ [.pointer (some ⟨nb, 0, none⟩)])) (aV : App hB hD vV vV2 3 1 (i + 1) (intsV (rngI i) ++ [.int .i64 i]))
    (u1 : Upd hD N10 24 [vL2] hE) (u2 : Upd hE N11 26 [vV2] hF) : SetUp base hF K N9 N10 N11 B6 B7 n (i + 1) vL2 vV2 I L (ns ++ [(nb, node0 n i t v, [nb])]) := by
  have hK : ∀ c ∈ [N9, N10, N11, B6, B7], c < K := fun c hc => (s.ks c hc).2
  obtain ⟨d1, d2, d3, d4, d5, d6, d7⟩ := s.nd
  have k9 := s.ks N9 (by simp); have k10 := s.ks N10 (by simp); have k11 := s.ks N11 (by simp); have k6 := s.ks B6 (by simp); have k7 := s.ks B7 (by simp)
  have hkh := s.kh
  have hoL := s.oL.lt
  have hoV := s.oV.lt
  have hnbl := hn.lt nb (by simp)
  have z1 := hst1.size; have z2 := aL.stp.size; have z3 := aV.stp.size; have z4 := u1.stp.size; have z5 := u2.stp.size
  have hfl := s.cl.lt
  -- blocks of the new slices
  have bL2 : ∀ c ∈ blkOf vL2, K ≤ c ∧ c ∉ foot ns ∧ c ∉ blkOf vV ∧ c ≠ nb := fun c hc => by
    rcases aL.blk with h8 | h8
    · have h9 := s.bL c (h8 ▸ hc)
      have h10 := hoL c (h8 ▸ hc)
      exact ⟨h9.1, h9.2.1, h9.2.2, by omega⟩
    · have h9 := h8 c hc
      exact ⟨by omega, fun hm => by have := hfl c hm; omega, fun hm => by have := hoV c hm; omega, by omega⟩
  have bV2 : ∀ c ∈ blkOf vV2, K ≤ c ∧ c ∉ foot ns ∧ c ∉ blkOf vL2 ∧ c ≠ nb := fun c hc => by
    rcases aV.blk with h8 | h8
    · have h9 := s.bV c (h8 ▸ hc)
      have h10 := hoV c (h8 ▸ hc)
      exact ⟨h9.1, h9.2, fun hm => (bL2 c hm).2.2.1 (h8 ▸ hc), by omega⟩
    · have h9 := h8 c hc
      exact ⟨by omega, fun hm => by have := hfl c hm; omega, fun hm => by have := aL.own.lt c hm; omega, by omega⟩
  -- what the heap's steps leave alone
  have keep : ∀ c, c ∉ blkOf vL → c ∉ blkOf vV → c ≠ N10 → c ≠ N11 → ∀ {T l}, Blk h c T l → Blk hF c T l := fun c h1 h2 h3 h4 T l hb =>
    u2.keep h4 (u1.keep h3 (aV.stp.blk (aL.stp.blk (hst1.blk0 hb) h1) h2))
  have nL : ∀ c, c < K → c ∉ blkOf vL := fun c hc hm => by have := (s.bL c hm).1; omega
  have nV : ∀ c, c < K → c ∉ blkOf vV := fun c hc hm => by have := (s.bV c hm).1; omega
  obtain ⟨F, hFe⟩ : ∃ F, F = [N10, N11] ++ (blkOf vL ++ blkOf vV) := ⟨_, rfl⟩
  have hall : Stp F h1 hF := by
    subst hFe
    refine ((aL.stp.mono fun c hc => .inl ?_).trans (aV.stp.mono fun c hc => .inl ?_)).trans ((u1.stp.mono fun c hc => .inl ?_).trans (u2.stp.mono fun c hc => .inl ?_))
    · simp [hc]
    · simp [hc]
    · simp at hc; simp [hc]
    · simp at hc; simp [hc]
  have hfn : ∀ c, c ∈ foot (ns ++ [(nb, node0 n i t v, [nb])]) → c ∈ foot ns ∨ c = nb := by intro c hc; simpa [foot] using hc
  have hFn : ∀ c, c ∈ foot ns ∨ c = nb → c ∉ F := by
    intro c hc hm
    subst hFe
    simp only [List.mem_append, List.mem_cons, List.not_mem_nil, or_false] at hm
    rcases hc with hc | rfl
    · have := s.new c hc
      rcases hm with (rfl | rfl) | hm | hm
      · omega
      · omega
      · exact (s.bL c hm).2.1 hc
      · exact (s.bV c hm).2 hc
    · rcases hm with (rfl | rfl) | hm | hm
      · omega
      · omega
      · have := hoL _ hm; omega
      · have := hoV _ hm; omega
  refine ⟨hin, by simp [s.nl], fun k x hk => ?_, ?_, ?_, ⟨keep N9 (nL _ (by omega)) (nV _ (by omega)) d2 d3 s.bx.b9, u2.keep d1 u1.blk, u2.blk, keep B6 (nL _ (by omega)) (nV _ (by omega)) d4 d5 s.bx.b6, keep B7 (nL _ (by omega)) (nV _ (by omega)) d6 d7 s.bx.b7⟩, ?_, ?_, fun c hc => ?_, fun c hc => ?_, fun c hc => ?_, s.ks, s.nd, by omega⟩
  · rw [List.getElem?_append] at hk
    split at hk
    · exact s.st k x hk
    · have : k - ns.length = 0 := by
        cases hk2 : k - ns.length with
        | zero => rfl
        | succ q => rw [hk2] at hk; simp at hk
      rw [this] at hk
      simp at hk
      have hki : k = i := by have := s.nl; omega
      subst hki
      exact ⟨t, v, by rw [← hk], ht⟩
  · have := (aL.own.stp aV.stp (fun c hc hm => (bL2 c hc).2.2.1 hm))
    have h2 := (this.stp u1.stp (fun c hc hm => by simp at hm; have := (bL2 c hc).1; omega)).stp u2.stp (fun c hc hm => by simp at hm; have := (bL2 c hc).1; omega)
    rw [show ptrs (ns ++ [(nb, node0 n i t v, [nb])]) = ptrs ns ++ [.pointer (some ⟨nb, 0, none⟩)] by simp [ptrs]]
    exact h2
  · have h2 := (aV.own.stp u1.stp (fun c hc hm => by simp at hm; have := (bV2 c hc).1; omega)).stp u2.stp (fun c hc hm => by simp at hm; have := (bV2 c hc).1; omega)
    rw [show intsV (rngI (i + 1)) = intsV (rngI i) ++ [.int .i64 i] by simp [rngI, List.range_succ, intsV]]
    exact h2
  · refine ((s.cl.stp hst1 (by simp)).stp hall (fun c hc => hFn c (.inl hc))).add (x := (nb, node0 n i t v, [nb])) (hn.stp hall (fun c hc => hFn c (.inr (by simpa using hc)))) ?_
    intro c hm hm'
    simp at hm; subst hm
    have := hfl c hm'; omega
  · refine Stp.stp hall (s.stp.trans hst1) (fun c hc => .inr ?_)
    subst hFe
    simp only [List.mem_append, List.mem_cons, List.not_mem_nil, or_false] at hc
    rcases hc with (rfl | rfl) | hm | hm
    · exact k10.1
    · exact k11.1
    · have := (s.bL c hm).1; omega
    · have := (s.bV c hm).1; omega
  · rcases hfn c hc with h8 | rfl
    · exact s.new c h8
    · omega
  · have h8 := bL2 c hc
    refine ⟨h8.1, fun hm => ?_, fun hm => (bV2 c hm).2.2.1 hc⟩
    rcases hfn c hm with h9 | h9
    · exact h8.2.1 h9
    · exact h8.2.2.2 h9
  · have h8 := bV2 c hc
    refine ⟨h8.1, fun hm => ?_⟩
    rcases hfn c hm with h9 | h9
    · exact h8.2.1 h9
    · exact h8.2.2.2 h9

theorem Uni.follow {base h : Heap} {lv vv : Value} {bs : List Nat} {ss : List NodeS} {voters : List Int} {keep : List Nat} (u : Uni base h lv vv bs ss voters keep) {i b : Nat} {s : NodeS} (hb : bs[i]? = some b) (hs : ss[i]? = some s) (leader t : Int) :
    CallsH Try.prog 21 #[.pointer (some ⟨b, 0, none⟩), .int .i64 leader, .int .i64 t] h fun r h' =>
      r = .bool (s.follow leader t).2 ∧ Uni base h' lv vv bs (ss.set i (s.follow leader t).1) voters keep ∧ Off keep h h' := by
  obtain ⟨ns, x, rfl, rfl, hi, rfl, rfl, h3, h4, h5, h6⟩ := u.at hb hs
  refine (follow_any (h3.cl.at_ i x hi) leader t).mono ?_
  rintro r h' ⟨rfl, fp', hto⟩
  obtain ⟨h7, h8⟩ := h3.set hi hto
  obtain ⟨h9, h10⟩ := Uni.moved (r := .slice none 0 0) h8 h7 h4 h5 h6 (by simp [blkOf]) (by simp [blkOf])
  rw [set_fst hi, List.map_set] at h9
  exact ⟨rfl, h9, h10⟩

theorem SetUp.uni {base h : Heap} {K N9 N10 N11 B6 B7 n : Nat} {vL vV : Value} {I L : Int} {ns : List Nd} (s : SetUp base h K N9 N10 N11 B6 B7 n n vL vV I L ns) :
    Uni base h vL vV (ns.map (·.1)) (ns.map (·.2.1)) (rngI n) [N9, N10, N11, B6, B7] := by
  have hk := s.kh
  refine ⟨ns, rfl, rfl, ⟨s.cl, by rw [s.nl]; exact s.oL.sl, ⟨by simpa [rngI] using s.oV.sl⟩, fun c hc => (s.bL c (rdOf_blk hc)).2.1, fun c hc => (s.bV c (rdOf_blk hc)).2⟩, s.stp, fun c hc => ?_, fun c hc => ⟨?_, fun hm => ?_⟩⟩
  · have h1 := s.new c hc
    have h2 := s.ks N9 (by simp)
    omega
  · have := s.ks c hc; omega
  · have h1 := s.new c hm
    have := s.ks c hc; omega

/-! ### The turns, once more plain -/
theorem greatest : ∀ (l : List NodeS), l ≠ [] → ∃ (j : Nat) (s : NodeS), l[j]? = some s ∧ ∀ x ∈ l, x.term ≤ s.term
  | [], h => absurd rfl h
  | [x], _ => ⟨0, x, rfl, by simp⟩
  | x :: y :: r, _ => by
    obtain ⟨j, s, h1, h2⟩ := greatest (y :: r) (by simp)
    by_cases h : x.term ≤ s.term
    · refine ⟨j + 1, s, by simpa using h1, fun z hz => ?_⟩
      rcases List.mem_cons.1 hz with rfl | hz
      · exact h
      · exact h2 z hz
    · refine ⟨0, x, rfl, fun z hz => ?_⟩
      rcases List.mem_cons.1 hz with rfl | hz
      · exact Int.le_refl _
      · have := h2 z hz; omega
theorem EI.start {n : Nat} {ss : List NodeS} (hn : 1 ≤ n ∧ n ≤ 5) (hl : ss.length = n) (h : ∀ (k : Nat) (s : NodeS), ss[k]? = some s → ∃ t v : Int, s = node0 n k t v ∧ 0 ≤ t ∧ t ≤ 4) : EI n 0 0 ss := by
  obtain ⟨j, s, hj, hmx⟩ := greatest ss (fun e => by subst e; simp at hl; omega)
  obtain ⟨t, v, rfl, h1, h2⟩ := h j s hj
  refine ⟨t, ⟨hl, ⟨h1, h2⟩, fun k z hz => ?_⟩, .inl ⟨by omega, fun _ => rfl, ⟨j, _, hj, rfl⟩, fun k z hz => ?_⟩⟩
  · obtain ⟨t', v', rfl, h3, h4⟩ := h k z hz
    have := hmx _ (List.mem_of_getElem? hz)
    have hk := (List.getElem?_eq_some_iff.1 hz).1
    simp only [node0] at this ⊢
    refine ⟨by trivial, by trivial, h3, this, by decide, by decide, by decide, by simp⟩
  · obtain ⟨t', v', rfl, h3, h4⟩ := h k z hz
    rw [b01_f (by omega)]
    simp [node0]
theorem alone : ∀ n, n ≤ 5 → ∀ i, i < n → maj (rngI n) [(i : Int)] → n = 1 := by decide
theorem EI.turn {n R i : Nat} {ss : List NodeS} {s : NodeS} (h : EI n R i ss) (hs : ss[i]? = some s) (hn : 1 ≤ n ∧ n ≤ 5) (I L : Int) :
    ∃ fin s', Dl (rngI n) I L 100 (ss.set i (s.tick (rngI n) I L).1) (s.tick (rngI n) I L).2 fin ∧ fin[i]? = some s' ∧ ((s'.role ≠ 2 ∧ EI n R (i + 1) fin) ∨ (s'.role = 2 ∧ Won n i s' fin)) ∧ (s.tick (rngI n) I L).2.length ≤ 100 := by
  obtain ⟨hpre, g1, g2, g3, g4, g5, g6, g7, g8⟩ := h.pre hs
  by_cases hw : s.silent + 1 < 10 + 3 * s.i
  · rw [tick_wait g1 hw]
    exact ⟨_, _, .nil, set_at hs, .inl ⟨g1, h.wait hs hn.2 hw⟩, by simp⟩
  · have hin := hpre.hin
    have hmem : s.i ∈ rngI n := by simp only [rngI, List.mem_map, List.mem_range]; exact ⟨i, hin, g3.symm⟩
    rw [tick_stand g1 hw hmem g2]
    by_cases hmj : maj (rngI n) [s.i]
    · rw [if_pos hmj]
      have hn1 : n = 1 := alone n hn.2 i hin (by rw [← g3]; exact hmj)
      have hwin : s.stand.win (rngI n) = { s.stand with role := 2, leader := s.stand.i } := if_pos (by simpa [NodeS.stand] using hmj)
      refine ⟨_, _, .nil, set_at hs, .inr ⟨by rw [hwin], ⟨?_, fun j y hj hji => ?_, set_at hs, ?_⟩⟩, by simp⟩
      · rw [hwin]
        exact ⟨rfl, by simpa [NodeS.stand] using g3, by simp only [NodeS.stand]; omega, by simp only [NodeS.stand]; omega, by simpa [NodeS.stand] using g3⟩
      · have := (List.getElem?_eq_some_iff.1 hj).1
        rw [List.length_set, hpre.len] at this
        omega
      · rw [List.length_set]; exact hpre.len
    · rw [if_neg hmj, asks_rng (i := i) (by simp [NodeS.stand, g3])]
      obtain ⟨s', h1, h2⟩ := Go.Proofs.Ytaopehadegknoaa.stood (I := I) (L := L) hpre (by simp [NodeS.stand]) (by simpa [NodeS.stand, ← g3] using hmj) hn.2
      refine ⟨_, s', h2, ?_, h.stood hs hn.2 hw h1, ?_⟩
      · rw [mid_get hs, if_pos rfl]
      · have := others_length (n := n) (i := i)
        simp; omega
end Go.Proofs.Ytaopehadegknoaa
