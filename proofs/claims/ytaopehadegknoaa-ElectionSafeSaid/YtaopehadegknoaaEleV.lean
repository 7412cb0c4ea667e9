/- ElectionSafe as plain data: no term has two leaders; no conditions. -/
import Derived.Test.YtaopehadegknoaaElePr
import Derived.Test.YtaopehadegknoaaEleS
namespace Go.Proofs.Ytaopehadegknoaa
open Go Go.CF

/-- The votes of the nodes, by terms: -1 is none. -/
abbrev Hist := Nat → Int → Int
def Hist.le (V W : Hist) : Prop := ∀ k t, V k t ≠ -1 → W k t = V k t
theorem Hist.le_refl (V : Hist) : V.le V := fun _ _ _ => rfl
theorem Hist.le_trans {U V W : Hist} (h : U.le V) (k : V.le W) : U.le W := fun i t hn => by rw [k i t (by rw [h i t hn]; exact hn), h i t hn]
def Hist.put (V : Hist) (i : Nat) (t x : Int) : Hist := fun k u => if k = i ∧ u = t then x else V k u
theorem Hist.put_le {V : Hist} {i : Nat} {t x : Int} (h : V i t = -1 ∨ V i t = x) : V.le (V.put i t x) := by
  intro k u hn
  unfold Hist.put
  split
  · rename_i he
    obtain ⟨rfl, rfl⟩ := he
    rcases h with h | h
    · exact absurd h hn
    · exact h.symm
  · rfl
theorem Hist.put_same (V : Hist) (i : Nat) (t x : Int) : V.put i t x i t = x := if_pos ⟨rfl, rfl⟩
theorem Hist.put_off {V : Hist} {i k : Nat} {t u x : Int} (h : ¬ (k = i ∧ u = t)) : V.put i t x k u = V k u := if_neg h
/-- Those that have voted for i in the term t. -/
def forV (V : Hist) (n : Nat) (t : Int) (i : Nat) : List Int := ((List.range n).filter fun k => decide (V k t = i)).map fun (k : Nat) => (k : Int)
def wonBy (V : Hist) (n : Nat) (t : Int) (i : Nat) : Prop := maj (rngI n) (forV V n t i)
theorem forV_mem {V : Hist} {n : Nat} {t : Int} {i : Nat} {x : Int} : x ∈ forV V n t i ↔ ∃ k : Nat, k < n ∧ x = k ∧ V k t = i := by
  simp only [forV, List.mem_map, List.mem_filter, List.mem_range, decide_eq_true_eq]
  constructor
  · rintro ⟨k, ⟨h1, h2⟩, rfl⟩; exact ⟨k, h1, rfl, h2⟩
  · rintro ⟨k, h1, rfl, h2⟩; exact ⟨k, ⟨h1, h2⟩, rfl⟩
theorem wonBy_le {V W : Hist} {n : Nat} {t : Int} {i : Nat} (h : V.le W) (hw : wonBy V n t i) : wonBy W n t i :=
  maj_mono (fun x hx => by
    obtain ⟨k, h1, h2, h3⟩ := forV_mem.1 hx
    exact forV_mem.2 ⟨k, h1, h2, by rw [h k t (by rw [h3]; omega), h3]⟩) hw
theorem cnt_two (a b : List Int) : ∀ l : List Int, (∀ x ∈ l, ¬ (x ∈ a ∧ x ∈ b)) → cnt l a + cnt l b ≤ l.length
  | [], _ => by simp [cnt]
  | x :: l, h => by
    have ih := cnt_two a b l (fun y hy => h y (by simp [hy]))
    have hx := h x (by simp)
    simp only [cnt, List.filter_cons] at *
    by_cases h1 : x ∈ a
    · have h2 : x ∉ b := fun h2 => hx ⟨h1, h2⟩
      simp [h1, h2]; omega
    · by_cases h2 : x ∈ b
      · simp [h1, h2]; omega
      · simp [h1, h2]; omega
theorem wonBy_one {V : Hist} {n : Nat} {t : Int} {i j : Nat} (hi : wonBy V n t i) (hj : wonBy V n t j) : i = j := by
  apply Classical.byContradiction
  intro hne
  have := cnt_two (forV V n t i) (forV V n t j) (rngI n) (fun x _ ⟨h1, h2⟩ => by
    obtain ⟨k, _, rfl, h3⟩ := forV_mem.1 h1
    obtain ⟨k', _, h4, h5⟩ := forV_mem.1 h2
    have : k = k' := by omega
    subst this
    rw [h3] at h5
    omega)
  unfold wonBy maj at hi hj
  omega

structure VN (V : Hist) (n B j : Nat) (s : NodeS) : Prop where
  rep : s.rep = n
  i : s.i = j
  pi : PI s
  now : V j s.term = s.vote
  new : ∀ t, s.term < t → V j t = -1
  got : s.role ≠ 0 → ∀ x ∈ s.votes, ∃ k : Nat, k < n ∧ x = k ∧ V k s.term = j
  won : s.role = 2 → maj (rngI n) s.votes
  few : s.votes.length ≤ B
  zero : s.term = 0 → s.vote = -1
def VM (V : Hist) (n : Nat) (m : Msg) : Prop := m.ok ∧ (m.kind = 6 → m.granted = true → ∃ k : Nat, k < n ∧ m.frm = k ∧ 0 ≤ m.to ∧ V k m.term = m.to)
theorem VM.le {V W : Hist} {n : Nat} {m : Msg} (h : V.le W) (hm : VM V n m) : VM W n m :=
  ⟨hm.1, fun h1 h2 => by
    obtain ⟨k, h3, h4, h5, h6⟩ := hm.2 h1 h2
    exact ⟨k, h3, h4, h5, by rw [h k _ (by rw [h6]; omega), h6]⟩⟩
/-- Another node, where only node i has voted. -/
theorem VN.le {V : Hist} {n B j i : Nat} {s : NodeS} {t x : Int} (hp : V i t = -1 ∨ V i t = x) (hj : j ≠ i) (h : VN V n B j s) : VN (V.put i t x) n B j s := by
  have hle := Hist.put_le hp
  refine ⟨h.rep, h.i, h.pi, by rw [Hist.put_off (fun e => hj e.1)]; exact h.now, fun u hu => by rw [Hist.put_off (fun e => hj e.1)]; exact h.new u hu, fun hr y hy => ?_, h.won, h.few, h.zero⟩
  obtain ⟨k, h1, h2, h3⟩ := h.got hr y hy
  exact ⟨k, h1, h2, by rw [hle k _ (by rw [h3]; omega), h3]⟩
theorem VN.more {V : Hist} {n B C j : Nat} {s : NodeS} (h : VN V n B j s) (hB : B ≤ C) : VN V n C j s := ⟨h.rep, h.i, h.pi, h.now, h.new, h.got, h.won, Nat.le_trans h.few hB, h.zero⟩
theorem VN.leads {V : Hist} {n B j : Nat} {s : NodeS} (h : VN V n B j s) (hr : s.role = 2) : wonBy V n s.term j :=
  maj_mono (fun x hx => by
    obtain ⟨k, h1, h2, h3⟩ := h.got (by omega) x hx
    exact forV_mem.2 ⟨k, h1, h2, h3⟩) (h.won hr)

/-- What one call leaves: a new history, the node, and its messages. -/
structure Step (V : Hist) (n B j : Nat) (s : NodeS) (out : List Msg) (W : Hist) : Prop where
  le : V.le W
  off : ∀ (k : Nat) (z : NodeS), k ≠ j → VN V n B k z → VN W n B k z
  me : VN W n (B + 1) j s
  out : ∀ m ∈ out, VM W n m

theorem VN.see {V : Hist} {n B j : Nat} {s : NodeS} (h : VN V n B j s) (t : Int) : VN V n B j (s.see t) := by
  have hk := keeps_see h.pi t
  unfold NodeS.see at hk ⊢
  split
  · rename_i ht
    rw [if_pos ht] at hk
    exact ⟨h.rep, h.i, hk.pi, h.new t ht.1, fun u hu => h.new u (by simp only at hu; omega), by simp, by simp, by simp, by simp⟩
  · exact h
theorem VN.win {V : Hist} {n B j : Nat} {s : NodeS} (h : VN V n B j s) (hr : s.role ≠ 0) : VN V n B j (s.win (rngI n)) := by
  have hk := keeps_win h.pi hr (rngI n)
  unfold NodeS.win at hk ⊢
  split
  · rename_i hm
    rw [if_pos hm] at hk
    exact ⟨h.rep, h.i, hk.pi, h.now, h.new, fun _ => h.got hr, fun _ => hm, h.few, h.zero⟩
  · exact h
theorem step_tick {V : Hist} {n B j : Nat} {s : NodeS} (h : VN V n B j s) (hj : j < n) (I T : Int) : ∃ W, Step V n B j (s.tick (rngI n) I T).1 (s.tick (rngI n) I T).2 W := by
  have quiet : ∀ k : Int, 0 ≤ k ∧ k ≤ 22 → VN V n (B + 1) j { s with silent := k } := fun k hk =>
    ⟨h.rep, h.i, (keeps_silent h.pi hk).pi, h.now, h.new, h.got, h.won, Nat.le_succ_of_le h.few, h.zero⟩
  have h1 := h.pi.silent
  have h2 := h.pi.i
  have h3 := h.pi.rep
  have hi := h.i
  unfold NodeS.tick
  split
  · exact ⟨V, V.le_refl, fun _ _ _ hz => hz, h.more (Nat.le_succ _), by simp⟩
  · split
    · exact ⟨V, V.le_refl, fun _ _ _ hz => hz, quiet _ (by omega), by simp⟩
    · split
      · rename_i hst
        have hV : V j (s.term + 1) = -1 := h.new _ (by omega)
        have hp : V j (s.term + 1) = -1 ∨ V j (s.term + 1) = s.i := .inl hV
        have hme : VN (V.put j (s.term + 1) s.i) n (B + 1) j s.stand := by
          refine ⟨h.rep, h.i, (keeps_stand h.pi hst.2).pi, Hist.put_same _ _ _ _, fun u hu => ?_, fun _ x hx => ?_, by simp [NodeS.stand], by simp [NodeS.stand], fun h0 => by simp only [NodeS.stand] at h0; have := h.pi.term; omega⟩
          · simp only [NodeS.stand] at hu
            rw [Hist.put_off (fun e => by omega)]
            exact h.new u (by omega)
          · simp only [NodeS.stand, List.mem_singleton] at hx
            exact ⟨j, hj, by omega, by simp only [NodeS.stand]; rw [Hist.put_same]; exact hi⟩
        split
        · exact ⟨_, Hist.put_le hp, fun k z hk hz => hz.le hp hk, hme.win (by simp [NodeS.stand]), by simp⟩
        · refine ⟨_, Hist.put_le hp, fun k z hk hz => hz.le hp hk, hme, fun m hm => ?_⟩
          simp only [asks, List.mem_map] at hm
          obtain ⟨v, _, rfl⟩ := hm
          exact ⟨⟨rfl, rfl, rfl, rfl, rfl, rfl, rfl, rfl, rfl, rfl⟩, fun hk => by simp [voteMsg] at hk⟩
      · exact ⟨V, V.le_refl, fun _ _ _ hz => hz, quiet _ (by omega), by simp⟩
theorem step_receive {V : Hist} {n B j : Nat} {s : NodeS} (h : VN V n B j s) (hj : j < n) {m : Msg} (hm : VM V n m) (I T : Int) : ∃ W, Step V n B j (s.receive m (rngI n) I T).1 (s.receive m (rngI n) I T).2 W := by
  unfold NodeS.receive
  split
  · rename_i hh
    have hs := h.see m.term
    have hks := (keeps_see h.pi m.term).same
    have ho : (s.see m.term).other m.frm := by
      have := hh.2.2.1
      unfold NodeS.other at *
      rw [hks.1, hks.2]; exact this
    generalize s.see m.term = z at hs ho hks
    split
    · by_cases hg : z.grants m I T
      · have hp : V j z.term = -1 ∨ V j z.term = m.frm := by
          rw [hs.now]
          exact hg.2.1
        have hme : VN (V.put j z.term m.frm) n (B + 1) j (z.asked m I T) := by
          have hka := keeps_asked hs.pi ho I T
          unfold NodeS.asked at hka ⊢
          rw [if_pos hg] at hka ⊢
          refine ⟨hs.rep, hs.i, hka.pi, Hist.put_same _ _ _ _, fun u hu => ?_, fun hr x hx => ?_, hs.won, Nat.le_succ_of_le hs.few, fun h0 => by simp only at h0; have := hg.1; have := hh.2.2.2.1; omega⟩
          · simp only at hu
            rw [Hist.put_off (fun e => by omega)]
            exact hs.new u hu
          · obtain ⟨k, h1, h2, h3⟩ := hs.got hr x hx
            exact ⟨k, h1, h2, by rw [Hist.put_le hp k _ (by rw [h3]; omega), h3]⟩
        refine ⟨_, Hist.put_le hp, fun k y hk hy => hy.le hp hk, hme, fun x hx => ?_⟩
        simp only [List.mem_singleton] at hx
        subst hx
        refine ⟨⟨rfl, rfl, rfl, rfl, rfl, rfl, rfl, rfl, rfl, rfl⟩, fun _ _ => ⟨j, hj, hs.i, ho.1, ?_⟩⟩
        exact Hist.put_same _ _ _ _
      · refine ⟨V, V.le_refl, fun _ _ _ hz => hz, ?_, fun x hx => ?_⟩
        · unfold NodeS.asked
          rw [if_neg hg]
          exact hs.more (Nat.le_succ _)
        · simp only [List.mem_singleton] at hx
          subst hx
          refine ⟨⟨rfl, rfl, rfl, rfl, rfl, rfl, rfl, rfl, rfl, rfl⟩, fun _ hgr => ?_⟩
          simp only [NodeS.reply, decide_eq_true_eq] at hgr
          exact absurd hgr hg
    · refine ⟨V, V.le_refl, fun _ _ _ hz => hz, ?_, by simp⟩
      unfold NodeS.voted
      split
      · rename_i hk5 ht
        have hk6 : m.kind = 6 := by
          rcases hh.1 with h5 | h6
          · exact absurd h5 hk5
          · exact h6
        obtain ⟨k, h1, h2, h3, h4⟩ := hm.2 hk6 ht.2.2
        refine VN.win ?_ (by simp only; have := ht.1; omega)
        refine ⟨hs.rep, hs.i, (keeps_votes hs.pi _).pi, hs.now, hs.new, fun hr x hx => ?_, fun hr => by simp only at hr; have := ht.1; omega, by simp only [List.length_append, List.length_singleton]; have := hs.few; omega, hs.zero⟩
        rcases List.mem_append.1 hx with h5 | h5
        · exact hs.got (by have := ht.1; omega) x h5
        · simp only [List.mem_singleton] at h5
          refine ⟨k, h1, by rw [h5, h2], ?_⟩
          have h6 := ht.2.1
          rw [h6] at h4
          rw [h4, hh.2.1]
          exact h.i
      · exact hs.more (Nat.le_succ _)
  · exact ⟨V, V.le_refl, fun _ _ _ hz => hz, h.more (Nat.le_succ _), by simp⟩
theorem step_restore {V : Hist} {n B j : Nat} {s : NodeS} (h : VN V n B j s) : promiseOK n j s.term s.vote ∧ VN V n B j (node0 n j s.term s.vote) := by
  have h1 := h.pi.rep; have h2 := h.pi.i; have h3 := h.pi.term; have h4 := h.pi.vote
  have hr := h.rep
  have hi := h.i
  have hp : promiseOK n j s.term s.vote := ⟨by omega, by omega, by omega, by omega, by omega, by omega, by omega, by omega, h.zero⟩
  exact ⟨hp, ⟨rfl, rfl, PI.start hp, h.now, h.new, by simp [node0], by simp [node0], by simp [node0], h.zero⟩⟩

/-- The nodes, the messages that are under way, and the leaders that have been seen. -/
structure SI (n B : Nat) (ss : List NodeS) (box : List Msg) (kvs : List (Int × Value)) : Prop where
  ok : ∃ V : Hist, ss.length = n ∧ (∀ (j : Nat) (s : NodeS), ss[j]? = some s → VN V n B j s) ∧ (∀ m ∈ box, VM V n m) ∧ ∀ p ∈ kvs, ∃ i : Nat, p.2 = .int .i64 i ∧ wonBy V n p.1 i
theorem SI.start {n : Nat} (hn : 1 ≤ n ∧ n ≤ 5) : SI n 1 ((List.range n).map fun (i : Nat) => node0 n i 0 (-1)) [] [] := by
  refine ⟨fun _ _ => -1, by simp, fun j s hj => ?_, by simp, by simp⟩
  rw [List.getElem?_map] at hj
  obtain ⟨k, hk, rfl⟩ := Option.map_eq_some_iff.1 hj
  have hjl := (List.getElem?_eq_some_iff.1 hk).1
  simp at hjl
  rw [List.getElem?_range hjl] at hk
  cases hk
  exact ⟨rfl, rfl, PI.start ⟨by omega, by omega, by omega, by omega, by omega, by omega, by omega, by omega, by omega⟩, rfl, fun _ _ => rfl, by simp [node0], by simp [node0], by simp [node0], fun _ => rfl⟩
theorem SI.step {n B : Nat} {ss : List NodeS} {box box2 out : List Msg} {kvs : List (Int × Value)} (h : SI n B ss box kvs) (hb : ∀ m ∈ box2, m ∈ box) {j : Nat} {s s' : NodeS} (hs : ss[j]? = some s)
    (hst : ∀ V, VN V n B j s → (∀ m ∈ box, VM V n m) → ∃ W, Step V n B j s' out W) : SI n (B + 1) (ss.set j s') (box2 ++ out) kvs := by
  obtain ⟨V, h1, h2, h3, h4⟩ := h.ok
  obtain ⟨W, hle, hoff, hme, hout⟩ := hst V (h2 j s hs) h3
  refine ⟨W, by rw [List.length_set]; exact h1, fun k y hk => ?_, fun m hm => ?_, fun p hp => ?_⟩
  · rw [List.getElem?_set] at hk
    split at hk
    · rename_i e; subst e
      split at hk
      · cases hk; exact hme
      · cases hk
    · rename_i e
      exact (hoff k y (fun e' => e e'.symm) (h2 k y hk)).more (Nat.le_succ _)
  · rcases List.mem_append.1 hm with h5 | h5
    · exact (h3 m (hb m h5)).le hle
    · exact hout m h5
  · obtain ⟨i, h5, h6⟩ := h4 p hp
    exact ⟨i, h5, wonBy_le hle h6⟩
theorem SI.sub {n B C : Nat} {ss : List NodeS} {box box2 : List Msg} {kvs : List (Int × Value)} (h : SI n B ss box kvs) (hb : ∀ m ∈ box2, m ∈ box) (hB : B ≤ C) : SI n C ss box2 kvs := by
  obtain ⟨V, h1, h2, h3, h4⟩ := h.ok
  exact ⟨V, h1, fun j s hj => (h2 j s hj).more hB, fun m hm => h3 m (hb m hm), h4⟩
theorem SI.restore {n B : Nat} {ss : List NodeS} {box : List Msg} {kvs : List (Int × Value)} (h : SI n B ss box kvs) {j : Nat} {s : NodeS} (hs : ss[j]? = some s) : promiseOK n j s.term s.vote ∧ SI n B (ss.set j (node0 n j s.term s.vote)) box kvs := by
  obtain ⟨V, h1, h2, h3, h4⟩ := h.ok
  obtain ⟨h5, h6⟩ := step_restore (h2 j s hs)
  refine ⟨h5, V, by rw [List.length_set]; exact h1, fun k y hk => ?_, h3, h4⟩
  rw [List.getElem?_set] at hk
  split at hk
  · rename_i e; subst e
    split at hk
    · cases hk; exact h6
    · cases hk
  · exact h2 k y hk
theorem lookI_mem {l : List (Int × Value)} {x : Int} {v : Value} (h : lookI l x = some v) : (x, v) ∈ l := by
  unfold lookI at h
  obtain ⟨p, h1, rfl⟩ := Option.map_eq_some_iff.1 h
  have h2 := List.mem_of_find?_eq_some h1
  have h3 := List.find?_some h1
  simp only [decide_eq_true_eq] at h3
  rw [← h3]; exact h2
/-- A leader is the one that has been seen, if one has been seen. -/
theorem SI.seen {n B : Nat} {ss : List NodeS} {box : List Msg} {kvs : List (Int × Value)} (h : SI n B ss box kvs) {j : Nat} {s : NodeS} (hs : ss[j]? = some s) (hr : s.role = 2) :
    (∀ v, lookI kvs s.term = some v → v = .int .i64 j) ∧ SI n B ss box (updI kvs s.term (.int .i64 j)) := by
  obtain ⟨V, h1, h2, h3, h4⟩ := h.ok
  have hw := (h2 j s hs).leads hr
  refine ⟨fun v hv => ?_, V, h1, h2, h3, ?_⟩
  · obtain ⟨i, h5, h6⟩ := h4 _ (lookI_mem hv)
    simp only at h5 h6
    rw [h5, wonBy_one h6 hw]
  · have key : ∀ (l : List (Int × Value)), (∀ p ∈ l, ∃ i : Nat, p.2 = .int .i64 i ∧ wonBy V n p.1 i) → ∀ p ∈ updI l s.term (.int .i64 j), ∃ i : Nat, p.2 = .int .i64 i ∧ wonBy V n p.1 i := by
      intro l
      induction l with
      | nil => intro _ p hp; simp [updI] at hp; subst hp; exact ⟨j, rfl, hw⟩
      | cons q l ih =>
        intro hl p hp
        obtain ⟨qk, qv⟩ := q
        simp only [updI] at hp
        split at hp
        · rename_i he
          rcases List.mem_cons.1 hp with rfl | hp
          · exact ⟨j, rfl, by simp only; rw [← he]; exact hw⟩
          · exact hl p (by simp [hp])
        · rcases List.mem_cons.1 hp with rfl | hp
          · exact hl _ (by simp)
          · exact ih (fun p hp => hl p (by simp [hp])) p hp
    exact key kvs h4
end Go.Proofs.Ytaopehadegknoaa
