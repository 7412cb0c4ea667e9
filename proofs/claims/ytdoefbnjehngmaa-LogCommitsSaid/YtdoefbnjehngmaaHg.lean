/- Plain law of LogCommits; conditions: none. -/
import Derived.Test.YtdoefbnjehngmaaGv
import Derived.Test.YtdoefbnjehngmaaGp
namespace Go.Proofs.Ytdoefbnjehngmaa
open Go Go.CF
set_option maxRecDepth 20000

def ldN (n T : Nat) (l : List Ent) : LogS := { n := n, i := 0, ents := l ++ [emptyE T], commit := 0, leads := T, nx := fun _ => l.length + 1, mt := fun _ => 0 }
def lpN (n T : Nat) (l : List Ent) : LogS := { n := n, i := 0, ents := l ++ [emptyE T, opE T 1], commit := 0, leads := T, nx := fun _ => l.length + 1, mt := fun _ => 0 }
theorem cm_lead {n T : Nat} {l : List Ent} (hT : 1 ≤ T ∧ T ≤ 1048576) (ht : termAt l l.length ≤ T) (hl : l.length < 1024) : leadR (log0 n 0 l) T = (ldN n T l, (l.length : Int) + 1, 0) := by
  have h1 : ¬ ((T : Int) < 1 ∨ 1048576 < (T : Int) ∨ (T : Int) < termAt (log0 n 0 l).ents (log0 n 0 l).ents.length) := by
    show ¬ (_ ∨ _ ∨ (T : Int) < termAt l l.length)
    omega
  unfold leadR
  rw [if_neg h1, if_neg (by show ¬ 1024 ≤ l.length; omega)]
  rfl
theorem cm_tm {n T : Nat} {l : List Ent} (h : ∀ e ∈ l, e.term ≤ T) : LogTm (ldN n T l) := fun _ e he => by
  rcases List.mem_append.1 he with h1 | h1
  · exact h e h1
  · simp at h1; subst h1; exact Int.le_refl _
theorem cm_prop {n T : Nat} {l : List Ent} (hn : 1 ≤ n) (hT : 1 ≤ T ∧ T ≤ 1048576) (hl : l.length ≤ 40) : proposeR (ldN n T l) (propE 1) = (lpN n T l, (l.length : Int) + 2, 0) := by
  have hr : rightE (ldN n T l).n ((propE 1).at_ (ldN n T l).leads) := ⟨⟨by simp [propE, Ent.at_, ldN]; omega, by simp [propE, Ent.at_, ldN]; omega⟩, .inr (.inl ⟨rfl, rfl, by simp [propE, Ent.at_], by simp [propE, Ent.at_, ldN]; omega, by simp [propE, Ent.at_], by simp [propE, Ent.at_], by simp [propE, Ent.at_], by simp [propE, Ent.at_]⟩)⟩
  have hll : (ldN n T l).ents.length = l.length + 1 := by simp [ldN]
  unfold proposeR
  rw [if_neg (by show ¬ T = 0; omega), if_neg (fun h => h.elim (by simp [propE]) (fun h => h hr)), if_neg (by omega), hll]
  simp only [Prod.mk.injEq, and_true]
  refine ⟨?_, by omega⟩
  show ({ ldN n T l with ents := (l ++ [emptyE T]) ++ [opE T 1] } : LogS) = _
  rw [List.append_assoc]; rfl
/-- What stands while the answers come in: of the replicas below r the matches are known. -/
structure Cm (g : LogS) (n T : Nat) (l : List Ent) (mc : List Nat) (r : Nat) : Prop where
  n : g.n = n
  i : g.i = 0
  e : g.ents = l ++ [emptyE T, opE T 1]
  c : g.commit = 0
  ld : g.leads = T
  ml : mc.length = r
  m0 : mc[0]? = some (l.length + 2)
  m : ∀ q, 1 ≤ q → q < r → mc[q]? = some (g.mt q)
  z : ∀ q, r ≤ q → g.mt q = 0
  b : ∀ x ∈ mc, x ≤ l.length + 2
theorem cm_start {n T : Nat} {l : List Ent} : Cm (lpN n T l) n T l [l.length + 2] 1 := ⟨rfl, rfl, rfl, rfl, rfl, rfl, rfl, fun q h1 h2 => by omega, fun _ _ => rfl, fun x hx => by simp at hx; omega⟩
def ackM (T r k : Nat) : Msg := { kind := 8, frm := r, to := 0, term := T, index := k, logt := 0, commit := 0, granted := true, ents := [] }
theorem cm_app {g : LogS} {n T r k : Nat} {l : List Ent} {mc : List Nat} (h : Cm g n T l mc r) (hT : 1 ≤ T) (hr : 1 ≤ r) (hrn : r < n) (hk : k ≤ l.length + 2) : Cm (appendedR g (ackM T r k)) n T l (mc ++ [k]) (r + 1) := by
  have hh : hears g (ackM T r k) := ⟨rfl, by rw [h.i]; rfl, ⟨by show (0 : Int) ≤ r; omega, by rw [h.n]; show (r : Int) < n; omega, by rw [h.i]; show (r : Int) ≠ 0; omega⟩, by rw [h.ld]; omega, by rw [h.ld]; rfl⟩
  have hlen : g.ents.length = l.length + 2 := by rw [h.e]; simp
  have hx : (ackM T r k).granted = true ∧ (ackM T r k).index ≤ g.ents.length := ⟨rfl, by rw [hlen]; show (k : Int) ≤ _; omega⟩
  have hm : max (g.mt r) k = k := by rw [h.z r (Nat.le_refl _)]; omega
  unfold appendedR
  rw [if_pos hh, if_pos hx]
  have e1 : (ackM T r k).frm.toNat = r := by show (r : Int).toNat = r; omega
  have e2 : (ackM T r k).index.toNat = k := by show (k : Int).toNat = k; omega
  rw [e1, e2, hm]
  have hml := h.ml
  refine ⟨h.n, h.i, h.e, h.c, h.ld, by simp [hml], by rw [List.getElem?_append_left (by omega)]; exact h.m0, fun q h1 h2 => ?_, fun q hq => ?_, fun x hx => ?_⟩
  · simp only [upF]
    by_cases e : q = r
    · subst e; rw [if_pos rfl, List.getElem?_append_right (by omega), hml]; simp
    · rw [if_neg e, List.getElem?_append_left (by omega)]; exact h.m q h1 (by omega)
  · simp only [upF]
    rw [if_neg (by omega)]; exact h.z q (by omega)
  · rcases List.mem_append.1 hx with h9 | h9
    · exact h.b x h9
    · simp at h9; omega
theorem hv_mem {g : LogS} {k : Nat} {v : Int} : ∀ m, v ∈ hv g k m ↔ ∃ q : Nat, q < m ∧ v = q ∧ (q = g.i ∨ k ≤ g.mt q)
  | 0 => by simp [hv]
  | m + 1 => by
    have ih := hv_mem (g := g) (k := k) (v := v) m
    unfold hv
    split
    · rename_i hc
      rw [List.mem_append, ih]
      constructor
      · rintro (⟨q, h1, h2⟩ | h1)
        · exact ⟨q, by omega, h2⟩
        · simp at h1; exact ⟨m, by omega, h1, hc⟩
      · rintro ⟨q, h1, h2, h3⟩
        by_cases e : q = m
        · subst e; exact .inr (by simp [h2])
        · exact .inl ⟨q, by omega, h2, h3⟩
    · rename_i hc
      rw [ih]
      constructor
      · rintro ⟨q, h1, h2⟩; exact ⟨q, by omega, h2⟩
      · rintro ⟨q, h1, h2, h3⟩
        by_cases e : q = m
        · subst e; exact absurd h3 hc
        · exact ⟨q, by omega, h2, h3⟩
theorem cm_in {g : LogS} {n T k v : Nat} {l : List Ent} {mc : List Nat} {x : Nat} (h : Cm g n T l mc n) (hk : k ≤ l.length + 2) (hx : mc[v]? = some x) : (v : Int) ∈ hv g k g.n ↔ k ≤ x := by
  have hvn : v < n := by have := (List.getElem?_eq_some_iff.1 hx).1; have := h.ml; omega
  rw [hv_mem, h.n, h.i]
  constructor
  · rintro ⟨q, h1, h2, h3⟩
    have : q = v := by omega
    subst this
    by_cases e : q = 0
    · subst e; have := h.m0; rw [hx] at this; cases this; exact hk
    · have := h.m q (by omega) hvn; rw [hx] at this; cases this; exact h3.resolve_left e
  · intro h1
    refine ⟨v, hvn, rfl, ?_⟩
    by_cases e : v = 0
    · exact .inl e
    · right
      have := h.m v (by omega) hvn; rw [hx] at this; cases this; exact h1
theorem cm_out {g : LogS} {n T k : Nat} {v : Int} {l : List Ent} {mc : List Nat} (h : Cm g n T l mc n) (hv0 : ¬ (0 ≤ v ∧ v < n)) : ¬ v ∈ hv g k g.n := by
  rw [hv_mem, h.n]
  rintro ⟨q, h1, h2, _⟩
  omega
/-- The greatest index below k that a majority has. -/
def Want (g : LogS) (vs : List Int) (own k want : Nat) : Prop :=
  (want = 0 ∧ ∀ q, own ≤ q → q < k → ¬ maj vs (hv g q g.n)) ∨ (own ≤ want ∧ want < k ∧ maj vs (hv g want g.n) ∧ ∀ q, want < q → q < k → ¬ maj vs (hv g q g.n))
theorem Want.step {g : LogS} {vs : List Int} {own k want : Nat} (h : Want g vs own k want) (hk : own ≤ k) : Want g vs own (k + 1) (if maj vs (hv g k g.n) then k else want) := by
  split
  · rename_i hm
    exact .inr ⟨hk, by omega, hm, fun q h1 h2 => by omega⟩
  · rename_i hm
    rcases h with ⟨h1, h2⟩ | ⟨h1, h2, h3, h4⟩
    · refine .inl ⟨h1, fun q h5 h6 => ?_⟩
      by_cases e : q = k
      · subst e; exact hm
      · exact h2 q h5 (by omega)
    · refine .inr ⟨h1, by omega, h3, fun q h5 h6 => ?_⟩
      by_cases e : q = k
      · subst e; exact hm
      · exact h4 q h5 (by omega)
theorem hv_commit {g : LogS} {c k : Nat} : ∀ m, hv { g with commit := c } k m = hv g k m
  | 0 => rfl
  | m + 1 => by
    show (if m = g.i ∨ k ≤ g.mt m then hv { g with commit := c } k m ++ [(m : Int)] else hv { g with commit := c } k m) = (if m = g.i ∨ k ≤ g.mt m then hv g k m ++ [(m : Int)] else hv g k m)
    rw [hv_commit m]
theorem cm_own {g : LogS} {n T : Nat} {l : List Ent} {mc : List Nat} (h : Cm g n T l mc n) (hb : ∀ e ∈ l, e.term < T) (q : Nat) (hq : 0 < q) : ownT g q ↔ l.length + 1 ≤ q := by
  have hlen : g.ents.length = l.length + 2 := by rw [h.e]; simp
  constructor
  · intro ho
    by_cases hql : q ≤ l.length
    · exfalso
      have h1 := ho q (Nat.le_refl _) (by omega)
      obtain ⟨p, rfl⟩ : ∃ p, q = p + 1 := ⟨q - 1, by omega⟩
      obtain ⟨e, he⟩ : ∃ e, l[p]? = some e := ⟨_, List.getElem?_eq_getElem (by omega)⟩
      rw [termAt_get (by rw [h.e, List.getElem?_append_left (by omega)]; exact he), h.ld] at h1
      have := hb e (List.mem_of_getElem? he)
      omega
    · omega
  · intro hq2 m h1 h2
    rw [h.ld]
    have hc : m = l.length + 1 ∨ m = l.length + 2 := by omega
    rcases hc with rfl | rfl
    · exact termAt_get (e := emptyE T) (by rw [h.e]; simp)
    · exact termAt_get (j := l.length + 1) (e := opE T 1) (by rw [h.e]; simp)
theorem cm_adv {g g' : LogS} {n T want : Nat} {l : List Ent} {mc : List Nat} {vs : List Int} {x : Bool} (h : Cm g n T l mc n) (hT : 1 ≤ T) (hb : ∀ e ∈ l, e.term < T) (hw : Want g vs (l.length + 1) (l.length + 3) want) (ha : AdvR g vs g' x) :
    x = decide ((0 : Int) < (want : Int)) ∧ g'.commit = want ∧ ∀ g'' y, AdvR g' vs g'' y → y = false := by
  have hlen : g.ents.length = l.length + 2 := by rw [h.e]; simp
  have hown := fun q hq => cm_own h hb q hq
  cases ha with
  | zero h0 => have := h.ld; omega
  | none h0 h1 =>
    rcases hw with ⟨w1, w2⟩ | ⟨w1, w2, w3, w4⟩
    · subst w1
      refine ⟨by simp, h.c, fun g'' y ha2 => ?_⟩
      cases ha2 with
      | zero => rfl
      | none => rfl
      | some N a1 a2 a3 a4 a5 => exact absurd a5 (w2 N ((hown N (by omega)).1 a4) (by omega))
    · exact absurd w3 (h1 want (by have := h.c; omega) (by omega) ((hown want (by omega)).2 w1))
  | some N a1 a2 a3 a4 a5 a6 =>
    have hN := (hown N (by omega)).1 a4
    rcases hw with ⟨w1, w2⟩ | ⟨w1, w2, w3, w4⟩
    · exact absurd a5 (w2 N hN (by omega))
    · have hNw : N = want := by
        rcases Nat.lt_trichotomy N want with h9 | h9 | h9
        · exact absurd w3 (a6 want h9 (by omega))
        · exact h9
        · exact absurd a5 (w4 N h9 (by omega))
      subst hNw
      refine ⟨(decide_eq_true (by omega)).symm, rfl, fun g'' y ha2 => ?_⟩
      cases ha2 with
      | zero => rfl
      | none => rfl
      | some N' b1 b2 b3 b4 b5 =>
        have b2' : N < N' := b2
        have b3' : N' ≤ g.ents.length := b3
        rw [hv_commit] at b5
        exact absurd b5 (w4 N' b2' (by omega))
end Go.Proofs.Ytdoefbnjehngmaa
