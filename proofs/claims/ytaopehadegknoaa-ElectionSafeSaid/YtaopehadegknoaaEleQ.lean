/- One turn of ElectionLogs as plain data; no conditions. -/
import Derived.Test.YtaopehadegknoaaEleP
namespace Go.Proofs.Ytaopehadegknoaa
open Go Go.CF

/-! ### One turn of ElectionLogs: node i has stood, its requests and their answers are delivered -/
def others (n i : Nat) : List Nat := (List.range n).filter fun j => decide (j ≠ i)
theorem others_mem {n i j : Nat} : j ∈ others n i ↔ j < n ∧ j ≠ i := by simp [others]
def rngI (n : Nat) : List Int := (List.range n).map fun (i : Nat) => (i : Int)
theorem asks_rng {s : NodeS} {index term : Int} {n i : Nat} (hi : s.i = i) : asks s index term (rngI n) = (others n i).map fun (j : Nat) => voteMsg s index term (j : Int) := by
  simp only [asks, rngI, others, hi, List.filter_map, List.map_map]
  congr 1
  apply List.filter_congr
  intro j _
  simp only [Function.comp]
  exact decide_eq_decide.2 (by omega)

/-- The nodes: i is the candidate (cd), those of D have answered. -/
def mid (ss : List NodeS) (f : Nat → NodeS → NodeS) (i : Nat) (cd : NodeS) (D : List Nat) : List NodeS :=
  ss.mapIdx fun j s => if j = i then cd else if j ∈ D then f j s else s
theorem mid_length {ss : List NodeS} {f : Nat → NodeS → NodeS} {i : Nat} {cd : NodeS} {D : List Nat} : (mid ss f i cd D).length = ss.length := by simp [mid]
theorem mid_get {ss : List NodeS} {f : Nat → NodeS → NodeS} {i : Nat} {cd : NodeS} {D : List Nat} {j : Nat} {s : NodeS} (h : ss[j]? = some s) : (mid ss f i cd D)[j]? = some (if j = i then cd else if j ∈ D then f j s else s) := by
  simp [mid, List.getElem?_mapIdx, h]
theorem mid_nil {ss : List NodeS} {f : Nat → NodeS → NodeS} {i : Nat} {cd : NodeS} : mid ss f i cd [] = ss.set i cd := by
  apply List.ext_getElem?
  intro j
  rw [List.getElem?_set]
  simp only [mid, List.getElem?_mapIdx]
  by_cases hj : j < ss.length
  · rw [List.getElem?_eq_getElem hj]
    by_cases h : i = j
    · subst h; simp [hj]
    · have : ¬ j = i := fun e => h e.symm
      simp [h, this]
  · rw [List.getElem?_eq_none (by omega)]
    by_cases e : i = j
    · subst e; simp; omega
    · simp [e]
theorem mid_step {ss : List NodeS} {f : Nat → NodeS → NodeS} {i : Nat} {cd : NodeS} {D : List Nat} {j : Nat} {s : NodeS} (h : ss[j]? = some s) (hj : j ≠ i) : (mid ss f i cd D).set j (f j s) = mid ss f i cd (D ++ [j]) := by
  apply List.ext_getElem?
  intro k
  rw [List.getElem?_set]
  simp only [mid, List.getElem?_mapIdx]
  by_cases hk : k < ss.length
  · rw [List.getElem?_eq_getElem hk]
    by_cases e : j = k
    · subst e
      rw [List.getElem?_eq_getElem hk] at h
      cases h
      simp [hk, hj]
    · have : ¬ k = j := fun e' => e e'.symm
      simp [e, this]
  · rw [List.getElem?_eq_none (by omega)]
    by_cases e : j = k
    · subst e; simp; omega
    · simp [e]
theorem mid_cand {ss : List NodeS} {f : Nat → NodeS → NodeS} {i : Nat} {cd cd' : NodeS} {D : List Nat} (hi : i < ss.length) : (mid ss f i cd D).set i cd' = mid ss f i cd' D := by
  apply List.ext_getElem?
  intro k
  rw [List.getElem?_set]
  simp only [mid, List.getElem?_mapIdx]
  by_cases hk : k < ss.length
  · rw [List.getElem?_eq_getElem hk]
    by_cases e : i = k
    · subst e; simp [hk]
    · have : ¬ k = i := fun e' => e e'.symm
      simp [e, this]
  · rw [List.getElem?_eq_none (by omega)]
    by_cases e : i = k
    · omega
    · simp [e]

/-- Node i's log is no worse than node j's. -/
def bt (I T : Nat → Int) (i j : Nat) : Prop := T i > T j ∨ T i = T j ∧ I i ≥ I j
instance (I T : Nat → Int) (i j : Nat) : Decidable (bt I T i j) := inferInstanceAs (Decidable (_ ∨ _))
def aft (I T : Nat → Int) (t1 : Int) (i j : Nat) (s : NodeS) : NodeS := if bt I T i j then { s.fresh t1 with vote := i, silent := 0 } else s.fresh t1
def ans (I T : Nat → Int) (t1 : Int) (i j : Nat) : Msg := { kind := 6, frm := j, to := i, term := t1, index := 0, logTerm := 0, commit := 0, granted := decide (bt I T i j) }

theorem ask_step {I T : Nat → Int} {n i j : Nat} {c s : NodeS} {voters : List Int} (hci : c.i = i) (hin : i < n) (hij : j ≠ i) (hsi : s.i = j) (hsr : s.rep = n) (h1 : s.term < c.term) (h2 : c.term ≤ 1048576) (h3 : 1 ≤ c.term) :
    s.receive (voteMsg c (I i) (T i) j) voters (I j) (T j) = (aft I T c.term i j s, [ans I T c.term i j]) := by
  have ho : s.other (voteMsg c (I i) (T i) j).frm := by
    unfold NodeS.other; simp only [voteMsg]; omega
  have := receive_ask (s := s) (m := voteMsg c (I i) (T i) j) (voters := voters) (index := I j) (last := T j) rfl hsi.symm ho h1 h2 h3
  rw [this]
  have e : upTo (voteMsg c (I i) (T i) j) (I j) (T j) ↔ bt I T i j := Iff.rfl
  simp only [aft, ans, voteMsg, hci, hsi, Prod.mk.injEq, List.cons.injEq, and_true]
  constructor
  · rfl
  · rfl
theorem ans_step {I T : Nat → Int} {n i j : Nat} {c s : NodeS} {voters : List Int} {l : List Msg} (hs : Heard voters c s l) (hci : c.i = i) (hij : j ≠ i) (hj : j < n) (hsr : c.rep = n) (h2 : c.term ≤ 1048576) (h3 : 1 ≤ c.term) (index last : Int) :
    s.receive (ans I T c.term i j) voters index last = (s.voted (ans I T c.term i j) voters, []) := by
  obtain ⟨e1, e2, e3, _, _⟩ := hs.same
  have ho : s.other (ans I T c.term i j).frm := by
    unfold NodeS.other; simp only [ans]; omega
  exact receive_answer rfl (by simp only [ans]; omega) ho (by simp only [ans]; omega) h2 h3
def worse (I T : Nat → Int) (n i : Nat) : List Int := ((List.range n).filter fun k => decide (bt I T i k)).map fun (k : Nat) => (k : Int)
theorem worse_mem {I T : Nat → Int} {n i k : Nat} (hk : k < n) (h : bt I T i k) : (k : Int) ∈ worse I T n i := by
  simp only [worse, List.mem_map, List.mem_filter, List.mem_range]
  exact ⟨k, ⟨hk, by simpa using h⟩, rfl⟩
theorem bt_self (I T : Nat → Int) (i : Nat) : bt I T i i := .inr ⟨rfl, by omega⟩
theorem granted_worse {I T : Nat → Int} {t1 : Int} {n i : Nat} {J : List Nat} (hi : i < n) (hJ : ∀ j ∈ J, j < n) : ∀ x ∈ [(i : Int)] ++ grantedBy (J.map (ans I T t1 i)), x ∈ worse I T n i := by
  intro x hx
  simp only [List.mem_append, List.mem_singleton] at hx
  rcases hx with rfl | hx
  · exact worse_mem hi (bt_self I T i)
  · simp only [grantedBy, List.mem_map, List.mem_filter] at hx
    obtain ⟨m, ⟨⟨j, hj, rfl⟩, hg⟩, rfl⟩ := hx
    exact worse_mem (hJ j hj) (by simpa [ans] using hg)
theorem cnt_all {voters a : List Int} (h : ∀ x ∈ voters, x ∈ a) : cnt voters a = voters.length := by
  unfold cnt
  rw [List.filter_eq_self.2 (by simpa using h)]
/-- A node whose log is no worse than any has all votes. -/
theorem granted_all {I T : Nat → Int} {t1 : Int} {n i : Nat} (hi : i < n) (hb : ∀ j, j < n → bt I T i j) : maj (rngI n) ([(i : Int)] ++ grantedBy ((others n i).map (ans I T t1 i))) := by
  have : cnt (rngI n) ([(i : Int)] ++ grantedBy ((others n i).map (ans I T t1 i))) = (rngI n).length := by
    apply cnt_all
    intro x hx
    simp only [rngI, List.mem_map, List.mem_range] at hx
    obtain ⟨j, hj, rfl⟩ := hx
    simp only [List.mem_append, List.mem_singleton]
    by_cases e : j = i
    · exact .inl (by rw [e])
    · right
      simp only [grantedBy, List.mem_map, List.mem_filter]
      exact ⟨_, ⟨⟨j, others_mem.2 ⟨hj, e⟩, rfl⟩, by simpa [ans] using hb j hj⟩, rfl⟩
  unfold maj
  rw [this]
  have : (rngI n).length = n := by simp [rngI]
  omega
end Go.Proofs.Ytaopehadegknoaa
