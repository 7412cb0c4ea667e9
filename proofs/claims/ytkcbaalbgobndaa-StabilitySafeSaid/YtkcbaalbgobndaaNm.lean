/- Plain laws of closed lists of events and their clocks; there are no conditions. -/
import Derived.Test.YtkcbaalbgobndaaNl
namespace Go.Proofs.Ytkcbaalbgobndaa
open Go Go.CF
set_option maxRecDepth 20000
/-! ### Names -/
theorem uniq_pair {l : List EvS} : Uniq l ↔ l.Pairwise fun a b => nm a ≠ nm b := by
  rw [List.pairwise_iff_getElem]
  constructor
  · intro h i j hi hj hij he
    have := h i j _ _ (List.getElem?_eq_getElem hi) (List.getElem?_eq_getElem hj) he
    omega
  · intro h i j a b ha hb he
    obtain ⟨hi, rfl⟩ := List.getElem?_eq_some_iff.1 ha
    obtain ⟨hj, rfl⟩ := List.getElem?_eq_some_iff.1 hb
    rcases Nat.lt_trichotomy i j with h2 | h2 | h2
    · exact absurd he (h i j hi hj h2)
    · exact h2
    · exact absurd he.symm (h j i hj hi h2)
theorem uniq_filter {l : List EvS} (p : EvS → Bool) (h : Uniq l) : Uniq (l.filter p) :=
  uniq_pair.2 ((uniq_pair.1 h).sublist List.filter_sublist)
/-! ### The greatest closed clock -/
def Le (a b : List Int) : Prop := ∀ (i : Nat) (x y : Int), a[i]? = some x → b[i]? = some y → x ≤ y
theorem low_spec {l : List EvS} {c r : List Int} (h : Low l c r) : AllE l c → Le r c ∧ AllE l r ∧ r.length = c.length ∧ ∀ e ∈ l, ¬ OpenE r e := by
  induction h with
  | stop hno => exact fun ha => ⟨fun i x y h1 h2 => by rw [h1] at h2; cases h2; exact Int.le_refl _, ha, rfl, hno⟩
  | step h1 h2 _ ih =>
    rename_i c r e _
    intro ha
    obtain ⟨o1, o2, o3, o4, o5, o6⟩ := open_set h2
    obtain ⟨g1, g2, g3, g4⟩ := ih ⟨o2, fun x hx => by rw [List.length_set]; exact ha.2 x hx⟩
    rw [List.length_set] at g3
    refine ⟨fun i x y hx hy => ?_, g2, g3, g4⟩
    by_cases hi : e.rep.toNat = i
    · subst hi
      have := g1 _ x (e.num - 1) hx (by rw [List.getElem?_set, if_pos rfl, if_pos o3])
      obtain ⟨-, -, -, z, hz, hzn⟩ := h2.1
      rw [hz] at hy; cases hy; omega
    · exact g1 i x y hx (by rw [List.getElem?_set, if_neg hi]; exact hy)
/-! ### Clocks of lists -/
theorem clk_spec (n : Nat) {l : List EvS} (hl : ∀ e ∈ l, e.rep.toNat < n) : ∀ (q : Nat) (y : Int), (clkE n l)[q]? = some y → 0 ≤ y ∧ (∀ e ∈ l, e.rep.toNat = q → e.num ≤ y) ∧ (y = 0 ∨ ∃ e ∈ l, e.rep.toNat = q ∧ e.num = y) := by
  have key : ∀ (l : List EvS) (c : List Int), (∀ e ∈ l, e.rep.toNat < c.length) → ∀ (q : Nat) (y z : Int), c[q]? = some z → (l.foldl (fun c e => c.set e.rep.toNat (max (c[e.rep.toNat]?.getD 0) e.num)) c)[q]? = some y → z ≤ y ∧ (∀ e ∈ l, e.rep.toNat = q → e.num ≤ y) ∧ (y = z ∨ ∃ e ∈ l, e.rep.toNat = q ∧ e.num = y) := by
    intro l
    induction l with
    | nil => intro c _ q y z hz hy; rw [List.foldl_nil, hz] at hy; cases hy; exact ⟨Int.le_refl _, fun e he => (by cases he), .inl rfl⟩
    | cons a l ih =>
      intro c hc q y z hz hy
      rw [List.foldl_cons] at hy
      have ha := hc a (by simp)
      have hc' : ∀ e ∈ l, e.rep.toNat < (c.set a.rep.toNat (max (c[a.rep.toNat]?.getD 0) a.num)).length := fun e he => by rw [List.length_set]; exact hc e (by simp [he])
      by_cases hq : a.rep.toNat = q
      · subst hq
        obtain ⟨g1, g2, g3⟩ := ih _ hc' a.rep.toNat y (max z a.num) (by rw [List.getElem?_set, if_pos rfl, if_pos ha, hz]; rfl) hy
        refine ⟨by omega, fun e he hr => ?_, ?_⟩
        · rcases List.mem_cons.1 he with rfl | he
          · omega
          · exact g2 e he hr
        · rcases g3 with g3 | ⟨e, he, h1, h2⟩
          · by_cases hzn : z ≤ a.num
            · exact .inr ⟨a, by simp, rfl, by omega⟩
            · exact .inl (by omega)
          · exact .inr ⟨e, by simp [he], h1, h2⟩
      · obtain ⟨g1, g2, g3⟩ := ih _ hc' q y z (by rw [List.getElem?_set, if_neg hq]; exact hz) hy
        refine ⟨g1, fun e he hr => ?_, g3.imp id fun ⟨e, he, h1, h2⟩ => ⟨e, by simp [he], h1, h2⟩⟩
        rcases List.mem_cons.1 he with rfl | he
        · exact absurd hr hq
        · exact g2 e he hr
  intro q y hy
  have hqn : q < n := by have := (List.getElem?_eq_some_iff.1 hy).1; rwa [clkE_len] at this
  have h0 : (List.replicate n (0 : Int))[q]? = some 0 := by rw [List.getElem?_replicate, if_pos hqn]
  exact key l (List.replicate n 0) (fun e he => by rw [List.length_replicate]; exact hl e he) q y 0 h0 hy
theorem clk_val {n : Nat} (hn : 1 ≤ n ∧ n ≤ 5) {l : List EvS} (hf : ∀ e ∈ l, FormedE e ∧ e.past.length = n) : ValC (clkE n l) := by
  refine ⟨fun y hy => ?_, by rw [clkE_len]; omega⟩
  obtain ⟨q, hq⟩ := List.getElem?_of_mem hy
  obtain ⟨g1, g2, g3⟩ := clk_spec n (fun e he => by have := form_rep (hf e he).1; have := (hf e he).2; omega) q y hq
  unfold rngK
  rcases g3 with rfl | ⟨e, he, h1, h2⟩
  · omega
  · have := form_num (hf e he).1; omega
/-! ### Cuts -/
theorem cut_mem {l : List EvS} {c : List Int} {e : EvS} : e ∈ cutL l c ↔ e ∈ l ∧ HasC c e.rep e.num := by
  unfold cutL; rw [List.mem_filter]; simp
theorem cut_closed {l : List EvS} {r : List Int} (hc : ClosedE l) (ha : AllE l r) (hno : ∀ e ∈ l, ¬ OpenE r e) : ClosedE (cutL l r) := by
  have hlen : (cutL l r).length ≤ l.length := List.length_filter_le _ _
  have hm : ∀ e ∈ cutL l r, e ∈ l := fun e he => (cut_mem.1 he).1
  refine ⟨by have := hc.1; omega, uniq_filter _ hc.2.1, fun e he => ⟨(ha.2 e (hm e he)).1, ?_⟩, fun e he q k hk i hi1 hi2 => ?_⟩
  · rw [(ha.2 e (hm e he)).2]
    have : 0 < (cutL l r).length := List.length_pos_of_mem he
    obtain ⟨d, hd⟩ := get_of this
    unfold n0
    rw [hd]
    exact (ha.2 d (hm d (List.mem_of_getElem? hd))).2.symm
  · obtain ⟨x, hx, h1, h2, h3⟩ := hc.2.2.2 e (hm e he) q k hk i hi1 hi2
    refine ⟨x, cut_mem.2 ⟨hx, ha.1, by omega, by omega, ?_⟩, h1, h2, h3⟩
    have hins : Ins e.past r := Classical.byContradiction fun h9 => hno e (hm e he) ((open_iff ha (hm e he)).2 ⟨(cut_mem.1 he).2, h9⟩)
    have hql : q < r.length := by rw [← (ha.2 e (hm e he)).2]; exact (List.getElem?_eq_some_iff.1 hk).1
    obtain ⟨y, hy⟩ := get_of hql
    have := hins q k y hk hy
    exact ⟨y, by rw [h1]; exact hy, by omega⟩
theorem cut_clock {l : List EvS} {r : List Int} (hc : ClosedE l) (ha : AllE l r) (hle : Le r (clkE r.length l)) : clkE r.length (cutL l r) = r := by
  have hrep : ∀ e ∈ l, e.rep.toNat < r.length := fun e he => by have := form_rep (ha.2 e he).1; have := (ha.2 e he).2; omega
  apply List.ext_getElem?
  intro q
  by_cases hq : q < r.length
  · obtain ⟨m, hm⟩ := get_of hq
    obtain ⟨y, hy⟩ := get_of (l := clkE r.length (cutL l r)) (i := q) (by rw [clkE_len]; exact hq)
    obtain ⟨z, hz⟩ := get_of (l := clkE r.length l) (i := q) (by rw [clkE_len]; exact hq)
    obtain ⟨g1, g2, g3⟩ := clk_spec _ (fun e he => hrep e (cut_mem.1 he).1) q y hy
    obtain ⟨k1, k2, k3⟩ := clk_spec _ hrep q z hz
    have hmz := hle q m z hm hz
    have hm0 := ha.1.1 m (List.mem_of_getElem? hm)
    unfold rngK at hm0
    have h1 : y ≤ m := by
      rcases g3 with rfl | ⟨e, he, h1, h2⟩
      · omega
      · obtain ⟨-, -, -, w, hw, hwn⟩ := (cut_mem.1 he).2
        rw [h1, hm] at hw; cases hw; omega
    have h2 : m ≤ y := by
      by_cases hm1 : m = 0
      · omega
      · have hx : ∃ x ∈ l, x.rep = q ∧ x.num = m := by
          rcases k3 with rfl | ⟨e, he, h1, h2⟩
          · omega
          · have hr0 : 0 ≤ e.rep := (ha.2 e he).1.2.1
            by_cases hem : e.num = m
            · exact ⟨e, he, by omega, hem⟩
            · obtain ⟨w, hw, hwn⟩ := (ha.2 e he).1.2.2.1
              rw [h1] at hw
              obtain ⟨x, hx, h4, h5, -⟩ := hc.2.2.2 e he q w hw m (by omega) (by omega)
              exact ⟨x, hx, h4, h5⟩
        obtain ⟨x, hx, h4, h5⟩ := hx
        have := g2 x (cut_mem.2 ⟨hx, ha.1, by omega, by omega, m, by rw [h4]; exact hm, by omega⟩) (by omega)
        omega
    rw [hy, hm, show y = m by omega]
  · rw [List.getElem?_eq_none (by rw [clkE_len]; omega), List.getElem?_eq_none (by omega)]
theorem zip_max_eq : ∀ {a b : List Int}, a.length = b.length → Le a b → zipC max a b = b
  | [], [], _, _ => rfl
  | x :: a, y :: b, hl, h => by
    have ih := zip_max_eq (a := a) (b := b) (by simpa using hl) fun i p q h1 h2 => h (i + 1) p q h1 h2
    have := h 0 x y rfl rfl
    unfold zipC at ih ⊢
    rw [List.zipWith_cons_cons, ih]
    congr 1; omega
theorem zip_min_le : ∀ {a b : List Int}, a.length = b.length → zipC min a b = b → Le b a
  | [], [], _, _ => fun i x y h => by cases h
  | x :: a, y :: b, hl, h => by
    unfold zipC at h
    rw [List.zipWith_cons_cons] at h
    injection h with h1 h2
    intro i p q hp hq
    cases i with
    | zero => cases hp; cases hq; omega
    | succ i => exact zip_min_le (a := a) (b := b) (by simpa using hl) h2 i p q hp hq
theorem Le.trans {a b c : List Int} (h1 : Le a b) (h2 : Le b c) (hl : a.length ≤ b.length) : Le a c := fun i x z hx hz => by
  obtain ⟨y, hy⟩ := get_of (l := b) (i := i) (by have := (List.getElem?_eq_some_iff.1 hx).1; omega)
  exact Int.le_trans (h1 i x y hx hy) (h2 i y z hy hz)
end Go.Proofs.Ytkcbaalbgobndaa
