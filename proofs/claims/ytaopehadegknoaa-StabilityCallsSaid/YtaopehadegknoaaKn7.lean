/- Plain laws of what is known: noting is a join of matrices of numbers; there are no conditions. -/
import Derived.Test.YtaopehadegknoaaKn6
namespace Go.Proofs.Ytaopehadegknoaa
open Go Go.CF
set_option maxRecDepth 20000

theorem zipWith_assoc' {α : Type} {f : α → α → α} (hf : ∀ a b c, f (f a b) c = f a (f b c)) : ∀ x y z : List α, List.zipWith f (List.zipWith f x y) z = List.zipWith f x (List.zipWith f y z)
  | [], y, z => by simp
  | a :: x, [], z => by simp
  | a :: x, b :: y, [] => by simp
  | a :: x, b :: y, c :: z => by simp [hf, zipWith_assoc' hf x y z]
theorem zipWith_comm' {α : Type} {f : α → α → α} (hf : ∀ a b, f a b = f b a) : ∀ x y : List α, List.zipWith f x y = List.zipWith f y x
  | [], y => by simp
  | a :: x, [] => by simp
  | a :: x, b :: y => by simp [hf a b, zipWith_comm' hf x y]
theorem zipWith_idem' {α : Type} {f : α → α → α} (hf : ∀ a, f a a = a) : ∀ x : List α, List.zipWith f x x = x
  | [] => rfl
  | a :: x => by simp [hf]
theorem zmax_assoc (a b c : List Int) : zipC max (zipC max a b) c = zipC max a (zipC max b c) := zipWith_assoc' (fun a b c => by omega) a b c
theorem zmax_comm (a b : List Int) : zipC max a b = zipC max b a := zipWith_comm' (fun a b => by omega) a b
theorem zmax_idem (a : List Int) : zipC max a a = a := zipWith_idem' (fun a => by omega) a
theorem zmax_left (a b : List Int) : zipC max a (zipC max a b) = zipC max a b := by rw [← zmax_assoc, zmax_idem]
def mx (A B : List (List Int)) : List (List Int) := List.zipWith (zipC max) A B
theorem mx_assoc (A B C : List (List Int)) : mx (mx A B) C = mx A (mx B C) := zipWith_assoc' zmax_assoc A B C
theorem mx_comm (A B : List (List Int)) : mx A B = mx B A := zipWith_comm' zmax_comm A B
theorem mx_idem (A : List (List Int)) : mx A A = A := zipWith_idem' zmax_idem A
/-- Clocks of n replicas, n of them. -/
def vln (n : Nat) (c : List Int) : Prop := vld c ∧ c.length = n
def Mat (n : Nat) (A : List (List Int)) : Prop := A.length = n ∧ ∀ c ∈ A, vln n c
theorem mat_get {n : Nat} {A : List (List Int)} (h : Mat n A) {i : Nat} (hi : i < n) : ∃ c, A[i]? = some c ∧ vln n c := by
  obtain ⟨c, hc⟩ : ∃ c, A[i]? = some c := ⟨_, List.getElem?_eq_getElem (by have := h.1; omega)⟩
  exact ⟨c, hc, h.2 c (List.mem_of_getElem? hc)⟩
theorem zeros_vln {n : Nat} (hn : 1 ≤ n ∧ n ≤ 5) : vln n (List.replicate n 0) := ⟨⟨fun x hx => by rw [List.eq_of_mem_replicate hx]; omega, by simp; omega⟩, by simp⟩
theorem zeros_mat {n : Nat} (hn : 1 ≤ n ∧ n ≤ 5) : Mat n (List.replicate n (List.replicate n 0)) := ⟨by simp, fun c hc => by rw [List.eq_of_mem_replicate hc]; exact zeros_vln hn⟩
theorem zmax_zero {n : Nat} : ∀ {c : List Int}, (∀ x ∈ c, 0 ≤ x) → c.length = n → zipC max c (List.replicate n 0) = c := by
  intro c
  induction c generalizing n with
  | nil => intro _ h; subst h; rfl
  | cons a c ih =>
    intro h1 h2
    subst h2
    have ha := h1 a (by simp)
    have := ih (n := c.length) (fun x hx => h1 x (by simp [hx])) rfl
    simp only [zipC, List.length_cons, List.replicate_succ, List.zipWith_cons_cons] at this ⊢
    rw [this]
    congr 1
    omega
theorem vln_zero {n : Nat} {c : List Int} (h : vln n c) : zipC max c (List.replicate n 0) = c := zmax_zero (fun x hx => (h.1.1 x hx).1) h.2
theorem mx_at (A B : List (List Int)) (i : Nat) : (mx A B)[i]? = (match A[i]?, B[i]? with | some a, some b => some (zipC max a b) | _, _ => none) := by
  rw [mx, List.getElem?_zipWith]
  cases A[i]? <;> cases B[i]? <;> rfl
theorem mx_zero {n : Nat} {A : List (List Int)} (h : Mat n A) : mx A (List.replicate n (List.replicate n 0)) = A := by
  apply List.ext_getElem?
  intro i
  rw [mx_at]
  by_cases hi : i < n
  · obtain ⟨c, hc, hv⟩ := mat_get h hi
    rw [hc, List.getElem?_replicate, if_pos hi]
    simp only [vln_zero hv]
  · rw [List.getElem?_eq_none (by have := h.1; omega)]
theorem mx_mat {n : Nat} {A B : List (List Int)} (hA : Mat n A) (hB : Mat n B) : Mat n (mx A B) := by
  have hl : (mx A B).length = n := by simp [mx, hA.1, hB.1]
  refine ⟨hl, fun c hc => ?_⟩
  obtain ⟨i, hi⟩ := List.getElem?_of_mem hc
  have hin : i < n := by have := (List.getElem?_eq_some_iff.1 hi).1; omega
  obtain ⟨a, ha, va⟩ := mat_get hA hin
  obtain ⟨b, hb, vb⟩ := mat_get hB hin
  rw [mx_at, ha, hb] at hi
  cases hi
  exact zip_vld va vb
/-- What a call brings. -/
def learnM (n : Nat) (r : Int) (c : List Int) : List (List Int) :=
  if r < 0 ∨ (n : Int) ≤ r then List.replicate n (List.replicate n 0) else if fit c n then (List.replicate n (List.replicate n 0)).set r.toNat c else List.replicate n (List.replicate n 0)
def hearM (n : Nat) (e : EvS) : List (List Int) :=
  if formedE e ∧ e.past.length = n then learnM n e.rep (e.past.set e.rep.toNat (max e.at_ e.num)) else List.replicate n (List.replicate n 0)
def takeM (n : Nat) (l : List (List Int)) : List (List Int) := if l.length = n ∧ ∀ c ∈ l, fit c n then l else List.replicate n (List.replicate n 0)
def noteM (n : Nat) (a : KAct) : List (List Int) := if a.kind = 0 then learnM n a.rep a.clk else if a.kind = 1 then hearM n a.ev else takeM n a.rows
theorem fit_vln {c : List Int} {n : Nat} (h : fit c n) : vln n c := ⟨h.1, by have := h.2; omega⟩
theorem learnM_mat {n : Nat} (hn : 1 ≤ n ∧ n ≤ 5) (r : Int) (c : List Int) : Mat n (learnM n r c) := by
  unfold learnM
  split
  · exact zeros_mat hn
  · split
    · rename_i hf
      refine ⟨by simp, fun d hd => ?_⟩
      rcases List.mem_or_eq_of_mem_set hd with h1 | h1
      · exact (zeros_mat hn).2 d h1
      · subst h1; exact fit_vln hf
    · exact zeros_mat hn
theorem noteM_mat {n : Nat} (hn : 1 ≤ n ∧ n ≤ 5) (a : KAct) : Mat n (noteM n a) := by
  unfold noteM
  split
  · exact learnM_mat hn _ _
  · split
    · unfold hearM
      split
      · exact learnM_mat hn _ _
      · exact zeros_mat hn
    · unfold takeM
      split
      · rename_i h; exact ⟨h.1, fun c hc => fit_vln (h.2 c hc)⟩
      · exact zeros_mat hn
theorem learn_mx {n : Nat} {A : List (List Int)} (hA : Mat n A) (r : Int) (c : List Int) : (learn n A r c).1 = mx A (learnM n r c) := by
  unfold learn learnM
  split
  · exact (mx_zero hA).symm
  · rename_i hr
    split
    · have hrn : r.toNat < n := by omega
      obtain ⟨d, hd, vd⟩ := mat_get hA hrn
      apply List.ext_getElem?
      intro i
      rw [mx_at, List.getElem?_set, List.getElem?_set]
      by_cases hi : r.toNat = i
      · subst hi
        rw [if_pos rfl, if_pos rfl, if_pos (by have := hA.1; omega), if_pos (by simp; omega), hd]
        simp [List.getD, hd]
      · rw [if_neg hi, if_neg hi]
        have h9 : (mx A (List.replicate n (List.replicate n 0)))[i]? = A[i]? := by rw [mx_zero hA]
        rw [mx_at] at h9
        exact h9.symm
    · exact (mx_zero hA).symm
theorem noted_mx {n : Nat} {A : List (List Int)} (hA : Mat n A) (a : KAct) : noted n A a = mx A (noteM n a) := by
  unfold noted noteM
  split
  · exact learn_mx hA _ _
  · split
    · unfold hear hearM
      split
      · exact learn_mx hA _ _
      · exact (mx_zero hA).symm
    · unfold take takeM
      split
      · rfl
      · exact (mx_zero hA).symm
/-- All calls. -/
def notes (n : Nat) (A : List (List Int)) (l : List KAct) : List (List Int) := l.foldl (noted n) A
theorem mx_foldl (X : List (List Int)) (g : KAct → List (List Int)) : ∀ (l : List KAct) (Y : List (List Int)), mx X (l.foldl (fun A a => mx A (g a)) Y) = l.foldl (fun A a => mx A (g a)) (mx X Y)
  | [], Y => rfl
  | a :: l, Y => by simp only [List.foldl_cons]; rw [mx_foldl X g l, mx_assoc]
theorem notes_mx {n : Nat} (hn : 1 ≤ n ∧ n ≤ 5) : ∀ (l : List KAct) {A : List (List Int)}, Mat n A → notes n A l = l.foldl (fun A a => mx A (noteM n a)) A ∧ Mat n (notes n A l)
  | [], A, hA => ⟨rfl, hA⟩
  | a :: l, A, hA => by
    have h1 := noted_mx hA a
    have h2 : Mat n (noted n A a) := h1 ▸ mx_mat hA (noteM_mat hn a)
    obtain ⟨h3, h4⟩ := notes_mx hn l h2
    refine ⟨?_, h4⟩
    simp only [notes, List.foldl_cons] at h3 ⊢
    rw [h3, h1]
theorem notes_perm {n : Nat} (hn : 1 ≤ n ∧ n ≤ 5) {l m : List KAct} (hp : l.Perm m) {A : List (List Int)} (hA : Mat n A) : notes n A l = notes n A m := by
  rw [(notes_mx hn l hA).1, (notes_mx hn m hA).1]
  exact List.Perm.foldl_eq' hp (fun x _ y _ z => by simp only [mx_assoc]; rw [mx_comm (noteM n y) (noteM n x)]) A
theorem notes_twice {n : Nat} (hn : 1 ≤ n ∧ n ≤ 5) {A : List (List Int)} (hA : Mat n A) (a : KAct) : noted n (noted n A a) a = noted n A a := by
  have h1 := noted_mx hA a
  have h2 : Mat n (noted n A a) := h1 ▸ mx_mat hA (noteM_mat hn a)
  rw [noted_mx h2 a, h1, mx_assoc, mx_idem]
/-- Taking the rows of another one. -/
theorem notes_take {n : Nat} (hn : 1 ≤ n ∧ n ≤ 5) (l m : List KAct) {Z : List (List Int)} (hZ : Z = List.replicate n (List.replicate n 0)) : mx (notes n Z l) (notes n Z m) = notes n (notes n Z l) m := by
  subst hZ
  obtain ⟨_, h1⟩ := notes_mx hn l (zeros_mat hn)
  rw [(notes_mx hn m (zeros_mat hn)).1, (notes_mx hn m h1).1, mx_foldl, mx_zero h1]

/-! ### The stable clock -/
def cle (a b : List Int) : Prop := a.length = b.length ∧ ∀ (i : Nat) (x y : Int), a[i]? = some x → b[i]? = some y → x ≤ y
theorem cle_max {a b : List Int} (h : cle a b) : zipC max a b = b := by
  apply List.ext_getElem?
  intro i
  simp only [zipC, List.getElem?_zipWith]
  cases hb : b[i]? with
  | none => cases a[i]? <;> rfl
  | some y =>
    obtain ⟨x, hx⟩ : ∃ x, a[i]? = some x := ⟨_, List.getElem?_eq_getElem (by have := (List.getElem?_eq_some_iff.1 hb).1; have := h.1; omega)⟩
    have := h.2 i x y hx hb
    rw [hx]
    show some (max x y) = some y
    congr 1
    omega
theorem cle_zmax {a b : List Int} (h : a.length = b.length) : cle a (zipC max a b) := by
  refine ⟨by simp [zipC]; omega, fun i x y hx hy => ?_⟩
  obtain ⟨z, hz⟩ : ∃ z, b[i]? = some z := ⟨_, List.getElem?_eq_getElem (by have := (List.getElem?_eq_some_iff.1 hx).1; omega)⟩
  simp only [zipC, List.getElem?_zipWith, hx, hz, Option.some.injEq] at hy
  omega
theorem cle_min {a a' b b' : List Int} (h : cle a a') (k : cle b b') : cle (zipC min a b) (zipC min a' b') := by
  have h1 := h.1
  have k1 := k.1
  refine ⟨by simp [zipC, h1, k1], fun i x y hx hy => ?_⟩
  simp only [zipC, List.getElem?_zipWith] at hx hy
  cases ha : a[i]? with
  | none => rw [ha] at hx; cases hx
  | some p =>
    cases hb : b[i]? with
    | none => rw [ha, hb] at hx; cases hx
    | some q =>
      cases ha' : a'[i]? with
      | none => rw [ha'] at hy; cases hy
      | some p' =>
        cases hb' : b'[i]? with
        | none => rw [ha', hb'] at hy; cases hy
        | some q' =>
          rw [ha, hb] at hx
          rw [ha', hb'] at hy
          simp only [Option.some.injEq] at hx hy
          have := h.2 i p p' ha ha'
          have := k.2 i q q' hb hb'
          omega
theorem fold_cle : ∀ (A B : List (List Int)) (a b : List Int), A.length = B.length → (∀ (i : Nat) (x y : List Int), A[i]? = some x → B[i]? = some y → cle x y) → cle a b → cle (A.foldl (zipC min) a) (B.foldl (zipC min) b)
  | [], [], a, b, _, _, h => h
  | [], _ :: _, _, _, h, _, _ => by simp at h
  | _ :: _, [], _, _, h, _, _ => by simp at h
  | x :: A, y :: B, a, b, hl, hAB, h => by
    simp only [List.foldl_cons]
    exact fold_cle A B _ _ (by simpa using hl) (fun i x y hx hy => hAB (i + 1) x y hx hy) (cle_min h (hAB 0 x y rfl rfl))
theorem foldC_cle {n : Nat} (hn : 1 ≤ n) {A B : List (List Int)} (hA : Mat n A) (hB : Mat n B) (h : ∀ (i : Nat) (x y : List Int), A[i]? = some x → B[i]? = some y → cle x y) : cle (foldC min A) (foldC min B) := by
  cases A with
  | nil => have := hA.1; simp at this; omega
  | cons a A =>
    cases B with
    | nil => have := hB.1; simp at this; omega
    | cons b B =>
      exact fold_cle A B a b (by have := hA.1; have := hB.1; simp at *; omega) (fun i x y hx hy => h (i + 1) x y hx hy) (h 0 a b rfl rfl)
theorem min_vln {n : Nat} {a c : List Int} (ha : vln n a) (hc : vln n c) : vln n (zipC min a c) := by
  have hl : (zipC min a c).length = n := by have := ha.2; have := hc.2; simp [zipC]; omega
  refine ⟨⟨fun x hx => ?_, by rw [hl, ← ha.2]; exact ha.1.2⟩, hl⟩
  obtain ⟨i, hi⟩ := List.getElem?_of_mem hx
  simp only [zipC, List.getElem?_zipWith] at hi
  cases h1 : a[i]? with
  | none => simp [h1] at hi
  | some y =>
    cases h2 : c[i]? with
    | none => simp [h1, h2] at hi
    | some z =>
      simp only [h1, h2, Option.some.injEq] at hi
      have h3 := ha.1.1 y (List.mem_of_getElem? h1)
      have h4 := hc.1.1 z (List.mem_of_getElem? h2)
      omega
theorem foldl_vln {n : Nat} : ∀ (A : List (List Int)) (a : List Int), vln n a → (∀ c ∈ A, vln n c) → vln n (A.foldl (zipC min) a)
  | [], _, h, _ => h
  | c :: A, a, h, hA => foldl_vln A _ (min_vln h (hA c (by simp))) (fun d hd => hA d (by simp [hd]))
theorem stable_vln {n : Nat} (hn : 1 ≤ n) {A : List (List Int)} (hA : Mat n A) : vln n (foldC min A) := by
  cases A with
  | nil => have := hA.1; simp at this; omega
  | cons a A => exact foldl_vln A a (hA.2 a (by simp)) (fun c hc => hA.2 c (by simp [hc]))
theorem row_grows {n : Nat} (hn : 1 ≤ n ∧ n ≤ 5) {A : List (List Int)} (hA : Mat n A) (a : KAct) {i : Nat} {x y : List Int} (hx : A[i]? = some x) (hy : (noted n A a)[i]? = some y) : cle x y := by
  rw [noted_mx hA, mx_at, hx] at hy
  cases hm : (noteM n a)[i]? with
  | none => rw [hm] at hy; cases hy
  | some m =>
    rw [hm] at hy
    simp only [Option.some.injEq] at hy
    subst hy
    exact cle_zmax (by rw [(hA.2 x (List.mem_of_getElem? hx)).2, ((noteM_mat hn a).2 m (List.mem_of_getElem? hm)).2])
theorem stable_grows {n : Nat} (hn : 1 ≤ n ∧ n ≤ 5) {A : List (List Int)} (hA : Mat n A) (a : KAct) : cle (foldC min A) (foldC min (noted n A a)) := by
  have h1 : Mat n (noted n A a) := by rw [noted_mx hA]; exact mx_mat hA (noteM_mat hn a)
  exact foldC_cle hn.1 hA h1 (fun i x y hx hy => row_grows hn hA a hx hy)
theorem noted_mat {n : Nat} (hn : 1 ≤ n ∧ n ≤ 5) {A : List (List Int)} (hA : Mat n A) (a : KAct) : Mat n (noted n A a) := by rw [noted_mx hA]; exact mx_mat hA (noteM_mat hn a)
end Go.Proofs.Ytaopehadegknoaa
