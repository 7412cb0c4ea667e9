/- Arrays of integers that are filled cell by cell, and the logs of the laws of elections; no conditions. -/
import Derived.Test.YtdoefbnjehngmaaEngE
namespace Go.Proofs.Ytdoefbnjehngmaa
open Go Go.CF
/-! ### The logs -/
def idxOf (l : List Int) (i : Nat) : Int := match l[i]? with
  | some x => if 0 < x % 4 then 1 + x / 4 % 3 else 0
  | none => 0
def trmOf (l : List Int) (i : Nat) : Int := match l[i]? with
  | some x => if 0 < x % 4 then x % 4 else 0
  | none => 0
/-- The first i cells have been set. -/
def arr (f : Nat → Int) (n i : Nat) : List Int := (List.range n).map fun j => if j < i then f j else 0
theorem arr_length (f : Nat → Int) (n i : Nat) : (arr f n i).length = n := by simp [arr]
theorem arr_get {f : Nat → Int} {n i j : Nat} (hj : j < n) : (arr f n i)[j]? = some (if j < i then f j else 0) := by simp [arr, hj]
theorem arr_set {f : Nat → Int} {n i : Nat} : arr f n (i + 1) = (arr f n i).set i (f i) := by
  apply List.ext_getElem?
  intro j
  rw [List.getElem?_set]
  by_cases hj : j < n
  · rw [arr_get hj]
    by_cases hij : i = j
    · subst hij; simp [arr_length, hj]
    · rw [if_neg hij, arr_get hj]
      congr 1
      by_cases h1 : j < i
      · rw [if_pos h1, if_pos (by omega)]
      · rw [if_neg h1, if_neg (by omega)]
  · rw [List.getElem?_eq_none (by rw [arr_length]; omega)]
    split
    · rename_i e; subst e; simp [arr_length, hj]
    · rw [List.getElem?_eq_none (by rw [arr_length]; omega)]
theorem arr_zero {f : Nat → Int} {n : Nat} : zeroL [.int .i64 0] n = intsV (arr f n 0) := by
  apply List.ext_getElem?
  intro j
  by_cases hj : j < n
  · rw [zeroL_get _ _ _ (by simpa using hj), intsV_get (arr_get hj)]
    simp [Nat.mod_one]
  · rw [List.getElem?_eq_none (by rw [zeroL_length]; simp; omega), List.getElem?_eq_none (by rw [intsV_length, arr_length]; omega)]
theorem arr_skip {f : Nat → Int} {n i : Nat} (h0 : f i = 0) : arr f n (i + 1) = arr f n i := by
  simp only [arr]
  apply List.map_congr_left
  intro j _
  by_cases h1 : j < i
  · rw [if_pos h1, if_pos (by omega)]
  · rw [if_neg h1]
    split
    · have : j = i := by omega
      rw [this, h0]
    · rfl
theorem SetL.set : ∀ {l : List Value} {k : Nat} {v : Value}, k < l.length → SetL l k v (l.set k v)
  | [], _, _, h => by simp at h
  | _ :: _, 0, _, _ => SetL.z
  | _ :: l, k + 1, _, h => SetL.s (SetL.set (l := l) (by simpa using h))
theorem intsV_set (l : List Int) (k : Nat) (x : Int) : (intsV l).set k (.int .i64 x) = intsV (l.set k x) := by simp [intsV, List.map_set]

end Go.Proofs.Ytdoefbnjehngmaa
