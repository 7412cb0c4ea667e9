/- The box of messages of a turn of ElectionLogs as plain data; no conditions. -/
import Derived.Test.YtaopehadegknoaaEleR
namespace Go.Proofs.Ytaopehadegknoaa
open Go Go.CF

/-! ### The box of a turn of ElectionLogs -/
def bx (I T : Nat → Int) (cd : NodeS) (i : Nat) (J : List Nat) (k : Nat) : List Msg := J.map (fun (j : Nat) => voteMsg cd (I i) (T i) (j : Int)) ++ (J.take k).map (ans I T cd.term i)
theorem bx_length {I T : Nat → Int} {cd : NodeS} {i : Nat} {J : List Nat} {k : Nat} : (bx I T cd i J k).length = J.length + min k J.length := by simp [bx]
theorem bx_ask {I T : Nat → Int} {cd : NodeS} {i : Nat} {J : List Nat} {k j : Nat} (hj : J[k]? = some j) : (bx I T cd i J k)[k]? = some (voteMsg cd (I i) (T i) (j : Int)) := by
  have hk := (List.getElem?_eq_some_iff.1 hj).1
  unfold bx
  rw [List.getElem?_append_left (by simpa using hk)]
  simp [hj]
theorem bx_ans {I T : Nat → Int} {cd : NodeS} {i : Nat} {J : List Nat} {k j : Nat} (hk : J.length ≤ k) (hj : J[k - J.length]? = some j) : (bx I T cd i J k)[k]? = some (ans I T cd.term i j) := by
  unfold bx
  rw [List.getElem?_append_right (by simpa using hk), List.length_map, List.take_of_length_le hk]
  simp [hj]
theorem bx_next {I T : Nat → Int} {cd : NodeS} {i : Nat} {J : List Nat} {k j : Nat} (hj : J[k]? = some j) : bx I T cd i J (k + 1) = bx I T cd i J k ++ [ans I T cd.term i j] := by
  unfold bx
  rw [List.take_add_one, hj]
  simp
theorem bx_full {I T : Nat → Int} {cd : NodeS} {i : Nat} {J : List Nat} {k : Nat} (hk : J.length ≤ k) : bx I T cd i J (k + 1) = bx I T cd i J k := by
  unfold bx
  rw [List.take_of_length_le hk, List.take_of_length_le (by omega)]
theorem others_nodup {n i : Nat} : (others n i).Nodup := List.Pairwise.filter _ List.nodup_range
theorem others_length {n i : Nat} : (others n i).length ≤ n := by
  have := List.length_filter_le (fun j => decide (j ≠ i)) (List.range n)
  simpa [others] using this
theorem not_mem_take {J : List Nat} {k j : Nat} (hn : J.Nodup) (hj : J[k]? = some j) : j ∉ J.take k := by
  intro hm
  obtain ⟨q, hq⟩ := List.getElem?_of_mem hm
  have hlt : q < k := by
    have := (List.getElem?_eq_some_iff.1 hq).1
    simp at this; omega
  rw [List.getElem?_take, if_pos hlt] at hq
  obtain ⟨h1, h1'⟩ := (List.getElem?_eq_some_iff.1 hq)
  obtain ⟨h2, h2'⟩ := (List.getElem?_eq_some_iff.1 hj)
  exact (List.pairwise_iff_getElem.1 hn) q k h1 h2 hlt (by rw [h1', h2'])
theorem maj_one {n i : Nat} (hi : i < n) (h : maj (rngI n) [(i : Int)]) (I T : Nat → Int) : maj (rngI n) (worse I T n i) :=
  maj_mono (fun x hx => by simp at hx; subst hx; exact worse_mem hi (bt_self I T i)) h
theorem worse_step {I T : Nat → Int} {k i : Nat} : worse I T (k + 1) i = worse I T k i ++ if bt I T i k then [(k : Int)] else [] := by
  unfold worse
  rw [List.range_succ, List.filter_append, List.map_append]
  congr 1
  by_cases h : bt I T i k <;> simp [h]
theorem worse_length {I T : Nat → Int} {k i : Nat} : (worse I T k i).length ≤ k := by
  have := List.length_filter_le (fun j => decide (bt I T i j)) (List.range k)
  simpa [worse] using this
end Go.Proofs.Ytaopehadegknoaa
