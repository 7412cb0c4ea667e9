/- A walk of LogCommits gives its given statement; condition: the walk. -/
import Derived.Test.YtdoefbnjehngmaaLf43
import Derived.Test.YtdoefbnjehngmaaGu
namespace Go.Proofs.Ytdoefbnjehngmaa
open Go Go.CF Go.ChangeShapes Go.WideShapes Go.ChangeAt Go.RowKit
set_option maxRecDepth 100000

theorem logCommits_lift (os : Os) (started : os.Started) (H : Type) (enc : TypeId × Value → H)
    (walk : ∀ (h : Heap) (x0 : Int) (v1 : Value) (l1 : List Ent) (v2 : Value) (l2 : List Int) (v3 : Value) (l3 : List Int), (0 ≤ x0 ∧ x0 ≤ 255) → ents.R h (Old h) [v1] l1 → (Rp.int .u8).slice.R h (Old h) [v2] l2 → (Rp.int .i64).slice.R h (Old h) [v3] l3 → CallsH Try.prog 6 #[.int .u8 x0, v1, v2, v3] h fun x h' => x = .bool true ∧ Stp [] h h') :
    ReturnsInHanded {} Try.checked os 6 .any (Rows.logCommitsSpec.pre6 enc Try.prog Try.f6 Rows.logCommitsRow.domain false) (Rows.logCommitsSpec.post enc Try.prog Try.f6 false true false false) := by
  refine returnsInHanded_of_change (C := Try.checked) knob started (by kernel_rfl) Try.func6
    (ChangeSpec.witness6 (enc := enc) (C := Try.checked) false ⟨#[], #[.int .u8 0, .slice none 0 0, .slice none 0 0, .slice none 0 0], []⟩ 8 (by kernel_rfl) (by kernel_rfl) (by kernel_rfl) (by kernel_rfl)) ?_
  intro W base args ds gs before hval0 hW hcnd _
  have hW' := hW
  have hval : ∀ (j : Nat) t v, Try.f6.params[j]? = some t → args[j]? = some v → Value.okWide Try.prog W .any base t v := hval0
  obtain ⟨p, q, hA0, hV, rfl, hfz, hnd⟩ := hW
  have hA : DataW.TrodAll enc Try.prog W 0 (fun _ => true) true Try.f6.params.toList args.toList ds p := hA0
  rw [Try.params6] at hA hval
  obtain ⟨v0, vs0, d0, ds0, p0, q0, e0, rfl, h0, hA⟩ := CF.trodAll_cons hA
  obtain ⟨v1, vs1, d1, ds1, p1, q1, rfl, rfl, h1, hA⟩ := CF.trodAll_cons hA
  obtain ⟨v2, vs2, d2, ds2, p2, q2, rfl, rfl, h2, hA⟩ := CF.trodAll_cons hA
  obtain ⟨v3, vs3, d3, ds3, p3, q3, rfl, rfl, h3, hA⟩ := CF.trodAll_cons hA
  obtain ⟨rfl, rfl⟩ := CF.trodAll_end hA
  obtain rfl : args = #[v0, v1, v2, v3] := Array.ext' e0
  obtain ⟨x0, rfl, rfl, rfl, w0⟩ := open_int Try.underlying5 (hval 0 5 v0 rfl rfl) h0
  obtain ⟨l1, hl1⟩ := rdEnts.arg h1
  have hl1 := sliceArg Try.underlying22 (hval 1 22 v1 rfl rfl) hl1
  obtain ⟨l2, hl2⟩ := rdU8s.arg h2
  have hl2 := sliceArg Try.underlying23 (hval 2 23 v2 rfl rfl) hl2
  obtain ⟨l3, hl3⟩ := rdInts.arg h3
  have hl3 := sliceArg Try.underlying37 (hval 3 37 v3 rfl rfl) hl3
  refine law_contract laid (tb := 4) (by rw [Try.params6]; intro t ht; simp at ht; rcases ht with rfl | rfl | rfl | rfl <;> exact ⟨by kernel_rfl, of_decide_eq_true (by kernel_rfl)⟩) rfl (by rfl) Try.underlying4 rfl hW' ?_
  exact walk W.heap x0 v1 l1 v2 l2 v3 l3 (wf_u8.1 w0) hl1 hl2 hl3

theorem logCommits_of (walk : ∀ (h : Heap) (x0 : Int) (v1 : Value) (l1 : List Ent) (v2 : Value) (l2 : List Int) (v3 : Value) (l3 : List Int), (0 ≤ x0 ∧ x0 ≤ 255) → ents.R h (Old h) [v1] l1 → (Rp.int .u8).slice.R h (Old h) [v2] l2 → (Rp.int .i64).slice.R h (Old h) [v3] l3 → CallsH Try.prog 6 #[.int .u8 x0, v1, v2, v3] h fun x h' => x = .bool true ∧ Stp [] h h') :
    Rows.LogCommitsSaid :=
  OpenClaim.holds_of_wide (p := Try.pinned) (s := Rows.logCommitsSpec) (c := Rows.logCommitsRow) 6 Try.f6 rfl rfl rfl rfl rfl rfl rfl ⟨rfl, rfl, rfl, rfl, rfl⟩ rfl rfl rfl rfl rfl (by kernel_rfl) Try.func6 (by kernel_rfl)
    (of_decide_eq_true (by kernel_rfl)) (by unfold Func.isWrapper; first | (rw [if_pos (by decide +kernel)]; kernel_rfl) | (rw [if_neg (by decide +kernel)]; exact ⟨rfl, rfl⟩))
    (fun os started H enc _ => logCommits_lift os started H enc walk)
end Go.Proofs.Ytdoefbnjehngmaa
