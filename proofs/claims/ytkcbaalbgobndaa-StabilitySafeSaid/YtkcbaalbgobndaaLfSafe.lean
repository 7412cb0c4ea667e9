/- A walk of StabilitySafe gives its given statement; condition: the walk. -/
import Derived.Test.YtkcbaalbgobndaaLf0n
namespace Go.Proofs.Ytkcbaalbgobndaa
open Go Go.CF Go.ChangeShapes Go.WideShapes Go.ChangeAt Go.RowKit
set_option maxRecDepth 100000

theorem stabilitySafe_lift (os : Os) (started : os.Started) (H : Type) (enc : TypeId × Value → H)
    (walk : ∀ (h : Heap) (v0 : Value) (l0 : (List EvS)) (v1 : Value) (l1 : (List Int)), Rp.event.slice.R h (Old h) [v0] l0 → (Rp.int .i64).slice.R h (Old h) [v1] l1 → CallsH Try.prog 4 #[v0, v1] h fun x h' => x = .bool true ∧ Stp [] h h') :
    ReturnsInHanded {} Try.checked os 4 .any (Rows.stabilitySafeSpec.pre6 enc Try.prog Try.f4 Rows.stabilitySafeRow.domain false) (Rows.stabilitySafeSpec.post enc Try.prog Try.f4 false true false false) := by
  refine returnsInHanded_of_change (C := Try.checked) knob started (by kernel_rfl) Try.func4
    (ChangeSpec.witness6 (enc := enc) (C := Try.checked) false ⟨#[], #[.slice none 0 0, .slice none 0 0], []⟩ 8 (by kernel_rfl) (by kernel_rfl) (by kernel_rfl) (by kernel_rfl)) ?_
  intro W base args ds gs before hval0 hW hcnd _
  have hW' := hW
  have hval : ∀ (j : Nat) t v, Try.f4.params[j]? = some t → args[j]? = some v → Value.okWide Try.prog W .any base t v := hval0
  obtain ⟨p, q, hA0, hV, rfl, hfz, hnd⟩ := hW
  have hA : DataW.TrodAll enc Try.prog W 0 (fun _ => true) true Try.f4.params.toList args.toList ds p := hA0
  rw [Try.params4] at hA hval
  obtain ⟨v0, vs0, d0, ds0, p0, q0, e0, rfl, h0, hA⟩ := CF.trodAll_cons hA
  obtain ⟨v1, vs1, d1, ds1, p1, q1, rfl, rfl, h1, hA⟩ := CF.trodAll_cons hA
  obtain ⟨rfl, rfl⟩ := CF.trodAll_end hA
  obtain rfl : args = #[v0, v1] := Array.ext' e0
  obtain ⟨l0, hl0⟩ := rdEvs.arg h0
  have hl0 := sliceArg Try.underlying22 (hval 0 22 v0 rfl rfl) hl0
  obtain ⟨l1, hl1⟩ := rdInts.arg h1
  have hl1 := sliceArg Try.underlying23 (hval 1 23 v1 rfl rfl) hl1
  refine law_contract laid (tb := 4) (by rw [Try.params4]; intro t ht; simp at ht; rcases ht with rfl | rfl <;> exact ⟨by kernel_rfl, of_decide_eq_true (by kernel_rfl)⟩) rfl (by rfl) Try.underlying4 rfl hW' ?_
  exact walk W.heap v0 l0 v1 l1 hl0 hl1

theorem stabilitySafe_of (walk : ∀ (h : Heap) (v0 : Value) (l0 : (List EvS)) (v1 : Value) (l1 : (List Int)), Rp.event.slice.R h (Old h) [v0] l0 → (Rp.int .i64).slice.R h (Old h) [v1] l1 → CallsH Try.prog 4 #[v0, v1] h fun x h' => x = .bool true ∧ Stp [] h h') :
    Rows.StabilitySafeSaid :=
  OpenClaim.holds_of_wide (p := Try.pinned) (s := Rows.stabilitySafeSpec) (c := Rows.stabilitySafeRow) 4 Try.f4 rfl rfl rfl rfl rfl rfl rfl ⟨rfl, rfl, rfl, rfl, rfl⟩ rfl rfl rfl rfl rfl (by kernel_rfl) Try.func4 (by kernel_rfl)
    (of_decide_eq_true (by kernel_rfl)) (by unfold Func.isWrapper; first | (rw [if_pos (by decide +kernel)]; kernel_rfl) | (rw [if_neg (by decide +kernel)]; exact ⟨rfl, rfl⟩))
    (fun os started H enc _ => stabilitySafe_lift os started H enc walk)
end Go.Proofs.Ytkcbaalbgobndaa
