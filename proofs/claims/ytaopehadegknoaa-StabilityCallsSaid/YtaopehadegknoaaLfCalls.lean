/- A walk of StabilityCalls gives its given statement; condition: the walk. -/
import Derived.Test.YtaopehadegknoaaLf0
namespace Go.Proofs.Ytaopehadegknoaa
open Go Go.CF Go.ChangeShapes Go.WideShapes Go.ChangeAt Go.RowKit
set_option maxRecDepth 100000

theorem stabilityCalls_lift (os : Os) (started : os.Started) (H : Type) (enc : TypeId × Value → H)
    (walk : ∀ (h : Heap) (x0 : Int) (v1 : Value) (l1 : List KAct) (v2 : Value) (l2 : List Int), rng x0 → Rp.kact.slice.R h (Old h) [v1] l1 → (Rp.int .i64).slice.R h (Old h) [v2] l2 → CallsH Try.prog 7 #[.int .i64 x0, v1, v2] h fun x h' => x = .bool true ∧ Stp [] h h') :
    ReturnsInHanded {} Try.checked os 7 .any (Rows.stabilityCallsSpec.pre6 enc Try.prog Try.f7 Rows.stabilityCallsRow.domain false) (Rows.stabilityCallsSpec.post enc Try.prog Try.f7 false true false false) := by
  refine returnsInHanded_of_change (C := Try.checked) knob started (by kernel_rfl) Try.func7
    (ChangeSpec.witness6 (enc := enc) (C := Try.checked) false ⟨#[], #[.int .i64 0, .slice none 0 0, .slice none 0 0], []⟩ 8 (by kernel_rfl) (by kernel_rfl) (by kernel_rfl) (by kernel_rfl)) ?_
  intro W base args ds gs before hval0 hW hcnd _
  have hW' := hW
  have hval : ∀ (j : Nat) t v, Try.f7.params[j]? = some t → args[j]? = some v → Value.okWide Try.prog W .any base t v := hval0
  obtain ⟨p, q, hA0, hV, rfl, hfz, hnd⟩ := hW
  have hA : DataW.TrodAll enc Try.prog W 0 (fun _ => true) true Try.f7.params.toList args.toList ds p := hA0
  rw [Try.params7] at hA hval
  obtain ⟨v0, vs0, d0, ds0, p0, q0, e0, rfl, h0, hA⟩ := CF.trodAll_cons hA
  obtain ⟨v1, vs1, d1, ds1, p1, q1, rfl, rfl, h1, hA⟩ := CF.trodAll_cons hA
  obtain ⟨v2, vs2, d2, ds2, p2, q2, rfl, rfl, h2, hA⟩ := CF.trodAll_cons hA
  obtain ⟨rfl, rfl⟩ := CF.trodAll_end hA
  obtain rfl : args = #[v0, v1, v2] := Array.ext' e0
  obtain ⟨x0, rfl, rfl, rfl, w0⟩ := open_int Try.underlying3 (hval 0 3 v0 rfl rfl) h0
  obtain ⟨l1, hl1⟩ := rdKacts.arg h1
  have hl1 := sliceArg Try.underlying65 (hval 1 65 v1 rfl rfl) hl1
  obtain ⟨l2, hl2⟩ := rdInts.arg h2
  have hl2 := sliceArg Try.underlying26 (hval 2 26 v2 rfl rfl) hl2
  refine law_contract laid (tb := 4) (by rw [Try.params7]; intro t ht; simp at ht; rcases ht with rfl | rfl | rfl <;> exact ⟨by kernel_rfl, of_decide_eq_true (by kernel_rfl)⟩) rfl (by rfl) Try.underlying4 rfl hW' ?_
  exact walk W.heap x0 v1 l1 v2 l2 (wf_i64.1 w0) hl1 hl2

theorem stabilityCalls_of (walk : ∀ (h : Heap) (x0 : Int) (v1 : Value) (l1 : List KAct) (v2 : Value) (l2 : List Int), rng x0 → Rp.kact.slice.R h (Old h) [v1] l1 → (Rp.int .i64).slice.R h (Old h) [v2] l2 → CallsH Try.prog 7 #[.int .i64 x0, v1, v2] h fun x h' => x = .bool true ∧ Stp [] h h') :
    Rows.StabilityCallsSaid :=
  OpenClaim.holds_of_wide (p := Try.pinned) (s := Rows.stabilityCallsSpec) (c := Rows.stabilityCallsRow) 7 Try.f7 rfl rfl rfl rfl rfl rfl rfl ⟨rfl, rfl, rfl, rfl, rfl⟩ rfl rfl rfl rfl rfl (by kernel_rfl) Try.func7 (by kernel_rfl)
    (of_decide_eq_true (by kernel_rfl)) (by unfold Func.isWrapper; first | (rw [if_pos (by decide +kernel)]; kernel_rfl) | (rw [if_neg (by decide +kernel)]; exact ⟨rfl, rfl⟩))
    (fun os started H enc _ => stabilityCalls_lift os started H enc walk)
end Go.Proofs.Ytaopehadegknoaa
