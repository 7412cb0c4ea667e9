/- A walk of ElectionEnds gives its given statement; condition: the walk. -/
import Derived.Test.YtaopehadegknoaaLfA
import Derived.Test.YtaopehadegknoaaEngH
namespace Go.Proofs.Ytaopehadegknoaa
open Go Go.CF Go.ChangeShapes Go.WideShapes Go.ChangeAt Go.RowKit
set_option maxRecDepth 100000

theorem electionEnds_lift (os : Os) (started : os.Started) (H : Type) (enc : TypeId × Value → H)
    (walk : ∀ (h : Heap) (v : Value) (r I L : Int) (l : List Int), 0 ≤ r ∧ r ≤ 255 → 0 ≤ I ∧ I ≤ 255 → 0 ≤ L ∧ L ≤ 255 → Sl h v l.length (l.map (Value.int .u8)) → (∀ x ∈ l, 0 ≤ x ∧ x ≤ 255) → CallsH Try.prog 5 #[.int .u8 r, v, .int .u8 I, .int .u8 L] h fun x h' => x = .bool true ∧ Stp [] h h') :
    ReturnsInHanded {} Try.checked os 5 .any (Rows.electionEndsSpec.pre6 enc Try.prog Try.f5 Rows.electionEndsRow.domain false) (Rows.electionEndsSpec.post enc Try.prog Try.f5 false true false false) := by
  refine returnsInHanded_of_change (C := Try.checked) knob started (by kernel_rfl) Try.func5
    (ChangeSpec.witness6 (enc := enc) (C := Try.checked) false ⟨#[], #[.int .u8 0, .slice none 0 0, .int .u8 0, .int .u8 0], []⟩ 8 (by kernel_rfl) (by kernel_rfl) (by kernel_rfl) (by kernel_rfl)) ?_
  intro W base args ds gs before hval0 hW hcnd _
  have hW' := hW
  have hval : ∀ (j : Nat) t v, Try.f5.params[j]? = some t → args[j]? = some v → Value.okWide Try.prog W .any base t v := hval0
  obtain ⟨p, q, hA0, hV, rfl, hfz, hnd⟩ := hW
  have hA : DataW.TrodAll enc Try.prog W 0 (fun _ => true) true Try.f5.params.toList args.toList ds p := hA0
  rw [Try.params5] at hA hval
  obtain ⟨v0, vs0, d0, ds0, p0, q0, e0, rfl, h0, hA⟩ := CF.trodAll_cons hA
  obtain ⟨v1, vs1, d1, ds1, p1, q1, rfl, rfl, h1, hA⟩ := CF.trodAll_cons hA
  obtain ⟨v2, vs2, d2, ds2, p2, q2, rfl, rfl, h2, hA⟩ := CF.trodAll_cons hA
  obtain ⟨v3, vs3, d3, ds3, p3, q3, rfl, rfl, h3, hA⟩ := CF.trodAll_cons hA
  obtain ⟨rfl, rfl⟩ := CF.trodAll_end hA
  obtain rfl : args = #[v0, v1, v2, v3] := Array.ext' e0
  obtain ⟨x0, rfl, rfl, rfl, w0⟩ := open_int Try.underlying5 (hval 0 5 v0 rfl rfl) h0
  obtain ⟨l, hs, _, hl⟩ := arg_ints Try.underlying22 Try.underlying5 (by kernel_rfl) (hval 1 22 v1 rfl rfl) h1
  obtain ⟨x2, rfl, rfl, rfl, w2⟩ := open_int Try.underlying5 (hval 2 5 v2 rfl rfl) h2
  obtain ⟨x3, rfl, rfl, rfl, w3⟩ := open_int Try.underlying5 (hval 3 5 v3 rfl rfl) h3
  refine law_contract laid (tb := 4) (by rw [Try.params5]; intro t ht; simp at ht; rcases ht with rfl | rfl | rfl <;> exact ⟨by kernel_rfl, of_decide_eq_true (by kernel_rfl)⟩) rfl (by rfl) Try.underlying4 rfl hW' ?_
  exact walk W.heap v1 x0 x2 x3 l (u8_wf w0) (u8_wf w2) (u8_wf w3) hs (fun x hx => u8_wf (hl x hx))

theorem electionEnds_of (walk : ∀ (h : Heap) (v : Value) (r I L : Int) (l : List Int), 0 ≤ r ∧ r ≤ 255 → 0 ≤ I ∧ I ≤ 255 → 0 ≤ L ∧ L ≤ 255 → Sl h v l.length (l.map (Value.int .u8)) → (∀ x ∈ l, 0 ≤ x ∧ x ≤ 255) → CallsH Try.prog 5 #[.int .u8 r, v, .int .u8 I, .int .u8 L] h fun x h' => x = .bool true ∧ Stp [] h h') :
    Rows.ElectionEndsSaid :=
  OpenClaim.holds_of_wide (p := Try.pinned) (s := Rows.electionEndsSpec) (c := Rows.electionEndsRow) 5 Try.f5 rfl rfl rfl rfl rfl rfl rfl ⟨rfl, rfl, rfl, rfl, rfl⟩ rfl rfl rfl rfl rfl (by kernel_rfl) Try.func5 (by kernel_rfl)
    (of_decide_eq_true (by kernel_rfl)) (by unfold Func.isWrapper; first | (rw [if_pos (by decide +kernel)]; kernel_rfl) | (rw [if_neg (by decide +kernel)]; exact ⟨rfl, rfl⟩))
    (fun os started H enc _ => electionEnds_lift os started H enc walk)
end Go.Proofs.Ytaopehadegknoaa
