/- A walk of ElectionSafe gives its given statement; condition: the walk. -/
import Derived.Test.YtaopehadegknoaaLfA
import Derived.Test.YtaopehadegknoaaEngH
namespace Go.Proofs.Ytaopehadegknoaa
open Go Go.CF Go.ChangeShapes Go.WideShapes Go.ChangeAt Go.RowKit
set_option maxRecDepth 100000

theorem u16_wf {x : Int} (h : (Lit.int .u16 x).wf = true) : 0 ≤ x ∧ x ≤ 65535 := by
  simpa [Lit.wf, IntKind.min, IntKind.max, IntKind.signed, IntKind.bits] using h
theorem electionSafe_lift (os : Os) (started : os.Started) (H : Type) (enc : TypeId × Value → H)
    (walk : ∀ (h : Heap) (v v2 : Value) (r : Int) (l sl : List Int), 0 ≤ r ∧ r ≤ 255 → Sl h v l.length (l.map (Value.int .u8)) → (∀ x ∈ l, 0 ≤ x ∧ x ≤ 255) → l.length ≤ 9223372036854775807 → Sl h v2 sl.length (sl.map (Value.int .u16)) → (∀ x ∈ sl, 0 ≤ x ∧ x ≤ 65535) → sl.length ≤ 9223372036854775807 →
      CallsH Try.prog 6 #[.int .u8 r, v, v2] h fun x h' => x = .bool true ∧ Stp [] h h') :
    ReturnsInHanded {} Try.checked os 6 .any (Rows.electionSafeSpec.pre6 enc Try.prog Try.f6 Rows.electionSafeRow.domain false) (Rows.electionSafeSpec.post enc Try.prog Try.f6 false true false false) := by
  refine returnsInHanded_of_change (C := Try.checked) knob started (by kernel_rfl) Try.func6
    (ChangeSpec.witness6 (enc := enc) (C := Try.checked) false ⟨#[], #[.int .u8 0, .slice none 0 0, .slice none 0 0], []⟩ 8 (by kernel_rfl) (by kernel_rfl) (by kernel_rfl) (by kernel_rfl)) ?_
  intro W base args ds gs before hval0 hW hcnd _
  have hW' := hW
  have hval : ∀ (j : Nat) t v, Try.f6.params[j]? = some t → args[j]? = some v → Value.okWide Try.prog W .any base t v := hval0
  obtain ⟨p, q, hA0, hV, rfl, hfz, hnd⟩ := hW
  have hA : DataW.TrodAll enc Try.prog W 0 (fun _ => true) true Try.f6.params.toList args.toList ds p := hA0
  rw [Try.params6] at hA hval
  obtain ⟨v0, vs0, d0, ds0, p0, q0, e0, rfl, h0, hA⟩ := CF.trodAll_cons hA
  obtain ⟨v1, vs1, d1, ds1, p1, q1, rfl, rfl, h1, hA⟩ := CF.trodAll_cons hA
  obtain ⟨v2, vs2, d2, ds2, p2, q2, rfl, rfl, h2, hA⟩ := CF.trodAll_cons hA
  obtain ⟨rfl, rfl⟩ := CF.trodAll_end hA
  obtain rfl : args = #[v0, v1, v2] := Array.ext' e0
  obtain ⟨x0, rfl, rfl, rfl, w0⟩ := open_int Try.underlying5 (hval 0 5 v0 rfl rfl) h0
  obtain ⟨l, hs, hlm, hl⟩ := arg_ints Try.underlying22 Try.underlying5 (by kernel_rfl) (hval 1 22 v1 rfl rfl) h1
  obtain ⟨sl, hss, hsm, hsl⟩ := arg_ints Try.underlying58 Try.underlying60 (by kernel_rfl) (hval 2 58 v2 rfl rfl) h2
  refine law_contract laid (tb := 4) (by rw [Try.params6]; intro t ht; simp at ht; rcases ht with rfl | rfl | rfl <;> exact ⟨by kernel_rfl, of_decide_eq_true (by kernel_rfl)⟩) rfl (by rfl) Try.underlying4 rfl hW' ?_
  exact walk W.heap v1 v2 x0 l sl (u8_wf w0) hs (fun x hx => u8_wf (hl x hx)) hlm hss (fun x hx => u16_wf (hsl x hx)) hsm

theorem electionSafe_of (walk : ∀ (h : Heap) (v v2 : Value) (r : Int) (l sl : List Int), 0 ≤ r ∧ r ≤ 255 → Sl h v l.length (l.map (Value.int .u8)) → (∀ x ∈ l, 0 ≤ x ∧ x ≤ 255) → l.length ≤ 9223372036854775807 → Sl h v2 sl.length (sl.map (Value.int .u16)) → (∀ x ∈ sl, 0 ≤ x ∧ x ≤ 65535) → sl.length ≤ 9223372036854775807 →
      CallsH Try.prog 6 #[.int .u8 r, v, v2] h fun x h' => x = .bool true ∧ Stp [] h h') :
    Rows.ElectionSafeSaid :=
  OpenClaim.holds_of_wide (p := Try.pinned) (s := Rows.electionSafeSpec) (c := Rows.electionSafeRow) 6 Try.f6 rfl rfl rfl rfl rfl rfl rfl ⟨rfl, rfl, rfl, rfl, rfl⟩ rfl rfl rfl rfl rfl (by kernel_rfl) Try.func6 (by kernel_rfl)
    (of_decide_eq_true (by kernel_rfl)) (by unfold Func.isWrapper; first | (rw [if_pos (by decide +kernel)]; kernel_rfl) | (rw [if_neg (by decide +kernel)]; exact ⟨rfl, rfl⟩))
    (fun os started H enc _ => electionSafe_lift os started H enc walk)
end Go.Proofs.Ytaopehadegknoaa
