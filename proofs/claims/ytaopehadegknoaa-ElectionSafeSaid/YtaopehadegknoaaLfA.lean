/- A walk of ElectionLogs gives its given statement; condition: the walk. -/
import Derived.Test.YtaopehadegknoaaEngF
import Derived.Test.YtaopehadegknoaaPg
import Derived.Test.YtaopehadegknoaaRows
namespace Go.Proofs.Ytaopehadegknoaa
open Go Go.CF Go.ChangeShapes Go.WideShapes Go.ChangeAt Go.RowKit
set_option maxRecDepth 100000

theorem knob : ownKnob Try.prog.godebug = none := by kernel_rfl
theorem laid : laidOutB Try.prog = true := by kernel_rfl
theorem u8_wf {x : Int} (h : (Lit.int .u8 x).wf = true) : 0 ≤ x ∧ x ≤ 255 := by
  simpa [Lit.wf, IntKind.min, IntKind.max, IntKind.signed, IntKind.bits] using h

theorem electionLogs_lift (os : Os) (started : os.Started) (H : Type) (enc : TypeId × Value → H)
    (walk : ∀ (h : Heap) (v : Value) (r : Int) (l : List Int), 0 ≤ r ∧ r ≤ 255 → Sl h v l.length (l.map (Value.int .u8)) → (∀ x ∈ l, 0 ≤ x ∧ x ≤ 255) → CallsH Try.prog 3 #[.int .u8 r, v] h fun x h' => x = .bool true ∧ Stp [] h h') :
    ReturnsInHanded {} Try.checked os 3 .any (Rows.electionLogsSpec.pre6 enc Try.prog Try.f3 Rows.electionLogsRow.domain false) (Rows.electionLogsSpec.post enc Try.prog Try.f3 false true false false) := by
  refine returnsInHanded_of_change (C := Try.checked) knob started (by kernel_rfl) Try.func3
    (ChangeSpec.witness6 (enc := enc) (C := Try.checked) false ⟨#[], #[.int .u8 0, .slice none 0 0], []⟩ 8 (by kernel_rfl) (by kernel_rfl) (by kernel_rfl) (by kernel_rfl)) ?_
  intro W base args ds gs before hval0 hW hcnd _
  have hW' := hW
  have hval : ∀ (j : Nat) t v, Try.f3.params[j]? = some t → args[j]? = some v → Value.okWide Try.prog W .any base t v := hval0
  obtain ⟨p, q, hA0, hV, rfl, hfz, hnd⟩ := hW
  have hA : DataW.TrodAll enc Try.prog W 0 (fun _ => true) true Try.f3.params.toList args.toList ds p := hA0
  rw [Try.params3] at hA hval
  obtain ⟨v0, v1, d0, d1, p0, p1, rfl, rfl, rfl, h0, h1⟩ := trodAll_two hA
  obtain ⟨r, rfl, rfl, rfl, wr⟩ := open_int Try.underlying5 (hval 0 5 v0 rfl rfl) h0
  obtain ⟨l, hs, _, hl⟩ := arg_ints Try.underlying22 Try.underlying5 (by kernel_rfl) (hval 1 22 v1 rfl rfl) h1
  refine law_contract laid (tb := 4) (by rw [Try.params3]; intro t ht; simp at ht; rcases ht with rfl | rfl <;> exact ⟨by kernel_rfl, of_decide_eq_true (by kernel_rfl)⟩) rfl (by rfl) Try.underlying4 rfl hW' ?_
  exact walk W.heap v1 r l (u8_wf wr) hs (fun x hx => u8_wf (hl x hx))

theorem electionLogs_of (walk : ∀ (h : Heap) (v : Value) (r : Int) (l : List Int), 0 ≤ r ∧ r ≤ 255 → Sl h v l.length (l.map (Value.int .u8)) → (∀ x ∈ l, 0 ≤ x ∧ x ≤ 255) → CallsH Try.prog 3 #[.int .u8 r, v] h fun x h' => x = .bool true ∧ Stp [] h h') :
    Rows.ElectionLogsSaid :=
  OpenClaim.holds_of_wide (p := Try.pinned) (s := Rows.electionLogsSpec) (c := Rows.electionLogsRow) 3 Try.f3 rfl rfl rfl rfl rfl rfl rfl ⟨rfl, rfl, rfl, rfl, rfl⟩ rfl rfl rfl rfl rfl (by kernel_rfl) Try.func3 (by kernel_rfl)
    (of_decide_eq_true (by kernel_rfl)) (by unfold Func.isWrapper; first | (rw [if_pos (by decide +kernel)]; kernel_rfl) | (rw [if_neg (by decide +kernel)]; exact ⟨rfl, rfl⟩))
    (fun os started H enc _ => electionLogs_lift os started H enc walk)
end Go.Proofs.Ytaopehadegknoaa
