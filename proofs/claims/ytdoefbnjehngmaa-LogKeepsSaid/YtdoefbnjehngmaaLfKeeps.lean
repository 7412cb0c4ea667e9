/- A walk of LogKeeps gives its given statement; condition: the walk. -/
import Derived.Test.YtdoefbnjehngmaaLf43
import Derived.Test.YtdoefbnjehngmaaGy
namespace Go.Proofs.Ytdoefbnjehngmaa
open Go Go.CF Go.ChangeShapes Go.WideShapes Go.ChangeAt Go.RowKit
set_option maxRecDepth 100000

theorem logKeeps_lift (os : Os) (started : os.Started) (H : Type) (enc : TypeId × Value → H)
    (walk : ∀ (h : Heap) (x0 : Int) (x1 : Int) (v2 : Value) (l2 : List Ent) (v3 : Value) (l3 : List Act43), rng x0 → rng x1 → ents.R h (Old h) [v2] l2 → Rp.act.slice.R h (Old h) [v3] l3 → CallsH Try.prog 5 #[.int .i64 x0, .int .i64 x1, v2, v3] h fun x h' => x = .bool true ∧ Stp [] h h') :
    ReturnsInHanded {} Try.checked os 5 .any (Rows.logKeepsSpec.pre6 enc Try.prog Try.f5 Rows.logKeepsRow.domain false) (Rows.logKeepsSpec.post enc Try.prog Try.f5 false true false false) := by
  refine returnsInHanded_of_change (C := Try.checked) knob started (by kernel_rfl) Try.func5
    (ChangeSpec.witness6 (enc := enc) (C := Try.checked) false ⟨#[], #[.int .i64 0, .int .i64 0, .slice none 0 0, .slice none 0 0], []⟩ 8 (by kernel_rfl) (by kernel_rfl) (by kernel_rfl) (by kernel_rfl)) ?_
  intro W base args ds gs before hval0 hW hcnd _
  have hW' := hW
  have hval : ∀ (j : Nat) t v, Try.f5.params[j]? = some t → args[j]? = some v → Value.okWide Try.prog W .any base t v := hval0
  obtain ⟨p, q, hA0, hV, rfl, hfz, hnd⟩ := hW
  have hA : DataW.TrodAll enc Try.prog W 0 (fun _ => true) true Try.f5.params.toList args.toList ds p := hA0
  rw [Try.params5] at hA hval
  obtain ⟨v0, vs0, d0, ds0, p0, q0, e0, rfl, h0, hA⟩ := CF.trodAll_cons hA
  obtain ⟨v1, vs1, d1, ds1, p1, q1, rfl, rfl, h1, hA⟩ := CF.trodAll_cons hA
  obtain ⟨v2, vs2, d2, ds2, p2, q2, rfl, rfl, h2, hA⟩ := CF.trodAll_cons hA
  obtain ⟨v3, vs3, d3, ds3, p3, q3, rfl, rfl, h3, hA⟩ := CF.trodAll_cons hA
  obtain ⟨rfl, rfl⟩ := CF.trodAll_end hA
  obtain rfl : args = #[v0, v1, v2, v3] := Array.ext' e0
  obtain ⟨x0, rfl, rfl, rfl, w0⟩ := open_int Try.underlying3 (hval 0 3 v0 rfl rfl) h0
  obtain ⟨x1, rfl, rfl, rfl, w1⟩ := open_int Try.underlying3 (hval 1 3 v1 rfl rfl) h1
  obtain ⟨l2, hl2⟩ := rdEnts.arg h2
  have hl2 := sliceArg Try.underlying22 (hval 2 22 v2 rfl rfl) hl2
  obtain ⟨l3, hl3⟩ := rdActs.arg h3
  have hl3 := sliceArg Try.underlying60 (hval 3 60 v3 rfl rfl) hl3
  refine law_contract laid (tb := 4) (by rw [Try.params5]; intro t ht; simp at ht; rcases ht with rfl | rfl | rfl <;> exact ⟨by kernel_rfl, of_decide_eq_true (by kernel_rfl)⟩) rfl (by rfl) Try.underlying4 rfl hW' ?_
  exact walk W.heap x0 x1 v2 l2 v3 l3 (wf_i64.1 w0) (wf_i64.1 w1) hl2 hl3

theorem logKeeps_of (walk : ∀ (h : Heap) (x0 : Int) (x1 : Int) (v2 : Value) (l2 : List Ent) (v3 : Value) (l3 : List Act43), rng x0 → rng x1 → ents.R h (Old h) [v2] l2 → Rp.act.slice.R h (Old h) [v3] l3 → CallsH Try.prog 5 #[.int .i64 x0, .int .i64 x1, v2, v3] h fun x h' => x = .bool true ∧ Stp [] h h') :
    Rows.LogKeepsSaid :=
  OpenClaim.holds_of_wide (p := Try.pinned) (s := Rows.logKeepsSpec) (c := Rows.logKeepsRow) 5 Try.f5 rfl rfl rfl rfl rfl rfl rfl ⟨rfl, rfl, rfl, rfl, rfl⟩ rfl rfl rfl rfl rfl (by kernel_rfl) Try.func5 (by kernel_rfl)
    (of_decide_eq_true (by kernel_rfl)) (by unfold Func.isWrapper; first | (rw [if_pos (by decide +kernel)]; kernel_rfl) | (rw [if_neg (by decide +kernel)]; exact ⟨rfl, rfl⟩))
    (fun os started H enc _ => logKeeps_lift os started H enc walk)
end Go.Proofs.Ytdoefbnjehngmaa
