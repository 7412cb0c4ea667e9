/- Part 6 of the ground of this proof: what its texts say of the model, the program and the plain data; conditions: those that are named. -/
import Derived.Test.YtmjllbjfkafhdaaGreatDoorP05
namespace Go.Proofs.YtmjllbjfkafhdaaGreatDoor
open Go Go.CF Go.ChangeShapes Go.WideShapes Go.ChangeAt Go.RowKit
set_option maxRecDepth 100000

theorem snapshotErrors_lift (os : Os) (started : os.Started) (H : Type) (enc : TypeId × Value → H)
  (walk : ∀ (h : Heap) (x0 : Int) (x1 : Int), (0 ≤ x0 ∧ x0 ≤ 255) → (0 ≤ x1 ∧ x1 ≤ 255) → AmbOK Tryz.prog h (Old h) → CallsH Tryz.prog 7 #[.int .u8 x0, .int .u8 x1] h fun x h' => x = .bool true ∧ Stp ([] : List Nat) h h') :
  ReturnsInHanded {} Tryz.checked os 7 .any (fun w args => (Rows.snapshotErrorsSpec.pre enc Tryz.prog Tryz.f7 Rows.snapshotErrorsRow.domain false w args ∧ laidMetH Tryz.prog laidL w) ∧ sizedMet enc Tryz.prog Tryz.f7 (OpenSpec.ofChange Rows.snapshotErrorsSpec) false w args)
   (Rows.snapshotErrorsSpec.post enc Tryz.prog Tryz.f7 false true false false) := by
 refine returnsInHanded_of_change_and (C := Tryz.checked) (X := fun w _ => laidMetH Tryz.prog laidL w) (fun _ _ _ hh h => h.of_heap hh) knob started (by kernel_rfl) Tryz.func7
  (ChangeSpec.witness_shaped (enc := enc) (C := Tryz.checked) (os := os) (X := fun w _ => laidMetH Tryz.prog laidL w) false (World.doorLaid Tryz.prog 33 os) #[.int .u8 0, .int .u8 0] 8 rfl (World.shaped_of_RefB (by kernel_rfl) (by kernel_rfl)) (by kernel_rfl) (by kernel_rfl) (by kernel_rfl) (door_met os _)) ?_
 intro W base args ds gs before hval0 hW hcnd _ hL _
 have hW' := hW
 have hval : ∀ (j : Nat) t v, Tryz.f7.params[j]? = some t → args[j]? = some v → Value.okWide Tryz.prog W .any base t v := hval0
 obtain ⟨p, q, hA0, hV, rfl, hfz, hnd⟩ := hW
 have hA : DataW.TrodAll enc Tryz.prog W 0 (fun _ => true) true Tryz.f7.params.toList args.toList ds p := hA0
 rw [Tryz.params7] at hA hval
 obtain ⟨v0, vs0, d0, ds0, p0, q0, e0, rfl, h0, hA⟩ := CF.trodAll_cons hA
 obtain ⟨v1, vs1, d1, ds1, p1, q1, rfl, rfl, h1, hA⟩ := CF.trodAll_cons hA
 obtain ⟨rfl, rfl⟩ := CF.trodAll_end hA
 obtain rfl : args = #[v0, v1] := Array.ext' e0
 obtain ⟨x0, rfl, rfl, rfl, w0⟩ := open_int Tryz.underlying5 (hval 0 5 v0 rfl rfl) h0
 obtain ⟨x1, rfl, rfl, rfl, w1⟩ := open_int Tryz.underlying5 (hval 1 5 v1 rfl rfl) h1
 refine law_contract laid (tb := 4) (by rw [Tryz.params7];intro t ht;simp at ht;(repeat' (rcases ht with rfl|ht)) <;> exact ⟨by kernel_rfl, of_decide_eq_true (by kernel_rfl)⟩) rfl (by rfl) Tryz.underlying4 rfl hW' ?_
 exact walk W.heap x0 x1 (wf_u8.1 w0) (wf_u8.1 w1) (amb_of hL)

theorem snapshotErrors_of (walk : ∀ (h : Heap) (x0 : Int) (x1 : Int), (0 ≤ x0 ∧ x0 ≤ 255) → (0 ≤ x1 ∧ x1 ≤ 255) → AmbOK Tryz.prog h (Old h) → CallsH Tryz.prog 7 #[.int .u8 x0, .int .u8 x1] h fun x h' => x = .bool true ∧ Stp ([] : List Nat) h h') :
  Rows.SnapshotErrorsSaid :=
 OpenClaim.holds_of_wide (p := Tryz.pinned) (s := Rows.snapshotErrorsSpec) (c := Rows.snapshotErrorsRow) 7 Tryz.f7 rfl rfl rfl rfl rfl rfl rfl ⟨rfl, rfl, rfl, rfl, rfl⟩ rfl rfl rfl rfl rfl (by kernel_rfl) Tryz.func7 snapshotErrors_joined
  (of_decide_eq_true (by kernel_rfl)) (by unfold Func.isWrapper;first|(rw [if_pos (by decide +kernel)];kernel_rfl)|(rw [if_neg (by decide +kernel)];exact ⟨rfl, rfl⟩))
  (fun os started H enc _ => snapshotErrors_lift os started H enc walk)
end Go.Proofs.YtmjllbjfkafhdaaGreatDoor
