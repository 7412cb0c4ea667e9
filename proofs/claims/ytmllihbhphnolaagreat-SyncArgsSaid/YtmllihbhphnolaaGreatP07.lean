/- Part 7 of the ground of this proof: what its texts say of the model, the program and the plain data; conditions: those that are named. -/
import Derived.Test.YtmllihbhphnolaaGreatP06
namespace Go.Proofs.YtmllihbhphnolaaGreat
open Go Go.CF Go.ChangeShapes Go.WideShapes Go.ChangeAt Go.RowKit
set_option maxRecDepth 100000

theorem syncArgs_lift (os : Os) (started : os.Started) (H : Type) (enc : TypeId × Value → H)
  (walk : ∀ (h : Heap) (v0 : Value) (l0 : ModS) (v1 : Value) (l1 : (List Int)) (x2 : Int) (x3 : Int) (x4 : Int), v0 = .agg v0.cells → Rp.model.R h (Old h) v0.cells.toList l0 → (Rp.int .i64).slice.R h (Old h) [v1] l1 → (0 ≤ x2 ∧ x2 ≤ 255) → (0 ≤ x3 ∧ x3 ≤ 255) → rng x4 → CallsH Tryz.prog 4 #[v0, v1, .int .u8 x2, .int .u8 x3, .int .i64 x4] h fun x h' => x = .bool true ∧ Stp [] h h') :
  ReturnsInHanded {} Tryz.checked os 4 .any (Rows.syncArgsSpec.pre6 enc Tryz.prog Tryz.f4 Rows.syncArgsRow.domain false) (Rows.syncArgsSpec.post enc Tryz.prog Tryz.f4 false true false false) := by
 refine returnsInHanded_of_change (C := Tryz.checked) knob started (by kernel_rfl) Tryz.func4
  (ChangeSpec.witness6 (enc := enc) (C := Tryz.checked) false ⟨#[], #[.agg #[.slice none 0 0, .slice none 0 0, .slice none 0 0, .slice none 0 0, .slice none 0 0, .slice none 0 0, .slice none 0 0], .slice none 0 0, .int .u8 0, .int .u8 0, .int .i64 0], []⟩ 8 (by kernel_rfl) (by kernel_rfl) (by kernel_rfl) (by kernel_rfl)) ?_
 intro W base args ds gs before hval0 hW hcnd _
 have hW' := hW
 have hval : ∀ (j : Nat) t v, Tryz.f4.params[j]? = some t → args[j]? = some v → Value.okWide Tryz.prog W .any base t v := hval0
 obtain ⟨p, q, hA0, hV, rfl, hfz, hnd⟩ := hW
 have hA : DataW.TrodAll enc Tryz.prog W 0 (fun _ => true) true Tryz.f4.params.toList args.toList ds p := hA0
 rw [Tryz.params4] at hA hval
 obtain ⟨v0, vs0, d0, ds0, p0, q0, e0, rfl, h0, hA⟩ := CF.trodAll_cons hA
 obtain ⟨v1, vs1, d1, ds1, p1, q1, rfl, rfl, h1, hA⟩ := CF.trodAll_cons hA
 obtain ⟨v2, vs2, d2, ds2, p2, q2, rfl, rfl, h2, hA⟩ := CF.trodAll_cons hA
 obtain ⟨v3, vs3, d3, ds3, p3, q3, rfl, rfl, h3, hA⟩ := CF.trodAll_cons hA
 obtain ⟨v4, vs4, d4, ds4, p4, q4, rfl, rfl, h4, hA⟩ := CF.trodAll_cons hA
 obtain ⟨rfl, rfl⟩ := CF.trodAll_end hA
 obtain rfl : args = #[v0, v1, v2, v3, v4] := Array.ext' e0
 obtain ⟨l0, hl0⟩ := rdModel.arg h0
 have ha0 := aggArg Tryz.underlying30 (hval 0 30 v0 rfl rfl)
 obtain ⟨l1, hl1⟩ := rdInts.arg h1
 have hl1 := sliceArg Tryz.underlying22 (hval 1 22 v1 rfl rfl) hl1
 obtain ⟨x2, rfl, rfl, rfl, w2⟩ := open_int Tryz.underlying5 (hval 2 5 v2 rfl rfl) h2
 obtain ⟨x3, rfl, rfl, rfl, w3⟩ := open_int Tryz.underlying5 (hval 3 5 v3 rfl rfl) h3
 obtain ⟨x4, rfl, rfl, rfl, w4⟩ := open_int Tryz.underlying3 (hval 4 3 v4 rfl rfl) h4
 refine law_contract laid (tb := 4) (by rw [Tryz.params4];intro t ht;simp at ht;(repeat' (rcases ht with rfl|ht)) <;> exact ⟨by kernel_rfl, of_decide_eq_true (by kernel_rfl)⟩) rfl (by rfl) Tryz.underlying4 rfl hW' ?_
 exact walk W.heap v0 l0 v1 l1 x2 x3 x4 ha0 hl0 hl1 (wf_u8.1 w2) (wf_u8.1 w3) (wf_i64.1 w4)

theorem syncArgs_j1 : (Rows.syncArgsRow.inPlace == Tryz.pinned.checked.prog.inPlace 4) = true := by kernel_rfl
theorem syncArgs_j2 : (Rows.syncArgsRow.unfollowed == Tryz.pinned.checked.prog.unfollowed 4) = true := by kernel_rfl
theorem syncArgs_j3 : (Rows.syncArgsRow.recurses == Tryz.pinned.checked.prog.recurses 4) = true := by kernel_rfl
theorem syncArgs_j4 : (Rows.syncArgsRow.named == Tryz.pinned.checked.prog.varsNamed 4) = true := by kernel_rfl
theorem syncArgs_joined : joinedFacts Tryz.pinned.checked.prog 4 Tryz.f4 Rows.syncArgsSpec Rows.syncArgsRow = true := by
 unfold joinedFacts
 rw [syncArgs_j1, syncArgs_j2, syncArgs_j3, syncArgs_j4]
 kernel_rfl

theorem syncArgs_of (walk : ∀ (h : Heap) (v0 : Value) (l0 : ModS) (v1 : Value) (l1 : (List Int)) (x2 : Int) (x3 : Int) (x4 : Int), v0 = .agg v0.cells → Rp.model.R h (Old h) v0.cells.toList l0 → (Rp.int .i64).slice.R h (Old h) [v1] l1 → (0 ≤ x2 ∧ x2 ≤ 255) → (0 ≤ x3 ∧ x3 ≤ 255) → rng x4 → CallsH Tryz.prog 4 #[v0, v1, .int .u8 x2, .int .u8 x3, .int .i64 x4] h fun x h' => x = .bool true ∧ Stp [] h h') :
  Rows.SyncArgsSaid :=
 OpenClaim.holds_of_wide (p := Tryz.pinned) (s := Rows.syncArgsSpec) (c := Rows.syncArgsRow) 4 Tryz.f4 rfl rfl rfl rfl rfl rfl rfl ⟨rfl, rfl, rfl, rfl, rfl⟩ rfl rfl rfl rfl rfl (by kernel_rfl) Tryz.func4 syncArgs_joined
  (of_decide_eq_true (by kernel_rfl)) (by unfold Func.isWrapper;first|(rw [if_pos (by decide +kernel)];kernel_rfl)|(rw [if_neg (by decide +kernel)];exact ⟨rfl, rfl⟩))
  (fun os started H enc _ => syncArgs_lift os started H enc walk)
end Go.Proofs.YtmllihbhphnolaaGreat
