/- Part 6 of the ground of this proof: what its texts say of the model, the program and the plain data; conditions: those that are named. -/
import Derived.Test.YtmllihbhphnolaaGreatT05
namespace Go.Proofs.YtmllihbhphnolaaGreat
open Go Go.CF Go.ChangeShapes Go.WideShapes Go.ChangeAt Go.RowKit
set_option maxRecDepth 100000

theorem syncTakes_lift (os : Os) (started : os.Started) (H : Type) (enc : TypeId × Value → H)
  (walk : ∀ (h : Heap) (v0 : Value) (l0 : ModS) (x1 : Int) (v2 : Value) (l2 : (List Int)) (v3 : Value) (l3 : (List EvS)) (x4 : Int), v0 = .agg v0.cells → Rp.model.R h (Old h) v0.cells.toList l0 → rng x1 → (Rp.int .i64).slice.R h (Old h) [v2] l2 → Rp.event.slice.R h (Old h) [v3] l3 → (0 ≤ x4 ∧ x4 ≤ 255) → CallsH Tryz.prog 5 #[v0, .int .i64 x1, v2, v3, .int .u8 x4] h fun x h' => x = .bool true ∧ Stp [] h h') :
  ReturnsInHanded {} Tryz.checked os 5 .any (Rows.syncTakesSpec.pre6 enc Tryz.prog Tryz.f5 Rows.syncTakesRow.domain false) (Rows.syncTakesSpec.post enc Tryz.prog Tryz.f5 false true false false) := by
 refine returnsInHanded_of_change (C := Tryz.checked) knob started (by kernel_rfl) Tryz.func5
  (ChangeSpec.witness6 (enc := enc) (C := Tryz.checked) false ⟨#[], #[.agg #[.slice none 0 0, .slice none 0 0, .slice none 0 0, .slice none 0 0, .slice none 0 0, .slice none 0 0, .slice none 0 0], .int .i64 0, .slice none 0 0, .slice none 0 0, .int .u8 0], []⟩ 8 (by kernel_rfl) (by kernel_rfl) (by kernel_rfl) (by kernel_rfl)) ?_
 intro W base args ds gs before hval0 hW hcnd _
 have hW' := hW
 have hval : ∀ (j : Nat) t v, Tryz.f5.params[j]? = some t → args[j]? = some v → Value.okWide Tryz.prog W .any base t v := hval0
 obtain ⟨p, q, hA0, hV, rfl, hfz, hnd⟩ := hW
 have hA : DataW.TrodAll enc Tryz.prog W 0 (fun _ => true) true Tryz.f5.params.toList args.toList ds p := hA0
 rw [Tryz.params5] at hA hval
 obtain ⟨v0, vs0, d0, ds0, p0, q0, e0, rfl, h0, hA⟩ := CF.trodAll_cons hA
 obtain ⟨v1, vs1, d1, ds1, p1, q1, rfl, rfl, h1, hA⟩ := CF.trodAll_cons hA
 obtain ⟨v2, vs2, d2, ds2, p2, q2, rfl, rfl, h2, hA⟩ := CF.trodAll_cons hA
 obtain ⟨v3, vs3, d3, ds3, p3, q3, rfl, rfl, h3, hA⟩ := CF.trodAll_cons hA
 obtain ⟨v4, vs4, d4, ds4, p4, q4, rfl, rfl, h4, hA⟩ := CF.trodAll_cons hA
 obtain ⟨rfl, rfl⟩ := CF.trodAll_end hA
 obtain rfl : args = #[v0, v1, v2, v3, v4] := Array.ext' e0
 obtain ⟨l0, hl0⟩ := rdModel.arg h0
 have ha0 := aggArg Tryz.underlying30 (hval 0 30 v0 rfl rfl)
 obtain ⟨x1, rfl, rfl, rfl, w1⟩ := open_int Tryz.underlying3 (hval 1 3 v1 rfl rfl) h1
 obtain ⟨l2, hl2⟩ := rdInts.arg h2
 have hl2 := sliceArg Tryz.underlying22 (hval 2 22 v2 rfl rfl) hl2
 obtain ⟨l3, hl3⟩ := rdEvs.arg h3
 have hl3 := sliceArg Tryz.underlying31 (hval 3 31 v3 rfl rfl) hl3
 obtain ⟨x4, rfl, rfl, rfl, w4⟩ := open_int Tryz.underlying5 (hval 4 5 v4 rfl rfl) h4
 refine law_contract laid (tb := 4) (by rw [Tryz.params5];intro t ht;simp at ht;(repeat' (rcases ht with rfl|ht)) <;> exact ⟨by kernel_rfl, of_decide_eq_true (by kernel_rfl)⟩) rfl (by rfl) Tryz.underlying4 rfl hW' ?_
 exact walk W.heap v0 l0 x1 v2 l2 v3 l3 x4 ha0 hl0 (wf_i64.1 w1) hl2 hl3 (wf_u8.1 w4)

theorem syncTakes_j1 : (Rows.syncTakesRow.inPlace == Tryz.pinned.checked.prog.inPlace 5) = true := by kernel_rfl
theorem syncTakes_j2 : (Rows.syncTakesRow.unfollowed == Tryz.pinned.checked.prog.unfollowed 5) = true := by kernel_rfl
theorem syncTakes_j3 : (Rows.syncTakesRow.recurses == Tryz.pinned.checked.prog.recurses 5) = true := by kernel_rfl
theorem syncTakes_j4 : (Rows.syncTakesRow.named == Tryz.pinned.checked.prog.varsNamed 5) = true := by kernel_rfl
theorem syncTakes_joined : joinedFacts Tryz.pinned.checked.prog 5 Tryz.f5 Rows.syncTakesSpec Rows.syncTakesRow = true := by
 unfold joinedFacts
 rw [syncTakes_j1, syncTakes_j2, syncTakes_j3, syncTakes_j4]
 kernel_rfl

theorem syncTakes_of (walk : ∀ (h : Heap) (v0 : Value) (l0 : ModS) (x1 : Int) (v2 : Value) (l2 : (List Int)) (v3 : Value) (l3 : (List EvS)) (x4 : Int), v0 = .agg v0.cells → Rp.model.R h (Old h) v0.cells.toList l0 → rng x1 → (Rp.int .i64).slice.R h (Old h) [v2] l2 → Rp.event.slice.R h (Old h) [v3] l3 → (0 ≤ x4 ∧ x4 ≤ 255) → CallsH Tryz.prog 5 #[v0, .int .i64 x1, v2, v3, .int .u8 x4] h fun x h' => x = .bool true ∧ Stp [] h h') :
  Rows.SyncTakesSaid :=
 OpenClaim.holds_of_wide (p := Tryz.pinned) (s := Rows.syncTakesSpec) (c := Rows.syncTakesRow) 5 Tryz.f5 rfl rfl rfl rfl rfl rfl rfl ⟨rfl, rfl, rfl, rfl, rfl⟩ rfl rfl rfl rfl rfl (by kernel_rfl) Tryz.func5 syncTakes_joined
  (of_decide_eq_true (by kernel_rfl)) (by unfold Func.isWrapper;first|(rw [if_pos (by decide +kernel)];kernel_rfl)|(rw [if_neg (by decide +kernel)];exact ⟨rfl, rfl⟩))
  (fun os started H enc _ => syncTakes_lift os started H enc walk)
end Go.Proofs.YtmllihbhphnolaaGreat
