/- Part 7 of the ground of this proof: what its texts say of the model, the program and the plain data; conditions: those that are named. -/
import Derived.Test.YtajenkpjcbaadaaGreatD06
namespace Go.Proofs.YtajenkpjcbaadaaGreat
open Go Go.CF Go.ChangeShapes Go.WideShapes Go.ChangeAt Go.RowKit
set_option maxRecDepth 100000

theorem syncCompacted_lift (os : Os) (started : os.Started) (H : Type) (enc : TypeId × Value → H)
  (walk : ∀ (h : Heap) (v0 : Value) (l0 : ModS) (v1 : Value) (l1 : (List Int)) (v2 : Value) (l2 : (List EvS)) (v3 : Value) (l3 : (List Int)) (v4 : Value) (l4 : (List Int)) (x5 : Int), v0 = .agg v0.cells → Rp.model.R h (Old h) v0.cells.toList l0 → (Rp.int .i64).slice.R h (Old h) [v1] l1 → Rp.event.slice.R h (Old h) [v2] l2 → (Rp.int .i64).slice.R h (Old h) [v3] l3 → (Rp.int .i64).slice.R h (Old h) [v4] l4 → (0 ≤ x5 ∧ x5 ≤ 255) → CallsH Tryz.prog 4 #[v0, v1, v2, v3, v4, .int .u8 x5] h fun x h' => x = .bool true ∧ Stp [] h h') :
  ReturnsInHanded {} Tryz.checked os 4 .any (Rows.syncCompactedSpec.pre6 enc Tryz.prog Tryz.f4 Rows.syncCompactedRow.domain false) (Rows.syncCompactedSpec.post enc Tryz.prog Tryz.f4 false true false false) := by
 refine returnsInHanded_of_change (C := Tryz.checked) knob started (by kernel_rfl) Tryz.func4
  (ChangeSpec.witness6 (enc := enc) (C := Tryz.checked) false ⟨#[], #[.agg #[.slice none 0 0, .slice none 0 0, .slice none 0 0, .slice none 0 0, .slice none 0 0, .slice none 0 0, .slice none 0 0], .slice none 0 0, .slice none 0 0, .slice none 0 0, .slice none 0 0, .int .u8 0], []⟩ 8 (by kernel_rfl) (by kernel_rfl) (by kernel_rfl) (by kernel_rfl)) ?_
 intro W base args ds gs before hval0 hW hcnd _
 have hW' := hW
 have hval : ∀ (j : Nat) t v, Tryz.f4.params[j]? = some t → args[j]? = some v → Value.okWide Tryz.prog W .any base t v := hval0
 obtain ⟨p, q, hA0, hV, rfl, hfz, hnd⟩ := hW
 have hA : DataW.TrodAll enc Tryz.prog W 0 (fun _ => true) true Tryz.f4.params.toList args.toList ds p := hA0
 rw [Tryz.params4] at hA hval
 obtain ⟨v0, vs0, d0, ds0, p0, q0, e0, rfl, h0, hA⟩ := CF.trodAll_cons hA
 obtain ⟨v1, vs1, d1, ds1, p1, q1, rfl, rfl, h1, hA⟩ := CF.trodAll_cons hA
 obtain ⟨v2, vs2, d2, ds2, p2, q2, rfl, rfl, h2, hA⟩ := CF.trodAll_cons hA
 obtain ⟨v3, vs3, d3, ds3, p3, q3, rfl, rfl, h3, hA⟩ := CF.trodAll_cons hA
 obtain ⟨v4, vs4, d4, ds4, p4, q4, rfl, rfl, h4, hA⟩ := CF.trodAll_cons hA
 obtain ⟨v5, vs5, d5, ds5, p5, q5, rfl, rfl, h5, hA⟩ := CF.trodAll_cons hA
 obtain ⟨rfl, rfl⟩ := CF.trodAll_end hA
 obtain rfl : args = #[v0, v1, v2, v3, v4, v5] := Array.ext' e0
 obtain ⟨l0, hl0⟩ := rdModel.arg h0
 have ha0 := aggArg Tryz.underlying30 (hval 0 30 v0 rfl rfl)
 obtain ⟨l1, hl1⟩ := rdInts.arg h1
 have hl1 := sliceArg Tryz.underlying22 (hval 1 22 v1 rfl rfl) hl1
 obtain ⟨l2, hl2⟩ := rdEvs.arg h2
 have hl2 := sliceArg Tryz.underlying31 (hval 2 31 v2 rfl rfl) hl2
 obtain ⟨l3, hl3⟩ := rdInts.arg h3
 have hl3 := sliceArg Tryz.underlying22 (hval 3 22 v3 rfl rfl) hl3
 obtain ⟨l4, hl4⟩ := rdInts.arg h4
 have hl4 := sliceArg Tryz.underlying22 (hval 4 22 v4 rfl rfl) hl4
 obtain ⟨x5, rfl, rfl, rfl, w5⟩ := open_int Tryz.underlying5 (hval 5 5 v5 rfl rfl) h5
 refine law_contract laid (tb := 4) (by rw [Tryz.params4];intro t ht;simp at ht;(repeat' (rcases ht with rfl|ht)) <;> exact ⟨by kernel_rfl, of_decide_eq_true (by kernel_rfl)⟩) rfl (by rfl) Tryz.underlying4 rfl hW' ?_
 exact walk W.heap v0 l0 v1 l1 v2 l2 v3 l3 v4 l4 x5 ha0 hl0 hl1 hl2 hl3 hl4 (wf_u8.1 w5)

theorem syncCompacted_j1 : (Rows.syncCompactedRow.inPlace == Tryz.pinned.checked.prog.inPlace 4) = true := by kernel_rfl
theorem syncCompacted_j2 : (Rows.syncCompactedRow.unfollowed == Tryz.pinned.checked.prog.unfollowed 4) = true := by kernel_rfl
theorem syncCompacted_j3 : (Rows.syncCompactedRow.recurses == Tryz.pinned.checked.prog.recurses 4) = true := by kernel_rfl
theorem syncCompacted_j4 : (Rows.syncCompactedRow.named == Tryz.pinned.checked.prog.varsNamed 4) = true := by kernel_rfl
theorem syncCompacted_joined : joinedFacts Tryz.pinned.checked.prog 4 Tryz.f4 Rows.syncCompactedSpec Rows.syncCompactedRow = true := by
 unfold joinedFacts
 rw [syncCompacted_j1, syncCompacted_j2, syncCompacted_j3, syncCompacted_j4]
 kernel_rfl

theorem syncCompacted_of (walk : ∀ (h : Heap) (v0 : Value) (l0 : ModS) (v1 : Value) (l1 : (List Int)) (v2 : Value) (l2 : (List EvS)) (v3 : Value) (l3 : (List Int)) (v4 : Value) (l4 : (List Int)) (x5 : Int), v0 = .agg v0.cells → Rp.model.R h (Old h) v0.cells.toList l0 → (Rp.int .i64).slice.R h (Old h) [v1] l1 → Rp.event.slice.R h (Old h) [v2] l2 → (Rp.int .i64).slice.R h (Old h) [v3] l3 → (Rp.int .i64).slice.R h (Old h) [v4] l4 → (0 ≤ x5 ∧ x5 ≤ 255) → CallsH Tryz.prog 4 #[v0, v1, v2, v3, v4, .int .u8 x5] h fun x h' => x = .bool true ∧ Stp [] h h') :
  Rows.SyncCompactedSaid :=
 OpenClaim.holds_of_wide (p := Tryz.pinned) (s := Rows.syncCompactedSpec) (c := Rows.syncCompactedRow) 4 Tryz.f4 rfl rfl rfl rfl rfl rfl rfl ⟨rfl, rfl, rfl, rfl, rfl⟩ rfl rfl rfl rfl rfl (by kernel_rfl) Tryz.func4 syncCompacted_joined
  (of_decide_eq_true (by kernel_rfl)) (by unfold Func.isWrapper;first|(rw [if_pos (by decide +kernel)];kernel_rfl)|(rw [if_neg (by decide +kernel)];exact ⟨rfl, rfl⟩))
  (fun os started H enc _ => syncCompacted_lift os started H enc walk)
end Go.Proofs.YtajenkpjcbaadaaGreat
