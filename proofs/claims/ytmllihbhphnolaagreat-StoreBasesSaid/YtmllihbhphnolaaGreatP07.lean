/- Part 7 of the ground of this proof: what its texts say of the model, the program and the plain data; conditions: those that are named. -/
import Derived.Test.YtmllihbhphnolaaGreatP06
namespace Go.Proofs.YtmllihbhphnolaaGreat
open Go Go.CF Go.ChangeShapes Go.WideShapes Go.ChangeAt Go.RowKit
set_option maxRecDepth 100000

theorem storeBases_lift (os : Os) (started : os.Started) (H : Type) (enc : TypeId × Value → H)
  (walk : ∀ (h : Heap) (v0 : Value) (l0 : ModS) (v1 : Value) (l1 : BaseT) (v2 : Value) (l2 : (List EvS)) (v3 : Value) (l3 : (List Int)), v0 = .agg v0.cells → Rp.model.R h (Old h) v0.cells.toList l0 → v1 = .agg v1.cells → Rp.base.R h (Old h) v1.cells.toList l1 → Rp.event.slice.R h (Old h) [v2] l2 → (Rp.int .i64).slice.R h (Old h) [v3] l3 → CallsH Tryz.prog 7 #[v0, v1, v2, v3] h fun x h' => x = .bool true ∧ Stp [] h h') :
  ReturnsInHanded {} Tryz.checked os 7 .any (Rows.storeBasesSpec.pre6 enc Tryz.prog Tryz.f7 Rows.storeBasesRow.domain false) (Rows.storeBasesSpec.post enc Tryz.prog Tryz.f7 false true false false) := by
 refine returnsInHanded_of_change (C := Tryz.checked) knob started (by kernel_rfl) Tryz.func7
  (ChangeSpec.witness6 (enc := enc) (C := Tryz.checked) false ⟨#[], #[.agg #[.slice none 0 0, .slice none 0 0, .slice none 0 0, .slice none 0 0, .slice none 0 0, .slice none 0 0, .slice none 0 0], .agg #[.slice none 0 0, .int .i64 0, .slice none 0 0, .slice none 0 0, .slice none 0 0, .slice none 0 0, .slice none 0 0], .slice none 0 0, .slice none 0 0], []⟩ 8 (by kernel_rfl) (by kernel_rfl) (by kernel_rfl) (by kernel_rfl)) ?_
 intro W base args ds gs before hval0 hW hcnd _
 have hW' := hW
 have hval : ∀ (j : Nat) t v, Tryz.f7.params[j]? = some t → args[j]? = some v → Value.okWide Tryz.prog W .any base t v := hval0
 obtain ⟨p, q, hA0, hV, rfl, hfz, hnd⟩ := hW
 have hA : DataW.TrodAll enc Tryz.prog W 0 (fun _ => true) true Tryz.f7.params.toList args.toList ds p := hA0
 rw [Tryz.params7] at hA hval
 obtain ⟨v0, vs0, d0, ds0, p0, q0, e0, rfl, h0, hA⟩ := CF.trodAll_cons hA
 obtain ⟨v1, vs1, d1, ds1, p1, q1, rfl, rfl, h1, hA⟩ := CF.trodAll_cons hA
 obtain ⟨v2, vs2, d2, ds2, p2, q2, rfl, rfl, h2, hA⟩ := CF.trodAll_cons hA
 obtain ⟨v3, vs3, d3, ds3, p3, q3, rfl, rfl, h3, hA⟩ := CF.trodAll_cons hA
 obtain ⟨rfl, rfl⟩ := CF.trodAll_end hA
 obtain rfl : args = #[v0, v1, v2, v3] := Array.ext' e0
 obtain ⟨l0, hl0⟩ := rdModel.arg h0
 have ha0 := aggArg Tryz.underlying30 (hval 0 30 v0 rfl rfl)
 obtain ⟨l1, hl1⟩ := rdBase.arg h1
 have ha1 := aggArg Tryz.underlying75 (hval 1 75 v1 rfl rfl)
 obtain ⟨l2, hl2⟩ := rdEvs.arg h2
 have hl2 := sliceArg Tryz.underlying31 (hval 2 31 v2 rfl rfl) hl2
 obtain ⟨l3, hl3⟩ := rdInts.arg h3
 have hl3 := sliceArg Tryz.underlying22 (hval 3 22 v3 rfl rfl) hl3
 refine law_contract laid (tb := 4) (by rw [Tryz.params7];intro t ht;simp at ht;(repeat' (rcases ht with rfl|ht)) <;> exact ⟨by kernel_rfl, of_decide_eq_true (by kernel_rfl)⟩) rfl (by rfl) Tryz.underlying4 rfl hW' ?_
 exact walk W.heap v0 l0 v1 l1 v2 l2 v3 l3 ha0 hl0 ha1 hl1 hl2 hl3

theorem storeBases_j1 : (Rows.storeBasesRow.inPlace == Tryz.pinned.checked.prog.inPlace 7) = true := by kernel_rfl
theorem storeBases_j2 : (Rows.storeBasesRow.unfollowed == Tryz.pinned.checked.prog.unfollowed 7) = true := by kernel_rfl
theorem storeBases_j3 : (Rows.storeBasesRow.recurses == Tryz.pinned.checked.prog.recurses 7) = true := by kernel_rfl
theorem storeBases_j4 : (Rows.storeBasesRow.named == Tryz.pinned.checked.prog.varsNamed 7) = true := by kernel_rfl
theorem storeBases_joined : joinedFacts Tryz.pinned.checked.prog 7 Tryz.f7 Rows.storeBasesSpec Rows.storeBasesRow = true := by
 unfold joinedFacts
 rw [storeBases_j1, storeBases_j2, storeBases_j3, storeBases_j4]
 kernel_rfl

theorem storeBases_of (walk : ∀ (h : Heap) (v0 : Value) (l0 : ModS) (v1 : Value) (l1 : BaseT) (v2 : Value) (l2 : (List EvS)) (v3 : Value) (l3 : (List Int)), v0 = .agg v0.cells → Rp.model.R h (Old h) v0.cells.toList l0 → v1 = .agg v1.cells → Rp.base.R h (Old h) v1.cells.toList l1 → Rp.event.slice.R h (Old h) [v2] l2 → (Rp.int .i64).slice.R h (Old h) [v3] l3 → CallsH Tryz.prog 7 #[v0, v1, v2, v3] h fun x h' => x = .bool true ∧ Stp [] h h') :
  Rows.StoreBasesSaid :=
 OpenClaim.holds_of_wide (p := Tryz.pinned) (s := Rows.storeBasesSpec) (c := Rows.storeBasesRow) 7 Tryz.f7 rfl rfl rfl rfl rfl rfl rfl ⟨rfl, rfl, rfl, rfl, rfl⟩ rfl rfl rfl rfl rfl (by kernel_rfl) Tryz.func7 storeBases_joined
  (of_decide_eq_true (by kernel_rfl)) (by unfold Func.isWrapper;first|(rw [if_pos (by decide +kernel)];kernel_rfl)|(rw [if_neg (by decide +kernel)];exact ⟨rfl, rfl⟩))
  (fun os started H enc _ => storeBases_lift os started H enc walk)
end Go.Proofs.YtmllihbhphnolaaGreat
