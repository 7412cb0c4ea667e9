/- A walk of ElectionPromises gives its given statement; condition: the walk. -/
import Derived.Test.YtaopehadegknoaaLfA
import Derived.Test.YtaopehadegknoaaRd42
namespace Go.Proofs.Ytaopehadegknoaa
open Go Go.CF Go.ChangeShapes Go.WideShapes Go.ChangeAt Go.RowKit
set_option maxRecDepth 100000

theorem sliceArg {W : World} {r : Reach} {b : Nat} {t e : TypeId} {v : Value} {α : Type} {R : Rp α} {l : List α} (ht : Try.prog.underlying t = some (.slice e)) (hv : Value.okWide Try.prog W r b t v) (h : R.slice.R W.heap (Old W.heap) v.cells.toList l) : R.slice.R W.heap (Old W.heap) [v] l := by
  rw [CF.okWide_slice ht hv] at h; exact h

theorem electionPromises_lift (os : Os) (started : os.Started) (H : Type) (enc : TypeId × Value → H)
    (walk : ∀ (h : Heap) (rep i term vote : Int) (v : Value) (l : List ActT), Rp.actT.slice.R h (Old h) [v] l → CallsH Try.prog 4 #[.int .i64 rep, .int .i64 i, .int .i64 term, .int .i64 vote, v] h fun x h' => x = .bool true ∧ Stp [] h h') :
    ReturnsInHanded {} Try.checked os 4 .any (Rows.electionPromisesSpec.pre6 enc Try.prog Try.f4 Rows.electionPromisesRow.domain false) (Rows.electionPromisesSpec.post enc Try.prog Try.f4 false true false false) := by
  refine returnsInHanded_of_change (C := Try.checked) knob started (by kernel_rfl) Try.func4
    (ChangeSpec.witness6 (enc := enc) (C := Try.checked) false ⟨#[], #[.int .i64 0, .int .i64 0, .int .i64 0, .int .i64 0, .slice none 0 0], []⟩ 8 (by kernel_rfl) (by kernel_rfl) (by kernel_rfl) (by kernel_rfl)) ?_
  intro W base args ds gs before hval0 hW hcnd _
  have hW' := hW
  have hval : ∀ (j : Nat) t v, Try.f4.params[j]? = some t → args[j]? = some v → Value.okWide Try.prog W .any base t v := hval0
  obtain ⟨p, q, hA0, hV, rfl, hfz, hnd⟩ := hW
  have hA : DataW.TrodAll enc Try.prog W 0 (fun _ => true) true Try.f4.params.toList args.toList ds p := hA0
  rw [Try.params4] at hA hval
  obtain ⟨v0, vs0, d0, ds0, p0, q0, e0, rfl, h0, hA⟩ := CF.trodAll_cons hA
  obtain ⟨v1, vs1, d1, ds1, p1, q1, rfl, rfl, h1, hA⟩ := CF.trodAll_cons hA
  obtain ⟨v2, vs2, d2, ds2, p2, q2, rfl, rfl, h2, hA⟩ := CF.trodAll_cons hA
  obtain ⟨v3, vs3, d3, ds3, p3, q3, rfl, rfl, h3, hA⟩ := CF.trodAll_cons hA
  obtain ⟨v4, vs4, d4, ds4, p4, q4, rfl, rfl, h4, hA⟩ := CF.trodAll_cons hA
  obtain ⟨rfl, rfl⟩ := CF.trodAll_end hA
  obtain rfl : args = #[v0, v1, v2, v3, v4] := Array.ext' e0
  obtain ⟨x0, rfl, rfl, rfl, w0⟩ := open_int Try.underlying3 (hval 0 3 v0 rfl rfl) h0
  obtain ⟨x1, rfl, rfl, rfl, w1⟩ := open_int Try.underlying3 (hval 1 3 v1 rfl rfl) h1
  obtain ⟨x2, rfl, rfl, rfl, w2⟩ := open_int Try.underlying3 (hval 2 3 v2 rfl rfl) h2
  obtain ⟨x3, rfl, rfl, rfl, w3⟩ := open_int Try.underlying3 (hval 3 3 v3 rfl rfl) h3
  obtain ⟨l, hl⟩ := (RdT.slice Try.underlying45 (by kernel_rfl) rd51 (by decide)).arg h4
  have hl := sliceArg Try.underlying45 (hval 4 45 v4 rfl rfl) hl
  refine law_contract laid (tb := 4) (by rw [Try.params4]; intro t ht; simp at ht; rcases ht with rfl | rfl <;> exact ⟨by kernel_rfl, of_decide_eq_true (by kernel_rfl)⟩) rfl (by rfl) Try.underlying4 rfl hW' ?_
  exact walk W.heap x0 x1 x2 x3 v4 l hl

theorem electionPromises_of (walk : ∀ (h : Heap) (rep i term vote : Int) (v : Value) (l : List ActT), Rp.actT.slice.R h (Old h) [v] l → CallsH Try.prog 4 #[.int .i64 rep, .int .i64 i, .int .i64 term, .int .i64 vote, v] h fun x h' => x = .bool true ∧ Stp [] h h') :
    Rows.ElectionPromisesSaid :=
  OpenClaim.holds_of_wide (p := Try.pinned) (s := Rows.electionPromisesSpec) (c := Rows.electionPromisesRow) 4 Try.f4 rfl rfl rfl rfl rfl rfl rfl ⟨rfl, rfl, rfl, rfl, rfl⟩ rfl rfl rfl rfl rfl (by kernel_rfl) Try.func4 (by kernel_rfl)
    (of_decide_eq_true (by kernel_rfl)) (by unfold Func.isWrapper; first | (rw [if_pos (by decide +kernel)]; kernel_rfl) | (rw [if_neg (by decide +kernel)]; exact ⟨rfl, rfl⟩))
    (fun os started H enc _ => electionPromises_lift os started H enc walk)
end Go.Proofs.Ytaopehadegknoaa
