/- What every lift needs: the program's facts and the arguments that are slices; condition: the arguments are read. -/
import Derived.Test.YtkcbaalbgobndaaEngF
import Derived.Test.YtkcbaalbgobndaaEngH
import Derived.Test.YtkcbaalbgobndaaRdn
import Derived.Test.YtkcbaalbgobndaaRows
namespace Go.Proofs.Ytkcbaalbgobndaa
open Go Go.CF Go.ChangeShapes Go.WideShapes Go.ChangeAt Go.RowKit
set_option maxRecDepth 100000

theorem knob : ownKnob Try.prog.godebug = none := by kernel_rfl
theorem laid : laidOutB Try.prog = true := by kernel_rfl
theorem sliceArg {W : World} {r : Reach} {b : Nat} {t e : TypeId} {v : Value} {α : Type} {R : Rp α} {l : List α} (ht : Try.prog.underlying t = some (.slice e)) (hv : Value.okWide Try.prog W r b t v) (h : R.slice.R W.heap (Old W.heap) v.cells.toList l) : R.slice.R W.heap (Old W.heap) [v] l := by
  rw [CF.okWide_slice ht hv] at h; exact h
end Go.Proofs.Ytkcbaalbgobndaa
