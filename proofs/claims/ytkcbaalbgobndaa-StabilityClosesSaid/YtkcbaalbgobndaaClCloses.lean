/- StabilityCloses returns true for every input and leaves its arguments alone; there are no further conditions. -/
import Derived.Test.YtkcbaalbgobndaaLfCloses
import Derived.Test.YtkcbaalbgobndaaNn
namespace Go.Proofs.Ytkcbaalbgobndaa
open Go Go.CF
theorem stabilityCloses_holds : Rows.StabilityClosesSaid := stabilityCloses_of fun _ _ l _ c hl hc => (closes_p l c).calls ⟨(avEvs.rep hl).t.1, (avInts.rep hc).t.1, trivial⟩
end Go.Proofs.Ytkcbaalbgobndaa
