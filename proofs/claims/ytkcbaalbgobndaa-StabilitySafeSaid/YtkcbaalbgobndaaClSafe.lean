/- StabilitySafe returns true for every input and leaves its arguments alone; there are no further conditions. -/
import Derived.Test.YtkcbaalbgobndaaLfSafe
import Derived.Test.YtkcbaalbgobndaaNq
namespace Go.Proofs.Ytkcbaalbgobndaa
open Go Go.CF
theorem stabilitySafe_holds : Rows.StabilitySafeSaid := stabilitySafe_of fun _ _ l _ c hl hc => (safe_p l c).calls ⟨(avEvs.rep hl).t.1, (avInts.rep hc).t.1, trivial⟩
end Go.Proofs.Ytkcbaalbgobndaa
