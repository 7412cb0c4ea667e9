/- StabilityCalls returns true for every input and leaves its arguments alone; there are no further conditions. -/
import Derived.Test.YtaopehadegknoaaLfCalls
import Derived.Test.YtaopehadegknoaaRm
namespace Go.Proofs.Ytaopehadegknoaa
open Go Go.CF
theorem stabilityCalls_holds : Rows.StabilityCallsSaid := stabilityCalls_of fun _ _ _ _ _ _ _ hl hc => calls_walk hl hc
end Go.Proofs.Ytaopehadegknoaa
