/- StabilityTakes returns true for every input and leaves its arguments alone; there are no further conditions. -/
import Derived.Test.YtaopehadegknoaaLfTakes
import Derived.Test.YtaopehadegknoaaKn8
namespace Go.Proofs.Ytaopehadegknoaa
open Go Go.CF
theorem stabilityTakes_holds : Rows.StabilityTakesSaid := stabilityTakes_of fun _ _ _ _ _ _ _ hl hm => takes_walk hl hm
end Go.Proofs.Ytaopehadegknoaa
