/- StabilityGrows returns true for every input and leaves its arguments alone; there are no further conditions. -/
import Derived.Test.YtaopehadegknoaaLfGrows
import Derived.Test.YtaopehadegknoaaKn9
namespace Go.Proofs.Ytaopehadegknoaa
open Go Go.CF
theorem stabilityGrows_holds : Rows.StabilityGrowsSaid := stabilityGrows_of fun _ _ _ _ _ hl => grows_walk hl
end Go.Proofs.Ytaopehadegknoaa
