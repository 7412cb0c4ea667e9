/- ElectionPromises returns true for every input and leaves its arguments alone; there are no further conditions. -/
import Derived.Test.YtaopehadegknoaaLfB
import Derived.Test.YtaopehadegknoaaEl10
namespace Go.Proofs.Ytaopehadegknoaa
open Go Go.CF
theorem electionPromises_holds : Rows.ElectionPromisesSaid := electionPromises_of fun _ _ _ _ _ _ _ hs => promises_walk hs
end Go.Proofs.Ytaopehadegknoaa
