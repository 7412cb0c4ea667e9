/- ElectionSafe returns true for every input and leaves its arguments alone; there are no further conditions. -/
import Derived.Test.YtaopehadegknoaaLfD
import Derived.Test.YtaopehadegknoaaEl16
namespace Go.Proofs.Ytaopehadegknoaa
open Go Go.CF
theorem electionSafe_holds : Rows.ElectionSafeSaid := electionSafe_of fun _ _ _ _ _ _ hr hs hl hll hss hsl hsll => safe_walk hr hs hl hll hss hsl hsll
end Go.Proofs.Ytaopehadegknoaa
