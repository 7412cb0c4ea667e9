/- ElectionEnds returns true for every input and leaves its arguments alone; there are no further conditions. -/
import Derived.Test.YtaopehadegknoaaLfC
import Derived.Test.YtaopehadegknoaaEl13
namespace Go.Proofs.Ytaopehadegknoaa
open Go Go.CF
theorem electionEnds_holds : Rows.ElectionEndsSaid := electionEnds_of fun _ _ _ _ _ _ hr hI hL hs hl => ends_walk hr hI hL hs hl
end Go.Proofs.Ytaopehadegknoaa
