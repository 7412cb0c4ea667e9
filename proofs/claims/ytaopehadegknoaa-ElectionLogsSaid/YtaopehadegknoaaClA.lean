/- ElectionLogs returns true for every input and leaves its arguments alone; there are no further conditions. -/
import Derived.Test.YtaopehadegknoaaLfA
import Derived.Test.YtaopehadegknoaaEl9
namespace Go.Proofs.Ytaopehadegknoaa
open Go Go.CF
theorem electionLogs_holds : Rows.ElectionLogsSaid := electionLogs_of fun _ _ _ _ hr hs hl => logs_walk hr hs hl
end Go.Proofs.Ytaopehadegknoaa
