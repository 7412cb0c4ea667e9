/- LogLate returns true for every input and leaves its arguments alone; there are no further conditions. -/
import Derived.Test.YtdoefbnjehngmaaLfLate
import Derived.Test.YtdoefbnjehngmaaGw
namespace Go.Proofs.Ytdoefbnjehngmaa
open Go Go.CF
theorem logLate_holds : Rows.LogLateSaid := logLate_of fun _ _ _ _ _ hb ho => late_walk _ _ _ _ _ hb ho
end Go.Proofs.Ytdoefbnjehngmaa
