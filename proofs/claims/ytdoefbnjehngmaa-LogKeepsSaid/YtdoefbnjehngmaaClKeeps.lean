/- LogKeeps returns true for every input and leaves its arguments alone; there are no further conditions. -/
import Derived.Test.YtdoefbnjehngmaaLfKeeps
import Derived.Test.YtdoefbnjehngmaaHe
namespace Go.Proofs.Ytdoefbnjehngmaa
open Go Go.CF
theorem logKeeps_holds : Rows.LogKeepsSaid := logKeeps_of fun _ _ _ _ _ _ _ _ _ hb hl => keeps_walk _ _ _ _ _ _ _ hb hl
end Go.Proofs.Ytdoefbnjehngmaa
