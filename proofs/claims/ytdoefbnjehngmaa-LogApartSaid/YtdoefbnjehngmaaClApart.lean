/- LogApart returns true for every input and leaves its arguments alone; there are no further conditions. -/
import Derived.Test.YtdoefbnjehngmaaLfApart
import Derived.Test.YtdoefbnjehngmaaHc
namespace Go.Proofs.Ytdoefbnjehngmaa
open Go Go.CF
theorem logApart_holds : Rows.LogApartSaid := logApart_of fun _ _ _ hb => apart_walk _ _ _ hb
end Go.Proofs.Ytdoefbnjehngmaa
