/- LogCommits returns true for every input and leaves its arguments alone; there are no further conditions. -/
import Derived.Test.YtdoefbnjehngmaaLfCommits
import Derived.Test.YtdoefbnjehngmaaHh
namespace Go.Proofs.Ytdoefbnjehngmaa
open Go Go.CF
theorem logCommits_holds : Rows.LogCommitsSaid := logCommits_of fun _ _ _ _ _ _ _ _ hx0 hb hml hvs => commits_walk _ _ _ _ _ _ _ _ hx0 hb hml hvs
end Go.Proofs.Ytdoefbnjehngmaa
