/- MembershipRecovers returns true for every input and leaves its arguments alone;there are no further conditions. -/
import Derived.OpenShut
import Derived.Laws.CopyRow
import Derived.Lib.Overlaps
import Derived.Lib.AppendZeros
import Derived.Laws.Externs
import Derived.Test.YthlpimbhonihhaaR11
namespace Go.Proofs.Ythlpimbhonihhaa
open Go Go.CF
theorem membershipRecovers_holds : Rows.MembershipRecoversSaid:=membershipRecovers_of fun _ x0 _ x1 h0 h1=>(recovers_p x0 x1 h0 (words_rng h1)).calls ⟨rfl,(avWords.rep h1).t.1,trivial⟩
end Go.Proofs.Ythlpimbhonihhaa
