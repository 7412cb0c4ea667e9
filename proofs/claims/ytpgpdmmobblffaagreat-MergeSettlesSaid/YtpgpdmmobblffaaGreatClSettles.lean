/- MergeSettles returns true for every input and leaves its arguments alone; there are no further conditions. -/
import Derived.OpenShut
import Derived.Laws.ResultCell
import Derived.Shelf.SlSortCmp.NoneTotal
import Derived.Lib.AppendZeros
import Derived.Test.YtpgpdmmobblffaaGreatP11
namespace Go.Proofs.YtpgpdmmobblffaaGreat
open Go Go.CF
theorem mergeSettles_holds : Rows.MergeSettlesSaid := mergeSettles_of fun _ _ x0 _ x1 _ x2 h0a h0 h1 h2 => (settles34_p x0 x1 x2).calls ⟨avModel.agg h0a h0, (avEvs.rep h1).t.1, (avInts.rep h2).t.1, trivial⟩
end Go.Proofs.YtpgpdmmobblffaaGreat
