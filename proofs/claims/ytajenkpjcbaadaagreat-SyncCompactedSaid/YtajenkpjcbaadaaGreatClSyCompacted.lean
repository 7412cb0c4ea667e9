/- SyncCompacted returns true for every input and leaves its arguments alone;there are no further conditions. -/
import Derived.OpenShut
import Derived.Laws.ResultCell
import Derived.Shelf.SlSortCmp.NoneTotal
import Derived.Lib.AppendZeros
import Derived.Test.YtajenkpjcbaadaaGreatD14
namespace Go.Proofs.YtajenkpjcbaadaaGreat
open Go Go.CF
theorem syncCompacted_holds : Rows.SyncCompactedSaid := syncCompacted_of fun _ _ x0 _ x1 _ x2 _ x3 _ x4 x5 h0a h0 h1 h2 h3 h4 _ => (compacted38_p x0 x1 x2 x3 x4 x5).calls ⟨avModel.agg h0a h0, (avInts.rep h1).t.1, (avEvs.rep h2).t.1, (avInts.rep h3).t.1, (avInts.rep h4).t.1, rfl, trivial⟩
end Go.Proofs.YtajenkpjcbaadaaGreat
