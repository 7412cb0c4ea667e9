/- SyncTakes returns true for every input and leaves its arguments alone;there are no further conditions. -/
import Derived.OpenShut
import Derived.RangeFuncSeq
import Derived.Shelf.SlSortCmp.NoneTotal
import Derived.Lib.AppendZeros
import Derived.Test.YtmllihbhphnolaaGreatT13
namespace Go.Proofs.YtmllihbhphnolaaGreat
open Go Go.CF
theorem syncTakes_holds : Rows.SyncTakesSaid := syncTakes_of fun _ _ x0 x1 _ x2 _ x3 x4 h0a h0 _ h2 h3 h4 => (takes38_p x0 x1 x2 x3 x4 h4).calls ⟨avModel.agg h0a h0, rfl, (avInts.rep h2).t.1, (avEvs.rep h3).t.1, rfl, trivial⟩
end Go.Proofs.YtmllihbhphnolaaGreat
