/- SyncArgs returns true for every input and leaves its arguments alone;there are no further conditions. -/
import Derived.OpenShut
import Derived.RangeFuncSeq
import Derived.Shelf.SlSortCmp.NoneTotal
import Derived.Lib.AppendZeros
import Derived.Test.YtmllihbhphnolaaGreatP13
namespace Go.Proofs.YtmllihbhphnolaaGreat
open Go Go.CF
theorem syncArgs_holds : Rows.SyncArgsSaid := syncArgs_of fun _ _ x0 _ x1 x2 x3 x4 h0a h0 h1 h2 h3 _ => (args38_p x0 x1 x2 x3 x4 h2 h3).calls ⟨avModel.agg h0a h0, (avInts.rep h1).t.1, rfl, rfl, rfl, trivial⟩
end Go.Proofs.YtmllihbhphnolaaGreat
