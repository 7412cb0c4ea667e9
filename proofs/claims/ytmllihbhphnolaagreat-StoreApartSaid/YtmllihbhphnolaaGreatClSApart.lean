/- StoreApart returns true for every input and leaves its arguments alone;there are no further conditions. -/
import Derived.OpenShut
import Derived.Shelf.SlSortCmp.NoneTotal
import Derived.Lib.AppendZeros
import Derived.Test.YtmllihbhphnolaaGreatP12
namespace Go.Proofs.YtmllihbhphnolaaGreat
open Go Go.CF
theorem storeApart_holds : Rows.StoreApartSaid := storeApart_of fun _ _ x0 _ x1 _ x2 _ x3 _ x4 h0a h0 h1 h2 h3a h3 h4 => (apart35_p x0 x1 x2 x3 x4).calls ⟨avModel.agg h0a h0, (avInts.rep h1).t.1, (avEvs.rep h2).t.1, avEvent.agg h3a h3, (avInts.rep h4).t.1, trivial⟩
end Go.Proofs.YtmllihbhphnolaaGreat
