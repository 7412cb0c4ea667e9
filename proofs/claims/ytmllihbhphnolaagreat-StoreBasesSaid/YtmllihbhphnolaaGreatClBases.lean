/- StoreBases returns true for every input and leaves its arguments alone;there are no further conditions. -/
import Derived.OpenShut
import Derived.Shelf.SlSortCmp.NoneTotal
import Derived.Lib.AppendZeros
import Derived.Test.YtmllihbhphnolaaGreatP14
namespace Go.Proofs.YtmllihbhphnolaaGreat
open Go Go.CF
theorem storeBases_holds : Rows.StoreBasesSaid := storeBases_of fun _ _ x0 _ x1 _ x2 _ x3 h0a h0 h1a h1 h2 h3 => (bases35_p x0 ⟨x1.1, x1.2.1, x1.2.2.1, x1.2.2.2.1, x1.2.2.2.2.2.2.1⟩ (.sl 1 x1.2.2.2.2.1 fun l => [ints l]) (.sl 1 x1.2.2.2.2.2.1 fun l => [.sl 1 l fun l => [ints l]]) x2 x3).calls ⟨avModel.agg h0a h0, avBase.agg h1a h1, (avEvs.rep h2).t.1, (avInts.rep h3).t.1, trivial⟩
end Go.Proofs.YtmllihbhphnolaaGreat
