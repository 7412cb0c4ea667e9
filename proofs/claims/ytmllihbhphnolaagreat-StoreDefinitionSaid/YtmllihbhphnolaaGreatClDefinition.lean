/- StoreDefinition returns true for every input and leaves its arguments alone;there are no further conditions. -/
import Derived.OpenShut
import Derived.Shelf.SlSortCmp.NoneTotal
import Derived.Lib.AppendZeros
import Derived.Test.YtmllihbhphnolaaGreatP13
namespace Go.Proofs.YtmllihbhphnolaaGreat
open Go Go.CF
theorem storeDefinition_holds : Rows.StoreDefinitionSaid := storeDefinition_of fun _ _ x0 _ x1 _ x2 _ x3 h0a h0 h1 h2 h3 => (definition35_p x0 x1 x2 x3 (bytes_rng h3)).calls ⟨avModel.agg h0a h0, (avInts.rep h1).t.1, (avEvs.rep h2).t.1, (avBytes.rep h3).t.1, trivial⟩
end Go.Proofs.YtmllihbhphnolaaGreat
