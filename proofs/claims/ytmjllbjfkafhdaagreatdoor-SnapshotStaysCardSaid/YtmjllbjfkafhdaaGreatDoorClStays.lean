/- SnapshotStays returns true for every input and leaves its arguments alone;there are no further conditions. -/
import Derived.Shelf.SlSortCmp.NoneTotal
import Derived.Lib.AppendZeros
import Derived.Test.YtmjllbjfkafhdaaGreatDoorP16
namespace Go.Proofs.YtmjllbjfkafhdaaGreatDoor
open Go Go.CF
theorem snapshotStays_holds : Rows.SnapshotStaysCardSaid:=snapshotStays_card (snapshotStays_of fun _ _ x0 _ x1 _ x2 _ x3 x4 h0a h0 h1 h2 h3 h4 ha=>(stays53_g x0 x1 x2 x3 x4 (model_upds h0) (bytes_rng h3) h4).calls ⟨avModel.agg h0a h0,(avInts.rep h1).t.1,(avEvs.rep h2).t.1,(avBytes.rep h3).t.1,rfl,trivial⟩ ha)
end Go.Proofs.YtmjllbjfkafhdaaGreatDoor
