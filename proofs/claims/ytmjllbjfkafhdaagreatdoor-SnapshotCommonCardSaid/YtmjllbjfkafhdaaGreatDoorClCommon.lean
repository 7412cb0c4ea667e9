/- SnapshotCommon returns true for every input and leaves its arguments alone;there are no further conditions. -/
import Derived.Shelf.SlSortCmp.NoneTotal
import Derived.Lib.AppendZeros
import Derived.Test.YtmjllbjfkafhdaaGreatDoorQ16
namespace Go.Proofs.YtmjllbjfkafhdaaGreatDoor
open Go Go.CF
theorem snapshotCommon_holds : Rows.SnapshotCommonCardSaid:=snapshotCommon_card (snapshotCommon_of fun _ _ x0 _ x1 _ x2 _ x3 h0a h0 h1 h2 h3 ha=>(common53_g x0 x1 x2 x3 (model_upds h0)).calls ⟨avModel.agg h0a h0,(avInts.rep h1).t.1,(avEvs.rep h2).t.1,(avClks.rep h3).t.1,trivial⟩ ha)
end Go.Proofs.YtmjllbjfkafhdaaGreatDoor
