/- SnapshotErrors returns true for every input and leaves its arguments alone;there are no further conditions. -/
import Derived.Shelf.SlSortCmp.NoneTotal
import Derived.Lib.AppendZeros
import Derived.Test.YtmjllbjfkafhdaaGreatDoorP15
namespace Go.Proofs.YtmjllbjfkafhdaaGreatDoor
open Go Go.CF
theorem snapshotErrors_holds : Rows.SnapshotErrorsCardSaid := snapshotErrors_card (snapshotErrors_of fun _ x0 x1 h0 h1 ha => (errors53_g x0 x1 h0 h1).calls ⟨rfl, rfl, trivial⟩ ha)
end Go.Proofs.YtmjllbjfkafhdaaGreatDoor
