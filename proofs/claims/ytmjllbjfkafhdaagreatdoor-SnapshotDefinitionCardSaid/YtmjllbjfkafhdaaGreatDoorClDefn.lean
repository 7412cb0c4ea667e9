/- SnapshotDefinition returns true for every input and leaves its arguments alone;there are no further conditions. -/
import Derived.Shelf.SlSortCmp.NoneTotal
import Derived.Lib.AppendZeros
import Derived.Test.YtmjllbjfkafhdaaGreatDoorT17
namespace Go.Proofs.YtmjllbjfkafhdaaGreatDoor
open Go Go.CF
theorem snapshotDefinition_holds:Rows.SnapshotDefinitionCardSaid:=gp (b9 λ_ _ x0 _ x1 _ x2 _ x3 _ x4 _ x5 h0a h0 h1 h2 h3 h4 h5 ha=>(z1z x0 x1 x2 x3 x4 x5 (aP h0) (Wx h3)).calls ⟨Pv.agg h0a h0,(rO.rep h1).t.1,(Dw.rep h2).t.1,(Px.rep h3).t.1,(rO.rep h4).t.1,(rO.rep h5).t.1,trivial⟩ ha)
end Go.Proofs.YtmjllbjfkafhdaaGreatDoor
