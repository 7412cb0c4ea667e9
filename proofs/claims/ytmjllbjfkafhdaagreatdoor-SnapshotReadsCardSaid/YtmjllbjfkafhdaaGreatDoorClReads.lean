/- SnapshotReads returns true for every input and leaves its arguments alone;there are no further conditions. -/
import Derived.Shelf.SlSortCmp.NoneTotal
import Derived.Lib.AppendZeros
import Derived.Test.YtmjllbjfkafhdaaGreatDoorS17
namespace Go.Proofs.YtmjllbjfkafhdaaGreatDoor
open Go Go.CF
theorem snapshotReads_holds:Rows.SnapshotReadsCardSaid:=z0R (z0S λ_ _ x0 x1 _ x2 _ x3 _ x4 _ x5 _ x6 _ x7 h0a h0 _ h2 h3 h4 h5 h6 h7 ha=>(z14 x0 x1 x2 x3 x4 x5 x6 x7 (aP h0) (Wx h4)).calls ⟨Pv.agg h0a h0,rfl,(rO.rep h2).t.1,(Dw.rep h3).t.1,(Px.rep h4).t.1,(rO.rep h5).t.1,(rO.rep h6).t.1,(z1a.rep h7).t.1,trivial⟩ ha)
end Go.Proofs.YtmjllbjfkafhdaaGreatDoor
