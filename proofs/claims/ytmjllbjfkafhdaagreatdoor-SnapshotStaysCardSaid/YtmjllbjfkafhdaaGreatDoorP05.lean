/- Part 5 of the ground of this proof: what its texts say of the model, the program and the plain data; conditions: those that are named. -/
import Derived.Test.YtmjllbjfkafhdaaGreatDoorP04
namespace Go.Proofs.YtmjllbjfkafhdaaGreatDoor
open Go Go.CF Go.ChangeShapes Go.WideShapes Go.ChangeAt Go.RowKit
theorem snapshotStays_j1 : (Rows.snapshotStaysRow.inPlace == Tryz.pinned.checked.prog.inPlace 5)=true:=by kernel_rfl
theorem snapshotStays_j2 : (Rows.snapshotStaysRow.unfollowed == Tryz.pinned.checked.prog.unfollowed 5)=true:=by kernel_rfl
theorem snapshotStays_j3 : (Rows.snapshotStaysRow.recurses == Tryz.pinned.checked.prog.recurses 5)=true:=by kernel_rfl
theorem snapshotStays_j4 : (Rows.snapshotStaysRow.named == Tryz.pinned.checked.prog.varsNamed 5)=true:=by kernel_rfl
theorem snapshotStays_joined : joinedFacts Tryz.pinned.checked.prog 5 Tryz.f5 Rows.snapshotStaysSpec Rows.snapshotStaysRow=true:=by
 unfold joinedFacts
 rw [snapshotStays_j1,snapshotStays_j2,snapshotStays_j3,snapshotStays_j4]
 kernel_rfl
end Go.Proofs.YtmjllbjfkafhdaaGreatDoor
set_option maxRecDepth 100000
set_option maxHeartbeats 80000000
