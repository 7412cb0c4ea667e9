/- Part 5 of the ground of this proof: what its texts say of the model, the program and the plain data; conditions: those that are named. -/
import Derived.Test.YtmjllbjfkafhdaaGreatDoorS04
namespace Go.Proofs.YtmjllbjfkafhdaaGreatDoor
open Go Go.CF Go.ChangeShapes Go.WideShapes Go.ChangeAt Go.RowKit
theorem z0_:(Rows.snapshotReadsRow.inPlace == Tryz.pinned.checked.prog.inPlace 3)=true:=by kernel_rfl
theorem z0Z:(Rows.snapshotReadsRow.unfollowed == Tryz.pinned.checked.prog.unfollowed 3)=true:=by kernel_rfl
theorem z0Y:(Rows.snapshotReadsRow.recurses == Tryz.pinned.checked.prog.recurses 3)=true:=by kernel_rfl
theorem z0X:(Rows.snapshotReadsRow.named == Tryz.pinned.checked.prog.varsNamed 3)=true:=by kernel_rfl
theorem z0P:joinedFacts Tryz.pinned.checked.prog 3 Tryz.f3 Rows.snapshotReadsSpec Rows.snapshotReadsRow=true:=by
 unfold joinedFacts
 rw [z0_,z0Z,z0Y,z0X]
 kernel_rfl
end Go.Proofs.YtmjllbjfkafhdaaGreatDoor
set_option maxRecDepth 100000
set_option maxHeartbeats 80000000
