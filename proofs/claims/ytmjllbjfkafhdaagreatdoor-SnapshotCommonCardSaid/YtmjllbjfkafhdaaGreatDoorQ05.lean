/- Part 5 of the ground of this proof: what its texts say of the model, the program and the plain data; conditions: those that are named. -/
import Derived.Test.YtmjllbjfkafhdaaGreatDoorQ04
namespace Go.Proofs.YtmjllbjfkafhdaaGreatDoor
open Go Go.CF Go.ChangeShapes Go.WideShapes Go.ChangeAt Go.RowKit
theorem snapshotCommon_j1 : (Rows.snapshotCommonRow.inPlace == Tryz.pinned.checked.prog.inPlace 6)=true:=by kernel_rfl
theorem snapshotCommon_j2 : (Rows.snapshotCommonRow.unfollowed == Tryz.pinned.checked.prog.unfollowed 6)=true:=by kernel_rfl
theorem snapshotCommon_j3 : (Rows.snapshotCommonRow.recurses == Tryz.pinned.checked.prog.recurses 6)=true:=by kernel_rfl
theorem snapshotCommon_j4 : (Rows.snapshotCommonRow.named == Tryz.pinned.checked.prog.varsNamed 6)=true:=by kernel_rfl
theorem snapshotCommon_joined : joinedFacts Tryz.pinned.checked.prog 6 Tryz.f6 Rows.snapshotCommonSpec Rows.snapshotCommonRow=true:=by
 unfold joinedFacts
 rw [snapshotCommon_j1,snapshotCommon_j2,snapshotCommon_j3,snapshotCommon_j4]
 kernel_rfl
end Go.Proofs.YtmjllbjfkafhdaaGreatDoor
set_option maxRecDepth 100000
set_option maxHeartbeats 80000000
