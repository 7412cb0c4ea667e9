/- Part 5 of the ground of this proof: what its texts say of the model, the program and the plain data; conditions: those that are named. -/
import Derived.Test.YtmjllbjfkafhdaaGreatDoorT04
namespace Go.Proofs.YtmjllbjfkafhdaaGreatDoor
open Go Go.CF Go.ChangeShapes Go.WideShapes Go.ChangeAt Go.RowKit
theorem z1m:(Rows.snapshotDefinitionRow.inPlace == Tryz.pinned.checked.prog.inPlace 4)=true:=by kernel_rfl
theorem z1l:(Rows.snapshotDefinitionRow.unfollowed == Tryz.pinned.checked.prog.unfollowed 4)=true:=by kernel_rfl
theorem z1k:(Rows.snapshotDefinitionRow.recurses == Tryz.pinned.checked.prog.recurses 4)=true:=by kernel_rfl
theorem z1h:(Rows.snapshotDefinitionRow.named == Tryz.pinned.checked.prog.varsNamed 4)=true:=by kernel_rfl
theorem p7:joinedFacts Tryz.pinned.checked.prog 4 Tryz.f4 Rows.snapshotDefinitionSpec Rows.snapshotDefinitionRow=true:=by
 unfold joinedFacts
 rw [z1m,z1l,z1k,z1h]
 kernel_rfl
end Go.Proofs.YtmjllbjfkafhdaaGreatDoor
set_option maxRecDepth 100000
set_option maxHeartbeats 80000000
