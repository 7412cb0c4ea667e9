/- Part 5 of the ground of this proof: what its texts say of the model, the program and the plain data; conditions: those that are named. -/
import Derived.Test.YtmjllbjfkafhdaaGreatDoorR04
namespace Go.Proofs.YtmjllbjfkafhdaaGreatDoor
open Go Go.CF Go.ChangeShapes Go.WideShapes Go.ChangeAt Go.RowKit
theorem oJ:(Rows.snapshotChangesRow.inPlace == Tryz.pinned.checked.prog.inPlace 8)=true:=by kernel_rfl
theorem oI:(Rows.snapshotChangesRow.unfollowed == Tryz.pinned.checked.prog.unfollowed 8)=true:=by kernel_rfl
theorem oH:(Rows.snapshotChangesRow.recurses == Tryz.pinned.checked.prog.recurses 8)=true:=by kernel_rfl
theorem oG:(Rows.snapshotChangesRow.named == Tryz.pinned.checked.prog.varsNamed 8)=true:=by kernel_rfl
theorem rX:joinedFacts Tryz.pinned.checked.prog 8 Tryz.f8 Rows.snapshotChangesSpec Rows.snapshotChangesRow=true:=by
 unfold joinedFacts
 rw [oJ,oI,oH,oG]
 kernel_rfl
end Go.Proofs.YtmjllbjfkafhdaaGreatDoor
set_option maxRecDepth 100000
set_option maxHeartbeats 80000000
