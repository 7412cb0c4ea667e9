/- Part 5 of the ground of this proof: what its texts say of the model, the program and the plain data; conditions: those that are named. -/
import Derived.Test.YtmjllbjfkafhdaaGreatDoorP04
namespace Go.Proofs.YtmjllbjfkafhdaaGreatDoor
open Go Go.CF Go.ChangeShapes Go.WideShapes Go.ChangeAt Go.RowKit
set_option maxRecDepth 100000
theorem snapshotErrors_j1 : (Rows.snapshotErrorsRow.inPlace == Tryz.pinned.checked.prog.inPlace 7) = true := by kernel_rfl
theorem snapshotErrors_j2 : (Rows.snapshotErrorsRow.unfollowed == Tryz.pinned.checked.prog.unfollowed 7) = true := by kernel_rfl
theorem snapshotErrors_j3 : (Rows.snapshotErrorsRow.recurses == Tryz.pinned.checked.prog.recurses 7) = true := by kernel_rfl
theorem snapshotErrors_j4 : (Rows.snapshotErrorsRow.named == Tryz.pinned.checked.prog.varsNamed 7) = true := by kernel_rfl
theorem snapshotErrors_joined : joinedFacts Tryz.pinned.checked.prog 7 Tryz.f7 Rows.snapshotErrorsSpec Rows.snapshotErrorsRow = true := by
 unfold joinedFacts
 rw [snapshotErrors_j1, snapshotErrors_j2, snapshotErrors_j3, snapshotErrors_j4]
 kernel_rfl
end Go.Proofs.YtmjllbjfkafhdaaGreatDoor
