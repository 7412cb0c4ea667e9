/- Part 7 of the ground of this proof: what its texts say of the model, the program and the plain data; conditions: those that are named. -/
import Derived.Test.YtmjllbjfkafhdaaGreatDoorCards
import Derived.Test.YtmjllbjfkafhdaaGreatDoorP06
namespace Go.Proofs.YtmjllbjfkafhdaaGreatDoor
open Go Go.CF Go.ChangeShapes Go.WideShapes Go.ChangeAt Go.RowKit
set_option maxRecDepth 100000
theorem snapshotErrors_k1 : false = Rows.snapshotErrorsRow.goesBy Tryz.pinned.checked.prog := by kernel_rfl
end Go.Proofs.YtmjllbjfkafhdaaGreatDoor
