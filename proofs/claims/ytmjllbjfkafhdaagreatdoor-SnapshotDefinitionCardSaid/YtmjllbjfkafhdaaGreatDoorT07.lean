/- Part 7 of the ground of this proof: what its texts say of the model, the program and the plain data; conditions: those that are named. -/
import Derived.Test.YtmjllbjfkafhdaaGreatDoorCards
import Derived.Test.YtmjllbjfkafhdaaGreatDoorT06
namespace Go.Proofs.YtmjllbjfkafhdaaGreatDoor
open Go Go.CF Go.ChangeShapes Go.WideShapes Go.ChangeAt Go.RowKit
theorem z1g:false=Rows.snapshotDefinitionRow.goesBy Tryz.pinned.checked.prog:=by kernel_rfl
end Go.Proofs.YtmjllbjfkafhdaaGreatDoor
set_option maxRecDepth 100000
set_option maxHeartbeats 80000000
