/-
  No cell of these rows narrows 'for every input' (looked for: loops, veiled, ifaces, maps, wideKeys, modest, calm, conditions, laid).
  DERIVED. THE GIVEN ROWS OF THIS SEAT. 10 by the template 'for every input the law returns true; each argument reads behind the call as it read before'; 0 by the template 'total and deterministic' (their statements: YtmllihbhphnolaaGreatTotals.lean).
  GIVEN WITH THE SEED: the statements are not yours to turn. If you find one false, say at which input.
  Laid BY PROGRAM, IN A SANDBOX (cutbox-rows.mjs): the forced cells as the released guide's own fill.sh prints them over the translation cfd776d23ca6f415… (all of the seat's roots in one cut). By AI agents, Wed Nov 11 2026. No macro, syntax, notation, axiom, sorry.
-/
import Derived.Test.YtmllihbhphnolaaGreatChecked
import GoSem.Claim
import GoSem.ClaimJoined
import GoSem.ClaimMapViews
import Derived.JoinedTies
import Derived.KernelRfl
namespace Go.Proofs.YtmllihbhphnolaaGreat
/- THE CELL 'sum', in the pinned program and in every row, IS THE sha256 OF THE DUMP (.gsa) THAT YtmllihbhphnolaaGreatProg.lean LOADS. Nothing in Lean hashes anything: it is a label: what it is worth is what the hold of that sum in a sandbox is worth. -/
noncomputable def Tryz.pinned : Pinned := { name := "ytmllihbhphnolaagreat", sum := "cfd776d23ca6f41533a87dae7da31f2563689221e83e05dcdebb7cad903d1c94", checked := Tryz.checked }
namespace Rows
def none {H : Type} : Left H := { results := [], args := [] }

/-- 'confluentlaw35.StoreMakes': WHATEVER THE INPUT: true; the input reads as it did. -/
def storeMakesSpec : ChangeSpec := { name := "storeMakes", fn := fun _ => fun
  | [d1, d2, d3, d4, d5] => { results := [.lit (.bool true)], args := [d1, d2, d3, d4, d5] }
  | _ => none }
def storeMakesRow : OpenClaim := { program := "ytmllihbhphnolaagreat", sum := "cfd776d23ca6f41533a87dae7da31f2563689221e83e05dcdebb7cad903d1c94", func := "confluent/confluentlaw35.StoreMakes", spec := "storeMakes", inPlace := ["slices.overlaps[confluent/api.Mark]", "slices.overlaps[int]"], unfollowed := true, recurses := true, plainKeys := false, apart := false }
def StoreMakesSaid : Prop := storeMakesRow.holds Tryz.pinned (OpenSpec.ofChange storeMakesSpec)

/-- ITS FALSE NEIGHBOUR: 'it returns false'. Refute it at one input. -/
def storeMakesWrong : ChangeSpec := { name := "storeMakes", fn := fun _ => fun
  | [d1, d2, d3, d4, d5] => { results := [.lit (.bool false)], args := [d1, d2, d3, d4, d5] }
  | _ => none }
def StoreMakesWrongFalsely : Prop := storeMakesRow.holds Tryz.pinned (OpenSpec.ofChange storeMakesWrong)

/-- 'confluentlaw38.SyncArgs': WHATEVER THE INPUT: true; the input reads as it did. -/
def syncArgsSpec : ChangeSpec := { name := "syncArgs", fn := fun _ => fun
  | [d1, d2, d3, d4, d5] => { results := [.lit (.bool true)], args := [d1, d2, d3, d4, d5] }
  | _ => none }
def syncArgsRow : OpenClaim := { program := "ytmllihbhphnolaagreat", sum := "cfd776d23ca6f41533a87dae7da31f2563689221e83e05dcdebb7cad903d1c94", func := "confluent/confluentlaw38.SyncArgs", spec := "syncArgs", inPlace := ["slices.overlaps[confluent/api.Mark]", "slices.overlaps[int]"], unfollowed := true, recurses := true, plainKeys := false, apart := false }
def SyncArgsSaid : Prop := syncArgsRow.holds Tryz.pinned (OpenSpec.ofChange syncArgsSpec)

/-- ITS FALSE NEIGHBOUR: 'it returns false'. Refute it at one input. -/
def syncArgsWrong : ChangeSpec := { name := "syncArgs", fn := fun _ => fun
  | [d1, d2, d3, d4, d5] => { results := [.lit (.bool false)], args := [d1, d2, d3, d4, d5] }
  | _ => none }
def SyncArgsWrongFalsely : Prop := syncArgsRow.holds Tryz.pinned (OpenSpec.ofChange syncArgsWrong)

/-- 'confluentlaw38.SyncTakes': WHATEVER THE INPUT: true; the input reads as it did. -/
def syncTakesSpec : ChangeSpec := { name := "syncTakes", fn := fun _ => fun
  | [d1, d2, d3, d4, d5] => { results := [.lit (.bool true)], args := [d1, d2, d3, d4, d5] }
  | _ => none }
def syncTakesRow : OpenClaim := { program := "ytmllihbhphnolaagreat", sum := "cfd776d23ca6f41533a87dae7da31f2563689221e83e05dcdebb7cad903d1c94", func := "confluent/confluentlaw38.SyncTakes", spec := "syncTakes", inPlace := ["slices.overlaps[confluent/api.Mark]", "slices.overlaps[int]"], unfollowed := true, recurses := true, plainKeys := false, apart := false }
def SyncTakesSaid : Prop := syncTakesRow.holds Tryz.pinned (OpenSpec.ofChange syncTakesSpec)

/-- ITS FALSE NEIGHBOUR: 'it returns false'. Refute it at one input. -/
def syncTakesWrong : ChangeSpec := { name := "syncTakes", fn := fun _ => fun
  | [d1, d2, d3, d4, d5] => { results := [.lit (.bool false)], args := [d1, d2, d3, d4, d5] }
  | _ => none }
def SyncTakesWrongFalsely : Prop := syncTakesRow.holds Tryz.pinned (OpenSpec.ofChange syncTakesWrong)

/-- 'confluentlaw38.SyncHeld': WHATEVER THE INPUT: true; the input reads as it did. -/
def syncHeldSpec : ChangeSpec := { name := "syncHeld", fn := fun _ => fun
  | [d1, d2, d3, d4, d5, d6] => { results := [.lit (.bool true)], args := [d1, d2, d3, d4, d5, d6] }
  | _ => none }
def syncHeldRow : OpenClaim := { program := "ytmllihbhphnolaagreat", sum := "cfd776d23ca6f41533a87dae7da31f2563689221e83e05dcdebb7cad903d1c94", func := "confluent/confluentlaw38.SyncHeld", spec := "syncHeld", inPlace := ["slices.overlaps[confluent/api.Mark]", "slices.overlaps[int]"], unfollowed := true, recurses := true, plainKeys := false, apart := false }
def SyncHeldSaid : Prop := syncHeldRow.holds Tryz.pinned (OpenSpec.ofChange syncHeldSpec)

/-- ITS FALSE NEIGHBOUR: 'it returns false'. Refute it at one input. -/
def syncHeldWrong : ChangeSpec := { name := "syncHeld", fn := fun _ => fun
  | [d1, d2, d3, d4, d5, d6] => { results := [.lit (.bool false)], args := [d1, d2, d3, d4, d5, d6] }
  | _ => none }
def SyncHeldWrongFalsely : Prop := syncHeldRow.holds Tryz.pinned (OpenSpec.ofChange syncHeldWrong)

/-- 'confluentlaw35.StoreBases': WHATEVER THE INPUT: true; the input reads as it did. -/
def storeBasesSpec : ChangeSpec := { name := "storeBases", fn := fun _ => fun
  | [d1, d2, d3, d4] => { results := [.lit (.bool true)], args := [d1, d2, d3, d4] }
  | _ => none }
def storeBasesRow : OpenClaim := { program := "ytmllihbhphnolaagreat", sum := "cfd776d23ca6f41533a87dae7da31f2563689221e83e05dcdebb7cad903d1c94", func := "confluent/confluentlaw35.StoreBases", spec := "storeBases", inPlace := ["slices.overlaps[confluent/api.Mark]", "slices.overlaps[int]"], unfollowed := true, recurses := true, plainKeys := false, apart := false }
def StoreBasesSaid : Prop := storeBasesRow.holds Tryz.pinned (OpenSpec.ofChange storeBasesSpec)

/-- ITS FALSE NEIGHBOUR: 'it returns false'. Refute it at one input. -/
def storeBasesWrong : ChangeSpec := { name := "storeBases", fn := fun _ => fun
  | [d1, d2, d3, d4] => { results := [.lit (.bool false)], args := [d1, d2, d3, d4] }
  | _ => none }
def StoreBasesWrongFalsely : Prop := storeBasesRow.holds Tryz.pinned (OpenSpec.ofChange storeBasesWrong)

/-- 'confluentlaw35.StoreApart': WHATEVER THE INPUT: true; the input reads as it did. -/
def storeApartSpec : ChangeSpec := { name := "storeApart", fn := fun _ => fun
  | [d1, d2, d3, d4, d5] => { results := [.lit (.bool true)], args := [d1, d2, d3, d4, d5] }
  | _ => none }
def storeApartRow : OpenClaim := { program := "ytmllihbhphnolaagreat", sum := "cfd776d23ca6f41533a87dae7da31f2563689221e83e05dcdebb7cad903d1c94", func := "confluent/confluentlaw35.StoreApart", spec := "storeApart", inPlace := ["slices.overlaps[confluent/api.Mark]", "slices.overlaps[int]"], unfollowed := true, recurses := true, plainKeys := false, apart := false }
def StoreApartSaid : Prop := storeApartRow.holds Tryz.pinned (OpenSpec.ofChange storeApartSpec)

/-- ITS FALSE NEIGHBOUR: 'it returns false'. Refute it at one input. -/
def storeApartWrong : ChangeSpec := { name := "storeApart", fn := fun _ => fun
  | [d1, d2, d3, d4, d5] => { results := [.lit (.bool false)], args := [d1, d2, d3, d4, d5] }
  | _ => none }
def StoreApartWrongFalsely : Prop := storeApartRow.holds Tryz.pinned (OpenSpec.ofChange storeApartWrong)

/-- 'confluentlaw35.StoreDefinition': WHATEVER THE INPUT: true; the input reads as it did. -/
def storeDefinitionSpec : ChangeSpec := { name := "storeDefinition", fn := fun _ => fun
  | [d1, d2, d3, d4] => { results := [.lit (.bool true)], args := [d1, d2, d3, d4] }
  | _ => none }
def storeDefinitionRow : OpenClaim := { program := "ytmllihbhphnolaagreat", sum := "cfd776d23ca6f41533a87dae7da31f2563689221e83e05dcdebb7cad903d1c94", func := "confluent/confluentlaw35.StoreDefinition", spec := "storeDefinition", inPlace := ["slices.overlaps[confluent/api.Mark]", "slices.overlaps[int]"], unfollowed := true, recurses := true, plainKeys := false, apart := false }
def StoreDefinitionSaid : Prop := storeDefinitionRow.holds Tryz.pinned (OpenSpec.ofChange storeDefinitionSpec)

/-- ITS FALSE NEIGHBOUR: 'it returns false'. Refute it at one input. -/
def storeDefinitionWrong : ChangeSpec := { name := "storeDefinition", fn := fun _ => fun
  | [d1, d2, d3, d4] => { results := [.lit (.bool false)], args := [d1, d2, d3, d4] }
  | _ => none }
def StoreDefinitionWrongFalsely : Prop := storeDefinitionRow.holds Tryz.pinned (OpenSpec.ofChange storeDefinitionWrong)

/-- 'confluentlaw35.StoreCompacts': WHATEVER THE INPUT: true; the input reads as it did. -/
def storeCompactsSpec : ChangeSpec := { name := "storeCompacts", fn := fun _ => fun
  | [d1, d2, d3, d4, d5] => { results := [.lit (.bool true)], args := [d1, d2, d3, d4, d5] }
  | _ => none }
def storeCompactsRow : OpenClaim := { program := "ytmllihbhphnolaagreat", sum := "cfd776d23ca6f41533a87dae7da31f2563689221e83e05dcdebb7cad903d1c94", func := "confluent/confluentlaw35.StoreCompacts", spec := "storeCompacts", inPlace := ["slices.overlaps[confluent/api.Mark]", "slices.overlaps[int]"], unfollowed := true, recurses := true, plainKeys := false, apart := false }
def StoreCompactsSaid : Prop := storeCompactsRow.holds Tryz.pinned (OpenSpec.ofChange storeCompactsSpec)

/-- ITS FALSE NEIGHBOUR: 'it returns false'. Refute it at one input. -/
def storeCompactsWrong : ChangeSpec := { name := "storeCompacts", fn := fun _ => fun
  | [d1, d2, d3, d4, d5] => { results := [.lit (.bool false)], args := [d1, d2, d3, d4, d5] }
  | _ => none }
def StoreCompactsWrongFalsely : Prop := storeCompactsRow.holds Tryz.pinned (OpenSpec.ofChange storeCompactsWrong)

/-- 'confluentlaw38.SyncCompletes': WHATEVER THE INPUT: true; the input reads as it did. -/
def syncCompletesSpec : ChangeSpec := { name := "syncCompletes", fn := fun _ => fun
  | [d1, d2, d3, d4, d5, d6] => { results := [.lit (.bool true)], args := [d1, d2, d3, d4, d5, d6] }
  | _ => none }
def syncCompletesRow : OpenClaim := { program := "ytmllihbhphnolaagreat", sum := "cfd776d23ca6f41533a87dae7da31f2563689221e83e05dcdebb7cad903d1c94", func := "confluent/confluentlaw38.SyncCompletes", spec := "syncCompletes", inPlace := ["slices.overlaps[confluent/api.Mark]", "slices.overlaps[int]"], unfollowed := true, recurses := true, plainKeys := false, apart := false }
def SyncCompletesSaid : Prop := syncCompletesRow.holds Tryz.pinned (OpenSpec.ofChange syncCompletesSpec)

/-- ITS FALSE NEIGHBOUR: 'it returns false'. Refute it at one input. -/
def syncCompletesWrong : ChangeSpec := { name := "syncCompletes", fn := fun _ => fun
  | [d1, d2, d3, d4, d5, d6] => { results := [.lit (.bool false)], args := [d1, d2, d3, d4, d5, d6] }
  | _ => none }
def SyncCompletesWrongFalsely : Prop := syncCompletesRow.holds Tryz.pinned (OpenSpec.ofChange syncCompletesWrong)

/-- 'confluentlaw38.SyncCompacted': WHATEVER THE INPUT: true; the input reads as it did. -/
def syncCompactedSpec : ChangeSpec := { name := "syncCompacted", fn := fun _ => fun
  | [d1, d2, d3, d4, d5, d6] => { results := [.lit (.bool true)], args := [d1, d2, d3, d4, d5, d6] }
  | _ => none }
def syncCompactedRow : OpenClaim := { program := "ytmllihbhphnolaagreat", sum := "cfd776d23ca6f41533a87dae7da31f2563689221e83e05dcdebb7cad903d1c94", func := "confluent/confluentlaw38.SyncCompacted", spec := "syncCompacted", inPlace := ["slices.overlaps[confluent/api.Mark]", "slices.overlaps[int]"], unfollowed := true, recurses := true, plainKeys := false, apart := false }
def SyncCompactedSaid : Prop := syncCompactedRow.holds Tryz.pinned (OpenSpec.ofChange syncCompactedSpec)

/-- ITS FALSE NEIGHBOUR: 'it returns false'. Refute it at one input. -/
def syncCompactedWrong : ChangeSpec := { name := "syncCompacted", fn := fun _ => fun
  | [d1, d2, d3, d4, d5, d6] => { results := [.lit (.bool false)], args := [d1, d2, d3, d4, d5, d6] }
  | _ => none }
def SyncCompactedWrongFalsely : Prop := syncCompactedRow.holds Tryz.pinned (OpenSpec.ofChange syncCompactedWrong)

/- THE SECOND FORM. 'bulk': how many values and letters a reading holds, each counted each time it is reached (what is shared counts as often as it is met; a slice's spare places count too). A statement '..UptoSaid' is the law's where the arguments, and the package variables that the reading takes, are together of bulk at most 1048576: NARROWER than '..Said'. Prove '..Said' where nothing that the law and all that it calls make is longer than what came in: it says more and counts as full. Else prove '..UptoSaid'. A law counts once. -/
mutual
def uptoBulk {H : Type} : DataW H → Nat
  | .lit (.string bytes) => bytes.length + 1
  | .lit _ => 1
  | .nil => 1
  | .ptr d => uptoBulk d + 1
  | .slice elems spare => uptoBulkAll elems + uptoBulkAll spare + 1
  | .agg parts => uptoBulkAll parts + 1
  | .iface _ d => uptoBulk d + 1
  | .map entries => uptoBulkEntries entries + 1
  | .held _ => 1
def uptoBulkAll {H : Type} : List (DataW H) → Nat
  | [] => 0
  | d :: r => uptoBulk d + uptoBulkAll r
def uptoBulkEntries {H : Type} : List (Lit × DataW H) → Nat
  | [] => 0
  | x :: r => uptoBulkEntry x + uptoBulkEntries r
def uptoBulkEntry {H : Type} : Lit × DataW H → Nat
  | (.string bytes, d) => bytes.length + uptoBulk d + 1
  | (_, d) => uptoBulk d + 1
 end
def uptoSmall : (H : Type) → List (DataW H) → Bool := fun _ ds => decide (uptoBulkAll ds ≤ 1048576)
def OpenSpec.upto (s : _root_.Go.ChangeSpec) : _root_.Go.OpenSpec := { _root_.Go.OpenSpec.ofChange s with cond := some uptoSmall }

/-- 'confluentlaw35.StoreMakes', WHERE WHAT IT READS IS OF BULK AT MOST 1048576: true; the input reads as it did. -/
def storeMakesUptoRow : OpenClaim := { program := "ytmllihbhphnolaagreat", sum := "cfd776d23ca6f41533a87dae7da31f2563689221e83e05dcdebb7cad903d1c94", func := "confluent/confluentlaw35.StoreMakes", spec := "storeMakes", inPlace := ["slices.overlaps[confluent/api.Mark]", "slices.overlaps[int]"], unfollowed := true, recurses := true, plainKeys := false, apart := false, narrowed := true }
def StoreMakesUptoSaid : Prop := storeMakesUptoRow.holds Tryz.pinned (OpenSpec.upto storeMakesSpec)

/-- 'confluentlaw38.SyncArgs', WHERE WHAT IT READS IS OF BULK AT MOST 1048576: true; the input reads as it did. -/
def syncArgsUptoRow : OpenClaim := { program := "ytmllihbhphnolaagreat", sum := "cfd776d23ca6f41533a87dae7da31f2563689221e83e05dcdebb7cad903d1c94", func := "confluent/confluentlaw38.SyncArgs", spec := "syncArgs", inPlace := ["slices.overlaps[confluent/api.Mark]", "slices.overlaps[int]"], unfollowed := true, recurses := true, plainKeys := false, apart := false, narrowed := true }
def SyncArgsUptoSaid : Prop := syncArgsUptoRow.holds Tryz.pinned (OpenSpec.upto syncArgsSpec)

/-- 'confluentlaw38.SyncTakes', WHERE WHAT IT READS IS OF BULK AT MOST 1048576: true; the input reads as it did. -/
def syncTakesUptoRow : OpenClaim := { program := "ytmllihbhphnolaagreat", sum := "cfd776d23ca6f41533a87dae7da31f2563689221e83e05dcdebb7cad903d1c94", func := "confluent/confluentlaw38.SyncTakes", spec := "syncTakes", inPlace := ["slices.overlaps[confluent/api.Mark]", "slices.overlaps[int]"], unfollowed := true, recurses := true, plainKeys := false, apart := false, narrowed := true }
def SyncTakesUptoSaid : Prop := syncTakesUptoRow.holds Tryz.pinned (OpenSpec.upto syncTakesSpec)

/-- 'confluentlaw38.SyncHeld', WHERE WHAT IT READS IS OF BULK AT MOST 1048576: true; the input reads as it did. -/
def syncHeldUptoRow : OpenClaim := { program := "ytmllihbhphnolaagreat", sum := "cfd776d23ca6f41533a87dae7da31f2563689221e83e05dcdebb7cad903d1c94", func := "confluent/confluentlaw38.SyncHeld", spec := "syncHeld", inPlace := ["slices.overlaps[confluent/api.Mark]", "slices.overlaps[int]"], unfollowed := true, recurses := true, plainKeys := false, apart := false, narrowed := true }
def SyncHeldUptoSaid : Prop := syncHeldUptoRow.holds Tryz.pinned (OpenSpec.upto syncHeldSpec)

/-- 'confluentlaw35.StoreBases', WHERE WHAT IT READS IS OF BULK AT MOST 1048576: true; the input reads as it did. -/
def storeBasesUptoRow : OpenClaim := { program := "ytmllihbhphnolaagreat", sum := "cfd776d23ca6f41533a87dae7da31f2563689221e83e05dcdebb7cad903d1c94", func := "confluent/confluentlaw35.StoreBases", spec := "storeBases", inPlace := ["slices.overlaps[confluent/api.Mark]", "slices.overlaps[int]"], unfollowed := true, recurses := true, plainKeys := false, apart := false, narrowed := true }
def StoreBasesUptoSaid : Prop := storeBasesUptoRow.holds Tryz.pinned (OpenSpec.upto storeBasesSpec)

/-- 'confluentlaw35.StoreApart', WHERE WHAT IT READS IS OF BULK AT MOST 1048576: true; the input reads as it did. -/
def storeApartUptoRow : OpenClaim := { program := "ytmllihbhphnolaagreat", sum := "cfd776d23ca6f41533a87dae7da31f2563689221e83e05dcdebb7cad903d1c94", func := "confluent/confluentlaw35.StoreApart", spec := "storeApart", inPlace := ["slices.overlaps[confluent/api.Mark]", "slices.overlaps[int]"], unfollowed := true, recurses := true, plainKeys := false, apart := false, narrowed := true }
def StoreApartUptoSaid : Prop := storeApartUptoRow.holds Tryz.pinned (OpenSpec.upto storeApartSpec)

/-- 'confluentlaw35.StoreDefinition', WHERE WHAT IT READS IS OF BULK AT MOST 1048576: true; the input reads as it did. -/
def storeDefinitionUptoRow : OpenClaim := { program := "ytmllihbhphnolaagreat", sum := "cfd776d23ca6f41533a87dae7da31f2563689221e83e05dcdebb7cad903d1c94", func := "confluent/confluentlaw35.StoreDefinition", spec := "storeDefinition", inPlace := ["slices.overlaps[confluent/api.Mark]", "slices.overlaps[int]"], unfollowed := true, recurses := true, plainKeys := false, apart := false, narrowed := true }
def StoreDefinitionUptoSaid : Prop := storeDefinitionUptoRow.holds Tryz.pinned (OpenSpec.upto storeDefinitionSpec)

/-- 'confluentlaw35.StoreCompacts', WHERE WHAT IT READS IS OF BULK AT MOST 1048576: true; the input reads as it did. -/
def storeCompactsUptoRow : OpenClaim := { program := "ytmllihbhphnolaagreat", sum := "cfd776d23ca6f41533a87dae7da31f2563689221e83e05dcdebb7cad903d1c94", func := "confluent/confluentlaw35.StoreCompacts", spec := "storeCompacts", inPlace := ["slices.overlaps[confluent/api.Mark]", "slices.overlaps[int]"], unfollowed := true, recurses := true, plainKeys := false, apart := false, narrowed := true }
def StoreCompactsUptoSaid : Prop := storeCompactsUptoRow.holds Tryz.pinned (OpenSpec.upto storeCompactsSpec)

/-- 'confluentlaw38.SyncCompletes', WHERE WHAT IT READS IS OF BULK AT MOST 1048576: true; the input reads as it did. -/
def syncCompletesUptoRow : OpenClaim := { program := "ytmllihbhphnolaagreat", sum := "cfd776d23ca6f41533a87dae7da31f2563689221e83e05dcdebb7cad903d1c94", func := "confluent/confluentlaw38.SyncCompletes", spec := "syncCompletes", inPlace := ["slices.overlaps[confluent/api.Mark]", "slices.overlaps[int]"], unfollowed := true, recurses := true, plainKeys := false, apart := false, narrowed := true }
def SyncCompletesUptoSaid : Prop := syncCompletesUptoRow.holds Tryz.pinned (OpenSpec.upto syncCompletesSpec)

/-- 'confluentlaw38.SyncCompacted', WHERE WHAT IT READS IS OF BULK AT MOST 1048576: true; the input reads as it did. -/
def syncCompactedUptoRow : OpenClaim := { program := "ytmllihbhphnolaagreat", sum := "cfd776d23ca6f41533a87dae7da31f2563689221e83e05dcdebb7cad903d1c94", func := "confluent/confluentlaw38.SyncCompacted", spec := "syncCompacted", inPlace := ["slices.overlaps[confluent/api.Mark]", "slices.overlaps[int]"], unfollowed := true, recurses := true, plainKeys := false, apart := false, narrowed := true }
def SyncCompactedUptoSaid : Prop := syncCompactedUptoRow.holds Tryz.pinned (OpenSpec.upto syncCompactedSpec)

end Rows
end Go.Proofs.YtmllihbhphnolaaGreat
