/-
  No cell of these rows narrows 'for every input' (looked for: loops, veiled, ifaces, maps, wideKeys, modest, calm, conditions, laid).
  DERIVED. THE GIVEN ROWS OF THIS SEAT. 9 by the template 'for every input the law returns true; each argument reads behind the call as it read before'; 0 by the template 'total and deterministic' (their statements: YtaopehadegknoaaTotals.lean).
  GIVEN WITH THE SEED: the statements are not yours to turn. If you find one false, say at which input.
  Laid BY PROGRAM, IN A SANDBOX (cutbox-rows.mjs): the forced cells as the released guide's own fill.sh prints them over the translation e2c82da7fe614de4… (all of the seat's roots in one cut). By AI agents, Wed Nov 11 2026. No macro, syntax, notation, axiom, sorry.
-/
import Derived.Test.YtaopehadegknoaaChecked
import GoSem.Claim
import GoSem.ClaimJoined
import GoSem.ClaimMapViews
import Derived.JoinedTies
import Derived.KernelRfl
namespace Go.Proofs.Ytaopehadegknoaa
/- THE CELL 'sum', in the pinned program and in every row, IS THE sha256 OF THE DUMP (.gsa) THAT YtaopehadegknoaaProg.lean LOADS. Nothing in Lean hashes anything: it is a label: what it is worth is what the hold of that sum in a sandbox is worth. -/
noncomputable def Try.pinned : Pinned := { name := "ytaopehadegknoaa", sum := "e2c82da7fe614de45c68ea6039b4999a9f5186fd44f4286f2cea7b3510ba83d4", checked := Try.checked }
namespace Rows
def none {H : Type} : Left H := { results := [], args := [] }

/-- 'confluentlaw42.ElectionLogs': WHATEVER THE INPUT: true; the input reads as it did. -/
def electionLogsSpec : ChangeSpec := { name := "electionLogs", fn := fun _ => fun
  | [d1, d2] => { results := [.lit (.bool true)], args := [d1, d2] }
  | _ => none }
def electionLogsRow : OpenClaim := { program := "ytaopehadegknoaa", sum := "e2c82da7fe614de45c68ea6039b4999a9f5186fd44f4286f2cea7b3510ba83d4", func := "confluent/confluentlaw42.ElectionLogs", spec := "electionLogs", unfollowed := true, recurses := true, plainKeys := false, apart := false }
def ElectionLogsSaid : Prop := electionLogsRow.holds Try.pinned (OpenSpec.ofChange electionLogsSpec)

/-- ITS FALSE NEIGHBOUR: 'it returns false'. Refute it at one input. -/
def electionLogsWrong : ChangeSpec := { name := "electionLogs", fn := fun _ => fun
  | [d1, d2] => { results := [.lit (.bool false)], args := [d1, d2] }
  | _ => none }
def ElectionLogsWrongFalsely : Prop := electionLogsRow.holds Try.pinned (OpenSpec.ofChange electionLogsWrong)

/-- 'confluentlaw42.ElectionPromises': WHATEVER THE INPUT: true; the input reads as it did. -/
def electionPromisesSpec : ChangeSpec := { name := "electionPromises", fn := fun _ => fun
  | [d1, d2, d3, d4, d5] => { results := [.lit (.bool true)], args := [d1, d2, d3, d4, d5] }
  | _ => none }
def electionPromisesRow : OpenClaim := { program := "ytaopehadegknoaa", sum := "e2c82da7fe614de45c68ea6039b4999a9f5186fd44f4286f2cea7b3510ba83d4", func := "confluent/confluentlaw42.ElectionPromises", spec := "electionPromises", unfollowed := true, recurses := true, plainKeys := false, apart := false }
def ElectionPromisesSaid : Prop := electionPromisesRow.holds Try.pinned (OpenSpec.ofChange electionPromisesSpec)

/-- ITS FALSE NEIGHBOUR: 'it returns false'. Refute it at one input. -/
def electionPromisesWrong : ChangeSpec := { name := "electionPromises", fn := fun _ => fun
  | [d1, d2, d3, d4, d5] => { results := [.lit (.bool false)], args := [d1, d2, d3, d4, d5] }
  | _ => none }
def ElectionPromisesWrongFalsely : Prop := electionPromisesRow.holds Try.pinned (OpenSpec.ofChange electionPromisesWrong)

/-- 'confluentlaw42.ElectionEnds': WHATEVER THE INPUT: true; the input reads as it did. -/
def electionEndsSpec : ChangeSpec := { name := "electionEnds", fn := fun _ => fun
  | [d1, d2, d3, d4] => { results := [.lit (.bool true)], args := [d1, d2, d3, d4] }
  | _ => none }
def electionEndsRow : OpenClaim := { program := "ytaopehadegknoaa", sum := "e2c82da7fe614de45c68ea6039b4999a9f5186fd44f4286f2cea7b3510ba83d4", func := "confluent/confluentlaw42.ElectionEnds", spec := "electionEnds", unfollowed := true, recurses := true, plainKeys := false, apart := false }
def ElectionEndsSaid : Prop := electionEndsRow.holds Try.pinned (OpenSpec.ofChange electionEndsSpec)

/-- ITS FALSE NEIGHBOUR: 'it returns false'. Refute it at one input. -/
def electionEndsWrong : ChangeSpec := { name := "electionEnds", fn := fun _ => fun
  | [d1, d2, d3, d4] => { results := [.lit (.bool false)], args := [d1, d2, d3, d4] }
  | _ => none }
def ElectionEndsWrongFalsely : Prop := electionEndsRow.holds Try.pinned (OpenSpec.ofChange electionEndsWrong)

/-- 'confluentlaw42.ElectionSafe': WHATEVER THE INPUT: true; the input reads as it did. -/
def electionSafeSpec : ChangeSpec := { name := "electionSafe", fn := fun _ => fun
  | [d1, d2, d3] => { results := [.lit (.bool true)], args := [d1, d2, d3] }
  | _ => none }
def electionSafeRow : OpenClaim := { program := "ytaopehadegknoaa", sum := "e2c82da7fe614de45c68ea6039b4999a9f5186fd44f4286f2cea7b3510ba83d4", func := "confluent/confluentlaw42.ElectionSafe", spec := "electionSafe", unfollowed := true, recurses := true, plainKeys := false, apart := false }
def ElectionSafeSaid : Prop := electionSafeRow.holds Try.pinned (OpenSpec.ofChange electionSafeSpec)

/-- ITS FALSE NEIGHBOUR: 'it returns false'. Refute it at one input. -/
def electionSafeWrong : ChangeSpec := { name := "electionSafe", fn := fun _ => fun
  | [d1, d2, d3] => { results := [.lit (.bool false)], args := [d1, d2, d3] }
  | _ => none }
def ElectionSafeWrongFalsely : Prop := electionSafeRow.holds Try.pinned (OpenSpec.ofChange electionSafeWrong)

/-- 'confluentlaw36.StabilityCalls': WHATEVER THE INPUT: true; the input reads as it did. -/
def stabilityCallsSpec : ChangeSpec := { name := "stabilityCalls", fn := fun _ => fun
  | [d1, d2, d3] => { results := [.lit (.bool true)], args := [d1, d2, d3] }
  | _ => none }
def stabilityCallsRow : OpenClaim := { program := "ytaopehadegknoaa", sum := "e2c82da7fe614de45c68ea6039b4999a9f5186fd44f4286f2cea7b3510ba83d4", func := "confluent/confluentlaw36.StabilityCalls", spec := "stabilityCalls", unfollowed := true, recurses := true, plainKeys := false, apart := false }
def StabilityCallsSaid : Prop := stabilityCallsRow.holds Try.pinned (OpenSpec.ofChange stabilityCallsSpec)

/-- ITS FALSE NEIGHBOUR: 'it returns false'. Refute it at one input. -/
def stabilityCallsWrong : ChangeSpec := { name := "stabilityCalls", fn := fun _ => fun
  | [d1, d2, d3] => { results := [.lit (.bool false)], args := [d1, d2, d3] }
  | _ => none }
def StabilityCallsWrongFalsely : Prop := stabilityCallsRow.holds Try.pinned (OpenSpec.ofChange stabilityCallsWrong)

/-- 'confluentlaw36.StabilityGrows': WHATEVER THE INPUT: true; the input reads as it did. -/
def stabilityGrowsSpec : ChangeSpec := { name := "stabilityGrows", fn := fun _ => fun
  | [d1, d2] => { results := [.lit (.bool true)], args := [d1, d2] }
  | _ => none }
def stabilityGrowsRow : OpenClaim := { program := "ytaopehadegknoaa", sum := "e2c82da7fe614de45c68ea6039b4999a9f5186fd44f4286f2cea7b3510ba83d4", func := "confluent/confluentlaw36.StabilityGrows", spec := "stabilityGrows", unfollowed := true, recurses := true, plainKeys := false, apart := false }
def StabilityGrowsSaid : Prop := stabilityGrowsRow.holds Try.pinned (OpenSpec.ofChange stabilityGrowsSpec)

/-- ITS FALSE NEIGHBOUR: 'it returns false'. Refute it at one input. -/
def stabilityGrowsWrong : ChangeSpec := { name := "stabilityGrows", fn := fun _ => fun
  | [d1, d2] => { results := [.lit (.bool false)], args := [d1, d2] }
  | _ => none }
def StabilityGrowsWrongFalsely : Prop := stabilityGrowsRow.holds Try.pinned (OpenSpec.ofChange stabilityGrowsWrong)

/-- 'confluentlaw36.StabilityTakes': WHATEVER THE INPUT: true; the input reads as it did. -/
def stabilityTakesSpec : ChangeSpec := { name := "stabilityTakes", fn := fun _ => fun
  | [d1, d2, d3] => { results := [.lit (.bool true)], args := [d1, d2, d3] }
  | _ => none }
def stabilityTakesRow : OpenClaim := { program := "ytaopehadegknoaa", sum := "e2c82da7fe614de45c68ea6039b4999a9f5186fd44f4286f2cea7b3510ba83d4", func := "confluent/confluentlaw36.StabilityTakes", spec := "stabilityTakes", unfollowed := true, recurses := true, plainKeys := false, apart := false }
def StabilityTakesSaid : Prop := stabilityTakesRow.holds Try.pinned (OpenSpec.ofChange stabilityTakesSpec)

/-- ITS FALSE NEIGHBOUR: 'it returns false'. Refute it at one input. -/
def stabilityTakesWrong : ChangeSpec := { name := "stabilityTakes", fn := fun _ => fun
  | [d1, d2, d3] => { results := [.lit (.bool false)], args := [d1, d2, d3] }
  | _ => none }
def StabilityTakesWrongFalsely : Prop := stabilityTakesRow.holds Try.pinned (OpenSpec.ofChange stabilityTakesWrong)

/-- 'confluentlaw36.StabilityCloses': WHATEVER THE INPUT: true; the input reads as it did. -/
def stabilityClosesSpec : ChangeSpec := { name := "stabilityCloses", fn := fun _ => fun
  | [d1, d2] => { results := [.lit (.bool true)], args := [d1, d2] }
  | _ => none }
def stabilityClosesRow : OpenClaim := { program := "ytaopehadegknoaa", sum := "e2c82da7fe614de45c68ea6039b4999a9f5186fd44f4286f2cea7b3510ba83d4", func := "confluent/confluentlaw36.StabilityCloses", spec := "stabilityCloses", unfollowed := true, recurses := true, plainKeys := false, apart := false }
def StabilityClosesSaid : Prop := stabilityClosesRow.holds Try.pinned (OpenSpec.ofChange stabilityClosesSpec)

/-- ITS FALSE NEIGHBOUR: 'it returns false'. Refute it at one input. -/
def stabilityClosesWrong : ChangeSpec := { name := "stabilityCloses", fn := fun _ => fun
  | [d1, d2] => { results := [.lit (.bool false)], args := [d1, d2] }
  | _ => none }
def StabilityClosesWrongFalsely : Prop := stabilityClosesRow.holds Try.pinned (OpenSpec.ofChange stabilityClosesWrong)

/-- 'confluentlaw36.StabilitySafe': WHATEVER THE INPUT: true; the input reads as it did. -/
def stabilitySafeSpec : ChangeSpec := { name := "stabilitySafe", fn := fun _ => fun
  | [d1, d2] => { results := [.lit (.bool true)], args := [d1, d2] }
  | _ => none }
def stabilitySafeRow : OpenClaim := { program := "ytaopehadegknoaa", sum := "e2c82da7fe614de45c68ea6039b4999a9f5186fd44f4286f2cea7b3510ba83d4", func := "confluent/confluentlaw36.StabilitySafe", spec := "stabilitySafe", unfollowed := true, recurses := true, plainKeys := false, apart := false }
def StabilitySafeSaid : Prop := stabilitySafeRow.holds Try.pinned (OpenSpec.ofChange stabilitySafeSpec)

/-- ITS FALSE NEIGHBOUR: 'it returns false'. Refute it at one input. -/
def stabilitySafeWrong : ChangeSpec := { name := "stabilitySafe", fn := fun _ => fun
  | [d1, d2] => { results := [.lit (.bool false)], args := [d1, d2] }
  | _ => none }
def StabilitySafeWrongFalsely : Prop := stabilitySafeRow.holds Try.pinned (OpenSpec.ofChange stabilitySafeWrong)

/- THE SECOND FORM. 'bulk': how many values and letters a reading holds, each counted each time it is reached (what is shared counts as often as it is met; a slice's spare places count too). A statement '..UptoSaid' is the law's where the arguments, and the package variables that the reading takes, are together of bulk at most 1048576: NARROWER than '..Said'. Prove '..Said' where nothing that the law and all that it calls make is longer than what came in: it says more and counts as full. Else prove '..UptoSaid'. A law counts once. -/
mutual
def uptoBulk {H : Type} : DataW H → Nat
  | .lit (.string bytes) => bytes.length + 1
  | .lit _ => 1
  | .nil => 1
  | .ptr d => uptoBulk d + 1
  | .slice elems spare => uptoBulkAll elems + uptoBulkAll spare + 1
  | .agg parts => uptoBulkAll parts + 1
  | .iface _ d => uptoBulk d + 1
  | .map entries => uptoBulkEntries entries + 1
  | .held _ => 1
def uptoBulkAll {H : Type} : List (DataW H) → Nat
  | [] => 0
  | d :: r => uptoBulk d + uptoBulkAll r
def uptoBulkEntries {H : Type} : List (Lit × DataW H) → Nat
  | [] => 0
  | x :: r => uptoBulkEntry x + uptoBulkEntries r
def uptoBulkEntry {H : Type} : Lit × DataW H → Nat
  | (.string bytes, d) => bytes.length + uptoBulk d + 1
  | (_, d) => uptoBulk d + 1
 end
def uptoSmall : (H : Type) → List (DataW H) → Bool := fun _ ds => decide (uptoBulkAll ds ≤ 1048576)
def OpenSpec.upto (s : _root_.Go.ChangeSpec) : _root_.Go.OpenSpec := { _root_.Go.OpenSpec.ofChange s with cond := some uptoSmall }

/-- 'confluentlaw42.ElectionLogs', WHERE WHAT IT READS IS OF BULK AT MOST 1048576: true; the input reads as it did. -/
def electionLogsUptoRow : OpenClaim := { program := "ytaopehadegknoaa", sum := "e2c82da7fe614de45c68ea6039b4999a9f5186fd44f4286f2cea7b3510ba83d4", func := "confluent/confluentlaw42.ElectionLogs", spec := "electionLogs", unfollowed := true, recurses := true, plainKeys := false, apart := false, narrowed := true }
def ElectionLogsUptoSaid : Prop := electionLogsUptoRow.holds Try.pinned (OpenSpec.upto electionLogsSpec)

/-- 'confluentlaw42.ElectionPromises', WHERE WHAT IT READS IS OF BULK AT MOST 1048576: true; the input reads as it did. -/
def electionPromisesUptoRow : OpenClaim := { program := "ytaopehadegknoaa", sum := "e2c82da7fe614de45c68ea6039b4999a9f5186fd44f4286f2cea7b3510ba83d4", func := "confluent/confluentlaw42.ElectionPromises", spec := "electionPromises", unfollowed := true, recurses := true, plainKeys := false, apart := false, narrowed := true }
def ElectionPromisesUptoSaid : Prop := electionPromisesUptoRow.holds Try.pinned (OpenSpec.upto electionPromisesSpec)

/-- 'confluentlaw42.ElectionEnds', WHERE WHAT IT READS IS OF BULK AT MOST 1048576: true; the input reads as it did. -/
def electionEndsUptoRow : OpenClaim := { program := "ytaopehadegknoaa", sum := "e2c82da7fe614de45c68ea6039b4999a9f5186fd44f4286f2cea7b3510ba83d4", func := "confluent/confluentlaw42.ElectionEnds", spec := "electionEnds", unfollowed := true, recurses := true, plainKeys := false, apart := false, narrowed := true }
def ElectionEndsUptoSaid : Prop := electionEndsUptoRow.holds Try.pinned (OpenSpec.upto electionEndsSpec)

/-- 'confluentlaw42.ElectionSafe', WHERE WHAT IT READS IS OF BULK AT MOST 1048576: true; the input reads as it did. -/
def electionSafeUptoRow : OpenClaim := { program := "ytaopehadegknoaa", sum := "e2c82da7fe614de45c68ea6039b4999a9f5186fd44f4286f2cea7b3510ba83d4", func := "confluent/confluentlaw42.ElectionSafe", spec := "electionSafe", unfollowed := true, recurses := true, plainKeys := false, apart := false, narrowed := true }
def ElectionSafeUptoSaid : Prop := electionSafeUptoRow.holds Try.pinned (OpenSpec.upto electionSafeSpec)

/-- 'confluentlaw36.StabilityCalls', WHERE WHAT IT READS IS OF BULK AT MOST 1048576: true; the input reads as it did. -/
def stabilityCallsUptoRow : OpenClaim := { program := "ytaopehadegknoaa", sum := "e2c82da7fe614de45c68ea6039b4999a9f5186fd44f4286f2cea7b3510ba83d4", func := "confluent/confluentlaw36.StabilityCalls", spec := "stabilityCalls", unfollowed := true, recurses := true, plainKeys := false, apart := false, narrowed := true }
def StabilityCallsUptoSaid : Prop := stabilityCallsUptoRow.holds Try.pinned (OpenSpec.upto stabilityCallsSpec)

/-- 'confluentlaw36.StabilityGrows', WHERE WHAT IT READS IS OF BULK AT MOST 1048576: true; the input reads as it did. -/
def stabilityGrowsUptoRow : OpenClaim := { program := "ytaopehadegknoaa", sum := "e2c82da7fe614de45c68ea6039b4999a9f5186fd44f4286f2cea7b3510ba83d4", func := "confluent/confluentlaw36.StabilityGrows", spec := "stabilityGrows", unfollowed := true, recurses := true, plainKeys := false, apart := false, narrowed := true }
def StabilityGrowsUptoSaid : Prop := stabilityGrowsUptoRow.holds Try.pinned (OpenSpec.upto stabilityGrowsSpec)

/-- 'confluentlaw36.StabilityTakes', WHERE WHAT IT READS IS OF BULK AT MOST 1048576: true; the input reads as it did. -/
def stabilityTakesUptoRow : OpenClaim := { program := "ytaopehadegknoaa", sum := "e2c82da7fe614de45c68ea6039b4999a9f5186fd44f4286f2cea7b3510ba83d4", func := "confluent/confluentlaw36.StabilityTakes", spec := "stabilityTakes", unfollowed := true, recurses := true, plainKeys := false, apart := false, narrowed := true }
def StabilityTakesUptoSaid : Prop := stabilityTakesUptoRow.holds Try.pinned (OpenSpec.upto stabilityTakesSpec)

/-- 'confluentlaw36.StabilityCloses', WHERE WHAT IT READS IS OF BULK AT MOST 1048576: true; the input reads as it did. -/
def stabilityClosesUptoRow : OpenClaim := { program := "ytaopehadegknoaa", sum := "e2c82da7fe614de45c68ea6039b4999a9f5186fd44f4286f2cea7b3510ba83d4", func := "confluent/confluentlaw36.StabilityCloses", spec := "stabilityCloses", unfollowed := true, recurses := true, plainKeys := false, apart := false, narrowed := true }
def StabilityClosesUptoSaid : Prop := stabilityClosesUptoRow.holds Try.pinned (OpenSpec.upto stabilityClosesSpec)

/-- 'confluentlaw36.StabilitySafe', WHERE WHAT IT READS IS OF BULK AT MOST 1048576: true; the input reads as it did. -/
def stabilitySafeUptoRow : OpenClaim := { program := "ytaopehadegknoaa", sum := "e2c82da7fe614de45c68ea6039b4999a9f5186fd44f4286f2cea7b3510ba83d4", func := "confluent/confluentlaw36.StabilitySafe", spec := "stabilitySafe", unfollowed := true, recurses := true, plainKeys := false, apart := false, narrowed := true }
def StabilitySafeUptoSaid : Prop := stabilitySafeUptoRow.holds Try.pinned (OpenSpec.upto stabilitySafeSpec)

end Rows
end Go.Proofs.Ytaopehadegknoaa
