/-
  No cell of these rows narrows 'for every input' (looked for: loops, veiled, ifaces, maps, wideKeys, modest, calm, conditions, laid).
  DERIVED. THE GIVEN ROWS OF THIS SEAT. 2 by the template 'for every input the law returns true; each argument reads behind the call as it read before'; 0 by the template 'total and deterministic' (their statements: YtajenkpjcbaadaaGreatTotals.lean).
  GIVEN WITH THE SEED: the statements are not yours to turn. If you find one false, say at which input.
  Laid BY PROGRAM, IN A SANDBOX (cutbox-rows.mjs): the forced cells as the released guide's own fill.sh prints them over the translation 308c8f6990b4e282… (all of the seat's roots in one cut). By AI agents, Wed Nov 11 2026. No macro, syntax, notation, axiom, sorry.
-/
import Derived.Test.YtajenkpjcbaadaaGreatChecked
import GoSem.Claim
import GoSem.ClaimJoined
import GoSem.ClaimMapViews
import Derived.JoinedTies
import Derived.KernelRfl
namespace Go.Proofs.YtajenkpjcbaadaaGreat
/- THE CELL 'sum', in the pinned program and in every row, IS THE sha256 OF THE DUMP (.gsa) THAT YtajenkpjcbaadaaGreatProg.lean LOADS. Nothing in Lean hashes anything: it is a label: what it is worth is what the hold of that sum in a sandbox is worth. -/
noncomputable def Tryz.pinned : Pinned := { name := "ytajenkpjcbaadaagreat", sum := "308c8f6990b4e282a250ddb7245e54e24da78cd2f9286827b6ab0a1f300f5be4", checked := Tryz.checked }
namespace Rows
def none {H : Type} : Left H := { results := [], args := [] }

/-- 'confluentlaw38.SyncCompletes': WHATEVER THE INPUT: true; the input reads as it did. -/
def syncCompletesSpec : ChangeSpec := { name := "syncCompletes", fn := fun _ => fun
  | [d1, d2, d3, d4, d5, d6] => { results := [.lit (.bool true)], args := [d1, d2, d3, d4, d5, d6] }
  | _ => none }
def syncCompletesRow : OpenClaim := { program := "ytajenkpjcbaadaagreat", sum := "308c8f6990b4e282a250ddb7245e54e24da78cd2f9286827b6ab0a1f300f5be4", func := "confluent/confluentlaw38.SyncCompletes", spec := "syncCompletes", inPlace := ["slices.overlaps[confluent/api.Mark]", "slices.overlaps[int]"], unfollowed := true, recurses := true, plainKeys := false, apart := false }
def SyncCompletesSaid : Prop := syncCompletesRow.holds Tryz.pinned (OpenSpec.ofChange syncCompletesSpec)

/-- ITS FALSE NEIGHBOUR: 'it returns false'. Refute it at one input. -/
def syncCompletesWrong : ChangeSpec := { name := "syncCompletes", fn := fun _ => fun
  | [d1, d2, d3, d4, d5, d6] => { results := [.lit (.bool false)], args := [d1, d2, d3, d4, d5, d6] }
  | _ => none }
def SyncCompletesWrongFalsely : Prop := syncCompletesRow.holds Tryz.pinned (OpenSpec.ofChange syncCompletesWrong)

/-- 'confluentlaw38.SyncCompacted': WHATEVER THE INPUT: true; the input reads as it did. -/
def syncCompactedSpec : ChangeSpec := { name := "syncCompacted", fn := fun _ => fun
  | [d1, d2, d3, d4, d5, d6] => { results := [.lit (.bool true)], args := [d1, d2, d3, d4, d5, d6] }
  | _ => none }
def syncCompactedRow : OpenClaim := { program := "ytajenkpjcbaadaagreat", sum := "308c8f6990b4e282a250ddb7245e54e24da78cd2f9286827b6ab0a1f300f5be4", func := "confluent/confluentlaw38.SyncCompacted", spec := "syncCompacted", inPlace := ["slices.overlaps[confluent/api.Mark]", "slices.overlaps[int]"], unfollowed := true, recurses := true, plainKeys := false, apart := false }
def SyncCompactedSaid : Prop := syncCompactedRow.holds Tryz.pinned (OpenSpec.ofChange syncCompactedSpec)

/-- ITS FALSE NEIGHBOUR: 'it returns false'. Refute it at one input. -/
def syncCompactedWrong : ChangeSpec := { name := "syncCompacted", fn := fun _ => fun
  | [d1, d2, d3, d4, d5, d6] => { results := [.lit (.bool false)], args := [d1, d2, d3, d4, d5, d6] }
  | _ => none }
def SyncCompactedWrongFalsely : Prop := syncCompactedRow.holds Tryz.pinned (OpenSpec.ofChange syncCompactedWrong)

/- THE SECOND FORM. 'bulk': how many values and letters a reading holds, each counted each time it is reached (what is shared counts as often as it is met; a slice's spare places count too). A statement '..UptoSaid' is the law's where the arguments, and the package variables that the reading takes, are together of bulk at most 1048576: NARROWER than '..Said'. Prove '..Said' where nothing that the law and all that it calls make is longer than what came in: it says more and counts as full. Else prove '..UptoSaid'. A law counts once. -/
mutual
def uptoBulk {H : Type} : DataW H → Nat
  | .lit (.string bytes) => bytes.length + 1
  | .lit _ => 1
  | .nil => 1
  | .ptr d => uptoBulk d + 1
  | .slice elems spare => uptoBulkAll elems + uptoBulkAll spare + 1
  | .agg parts => uptoBulkAll parts + 1
  | .iface _ d => uptoBulk d + 1
  | .map entries => uptoBulkEntries entries + 1
  | .held _ => 1
def uptoBulkAll {H : Type} : List (DataW H) → Nat
  | [] => 0
  | d :: r => uptoBulk d + uptoBulkAll r
def uptoBulkEntries {H : Type} : List (Lit × DataW H) → Nat
  | [] => 0
  | x :: r => uptoBulkEntry x + uptoBulkEntries r
def uptoBulkEntry {H : Type} : Lit × DataW H → Nat
  | (.string bytes, d) => bytes.length + uptoBulk d + 1
  | (_, d) => uptoBulk d + 1
 end
def uptoSmall : (H : Type) → List (DataW H) → Bool := fun _ ds => decide (uptoBulkAll ds ≤ 1048576)
def OpenSpec.upto (s : _root_.Go.ChangeSpec) : _root_.Go.OpenSpec := { _root_.Go.OpenSpec.ofChange s with cond := some uptoSmall }

/-- 'confluentlaw38.SyncCompletes', WHERE WHAT IT READS IS OF BULK AT MOST 1048576: true; the input reads as it did. -/
def syncCompletesUptoRow : OpenClaim := { program := "ytajenkpjcbaadaagreat", sum := "308c8f6990b4e282a250ddb7245e54e24da78cd2f9286827b6ab0a1f300f5be4", func := "confluent/confluentlaw38.SyncCompletes", spec := "syncCompletes", inPlace := ["slices.overlaps[confluent/api.Mark]", "slices.overlaps[int]"], unfollowed := true, recurses := true, plainKeys := false, apart := false, narrowed := true }
def SyncCompletesUptoSaid : Prop := syncCompletesUptoRow.holds Tryz.pinned (OpenSpec.upto syncCompletesSpec)

/-- 'confluentlaw38.SyncCompacted', WHERE WHAT IT READS IS OF BULK AT MOST 1048576: true; the input reads as it did. -/
def syncCompactedUptoRow : OpenClaim := { program := "ytajenkpjcbaadaagreat", sum := "308c8f6990b4e282a250ddb7245e54e24da78cd2f9286827b6ab0a1f300f5be4", func := "confluent/confluentlaw38.SyncCompacted", spec := "syncCompacted", inPlace := ["slices.overlaps[confluent/api.Mark]", "slices.overlaps[int]"], unfollowed := true, recurses := true, plainKeys := false, apart := false, narrowed := true }
def SyncCompactedUptoSaid : Prop := syncCompactedUptoRow.holds Tryz.pinned (OpenSpec.upto syncCompactedSpec)

end Rows
end Go.Proofs.YtajenkpjcbaadaaGreat
