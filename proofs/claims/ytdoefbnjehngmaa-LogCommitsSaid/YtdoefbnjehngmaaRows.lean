/-
  No cell of these rows narrows 'for every input' (looked for: loops, veiled, ifaces, maps, wideKeys, modest, calm, conditions, laid).
  DERIVED. THE GIVEN ROWS OF THIS SEAT. 4 by the template 'for every input the law returns true; each argument reads behind the call as it read before'; 0 by the template 'total and deterministic' (their statements: YtdoefbnjehngmaaTotals.lean).
  GIVEN WITH THE SEED: the statements are not yours to turn. If you find one false, say at which input.
  Laid BY PROGRAM, IN A SANDBOX (cutbox-rows.mjs): the forced cells as the released guide's own fill.sh prints them over the translation 2f700b0069a341ff… (all of the seat's roots in one cut). By AI agents, Wed Nov 11 2026. No macro, syntax, notation, axiom, sorry.
-/
import Derived.Test.YtdoefbnjehngmaaChecked
import GoSem.Claim
import GoSem.ClaimJoined
import GoSem.ClaimMapViews
import Derived.JoinedTies
import Derived.KernelRfl
namespace Go.Proofs.Ytdoefbnjehngmaa
/- THE CELL 'sum', in the pinned program and in every row, IS THE sha256 OF THE DUMP (.gsa) THAT YtdoefbnjehngmaaProg.lean LOADS. Nothing in Lean hashes anything: it is a label: what it is worth is what the hold of that sum in a sandbox is worth. -/
noncomputable def Try.pinned : Pinned := { name := "ytdoefbnjehngmaa", sum := "2f700b0069a341ff7a8a98c37463f8d9ab7b666d15a2eff7ac605e0e78138b7a", checked := Try.checked }
namespace Rows
def none {H : Type} : Left H := { results := [], args := [] }

/-- 'confluentlaw43.LogLate': WHATEVER THE INPUT: true; the input reads as it did. -/
def logLateSpec : ChangeSpec := { name := "logLate", fn := fun _ => fun
  | [d1, d2] => { results := [.lit (.bool true)], args := [d1, d2] }
  | _ => none }
def logLateRow : OpenClaim := { program := "ytdoefbnjehngmaa", sum := "2f700b0069a341ff7a8a98c37463f8d9ab7b666d15a2eff7ac605e0e78138b7a", func := "confluent/confluentlaw43.LogLate", spec := "logLate", unfollowed := true, recurses := true, apart := false }
def LogLateSaid : Prop := logLateRow.holds Try.pinned (OpenSpec.ofChange logLateSpec)

/-- ITS FALSE NEIGHBOUR: 'it returns false'. Refute it at one input. -/
def logLateWrong : ChangeSpec := { name := "logLate", fn := fun _ => fun
  | [d1, d2] => { results := [.lit (.bool false)], args := [d1, d2] }
  | _ => none }
def LogLateWrongFalsely : Prop := logLateRow.holds Try.pinned (OpenSpec.ofChange logLateWrong)

/-- 'confluentlaw43.LogApart': WHATEVER THE INPUT: true; the input reads as it did. -/
def logApartSpec : ChangeSpec := { name := "logApart", fn := fun _ => fun
  | [d] => { results := [.lit (.bool true)], args := [d] }
  | _ => none }
def logApartRow : OpenClaim := { program := "ytdoefbnjehngmaa", sum := "2f700b0069a341ff7a8a98c37463f8d9ab7b666d15a2eff7ac605e0e78138b7a", func := "confluent/confluentlaw43.LogApart", spec := "logApart", unfollowed := true, recurses := true, apart := false }
def LogApartSaid : Prop := logApartRow.holds Try.pinned (OpenSpec.ofChange logApartSpec)

/-- ITS FALSE NEIGHBOUR: 'it returns false'. Refute it at one input. -/
def logApartWrong : ChangeSpec := { name := "logApart", fn := fun _ => fun
  | [d] => { results := [.lit (.bool false)], args := [d] }
  | _ => none }
def LogApartWrongFalsely : Prop := logApartRow.holds Try.pinned (OpenSpec.ofChange logApartWrong)

/-- 'confluentlaw43.LogKeeps': WHATEVER THE INPUT: true; the input reads as it did. -/
def logKeepsSpec : ChangeSpec := { name := "logKeeps", fn := fun _ => fun
  | [d1, d2, d3, d4] => { results := [.lit (.bool true)], args := [d1, d2, d3, d4] }
  | _ => none }
def logKeepsRow : OpenClaim := { program := "ytdoefbnjehngmaa", sum := "2f700b0069a341ff7a8a98c37463f8d9ab7b666d15a2eff7ac605e0e78138b7a", func := "confluent/confluentlaw43.LogKeeps", spec := "logKeeps", unfollowed := true, recurses := true, apart := false }
def LogKeepsSaid : Prop := logKeepsRow.holds Try.pinned (OpenSpec.ofChange logKeepsSpec)

/-- ITS FALSE NEIGHBOUR: 'it returns false'. Refute it at one input. -/
def logKeepsWrong : ChangeSpec := { name := "logKeeps", fn := fun _ => fun
  | [d1, d2, d3, d4] => { results := [.lit (.bool false)], args := [d1, d2, d3, d4] }
  | _ => none }
def LogKeepsWrongFalsely : Prop := logKeepsRow.holds Try.pinned (OpenSpec.ofChange logKeepsWrong)

/-- 'confluentlaw43.LogCommits': WHATEVER THE INPUT: true; the input reads as it did. -/
def logCommitsSpec : ChangeSpec := { name := "logCommits", fn := fun _ => fun
  | [d1, d2, d3, d4] => { results := [.lit (.bool true)], args := [d1, d2, d3, d4] }
  | _ => none }
def logCommitsRow : OpenClaim := { program := "ytdoefbnjehngmaa", sum := "2f700b0069a341ff7a8a98c37463f8d9ab7b666d15a2eff7ac605e0e78138b7a", func := "confluent/confluentlaw43.LogCommits", spec := "logCommits", unfollowed := true, recurses := true, apart := false }
def LogCommitsSaid : Prop := logCommitsRow.holds Try.pinned (OpenSpec.ofChange logCommitsSpec)

/-- ITS FALSE NEIGHBOUR: 'it returns false'. Refute it at one input. -/
def logCommitsWrong : ChangeSpec := { name := "logCommits", fn := fun _ => fun
  | [d1, d2, d3, d4] => { results := [.lit (.bool false)], args := [d1, d2, d3, d4] }
  | _ => none }
def LogCommitsWrongFalsely : Prop := logCommitsRow.holds Try.pinned (OpenSpec.ofChange logCommitsWrong)

/- THE SECOND FORM. 'bulk': how many values and letters a reading holds, each counted each time it is reached (what is shared counts as often as it is met; a slice's spare places count too). A statement '..UptoSaid' is the law's where the arguments, and the package variables that the reading takes, are together of bulk at most 1048576: NARROWER than '..Said'. Prove '..Said' where nothing that the law and all that it calls make is longer than what came in: it says more and counts as full. Else prove '..UptoSaid'. A law counts once. -/
mutual
def uptoBulk {H : Type} : DataW H → Nat
  | .lit (.string bytes) => bytes.length + 1
  | .lit _ => 1
  | .nil => 1
  | .ptr d => uptoBulk d + 1
  | .slice elems spare => uptoBulkAll elems + uptoBulkAll spare + 1
  | .agg parts => uptoBulkAll parts + 1
  | .iface _ d => uptoBulk d + 1
  | .map entries => uptoBulkEntries entries + 1
  | .held _ => 1
def uptoBulkAll {H : Type} : List (DataW H) → Nat
  | [] => 0
  | d :: r => uptoBulk d + uptoBulkAll r
def uptoBulkEntries {H : Type} : List (Lit × DataW H) → Nat
  | [] => 0
  | x :: r => uptoBulkEntry x + uptoBulkEntries r
def uptoBulkEntry {H : Type} : Lit × DataW H → Nat
  | (.string bytes, d) => bytes.length + uptoBulk d + 1
  | (_, d) => uptoBulk d + 1
 end
def uptoSmall : (H : Type) → List (DataW H) → Bool := fun _ ds => decide (uptoBulkAll ds ≤ 1048576)
def OpenSpec.upto (s : _root_.Go.ChangeSpec) : _root_.Go.OpenSpec := { _root_.Go.OpenSpec.ofChange s with cond := some uptoSmall }

/-- 'confluentlaw43.LogLate', WHERE WHAT IT READS IS OF BULK AT MOST 1048576: true; the input reads as it did. -/
def logLateUptoRow : OpenClaim := { program := "ytdoefbnjehngmaa", sum := "2f700b0069a341ff7a8a98c37463f8d9ab7b666d15a2eff7ac605e0e78138b7a", func := "confluent/confluentlaw43.LogLate", spec := "logLate", unfollowed := true, recurses := true, apart := false, narrowed := true }
def LogLateUptoSaid : Prop := logLateUptoRow.holds Try.pinned (OpenSpec.upto logLateSpec)

/-- 'confluentlaw43.LogApart', WHERE WHAT IT READS IS OF BULK AT MOST 1048576: true; the input reads as it did. -/
def logApartUptoRow : OpenClaim := { program := "ytdoefbnjehngmaa", sum := "2f700b0069a341ff7a8a98c37463f8d9ab7b666d15a2eff7ac605e0e78138b7a", func := "confluent/confluentlaw43.LogApart", spec := "logApart", unfollowed := true, recurses := true, apart := false, narrowed := true }
def LogApartUptoSaid : Prop := logApartUptoRow.holds Try.pinned (OpenSpec.upto logApartSpec)

/-- 'confluentlaw43.LogKeeps', WHERE WHAT IT READS IS OF BULK AT MOST 1048576: true; the input reads as it did. -/
def logKeepsUptoRow : OpenClaim := { program := "ytdoefbnjehngmaa", sum := "2f700b0069a341ff7a8a98c37463f8d9ab7b666d15a2eff7ac605e0e78138b7a", func := "confluent/confluentlaw43.LogKeeps", spec := "logKeeps", unfollowed := true, recurses := true, apart := false, narrowed := true }
def LogKeepsUptoSaid : Prop := logKeepsUptoRow.holds Try.pinned (OpenSpec.upto logKeepsSpec)

/-- 'confluentlaw43.LogCommits', WHERE WHAT IT READS IS OF BULK AT MOST 1048576: true; the input reads as it did. -/
def logCommitsUptoRow : OpenClaim := { program := "ytdoefbnjehngmaa", sum := "2f700b0069a341ff7a8a98c37463f8d9ab7b666d15a2eff7ac605e0e78138b7a", func := "confluent/confluentlaw43.LogCommits", spec := "logCommits", unfollowed := true, recurses := true, apart := false, narrowed := true }
def LogCommitsUptoSaid : Prop := logCommitsUptoRow.holds Try.pinned (OpenSpec.upto logCommitsSpec)

end Rows
end Go.Proofs.Ytdoefbnjehngmaa
