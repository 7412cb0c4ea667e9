/-
  No cell of these rows narrows 'for every input' (looked for: loops, veiled, ifaces, maps, wideKeys, modest, calm, conditions, laid).
  DERIVED. THE GIVEN ROWS OF THIS SEAT. 5 by the template 'for every input the law returns true; each argument reads behind the call as it read before'; 0 by the template 'total and deterministic' (their statements: YtpgpdmmobblffaaGreatTotals.lean).
  GIVEN WITH THE SEED: the statements are not yours to turn. If you find one false, say at which input.
  Laid BY PROGRAM, IN A SANDBOX (cutbox-rows.mjs): the forced cells as the released guide's own fill.sh prints them over the translation 170c5a592bb2b938… (all of the seat's roots in one cut). By AI agents, Wed Nov 11 2026. No macro, syntax, notation, axiom, sorry.
-/
import Derived.Test.YtpgpdmmobblffaaGreatChecked
import GoSem.Claim
import GoSem.ClaimJoined
import GoSem.ClaimMapViews
import Derived.JoinedTies
import Derived.KernelRfl
namespace Go.Proofs.YtpgpdmmobblffaaGreat
/- THE CELL 'sum', in the pinned program and in every row, IS THE sha256 OF THE DUMP (.gsa) THAT YtpgpdmmobblffaaGreatProg.lean LOADS. Nothing in Lean hashes anything: it is a label: what it is worth is what the hold of that sum in a sandbox is worth. -/
noncomputable def Tryz.pinned : Pinned := { name := "ytpgpdmmobblffaagreat", sum := "170c5a592bb2b938b0495d0981f829d02af314fcc006265df2ff6573c9510f51", checked := Tryz.checked }
namespace Rows
def none {H : Type} : Left H := { results := [], args := [] }

/-- 'confluentlaw34.MergeApart': WHATEVER THE INPUT: true; the input reads as it did. -/
def mergeApartSpec : ChangeSpec := { name := "mergeApart", fn := fun _ => fun
  | [d1, d2, d3] => { results := [.lit (.bool true)], args := [d1, d2, d3] }
  | _ => none }
def mergeApartRow : OpenClaim := { program := "ytpgpdmmobblffaagreat", sum := "170c5a592bb2b938b0495d0981f829d02af314fcc006265df2ff6573c9510f51", func := "confluent/confluentlaw34.MergeApart", spec := "mergeApart", inPlace := ["slices.overlaps[confluent/api.Mark]"], unfollowed := true, recurses := true, plainKeys := false, apart := false }
def MergeApartSaid : Prop := mergeApartRow.holds Tryz.pinned (OpenSpec.ofChange mergeApartSpec)

/-- ITS FALSE NEIGHBOUR: 'it returns false'. Refute it at one input. -/
def mergeApartWrong : ChangeSpec := { name := "mergeApart", fn := fun _ => fun
  | [d1, d2, d3] => { results := [.lit (.bool false)], args := [d1, d2, d3] }
  | _ => none }
def MergeApartWrongFalsely : Prop := mergeApartRow.holds Tryz.pinned (OpenSpec.ofChange mergeApartWrong)

/-- 'confluentlaw34.MergeForms': WHATEVER THE INPUT: true; the input reads as it did. -/
def mergeFormsSpec : ChangeSpec := { name := "mergeForms", fn := fun _ => fun
  | [d1, d2, d3] => { results := [.lit (.bool true)], args := [d1, d2, d3] }
  | _ => none }
def mergeFormsRow : OpenClaim := { program := "ytpgpdmmobblffaagreat", sum := "170c5a592bb2b938b0495d0981f829d02af314fcc006265df2ff6573c9510f51", func := "confluent/confluentlaw34.MergeForms", spec := "mergeForms", inPlace := ["slices.overlaps[confluent/api.Mark]"], unfollowed := true, recurses := true, plainKeys := false, apart := false }
def MergeFormsSaid : Prop := mergeFormsRow.holds Tryz.pinned (OpenSpec.ofChange mergeFormsSpec)

/-- ITS FALSE NEIGHBOUR: 'it returns false'. Refute it at one input. -/
def mergeFormsWrong : ChangeSpec := { name := "mergeForms", fn := fun _ => fun
  | [d1, d2, d3] => { results := [.lit (.bool false)], args := [d1, d2, d3] }
  | _ => none }
def MergeFormsWrongFalsely : Prop := mergeFormsRow.holds Tryz.pinned (OpenSpec.ofChange mergeFormsWrong)

/-- 'confluentlaw34.MergeSettles': WHATEVER THE INPUT: true; the input reads as it did. -/
def mergeSettlesSpec : ChangeSpec := { name := "mergeSettles", fn := fun _ => fun
  | [d1, d2, d3] => { results := [.lit (.bool true)], args := [d1, d2, d3] }
  | _ => none }
def mergeSettlesRow : OpenClaim := { program := "ytpgpdmmobblffaagreat", sum := "170c5a592bb2b938b0495d0981f829d02af314fcc006265df2ff6573c9510f51", func := "confluent/confluentlaw34.MergeSettles", spec := "mergeSettles", inPlace := ["slices.overlaps[confluent/api.Mark]"], unfollowed := true, recurses := true, plainKeys := false, apart := false }
def MergeSettlesSaid : Prop := mergeSettlesRow.holds Tryz.pinned (OpenSpec.ofChange mergeSettlesSpec)

/-- ITS FALSE NEIGHBOUR: 'it returns false'. Refute it at one input. -/
def mergeSettlesWrong : ChangeSpec := { name := "mergeSettles", fn := fun _ => fun
  | [d1, d2, d3] => { results := [.lit (.bool false)], args := [d1, d2, d3] }
  | _ => none }
def MergeSettlesWrongFalsely : Prop := mergeSettlesRow.holds Tryz.pinned (OpenSpec.ofChange mergeSettlesWrong)

/-- 'confluentlaw34.MergeJoins': WHATEVER THE INPUT: true; the input reads as it did. -/
def mergeJoinsSpec : ChangeSpec := { name := "mergeJoins", fn := fun _ => fun
  | [d1, d2, d3, d4, d5] => { results := [.lit (.bool true)], args := [d1, d2, d3, d4, d5] }
  | _ => none }
def mergeJoinsRow : OpenClaim := { program := "ytpgpdmmobblffaagreat", sum := "170c5a592bb2b938b0495d0981f829d02af314fcc006265df2ff6573c9510f51", func := "confluent/confluentlaw34.MergeJoins", spec := "mergeJoins", inPlace := ["slices.overlaps[confluent/api.Mark]"], unfollowed := true, recurses := true, plainKeys := false, apart := false }
def MergeJoinsSaid : Prop := mergeJoinsRow.holds Tryz.pinned (OpenSpec.ofChange mergeJoinsSpec)

/-- ITS FALSE NEIGHBOUR: 'it returns false'. Refute it at one input. -/
def mergeJoinsWrong : ChangeSpec := { name := "mergeJoins", fn := fun _ => fun
  | [d1, d2, d3, d4, d5] => { results := [.lit (.bool false)], args := [d1, d2, d3, d4, d5] }
  | _ => none }
def MergeJoinsWrongFalsely : Prop := mergeJoinsRow.holds Tryz.pinned (OpenSpec.ofChange mergeJoinsWrong)

/-- 'confluentlaw34.MergeUnions': WHATEVER THE INPUT: true; the input reads as it did. -/
def mergeUnionsSpec : ChangeSpec := { name := "mergeUnions", fn := fun _ => fun
  | [d1, d2, d3, d4] => { results := [.lit (.bool true)], args := [d1, d2, d3, d4] }
  | _ => none }
def mergeUnionsRow : OpenClaim := { program := "ytpgpdmmobblffaagreat", sum := "170c5a592bb2b938b0495d0981f829d02af314fcc006265df2ff6573c9510f51", func := "confluent/confluentlaw34.MergeUnions", spec := "mergeUnions", inPlace := ["slices.overlaps[confluent/api.Mark]"], unfollowed := true, recurses := true, plainKeys := false, apart := false }
def MergeUnionsSaid : Prop := mergeUnionsRow.holds Tryz.pinned (OpenSpec.ofChange mergeUnionsSpec)

/-- ITS FALSE NEIGHBOUR: 'it returns false'. Refute it at one input. -/
def mergeUnionsWrong : ChangeSpec := { name := "mergeUnions", fn := fun _ => fun
  | [d1, d2, d3, d4] => { results := [.lit (.bool false)], args := [d1, d2, d3, d4] }
  | _ => none }
def MergeUnionsWrongFalsely : Prop := mergeUnionsRow.holds Tryz.pinned (OpenSpec.ofChange mergeUnionsWrong)

/- THE SECOND FORM. 'bulk': how many values and letters a reading holds, each counted each time it is reached (what is shared counts as often as it is met; a slice's spare places count too). A statement '..UptoSaid' is the law's where the arguments, and the package variables that the reading takes, are together of bulk at most 1048576: NARROWER than '..Said'. Prove '..Said' where nothing that the law and all that it calls make is longer than what came in: it says more and counts as full. Else prove '..UptoSaid'. A law counts once. -/
mutual
def uptoBulk {H : Type} : DataW H → Nat
  | .lit (.string bytes) => bytes.length + 1
  | .lit _ => 1
  | .nil => 1
  | .ptr d => uptoBulk d + 1
  | .slice elems spare => uptoBulkAll elems + uptoBulkAll spare + 1
  | .agg parts => uptoBulkAll parts + 1
  | .iface _ d => uptoBulk d + 1
  | .map entries => uptoBulkEntries entries + 1
  | .held _ => 1
def uptoBulkAll {H : Type} : List (DataW H) → Nat
  | [] => 0
  | d :: r => uptoBulk d + uptoBulkAll r
def uptoBulkEntries {H : Type} : List (Lit × DataW H) → Nat
  | [] => 0
  | x :: r => uptoBulkEntry x + uptoBulkEntries r
def uptoBulkEntry {H : Type} : Lit × DataW H → Nat
  | (.string bytes, d) => bytes.length + uptoBulk d + 1
  | (_, d) => uptoBulk d + 1
 end
def uptoSmall : (H : Type) → List (DataW H) → Bool := fun _ ds => decide (uptoBulkAll ds ≤ 1048576)
def OpenSpec.upto (s : _root_.Go.ChangeSpec) : _root_.Go.OpenSpec := { _root_.Go.OpenSpec.ofChange s with cond := some uptoSmall }

/-- 'confluentlaw34.MergeApart', WHERE WHAT IT READS IS OF BULK AT MOST 1048576: true; the input reads as it did. -/
def mergeApartUptoRow : OpenClaim := { program := "ytpgpdmmobblffaagreat", sum := "170c5a592bb2b938b0495d0981f829d02af314fcc006265df2ff6573c9510f51", func := "confluent/confluentlaw34.MergeApart", spec := "mergeApart", inPlace := ["slices.overlaps[confluent/api.Mark]"], unfollowed := true, recurses := true, plainKeys := false, apart := false, narrowed := true }
def MergeApartUptoSaid : Prop := mergeApartUptoRow.holds Tryz.pinned (OpenSpec.upto mergeApartSpec)

/-- 'confluentlaw34.MergeForms', WHERE WHAT IT READS IS OF BULK AT MOST 1048576: true; the input reads as it did. -/
def mergeFormsUptoRow : OpenClaim := { program := "ytpgpdmmobblffaagreat", sum := "170c5a592bb2b938b0495d0981f829d02af314fcc006265df2ff6573c9510f51", func := "confluent/confluentlaw34.MergeForms", spec := "mergeForms", inPlace := ["slices.overlaps[confluent/api.Mark]"], unfollowed := true, recurses := true, plainKeys := false, apart := false, narrowed := true }
def MergeFormsUptoSaid : Prop := mergeFormsUptoRow.holds Tryz.pinned (OpenSpec.upto mergeFormsSpec)

/-- 'confluentlaw34.MergeSettles', WHERE WHAT IT READS IS OF BULK AT MOST 1048576: true; the input reads as it did. -/
def mergeSettlesUptoRow : OpenClaim := { program := "ytpgpdmmobblffaagreat", sum := "170c5a592bb2b938b0495d0981f829d02af314fcc006265df2ff6573c9510f51", func := "confluent/confluentlaw34.MergeSettles", spec := "mergeSettles", inPlace := ["slices.overlaps[confluent/api.Mark]"], unfollowed := true, recurses := true, plainKeys := false, apart := false, narrowed := true }
def MergeSettlesUptoSaid : Prop := mergeSettlesUptoRow.holds Tryz.pinned (OpenSpec.upto mergeSettlesSpec)

/-- 'confluentlaw34.MergeJoins', WHERE WHAT IT READS IS OF BULK AT MOST 1048576: true; the input reads as it did. -/
def mergeJoinsUptoRow : OpenClaim := { program := "ytpgpdmmobblffaagreat", sum := "170c5a592bb2b938b0495d0981f829d02af314fcc006265df2ff6573c9510f51", func := "confluent/confluentlaw34.MergeJoins", spec := "mergeJoins", inPlace := ["slices.overlaps[confluent/api.Mark]"], unfollowed := true, recurses := true, plainKeys := false, apart := false, narrowed := true }
def MergeJoinsUptoSaid : Prop := mergeJoinsUptoRow.holds Tryz.pinned (OpenSpec.upto mergeJoinsSpec)

/-- 'confluentlaw34.MergeUnions', WHERE WHAT IT READS IS OF BULK AT MOST 1048576: true; the input reads as it did. -/
def mergeUnionsUptoRow : OpenClaim := { program := "ytpgpdmmobblffaagreat", sum := "170c5a592bb2b938b0495d0981f829d02af314fcc006265df2ff6573c9510f51", func := "confluent/confluentlaw34.MergeUnions", spec := "mergeUnions", inPlace := ["slices.overlaps[confluent/api.Mark]"], unfollowed := true, recurses := true, plainKeys := false, apart := false, narrowed := true }
def MergeUnionsUptoSaid : Prop := mergeUnionsUptoRow.holds Tryz.pinned (OpenSpec.upto mergeUnionsSpec)

end Rows
end Go.Proofs.YtpgpdmmobblffaaGreat
