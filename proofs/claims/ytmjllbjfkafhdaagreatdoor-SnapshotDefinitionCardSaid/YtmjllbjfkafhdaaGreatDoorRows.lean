/-
  NARROWER THAN 'FOR EVERY INPUT', by the rows' own cells (each row's printed sentence says how): SnapshotReads: laid · SnapshotDefinition: laid · SnapshotStays: laid · SnapshotCommon: laid · SnapshotErrors: laid · SnapshotChanges: laid.
  DERIVED. THE GIVEN ROWS OF THIS SEAT. 6 by the template 'for every input the law returns true; each argument reads behind the call as it read before'; 0 by the template 'total and deterministic' (their statements: YtmjllbjfkafhdaaGreatDoorTotals.lean).
  GIVEN WITH THE SEED: the statements are not yours to turn. If you find one false, say at which input.
  Laid BY PROGRAM, IN A SANDBOX (cutbox-rows.mjs): the forced cells as the released guide's own fill.sh prints them over the translation c751cb5923390c67… (all of the seat's roots in one cut). By AI agents, Wed Nov 11 2026. No macro, syntax, notation, axiom, sorry.
-/
import Derived.Test.YtmjllbjfkafhdaaGreatDoorChecked
import GoSem.Claim
import GoSem.ClaimJoined
import GoSem.ClaimMapViews
import Derived.JoinedTies
import Derived.KernelRfl
namespace Go.Proofs.YtmjllbjfkafhdaaGreatDoor
/- THE CELL 'sum', in the pinned program and in every row, IS THE sha256 OF THE DUMP (.gsa) THAT YtmjllbjfkafhdaaGreatDoorProg.lean LOADS. Nothing in Lean hashes anything: it is a label: what it is worth is what the hold of that sum in a sandbox is worth. -/
noncomputable def Tryz.pinned : Pinned := { name := "ytmjllbjfkafhdaagreatdoor", sum := "c751cb5923390c67362287bff6aa8664e6c4e313603a2c8245287cb5c276b798", checked := Tryz.checked }
namespace Rows
def none {H : Type} : Left H := { results := [], args := [] }

/- WHAT THE LISTED PACKAGE-LEVEL VARIABLES READ AS WHEN THE CALL BEGINS. Each datum BY PROGRAM (the guide's laid-datum.mjs) off the statement by which the dump's own 'gosem.cut.vars' lays the variable. In a bare row this is a premise. The card (YtmjllbjfkafhdaaGreatDoorCards.lean) ties it to the program's text. -/
def laid_unicode_White_Space {H : Type} : DataW H := .ptr (.agg [.slice [.agg [.lit (.int .u16 9), .lit (.int .u16 13), .lit (.int .u16 1)], .agg [.lit (.int .u16 32), .lit (.int .u16 133), .lit (.int .u16 101)], .agg [.lit (.int .u16 160), .lit (.int .u16 5760), .lit (.int .u16 5600)], .agg [.lit (.int .u16 8192), .lit (.int .u16 8202), .lit (.int .u16 1)], .agg [.lit (.int .u16 8232), .lit (.int .u16 8233), .lit (.int .u16 1)], .agg [.lit (.int .u16 8239), .lit (.int .u16 8287), .lit (.int .u16 48)], .agg [.lit (.int .u16 12288), .lit (.int .u16 12288), .lit (.int .u16 1)]] [], .nil, .lit (.int .i64 2)])
def laid_strings_asciiSpace {H : Type} : DataW H := .agg [.lit (.int .u8 0), .lit (.int .u8 0), .lit (.int .u8 0), .lit (.int .u8 0), .lit (.int .u8 0), .lit (.int .u8 0), .lit (.int .u8 0), .lit (.int .u8 0), .lit (.int .u8 0), .lit (.int .u8 1), .lit (.int .u8 1), .lit (.int .u8 1), .lit (.int .u8 1), .lit (.int .u8 1), .lit (.int .u8 0), .lit (.int .u8 0), .lit (.int .u8 0), .lit (.int .u8 0), .lit (.int .u8 0), .lit (.int .u8 0), .lit (.int .u8 0), .lit (.int .u8 0), .lit (.int .u8 0), .lit (.int .u8 0), .lit (.int .u8 0), .lit (.int .u8 0), .lit (.int .u8 0), .lit (.int .u8 0), .lit (.int .u8 0), .lit (.int .u8 0), .lit (.int .u8 0), .lit (.int .u8 0), .lit (.int .u8 1), .lit (.int .u8 0), .lit (.int .u8 0), .lit (.int .u8 0), .lit (.int .u8 0), .lit (.int .u8 0), .lit (.int .u8 0), .lit (.int .u8 0), .lit (.int .u8 0), .lit (.int .u8 0), .lit (.int .u8 0), .lit (.int .u8 0), .lit (.int .u8 0), .lit (.int .u8 0), .lit (.int .u8 0), .lit (.int .u8 0), .lit (.int .u8 0), .lit (.int .u8 0), .lit (.int .u8 0), .lit (.int .u8 0), .lit (.int .u8 0), .lit (.int .u8 0), .lit (.int .u8 0), .lit (.int .u8 0), .lit (.int .u8 0), .lit (.int .u8 0), .lit (.int .u8 0), .lit (.int .u8 0), .lit (.int .u8 0), .lit (.int .u8 0), .lit (.int .u8 0), .lit (.int .u8 0), .lit (.int .u8 0), .lit (.int .u8 0), .lit (.int .u8 0), .lit (.int .u8 0), .lit (.int .u8 0), .lit (.int .u8 0), .lit (.int .u8 0), .lit (.int .u8 0), .lit (.int .u8 0), .lit (.int .u8 0), .lit (.int .u8 0), .lit (.int .u8 0), .lit (.int .u8 0), .lit (.int .u8 0), .lit (.int .u8 0), .lit (.int .u8 0), .lit (.int .u8 0), .lit (.int .u8 0), .lit (.int .u8 0), .lit (.int .u8 0), .lit (.int .u8 0), .lit (.int .u8 0), .lit (.int .u8 0), .lit (.int .u8 0), .lit (.int .u8 0), .lit (.int .u8 0), .lit (.int .u8 0), .lit (.int .u8 0), .lit (.int .u8 0), .lit (.int .u8 0), .lit (.int .u8 0), .lit (.int .u8 0), .lit (.int .u8 0), .lit (.int .u8 0), .lit (.int .u8 0), .lit (.int .u8 0), .lit (.int .u8 0), .lit (.int .u8 0), .lit (.int .u8 0), .lit (.int .u8 0), .lit (.int .u8 0), .lit (.int .u8 0), .lit (.int .u8 0), .lit (.int .u8 0), .lit (.int .u8 0), .lit (.int .u8 0), .lit (.int .u8 0), .lit (.int .u8 0), .lit (.int .u8 0), .lit (.int .u8 0), .lit (.int .u8 0), .lit (.int .u8 0), .lit (.int .u8 0), .lit (.int .u8 0), .lit (.int .u8 0), .lit (.int .u8 0), .lit (.int .u8 0), .lit (.int .u8 0), .lit (.int .u8 0), .lit (.int .u8 0), .lit (.int .u8 0), .lit (.int .u8 0), .lit (.int .u8 0), .lit (.int .u8 0), .lit (.int .u8 0), .lit (.int .u8 0), .lit (.int .u8 0), .lit (.int .u8 0), .lit (.int .u8 0), .lit (.int .u8 0), .lit (.int .u8 0), .lit (.int .u8 0), .lit (.int .u8 0), .lit (.int .u8 0), .lit (.int .u8 0), .lit (.int .u8 0), .lit (.int .u8 0), .lit (.int .u8 0), .lit (.int .u8 0), .lit (.int .u8 0), .lit (.int .u8 0), .lit (.int .u8 0), .lit (.int .u8 0), .lit (.int .u8 0), .lit (.int .u8 0), .lit (.int .u8 0), .lit (.int .u8 0), .lit (.int .u8 0), .lit (.int .u8 0), .lit (.int .u8 0), .lit (.int .u8 0), .lit (.int .u8 0), .lit (.int .u8 0), .lit (.int .u8 0), .lit (.int .u8 0), .lit (.int .u8 0), .lit (.int .u8 0), .lit (.int .u8 0), .lit (.int .u8 0), .lit (.int .u8 0), .lit (.int .u8 0), .lit (.int .u8 0), .lit (.int .u8 0), .lit (.int .u8 0), .lit (.int .u8 0), .lit (.int .u8 0), .lit (.int .u8 0), .lit (.int .u8 0), .lit (.int .u8 0), .lit (.int .u8 0), .lit (.int .u8 0), .lit (.int .u8 0), .lit (.int .u8 0), .lit (.int .u8 0), .lit (.int .u8 0), .lit (.int .u8 0), .lit (.int .u8 0), .lit (.int .u8 0), .lit (.int .u8 0), .lit (.int .u8 0), .lit (.int .u8 0), .lit (.int .u8 0), .lit (.int .u8 0), .lit (.int .u8 0), .lit (.int .u8 0), .lit (.int .u8 0), .lit (.int .u8 0), .lit (.int .u8 0), .lit (.int .u8 0), .lit (.int .u8 0), .lit (.int .u8 0), .lit (.int .u8 0), .lit (.int .u8 0), .lit (.int .u8 0), .lit (.int .u8 0), .lit (.int .u8 0), .lit (.int .u8 0), .lit (.int .u8 0), .lit (.int .u8 0), .lit (.int .u8 0), .lit (.int .u8 0), .lit (.int .u8 0), .lit (.int .u8 0), .lit (.int .u8 0), .lit (.int .u8 0), .lit (.int .u8 0), .lit (.int .u8 0), .lit (.int .u8 0), .lit (.int .u8 0), .lit (.int .u8 0), .lit (.int .u8 0), .lit (.int .u8 0), .lit (.int .u8 0), .lit (.int .u8 0), .lit (.int .u8 0), .lit (.int .u8 0), .lit (.int .u8 0), .lit (.int .u8 0), .lit (.int .u8 0), .lit (.int .u8 0), .lit (.int .u8 0), .lit (.int .u8 0), .lit (.int .u8 0), .lit (.int .u8 0), .lit (.int .u8 0), .lit (.int .u8 0), .lit (.int .u8 0), .lit (.int .u8 0), .lit (.int .u8 0), .lit (.int .u8 0), .lit (.int .u8 0), .lit (.int .u8 0), .lit (.int .u8 0), .lit (.int .u8 0), .lit (.int .u8 0), .lit (.int .u8 0), .lit (.int .u8 0), .lit (.int .u8 0), .lit (.int .u8 0), .lit (.int .u8 0), .lit (.int .u8 0), .lit (.int .u8 0), .lit (.int .u8 0), .lit (.int .u8 0), .lit (.int .u8 0), .lit (.int .u8 0), .lit (.int .u8 0), .lit (.int .u8 0), .lit (.int .u8 0), .lit (.int .u8 0), .lit (.int .u8 0), .lit (.int .u8 0)]

/-- 'confluentlaw53.SnapshotReads': WHATEVER THE INPUT: true; the input reads as it did. -/
def snapshotReadsSpec : ChangeSpec := { name := "snapshotReads", fn := fun _ => fun
  | [d1, d2, d3, d4, d5, d6, d7, d8] => { results := [.lit (.bool true)], args := [d1, d2, d3, d4, d5, d6, d7, d8] }
  | _ => none }
def snapshotReadsRow : OpenClaim := { program := "ytmjllbjfkafhdaagreatdoor", sum := "c751cb5923390c67362287bff6aa8664e6c4e313603a2c8245287cb5c276b798", func := "confluent/confluentlaw53.SnapshotReads", spec := "snapshotReads", inPlace := ["slices.overlaps[confluent/api.Mark]", "slices.overlaps[int]", "internal/bytealg.IndexByteString"], unfollowed := true, recurses := true, named := ["strings.asciiSpace", "unicode.White_Space"], plainKeys := false, apart := false, laid := [("unicode.White_Space", laid_unicode_White_Space), ("strings.asciiSpace", laid_strings_asciiSpace)] }
def SnapshotReadsSaid : Prop := snapshotReadsRow.holds Tryz.pinned (OpenSpec.ofChange snapshotReadsSpec)

/-- ITS FALSE NEIGHBOUR: 'it returns false'. Refute it at one input. -/
def snapshotReadsWrong : ChangeSpec := { name := "snapshotReads", fn := fun _ => fun
  | [d1, d2, d3, d4, d5, d6, d7, d8] => { results := [.lit (.bool false)], args := [d1, d2, d3, d4, d5, d6, d7, d8] }
  | _ => none }
def SnapshotReadsWrongFalsely : Prop := snapshotReadsRow.holds Tryz.pinned (OpenSpec.ofChange snapshotReadsWrong)

/-- 'confluentlaw53.SnapshotDefinition': WHATEVER THE INPUT: true; the input reads as it did. -/
def snapshotDefinitionSpec : ChangeSpec := { name := "snapshotDefinition", fn := fun _ => fun
  | [d1, d2, d3, d4, d5, d6] => { results := [.lit (.bool true)], args := [d1, d2, d3, d4, d5, d6] }
  | _ => none }
def snapshotDefinitionRow : OpenClaim := { program := "ytmjllbjfkafhdaagreatdoor", sum := "c751cb5923390c67362287bff6aa8664e6c4e313603a2c8245287cb5c276b798", func := "confluent/confluentlaw53.SnapshotDefinition", spec := "snapshotDefinition", inPlace := ["slices.overlaps[confluent/api.Mark]", "slices.overlaps[int]", "internal/bytealg.IndexByteString"], unfollowed := true, recurses := true, named := ["strings.asciiSpace", "unicode.White_Space"], plainKeys := false, apart := false, laid := [("unicode.White_Space", laid_unicode_White_Space), ("strings.asciiSpace", laid_strings_asciiSpace)] }
def SnapshotDefinitionSaid : Prop := snapshotDefinitionRow.holds Tryz.pinned (OpenSpec.ofChange snapshotDefinitionSpec)

/-- ITS FALSE NEIGHBOUR: 'it returns false'. Refute it at one input. -/
def snapshotDefinitionWrong : ChangeSpec := { name := "snapshotDefinition", fn := fun _ => fun
  | [d1, d2, d3, d4, d5, d6] => { results := [.lit (.bool false)], args := [d1, d2, d3, d4, d5, d6] }
  | _ => none }
def SnapshotDefinitionWrongFalsely : Prop := snapshotDefinitionRow.holds Tryz.pinned (OpenSpec.ofChange snapshotDefinitionWrong)

/-- 'confluentlaw53.SnapshotStays': WHATEVER THE INPUT: true; the input reads as it did. -/
def snapshotStaysSpec : ChangeSpec := { name := "snapshotStays", fn := fun _ => fun
  | [d1, d2, d3, d4, d5] => { results := [.lit (.bool true)], args := [d1, d2, d3, d4, d5] }
  | _ => none }
def snapshotStaysRow : OpenClaim := { program := "ytmjllbjfkafhdaagreatdoor", sum := "c751cb5923390c67362287bff6aa8664e6c4e313603a2c8245287cb5c276b798", func := "confluent/confluentlaw53.SnapshotStays", spec := "snapshotStays", inPlace := ["slices.overlaps[confluent/api.Mark]", "slices.overlaps[int]", "internal/bytealg.IndexByteString"], unfollowed := true, recurses := true, named := ["strings.asciiSpace", "unicode.White_Space"], plainKeys := false, apart := false, laid := [("unicode.White_Space", laid_unicode_White_Space), ("strings.asciiSpace", laid_strings_asciiSpace)] }
def SnapshotStaysSaid : Prop := snapshotStaysRow.holds Tryz.pinned (OpenSpec.ofChange snapshotStaysSpec)

/-- ITS FALSE NEIGHBOUR: 'it returns false'. Refute it at one input. -/
def snapshotStaysWrong : ChangeSpec := { name := "snapshotStays", fn := fun _ => fun
  | [d1, d2, d3, d4, d5] => { results := [.lit (.bool false)], args := [d1, d2, d3, d4, d5] }
  | _ => none }
def SnapshotStaysWrongFalsely : Prop := snapshotStaysRow.holds Tryz.pinned (OpenSpec.ofChange snapshotStaysWrong)

/-- 'confluentlaw53.SnapshotCommon': WHATEVER THE INPUT: true; the input reads as it did. -/
def snapshotCommonSpec : ChangeSpec := { name := "snapshotCommon", fn := fun _ => fun
  | [d1, d2, d3, d4] => { results := [.lit (.bool true)], args := [d1, d2, d3, d4] }
  | _ => none }
def snapshotCommonRow : OpenClaim := { program := "ytmjllbjfkafhdaagreatdoor", sum := "c751cb5923390c67362287bff6aa8664e6c4e313603a2c8245287cb5c276b798", func := "confluent/confluentlaw53.SnapshotCommon", spec := "snapshotCommon", inPlace := ["slices.overlaps[confluent/api.Mark]", "slices.overlaps[int]", "internal/bytealg.IndexByteString"], unfollowed := true, recurses := true, named := ["strings.asciiSpace", "unicode.White_Space"], plainKeys := false, apart := false, laid := [("unicode.White_Space", laid_unicode_White_Space), ("strings.asciiSpace", laid_strings_asciiSpace)] }
def SnapshotCommonSaid : Prop := snapshotCommonRow.holds Tryz.pinned (OpenSpec.ofChange snapshotCommonSpec)

/-- ITS FALSE NEIGHBOUR: 'it returns false'. Refute it at one input. -/
def snapshotCommonWrong : ChangeSpec := { name := "snapshotCommon", fn := fun _ => fun
  | [d1, d2, d3, d4] => { results := [.lit (.bool false)], args := [d1, d2, d3, d4] }
  | _ => none }
def SnapshotCommonWrongFalsely : Prop := snapshotCommonRow.holds Tryz.pinned (OpenSpec.ofChange snapshotCommonWrong)

/-- 'confluentlaw53.SnapshotErrors': WHATEVER THE INPUT: true; the input reads as it did. -/
def snapshotErrorsSpec : ChangeSpec := { name := "snapshotErrors", fn := fun _ => fun
  | [d1, d2] => { results := [.lit (.bool true)], args := [d1, d2] }
  | _ => none }
def snapshotErrorsRow : OpenClaim := { program := "ytmjllbjfkafhdaagreatdoor", sum := "c751cb5923390c67362287bff6aa8664e6c4e313603a2c8245287cb5c276b798", func := "confluent/confluentlaw53.SnapshotErrors", spec := "snapshotErrors", inPlace := ["slices.overlaps[confluent/api.Mark]", "slices.overlaps[int]", "internal/bytealg.IndexByteString"], unfollowed := true, recurses := true, named := ["strings.asciiSpace", "unicode.White_Space"], plainKeys := false, apart := false, laid := [("unicode.White_Space", laid_unicode_White_Space), ("strings.asciiSpace", laid_strings_asciiSpace)] }
def SnapshotErrorsSaid : Prop := snapshotErrorsRow.holds Tryz.pinned (OpenSpec.ofChange snapshotErrorsSpec)

/-- ITS FALSE NEIGHBOUR: 'it returns false'. Refute it at one input. -/
def snapshotErrorsWrong : ChangeSpec := { name := "snapshotErrors", fn := fun _ => fun
  | [d1, d2] => { results := [.lit (.bool false)], args := [d1, d2] }
  | _ => none }
def SnapshotErrorsWrongFalsely : Prop := snapshotErrorsRow.holds Tryz.pinned (OpenSpec.ofChange snapshotErrorsWrong)

/-- 'confluentlaw53.SnapshotChanges': WHATEVER THE INPUT: true; the input reads as it did. -/
def snapshotChangesSpec : ChangeSpec := { name := "snapshotChanges", fn := fun _ => fun
  | [d1, d2, d3, d4, d5, d6, d7, d8] => { results := [.lit (.bool true)], args := [d1, d2, d3, d4, d5, d6, d7, d8] }
  | _ => none }
def snapshotChangesRow : OpenClaim := { program := "ytmjllbjfkafhdaagreatdoor", sum := "c751cb5923390c67362287bff6aa8664e6c4e313603a2c8245287cb5c276b798", func := "confluent/confluentlaw53.SnapshotChanges", spec := "snapshotChanges", inPlace := ["slices.overlaps[confluent/api.Mark]", "slices.overlaps[int]", "internal/bytealg.IndexByteString"], unfollowed := true, recurses := true, named := ["strings.asciiSpace", "unicode.White_Space"], plainKeys := false, apart := false, laid := [("unicode.White_Space", laid_unicode_White_Space), ("strings.asciiSpace", laid_strings_asciiSpace)] }
def SnapshotChangesSaid : Prop := snapshotChangesRow.holds Tryz.pinned (OpenSpec.ofChange snapshotChangesSpec)

/-- ITS FALSE NEIGHBOUR: 'it returns false'. Refute it at one input. -/
def snapshotChangesWrong : ChangeSpec := { name := "snapshotChanges", fn := fun _ => fun
  | [d1, d2, d3, d4, d5, d6, d7, d8] => { results := [.lit (.bool false)], args := [d1, d2, d3, d4, d5, d6, d7, d8] }
  | _ => none }
def SnapshotChangesWrongFalsely : Prop := snapshotChangesRow.holds Tryz.pinned (OpenSpec.ofChange snapshotChangesWrong)

/- THE SECOND FORM. 'bulk': how many values and letters a reading holds, each counted each time it is reached (what is shared counts as often as it is met; a slice's spare places count too). A statement '..UptoSaid' is the law's where the arguments, and the package variables that the reading takes, are together of bulk at most 1048576: NARROWER than '..Said'. Prove '..Said' where nothing that the law and all that it calls make is longer than what came in: it says more and counts as full. Else prove '..UptoSaid'. A law counts once. -/
mutual
def uptoBulk {H : Type} : DataW H → Nat
  | .lit (.string bytes) => bytes.length + 1
  | .lit _ => 1
  | .nil => 1
  | .ptr d => uptoBulk d + 1
  | .slice elems spare => uptoBulkAll elems + uptoBulkAll spare + 1
  | .agg parts => uptoBulkAll parts + 1
  | .iface _ d => uptoBulk d + 1
  | .map entries => uptoBulkEntries entries + 1
  | .held _ => 1
def uptoBulkAll {H : Type} : List (DataW H) → Nat
  | [] => 0
  | d :: r => uptoBulk d + uptoBulkAll r
def uptoBulkEntries {H : Type} : List (Lit × DataW H) → Nat
  | [] => 0
  | x :: r => uptoBulkEntry x + uptoBulkEntries r
def uptoBulkEntry {H : Type} : Lit × DataW H → Nat
  | (.string bytes, d) => bytes.length + uptoBulk d + 1
  | (_, d) => uptoBulk d + 1
 end
def uptoSmall : (H : Type) → List (DataW H) → Bool := fun _ ds => decide (uptoBulkAll ds ≤ 1048576)
def OpenSpec.upto (s : _root_.Go.ChangeSpec) : _root_.Go.OpenSpec := { _root_.Go.OpenSpec.ofChange s with cond := some uptoSmall }

/-- 'confluentlaw53.SnapshotReads', WHERE WHAT IT READS IS OF BULK AT MOST 1048576: true; the input reads as it did. -/
def snapshotReadsUptoRow : OpenClaim := { program := "ytmjllbjfkafhdaagreatdoor", sum := "c751cb5923390c67362287bff6aa8664e6c4e313603a2c8245287cb5c276b798", func := "confluent/confluentlaw53.SnapshotReads", spec := "snapshotReads", inPlace := ["slices.overlaps[confluent/api.Mark]", "slices.overlaps[int]", "internal/bytealg.IndexByteString"], unfollowed := true, recurses := true, named := ["strings.asciiSpace", "unicode.White_Space"], plainKeys := false, apart := false, laid := [("unicode.White_Space", laid_unicode_White_Space), ("strings.asciiSpace", laid_strings_asciiSpace)], narrowed := true }
def SnapshotReadsUptoSaid : Prop := snapshotReadsUptoRow.holds Tryz.pinned (OpenSpec.upto snapshotReadsSpec)

/-- 'confluentlaw53.SnapshotDefinition', WHERE WHAT IT READS IS OF BULK AT MOST 1048576: true; the input reads as it did. -/
def snapshotDefinitionUptoRow : OpenClaim := { program := "ytmjllbjfkafhdaagreatdoor", sum := "c751cb5923390c67362287bff6aa8664e6c4e313603a2c8245287cb5c276b798", func := "confluent/confluentlaw53.SnapshotDefinition", spec := "snapshotDefinition", inPlace := ["slices.overlaps[confluent/api.Mark]", "slices.overlaps[int]", "internal/bytealg.IndexByteString"], unfollowed := true, recurses := true, named := ["strings.asciiSpace", "unicode.White_Space"], plainKeys := false, apart := false, laid := [("unicode.White_Space", laid_unicode_White_Space), ("strings.asciiSpace", laid_strings_asciiSpace)], narrowed := true }
def SnapshotDefinitionUptoSaid : Prop := snapshotDefinitionUptoRow.holds Tryz.pinned (OpenSpec.upto snapshotDefinitionSpec)

/-- 'confluentlaw53.SnapshotStays', WHERE WHAT IT READS IS OF BULK AT MOST 1048576: true; the input reads as it did. -/
def snapshotStaysUptoRow : OpenClaim := { program := "ytmjllbjfkafhdaagreatdoor", sum := "c751cb5923390c67362287bff6aa8664e6c4e313603a2c8245287cb5c276b798", func := "confluent/confluentlaw53.SnapshotStays", spec := "snapshotStays", inPlace := ["slices.overlaps[confluent/api.Mark]", "slices.overlaps[int]", "internal/bytealg.IndexByteString"], unfollowed := true, recurses := true, named := ["strings.asciiSpace", "unicode.White_Space"], plainKeys := false, apart := false, laid := [("unicode.White_Space", laid_unicode_White_Space), ("strings.asciiSpace", laid_strings_asciiSpace)], narrowed := true }
def SnapshotStaysUptoSaid : Prop := snapshotStaysUptoRow.holds Tryz.pinned (OpenSpec.upto snapshotStaysSpec)

/-- 'confluentlaw53.SnapshotCommon', WHERE WHAT IT READS IS OF BULK AT MOST 1048576: true; the input reads as it did. -/
def snapshotCommonUptoRow : OpenClaim := { program := "ytmjllbjfkafhdaagreatdoor", sum := "c751cb5923390c67362287bff6aa8664e6c4e313603a2c8245287cb5c276b798", func := "confluent/confluentlaw53.SnapshotCommon", spec := "snapshotCommon", inPlace := ["slices.overlaps[confluent/api.Mark]", "slices.overlaps[int]", "internal/bytealg.IndexByteString"], unfollowed := true, recurses := true, named := ["strings.asciiSpace", "unicode.White_Space"], plainKeys := false, apart := false, laid := [("unicode.White_Space", laid_unicode_White_Space), ("strings.asciiSpace", laid_strings_asciiSpace)], narrowed := true }
def SnapshotCommonUptoSaid : Prop := snapshotCommonUptoRow.holds Tryz.pinned (OpenSpec.upto snapshotCommonSpec)

/-- 'confluentlaw53.SnapshotErrors', WHERE WHAT IT READS IS OF BULK AT MOST 1048576: true; the input reads as it did. -/
def snapshotErrorsUptoRow : OpenClaim := { program := "ytmjllbjfkafhdaagreatdoor", sum := "c751cb5923390c67362287bff6aa8664e6c4e313603a2c8245287cb5c276b798", func := "confluent/confluentlaw53.SnapshotErrors", spec := "snapshotErrors", inPlace := ["slices.overlaps[confluent/api.Mark]", "slices.overlaps[int]", "internal/bytealg.IndexByteString"], unfollowed := true, recurses := true, named := ["strings.asciiSpace", "unicode.White_Space"], plainKeys := false, apart := false, laid := [("unicode.White_Space", laid_unicode_White_Space), ("strings.asciiSpace", laid_strings_asciiSpace)], narrowed := true }
def SnapshotErrorsUptoSaid : Prop := snapshotErrorsUptoRow.holds Tryz.pinned (OpenSpec.upto snapshotErrorsSpec)

/-- 'confluentlaw53.SnapshotChanges', WHERE WHAT IT READS IS OF BULK AT MOST 1048576: true; the input reads as it did. -/
def snapshotChangesUptoRow : OpenClaim := { program := "ytmjllbjfkafhdaagreatdoor", sum := "c751cb5923390c67362287bff6aa8664e6c4e313603a2c8245287cb5c276b798", func := "confluent/confluentlaw53.SnapshotChanges", spec := "snapshotChanges", inPlace := ["slices.overlaps[confluent/api.Mark]", "slices.overlaps[int]", "internal/bytealg.IndexByteString"], unfollowed := true, recurses := true, named := ["strings.asciiSpace", "unicode.White_Space"], plainKeys := false, apart := false, laid := [("unicode.White_Space", laid_unicode_White_Space), ("strings.asciiSpace", laid_strings_asciiSpace)], narrowed := true }
def SnapshotChangesUptoSaid : Prop := snapshotChangesUptoRow.holds Tryz.pinned (OpenSpec.upto snapshotChangesSpec)

end Rows
end Go.Proofs.YtmjllbjfkafhdaaGreatDoor
