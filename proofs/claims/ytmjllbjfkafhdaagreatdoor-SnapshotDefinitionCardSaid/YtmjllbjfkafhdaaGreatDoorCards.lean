/-
  DERIVED. GIVEN WITH THE SEED: THE CARDS: each row of YtmjllbjfkafhdaaGreatDoorRows.lean that lists a variable, with what it lists TIED to the program's text (the seventh form; the later family's looks); each row that meets fmt, with fmt's text TOLD by the authors' own Lean function (tested against real Go, not proved from fmt's source: count such statements apart). THE CARD IS WHAT COUNTS. Prove the row's statement (the work); the ties are given (YtmjllbjfkafhdaaGreatDoorTie.lean); close each card by the builder's one call (the guide's Derived/Test/ToyasCard.lean, 'card_holds'). Laid BY PROGRAM, IN A SANDBOX (cutbox-door.mjs). By AI agents, Wed Nov 11 2026. No macro, syntax, notation, axiom, sorry.
-/
import Derived.Test.YtmjllbjfkafhdaaGreatDoorRows
import GoSem.ClaimSeven
namespace Go.Proofs.YtmjllbjfkafhdaaGreatDoor
namespace Rows

/-- THE TIED CARD OF 'confluentlaw53.SnapshotReads'. -/
def snapshotReadsCard : Claim7 := { stood := { row := snapshotReadsRow, standIns := [], harness := (true, "f0c9131c7071487561838c5fd10ad184cd06373d64f188cad1dcc86a924dd170"), looks := false }, kinds := [], alts := [], laidByText := true, laidKinds := [.listed, .data], laidTests := true, laidLooks := .later }
def SnapshotReadsCardSaid : Prop := Claim7.holds Tryz.pinned (.plain (OpenSpec.ofChange snapshotReadsSpec)) snapshotReadsCard

/-- THE TIED CARD OF 'confluentlaw53.SnapshotDefinition'. -/
def snapshotDefinitionCard : Claim7 := { stood := { row := snapshotDefinitionRow, standIns := [], harness := (true, "f0c9131c7071487561838c5fd10ad184cd06373d64f188cad1dcc86a924dd170"), looks := false }, kinds := [], alts := [], laidByText := true, laidKinds := [.listed, .data], laidTests := true, laidLooks := .later }
def SnapshotDefinitionCardSaid : Prop := Claim7.holds Tryz.pinned (.plain (OpenSpec.ofChange snapshotDefinitionSpec)) snapshotDefinitionCard

/-- THE TIED CARD OF 'confluentlaw53.SnapshotStays'. -/
def snapshotStaysCard : Claim7 := { stood := { row := snapshotStaysRow, standIns := [], harness := (true, "f0c9131c7071487561838c5fd10ad184cd06373d64f188cad1dcc86a924dd170"), looks := false }, kinds := [], alts := [], laidByText := true, laidKinds := [.listed, .data], laidTests := true, laidLooks := .later }
def SnapshotStaysCardSaid : Prop := Claim7.holds Tryz.pinned (.plain (OpenSpec.ofChange snapshotStaysSpec)) snapshotStaysCard

/-- THE TIED CARD OF 'confluentlaw53.SnapshotCommon'. -/
def snapshotCommonCard : Claim7 := { stood := { row := snapshotCommonRow, standIns := [], harness := (true, "f0c9131c7071487561838c5fd10ad184cd06373d64f188cad1dcc86a924dd170"), looks := false }, kinds := [], alts := [], laidByText := true, laidKinds := [.listed, .data], laidTests := true, laidLooks := .later }
def SnapshotCommonCardSaid : Prop := Claim7.holds Tryz.pinned (.plain (OpenSpec.ofChange snapshotCommonSpec)) snapshotCommonCard

/-- THE TIED CARD OF 'confluentlaw53.SnapshotErrors'. -/
def snapshotErrorsCard : Claim7 := { stood := { row := snapshotErrorsRow, standIns := [], harness := (true, "f0c9131c7071487561838c5fd10ad184cd06373d64f188cad1dcc86a924dd170"), looks := false }, kinds := [], alts := [], laidByText := true, laidKinds := [.listed, .data], laidTests := true, laidLooks := .later }
def SnapshotErrorsCardSaid : Prop := Claim7.holds Tryz.pinned (.plain (OpenSpec.ofChange snapshotErrorsSpec)) snapshotErrorsCard

/-- THE TIED CARD OF 'confluentlaw53.SnapshotChanges'. -/
def snapshotChangesCard : Claim7 := { stood := { row := snapshotChangesRow, standIns := [], harness := (true, "f0c9131c7071487561838c5fd10ad184cd06373d64f188cad1dcc86a924dd170"), looks := false }, kinds := [], alts := [], laidByText := true, laidKinds := [.listed, .data], laidTests := true, laidLooks := .later }
def SnapshotChangesCardSaid : Prop := Claim7.holds Tryz.pinned (.plain (OpenSpec.ofChange snapshotChangesSpec)) snapshotChangesCard

/-- THE SECOND FORM's CARD OF 'confluentlaw53.SnapshotReads'. -/
def snapshotReadsUptoCard : Claim7 := { stood := { row := snapshotReadsUptoRow, standIns := [], harness := (true, "f0c9131c7071487561838c5fd10ad184cd06373d64f188cad1dcc86a924dd170"), looks := false }, kinds := [], alts := [], laidByText := true, laidKinds := [.listed, .data], laidTests := true, laidLooks := .later }
def SnapshotReadsUptoCardSaid : Prop := Claim7.holds Tryz.pinned (.plain (OpenSpec.upto snapshotReadsSpec)) snapshotReadsUptoCard

/-- THE SECOND FORM's CARD OF 'confluentlaw53.SnapshotDefinition'. -/
def snapshotDefinitionUptoCard : Claim7 := { stood := { row := snapshotDefinitionUptoRow, standIns := [], harness := (true, "f0c9131c7071487561838c5fd10ad184cd06373d64f188cad1dcc86a924dd170"), looks := false }, kinds := [], alts := [], laidByText := true, laidKinds := [.listed, .data], laidTests := true, laidLooks := .later }
def SnapshotDefinitionUptoCardSaid : Prop := Claim7.holds Tryz.pinned (.plain (OpenSpec.upto snapshotDefinitionSpec)) snapshotDefinitionUptoCard

/-- THE SECOND FORM's CARD OF 'confluentlaw53.SnapshotStays'. -/
def snapshotStaysUptoCard : Claim7 := { stood := { row := snapshotStaysUptoRow, standIns := [], harness := (true, "f0c9131c7071487561838c5fd10ad184cd06373d64f188cad1dcc86a924dd170"), looks := false }, kinds := [], alts := [], laidByText := true, laidKinds := [.listed, .data], laidTests := true, laidLooks := .later }
def SnapshotStaysUptoCardSaid : Prop := Claim7.holds Tryz.pinned (.plain (OpenSpec.upto snapshotStaysSpec)) snapshotStaysUptoCard

/-- THE SECOND FORM's CARD OF 'confluentlaw53.SnapshotCommon'. -/
def snapshotCommonUptoCard : Claim7 := { stood := { row := snapshotCommonUptoRow, standIns := [], harness := (true, "f0c9131c7071487561838c5fd10ad184cd06373d64f188cad1dcc86a924dd170"), looks := false }, kinds := [], alts := [], laidByText := true, laidKinds := [.listed, .data], laidTests := true, laidLooks := .later }
def SnapshotCommonUptoCardSaid : Prop := Claim7.holds Tryz.pinned (.plain (OpenSpec.upto snapshotCommonSpec)) snapshotCommonUptoCard

/-- THE SECOND FORM's CARD OF 'confluentlaw53.SnapshotErrors'. -/
def snapshotErrorsUptoCard : Claim7 := { stood := { row := snapshotErrorsUptoRow, standIns := [], harness := (true, "f0c9131c7071487561838c5fd10ad184cd06373d64f188cad1dcc86a924dd170"), looks := false }, kinds := [], alts := [], laidByText := true, laidKinds := [.listed, .data], laidTests := true, laidLooks := .later }
def SnapshotErrorsUptoCardSaid : Prop := Claim7.holds Tryz.pinned (.plain (OpenSpec.upto snapshotErrorsSpec)) snapshotErrorsUptoCard

/-- THE SECOND FORM's CARD OF 'confluentlaw53.SnapshotChanges'. -/
def snapshotChangesUptoCard : Claim7 := { stood := { row := snapshotChangesUptoRow, standIns := [], harness := (true, "f0c9131c7071487561838c5fd10ad184cd06373d64f188cad1dcc86a924dd170"), looks := false }, kinds := [], alts := [], laidByText := true, laidKinds := [.listed, .data], laidTests := true, laidLooks := .later }
def SnapshotChangesUptoCardSaid : Prop := Claim7.holds Tryz.pinned (.plain (OpenSpec.upto snapshotChangesSpec)) snapshotChangesUptoCard
end Rows
end Go.Proofs.YtmjllbjfkafhdaaGreatDoor
