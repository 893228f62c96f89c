/-
  DERIVED. GIVEN WITH THE SEED: THE CARDS: each row of YtcpmcadgknfpjaaGreatDoorRows.lean that lists a variable, with what it lists TIED to the program's text (the seventh form; the later family's looks); each row that meets fmt, with fmt's text TOLD by the authors' own Lean function (tested against real Go, not proved from fmt's source: count such statements apart). THE CARD IS WHAT COUNTS. Prove the row's statement (the work); the ties are given (YtcpmcadgknfpjaaGreatDoorTie.lean); close each card by the builder's one call (the guide's Derived/Test/ToyasCard.lean, 'card_holds'). Laid BY PROGRAM, IN A SANDBOX (cutbox-door.mjs). By AI agents, Wed Nov 11 2026. No macro, syntax, notation, axiom, sorry.
-/
import Derived.Test.YtcpmcadgknfpjaaGreatDoorRows
import GoSem.ClaimSeven
namespace Go.Proofs.YtcpmcadgknfpjaaGreatDoor
namespace Rows

/-- THE TIED CARD OF 'selvedgelaw08.VersionEdits'. -/
def versionEditsCard : Claim7 := { stood := { row := versionEditsRow, standIns := [], harness := (true, "525234ac9a46428c04975040b2873c2b73622f80cb16ee2fc64569d8b2d04e9f"), looks := true }, kinds := [], alts := [], laidByText := true, laidKinds := [.data, .data, .data], laidTests := true, laidLooks := .later }
def VersionEditsCardSaid : Prop := Claim7.holds Tryz.pinned (.plain (OpenSpec.ofChange versionEditsSpec)) versionEditsCard

/-- THE TIED CARD OF 'selvedgelaw08.VersionPlays'. -/
def versionPlaysCard : Claim7 := { stood := { row := versionPlaysRow, standIns := [], harness := (true, "525234ac9a46428c04975040b2873c2b73622f80cb16ee2fc64569d8b2d04e9f"), looks := true }, kinds := [], alts := [], laidByText := true, laidKinds := [.data, .data, .data], laidTests := true, laidLooks := .later }
def VersionPlaysCardSaid : Prop := Claim7.holds Tryz.pinned (.plain (OpenSpec.ofChange versionPlaysSpec)) versionPlaysCard

/-- THE TIED CARD OF 'selvedgelaw11.CursorStays'. -/
def cursorStaysCard : Claim7 := { stood := { row := cursorStaysRow, standIns := [], harness := (true, "525234ac9a46428c04975040b2873c2b73622f80cb16ee2fc64569d8b2d04e9f"), looks := true }, kinds := [], alts := [], laidByText := true, laidKinds := [.data, .data, .data], laidTests := true, laidLooks := .later }
def CursorStaysCardSaid : Prop := Claim7.holds Tryz.pinned (.plain (OpenSpec.ofChange cursorStaysSpec)) cursorStaysCard

/-- THE TIED CARD OF 'selvedgelaw11.CursorTells'. -/
def cursorTellsCard : Claim7 := { stood := { row := cursorTellsRow, standIns := [], harness := (true, "525234ac9a46428c04975040b2873c2b73622f80cb16ee2fc64569d8b2d04e9f"), looks := true }, kinds := [], alts := [], laidByText := true, laidKinds := [.data, .data, .data], laidTests := true, laidLooks := .later }
def CursorTellsCardSaid : Prop := Claim7.holds Tryz.pinned (.plain (OpenSpec.ofChange cursorTellsSpec)) cursorTellsCard

/-- THE TIED CARD OF 'selvedgelaw09.EventReplays'. -/
def eventReplaysCard : Claim7 := { stood := { row := eventReplaysRow, standIns := [], harness := (true, "525234ac9a46428c04975040b2873c2b73622f80cb16ee2fc64569d8b2d04e9f"), looks := true }, kinds := [], alts := [], laidByText := true, laidKinds := [.data, .data, .data], laidTests := true, laidLooks := .later }
def EventReplaysCardSaid : Prop := Claim7.holds Tryz.pinned (.plain (OpenSpec.ofChange eventReplaysSpec)) eventReplaysCard

/-- THE TIED CARD OF 'selvedgelaw12.ReplicaLooks'. -/
def replicaLooksCard : Claim7 := { stood := { row := replicaLooksRow, standIns := [], harness := (true, "525234ac9a46428c04975040b2873c2b73622f80cb16ee2fc64569d8b2d04e9f"), looks := true }, kinds := [], alts := [], laidByText := true, laidKinds := [.data, .data, .data], laidTests := true, laidLooks := .later }
def ReplicaLooksCardSaid : Prop := Claim7.holds Tryz.pinned (.plain (OpenSpec.ofChange replicaLooksSpec)) replicaLooksCard

/-- THE TIED CARD OF 'selvedgelaw12.ReplicaPlays'. -/
def replicaPlaysCard : Claim7 := { stood := { row := replicaPlaysRow, standIns := [], harness := (true, "525234ac9a46428c04975040b2873c2b73622f80cb16ee2fc64569d8b2d04e9f"), looks := true }, kinds := [], alts := [], laidByText := true, laidKinds := [.data, .data, .data], laidTests := true, laidLooks := .later }
def ReplicaPlaysCardSaid : Prop := Claim7.holds Tryz.pinned (.plain (OpenSpec.ofChange replicaPlaysSpec)) replicaPlaysCard

/-- THE SECOND FORM's CARD OF 'selvedgelaw08.VersionEdits'. -/
def versionEditsUptoCard : Claim7 := { stood := { row := versionEditsUptoRow, standIns := [], harness := (true, "525234ac9a46428c04975040b2873c2b73622f80cb16ee2fc64569d8b2d04e9f"), looks := true }, kinds := [], alts := [], laidByText := true, laidKinds := [.data, .data, .data], laidTests := true, laidLooks := .later }
def VersionEditsUptoCardSaid : Prop := Claim7.holds Tryz.pinned (.plain (OpenSpec.upto versionEditsSpec)) versionEditsUptoCard

/-- THE SECOND FORM's CARD OF 'selvedgelaw08.VersionPlays'. -/
def versionPlaysUptoCard : Claim7 := { stood := { row := versionPlaysUptoRow, standIns := [], harness := (true, "525234ac9a46428c04975040b2873c2b73622f80cb16ee2fc64569d8b2d04e9f"), looks := true }, kinds := [], alts := [], laidByText := true, laidKinds := [.data, .data, .data], laidTests := true, laidLooks := .later }
def VersionPlaysUptoCardSaid : Prop := Claim7.holds Tryz.pinned (.plain (OpenSpec.upto versionPlaysSpec)) versionPlaysUptoCard

/-- THE SECOND FORM's CARD OF 'selvedgelaw11.CursorStays'. -/
def cursorStaysUptoCard : Claim7 := { stood := { row := cursorStaysUptoRow, standIns := [], harness := (true, "525234ac9a46428c04975040b2873c2b73622f80cb16ee2fc64569d8b2d04e9f"), looks := true }, kinds := [], alts := [], laidByText := true, laidKinds := [.data, .data, .data], laidTests := true, laidLooks := .later }
def CursorStaysUptoCardSaid : Prop := Claim7.holds Tryz.pinned (.plain (OpenSpec.upto cursorStaysSpec)) cursorStaysUptoCard

/-- THE SECOND FORM's CARD OF 'selvedgelaw11.CursorTells'. -/
def cursorTellsUptoCard : Claim7 := { stood := { row := cursorTellsUptoRow, standIns := [], harness := (true, "525234ac9a46428c04975040b2873c2b73622f80cb16ee2fc64569d8b2d04e9f"), looks := true }, kinds := [], alts := [], laidByText := true, laidKinds := [.data, .data, .data], laidTests := true, laidLooks := .later }
def CursorTellsUptoCardSaid : Prop := Claim7.holds Tryz.pinned (.plain (OpenSpec.upto cursorTellsSpec)) cursorTellsUptoCard

/-- THE SECOND FORM's CARD OF 'selvedgelaw09.EventReplays'. -/
def eventReplaysUptoCard : Claim7 := { stood := { row := eventReplaysUptoRow, standIns := [], harness := (true, "525234ac9a46428c04975040b2873c2b73622f80cb16ee2fc64569d8b2d04e9f"), looks := true }, kinds := [], alts := [], laidByText := true, laidKinds := [.data, .data, .data], laidTests := true, laidLooks := .later }
def EventReplaysUptoCardSaid : Prop := Claim7.holds Tryz.pinned (.plain (OpenSpec.upto eventReplaysSpec)) eventReplaysUptoCard

/-- THE SECOND FORM's CARD OF 'selvedgelaw12.ReplicaLooks'. -/
def replicaLooksUptoCard : Claim7 := { stood := { row := replicaLooksUptoRow, standIns := [], harness := (true, "525234ac9a46428c04975040b2873c2b73622f80cb16ee2fc64569d8b2d04e9f"), looks := true }, kinds := [], alts := [], laidByText := true, laidKinds := [.data, .data, .data], laidTests := true, laidLooks := .later }
def ReplicaLooksUptoCardSaid : Prop := Claim7.holds Tryz.pinned (.plain (OpenSpec.upto replicaLooksSpec)) replicaLooksUptoCard

/-- THE SECOND FORM's CARD OF 'selvedgelaw12.ReplicaPlays'. -/
def replicaPlaysUptoCard : Claim7 := { stood := { row := replicaPlaysUptoRow, standIns := [], harness := (true, "525234ac9a46428c04975040b2873c2b73622f80cb16ee2fc64569d8b2d04e9f"), looks := true }, kinds := [], alts := [], laidByText := true, laidKinds := [.data, .data, .data], laidTests := true, laidLooks := .later }
def ReplicaPlaysUptoCardSaid : Prop := Claim7.holds Tryz.pinned (.plain (OpenSpec.upto replicaPlaysSpec)) replicaPlaysUptoCard
end Rows
end Go.Proofs.YtcpmcadgknfpjaaGreatDoor
