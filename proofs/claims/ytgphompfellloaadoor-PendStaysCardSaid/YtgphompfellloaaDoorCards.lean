/-
  DERIVED. GIVEN WITH THE SEED: THE CARDS: each row of YtgphompfellloaaDoorRows.lean that lists a variable, with what it lists TIED to the program's text (the seventh form; the later family's looks); each row that meets fmt, with fmt's text TOLD by the authors' own Lean function (tested against real Go, not proved from fmt's source: count such statements apart). THE CARD IS WHAT COUNTS. Prove the row's statement (the work); the ties are given (YtgphompfellloaaDoorTie.lean); close each card by the builder's one call (the guide's Derived/Test/ToyasCard.lean, 'card_holds'). Laid BY PROGRAM, IN A SANDBOX (cutbox-door.mjs). By AI agents, Wed Nov 11 2026. No macro, syntax, notation, axiom, sorry.
-/
import Derived.Test.YtgphompfellloaaDoorRows
import GoSem.ClaimSeven
namespace Go.Proofs.YtgphompfellloaaDoor
namespace Rows

/-- THE TIED CARD OF 'selvedgelaw03.PtreeStays'. -/
def ptreeStaysCard : Claim7 := { stood := { row := ptreeStaysRow, standIns := [], harness := (true, "029ef8c887cd2f6010cdc05f026d2355514237accef4b506effdce2db971b036"), looks := false }, kinds := [], alts := [], laidByText := true, laidKinds := [.data, .data, .data], laidTests := true, laidLooks := .later }
def PtreeStaysCardSaid : Prop := Claim7.holds Tryd.pinned (.plain (OpenSpec.ofChange ptreeStaysSpec)) ptreeStaysCard

/-- THE TIED CARD OF 'selvedgelaw06.CoreFull'. -/
def coreFullCard : Claim7 := { stood := { row := coreFullRow, standIns := [], harness := (true, "029ef8c887cd2f6010cdc05f026d2355514237accef4b506effdce2db971b036"), looks := false }, kinds := [], alts := [], laidByText := true, laidKinds := [.data, .data, .data], laidTests := true, laidLooks := .later }
def CoreFullCardSaid : Prop := Claim7.holds Tryd.pinned (.plain (OpenSpec.ofChange coreFullSpec)) coreFullCard

/-- THE TIED CARD OF 'selvedgelaw06.CorePlays'. -/
def corePlaysCard : Claim7 := { stood := { row := corePlaysRow, standIns := [], harness := (true, "029ef8c887cd2f6010cdc05f026d2355514237accef4b506effdce2db971b036"), looks := false }, kinds := [], alts := [], laidByText := true, laidKinds := [.data, .data, .data], laidTests := true, laidLooks := .later }
def CorePlaysCardSaid : Prop := Claim7.holds Tryd.pinned (.plain (OpenSpec.ofChange corePlaysSpec)) corePlaysCard

/-- THE TIED CARD OF 'selvedgelaw07.PendPlays'. -/
def pendPlaysCard : Claim7 := { stood := { row := pendPlaysRow, standIns := [], harness := (true, "029ef8c887cd2f6010cdc05f026d2355514237accef4b506effdce2db971b036"), looks := false }, kinds := [], alts := [], laidByText := true, laidKinds := [.data, .data, .data], laidTests := true, laidLooks := .later }
def PendPlaysCardSaid : Prop := Claim7.holds Tryd.pinned (.plain (OpenSpec.ofChange pendPlaysSpec)) pendPlaysCard

/-- THE TIED CARD OF 'selvedgelaw07.PendStays'. -/
def pendStaysCard : Claim7 := { stood := { row := pendStaysRow, standIns := [], harness := (true, "029ef8c887cd2f6010cdc05f026d2355514237accef4b506effdce2db971b036"), looks := false }, kinds := [], alts := [], laidByText := true, laidKinds := [.data, .data, .data], laidTests := true, laidLooks := .later }
def PendStaysCardSaid : Prop := Claim7.holds Tryd.pinned (.plain (OpenSpec.ofChange pendStaysSpec)) pendStaysCard

/-- THE SECOND FORM's CARD OF 'selvedgelaw03.PtreeStays'. -/
def ptreeStaysUptoCard : Claim7 := { stood := { row := ptreeStaysUptoRow, standIns := [], harness := (true, "029ef8c887cd2f6010cdc05f026d2355514237accef4b506effdce2db971b036"), looks := false }, kinds := [], alts := [], laidByText := true, laidKinds := [.data, .data, .data], laidTests := true, laidLooks := .later }
def PtreeStaysUptoCardSaid : Prop := Claim7.holds Tryd.pinned (.plain (OpenSpec.upto ptreeStaysSpec)) ptreeStaysUptoCard

/-- THE SECOND FORM's CARD OF 'selvedgelaw06.CoreFull'. -/
def coreFullUptoCard : Claim7 := { stood := { row := coreFullUptoRow, standIns := [], harness := (true, "029ef8c887cd2f6010cdc05f026d2355514237accef4b506effdce2db971b036"), looks := false }, kinds := [], alts := [], laidByText := true, laidKinds := [.data, .data, .data], laidTests := true, laidLooks := .later }
def CoreFullUptoCardSaid : Prop := Claim7.holds Tryd.pinned (.plain (OpenSpec.upto coreFullSpec)) coreFullUptoCard

/-- THE SECOND FORM's CARD OF 'selvedgelaw06.CorePlays'. -/
def corePlaysUptoCard : Claim7 := { stood := { row := corePlaysUptoRow, standIns := [], harness := (true, "029ef8c887cd2f6010cdc05f026d2355514237accef4b506effdce2db971b036"), looks := false }, kinds := [], alts := [], laidByText := true, laidKinds := [.data, .data, .data], laidTests := true, laidLooks := .later }
def CorePlaysUptoCardSaid : Prop := Claim7.holds Tryd.pinned (.plain (OpenSpec.upto corePlaysSpec)) corePlaysUptoCard

/-- THE SECOND FORM's CARD OF 'selvedgelaw07.PendPlays'. -/
def pendPlaysUptoCard : Claim7 := { stood := { row := pendPlaysUptoRow, standIns := [], harness := (true, "029ef8c887cd2f6010cdc05f026d2355514237accef4b506effdce2db971b036"), looks := false }, kinds := [], alts := [], laidByText := true, laidKinds := [.data, .data, .data], laidTests := true, laidLooks := .later }
def PendPlaysUptoCardSaid : Prop := Claim7.holds Tryd.pinned (.plain (OpenSpec.upto pendPlaysSpec)) pendPlaysUptoCard

/-- THE SECOND FORM's CARD OF 'selvedgelaw07.PendStays'. -/
def pendStaysUptoCard : Claim7 := { stood := { row := pendStaysUptoRow, standIns := [], harness := (true, "029ef8c887cd2f6010cdc05f026d2355514237accef4b506effdce2db971b036"), looks := false }, kinds := [], alts := [], laidByText := true, laidKinds := [.data, .data, .data], laidTests := true, laidLooks := .later }
def PendStaysUptoCardSaid : Prop := Claim7.holds Tryd.pinned (.plain (OpenSpec.upto pendStaysSpec)) pendStaysUptoCard
end Rows
end Go.Proofs.YtgphompfellloaaDoor
