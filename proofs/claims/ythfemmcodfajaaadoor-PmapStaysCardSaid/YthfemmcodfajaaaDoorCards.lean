/-
  DERIVED. GIVEN WITH THE SEED: THE CARDS: each row of YthfemmcodfajaaaDoorRows.lean that lists a variable, with what it lists TIED to the program's text (the seventh form; the later family's looks); each row that meets fmt, with fmt's text TOLD by the authors' own Lean function (tested against real Go, not proved from fmt's source: count such statements apart). THE CARD IS WHAT COUNTS. Prove the row's statement (the work); the ties are given (YthfemmcodfajaaaDoorTie.lean); close each card by the builder's one call (the guide's Derived/Test/ToyasCard.lean, 'card_holds'). Laid BY PROGRAM, IN A SANDBOX (cutbox-door.mjs). By AI agents, Wed Nov 11 2026. No macro, syntax, notation, axiom, sorry.
-/
import Derived.Test.YthfemmcodfajaaaDoorRows
import GoSem.ClaimSeven
namespace Go.Proofs.YthfemmcodfajaaaDoor
namespace Rows

/-- THE TIED CARD OF 'selvedgelaw01.IdTells'. -/
def idTellsCard : Claim7 := { stood := { row := idTellsRow, standIns := [], harness := (true, "755c13a0d8475e6235f6c9897f42b777f895671b9d0e65b324f2c77ec7bc3c36"), looks := false }, kinds := [], alts := [], laidByText := true, laidKinds := [.data, .data, .data], laidTests := true, laidLooks := .later }
def IdTellsCardSaid : Prop := Claim7.holds Tryd.pinned (.plain (OpenSpec.ofChange idTellsSpec)) idTellsCard

/-- THE TIED CARD OF 'selvedgelaw05.OpChecks'. -/
def opChecksCard : Claim7 := { stood := { row := opChecksRow, standIns := [], harness := (true, "755c13a0d8475e6235f6c9897f42b777f895671b9d0e65b324f2c77ec7bc3c36"), looks := false }, kinds := [], alts := [], laidByText := true, laidKinds := [.data, .data, .data], laidTests := true, laidLooks := .later }
def OpChecksCardSaid : Prop := Claim7.holds Tryd.pinned (.plain (OpenSpec.ofChange opChecksSpec)) opChecksCard

/-- THE TIED CARD OF 'selvedgelaw04.PmapPlays'. -/
def pmapPlaysCard : Claim7 := { stood := { row := pmapPlaysRow, standIns := [], harness := (true, "755c13a0d8475e6235f6c9897f42b777f895671b9d0e65b324f2c77ec7bc3c36"), looks := false }, kinds := [], alts := [], laidByText := true, laidKinds := [.data, .data, .data], laidTests := true, laidLooks := .later }
def PmapPlaysCardSaid : Prop := Claim7.holds Tryd.pinned (.plain (OpenSpec.ofChange pmapPlaysSpec)) pmapPlaysCard

/-- THE TIED CARD OF 'selvedgelaw04.PmapStays'. -/
def pmapStaysCard : Claim7 := { stood := { row := pmapStaysRow, standIns := [], harness := (true, "755c13a0d8475e6235f6c9897f42b777f895671b9d0e65b324f2c77ec7bc3c36"), looks := false }, kinds := [], alts := [], laidByText := true, laidKinds := [.data, .data, .data], laidTests := true, laidLooks := .later }
def PmapStaysCardSaid : Prop := Claim7.holds Tryd.pinned (.plain (OpenSpec.ofChange pmapStaysSpec)) pmapStaysCard

/-- THE TIED CARD OF 'selvedgelaw02.TallyTurns'. -/
def tallyTurnsCard : Claim7 := { stood := { row := tallyTurnsRow, standIns := [], harness := (true, "755c13a0d8475e6235f6c9897f42b777f895671b9d0e65b324f2c77ec7bc3c36"), looks := false }, kinds := [], alts := [], laidByText := true, laidKinds := [.data, .data, .data], laidTests := true, laidLooks := .later }
def TallyTurnsCardSaid : Prop := Claim7.holds Tryd.pinned (.plain (OpenSpec.ofChange tallyTurnsSpec)) tallyTurnsCard

/-- THE TIED CARD OF 'selvedgelaw02.TallyFull'. -/
def tallyFullCard : Claim7 := { stood := { row := tallyFullRow, standIns := [], harness := (true, "755c13a0d8475e6235f6c9897f42b777f895671b9d0e65b324f2c77ec7bc3c36"), looks := false }, kinds := [], alts := [], laidByText := true, laidKinds := [.data, .data, .data], laidTests := true, laidLooks := .later }
def TallyFullCardSaid : Prop := Claim7.holds Tryd.pinned (.plain (OpenSpec.ofChange tallyFullSpec)) tallyFullCard

/-- THE TIED CARD OF 'selvedgelaw01.IdOrders'. -/
def idOrdersCard : Claim7 := { stood := { row := idOrdersRow, standIns := [], harness := (true, "755c13a0d8475e6235f6c9897f42b777f895671b9d0e65b324f2c77ec7bc3c36"), looks := false }, kinds := [], alts := [], laidByText := true, laidKinds := [.data, .data, .data], laidTests := true, laidLooks := .later }
def IdOrdersCardSaid : Prop := Claim7.holds Tryd.pinned (.plain (OpenSpec.ofChange idOrdersSpec)) idOrdersCard

/-- THE TIED CARD OF 'selvedgelaw05.OpBack'. -/
def opBackCard : Claim7 := { stood := { row := opBackRow, standIns := [], harness := (true, "755c13a0d8475e6235f6c9897f42b777f895671b9d0e65b324f2c77ec7bc3c36"), looks := false }, kinds := [], alts := [], laidByText := true, laidKinds := [.data, .data, .data, .data, .pinned], laidTests := true, laidLooks := .later }
def OpBackCardSaid : Prop := Claim7.holds Tryd.pinned (.plain (OpenSpec.ofChange opBackSpec)) opBackCard

/-- THE SECOND FORM's CARD OF 'selvedgelaw01.IdTells'. -/
def idTellsUptoCard : Claim7 := { stood := { row := idTellsUptoRow, standIns := [], harness := (true, "755c13a0d8475e6235f6c9897f42b777f895671b9d0e65b324f2c77ec7bc3c36"), looks := false }, kinds := [], alts := [], laidByText := true, laidKinds := [.data, .data, .data], laidTests := true, laidLooks := .later }
def IdTellsUptoCardSaid : Prop := Claim7.holds Tryd.pinned (.plain (OpenSpec.upto idTellsSpec)) idTellsUptoCard

/-- THE SECOND FORM's CARD OF 'selvedgelaw05.OpChecks'. -/
def opChecksUptoCard : Claim7 := { stood := { row := opChecksUptoRow, standIns := [], harness := (true, "755c13a0d8475e6235f6c9897f42b777f895671b9d0e65b324f2c77ec7bc3c36"), looks := false }, kinds := [], alts := [], laidByText := true, laidKinds := [.data, .data, .data], laidTests := true, laidLooks := .later }
def OpChecksUptoCardSaid : Prop := Claim7.holds Tryd.pinned (.plain (OpenSpec.upto opChecksSpec)) opChecksUptoCard

/-- THE SECOND FORM's CARD OF 'selvedgelaw04.PmapPlays'. -/
def pmapPlaysUptoCard : Claim7 := { stood := { row := pmapPlaysUptoRow, standIns := [], harness := (true, "755c13a0d8475e6235f6c9897f42b777f895671b9d0e65b324f2c77ec7bc3c36"), looks := false }, kinds := [], alts := [], laidByText := true, laidKinds := [.data, .data, .data], laidTests := true, laidLooks := .later }
def PmapPlaysUptoCardSaid : Prop := Claim7.holds Tryd.pinned (.plain (OpenSpec.upto pmapPlaysSpec)) pmapPlaysUptoCard

/-- THE SECOND FORM's CARD OF 'selvedgelaw04.PmapStays'. -/
def pmapStaysUptoCard : Claim7 := { stood := { row := pmapStaysUptoRow, standIns := [], harness := (true, "755c13a0d8475e6235f6c9897f42b777f895671b9d0e65b324f2c77ec7bc3c36"), looks := false }, kinds := [], alts := [], laidByText := true, laidKinds := [.data, .data, .data], laidTests := true, laidLooks := .later }
def PmapStaysUptoCardSaid : Prop := Claim7.holds Tryd.pinned (.plain (OpenSpec.upto pmapStaysSpec)) pmapStaysUptoCard

/-- THE SECOND FORM's CARD OF 'selvedgelaw02.TallyTurns'. -/
def tallyTurnsUptoCard : Claim7 := { stood := { row := tallyTurnsUptoRow, standIns := [], harness := (true, "755c13a0d8475e6235f6c9897f42b777f895671b9d0e65b324f2c77ec7bc3c36"), looks := false }, kinds := [], alts := [], laidByText := true, laidKinds := [.data, .data, .data], laidTests := true, laidLooks := .later }
def TallyTurnsUptoCardSaid : Prop := Claim7.holds Tryd.pinned (.plain (OpenSpec.upto tallyTurnsSpec)) tallyTurnsUptoCard

/-- THE SECOND FORM's CARD OF 'selvedgelaw02.TallyFull'. -/
def tallyFullUptoCard : Claim7 := { stood := { row := tallyFullUptoRow, standIns := [], harness := (true, "755c13a0d8475e6235f6c9897f42b777f895671b9d0e65b324f2c77ec7bc3c36"), looks := false }, kinds := [], alts := [], laidByText := true, laidKinds := [.data, .data, .data], laidTests := true, laidLooks := .later }
def TallyFullUptoCardSaid : Prop := Claim7.holds Tryd.pinned (.plain (OpenSpec.upto tallyFullSpec)) tallyFullUptoCard

/-- THE SECOND FORM's CARD OF 'selvedgelaw01.IdOrders'. -/
def idOrdersUptoCard : Claim7 := { stood := { row := idOrdersUptoRow, standIns := [], harness := (true, "755c13a0d8475e6235f6c9897f42b777f895671b9d0e65b324f2c77ec7bc3c36"), looks := false }, kinds := [], alts := [], laidByText := true, laidKinds := [.data, .data, .data], laidTests := true, laidLooks := .later }
def IdOrdersUptoCardSaid : Prop := Claim7.holds Tryd.pinned (.plain (OpenSpec.upto idOrdersSpec)) idOrdersUptoCard

/-- THE SECOND FORM's CARD OF 'selvedgelaw05.OpBack'. -/
def opBackUptoCard : Claim7 := { stood := { row := opBackUptoRow, standIns := [], harness := (true, "755c13a0d8475e6235f6c9897f42b777f895671b9d0e65b324f2c77ec7bc3c36"), looks := false }, kinds := [], alts := [], laidByText := true, laidKinds := [.data, .data, .data, .data, .pinned], laidTests := true, laidLooks := .later }
def OpBackUptoCardSaid : Prop := Claim7.holds Tryd.pinned (.plain (OpenSpec.upto opBackSpec)) opBackUptoCard
end Rows
end Go.Proofs.YthfemmcodfajaaaDoor
