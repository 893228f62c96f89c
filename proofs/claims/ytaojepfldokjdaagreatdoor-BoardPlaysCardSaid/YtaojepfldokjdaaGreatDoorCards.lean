/-
  DERIVED. GIVEN WITH THE SEED: THE CARDS: each row of YtaojepfldokjdaaGreatDoorRows.lean that lists a variable, with what it lists TIED to the program's text (the seventh form; the later family's looks); each row that meets fmt, with fmt's text TOLD by the authors' own Lean function (tested against real Go, not proved from fmt's source: count such statements apart). THE CARD IS WHAT COUNTS. Prove the row's statement (the work); the ties are given (YtaojepfldokjdaaGreatDoorTie.lean); close each card by the builder's one call (the guide's Derived/Test/ToyasCard.lean, 'card_holds'). Laid BY PROGRAM, IN A SANDBOX (cutbox-door.mjs). By AI agents, Wed Nov 11 2026. No macro, syntax, notation, axiom, sorry.
-/
import Derived.Test.YtaojepfldokjdaaGreatDoorRows
import GoSem.ClaimSeven
namespace Go.Proofs.YtaojepfldokjdaaGreatDoor
namespace Rows

/-- THE TIED CARD OF 'selvedgelaw15.BoardSafe'. -/
def boardSafeCard : Claim7 := { stood := { row := boardSafeRow, standIns := [], harness := (true, "a184c054928054f4acc3f6ad5c29249ea50a91db5f3cd3dc8eea947752300336"), looks := true }, kinds := [], alts := [], laidByText := true, laidKinds := [.data, .data, .data], laidTests := true, laidLooks := .later }
def BoardSafeCardSaid : Prop := Claim7.holds Tryz.pinned (.plain (OpenSpec.ofChange boardSafeSpec)) boardSafeCard

/-- THE TIED CARD OF 'selvedgelaw15.BoardPlays'. -/
def boardPlaysCard : Claim7 := { stood := { row := boardPlaysRow, standIns := [], harness := (true, "a184c054928054f4acc3f6ad5c29249ea50a91db5f3cd3dc8eea947752300336"), looks := true }, kinds := [], alts := [], laidByText := true, laidKinds := [.data, .data, .data], laidTests := true, laidLooks := .later }
def BoardPlaysCardSaid : Prop := Claim7.holds Tryz.pinned (.plain (OpenSpec.ofChange boardPlaysSpec)) boardPlaysCard

/-- THE TIED CARD OF 'selvedgelaw16.ClientLooks'. -/
def clientLooksCard : Claim7 := { stood := { row := clientLooksRow, standIns := [], harness := (true, "a184c054928054f4acc3f6ad5c29249ea50a91db5f3cd3dc8eea947752300336"), looks := true }, kinds := [], alts := [], laidByText := true, laidKinds := [.data, .data, .data], laidTests := true, laidLooks := .later }
def ClientLooksCardSaid : Prop := Claim7.holds Tryz.pinned (.plain (OpenSpec.ofChange clientLooksSpec)) clientLooksCard

/-- THE TIED CARD OF 'selvedgelaw16.ClientPlays'. -/
def clientPlaysCard : Claim7 := { stood := { row := clientPlaysRow, standIns := [], harness := (true, "a184c054928054f4acc3f6ad5c29249ea50a91db5f3cd3dc8eea947752300336"), looks := true }, kinds := [], alts := [], laidByText := true, laidKinds := [.data, .data, .data], laidTests := true, laidLooks := .later }
def ClientPlaysCardSaid : Prop := Claim7.holds Tryz.pinned (.plain (OpenSpec.ofChange clientPlaysSpec)) clientPlaysCard

/-- THE TIED CARD OF 'selvedgelaw21.PeersMeet'. -/
def peersMeetCard : Claim7 := { stood := { row := peersMeetRow, standIns := [], harness := (true, "a184c054928054f4acc3f6ad5c29249ea50a91db5f3cd3dc8eea947752300336"), looks := true }, kinds := [], alts := [], laidByText := true, laidKinds := [.data, .data, .data, .data, .pinned], laidTests := true, laidLooks := .later }
def PeersMeetCardSaid : Prop := Claim7.holds Tryz.pinned (.plain (OpenSpec.ofChange peersMeetSpec)) peersMeetCard

/-- THE TIED CARD OF 'selvedgelaw21.PeersPlay'. -/
def peersPlayCard : Claim7 := { stood := { row := peersPlayRow, standIns := [], harness := (true, "a184c054928054f4acc3f6ad5c29249ea50a91db5f3cd3dc8eea947752300336"), looks := true }, kinds := [], alts := [], laidByText := true, laidKinds := [.data, .data, .data, .data, .pinned], laidTests := true, laidLooks := .later }
def PeersPlayCardSaid : Prop := Claim7.holds Tryz.pinned (.plain (OpenSpec.ofChange peersPlaySpec)) peersPlayCard

/-- THE SECOND FORM's CARD OF 'selvedgelaw15.BoardSafe'. -/
def boardSafeUptoCard : Claim7 := { stood := { row := boardSafeUptoRow, standIns := [], harness := (true, "a184c054928054f4acc3f6ad5c29249ea50a91db5f3cd3dc8eea947752300336"), looks := true }, kinds := [], alts := [], laidByText := true, laidKinds := [.data, .data, .data], laidTests := true, laidLooks := .later }
def BoardSafeUptoCardSaid : Prop := Claim7.holds Tryz.pinned (.plain (OpenSpec.upto boardSafeSpec)) boardSafeUptoCard

/-- THE SECOND FORM's CARD OF 'selvedgelaw15.BoardPlays'. -/
def boardPlaysUptoCard : Claim7 := { stood := { row := boardPlaysUptoRow, standIns := [], harness := (true, "a184c054928054f4acc3f6ad5c29249ea50a91db5f3cd3dc8eea947752300336"), looks := true }, kinds := [], alts := [], laidByText := true, laidKinds := [.data, .data, .data], laidTests := true, laidLooks := .later }
def BoardPlaysUptoCardSaid : Prop := Claim7.holds Tryz.pinned (.plain (OpenSpec.upto boardPlaysSpec)) boardPlaysUptoCard

/-- THE SECOND FORM's CARD OF 'selvedgelaw16.ClientLooks'. -/
def clientLooksUptoCard : Claim7 := { stood := { row := clientLooksUptoRow, standIns := [], harness := (true, "a184c054928054f4acc3f6ad5c29249ea50a91db5f3cd3dc8eea947752300336"), looks := true }, kinds := [], alts := [], laidByText := true, laidKinds := [.data, .data, .data], laidTests := true, laidLooks := .later }
def ClientLooksUptoCardSaid : Prop := Claim7.holds Tryz.pinned (.plain (OpenSpec.upto clientLooksSpec)) clientLooksUptoCard

/-- THE SECOND FORM's CARD OF 'selvedgelaw16.ClientPlays'. -/
def clientPlaysUptoCard : Claim7 := { stood := { row := clientPlaysUptoRow, standIns := [], harness := (true, "a184c054928054f4acc3f6ad5c29249ea50a91db5f3cd3dc8eea947752300336"), looks := true }, kinds := [], alts := [], laidByText := true, laidKinds := [.data, .data, .data], laidTests := true, laidLooks := .later }
def ClientPlaysUptoCardSaid : Prop := Claim7.holds Tryz.pinned (.plain (OpenSpec.upto clientPlaysSpec)) clientPlaysUptoCard

/-- THE SECOND FORM's CARD OF 'selvedgelaw21.PeersMeet'. -/
def peersMeetUptoCard : Claim7 := { stood := { row := peersMeetUptoRow, standIns := [], harness := (true, "a184c054928054f4acc3f6ad5c29249ea50a91db5f3cd3dc8eea947752300336"), looks := true }, kinds := [], alts := [], laidByText := true, laidKinds := [.data, .data, .data, .data, .pinned], laidTests := true, laidLooks := .later }
def PeersMeetUptoCardSaid : Prop := Claim7.holds Tryz.pinned (.plain (OpenSpec.upto peersMeetSpec)) peersMeetUptoCard

/-- THE SECOND FORM's CARD OF 'selvedgelaw21.PeersPlay'. -/
def peersPlayUptoCard : Claim7 := { stood := { row := peersPlayUptoRow, standIns := [], harness := (true, "a184c054928054f4acc3f6ad5c29249ea50a91db5f3cd3dc8eea947752300336"), looks := true }, kinds := [], alts := [], laidByText := true, laidKinds := [.data, .data, .data, .data, .pinned], laidTests := true, laidLooks := .later }
def PeersPlayUptoCardSaid : Prop := Claim7.holds Tryz.pinned (.plain (OpenSpec.upto peersPlaySpec)) peersPlayUptoCard
end Rows
end Go.Proofs.YtaojepfldokjdaaGreatDoor
