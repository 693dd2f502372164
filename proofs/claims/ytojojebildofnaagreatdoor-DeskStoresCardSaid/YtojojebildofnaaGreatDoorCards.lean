/-
  DERIVED. GIVEN WITH THE SEED: THE CARDS: each row of YtojojebildofnaaGreatDoorRows.lean that lists a variable, with what it lists TIED to the program's text (the seventh form; the later family's looks); each row that meets fmt, with fmt's text TOLD by the authors' own Lean function (tested against real Go, not proved from fmt's source: count such statements apart). THE CARD IS WHAT COUNTS. Prove the row's statement (the work); the ties are given (YtojojebildofnaaGreatDoorTie.lean); close each card by the builder's one call (the guide's Derived/Test/ToyasCard.lean, 'card_holds'). Laid BY PROGRAM, IN A SANDBOX (cutbox-door.mjs). By AI agents, Wed Nov 11 2026. No macro, syntax, notation, axiom, sorry.
-/
import Derived.Test.YtojojebildofnaaGreatDoorRows
import GoSem.ClaimSeven
namespace Go.Proofs.YtojojebildofnaaGreatDoor
namespace Rows

/-- THE TIED CARD OF 'parcelwaylaw.DeskStores'. -/
def deskStoresCard : Claim7 := { stood := { row := deskStoresRow, standIns := [], harness := (true, "29e09282ecde3486b10ab94facc6f88fbd900e7a6a0e4ba6515855fd3511b8c0"), looks := false }, kinds := [], alts := [], laidByText := true, laidKinds := [.data, .data, .data], laidTests := true, laidLooks := .later }
def DeskStoresCardSaid : Prop := Claim7.holds Tryz.pinned (.plain (OpenSpec.ofChange deskStoresSpec)) deskStoresCard

/-- THE TIED CARD OF 'parcelwaylaw.DeskKept'. -/
def deskKeptCard : Claim7 := { stood := { row := deskKeptRow, standIns := [], harness := (true, "29e09282ecde3486b10ab94facc6f88fbd900e7a6a0e4ba6515855fd3511b8c0"), looks := false }, kinds := [], alts := [], laidByText := true, laidKinds := [.data, .data, .data], laidTests := true, laidLooks := .later }
def DeskKeptCardSaid : Prop := Claim7.holds Tryz.pinned (.plain (OpenSpec.ofChange deskKeptSpec)) deskKeptCard

/-- THE TIED CARD OF 'parcelwaylaw.DeskShows'. -/
def deskShowsCard : Claim7 := { stood := { row := deskShowsRow, standIns := [], harness := (true, "29e09282ecde3486b10ab94facc6f88fbd900e7a6a0e4ba6515855fd3511b8c0"), looks := false }, kinds := [], alts := [], laidByText := true, laidKinds := [.data, .data, .data], laidTests := true, laidLooks := .later }
def DeskShowsCardSaid : Prop := Claim7.holds Tryz.pinned (.plain (OpenSpec.ofChange deskShowsSpec)) deskShowsCard

/-- THE SECOND FORM's CARD OF 'parcelwaylaw.DeskStores'. -/
def deskStoresUptoCard : Claim7 := { stood := { row := deskStoresUptoRow, standIns := [], harness := (true, "29e09282ecde3486b10ab94facc6f88fbd900e7a6a0e4ba6515855fd3511b8c0"), looks := false }, kinds := [], alts := [], laidByText := true, laidKinds := [.data, .data, .data], laidTests := true, laidLooks := .later }
def DeskStoresUptoCardSaid : Prop := Claim7.holds Tryz.pinned (.plain (OpenSpec.upto deskStoresSpec)) deskStoresUptoCard

/-- THE SECOND FORM's CARD OF 'parcelwaylaw.DeskKept'. -/
def deskKeptUptoCard : Claim7 := { stood := { row := deskKeptUptoRow, standIns := [], harness := (true, "29e09282ecde3486b10ab94facc6f88fbd900e7a6a0e4ba6515855fd3511b8c0"), looks := false }, kinds := [], alts := [], laidByText := true, laidKinds := [.data, .data, .data], laidTests := true, laidLooks := .later }
def DeskKeptUptoCardSaid : Prop := Claim7.holds Tryz.pinned (.plain (OpenSpec.upto deskKeptSpec)) deskKeptUptoCard

/-- THE SECOND FORM's CARD OF 'parcelwaylaw.DeskShows'. -/
def deskShowsUptoCard : Claim7 := { stood := { row := deskShowsUptoRow, standIns := [], harness := (true, "29e09282ecde3486b10ab94facc6f88fbd900e7a6a0e4ba6515855fd3511b8c0"), looks := false }, kinds := [], alts := [], laidByText := true, laidKinds := [.data, .data, .data], laidTests := true, laidLooks := .later }
def DeskShowsUptoCardSaid : Prop := Claim7.holds Tryz.pinned (.plain (OpenSpec.upto deskShowsSpec)) deskShowsUptoCard
end Rows
end Go.Proofs.YtojojebildofnaaGreatDoor
