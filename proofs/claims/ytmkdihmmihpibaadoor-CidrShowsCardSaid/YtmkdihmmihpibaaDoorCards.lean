/-
  DERIVED. GIVEN WITH THE SEED: THE CARDS: each row of YtmkdihmmihpibaaDoorRows.lean that lists a variable, with what it lists TIED to the program's text (the seventh form; the later family's looks); each row that meets fmt, with fmt's text TOLD by the authors' own Lean function (tested against real Go, not proved from fmt's source: count such statements apart). THE CARD IS WHAT COUNTS. Prove the row's statement (the work); the ties are given (YtmkdihmmihpibaaDoorTie.lean); close each card by the builder's one call (the guide's Derived/Test/ToyasCard.lean, 'card_holds'). Laid BY PROGRAM, IN A SANDBOX (cutbox-door.mjs). By AI agents, Wed Nov 11 2026. No macro, syntax, notation, axiom, sorry.
-/
import Derived.Test.YtmkdihmmihpibaaDoorRows
import GoSem.ClaimSeven
namespace Go.Proofs.YtmkdihmmihpibaaDoor
namespace Rows

/-- THE TIED CARD OF 'parcelwaylaw.CidrChecks'. -/
def cidrChecksCard : Claim7 := { stood := { row := cidrChecksRow, standIns := [], harness := (true, "9f34e5e7f35ac54e5d9fd781cba0527d4941ff50e4169ddd02ab2175e0cd609a"), looks := true }, kinds := [], alts := [], laidByText := true, laidKinds := [.data, .data, .data, .sentinel, .sentinel], laidTests := true, laidLooks := .later }
def CidrChecksCardSaid : Prop := Claim7.holds Tryd.pinned (.plain (OpenSpec.ofChange cidrChecksSpec)) cidrChecksCard

/-- THE TIED CARD OF 'parcelwaylaw.CidrTurns'. -/
def cidrTurnsCard : Claim7 := { stood := { row := cidrTurnsRow, standIns := [], harness := (true, "9f34e5e7f35ac54e5d9fd781cba0527d4941ff50e4169ddd02ab2175e0cd609a"), looks := true }, kinds := [], alts := [], laidByText := true, laidKinds := [.data, .data, .data, .sentinel, .sentinel], laidTests := true, laidLooks := .later }
def CidrTurnsCardSaid : Prop := Claim7.holds Tryd.pinned (.plain (OpenSpec.ofChange cidrTurnsSpec)) cidrTurnsCard

/-- THE TIED CARD OF 'parcelwaylaw.CidrShows'. -/
def cidrShowsCard : Claim7 := { stood := { row := cidrShowsRow, standIns := [], harness := (true, "9f34e5e7f35ac54e5d9fd781cba0527d4941ff50e4169ddd02ab2175e0cd609a"), looks := true }, kinds := [], alts := [], laidByText := true, laidKinds := [.data, .data, .data, .sentinel, .sentinel], laidTests := true, laidLooks := .later }
def CidrShowsCardSaid : Prop := Claim7.holds Tryd.pinned (.plain (OpenSpec.ofChange cidrShowsSpec)) cidrShowsCard

/-- THE TIED CARD OF 'parcelwaylaw.CidrTrue'. -/
def cidrTrueCard : Claim7 := { stood := { row := cidrTrueRow, standIns := [], harness := (true, "9f34e5e7f35ac54e5d9fd781cba0527d4941ff50e4169ddd02ab2175e0cd609a"), looks := true }, kinds := [], alts := [], laidByText := true, laidKinds := [.data, .data, .data, .sentinel, .sentinel], laidTests := true, laidLooks := .later }
def CidrTrueCardSaid : Prop := Claim7.holds Tryd.pinned (.plain (OpenSpec.ofChange cidrTrueSpec)) cidrTrueCard

/-- THE SECOND FORM's CARD OF 'parcelwaylaw.CidrChecks'. -/
def cidrChecksUptoCard : Claim7 := { stood := { row := cidrChecksUptoRow, standIns := [], harness := (true, "9f34e5e7f35ac54e5d9fd781cba0527d4941ff50e4169ddd02ab2175e0cd609a"), looks := true }, kinds := [], alts := [], laidByText := true, laidKinds := [.data, .data, .data, .sentinel, .sentinel], laidTests := true, laidLooks := .later }
def CidrChecksUptoCardSaid : Prop := Claim7.holds Tryd.pinned (.plain (OpenSpec.upto cidrChecksSpec)) cidrChecksUptoCard

/-- THE SECOND FORM's CARD OF 'parcelwaylaw.CidrTurns'. -/
def cidrTurnsUptoCard : Claim7 := { stood := { row := cidrTurnsUptoRow, standIns := [], harness := (true, "9f34e5e7f35ac54e5d9fd781cba0527d4941ff50e4169ddd02ab2175e0cd609a"), looks := true }, kinds := [], alts := [], laidByText := true, laidKinds := [.data, .data, .data, .sentinel, .sentinel], laidTests := true, laidLooks := .later }
def CidrTurnsUptoCardSaid : Prop := Claim7.holds Tryd.pinned (.plain (OpenSpec.upto cidrTurnsSpec)) cidrTurnsUptoCard

/-- THE SECOND FORM's CARD OF 'parcelwaylaw.CidrShows'. -/
def cidrShowsUptoCard : Claim7 := { stood := { row := cidrShowsUptoRow, standIns := [], harness := (true, "9f34e5e7f35ac54e5d9fd781cba0527d4941ff50e4169ddd02ab2175e0cd609a"), looks := true }, kinds := [], alts := [], laidByText := true, laidKinds := [.data, .data, .data, .sentinel, .sentinel], laidTests := true, laidLooks := .later }
def CidrShowsUptoCardSaid : Prop := Claim7.holds Tryd.pinned (.plain (OpenSpec.upto cidrShowsSpec)) cidrShowsUptoCard

/-- THE SECOND FORM's CARD OF 'parcelwaylaw.CidrTrue'. -/
def cidrTrueUptoCard : Claim7 := { stood := { row := cidrTrueUptoRow, standIns := [], harness := (true, "9f34e5e7f35ac54e5d9fd781cba0527d4941ff50e4169ddd02ab2175e0cd609a"), looks := true }, kinds := [], alts := [], laidByText := true, laidKinds := [.data, .data, .data, .sentinel, .sentinel], laidTests := true, laidLooks := .later }
def CidrTrueUptoCardSaid : Prop := Claim7.holds Tryd.pinned (.plain (OpenSpec.upto cidrTrueSpec)) cidrTrueUptoCard
end Rows
end Go.Proofs.YtmkdihmmihpibaaDoor
