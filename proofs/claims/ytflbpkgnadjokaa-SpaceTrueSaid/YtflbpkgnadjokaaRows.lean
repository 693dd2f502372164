/-
  No cell of these rows narrows 'for every input' (looked for: loops, veiled, ifaces, maps, wideKeys, modest, calm, conditions, laid).
  DERIVED. THE GIVEN ROWS OF THIS SEAT. 4 by the template 'for every input the law returns true; each argument reads behind the call as it read before'; 0 by the template 'total and deterministic' (their statements: YtflbpkgnadjokaaTotals.lean).
  GIVEN WITH THE SEED: the statements are not yours to turn. If you find one false, say at which input.
  Laid BY PROGRAM, IN A SANDBOX (cutbox-rows.mjs): the forced cells as the released guide's own fill.sh prints them over the translation cf63189f4fd5a81a… (all of the seat's roots in one cut). By AI agents, Wed Nov 11 2026. No macro, syntax, notation, axiom, sorry.
-/
import Derived.Test.YtflbpkgnadjokaaChecked
import GoSem.Claim
import GoSem.ClaimJoined
import GoSem.ClaimMapViews
import Derived.JoinedTies
import Derived.KernelRfl
namespace Go.Proofs.Ytflbpkgnadjokaa
/- THE CELL 'sum', in the pinned program and in every row, IS THE sha256 OF THE DUMP (.gsa) THAT YtflbpkgnadjokaaProg.lean LOADS. Nothing in Lean hashes anything: it is a label: what it is worth is what the hold of that sum in a sandbox is worth. -/
noncomputable def Try.pinned : Pinned := { name := "ytflbpkgnadjokaa", sum := "cf63189f4fd5a81a4b68fa6699b1437da0448ba794e5a7cbd866dd1e7512b7a7", checked := Try.checked }
namespace Rows
def none {H : Type} : Left H := { results := [], args := [] }

/-- 'parcelwaylaw.SpaceFits': WHATEVER THE INPUT: true; the input reads as it did. -/
def spaceFitsSpec : ChangeSpec := { name := "spaceFits", fn := fun _ => fun
  | [d1, d2] => { results := [.lit (.bool true)], args := [d1, d2] }
  | _ => none }
def spaceFitsRow : OpenClaim := { program := "ytflbpkgnadjokaa", sum := "cf63189f4fd5a81a4b68fa6699b1437da0448ba794e5a7cbd866dd1e7512b7a7", func := "parcelway/parcelwaylaw.SpaceFits", spec := "spaceFits", unfollowed := true, recurses := true, apart := false }
def SpaceFitsSaid : Prop := spaceFitsRow.holds Try.pinned (OpenSpec.ofChange spaceFitsSpec)

/-- ITS FALSE NEIGHBOUR: 'it returns false'. Refute it at one input. -/
def spaceFitsWrong : ChangeSpec := { name := "spaceFits", fn := fun _ => fun
  | [d1, d2] => { results := [.lit (.bool false)], args := [d1, d2] }
  | _ => none }
def SpaceFitsWrongFalsely : Prop := spaceFitsRow.holds Try.pinned (OpenSpec.ofChange spaceFitsWrong)

/-- 'parcelwaylaw.SpaceClaims': WHATEVER THE INPUT: true; the input reads as it did. -/
def spaceClaimsSpec : ChangeSpec := { name := "spaceClaims", fn := fun _ => fun
  | [d1, d2] => { results := [.lit (.bool true)], args := [d1, d2] }
  | _ => none }
def spaceClaimsRow : OpenClaim := { program := "ytflbpkgnadjokaa", sum := "cf63189f4fd5a81a4b68fa6699b1437da0448ba794e5a7cbd866dd1e7512b7a7", func := "parcelway/parcelwaylaw.SpaceClaims", spec := "spaceClaims", unfollowed := true, recurses := true, apart := false }
def SpaceClaimsSaid : Prop := spaceClaimsRow.holds Try.pinned (OpenSpec.ofChange spaceClaimsSpec)

/-- ITS FALSE NEIGHBOUR: 'it returns false'. Refute it at one input. -/
def spaceClaimsWrong : ChangeSpec := { name := "spaceClaims", fn := fun _ => fun
  | [d1, d2] => { results := [.lit (.bool false)], args := [d1, d2] }
  | _ => none }
def SpaceClaimsWrongFalsely : Prop := spaceClaimsRow.holds Try.pinned (OpenSpec.ofChange spaceClaimsWrong)

/-- 'parcelwaylaw.SpaceTrue': WHATEVER THE INPUT: true; the input reads as it did. -/
def spaceTrueSpec : ChangeSpec := { name := "spaceTrue", fn := fun _ => fun
  | [d1, d2, d3] => { results := [.lit (.bool true)], args := [d1, d2, d3] }
  | _ => none }
def spaceTrueRow : OpenClaim := { program := "ytflbpkgnadjokaa", sum := "cf63189f4fd5a81a4b68fa6699b1437da0448ba794e5a7cbd866dd1e7512b7a7", func := "parcelway/parcelwaylaw.SpaceTrue", spec := "spaceTrue", unfollowed := true, recurses := true, apart := false }
def SpaceTrueSaid : Prop := spaceTrueRow.holds Try.pinned (OpenSpec.ofChange spaceTrueSpec)

/-- ITS FALSE NEIGHBOUR: 'it returns false'. Refute it at one input. -/
def spaceTrueWrong : ChangeSpec := { name := "spaceTrue", fn := fun _ => fun
  | [d1, d2, d3] => { results := [.lit (.bool false)], args := [d1, d2, d3] }
  | _ => none }
def SpaceTrueWrongFalsely : Prop := spaceTrueRow.holds Try.pinned (OpenSpec.ofChange spaceTrueWrong)

/-- 'parcelwaylaw.SpaceWhole': WHATEVER THE INPUT: true; the input reads as it did. -/
def spaceWholeSpec : ChangeSpec := { name := "spaceWhole", fn := fun _ => fun
  | [d1, d2] => { results := [.lit (.bool true)], args := [d1, d2] }
  | _ => none }
def spaceWholeRow : OpenClaim := { program := "ytflbpkgnadjokaa", sum := "cf63189f4fd5a81a4b68fa6699b1437da0448ba794e5a7cbd866dd1e7512b7a7", func := "parcelway/parcelwaylaw.SpaceWhole", spec := "spaceWhole", unfollowed := true, recurses := true, apart := false }
def SpaceWholeSaid : Prop := spaceWholeRow.holds Try.pinned (OpenSpec.ofChange spaceWholeSpec)

/-- ITS FALSE NEIGHBOUR: 'it returns false'. Refute it at one input. -/
def spaceWholeWrong : ChangeSpec := { name := "spaceWhole", fn := fun _ => fun
  | [d1, d2] => { results := [.lit (.bool false)], args := [d1, d2] }
  | _ => none }
def SpaceWholeWrongFalsely : Prop := spaceWholeRow.holds Try.pinned (OpenSpec.ofChange spaceWholeWrong)

/- THE SECOND FORM. 'bulk': how many values and letters a reading holds, each counted each time it is reached (what is shared counts as often as it is met; a slice's spare places count too). A statement '..UptoSaid' is the law's where the arguments, and the package variables that the reading takes, are together of bulk at most 1048576: NARROWER than '..Said'. Prove '..Said' where nothing that the law and all that it calls make is longer than what came in: it says more and counts as full. Else prove '..UptoSaid'. A law counts once. -/
mutual
def uptoBulk {H : Type} : DataW H → Nat
  | .lit (.string bytes) => bytes.length + 1
  | .lit _ => 1
  | .nil => 1
  | .ptr d => uptoBulk d + 1
  | .slice elems spare => uptoBulkAll elems + uptoBulkAll spare + 1
  | .agg parts => uptoBulkAll parts + 1
  | .iface _ d => uptoBulk d + 1
  | .map entries => uptoBulkEntries entries + 1
  | .held _ => 1
def uptoBulkAll {H : Type} : List (DataW H) → Nat
  | [] => 0
  | d :: r => uptoBulk d + uptoBulkAll r
def uptoBulkEntries {H : Type} : List (Lit × DataW H) → Nat
  | [] => 0
  | x :: r => uptoBulkEntry x + uptoBulkEntries r
def uptoBulkEntry {H : Type} : Lit × DataW H → Nat
  | (.string bytes, d) => bytes.length + uptoBulk d + 1
  | (_, d) => uptoBulk d + 1
 end
def uptoSmall : (H : Type) → List (DataW H) → Bool := fun _ ds => decide (uptoBulkAll ds ≤ 1048576)
def OpenSpec.upto (s : _root_.Go.ChangeSpec) : _root_.Go.OpenSpec := { _root_.Go.OpenSpec.ofChange s with cond := some uptoSmall }

/-- 'parcelwaylaw.SpaceFits', WHERE WHAT IT READS IS OF BULK AT MOST 1048576: true; the input reads as it did. -/
def spaceFitsUptoRow : OpenClaim := { program := "ytflbpkgnadjokaa", sum := "cf63189f4fd5a81a4b68fa6699b1437da0448ba794e5a7cbd866dd1e7512b7a7", func := "parcelway/parcelwaylaw.SpaceFits", spec := "spaceFits", unfollowed := true, recurses := true, apart := false, narrowed := true }
def SpaceFitsUptoSaid : Prop := spaceFitsUptoRow.holds Try.pinned (OpenSpec.upto spaceFitsSpec)

/-- 'parcelwaylaw.SpaceClaims', WHERE WHAT IT READS IS OF BULK AT MOST 1048576: true; the input reads as it did. -/
def spaceClaimsUptoRow : OpenClaim := { program := "ytflbpkgnadjokaa", sum := "cf63189f4fd5a81a4b68fa6699b1437da0448ba794e5a7cbd866dd1e7512b7a7", func := "parcelway/parcelwaylaw.SpaceClaims", spec := "spaceClaims", unfollowed := true, recurses := true, apart := false, narrowed := true }
def SpaceClaimsUptoSaid : Prop := spaceClaimsUptoRow.holds Try.pinned (OpenSpec.upto spaceClaimsSpec)

/-- 'parcelwaylaw.SpaceTrue', WHERE WHAT IT READS IS OF BULK AT MOST 1048576: true; the input reads as it did. -/
def spaceTrueUptoRow : OpenClaim := { program := "ytflbpkgnadjokaa", sum := "cf63189f4fd5a81a4b68fa6699b1437da0448ba794e5a7cbd866dd1e7512b7a7", func := "parcelway/parcelwaylaw.SpaceTrue", spec := "spaceTrue", unfollowed := true, recurses := true, apart := false, narrowed := true }
def SpaceTrueUptoSaid : Prop := spaceTrueUptoRow.holds Try.pinned (OpenSpec.upto spaceTrueSpec)

/-- 'parcelwaylaw.SpaceWhole', WHERE WHAT IT READS IS OF BULK AT MOST 1048576: true; the input reads as it did. -/
def spaceWholeUptoRow : OpenClaim := { program := "ytflbpkgnadjokaa", sum := "cf63189f4fd5a81a4b68fa6699b1437da0448ba794e5a7cbd866dd1e7512b7a7", func := "parcelway/parcelwaylaw.SpaceWhole", spec := "spaceWhole", unfollowed := true, recurses := true, apart := false, narrowed := true }
def SpaceWholeUptoSaid : Prop := spaceWholeUptoRow.holds Try.pinned (OpenSpec.upto spaceWholeSpec)

end Rows
end Go.Proofs.Ytflbpkgnadjokaa
