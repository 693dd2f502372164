/-
  No cell of these rows narrows 'for every input' (looked for: loops, veiled, ifaces, maps, wideKeys, modest, calm, conditions, laid).
  DERIVED. THE GIVEN ROWS OF THIS SEAT. 4 by the template 'for every input the law returns true; each argument reads behind the call as it read before'; 0 by the template 'total and deterministic' (their statements: YtdcjeacphbfmjaaGreatTotals.lean).
  GIVEN WITH THE SEED: the statements are not yours to turn. If you find one false, say at which input.
  Laid BY PROGRAM, IN A SANDBOX (cutbox-rows.mjs): the forced cells as the released guide's own fill.sh prints them over the translation c7e1aa18325814d9… (all of the seat's roots in one cut). By AI agents, Wed Nov 11 2026. No macro, syntax, notation, axiom, sorry.
-/
import Derived.Test.YtdcjeacphbfmjaaGreatChecked
import GoSem.Claim
import GoSem.ClaimJoined
import GoSem.ClaimMapViews
import Derived.JoinedTies
import Derived.KernelRfl
namespace Go.Proofs.YtdcjeacphbfmjaaGreat
/- THE CELL 'sum', in the pinned program and in every row, IS THE sha256 OF THE DUMP (.gsa) THAT YtdcjeacphbfmjaaGreatProg.lean LOADS. Nothing in Lean hashes anything: it is a label: what it is worth is what the hold of that sum in a sandbox is worth. -/
noncomputable def Tryz.pinned : Pinned := { name := "ytdcjeacphbfmjaagreat", sum := "c7e1aa18325814d9b3bc7775c35583f1c35ff354ad5f881602da26ec876c0a72", checked := Tryz.checked }
namespace Rows
def none {H : Type} : Left H := { results := [], args := [] }

/-- 'parcelwaylaw.VpcRanges': WHATEVER THE INPUT: true; the input reads as it did. -/
def vpcRangesSpec : ChangeSpec := { name := "vpcRanges", fn := fun _ => fun
  | [d1, d2, d3] => { results := [.lit (.bool true)], args := [d1, d2, d3] }
  | _ => none }
def vpcRangesRow : OpenClaim := { program := "ytdcjeacphbfmjaagreat", sum := "c7e1aa18325814d9b3bc7775c35583f1c35ff354ad5f881602da26ec876c0a72", func := "parcelway/parcelwaylaw.VpcRanges", spec := "vpcRanges", unfollowed := true, recurses := true, apart := false }
def VpcRangesSaid : Prop := vpcRangesRow.holds Tryz.pinned (OpenSpec.ofChange vpcRangesSpec)

/-- ITS FALSE NEIGHBOUR: 'it returns false'. Refute it at one input. -/
def vpcRangesWrong : ChangeSpec := { name := "vpcRanges", fn := fun _ => fun
  | [d1, d2, d3] => { results := [.lit (.bool false)], args := [d1, d2, d3] }
  | _ => none }
def VpcRangesWrongFalsely : Prop := vpcRangesRow.holds Tryz.pinned (OpenSpec.ofChange vpcRangesWrong)

/-- 'parcelwaylaw.VpcSubs': WHATEVER THE INPUT: true; the input reads as it did. -/
def vpcSubsSpec : ChangeSpec := { name := "vpcSubs", fn := fun _ => fun
  | [d1, d2, d3] => { results := [.lit (.bool true)], args := [d1, d2, d3] }
  | _ => none }
def vpcSubsRow : OpenClaim := { program := "ytdcjeacphbfmjaagreat", sum := "c7e1aa18325814d9b3bc7775c35583f1c35ff354ad5f881602da26ec876c0a72", func := "parcelway/parcelwaylaw.VpcSubs", spec := "vpcSubs", unfollowed := true, recurses := true, apart := false }
def VpcSubsSaid : Prop := vpcSubsRow.holds Tryz.pinned (OpenSpec.ofChange vpcSubsSpec)

/-- ITS FALSE NEIGHBOUR: 'it returns false'. Refute it at one input. -/
def vpcSubsWrong : ChangeSpec := { name := "vpcSubs", fn := fun _ => fun
  | [d1, d2, d3] => { results := [.lit (.bool false)], args := [d1, d2, d3] }
  | _ => none }
def VpcSubsWrongFalsely : Prop := vpcSubsRow.holds Tryz.pinned (OpenSpec.ofChange vpcSubsWrong)

/-- 'parcelwaylaw.VpcFaces': WHATEVER THE INPUT: true; the input reads as it did. -/
def vpcFacesSpec : ChangeSpec := { name := "vpcFaces", fn := fun _ => fun
  | [d1, d2, d3] => { results := [.lit (.bool true)], args := [d1, d2, d3] }
  | _ => none }
def vpcFacesRow : OpenClaim := { program := "ytdcjeacphbfmjaagreat", sum := "c7e1aa18325814d9b3bc7775c35583f1c35ff354ad5f881602da26ec876c0a72", func := "parcelway/parcelwaylaw.VpcFaces", spec := "vpcFaces", unfollowed := true, recurses := true, apart := false }
def VpcFacesSaid : Prop := vpcFacesRow.holds Tryz.pinned (OpenSpec.ofChange vpcFacesSpec)

/-- ITS FALSE NEIGHBOUR: 'it returns false'. Refute it at one input. -/
def vpcFacesWrong : ChangeSpec := { name := "vpcFaces", fn := fun _ => fun
  | [d1, d2, d3] => { results := [.lit (.bool false)], args := [d1, d2, d3] }
  | _ => none }
def VpcFacesWrongFalsely : Prop := vpcFacesRow.holds Tryz.pinned (OpenSpec.ofChange vpcFacesWrong)

/-- 'parcelwaylaw.VpcApart': WHATEVER THE INPUT: true; the input reads as it did. -/
def vpcApartSpec : ChangeSpec := { name := "vpcApart", fn := fun _ => fun
  | [d1, d2, d3] => { results := [.lit (.bool true)], args := [d1, d2, d3] }
  | _ => none }
def vpcApartRow : OpenClaim := { program := "ytdcjeacphbfmjaagreat", sum := "c7e1aa18325814d9b3bc7775c35583f1c35ff354ad5f881602da26ec876c0a72", func := "parcelway/parcelwaylaw.VpcApart", spec := "vpcApart", unfollowed := true, recurses := true, apart := false }
def VpcApartSaid : Prop := vpcApartRow.holds Tryz.pinned (OpenSpec.ofChange vpcApartSpec)

/-- ITS FALSE NEIGHBOUR: 'it returns false'. Refute it at one input. -/
def vpcApartWrong : ChangeSpec := { name := "vpcApart", fn := fun _ => fun
  | [d1, d2, d3] => { results := [.lit (.bool false)], args := [d1, d2, d3] }
  | _ => none }
def VpcApartWrongFalsely : Prop := vpcApartRow.holds Tryz.pinned (OpenSpec.ofChange vpcApartWrong)

/- THE SECOND FORM. 'bulk': how many values and letters a reading holds, each counted each time it is reached (what is shared counts as often as it is met; a slice's spare places count too). A statement '..UptoSaid' is the law's where the arguments, and the package variables that the reading takes, are together of bulk at most 1048576: NARROWER than '..Said'. Prove '..Said' where nothing that the law and all that it calls make is longer than what came in: it says more and counts as full. Else prove '..UptoSaid'. A law counts once. -/
mutual
def uptoBulk {H : Type} : DataW H → Nat
  | .lit (.string bytes) => bytes.length + 1
  | .lit _ => 1
  | .nil => 1
  | .ptr d => uptoBulk d + 1
  | .slice elems spare => uptoBulkAll elems + uptoBulkAll spare + 1
  | .agg parts => uptoBulkAll parts + 1
  | .iface _ d => uptoBulk d + 1
  | .map entries => uptoBulkEntries entries + 1
  | .held _ => 1
def uptoBulkAll {H : Type} : List (DataW H) → Nat
  | [] => 0
  | d :: r => uptoBulk d + uptoBulkAll r
def uptoBulkEntries {H : Type} : List (Lit × DataW H) → Nat
  | [] => 0
  | x :: r => uptoBulkEntry x + uptoBulkEntries r
def uptoBulkEntry {H : Type} : Lit × DataW H → Nat
  | (.string bytes, d) => bytes.length + uptoBulk d + 1
  | (_, d) => uptoBulk d + 1
 end
def uptoSmall : (H : Type) → List (DataW H) → Bool := fun _ ds => decide (uptoBulkAll ds ≤ 1048576)
def OpenSpec.upto (s : _root_.Go.ChangeSpec) : _root_.Go.OpenSpec := { _root_.Go.OpenSpec.ofChange s with cond := some uptoSmall }

/-- 'parcelwaylaw.VpcRanges', WHERE WHAT IT READS IS OF BULK AT MOST 1048576: true; the input reads as it did. -/
def vpcRangesUptoRow : OpenClaim := { program := "ytdcjeacphbfmjaagreat", sum := "c7e1aa18325814d9b3bc7775c35583f1c35ff354ad5f881602da26ec876c0a72", func := "parcelway/parcelwaylaw.VpcRanges", spec := "vpcRanges", unfollowed := true, recurses := true, apart := false, narrowed := true }
def VpcRangesUptoSaid : Prop := vpcRangesUptoRow.holds Tryz.pinned (OpenSpec.upto vpcRangesSpec)

/-- 'parcelwaylaw.VpcSubs', WHERE WHAT IT READS IS OF BULK AT MOST 1048576: true; the input reads as it did. -/
def vpcSubsUptoRow : OpenClaim := { program := "ytdcjeacphbfmjaagreat", sum := "c7e1aa18325814d9b3bc7775c35583f1c35ff354ad5f881602da26ec876c0a72", func := "parcelway/parcelwaylaw.VpcSubs", spec := "vpcSubs", unfollowed := true, recurses := true, apart := false, narrowed := true }
def VpcSubsUptoSaid : Prop := vpcSubsUptoRow.holds Tryz.pinned (OpenSpec.upto vpcSubsSpec)

/-- 'parcelwaylaw.VpcFaces', WHERE WHAT IT READS IS OF BULK AT MOST 1048576: true; the input reads as it did. -/
def vpcFacesUptoRow : OpenClaim := { program := "ytdcjeacphbfmjaagreat", sum := "c7e1aa18325814d9b3bc7775c35583f1c35ff354ad5f881602da26ec876c0a72", func := "parcelway/parcelwaylaw.VpcFaces", spec := "vpcFaces", unfollowed := true, recurses := true, apart := false, narrowed := true }
def VpcFacesUptoSaid : Prop := vpcFacesUptoRow.holds Tryz.pinned (OpenSpec.upto vpcFacesSpec)

/-- 'parcelwaylaw.VpcApart', WHERE WHAT IT READS IS OF BULK AT MOST 1048576: true; the input reads as it did. -/
def vpcApartUptoRow : OpenClaim := { program := "ytdcjeacphbfmjaagreat", sum := "c7e1aa18325814d9b3bc7775c35583f1c35ff354ad5f881602da26ec876c0a72", func := "parcelway/parcelwaylaw.VpcApart", spec := "vpcApart", unfollowed := true, recurses := true, apart := false, narrowed := true }
def VpcApartUptoSaid : Prop := vpcApartUptoRow.holds Tryz.pinned (OpenSpec.upto vpcApartSpec)

end Rows
end Go.Proofs.YtdcjeacphbfmjaaGreat
