/-
  No cell of these rows narrows 'for every input' (looked for: loops, veiled, ifaces, maps, wideKeys, modest, calm, conditions, laid).
  DERIVED. THE GIVEN ROWS OF THIS SEAT. 6 by the template 'for every input the law returns true; each argument reads behind the call as it read before'; 0 by the template 'total and deterministic' (their statements: YtbeocackphfijaaTotals.lean).
  GIVEN WITH THE SEED: the statements are not yours to turn. If you find one false, say at which input.
  Laid BY PROGRAM, IN A SANDBOX (cutbox-rows.mjs): the forced cells as the released guide's own fill.sh prints them over the translation 64a982611dab93ca… (all of the seat's roots in one cut). By AI agents, Wed Nov 11 2026. No macro, syntax, notation, axiom, sorry.
-/
import Derived.Test.YtbeocackphfijaaChecked
import GoSem.Claim
import GoSem.ClaimJoined
import GoSem.ClaimMapViews
import Derived.JoinedTies
import Derived.KernelRfl
namespace Go.Proofs.Ytbeocackphfijaa
/- THE CELL 'sum', in the pinned program and in every row, IS THE sha256 OF THE DUMP (.gsa) THAT YtbeocackphfijaaProg.lean LOADS. Nothing in Lean hashes anything: it is a label: what it is worth is what the hold of that sum in a sandbox is worth. -/
noncomputable def Try.pinned : Pinned := { name := "ytbeocackphfijaa", sum := "64a982611dab93caf3136fee4d132c40b48110f36bc9ade3476f1daf1aae4f6e", checked := Try.checked }
namespace Rows
def none {H : Type} : Left H := { results := [], args := [] }

/-- 'parcelwaylaw.PoolOpens': WHATEVER THE INPUT: true; the input reads as it did. -/
def poolOpensSpec : ChangeSpec := { name := "poolOpens", fn := fun _ => fun
  | [d1, d2, d3, d4, d5, d6] => { results := [.lit (.bool true)], args := [d1, d2, d3, d4, d5, d6] }
  | _ => none }
def poolOpensRow : OpenClaim := { program := "ytbeocackphfijaa", sum := "64a982611dab93caf3136fee4d132c40b48110f36bc9ade3476f1daf1aae4f6e", func := "parcelway/parcelwaylaw.PoolOpens", spec := "poolOpens", inPlace := ["slices.overlaps[parcelway/api.Pool]", "slices.overlaps[parcelway/api.Lease]"], unfollowed := true, recurses := true, apart := false }
def PoolOpensSaid : Prop := poolOpensRow.holds Try.pinned (OpenSpec.ofChange poolOpensSpec)

/-- ITS FALSE NEIGHBOUR: 'it returns false'. Refute it at one input. -/
def poolOpensWrong : ChangeSpec := { name := "poolOpens", fn := fun _ => fun
  | [d1, d2, d3, d4, d5, d6] => { results := [.lit (.bool false)], args := [d1, d2, d3, d4, d5, d6] }
  | _ => none }
def PoolOpensWrongFalsely : Prop := poolOpensRow.holds Try.pinned (OpenSpec.ofChange poolOpensWrong)

/-- 'parcelwaylaw.PoolTakes': WHATEVER THE INPUT: true; the input reads as it did. -/
def poolTakesSpec : ChangeSpec := { name := "poolTakes", fn := fun _ => fun
  | [d1, d2, d3, d4, d5] => { results := [.lit (.bool true)], args := [d1, d2, d3, d4, d5] }
  | _ => none }
def poolTakesRow : OpenClaim := { program := "ytbeocackphfijaa", sum := "64a982611dab93caf3136fee4d132c40b48110f36bc9ade3476f1daf1aae4f6e", func := "parcelway/parcelwaylaw.PoolTakes", spec := "poolTakes", inPlace := ["slices.overlaps[parcelway/api.Lease]", "slices.overlaps[parcelway/api.Pool]"], unfollowed := true, recurses := true, apart := false }
def PoolTakesSaid : Prop := poolTakesRow.holds Try.pinned (OpenSpec.ofChange poolTakesSpec)

/-- ITS FALSE NEIGHBOUR: 'it returns false'. Refute it at one input. -/
def poolTakesWrong : ChangeSpec := { name := "poolTakes", fn := fun _ => fun
  | [d1, d2, d3, d4, d5] => { results := [.lit (.bool false)], args := [d1, d2, d3, d4, d5] }
  | _ => none }
def PoolTakesWrongFalsely : Prop := poolTakesRow.holds Try.pinned (OpenSpec.ofChange poolTakesWrong)

/-- 'parcelwaylaw.PoolCloses': WHATEVER THE INPUT: true; the input reads as it did. -/
def poolClosesSpec : ChangeSpec := { name := "poolCloses", fn := fun _ => fun
  | [d1, d2, d3] => { results := [.lit (.bool true)], args := [d1, d2, d3] }
  | _ => none }
def poolClosesRow : OpenClaim := { program := "ytbeocackphfijaa", sum := "64a982611dab93caf3136fee4d132c40b48110f36bc9ade3476f1daf1aae4f6e", func := "parcelway/parcelwaylaw.PoolCloses", spec := "poolCloses", inPlace := ["slices.overlaps[parcelway/api.Pool]", "slices.overlaps[parcelway/api.Lease]"], unfollowed := true, recurses := true, apart := false }
def PoolClosesSaid : Prop := poolClosesRow.holds Try.pinned (OpenSpec.ofChange poolClosesSpec)

/-- ITS FALSE NEIGHBOUR: 'it returns false'. Refute it at one input. -/
def poolClosesWrong : ChangeSpec := { name := "poolCloses", fn := fun _ => fun
  | [d1, d2, d3] => { results := [.lit (.bool false)], args := [d1, d2, d3] }
  | _ => none }
def PoolClosesWrongFalsely : Prop := poolClosesRow.holds Try.pinned (OpenSpec.ofChange poolClosesWrong)

/-- 'parcelwaylaw.PoolCools': WHATEVER THE INPUT: true; the input reads as it did. -/
def poolCoolsSpec : ChangeSpec := { name := "poolCools", fn := fun _ => fun
  | [d1, d2, d3, d4, d5, d6] => { results := [.lit (.bool true)], args := [d1, d2, d3, d4, d5, d6] }
  | _ => none }
def poolCoolsRow : OpenClaim := { program := "ytbeocackphfijaa", sum := "64a982611dab93caf3136fee4d132c40b48110f36bc9ade3476f1daf1aae4f6e", func := "parcelway/parcelwaylaw.PoolCools", spec := "poolCools", inPlace := ["slices.overlaps[parcelway/api.Pool]", "slices.overlaps[parcelway/api.Lease]"], unfollowed := true, recurses := true, apart := false }
def PoolCoolsSaid : Prop := poolCoolsRow.holds Try.pinned (OpenSpec.ofChange poolCoolsSpec)

/-- ITS FALSE NEIGHBOUR: 'it returns false'. Refute it at one input. -/
def poolCoolsWrong : ChangeSpec := { name := "poolCools", fn := fun _ => fun
  | [d1, d2, d3, d4, d5, d6] => { results := [.lit (.bool false)], args := [d1, d2, d3, d4, d5, d6] }
  | _ => none }
def PoolCoolsWrongFalsely : Prop := poolCoolsRow.holds Try.pinned (OpenSpec.ofChange poolCoolsWrong)

/-- 'parcelwaylaw.PoolFinds': WHATEVER THE INPUT: true; the input reads as it did. -/
def poolFindsSpec : ChangeSpec := { name := "poolFinds", fn := fun _ => fun
  | [d1, d2, d3, d4, d5] => { results := [.lit (.bool true)], args := [d1, d2, d3, d4, d5] }
  | _ => none }
def poolFindsRow : OpenClaim := { program := "ytbeocackphfijaa", sum := "64a982611dab93caf3136fee4d132c40b48110f36bc9ade3476f1daf1aae4f6e", func := "parcelway/parcelwaylaw.PoolFinds", spec := "poolFinds", inPlace := ["slices.overlaps[parcelway/api.Lease]", "slices.overlaps[parcelway/api.Pool]"], unfollowed := true, recurses := true, apart := false }
def PoolFindsSaid : Prop := poolFindsRow.holds Try.pinned (OpenSpec.ofChange poolFindsSpec)

/-- ITS FALSE NEIGHBOUR: 'it returns false'. Refute it at one input. -/
def poolFindsWrong : ChangeSpec := { name := "poolFinds", fn := fun _ => fun
  | [d1, d2, d3, d4, d5] => { results := [.lit (.bool false)], args := [d1, d2, d3, d4, d5] }
  | _ => none }
def PoolFindsWrongFalsely : Prop := poolFindsRow.holds Try.pinned (OpenSpec.ofChange poolFindsWrong)

/-- 'parcelwaylaw.PoolApart': WHATEVER THE INPUT: true; the input reads as it did. -/
def poolApartSpec : ChangeSpec := { name := "poolApart", fn := fun _ => fun
  | [d1, d2, d3, d4, d5] => { results := [.lit (.bool true)], args := [d1, d2, d3, d4, d5] }
  | _ => none }
def poolApartRow : OpenClaim := { program := "ytbeocackphfijaa", sum := "64a982611dab93caf3136fee4d132c40b48110f36bc9ade3476f1daf1aae4f6e", func := "parcelway/parcelwaylaw.PoolApart", spec := "poolApart", inPlace := ["slices.overlaps[parcelway/api.Pool]", "slices.overlaps[parcelway/api.Lease]"], unfollowed := true, recurses := true, apart := false }
def PoolApartSaid : Prop := poolApartRow.holds Try.pinned (OpenSpec.ofChange poolApartSpec)

/-- ITS FALSE NEIGHBOUR: 'it returns false'. Refute it at one input. -/
def poolApartWrong : ChangeSpec := { name := "poolApart", fn := fun _ => fun
  | [d1, d2, d3, d4, d5] => { results := [.lit (.bool false)], args := [d1, d2, d3, d4, d5] }
  | _ => none }
def PoolApartWrongFalsely : Prop := poolApartRow.holds Try.pinned (OpenSpec.ofChange poolApartWrong)

/- THE SECOND FORM. 'bulk': how many values and letters a reading holds, each counted each time it is reached (what is shared counts as often as it is met; a slice's spare places count too). A statement '..UptoSaid' is the law's where the arguments, and the package variables that the reading takes, are together of bulk at most 1048576: NARROWER than '..Said'. Prove '..Said' where nothing that the law and all that it calls make is longer than what came in: it says more and counts as full. Else prove '..UptoSaid'. A law counts once. -/
mutual
def uptoBulk {H : Type} : DataW H → Nat
  | .lit (.string bytes) => bytes.length + 1
  | .lit _ => 1
  | .nil => 1
  | .ptr d => uptoBulk d + 1
  | .slice elems spare => uptoBulkAll elems + uptoBulkAll spare + 1
  | .agg parts => uptoBulkAll parts + 1
  | .iface _ d => uptoBulk d + 1
  | .map entries => uptoBulkEntries entries + 1
  | .held _ => 1
def uptoBulkAll {H : Type} : List (DataW H) → Nat
  | [] => 0
  | d :: r => uptoBulk d + uptoBulkAll r
def uptoBulkEntries {H : Type} : List (Lit × DataW H) → Nat
  | [] => 0
  | x :: r => uptoBulkEntry x + uptoBulkEntries r
def uptoBulkEntry {H : Type} : Lit × DataW H → Nat
  | (.string bytes, d) => bytes.length + uptoBulk d + 1
  | (_, d) => uptoBulk d + 1
 end
def uptoSmall : (H : Type) → List (DataW H) → Bool := fun _ ds => decide (uptoBulkAll ds ≤ 1048576)
def OpenSpec.upto (s : _root_.Go.ChangeSpec) : _root_.Go.OpenSpec := { _root_.Go.OpenSpec.ofChange s with cond := some uptoSmall }

/-- 'parcelwaylaw.PoolOpens', WHERE WHAT IT READS IS OF BULK AT MOST 1048576: true; the input reads as it did. -/
def poolOpensUptoRow : OpenClaim := { program := "ytbeocackphfijaa", sum := "64a982611dab93caf3136fee4d132c40b48110f36bc9ade3476f1daf1aae4f6e", func := "parcelway/parcelwaylaw.PoolOpens", spec := "poolOpens", inPlace := ["slices.overlaps[parcelway/api.Pool]", "slices.overlaps[parcelway/api.Lease]"], unfollowed := true, recurses := true, apart := false, narrowed := true }
def PoolOpensUptoSaid : Prop := poolOpensUptoRow.holds Try.pinned (OpenSpec.upto poolOpensSpec)

/-- 'parcelwaylaw.PoolTakes', WHERE WHAT IT READS IS OF BULK AT MOST 1048576: true; the input reads as it did. -/
def poolTakesUptoRow : OpenClaim := { program := "ytbeocackphfijaa", sum := "64a982611dab93caf3136fee4d132c40b48110f36bc9ade3476f1daf1aae4f6e", func := "parcelway/parcelwaylaw.PoolTakes", spec := "poolTakes", inPlace := ["slices.overlaps[parcelway/api.Lease]", "slices.overlaps[parcelway/api.Pool]"], unfollowed := true, recurses := true, apart := false, narrowed := true }
def PoolTakesUptoSaid : Prop := poolTakesUptoRow.holds Try.pinned (OpenSpec.upto poolTakesSpec)

/-- 'parcelwaylaw.PoolCloses', WHERE WHAT IT READS IS OF BULK AT MOST 1048576: true; the input reads as it did. -/
def poolClosesUptoRow : OpenClaim := { program := "ytbeocackphfijaa", sum := "64a982611dab93caf3136fee4d132c40b48110f36bc9ade3476f1daf1aae4f6e", func := "parcelway/parcelwaylaw.PoolCloses", spec := "poolCloses", inPlace := ["slices.overlaps[parcelway/api.Pool]", "slices.overlaps[parcelway/api.Lease]"], unfollowed := true, recurses := true, apart := false, narrowed := true }
def PoolClosesUptoSaid : Prop := poolClosesUptoRow.holds Try.pinned (OpenSpec.upto poolClosesSpec)

/-- 'parcelwaylaw.PoolCools', WHERE WHAT IT READS IS OF BULK AT MOST 1048576: true; the input reads as it did. -/
def poolCoolsUptoRow : OpenClaim := { program := "ytbeocackphfijaa", sum := "64a982611dab93caf3136fee4d132c40b48110f36bc9ade3476f1daf1aae4f6e", func := "parcelway/parcelwaylaw.PoolCools", spec := "poolCools", inPlace := ["slices.overlaps[parcelway/api.Pool]", "slices.overlaps[parcelway/api.Lease]"], unfollowed := true, recurses := true, apart := false, narrowed := true }
def PoolCoolsUptoSaid : Prop := poolCoolsUptoRow.holds Try.pinned (OpenSpec.upto poolCoolsSpec)

/-- 'parcelwaylaw.PoolFinds', WHERE WHAT IT READS IS OF BULK AT MOST 1048576: true; the input reads as it did. -/
def poolFindsUptoRow : OpenClaim := { program := "ytbeocackphfijaa", sum := "64a982611dab93caf3136fee4d132c40b48110f36bc9ade3476f1daf1aae4f6e", func := "parcelway/parcelwaylaw.PoolFinds", spec := "poolFinds", inPlace := ["slices.overlaps[parcelway/api.Lease]", "slices.overlaps[parcelway/api.Pool]"], unfollowed := true, recurses := true, apart := false, narrowed := true }
def PoolFindsUptoSaid : Prop := poolFindsUptoRow.holds Try.pinned (OpenSpec.upto poolFindsSpec)

/-- 'parcelwaylaw.PoolApart', WHERE WHAT IT READS IS OF BULK AT MOST 1048576: true; the input reads as it did. -/
def poolApartUptoRow : OpenClaim := { program := "ytbeocackphfijaa", sum := "64a982611dab93caf3136fee4d132c40b48110f36bc9ade3476f1daf1aae4f6e", func := "parcelway/parcelwaylaw.PoolApart", spec := "poolApart", inPlace := ["slices.overlaps[parcelway/api.Pool]", "slices.overlaps[parcelway/api.Lease]"], unfollowed := true, recurses := true, apart := false, narrowed := true }
def PoolApartUptoSaid : Prop := poolApartUptoRow.holds Try.pinned (OpenSpec.upto poolApartSpec)

end Rows
end Go.Proofs.Ytbeocackphfijaa
