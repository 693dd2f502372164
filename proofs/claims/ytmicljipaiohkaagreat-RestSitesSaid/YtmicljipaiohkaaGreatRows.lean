/-
  No cell of these rows narrows 'for every input' (looked for: loops, veiled, ifaces, maps, wideKeys, modest, calm, conditions, laid).
  DERIVED. THE GIVEN ROWS OF THIS SEAT. 5 by the template 'for every input the law returns true; each argument reads behind the call as it read before'; 0 by the template 'total and deterministic' (their statements: YtmicljipaiohkaaGreatTotals.lean).
  GIVEN WITH THE SEED: the statements are not yours to turn. If you find one false, say at which input.
  Laid BY PROGRAM, IN A SANDBOX (cutbox-rows.mjs): the forced cells as the released guide's own fill.sh prints them over the translation 47a549782dba5e8c… (all of the seat's roots in one cut). By AI agents, Wed Nov 11 2026. No macro, syntax, notation, axiom, sorry.
-/
import Derived.Test.YtmicljipaiohkaaGreatChecked
import GoSem.Claim
import GoSem.ClaimJoined
import GoSem.ClaimMapViews
import Derived.JoinedTies
import Derived.KernelRfl
namespace Go.Proofs.YtmicljipaiohkaaGreat
/- THE CELL 'sum', in the pinned program and in every row, IS THE sha256 OF THE DUMP (.gsa) THAT YtmicljipaiohkaaGreatProg.lean LOADS. Nothing in Lean hashes anything: it is a label: what it is worth is what the hold of that sum in a sandbox is worth. -/
noncomputable def Tryz.pinned : Pinned := { name := "ytmicljipaiohkaagreat", sum := "47a549782dba5e8c357c5c4af3c027140c050945c8f5a7ee44fcdec51334cf25", checked := Tryz.checked }
namespace Rows
def none {H : Type} : Left H := { results := [], args := [] }

/-- 'parcelwaylaw.SiteDoes': WHATEVER THE INPUT: true; the input reads as it did. -/
def siteDoesSpec : ChangeSpec := { name := "siteDoes", fn := fun _ => fun
  | [d1, d2] => { results := [.lit (.bool true)], args := [d1, d2] }
  | _ => none }
def siteDoesRow : OpenClaim := { program := "ytmicljipaiohkaagreat", sum := "47a549782dba5e8c357c5c4af3c027140c050945c8f5a7ee44fcdec51334cf25", func := "parcelway/parcelwaylaw.SiteDoes", spec := "siteDoes", inPlace := ["slices.overlaps[parcelway/api.Pool]", "slices.overlaps[parcelway/api.Lease]"], unfollowed := true, recurses := true, plainKeys := false, apart := false }
def SiteDoesSaid : Prop := siteDoesRow.holds Tryz.pinned (OpenSpec.ofChange siteDoesSpec)

/-- ITS FALSE NEIGHBOUR: 'it returns false'. Refute it at one input. -/
def siteDoesWrong : ChangeSpec := { name := "siteDoes", fn := fun _ => fun
  | [d1, d2] => { results := [.lit (.bool false)], args := [d1, d2] }
  | _ => none }
def SiteDoesWrongFalsely : Prop := siteDoesRow.holds Tryz.pinned (OpenSpec.ofChange siteDoesWrong)

/-- 'parcelwaylaw.SitePlays': WHATEVER THE INPUT: true; the input reads as it did. -/
def sitePlaysSpec : ChangeSpec := { name := "sitePlays", fn := fun _ => fun
  | [d] => { results := [.lit (.bool true)], args := [d] }
  | _ => none }
def sitePlaysRow : OpenClaim := { program := "ytmicljipaiohkaagreat", sum := "47a549782dba5e8c357c5c4af3c027140c050945c8f5a7ee44fcdec51334cf25", func := "parcelway/parcelwaylaw.SitePlays", spec := "sitePlays", inPlace := ["slices.overlaps[parcelway/api.Pool]", "slices.overlaps[parcelway/api.Lease]"], unfollowed := true, recurses := true, plainKeys := false, apart := false }
def SitePlaysSaid : Prop := sitePlaysRow.holds Tryz.pinned (OpenSpec.ofChange sitePlaysSpec)

/-- ITS FALSE NEIGHBOUR: 'it returns false'. Refute it at one input. -/
def sitePlaysWrong : ChangeSpec := { name := "sitePlays", fn := fun _ => fun
  | [d] => { results := [.lit (.bool false)], args := [d] }
  | _ => none }
def SitePlaysWrongFalsely : Prop := sitePlaysRow.holds Tryz.pinned (OpenSpec.ofChange sitePlaysWrong)

/-- 'parcelwaylaw.SiteCools': WHATEVER THE INPUT: true; the input reads as it did. -/
def siteCoolsSpec : ChangeSpec := { name := "siteCools", fn := fun _ => fun
  | [d1, d2, d3, d4] => { results := [.lit (.bool true)], args := [d1, d2, d3, d4] }
  | _ => none }
def siteCoolsRow : OpenClaim := { program := "ytmicljipaiohkaagreat", sum := "47a549782dba5e8c357c5c4af3c027140c050945c8f5a7ee44fcdec51334cf25", func := "parcelway/parcelwaylaw.SiteCools", spec := "siteCools", inPlace := ["slices.overlaps[parcelway/api.Pool]", "slices.overlaps[parcelway/api.Lease]"], unfollowed := true, recurses := true, plainKeys := false, apart := false }
def SiteCoolsSaid : Prop := siteCoolsRow.holds Tryz.pinned (OpenSpec.ofChange siteCoolsSpec)

/-- ITS FALSE NEIGHBOUR: 'it returns false'. Refute it at one input. -/
def siteCoolsWrong : ChangeSpec := { name := "siteCools", fn := fun _ => fun
  | [d1, d2, d3, d4] => { results := [.lit (.bool false)], args := [d1, d2, d3, d4] }
  | _ => none }
def SiteCoolsWrongFalsely : Prop := siteCoolsRow.holds Tryz.pinned (OpenSpec.ofChange siteCoolsWrong)

/-- 'parcelwaylaw.RestSites': WHATEVER THE INPUT: true; the input reads as it did. -/
def restSitesSpec : ChangeSpec := { name := "restSites", fn := fun _ => fun
  | [d1, d2] => { results := [.lit (.bool true)], args := [d1, d2] }
  | _ => none }
def restSitesRow : OpenClaim := { program := "ytmicljipaiohkaagreat", sum := "47a549782dba5e8c357c5c4af3c027140c050945c8f5a7ee44fcdec51334cf25", func := "parcelway/parcelwaylaw.RestSites", spec := "restSites", inPlace := ["slices.overlaps[parcelway/api.Pool]", "slices.overlaps[parcelway/api.Lease]"], unfollowed := true, recurses := true, plainKeys := false, apart := false }
def RestSitesSaid : Prop := restSitesRow.holds Tryz.pinned (OpenSpec.ofChange restSitesSpec)

/-- ITS FALSE NEIGHBOUR: 'it returns false'. Refute it at one input. -/
def restSitesWrong : ChangeSpec := { name := "restSites", fn := fun _ => fun
  | [d1, d2] => { results := [.lit (.bool false)], args := [d1, d2] }
  | _ => none }
def RestSitesWrongFalsely : Prop := restSitesRow.holds Tryz.pinned (OpenSpec.ofChange restSitesWrong)

/-- 'parcelwaylaw.SiteRight': WHATEVER THE INPUT: true; the input reads as it did. -/
def siteRightSpec : ChangeSpec := { name := "siteRight", fn := fun _ => fun
  | [d1, d2] => { results := [.lit (.bool true)], args := [d1, d2] }
  | _ => none }
def siteRightRow : OpenClaim := { program := "ytmicljipaiohkaagreat", sum := "47a549782dba5e8c357c5c4af3c027140c050945c8f5a7ee44fcdec51334cf25", func := "parcelway/parcelwaylaw.SiteRight", spec := "siteRight", inPlace := ["slices.overlaps[parcelway/api.Pool]", "slices.overlaps[parcelway/api.Lease]"], unfollowed := true, recurses := true, plainKeys := false, apart := false }
def SiteRightSaid : Prop := siteRightRow.holds Tryz.pinned (OpenSpec.ofChange siteRightSpec)

/-- ITS FALSE NEIGHBOUR: 'it returns false'. Refute it at one input. -/
def siteRightWrong : ChangeSpec := { name := "siteRight", fn := fun _ => fun
  | [d1, d2] => { results := [.lit (.bool false)], args := [d1, d2] }
  | _ => none }
def SiteRightWrongFalsely : Prop := siteRightRow.holds Tryz.pinned (OpenSpec.ofChange siteRightWrong)

/- THE SECOND FORM. 'bulk': how many values and letters a reading holds, each counted each time it is reached (what is shared counts as often as it is met; a slice's spare places count too). A statement '..UptoSaid' is the law's where the arguments, and the package variables that the reading takes, are together of bulk at most 1048576: NARROWER than '..Said'. Prove '..Said' where nothing that the law and all that it calls make is longer than what came in: it says more and counts as full. Else prove '..UptoSaid'. A law counts once. -/
mutual
def uptoBulk {H : Type} : DataW H → Nat
  | .lit (.string bytes) => bytes.length + 1
  | .lit _ => 1
  | .nil => 1
  | .ptr d => uptoBulk d + 1
  | .slice elems spare => uptoBulkAll elems + uptoBulkAll spare + 1
  | .agg parts => uptoBulkAll parts + 1
  | .iface _ d => uptoBulk d + 1
  | .map entries => uptoBulkEntries entries + 1
  | .held _ => 1
def uptoBulkAll {H : Type} : List (DataW H) → Nat
  | [] => 0
  | d :: r => uptoBulk d + uptoBulkAll r
def uptoBulkEntries {H : Type} : List (Lit × DataW H) → Nat
  | [] => 0
  | x :: r => uptoBulkEntry x + uptoBulkEntries r
def uptoBulkEntry {H : Type} : Lit × DataW H → Nat
  | (.string bytes, d) => bytes.length + uptoBulk d + 1
  | (_, d) => uptoBulk d + 1
 end
def uptoSmall : (H : Type) → List (DataW H) → Bool := fun _ ds => decide (uptoBulkAll ds ≤ 1048576)
def OpenSpec.upto (s : _root_.Go.ChangeSpec) : _root_.Go.OpenSpec := { _root_.Go.OpenSpec.ofChange s with cond := some uptoSmall }

/-- 'parcelwaylaw.SiteDoes', WHERE WHAT IT READS IS OF BULK AT MOST 1048576: true; the input reads as it did. -/
def siteDoesUptoRow : OpenClaim := { program := "ytmicljipaiohkaagreat", sum := "47a549782dba5e8c357c5c4af3c027140c050945c8f5a7ee44fcdec51334cf25", func := "parcelway/parcelwaylaw.SiteDoes", spec := "siteDoes", inPlace := ["slices.overlaps[parcelway/api.Pool]", "slices.overlaps[parcelway/api.Lease]"], unfollowed := true, recurses := true, plainKeys := false, apart := false, narrowed := true }
def SiteDoesUptoSaid : Prop := siteDoesUptoRow.holds Tryz.pinned (OpenSpec.upto siteDoesSpec)

/-- 'parcelwaylaw.SitePlays', WHERE WHAT IT READS IS OF BULK AT MOST 1048576: true; the input reads as it did. -/
def sitePlaysUptoRow : OpenClaim := { program := "ytmicljipaiohkaagreat", sum := "47a549782dba5e8c357c5c4af3c027140c050945c8f5a7ee44fcdec51334cf25", func := "parcelway/parcelwaylaw.SitePlays", spec := "sitePlays", inPlace := ["slices.overlaps[parcelway/api.Pool]", "slices.overlaps[parcelway/api.Lease]"], unfollowed := true, recurses := true, plainKeys := false, apart := false, narrowed := true }
def SitePlaysUptoSaid : Prop := sitePlaysUptoRow.holds Tryz.pinned (OpenSpec.upto sitePlaysSpec)

/-- 'parcelwaylaw.SiteCools', WHERE WHAT IT READS IS OF BULK AT MOST 1048576: true; the input reads as it did. -/
def siteCoolsUptoRow : OpenClaim := { program := "ytmicljipaiohkaagreat", sum := "47a549782dba5e8c357c5c4af3c027140c050945c8f5a7ee44fcdec51334cf25", func := "parcelway/parcelwaylaw.SiteCools", spec := "siteCools", inPlace := ["slices.overlaps[parcelway/api.Pool]", "slices.overlaps[parcelway/api.Lease]"], unfollowed := true, recurses := true, plainKeys := false, apart := false, narrowed := true }
def SiteCoolsUptoSaid : Prop := siteCoolsUptoRow.holds Tryz.pinned (OpenSpec.upto siteCoolsSpec)

/-- 'parcelwaylaw.RestSites', WHERE WHAT IT READS IS OF BULK AT MOST 1048576: true; the input reads as it did. -/
def restSitesUptoRow : OpenClaim := { program := "ytmicljipaiohkaagreat", sum := "47a549782dba5e8c357c5c4af3c027140c050945c8f5a7ee44fcdec51334cf25", func := "parcelway/parcelwaylaw.RestSites", spec := "restSites", inPlace := ["slices.overlaps[parcelway/api.Pool]", "slices.overlaps[parcelway/api.Lease]"], unfollowed := true, recurses := true, plainKeys := false, apart := false, narrowed := true }
def RestSitesUptoSaid : Prop := restSitesUptoRow.holds Tryz.pinned (OpenSpec.upto restSitesSpec)

/-- 'parcelwaylaw.SiteRight', WHERE WHAT IT READS IS OF BULK AT MOST 1048576: true; the input reads as it did. -/
def siteRightUptoRow : OpenClaim := { program := "ytmicljipaiohkaagreat", sum := "47a549782dba5e8c357c5c4af3c027140c050945c8f5a7ee44fcdec51334cf25", func := "parcelway/parcelwaylaw.SiteRight", spec := "siteRight", inPlace := ["slices.overlaps[parcelway/api.Pool]", "slices.overlaps[parcelway/api.Lease]"], unfollowed := true, recurses := true, plainKeys := false, apart := false, narrowed := true }
def SiteRightUptoSaid : Prop := siteRightUptoRow.holds Tryz.pinned (OpenSpec.upto siteRightSpec)

end Rows
end Go.Proofs.YtmicljipaiohkaaGreat
