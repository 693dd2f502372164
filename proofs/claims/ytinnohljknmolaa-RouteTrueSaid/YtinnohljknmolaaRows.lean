/-
  No cell of these rows narrows 'for every input' (looked for: loops, veiled, ifaces, maps, wideKeys, modest, calm, conditions, laid).
  DERIVED. THE GIVEN ROWS OF THIS SEAT. 3 by the template 'for every input the law returns true; each argument reads behind the call as it read before'; 0 by the template 'total and deterministic' (their statements: YtinnohljknmolaaTotals.lean).
  GIVEN WITH THE SEED: the statements are not yours to turn. If you find one false, say at which input.
  Laid BY PROGRAM, IN A SANDBOX (cutbox-rows.mjs): the forced cells as the released guide's own fill.sh prints them over the translation b76c0d96896b0f12… (all of the seat's roots in one cut). By AI agents, Wed Nov 11 2026. No macro, syntax, notation, axiom, sorry.
-/
import Derived.Test.YtinnohljknmolaaChecked
import GoSem.Claim
import GoSem.ClaimJoined
import GoSem.ClaimMapViews
import Derived.JoinedTies
import Derived.KernelRfl
namespace Go.Proofs.Ytinnohljknmolaa
/- THE CELL 'sum', in the pinned program and in every row, IS THE sha256 OF THE DUMP (.gsa) THAT YtinnohljknmolaaProg.lean LOADS. Nothing in Lean hashes anything: it is a label: what it is worth is what the hold of that sum in a sandbox is worth. -/
noncomputable def Try.pinned : Pinned := { name := "ytinnohljknmolaa", sum := "b76c0d96896b0f124cebf8608d630ff4f74ba2e5e4e281b7730445c4137e7c66", checked := Try.checked }
namespace Rows
def none {H : Type} : Left H := { results := [], args := [] }

/-- 'parcelwaylaw.RouteTables': WHATEVER THE INPUT: true; the input reads as it did. -/
def routeTablesSpec : ChangeSpec := { name := "routeTables", fn := fun _ => fun
  | [d1, d2] => { results := [.lit (.bool true)], args := [d1, d2] }
  | _ => none }
def routeTablesRow : OpenClaim := { program := "ytinnohljknmolaa", sum := "b76c0d96896b0f124cebf8608d630ff4f74ba2e5e4e281b7730445c4137e7c66", func := "parcelway/parcelwaylaw.RouteTables", spec := "routeTables", unfollowed := true, recurses := true, plainKeys := false, apart := false }
def RouteTablesSaid : Prop := routeTablesRow.holds Try.pinned (OpenSpec.ofChange routeTablesSpec)

/-- ITS FALSE NEIGHBOUR: 'it returns false'. Refute it at one input. -/
def routeTablesWrong : ChangeSpec := { name := "routeTables", fn := fun _ => fun
  | [d1, d2] => { results := [.lit (.bool false)], args := [d1, d2] }
  | _ => none }
def RouteTablesWrongFalsely : Prop := routeTablesRow.holds Try.pinned (OpenSpec.ofChange routeTablesWrong)

/-- 'parcelwaylaw.RouteFinds': WHATEVER THE INPUT: true; the input reads as it did. -/
def routeFindsSpec : ChangeSpec := { name := "routeFinds", fn := fun _ => fun
  | [d1, d2] => { results := [.lit (.bool true)], args := [d1, d2] }
  | _ => none }
def routeFindsRow : OpenClaim := { program := "ytinnohljknmolaa", sum := "b76c0d96896b0f124cebf8608d630ff4f74ba2e5e4e281b7730445c4137e7c66", func := "parcelway/parcelwaylaw.RouteFinds", spec := "routeFinds", unfollowed := true, recurses := true, plainKeys := false, apart := false }
def RouteFindsSaid : Prop := routeFindsRow.holds Try.pinned (OpenSpec.ofChange routeFindsSpec)

/-- ITS FALSE NEIGHBOUR: 'it returns false'. Refute it at one input. -/
def routeFindsWrong : ChangeSpec := { name := "routeFinds", fn := fun _ => fun
  | [d1, d2] => { results := [.lit (.bool false)], args := [d1, d2] }
  | _ => none }
def RouteFindsWrongFalsely : Prop := routeFindsRow.holds Try.pinned (OpenSpec.ofChange routeFindsWrong)

/-- 'parcelwaylaw.RouteTrue': WHATEVER THE INPUT: true; the input reads as it did. -/
def routeTrueSpec : ChangeSpec := { name := "routeTrue", fn := fun _ => fun
  | [d1, d2, d3] => { results := [.lit (.bool true)], args := [d1, d2, d3] }
  | _ => none }
def routeTrueRow : OpenClaim := { program := "ytinnohljknmolaa", sum := "b76c0d96896b0f124cebf8608d630ff4f74ba2e5e4e281b7730445c4137e7c66", func := "parcelway/parcelwaylaw.RouteTrue", spec := "routeTrue", unfollowed := true, recurses := true, plainKeys := false, apart := false }
def RouteTrueSaid : Prop := routeTrueRow.holds Try.pinned (OpenSpec.ofChange routeTrueSpec)

/-- ITS FALSE NEIGHBOUR: 'it returns false'. Refute it at one input. -/
def routeTrueWrong : ChangeSpec := { name := "routeTrue", fn := fun _ => fun
  | [d1, d2, d3] => { results := [.lit (.bool false)], args := [d1, d2, d3] }
  | _ => none }
def RouteTrueWrongFalsely : Prop := routeTrueRow.holds Try.pinned (OpenSpec.ofChange routeTrueWrong)

/- THE SECOND FORM. 'bulk': how many values and letters a reading holds, each counted each time it is reached (what is shared counts as often as it is met; a slice's spare places count too). A statement '..UptoSaid' is the law's where the arguments, and the package variables that the reading takes, are together of bulk at most 1048576: NARROWER than '..Said'. Prove '..Said' where nothing that the law and all that it calls make is longer than what came in: it says more and counts as full. Else prove '..UptoSaid'. A law counts once. -/
mutual
def uptoBulk {H : Type} : DataW H → Nat
  | .lit (.string bytes) => bytes.length + 1
  | .lit _ => 1
  | .nil => 1
  | .ptr d => uptoBulk d + 1
  | .slice elems spare => uptoBulkAll elems + uptoBulkAll spare + 1
  | .agg parts => uptoBulkAll parts + 1
  | .iface _ d => uptoBulk d + 1
  | .map entries => uptoBulkEntries entries + 1
  | .held _ => 1
def uptoBulkAll {H : Type} : List (DataW H) → Nat
  | [] => 0
  | d :: r => uptoBulk d + uptoBulkAll r
def uptoBulkEntries {H : Type} : List (Lit × DataW H) → Nat
  | [] => 0
  | x :: r => uptoBulkEntry x + uptoBulkEntries r
def uptoBulkEntry {H : Type} : Lit × DataW H → Nat
  | (.string bytes, d) => bytes.length + uptoBulk d + 1
  | (_, d) => uptoBulk d + 1
 end
def uptoSmall : (H : Type) → List (DataW H) → Bool := fun _ ds => decide (uptoBulkAll ds ≤ 1048576)
def OpenSpec.upto (s : _root_.Go.ChangeSpec) : _root_.Go.OpenSpec := { _root_.Go.OpenSpec.ofChange s with cond := some uptoSmall }

/-- 'parcelwaylaw.RouteTables', WHERE WHAT IT READS IS OF BULK AT MOST 1048576: true; the input reads as it did. -/
def routeTablesUptoRow : OpenClaim := { program := "ytinnohljknmolaa", sum := "b76c0d96896b0f124cebf8608d630ff4f74ba2e5e4e281b7730445c4137e7c66", func := "parcelway/parcelwaylaw.RouteTables", spec := "routeTables", unfollowed := true, recurses := true, plainKeys := false, apart := false, narrowed := true }
def RouteTablesUptoSaid : Prop := routeTablesUptoRow.holds Try.pinned (OpenSpec.upto routeTablesSpec)

/-- 'parcelwaylaw.RouteFinds', WHERE WHAT IT READS IS OF BULK AT MOST 1048576: true; the input reads as it did. -/
def routeFindsUptoRow : OpenClaim := { program := "ytinnohljknmolaa", sum := "b76c0d96896b0f124cebf8608d630ff4f74ba2e5e4e281b7730445c4137e7c66", func := "parcelway/parcelwaylaw.RouteFinds", spec := "routeFinds", unfollowed := true, recurses := true, plainKeys := false, apart := false, narrowed := true }
def RouteFindsUptoSaid : Prop := routeFindsUptoRow.holds Try.pinned (OpenSpec.upto routeFindsSpec)

/-- 'parcelwaylaw.RouteTrue', WHERE WHAT IT READS IS OF BULK AT MOST 1048576: true; the input reads as it did. -/
def routeTrueUptoRow : OpenClaim := { program := "ytinnohljknmolaa", sum := "b76c0d96896b0f124cebf8608d630ff4f74ba2e5e4e281b7730445c4137e7c66", func := "parcelway/parcelwaylaw.RouteTrue", spec := "routeTrue", unfollowed := true, recurses := true, plainKeys := false, apart := false, narrowed := true }
def RouteTrueUptoSaid : Prop := routeTrueUptoRow.holds Try.pinned (OpenSpec.upto routeTrueSpec)

end Rows
end Go.Proofs.Ytinnohljknmolaa
