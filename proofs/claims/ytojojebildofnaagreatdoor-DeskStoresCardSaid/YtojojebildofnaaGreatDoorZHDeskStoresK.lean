/- Closed facts of the statement's row. -/
import Derived.Lib.Walk
import Derived.Lib.Builder
import Derived.Lib.AppendStr
import Derived.Lib.UnsafeStr
import Derived.WalkKit
import Derived.Shelf.RegionOpenPlain
import Derived.Laws.Externs
import Derived.KernelRfl
import Derived.Outline
import Derived.Lib.ItoaNum
import Derived.Lib.Join
import Derived.SizedLaws
import Derived.Test.YtojojebildofnaaGreatDoorCards
import Derived.Test.YtojojebildofnaaGreatDoorTie
import Derived.Stop.LaidErr
import Derived.Lib.LaidTab
import Derived.MakeChecks
import Derived.LaidMore
import Derived.LaidHandle
import Derived.SevenTiedAt
import Derived.Test.YtojojebildofnaaGreatDoorRows
import Derived.ProofKit
import Derived.OpenShut
import Derived.ShutString
import Derived.ChangeOld
import Derived.Below
set_option linter.unusedSimpArgs false
set_option linter.unusedVariables false
set_option maxRecDepth 100000
set_option maxHeartbeats 16000000
namespace Go.Proofs.YtojojebildofnaaGreatDoor
open Go Go.RowKit Go.Proofs.Tryz
open Go.Proofs Go.ChangeShapes Go.WideShapes Go.ChangeAt
theorem um:joinedFacts prog 3 Tryz.f3 Rows.deskStoresSpec Rows.deskStoresRow=true:=by
 unfold joinedFacts;repeat' (with_reducible refine Bool.and_eq_true_iff.2 ⟨?_,?_⟩)
 all_goals as_aux_lemma=>kernel_rfl
theorem vQ:Tryz.pinned.checked.prog.funcNamed Rows.deskStoresRow.func=some 3:=by kernel_rfl
theorem Bn:Rows.deskStoresRow.wfByText (OpenSpec.ofChange Rows.deskStoresSpec)=true:=by kernel_rfl
theorem Bo:Tryz.pinned.checked.prog.mainIs=some (Rows.deskStoresCard.stood.harness.1,Rows.deskStoresCard.stood.harness.2.toList):=by kernel_rfl
theorem Bp:false=Rows.deskStoresRow.goesBy Tryz.pinned.checked.prog:=by kernel_rfl
end Go.Proofs.YtojojebildofnaaGreatDoor
