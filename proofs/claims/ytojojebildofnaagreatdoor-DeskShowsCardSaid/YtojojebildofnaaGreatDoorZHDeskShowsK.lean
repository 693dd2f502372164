/- Closed facts of the statement's row. -/
import Derived.Lib.Walk
import Derived.Lib.Builder
import Derived.Lib.AppendStr
import Derived.Lib.UnsafeStr
import Derived.WalkKit
import Derived.Shelf.RegionOpenPlain
import Derived.Laws.Externs
import Derived.KernelRfl
import Derived.Outline
import Derived.Lib.ItoaNum
import Derived.Lib.Join
import Derived.SizedLaws
import Derived.Test.YtojojebildofnaaGreatDoorCards
import Derived.Test.YtojojebildofnaaGreatDoorTie
import Derived.Stop.LaidErr
import Derived.Lib.LaidTab
import Derived.MakeChecks
import Derived.LaidMore
import Derived.LaidHandle
import Derived.SevenTiedAt
import Derived.Test.YtojojebildofnaaGreatDoorRows
import Derived.ProofKit
import Derived.OpenShut
import Derived.ShutString
import Derived.ChangeOld
import Derived.Below
set_option linter.unusedSimpArgs false
set_option linter.unusedVariables false
set_option maxRecDepth 100000
set_option maxHeartbeats 16000000
namespace Go.Proofs.YtojojebildofnaaGreatDoor
open Go Go.RowKit Go.Proofs.Tryz
open Go.Proofs Go.ChangeShapes Go.WideShapes Go.ChangeAt
theorem tT:joinedFacts prog 5 f5 Rows.deskShowsSpec Rows.deskShowsRow=true:=by
 unfold joinedFacts;repeat' (with_reducible refine Bool.and_eq_true_iff.2 ⟨?_,?_⟩)
 all_goals as_aux_lemma=>kernel_rfl
theorem uW:Tryz.pinned.checked.prog.funcNamed Rows.deskShowsRow.func=some 5:=by kernel_rfl
theorem xJ:f5.isInstance Tryz.pinned.checked.prog Rows.deskShowsRow.origin Rows.deskShowsRow.targs:=of_decide_eq_true (by kernel_rfl)
theorem xK:f5.isWrapper Tryz.pinned.checked.prog Rows.deskShowsRow.wrapper Rows.deskShowsRow.mainSum:=by unfold Func.isWrapper;first|(rw[if_pos (by decide+kernel)];kernel_rfl)|(rw[if_neg (by decide+kernel)];exact⟨rfl,rfl⟩)
theorem BF:Rows.deskShowsRow.wfByText (OpenSpec.ofChange Rows.deskShowsSpec)=true:=by kernel_rfl
theorem BG:Tryz.pinned.checked.prog.mainIs=some (Rows.deskShowsCard.stood.harness.1,Rows.deskShowsCard.stood.harness.2.toList):=by kernel_rfl
theorem BH:false=Rows.deskShowsRow.goesBy Tryz.pinned.checked.prog:=by kernel_rfl
end Go.Proofs.YtojojebildofnaaGreatDoor
