/- wire's laws: the plan. -/
import Derived.Test.YtbebjifnhjlkiaaWireE
namespace Go.Proofs.Ytbebjifnhjlkiaa
open Go Go.RowKit Go.Proofs
def planL : List Cmd := [⟨1, 7, 0, 0, 256, 8, 8, 16, 12, 3⟩, ⟨7, 1, 0, 0, 0, 0, 0, 0, 0, 0⟩, ⟨7, 2, 0, 0, 0, 0, 0, 0, 0, 0⟩, ⟨8, 1, 7, 10, 0, 0, 0, 0, 0, 0⟩, ⟨8, 2, 7, 0, 0, 0, 0, 0, 0, 0⟩, ⟨15, 2, 1, 0, 0, 0, 0, 0, 0, 0⟩, ⟨10, 1, 4, 0, 256, 14, 0, 0, 0, 0⟩, ⟨12, 1, 4, 9, 0, 0, 0, 0, 0, 0⟩, ⟨9, 2, 0, 0, 320, 12, 0, 0, 0, 0⟩, ⟨6, 7, 0, 0, 256, 10, 0, 0, 0, 0⟩]
def PlanOut (w : World) (e : Ending) (w' : World) : Prop :=
  ∃ b, e = .returned (.slice (some ⟨b, 0, none⟩) 10 10) ∧ Sl (fun b => w.heap.size ≤ b) w' 10 Cmd.R (some ⟨b, 0, none⟩) 10 planL ∧ w.heap.size ≤ b ∧ Ext w w'
set_option maxHeartbeats 1000000 in
set_option maxRecDepth 100000 in
theorem plan_any (w : World) :
    Calls Try.prog 24 #[] w (PlanOut w) := by
  go_enter Try.func24, Try.ntmps24
  go_wp2_with fail
  refine (loose_any _).mono ?_
  rintro e w1 ⟨rfl, hw1⟩
  go_wp2_with fail
  go_ret
  have hown := World.ownsRow_lit (base := w.heap.size) (e := 27) (size := 10) w1 (planL.flatMap fun c => c.cs.toList).toArray 10 hw1.size (by decide) rfl
  have hown' : (w1.alloc (.cells (planL.flatMap fun c => c.cs.toList).toArray 27)).ownsRow w.heap.size 27 10 (.slice (some ⟨w1.heap.size, 0, none⟩) 10 10) 10 (planL.flatMap fun c => c.cs.toList) := hown
  obtain ⟨ao, cap, hv, hsl⟩ := sl_own (A := fun b => w.heap.size ≤ b) hown' rfl (fun _ _ => rfl) (fun _ h => h)
  cases hv
  exact ⟨_, rfl, hsl, hw1.size, ext_trans hw1 (ext_alloc _ _)⟩
end Go.Proofs.Ytbebjifnhjlkiaa
