/- CidrTurns: its statement, for every input, out of its walk. (texts of this work, joined) -/
import Derived.Test.YtmkdihmmihpibaaDoorZHCidrTurns2
import Derived.IntWalk
import Derived.Lib.AtoiTie
import Derived.Deep.Slices
import Derived.Deep.Fields
import Derived.ChangeSame
import Derived.OpenShut
import Derived.ProofKit
import Derived.Carry
import Derived.ChangeMaps5
import Derived.DataShut
import Derived.SizedLaws
import Derived.Test.YtmkdihmmihpibaaDoorCards
import Derived.Test.YtmkdihmmihpibaaDoorTie
import Derived.Stop.LaidErr
import Derived.Lib.LaidTab
import Derived.MakeChecks
import Derived.LaidMore
import Derived.LaidHandle
import Derived.SevenTiedAt
import Derived.Test.YtmkdihmmihpibaaDoorRows
import Derived.WalkKit
import Derived.ShutString
import Derived.ChangeOld
import Derived.Below
set_option linter.unusedSimpArgs false
set_option linter.unusedVariables false
namespace Go.Proofs.YtmkdihmmihpibaaDoor
open Go Go.RowKit Go.Proofs
set_option maxRecDepth 100000
def insP (a l b m : Int) : Bool := rightB a l && rightB b m && decide (m ≤ l) && (a - a % szI m == b)
set_option maxHeartbeats 1000000 in
theorem inside_any (a l b m : Int) (w : World) :
    Calls Tryd.prog 13 #[.agg #[.int .i64 a, .int .i64 l], .agg #[.int .i64 b, .int .i64 m]] w fun e w' => e = .returned (.bool (insP a l b m)) ∧ Ext w w' := by
  cases hA : (rightB a l && rightB b m)
  case false =>
    have hs : insP a l b m = false := by simp [insP, hA]
    rw [hs]
    have hv := Lib.hid hA
    clear hA hs
    go_enter Tryd.func13, Tryd.ntmps13
    go_wp2_with fail
    refine region_mix (by kernel_rfl) (by kernel_rfl) (fun _ _ d _ _ h => by cases d <;> exact h) ?_
    repeat (first | ((first | refine mix_skip_t rfl rfl rfl (by with_reducible rfl) ?_ | refine mix_skip_f rfl rfl rfl (by with_reducible rfl) ?_ | refine mix_skip_u rfl rfl rfl (by with_reducible rfl) ?_); simp only [Act.put, List.setIfInBounds_toArray, List.set_cons_zero, List.set_cons_succ]) | (apply mix_take; (first | exact want_0 rfl | exact want_b rfl rfl rfl (by with_reducible rfl)); intro wq hwq R hR; ((have hcc := (bcell hwq).1; (try simp only [World.size_alloc, World.size_setCell, World.size_drew, World.heap_drewN] at hcc)); go_simp; first | exact hR | (fail)); simp only [Act.put, List.setIfInBounds_toArray, List.set_cons_zero, List.set_cons_succ]))
    refine mix_alone (by kernel_rfl) (by first | exact want_0 rfl | exact want_b rfl rfl rfl (by with_reducible rfl)) (fun w1 hw1 K hK => ?_)
    obtain ⟨hcw1, hfw1⟩ := bcell hw1
    have hzw1 := bsize hw1
    (try simp only [World.size_alloc, World.size_setCell, World.size_drew, World.heap_drewN] at hcw1 hfw1 hzw1)
    (try have l0w1 : w.heap.size ≤ w1.heap.size := by omega)
    (try have l1w1 : w.heap.size < w1.heap.size := by omega)
    (try have l2w1 : w.heap.size + 1 < w1.heap.size := by omega)
    go_simp
    refine hK _ _ (Bel.bel (B := _) ?_) ?_
    · (repeat (first | with_reducible assumption | with_reducible exact Bel.refl _ | with_reducible refine Bel.alloc ?_ _ | with_reducible refine Bel.drewN ?_ _ | with_reducible refine Bel.drew ?_ | (with_reducible refine Bel.setCell0 ?_ ?_ _; rotate_left; (first | omega | (simp; done) | (simp; omega))) | (with_reducible refine Bel.setCell ?_ (p := _) ?_ _; rotate_left; (first | (simp; done) | omega | (simp; omega))) | refine Bel.call ?_ (by assumption) | (refine EX.bel ?_ (by assumption) ?_; rotate_left; (first | omega | (simp; omega)))))
    clear hK K
    repeat (first | ((first | refine mix_skip_t rfl rfl rfl (by with_reducible rfl) ?_ | refine mix_skip_f rfl rfl rfl (by with_reducible rfl) ?_ | refine mix_skip_u rfl rfl rfl (by with_reducible rfl) ?_); simp only [Act.put, List.setIfInBounds_toArray, List.set_cons_zero, List.set_cons_succ]) | (apply mix_take; (first | exact want_0 rfl | exact want_b rfl rfl rfl (by with_reducible rfl)); intro wq hwq R hR; ((have hcc := (bcell hwq).1; (try simp only [World.size_alloc, World.size_setCell, World.size_drew, World.heap_drewN] at hcc)); go_simp; first | exact hR | ((go_at_call 27; refine mcall (right2 a l b m _ hv.out ?_ ?_ ?_ ?_) hR; go_simp; go_simp; go_simp; go_simp))); simp only [Act.put, List.setIfInBounds_toArray, List.set_cons_zero, List.set_cons_succ]))
    refine mix_nil ?_
    intro w2 hw2
    obtain ⟨hcw2, hfw2⟩ := bcell hw2
    have hzw2 := bsize hw2
    (try simp only [World.size_alloc, World.size_setCell, World.size_drew, World.heap_drewN] at hcw2 hfw2 hzw2)
    go_wp2_with fail
    go_ret
    refine ⟨rfl, Bel.bel (B := _) ?_⟩
    (repeat (first | with_reducible assumption | with_reducible exact Bel.refl _ | with_reducible refine Bel.alloc ?_ _ | with_reducible refine Bel.drewN ?_ _ | with_reducible refine Bel.drew ?_ | (with_reducible refine Bel.setCell0 ?_ ?_ _; rotate_left; (first | omega | (simp; done) | (simp; omega))) | (with_reducible refine Bel.setCell ?_ (p := _) ?_ _; rotate_left; (first | (simp; done) | omega | (simp; omega))) | refine Bel.call ?_ (by assumption) | (refine EX.bel ?_ (by assumption) ?_; rotate_left; (first | omega | (simp; omega)))))
  case true =>
    have hA' := hA
    simp only [Bool.and_eq_true] at hA'
    obtain ⟨g1, g2, g3, g4, -⟩ := right_bd hA'.1
    obtain ⟨k1, k2, k3, k4, -⟩ := right_bd hA'.2
    obtain ⟨z1, z2⟩ := msk_bd m k1
    have hv := Lib.hid hA
    by_cases hm : m ≤ l
    · have hs : insP a l b m = (a - a % szI m == b) := by simp [insP, hA, hm]
      rw [hs]
      have han := andnot_msk a m g3 g4 k1
      have hmI : decide (m ≤ l) = true := by simp [hm]
      clear hA hA' hs hm
      cases hE : (a - a % szI m == b)
      all_goals
        go_enter Tryd.func13, Tryd.ntmps13
        go_wp2_with fail
        refine region_mix (by kernel_rfl) (by kernel_rfl) (fun _ _ d _ _ h => by cases d <;> exact h) ?_
        repeat (first | ((first | refine mix_skip_t rfl rfl rfl (by with_reducible rfl) ?_ | refine mix_skip_f rfl rfl rfl (by with_reducible rfl) ?_ | refine mix_skip_u rfl rfl rfl (by with_reducible rfl) ?_); simp only [Act.put, List.setIfInBounds_toArray, List.set_cons_zero, List.set_cons_succ]) | (apply mix_take; (first | exact want_0 rfl | exact want_b rfl rfl rfl (by with_reducible rfl)); intro wq hwq R hR; ((have hcc := (bcell hwq).1; (try simp only [World.size_alloc, World.size_setCell, World.size_drew, World.heap_drewN] at hcc)); go_simp; first | exact hR | (fail)); simp only [Act.put, List.setIfInBounds_toArray, List.set_cons_zero, List.set_cons_succ]))
        refine mix_alone (by kernel_rfl) (by first | exact want_0 rfl | exact want_b rfl rfl rfl (by with_reducible rfl)) (fun w1 hw1 K hK => ?_)
        obtain ⟨hcw1, hfw1⟩ := bcell hw1
        have hzw1 := bsize hw1
        (try simp only [World.size_alloc, World.size_setCell, World.size_drew, World.heap_drewN] at hcw1 hfw1 hzw1)
        (try have l0w1 : w.heap.size ≤ w1.heap.size := by omega)
        (try have l1w1 : w.heap.size < w1.heap.size := by omega)
        (try have l2w1 : w.heap.size + 1 < w1.heap.size := by omega)
        go_simp
        refine hK _ _ (Bel.bel (B := _) ?_) ?_
        · (repeat (first | with_reducible assumption | with_reducible exact Bel.refl _ | with_reducible refine Bel.alloc ?_ _ | with_reducible refine Bel.drewN ?_ _ | with_reducible refine Bel.drew ?_ | (with_reducible refine Bel.setCell0 ?_ ?_ _; rotate_left; (first | omega | (simp; done) | (simp; omega))) | (with_reducible refine Bel.setCell ?_ (p := _) ?_ _; rotate_left; (first | (simp; done) | omega | (simp; omega))) | refine Bel.call ?_ (by assumption) | (refine EX.bel ?_ (by assumption) ?_; rotate_left; (first | omega | (simp; omega)))))
        clear hK K
        repeat (first | ((first | refine mix_skip_t rfl rfl rfl (by with_reducible rfl) ?_ | refine mix_skip_f rfl rfl rfl (by with_reducible rfl) ?_ | refine mix_skip_u rfl rfl rfl (by with_reducible rfl) ?_); simp only [Act.put, List.setIfInBounds_toArray, List.set_cons_zero, List.set_cons_succ]) | (apply mix_take; (first | exact want_0 rfl | exact want_b rfl rfl rfl (by with_reducible rfl)); intro wq hwq R hR; ((have hcc := (bcell hwq).1; (try simp only [World.size_alloc, World.size_setCell, World.size_drew, World.heap_drewN] at hcc)); go_simp; first | exact hR | (first | (go_at_call 27; refine mcall (right2 a l b m _ hv.out ?_ ?_ ?_ ?_) hR; go_simp; go_simp; go_simp; go_simp) | (go_at_call 26; exact mcall_same (mask_any _ _ k1 k2) hR))); simp only [Act.put, List.setIfInBounds_toArray, List.set_cons_zero, List.set_cons_succ]))
        refine mix_nil ?_
        intro w2 hw2
        obtain ⟨hcw2, hfw2⟩ := bcell hw2
        have hzw2 := bsize hw2
        (try simp only [World.size_alloc, World.size_setCell, World.size_drew, World.heap_drewN] at hcw2 hfw2 hzw2)
        go_wp2_with fail
        go_ret
        refine ⟨rfl, Bel.bel (B := _) ?_⟩
        (repeat (first | with_reducible assumption | with_reducible exact Bel.refl _ | with_reducible refine Bel.alloc ?_ _ | with_reducible refine Bel.drewN ?_ _ | with_reducible refine Bel.drew ?_ | (with_reducible refine Bel.setCell0 ?_ ?_ _; rotate_left; (first | omega | (simp; done) | (simp; omega))) | (with_reducible refine Bel.setCell ?_ (p := _) ?_ _; rotate_left; (first | (simp; done) | omega | (simp; omega))) | refine Bel.call ?_ (by assumption) | (refine EX.bel ?_ (by assumption) ?_; rotate_left; (first | omega | (simp; omega)))))
    · have hs : insP a l b m = false := by simp [insP, hA, hm]
      rw [hs]
      have hmI : decide (m ≤ l) = false := by simp [hm]
      clear hA hA' hs hm
      go_enter Tryd.func13, Tryd.ntmps13
      go_wp2_with fail
      refine region_mix (by kernel_rfl) (by kernel_rfl) (fun _ _ d _ _ h => by cases d <;> exact h) ?_
      repeat (first | ((first | refine mix_skip_t rfl rfl rfl (by with_reducible rfl) ?_ | refine mix_skip_f rfl rfl rfl (by with_reducible rfl) ?_ | refine mix_skip_u rfl rfl rfl (by with_reducible rfl) ?_); simp only [Act.put, List.setIfInBounds_toArray, List.set_cons_zero, List.set_cons_succ]) | (apply mix_take; (first | exact want_0 rfl | exact want_b rfl rfl rfl (by with_reducible rfl)); intro wq hwq R hR; ((have hcc := (bcell hwq).1; (try simp only [World.size_alloc, World.size_setCell, World.size_drew, World.heap_drewN] at hcc)); go_simp; first | exact hR | (fail)); simp only [Act.put, List.setIfInBounds_toArray, List.set_cons_zero, List.set_cons_succ]))
      refine mix_alone (by kernel_rfl) (by first | exact want_0 rfl | exact want_b rfl rfl rfl (by with_reducible rfl)) (fun w1 hw1 K hK => ?_)
      obtain ⟨hcw1, hfw1⟩ := bcell hw1
      have hzw1 := bsize hw1
      (try simp only [World.size_alloc, World.size_setCell, World.size_drew, World.heap_drewN] at hcw1 hfw1 hzw1)
      (try have l0w1 : w.heap.size ≤ w1.heap.size := by omega)
      (try have l1w1 : w.heap.size < w1.heap.size := by omega)
      (try have l2w1 : w.heap.size + 1 < w1.heap.size := by omega)
      go_simp
      refine hK _ _ (Bel.bel (B := _) ?_) ?_
      · (repeat (first | with_reducible assumption | with_reducible exact Bel.refl _ | with_reducible refine Bel.alloc ?_ _ | with_reducible refine Bel.drewN ?_ _ | with_reducible refine Bel.drew ?_ | (with_reducible refine Bel.setCell0 ?_ ?_ _; rotate_left; (first | omega | (simp; done) | (simp; omega))) | (with_reducible refine Bel.setCell ?_ (p := _) ?_ _; rotate_left; (first | (simp; done) | omega | (simp; omega))) | refine Bel.call ?_ (by assumption) | (refine EX.bel ?_ (by assumption) ?_; rotate_left; (first | omega | (simp; omega)))))
      clear hK K
      repeat (first | ((first | refine mix_skip_t rfl rfl rfl (by with_reducible rfl) ?_ | refine mix_skip_f rfl rfl rfl (by with_reducible rfl) ?_ | refine mix_skip_u rfl rfl rfl (by with_reducible rfl) ?_); simp only [Act.put, List.setIfInBounds_toArray, List.set_cons_zero, List.set_cons_succ]) | (apply mix_take; (first | exact want_0 rfl | exact want_b rfl rfl rfl (by with_reducible rfl)); intro wq hwq R hR; ((have hcc := (bcell hwq).1; (try simp only [World.size_alloc, World.size_setCell, World.size_drew, World.heap_drewN] at hcc)); go_simp; first | exact hR | ((go_at_call 27; refine mcall (right2 a l b m _ hv.out ?_ ?_ ?_ ?_) hR; go_simp; go_simp; go_simp; go_simp))); simp only [Act.put, List.setIfInBounds_toArray, List.set_cons_zero, List.set_cons_succ]))
      refine mix_nil ?_
      intro w2 hw2
      obtain ⟨hcw2, hfw2⟩ := bcell hw2
      have hzw2 := bsize hw2
      (try simp only [World.size_alloc, World.size_setCell, World.size_drew, World.heap_drewN] at hcw2 hfw2 hzw2)
      go_wp2_with fail
      go_ret
      refine ⟨rfl, Bel.bel (B := _) ?_⟩
      (repeat (first | with_reducible assumption | with_reducible exact Bel.refl _ | with_reducible refine Bel.alloc ?_ _ | with_reducible refine Bel.drewN ?_ _ | with_reducible refine Bel.drew ?_ | (with_reducible refine Bel.setCell0 ?_ ?_ _; rotate_left; (first | omega | (simp; done) | (simp; omega))) | (with_reducible refine Bel.setCell ?_ (p := _) ?_ _; rotate_left; (first | (simp; done) | omega | (simp; omega))) | refine Bel.call ?_ (by assumption) | (refine EX.bel ?_ (by assumption) ?_; rotate_left; (first | omega | (simp; omega)))))
end Go.Proofs.YtmkdihmmihpibaaDoor
namespace Go.Proofs.YtmkdihmmihpibaaDoor
open Go Go.RowKit Go.Proofs
set_option maxRecDepth 100000
def holdP (a l x : Int) : Bool := rightB a l && (decide (0 ≤ x) && (decide (x ≤ 65535) && (x - x % szI l == a)))
set_option maxHeartbeats 1000000 in
theorem holds_any (a l x : Int) (w : World) :
    Calls Tryd.prog 11 #[.agg #[.int .i64 a, .int .i64 l], .int .i64 x] w fun e w' => e = .returned (.bool (holdP a l x)) ∧ Ext w w' := by
  cases hA : rightB a l
  case false =>
    have hs : holdP a l x = false := by simp [holdP, hA]
    rw [hs]
    have hv := Lib.hid hA
    clear hA hs
    go_enter Tryd.func11, Tryd.ntmps11
    go_wp2_with fail
    refine region_mix (by kernel_rfl) (by kernel_rfl) (fun _ _ d _ _ h => by cases d <;> exact h) ?_
    repeat (first | ((first | refine mix_skip_t rfl rfl rfl (by with_reducible rfl) ?_ | refine mix_skip_f rfl rfl rfl (by with_reducible rfl) ?_ | refine mix_skip_u rfl rfl rfl (by with_reducible rfl) ?_); simp only [Act.put, List.setIfInBounds_toArray, List.set_cons_zero, List.set_cons_succ]) | (apply mix_take; (first | exact want_0 rfl | exact want_b rfl rfl rfl (by with_reducible rfl)); intro wq hwq R hR; ((have hcc := (bcell hwq).1; (try simp only [World.size_alloc, World.size_setCell, World.size_drew, World.heap_drewN] at hcc)); go_simp; first | exact hR | (fail)); simp only [Act.put, List.setIfInBounds_toArray, List.set_cons_zero, List.set_cons_succ]))
    refine mix_alone (by kernel_rfl) (by first | exact want_0 rfl | exact want_b rfl rfl rfl (by with_reducible rfl)) (fun w1 hw1 K hK => ?_)
    obtain ⟨hcw1, hfw1⟩ := bcell hw1
    have hzw1 := bsize hw1
    (try simp only [World.size_alloc, World.size_setCell, World.size_drew, World.heap_drewN] at hcw1 hfw1 hzw1)
    (try have l0w1 : w.heap.size ≤ w1.heap.size := by omega)
    (try have l1w1 : w.heap.size < w1.heap.size := by omega)
    (try have l2w1 : w.heap.size + 1 < w1.heap.size := by omega)
    go_simp
    refine hK _ _ (Bel.bel (B := _) ?_) ?_
    · (repeat (first | with_reducible assumption | with_reducible exact Bel.refl _ | with_reducible refine Bel.alloc ?_ _ | with_reducible refine Bel.drewN ?_ _ | with_reducible refine Bel.drew ?_ | (with_reducible refine Bel.setCell0 ?_ ?_ _; rotate_left; (first | omega | (simp; done) | (simp; omega))) | (with_reducible refine Bel.setCell ?_ (p := _) ?_ _; rotate_left; (first | (simp; done) | omega | (simp; omega))) | refine Bel.call ?_ (by assumption) | (refine EX.bel ?_ (by assumption) ?_; rotate_left; (first | omega | (simp; omega)))))
    clear hK K
    repeat (first | ((first | refine mix_skip_t rfl rfl rfl (by with_reducible rfl) ?_ | refine mix_skip_f rfl rfl rfl (by with_reducible rfl) ?_ | refine mix_skip_u rfl rfl rfl (by with_reducible rfl) ?_); simp only [Act.put, List.setIfInBounds_toArray, List.set_cons_zero, List.set_cons_succ]) | (apply mix_take; (first | exact want_0 rfl | exact want_b rfl rfl rfl (by with_reducible rfl)); intro wq hwq R hR; ((have hcc := (bcell hwq).1; (try simp only [World.size_alloc, World.size_setCell, World.size_drew, World.heap_drewN] at hcc)); go_simp; first | exact hR | ((go_at_call 27; refine mcall (right1 a l _ hv.out ?_ ?_) hR; go_simp; go_simp))); simp only [Act.put, List.setIfInBounds_toArray, List.set_cons_zero, List.set_cons_succ]))
    refine mix_nil ?_
    intro w2 hw2
    obtain ⟨hcw2, hfw2⟩ := bcell hw2
    have hzw2 := bsize hw2
    (try simp only [World.size_alloc, World.size_setCell, World.size_drew, World.heap_drewN] at hcw2 hfw2 hzw2)
    go_wp2_with fail
    go_ret
    refine ⟨rfl, Bel.bel (B := _) ?_⟩
    (repeat (first | with_reducible assumption | with_reducible exact Bel.refl _ | with_reducible refine Bel.alloc ?_ _ | with_reducible refine Bel.drewN ?_ _ | with_reducible refine Bel.drew ?_ | (with_reducible refine Bel.setCell0 ?_ ?_ _; rotate_left; (first | omega | (simp; done) | (simp; omega))) | (with_reducible refine Bel.setCell ?_ (p := _) ?_ _; rotate_left; (first | (simp; done) | omega | (simp; omega))) | refine Bel.call ?_ (by assumption) | (refine EX.bel ?_ (by assumption) ?_; rotate_left; (first | omega | (simp; omega)))))
  case true =>
    obtain ⟨g1, g2, g3, g4, -⟩ := right_bd hA
    obtain ⟨z1, z2⟩ := msk_bd l g1
    have hv := Lib.hid hA
    by_cases h0 : 0 ≤ x
    · by_cases h1 : x ≤ 65535
      · have hs : holdP a l x = (x - x % szI l == a) := by simp [holdP, hA, h0, h1]
        rw [hs]
        have han := andnot_msk x l h0 h1 g1
        have h0I : decide (0 ≤ x) = true := by simp [h0]
        have h1I : decide (x ≤ 65535) = true := by simp [h1]
        clear hA hs
        cases hE : (x - x % szI l == a)
        all_goals
          go_enter Tryd.func11, Tryd.ntmps11
          go_wp2_with fail
          refine region_mix (by kernel_rfl) (by kernel_rfl) (fun _ _ d _ _ h => by cases d <;> exact h) ?_
          repeat (first | ((first | refine mix_skip_t rfl rfl rfl (by with_reducible rfl) ?_ | refine mix_skip_f rfl rfl rfl (by with_reducible rfl) ?_ | refine mix_skip_u rfl rfl rfl (by with_reducible rfl) ?_); simp only [Act.put, List.setIfInBounds_toArray, List.set_cons_zero, List.set_cons_succ]) | (apply mix_take; (first | exact want_0 rfl | exact want_b rfl rfl rfl (by with_reducible rfl)); intro wq hwq R hR; ((have hcc := (bcell hwq).1; (try simp only [World.size_alloc, World.size_setCell, World.size_drew, World.heap_drewN] at hcc)); go_simp; first | exact hR | (fail)); simp only [Act.put, List.setIfInBounds_toArray, List.set_cons_zero, List.set_cons_succ]))
          refine mix_alone (by kernel_rfl) (by first | exact want_0 rfl | exact want_b rfl rfl rfl (by with_reducible rfl)) (fun w1 hw1 K hK => ?_)
          obtain ⟨hcw1, hfw1⟩ := bcell hw1
          have hzw1 := bsize hw1
          (try simp only [World.size_alloc, World.size_setCell, World.size_drew, World.heap_drewN] at hcw1 hfw1 hzw1)
          (try have l0w1 : w.heap.size ≤ w1.heap.size := by omega)
          (try have l1w1 : w.heap.size < w1.heap.size := by omega)
          (try have l2w1 : w.heap.size + 1 < w1.heap.size := by omega)
          go_simp
          refine hK _ _ (Bel.bel (B := _) ?_) ?_
          · (repeat (first | with_reducible assumption | with_reducible exact Bel.refl _ | with_reducible refine Bel.alloc ?_ _ | with_reducible refine Bel.drewN ?_ _ | with_reducible refine Bel.drew ?_ | (with_reducible refine Bel.setCell0 ?_ ?_ _; rotate_left; (first | omega | (simp; done) | (simp; omega))) | (with_reducible refine Bel.setCell ?_ (p := _) ?_ _; rotate_left; (first | (simp; done) | omega | (simp; omega))) | refine Bel.call ?_ (by assumption) | (refine EX.bel ?_ (by assumption) ?_; rotate_left; (first | omega | (simp; omega)))))
          clear hK K
          repeat (first | ((first | refine mix_skip_t rfl rfl rfl (by with_reducible rfl) ?_ | refine mix_skip_f rfl rfl rfl (by with_reducible rfl) ?_ | refine mix_skip_u rfl rfl rfl (by with_reducible rfl) ?_); simp only [Act.put, List.setIfInBounds_toArray, List.set_cons_zero, List.set_cons_succ]) | (apply mix_take; (first | exact want_0 rfl | exact want_b rfl rfl rfl (by with_reducible rfl)); intro wq hwq R hR; ((have hcc := (bcell hwq).1; (try simp only [World.size_alloc, World.size_setCell, World.size_drew, World.heap_drewN] at hcc)); go_simp; first | exact hR | (first | (go_at_call 27; refine mcall (right1 a l _ hv.out ?_ ?_) hR; go_simp; go_simp) | (go_at_call 26; exact mcall_same (mask_any _ _ g1 g2) hR))); simp only [Act.put, List.setIfInBounds_toArray, List.set_cons_zero, List.set_cons_succ]))
          refine mix_nil ?_
          intro w2 hw2
          obtain ⟨hcw2, hfw2⟩ := bcell hw2
          have hzw2 := bsize hw2
          (try simp only [World.size_alloc, World.size_setCell, World.size_drew, World.heap_drewN] at hcw2 hfw2 hzw2)
          go_wp2_with fail
          go_ret
          refine ⟨rfl, Bel.bel (B := _) ?_⟩
          (repeat (first | with_reducible assumption | with_reducible exact Bel.refl _ | with_reducible refine Bel.alloc ?_ _ | with_reducible refine Bel.drewN ?_ _ | with_reducible refine Bel.drew ?_ | (with_reducible refine Bel.setCell0 ?_ ?_ _; rotate_left; (first | omega | (simp; done) | (simp; omega))) | (with_reducible refine Bel.setCell ?_ (p := _) ?_ _; rotate_left; (first | (simp; done) | omega | (simp; omega))) | refine Bel.call ?_ (by assumption) | (refine EX.bel ?_ (by assumption) ?_; rotate_left; (first | omega | (simp; omega)))))
      · have hs : holdP a l x = false := by simp [holdP, h1]
        rw [hs]
        have h0I : decide (0 ≤ x) = true := by simp [h0]
        have h1I : decide (x ≤ 65535) = false := by simp [h1]
        clear hA hs h1
        go_enter Tryd.func11, Tryd.ntmps11
        go_wp2_with fail
        refine region_mix (by kernel_rfl) (by kernel_rfl) (fun _ _ d _ _ h => by cases d <;> exact h) ?_
        repeat (first | ((first | refine mix_skip_t rfl rfl rfl (by with_reducible rfl) ?_ | refine mix_skip_f rfl rfl rfl (by with_reducible rfl) ?_ | refine mix_skip_u rfl rfl rfl (by with_reducible rfl) ?_); simp only [Act.put, List.setIfInBounds_toArray, List.set_cons_zero, List.set_cons_succ]) | (apply mix_take; (first | exact want_0 rfl | exact want_b rfl rfl rfl (by with_reducible rfl)); intro wq hwq R hR; ((have hcc := (bcell hwq).1; (try simp only [World.size_alloc, World.size_setCell, World.size_drew, World.heap_drewN] at hcc)); go_simp; first | exact hR | (fail)); simp only [Act.put, List.setIfInBounds_toArray, List.set_cons_zero, List.set_cons_succ]))
        refine mix_alone (by kernel_rfl) (by first | exact want_0 rfl | exact want_b rfl rfl rfl (by with_reducible rfl)) (fun w1 hw1 K hK => ?_)
        obtain ⟨hcw1, hfw1⟩ := bcell hw1
        have hzw1 := bsize hw1
        (try simp only [World.size_alloc, World.size_setCell, World.size_drew, World.heap_drewN] at hcw1 hfw1 hzw1)
        (try have l0w1 : w.heap.size ≤ w1.heap.size := by omega)
        (try have l1w1 : w.heap.size < w1.heap.size := by omega)
        (try have l2w1 : w.heap.size + 1 < w1.heap.size := by omega)
        go_simp
        refine hK _ _ (Bel.bel (B := _) ?_) ?_
        · (repeat (first | with_reducible assumption | with_reducible exact Bel.refl _ | with_reducible refine Bel.alloc ?_ _ | with_reducible refine Bel.drewN ?_ _ | with_reducible refine Bel.drew ?_ | (with_reducible refine Bel.setCell0 ?_ ?_ _; rotate_left; (first | omega | (simp; done) | (simp; omega))) | (with_reducible refine Bel.setCell ?_ (p := _) ?_ _; rotate_left; (first | (simp; done) | omega | (simp; omega))) | refine Bel.call ?_ (by assumption) | (refine EX.bel ?_ (by assumption) ?_; rotate_left; (first | omega | (simp; omega)))))
        clear hK K
        repeat (first | ((first | refine mix_skip_t rfl rfl rfl (by with_reducible rfl) ?_ | refine mix_skip_f rfl rfl rfl (by with_reducible rfl) ?_ | refine mix_skip_u rfl rfl rfl (by with_reducible rfl) ?_); simp only [Act.put, List.setIfInBounds_toArray, List.set_cons_zero, List.set_cons_succ]) | (apply mix_take; (first | exact want_0 rfl | exact want_b rfl rfl rfl (by with_reducible rfl)); intro wq hwq R hR; ((have hcc := (bcell hwq).1; (try simp only [World.size_alloc, World.size_setCell, World.size_drew, World.heap_drewN] at hcc)); go_simp; first | exact hR | ((go_at_call 27; refine mcall (right1 a l _ hv.out ?_ ?_) hR; go_simp; go_simp))); simp only [Act.put, List.setIfInBounds_toArray, List.set_cons_zero, List.set_cons_succ]))
        refine mix_nil ?_
        intro w2 hw2
        obtain ⟨hcw2, hfw2⟩ := bcell hw2
        have hzw2 := bsize hw2
        (try simp only [World.size_alloc, World.size_setCell, World.size_drew, World.heap_drewN] at hcw2 hfw2 hzw2)
        go_wp2_with fail
        go_ret
        refine ⟨rfl, Bel.bel (B := _) ?_⟩
        (repeat (first | with_reducible assumption | with_reducible exact Bel.refl _ | with_reducible refine Bel.alloc ?_ _ | with_reducible refine Bel.drewN ?_ _ | with_reducible refine Bel.drew ?_ | (with_reducible refine Bel.setCell0 ?_ ?_ _; rotate_left; (first | omega | (simp; done) | (simp; omega))) | (with_reducible refine Bel.setCell ?_ (p := _) ?_ _; rotate_left; (first | (simp; done) | omega | (simp; omega))) | refine Bel.call ?_ (by assumption) | (refine EX.bel ?_ (by assumption) ?_; rotate_left; (first | omega | (simp; omega)))))
    · have hs : holdP a l x = false := by simp [holdP, h0]
      rw [hs]
      have h0I : decide (0 ≤ x) = false := by simp [h0]
      clear hA hs h0
      go_enter Tryd.func11, Tryd.ntmps11
      go_wp2_with fail
      refine region_mix (by kernel_rfl) (by kernel_rfl) (fun _ _ d _ _ h => by cases d <;> exact h) ?_
      repeat (first | ((first | refine mix_skip_t rfl rfl rfl (by with_reducible rfl) ?_ | refine mix_skip_f rfl rfl rfl (by with_reducible rfl) ?_ | refine mix_skip_u rfl rfl rfl (by with_reducible rfl) ?_); simp only [Act.put, List.setIfInBounds_toArray, List.set_cons_zero, List.set_cons_succ]) | (apply mix_take; (first | exact want_0 rfl | exact want_b rfl rfl rfl (by with_reducible rfl)); intro wq hwq R hR; ((have hcc := (bcell hwq).1; (try simp only [World.size_alloc, World.size_setCell, World.size_drew, World.heap_drewN] at hcc)); go_simp; first | exact hR | (fail)); simp only [Act.put, List.setIfInBounds_toArray, List.set_cons_zero, List.set_cons_succ]))
      refine mix_alone (by kernel_rfl) (by first | exact want_0 rfl | exact want_b rfl rfl rfl (by with_reducible rfl)) (fun w1 hw1 K hK => ?_)
      obtain ⟨hcw1, hfw1⟩ := bcell hw1
      have hzw1 := bsize hw1
      (try simp only [World.size_alloc, World.size_setCell, World.size_drew, World.heap_drewN] at hcw1 hfw1 hzw1)
      (try have l0w1 : w.heap.size ≤ w1.heap.size := by omega)
      (try have l1w1 : w.heap.size < w1.heap.size := by omega)
      (try have l2w1 : w.heap.size + 1 < w1.heap.size := by omega)
      go_simp
      refine hK _ _ (Bel.bel (B := _) ?_) ?_
      · (repeat (first | with_reducible assumption | with_reducible exact Bel.refl _ | with_reducible refine Bel.alloc ?_ _ | with_reducible refine Bel.drewN ?_ _ | with_reducible refine Bel.drew ?_ | (with_reducible refine Bel.setCell0 ?_ ?_ _; rotate_left; (first | omega | (simp; done) | (simp; omega))) | (with_reducible refine Bel.setCell ?_ (p := _) ?_ _; rotate_left; (first | (simp; done) | omega | (simp; omega))) | refine Bel.call ?_ (by assumption) | (refine EX.bel ?_ (by assumption) ?_; rotate_left; (first | omega | (simp; omega)))))
      clear hK K
      repeat (first | ((first | refine mix_skip_t rfl rfl rfl (by with_reducible rfl) ?_ | refine mix_skip_f rfl rfl rfl (by with_reducible rfl) ?_ | refine mix_skip_u rfl rfl rfl (by with_reducible rfl) ?_); simp only [Act.put, List.setIfInBounds_toArray, List.set_cons_zero, List.set_cons_succ]) | (apply mix_take; (first | exact want_0 rfl | exact want_b rfl rfl rfl (by with_reducible rfl)); intro wq hwq R hR; ((have hcc := (bcell hwq).1; (try simp only [World.size_alloc, World.size_setCell, World.size_drew, World.heap_drewN] at hcc)); go_simp; first | exact hR | ((go_at_call 27; refine mcall (right1 a l _ hv.out ?_ ?_) hR; go_simp; go_simp))); simp only [Act.put, List.setIfInBounds_toArray, List.set_cons_zero, List.set_cons_succ]))
      refine mix_nil ?_
      intro w2 hw2
      obtain ⟨hcw2, hfw2⟩ := bcell hw2
      have hzw2 := bsize hw2
      (try simp only [World.size_alloc, World.size_setCell, World.size_drew, World.heap_drewN] at hcw2 hfw2 hzw2)
      go_wp2_with fail
      go_ret
      refine ⟨rfl, Bel.bel (B := _) ?_⟩
      (repeat (first | with_reducible assumption | with_reducible exact Bel.refl _ | with_reducible refine Bel.alloc ?_ _ | with_reducible refine Bel.drewN ?_ _ | with_reducible refine Bel.drew ?_ | (with_reducible refine Bel.setCell0 ?_ ?_ _; rotate_left; (first | omega | (simp; done) | (simp; omega))) | (with_reducible refine Bel.setCell ?_ (p := _) ?_ _; rotate_left; (first | (simp; done) | omega | (simp; omega))) | refine Bel.call ?_ (by assumption) | (refine EX.bel ?_ (by assumption) ?_; rotate_left; (first | omega | (simp; omega)))))
def meetP (a l b m : Int) : Bool := insP a l b m || insP b m a l
set_option maxHeartbeats 1000000 in
theorem meets_any (a l b m : Int) (w : World) :
    Calls Tryd.prog 15 #[.agg #[.int .i64 a, .int .i64 l], .agg #[.int .i64 b, .int .i64 m]] w fun e w' => e = .returned (.bool (meetP a l b m)) ∧ Ext w w' := by
  unfold meetP
  cases hA : insP a l b m
  case true =>
    have hc := inside_any a l b m
    rw [hA] at hc
    replace hc := Lib.hid hc
    clear hA
    go_enter Tryd.func15, Tryd.ntmps15
    go_wp2_with fail
    refine (hc.out _).mono ?_
    rintro e w1 ⟨rfl, hw1⟩
    obtain ⟨hcw1, hfw1⟩ := bcell hw1
    have hzw1 := bsize hw1
    (try simp only [World.size_alloc, World.size_setCell, World.size_drew, World.heap_drewN] at hcw1 hfw1 hzw1)
    go_wp2_with fail
    go_ret
    refine ⟨rfl, Bel.bel (B := _) ?_⟩
    (repeat (first | with_reducible assumption | with_reducible exact Bel.refl _ | with_reducible refine Bel.alloc ?_ _ | with_reducible refine Bel.drewN ?_ _ | with_reducible refine Bel.drew ?_ | (with_reducible refine Bel.setCell0 ?_ ?_ _; rotate_left; (first | omega | (simp; done) | (simp; omega))) | (with_reducible refine Bel.setCell ?_ (p := _) ?_ _; rotate_left; (first | (simp; done) | omega | (simp; omega))) | refine Bel.call ?_ (by assumption) | (refine EX.bel ?_ (by assumption) ?_; rotate_left; (first | omega | (simp; omega)))))
  case false =>
    have hc := inside_any a l b m
    rw [hA] at hc
    replace hc := Lib.hid hc
    clear hA
    obtain ⟨r, hr⟩ : ∃ r, r = insP b m a l := ⟨_, rfl⟩
    have hd := inside_any b m a l
    rw [← hr] at hd ⊢
    clear hr
    replace hd := Lib.hid hd
    go_enter Tryd.func15, Tryd.ntmps15
    go_wp2_with fail
    refine (hc.out _).mono ?_
    rintro e w1 ⟨rfl, hw1⟩
    obtain ⟨hcw1, hfw1⟩ := bcell hw1
    have hzw1 := bsize hw1
    (try simp only [World.size_alloc, World.size_setCell, World.size_drew, World.heap_drewN] at hcw1 hfw1 hzw1)
    go_wp2_with fail
    refine (hd.out _).mono ?_
    rintro e w2 ⟨rfl, hw2⟩
    obtain ⟨hcw2, hfw2⟩ := bcell hw2
    have hzw2 := bsize hw2
    (try simp only [World.size_alloc, World.size_setCell, World.size_drew, World.heap_drewN] at hcw2 hfw2 hzw2)
    go_wp2_with fail
    go_ret
    refine ⟨rfl, Bel.bel (B := _) ?_⟩
    (repeat (first | with_reducible assumption | with_reducible exact Bel.refl _ | with_reducible refine Bel.alloc ?_ _ | with_reducible refine Bel.drewN ?_ _ | with_reducible refine Bel.drew ?_ | (with_reducible refine Bel.setCell0 ?_ ?_ _; rotate_left; (first | omega | (simp; done) | (simp; omega))) | (with_reducible refine Bel.setCell ?_ (p := _) ?_ _; rotate_left; (first | (simp; done) | omega | (simp; omega))) | refine Bel.call ?_ (by assumption) | (refine EX.bel ?_ (by assumption) ?_; rotate_left; (first | omega | (simp; omega)))))
end Go.Proofs.YtmkdihmmihpibaaDoor
namespace Go.Proofs.YtmkdihmmihpibaaDoor
open Go Go.RowKit
theorem check_p (p : Pfx) : PSpec Tryd.prog 9 [.agg (encP p)] (.v (.int .i64 (chk p.at_ p.len))) := pspec_flat (fnok_of Tryd.func9 (by kernel_rfl) rfl) (by intro d hd; simp at hd; (repeat (first | (obtain rfl := hd; rfl) | (rcases hd with rfl | hd; · rfl)))) rfl rfl (fun w => check_any _ _ _)
theorem size_p (p : Pfx) : PSpec Tryd.prog 10 [.agg (encP p)] (.v (.int .i64 (sizeI p.at_ p.len))) := pspec_flat (fnok_of Tryd.func10 (by kernel_rfl) rfl) (by intro d hd; simp at hd; (repeat (first | (obtain rfl := hd; rfl) | (rcases hd with rfl | hd; · rfl)))) rfl rfl (fun w => size_any _ _ _)
theorem inside_p (p q : Pfx) : PSpec Tryd.prog 13 [.agg (encP p), .agg (encP q)] (.v (.bool (insP p.at_ p.len q.at_ q.len))) := pspec_flat (fnok_of Tryd.func13 (by kernel_rfl) rfl) (by intro d hd; simp at hd; (repeat (first | (obtain rfl := hd; rfl) | (rcases hd with rfl | hd; · rfl)))) rfl rfl (fun w => inside_any _ _ _ _ _)
theorem meets_p (p q : Pfx) : PSpec Tryd.prog 15 [.agg (encP p), .agg (encP q)] (.v (.bool (meetP p.at_ p.len q.at_ q.len))) := pspec_flat (fnok_of Tryd.func15 (by kernel_rfl) rfl) (by intro d hd; simp at hd; (repeat (first | (obtain rfl := hd; rfl) | (rcases hd with rfl | hd; · rfl)))) rfl rfl (fun w => meets_any _ _ _ _ _)
theorem checkPrefix_p (p : Pfx) : PSpec Tryd.prog 7 [.agg (encP p)] (.v (.int .i64 (chk p.at_ p.len))) := pspec_flat (fnok_of Tryd.func7 (by kernel_rfl) rfl) (by intro d hd; simp at hd; (repeat (first | (obtain rfl := hd; rfl) | (rcases hd with rfl | hd; · rfl)))) rfl rfl (fun w => checkPrefix_any _ _ _)
end Go.Proofs.YtmkdihmmihpibaaDoor
namespace Go.Proofs.YtmkdihmmihpibaaDoor
open Go Go.RowKit Go.Proofs
def Pfx.right (p : Pfx) : Bool := rightB p.at_ p.len
def Pfx.v (p : Pfx) : Value := .agg #[.int .i64 p.at_, .int .i64 p.len]
theorem szI_half {l : Int} (h0 : 0 ≤ l) (h1 : l < 16) : szI l = 2 * szI (l + 1) := by
  unfold szI
  have : (16 - l).toNat = (16 - (l + 1)).toNat + 1 := by omega
  rw [this, Int.pow_succ]
  omega
theorem szI_dvd {l m : Int} (h0 : 0 ≤ m) (h1 : m ≤ l) (h2 : l ≤ 16) : ∃ k : Int, szI m = szI l * k ∧ 1 ≤ k := by
  refine ⟨2 ^ (l - m).toNat, ?_, ?_⟩
  · unfold szI
    rw [← Int.pow_add]
    congr 1
    omega
  · have h3 := Nat.one_le_two_pow (n := (l - m).toNat)
    have h4 : ((2 ^ (l - m).toNat : Nat) : Int) = (2 : Int) ^ (l - m).toNat := by simp
    omega
theorem right_fit {a l : Int} (h : rightB a l = true) : a + szI l ≤ 65536 := by
  obtain ⟨g1, g2, g3, g4, g5⟩ := right_bd h
  obtain ⟨k, hk, hk1⟩ := szI_dvd (Int.le_refl 0) g1 g2
  have h0 : szI 0 = 65536 := by decide
  rw [h0] at hk
  have hs := szI_bd g1
  have hd : szI l ∣ 65536 - a := by
    refine Int.dvd_sub ⟨k, hk⟩ (Int.dvd_of_emod_eq_zero g5)
  have := Int.le_of_dvd (by omega) hd
  omega
/-- Behind a prefix's last address. -/
def Pfx.hi (p : Pfx) : Int := p.at_ + szI p.len
theorem Pfx.bd {p : Pfx} (h : p.right = true) : 0 ≤ p.len ∧ p.len ≤ 16 ∧ 0 ≤ p.at_ ∧ p.at_ ≤ 65535 ∧ p.at_ % szI p.len = 0 := right_bd h
theorem Pfx.hi_bd {p : Pfx} (h : p.right = true) : p.at_ < p.hi ∧ p.hi ≤ 65536 := by
  have h1 := right_fit h
  obtain ⟨g1, -⟩ := p.bd h
  have h2 := szI_bd g1
  unfold Pfx.hi; omega
/-- An address lies in an aligned block just if its block begins there. -/
theorem blk_iff {s a b : Int} (hs : 0 < s) (hb : b % s = 0) : a - a % s = b ↔ b ≤ a ∧ a < b + s := by
  have h1 := Int.emod_nonneg a (b := s) (by omega)
  have h2 := Int.emod_lt_of_pos a hs
  constructor
  · intro h; omega
  · intro ⟨h3, h4⟩
    have h5 : (a - b) % s = a % s := by rw [Int.sub_emod, hb, Int.sub_zero, Int.emod_emod]
    rw [Int.emod_eq_of_lt (by omega) (by omega)] at h5
    omega
theorem holdB_iff {p : Pfx} {x : Int} : holdB p.at_ p.len x = true ↔ p.right = true ∧ p.at_ ≤ x ∧ x < p.hi := by
  unfold holdB within lastI Pfx.right Pfx.hi
  simp only [Bool.and_eq_true, decide_eq_true_eq]
  constructor
  · intro ⟨h1, h2, h3⟩; exact ⟨h1, h2, by omega⟩
  · intro ⟨h1, h2, h3⟩; exact ⟨h1, h2, by omega⟩
theorem holdP_eq (p : Pfx) (x : Int) : holdP p.at_ p.len x = holdB p.at_ p.len x := by
  rw [Bool.eq_iff_iff, holdB_iff]
  unfold holdP Pfx.right
  simp only [Bool.and_eq_true, decide_eq_true_eq, beq_iff_eq]
  constructor
  · intro ⟨h1, h2, h3, h4⟩
    obtain ⟨b1, b2, b3, b4, b5⟩ := right_bd h1
    have := (blk_iff (by have := szI_bd b1; omega) b5).1 h4
    exact ⟨h1, this.1, this.2⟩
  · intro ⟨h1, h2, h3⟩
    obtain ⟨b1, b2, b3, b4, b5⟩ := right_bd h1
    have hf := p.hi_bd h1
    exact ⟨h1, by omega, by omega, (blk_iff (by have := szI_bd b1; omega) b5).2 ⟨h2, h3⟩⟩
end Go.Proofs.YtmkdihmmihpibaaDoor
namespace Go.Proofs.YtmkdihmmihpibaaDoor
open Go Go.RowKit
/-- Up's answer. -/
def upP (p : Pfx) : Pfx × Int := if chk p.at_ p.len ≠ 0 then (⟨0, 0⟩, chk p.at_ p.len) else if p.len = 0 then (⟨0, 0⟩, 3) else (⟨p.at_ - p.at_ % szI (p.len - 1), p.len - 1⟩, 0)
theorem mask_p (n : Int) (h0 : 0 ≤ n) (h1 : n ≤ 16) : PSpec Tryd.prog 26 [.v (.int .i64 n)] (.v (.int .i64 (msk n))) := pspec_flat (fnok_of Tryd.func26 (by kernel_rfl) rfl) (by intro d hd; simp at hd; (repeat (first | (obtain rfl := hd; rfl) | (rcases hd with rfl | hd; · rfl)))) rfl rfl (fun w => (mask_any n w h0 h1).mono fun _ _ ⟨e1, e2⟩ => ⟨e1, e2 ▸ Below.refl _ _⟩)
theorem pcheck_p (p : Pfx) : PSpec Tryd.prog 9 [.agg (encP p)] (.v (.int .i64 (chk p.at_ p.len))) := check_p p
set_option maxRecDepth 100000 in
theorem up_p (p : Pfx) : PSpec Tryd.prog 18 [.agg (encP p)] (.tup [.agg (encP (upP p).1), .v (.int .i64 (upP p).2)]) := by
  have hck := pcheck_p p
  unfold upP
  by_cases hc : chk p.at_ p.len = 0
  · rw [if_neg (by simpa using hc)]
    have hr : p.right = true := by simp [Pfx.right, rightB, hc]
    obtain ⟨b1, b2, b3, b4, -⟩ := p.bd hr
    rw [hc] at hck
    clear hc
    by_cases hl : p.len = 0
    · have h1 : (p.len == 0) = true := by simpa using hl
      rw [if_pos hl]
      replace hl := Lib.hid hl
      refine ps_i tab_ok mixed Tryd.func18 rfl Tryd.ntmps18 Tryd.results18 (by kernel_rfl) ?_
      repeat' (first | (with_reducible refine And.intro ?_ ?_) | (with_reducible refine gK_i (fun _ => ?_) (fun _ => ?_)) | (with_reducible refine condS_i (fun _ => ?_) (fun _ => ?_)) | (with_reducible refine drw_i (by kernel_rfl)) | simp -dsimp only [go_sem, seval, *, encP, h1, undef] | ((with_reducible refine opK_c ?_); simp -dsimp only [go_sem, seval, encP, h1, undef]; first | refine callK_r (by first | assumption | exact hck) (by first | exact .inl rfl | exact .inr rfl) ?_ | (refine callK_i (by assumption) ?_ ?_ ?_; (solve | (repeat (first | exact DLe.refl _ | exact DLe.nil _ | (refine DLe.tup ?_) | (refine DLe.agg ?_ rfl) | exact trivial | (refine And.intro ?_ ?_)))); (solve | exact .inl rfl | exact .inr rfl))) | fail | omega | exact decide_eq_true (by omega) | exact DLe.refl _)
      all_goals exact (by repeat (first | exact DLe.refl _ | exact DLe.nil _ | (refine DLe.tup ?_) | (refine DLe.agg ?_ rfl) | exact trivial | (refine And.intro ?_ ?_)))
    · have h1 : (p.len == 0) = false := by simpa using hl
      rw [if_neg hl]
      have hm := mask_p (p.len - 1) (by omega) (by omega)
      have hw : IntKind.i64.wrap (p.len - 1) = p.len - 1 := by rw [IntKind.wrap_i64]; omega
      have ha : IntKind.i64.wrap ((BitVec.ofInt IntKind.i64.bits p.at_ &&& ~~~BitVec.ofInt IntKind.i64.bits (msk (p.len - 1))).toNat : Int) = p.at_ - p.at_ % szI (p.len - 1) := andnot_msk p.at_ (p.len - 1) b3 b4 (by omega)
      replace hl := Lib.hid hl
      refine ps_i tab_ok mixed Tryd.func18 rfl Tryd.ntmps18 Tryd.results18 (by kernel_rfl) ?_
      repeat' (first | (with_reducible refine And.intro ?_ ?_) | (with_reducible refine gK_i (fun _ => ?_) (fun _ => ?_)) | (with_reducible refine condS_i (fun _ => ?_) (fun _ => ?_)) | (with_reducible refine drw_i (by kernel_rfl)) | simp -dsimp only [go_sem, seval, *, encP, h1, hw, undef] | ((with_reducible refine opK_c ?_); simp -dsimp only [go_sem, seval, encP, h1, hw, undef]; first | refine callK_r (by first | assumption | exact hck | exact hm) (by first | exact .inl rfl | exact .inr rfl) ?_ | (refine callK_i (by assumption) ?_ ?_ ?_; (solve | (repeat (first | exact DLe.refl _ | exact DLe.nil _ | (refine DLe.tup ?_) | (refine DLe.agg ?_ rfl) | exact trivial | (refine And.intro ?_ ?_)))); (solve | exact .inl rfl | exact .inr rfl))) | fail | omega | exact decide_eq_true (by omega) | exact DLe.refl _)
      all_goals first | (rw [ha]; exact DLe.refl _) | exact (by repeat (first | exact DLe.refl _ | exact DLe.nil _ | (refine DLe.tup ?_) | (refine DLe.agg ?_ rfl) | exact trivial | (refine And.intro ?_ ?_)))
  · rw [if_pos hc]
    have h1 : (chk p.at_ p.len != 0) = true := by simpa using hc
    generalize chk p.at_ p.len = E at *
    refine ps_i tab_ok mixed Tryd.func18 rfl Tryd.ntmps18 Tryd.results18 (by kernel_rfl) ?_
    repeat' (first | (with_reducible refine And.intro ?_ ?_) | (with_reducible refine gK_i (fun _ => ?_) (fun _ => ?_)) | (with_reducible refine condS_i (fun _ => ?_) (fun _ => ?_)) | (with_reducible refine drw_i (by kernel_rfl)) | simp -dsimp only [go_sem, seval, *, encP, h1, undef] | ((with_reducible refine opK_c ?_); simp -dsimp only [go_sem, seval, encP, h1, undef]; first | refine callK_r (by first | assumption | exact hck) (by first | exact .inl rfl | exact .inr rfl) ?_ | (refine callK_i (by assumption) ?_ ?_ ?_; (solve | (repeat (first | exact DLe.refl _ | exact DLe.nil _ | (refine DLe.tup ?_) | (refine DLe.agg ?_ rfl) | exact trivial | (refine And.intro ?_ ?_)))); (solve | exact .inl rfl | exact .inr rfl))) | fail | omega | exact decide_eq_true (by omega) | exact DLe.refl _)
    all_goals exact (by repeat (first | exact DLe.refl _ | exact DLe.nil _ | (refine DLe.tup ?_) | (refine DLe.agg ?_ rfl) | exact trivial | (refine And.intro ?_ ?_)))
end Go.Proofs.YtmkdihmmihpibaaDoor
namespace Go.Proofs.YtmkdihmmihpibaaDoor
open Go Go.RowKit
def cutS (l : List UInt8) (c : UInt8) : List UInt8 × List UInt8 × Bool :=
  if Lib.indexByte l c < 0 then (l, [], false) else (l.take (Lib.indexByte l c).toNat, l.drop ((Lib.indexByte l c).toNat + 1), true)
theorem index_lt : ∀ (l : List UInt8) (c : UInt8), Lib.indexByte l c < l.length
  | [], c => by unfold Lib.indexByte; decide
  | b :: l, c => by
    have ih := index_lt l c
    unfold Lib.indexByte
    rw [List.length_cons]
    split
    · omega
    · split <;> omega
set_option maxRecDepth 100000 in
theorem cut0_p (l : List UInt8) (c : UInt8) (hl : l.length ≤ 9223372036854775806) : PSpec Tryd.prog 36 [.v (.string (bs l)), .v (.string (bs [c]))] (.tup [.v (.string (bs (cutS l c).1)), .v (.string (bs (cutS l c).2.1)), .v (.bool (cutS l c).2.2)]) := by
  have hi := index1_p l c
  have hlt := index_lt l c
  have h1 : (bs [c]).size = 1 := rfl
  have hls : (bs l).size = l.length := bs_size l
  unfold cutS
  by_cases h : Lib.indexByte l c < 0
  · rw [if_pos h]
    have e1 : decide (Lib.indexByte l c ≥ 0) = false := by simp; omega
    generalize Lib.indexByte l c = i at *
    refine ps_i tab_ok mixed Tryd.func36 rfl Tryd.ntmps36 Tryd.results36 (by kernel_rfl) ?_
    repeat' (first | (with_reducible refine And.intro ?_ ?_) | (with_reducible refine gK_i (fun _ => ?_) (fun _ => ?_)) | (with_reducible refine condS_i (fun _ => ?_) (fun _ => ?_)) | (with_reducible refine drw_i (by kernel_rfl)) | simp -dsimp only [go_sem, seval, *, e1, undef] | ((with_reducible refine opK_c ?_); simp -dsimp only [go_sem, seval, e1, undef]; first | refine callK_r (by first | assumption | exact hi) (by first | exact .inl rfl | exact .inr rfl) ?_ | (refine callK_i (by assumption) ?_ ?_ ?_; (solve | (repeat (first | exact DLe.refl _ | exact DLe.nil _ | (refine DLe.tup ?_) | (refine DLe.agg ?_ rfl) | exact trivial | (refine And.intro ?_ ?_)))); (solve | exact .inl rfl | exact .inr rfl))) | fail | omega | exact decide_eq_true (by omega) | exact DLe.refl _)
    all_goals exact (by repeat (first | exact DLe.refl _ | exact DLe.nil _ | (refine DLe.tup ?_) | (refine DLe.agg ?_ rfl) | exact trivial | (refine And.intro ?_ ?_)))
  · rw [if_neg h]
    have e1 : decide (Lib.indexByte l c ≥ 0) = true := by simp; omega
    obtain ⟨k, hk⟩ : ∃ k : Nat, Lib.indexByte l c = k := ⟨(Lib.indexByte l c).toNat, by omega⟩
    rw [hk] at hi hlt e1 ⊢
    rw [Int.toNat_natCast]
    have hw : IntKind.i64.wrap ((k : Int) + 1) = ((k + 1 : Nat) : Int) := by rw [IntKind.wrap_i64]; omega
    have hk1 : k ≤ l.length := by omega
    have hk2 : k + 1 ≤ l.length := by omega
    have e2 : bs (l.take k) = (bs l).extract 0 k := by rw [bs_part]; rfl
    have e3 : bs (l.drop (k + 1)) = (bs l).extract (k + 1) l.length := by rw [bs_part, List.take_length]
    rw [e2, e3]
    clear hk h
    generalize bs [c] = sc at *
    refine ps_i tab_ok mixed Tryd.func36 rfl Tryd.ntmps36 Tryd.results36 (by kernel_rfl) ?_
    repeat' (first | (with_reducible refine And.intro ?_ ?_) | (with_reducible refine gK_i (fun _ => ?_) (fun _ => ?_)) | (with_reducible refine condS_i (fun _ => ?_) (fun _ => ?_)) | (with_reducible refine drw_i (by kernel_rfl)) | simp -dsimp only [go_sem, seval, *, e1, hw, hls, h1, hk1, hk2, undef] | ((with_reducible refine opK_c ?_); simp -dsimp only [go_sem, seval, e1, hw, hls, h1, hk1, hk2, undef]; first | refine callK_r (by first | assumption | exact hi) (by first | exact .inl rfl | exact .inr rfl) ?_ | (refine callK_i (by assumption) ?_ ?_ ?_; (solve | (repeat (first | exact DLe.refl _ | exact DLe.nil _ | (refine DLe.tup ?_) | (refine DLe.agg ?_ rfl) | exact trivial | (refine And.intro ?_ ?_)))); (solve | exact .inl rfl | exact .inr rfl))) | fail | omega | exact decide_eq_true (by omega) | exact DLe.refl _)
    all_goals exact (by repeat (first | exact DLe.refl _ | exact DLe.nil _ | (refine DLe.tup ?_) | (refine DLe.agg ?_ rfl) | exact trivial | (refine And.intro ?_ ?_)))
set_option maxRecDepth 100000 in
theorem cut_p (l : List UInt8) (c : UInt8) (hl : l.length ≤ 9223372036854775806) : PSpec Tryd.prog 32 [.v (.string (bs l)), .v (.string (bs [c]))] (.tup [.v (.string (bs (cutS l c).1)), .v (.string (bs (cutS l c).2.1)), .v (.bool (cutS l c).2.2)]) := by
  have h := cut0_p l c hl
  generalize cutS l c = R at *
  generalize bs [c] = sc at *
  refine ps_i tab_ok mixed Tryd.func32 rfl Tryd.ntmps32 Tryd.results32 (by kernel_rfl) ?_
  repeat' (first | (with_reducible refine And.intro ?_ ?_) | (with_reducible refine gK_i (fun _ => ?_) (fun _ => ?_)) | (with_reducible refine condS_i (fun _ => ?_) (fun _ => ?_)) | (with_reducible refine drw_i (by kernel_rfl)) | simp -dsimp only [go_sem, seval, *, undef] | ((with_reducible refine opK_c ?_); simp -dsimp only [go_sem, seval, undef]; first | refine callK_r (by first | assumption | exact h) (by first | exact .inl rfl | exact .inr rfl) ?_ | (refine callK_i (by assumption) ?_ ?_ ?_; (solve | (repeat (first | exact DLe.refl _ | exact DLe.nil _ | (refine DLe.tup ?_) | (refine DLe.agg ?_ rfl) | exact trivial | (refine And.intro ?_ ?_)))); (solve | exact .inl rfl | exact .inr rfl))) | fail | omega | exact decide_eq_true (by omega) | exact DLe.refl _)
  all_goals exact (by repeat (first | exact DLe.refl _ | exact DLe.nil _ | (refine DLe.tup ?_) | (refine DLe.agg ?_ rfl) | exact trivial | (refine And.intro ?_ ?_)))
/-- A prefix as a text. -/
def txtP (p : Pfx) : List UInt8 := dS (p.at_.toNat / 256) ++ (46 :: (dS (p.at_.toNat % 256) ++ (47 :: dS p.len.toNat)))
def showP (p : Pfx) : List UInt8 × Int := if chk p.at_ p.len ≠ 0 then ([], chk p.at_ p.len) else (txtP p, 0)
theorem div_bd {p : Pfx} (hr : p.right = true) : 0 ≤ p.at_ ∧ p.at_ ≤ 65535 ∧ 0 ≤ p.len ∧ p.len ≤ 16 := by
  obtain ⟨b1, b2, b3, b4, -⟩ := p.bd hr
  exact ⟨b3, b4, b1, b2⟩
theorem txt_join (a b c : List UInt8) : bs (a ++ (46 :: (b ++ (47 :: c)))) = (((bs a ++ bs [46]) ++ bs b) ++ bs [47]) ++ bs c := by
  rw [bs_app, bs_app, bs_app, bs_app]
  congr 1
  simp
set_option maxRecDepth 100000 in
set_option maxHeartbeats 1000000 in
theorem show_p (p : Pfx) : PSpec Tryd.prog 20 [.agg (encP p)] (.tup [.v (.string (bs (showP p).1)), .v (.int .i64 (showP p).2)]) := by
  have hck := pcheck_p p
  unfold showP
  by_cases hc : chk p.at_ p.len = 0
  · rw [if_neg (by simpa using hc)]
    have hr : p.right = true := by simp [Pfx.right, rightB, hc]
    obtain ⟨h1, h2, h3, h4⟩ := div_bd hr
    rw [hc] at hck
    clear hc
    obtain ⟨x, hx⟩ : ∃ x : Nat, p.at_ = x := ⟨p.at_.toNat, by omega⟩
    obtain ⟨z, hz⟩ : ∃ z : Nat, p.len = z := ⟨p.len.toNat, by omega⟩
    have i1 := itoa_p (x / 256) (by omega)
    have i2 := itoa_p (x % 256) (by omega)
    have i3 := itoa_p z (by omega)
    have ha : p.at_.fdiv (2 ^ min 8 64) = ((x / 256 : Nat) : Int) := by
      have e : (2 : Int) ^ min 8 64 = 256 := by decide
      rw [e, hx, Int.fdiv_eq_ediv_of_nonneg _ (by omega)]; omega
    have hb : IntKind.i64.wrap ((BitVec.ofInt IntKind.i64.bits p.at_ &&& BitVec.ofInt IntKind.i64.bits 255).toNat : Int) = ((x % 256 : Nat) : Int) := by
      have e : (BitVec.ofInt 64 p.at_ &&& BitVec.ofInt 64 255).toNat = x % 256 := by
        have e1 : ((x : Int) % ((2 ^ 64 : Nat) : Int)).toNat = x := by omega
        have e2 : ((255 : Int) % ((2 ^ 64 : Nat) : Int)).toNat = 2 ^ 8 - 1 := by decide
        rw [hx, BitVec.toNat_and, BitVec.toNat_ofInt, BitVec.toNat_ofInt, e1, e2, Nat.and_two_pow_sub_one_eq_mod]
      show IntKind.i64.wrap ((BitVec.ofInt 64 p.at_ &&& BitVec.ofInt 64 255).toNat : Int) = _
      rw [e, IntKind.wrap_i64]; omega
    have l1 := dS_len (x / 256) (by omega)
    have l2 := dS_len (x % 256) (by omega)
    have l3 := dS_len z (by omega)
    have ht : txtP p = dS (x / 256) ++ (46 :: (dS (x % 256) ++ (47 :: dS z))) := by unfold txtP; rw [hx, hz]; rfl
    rw [ht, txt_join]
    have s1 : (bs (dS (x / 256))).size + (bs [46]).size ≤ 9223372036854775807 := by simp only [bs_size]; simp; omega
    have s2 : (bs (dS (x / 256)) ++ bs [46]).size + (bs (dS (x % 256))).size ≤ 9223372036854775807 := by simp only [bs_app, bs_size]; simp; omega
    have s3 : ((bs (dS (x / 256)) ++ bs [46]) ++ bs (dS (x % 256))).size + (bs [47]).size ≤ 9223372036854775807 := by simp only [bs_app, bs_size]; simp; omega
    have s4 : (((bs (dS (x / 256)) ++ bs [46]) ++ bs (dS (x % 256))) ++ bs [47]).size + (bs (dS z)).size ≤ 9223372036854775807 := by simp only [bs_app, bs_size]; simp; omega
    simp only [ByteArray.size_append] at s2 s3 s4
    clear ht hr h1 h2 h3 h4
    rw [← hz] at i3
    replace hx := Lib.hid hx
    replace hz := Lib.hid hz
    generalize bs (dS (x / 256)) = t1 at *
    generalize bs (dS (x % 256)) = t2 at *
    generalize bs (dS z) = t3 at *
    have c1 : ByteArray.mk #[46] = bs [46] := rfl
    have c2 : ByteArray.mk #[47] = bs [47] := rfl
    refine ps_i tab_ok mixed Tryd.func20 rfl Tryd.ntmps20 Tryd.results20 (by kernel_rfl) ?_
    repeat' (first | (with_reducible refine And.intro ?_ ?_) | (with_reducible refine gK_i (fun _ => ?_) (fun _ => ?_)) | (with_reducible refine condS_i (fun _ => ?_) (fun _ => ?_)) | (with_reducible refine drw_i (by kernel_rfl)) | simp -dsimp only [go_sem, seval, *, encP, ha, hb, c1, c2, s1, s2, s3, s4, undef] | ((with_reducible refine opK_c ?_); simp -dsimp only [go_sem, seval, encP, ha, hb, c1, c2, s1, s2, s3, s4, undef]; first | refine callK_r (by first | assumption | exact hck | exact i1 | exact i2 | exact i3) (by first | exact .inl rfl | exact .inr rfl) ?_ | (refine callK_i (by assumption) ?_ ?_ ?_; (solve | (repeat (first | exact DLe.refl _ | exact DLe.nil _ | (refine DLe.tup ?_) | (refine DLe.agg ?_ rfl) | exact trivial | (refine And.intro ?_ ?_)))); (solve | exact .inl rfl | exact .inr rfl))) | fail | omega | exact decide_eq_true (by omega) | exact DLe.refl _)
    all_goals exact (by repeat (first | exact DLe.refl _ | exact DLe.nil _ | (refine DLe.tup ?_) | (refine DLe.agg ?_ rfl) | exact trivial | (refine And.intro ?_ ?_)))
  · rw [if_pos hc]
    have h1 : (chk p.at_ p.len != 0) = true := by simpa using hc
    generalize chk p.at_ p.len = E at *
    refine ps_i tab_ok mixed Tryd.func20 rfl Tryd.ntmps20 Tryd.results20 (by kernel_rfl) ?_
    repeat' (first | (with_reducible refine And.intro ?_ ?_) | (with_reducible refine gK_i (fun _ => ?_) (fun _ => ?_)) | (with_reducible refine condS_i (fun _ => ?_) (fun _ => ?_)) | (with_reducible refine drw_i (by kernel_rfl)) | simp -dsimp only [go_sem, seval, *, encP, h1, undef] | ((with_reducible refine opK_c ?_); simp -dsimp only [go_sem, seval, encP, h1, undef]; first | refine callK_r (by first | assumption | exact hck) (by first | exact .inl rfl | exact .inr rfl) ?_ | (refine callK_i (by assumption) ?_ ?_ ?_; (solve | (repeat (first | exact DLe.refl _ | exact DLe.nil _ | (refine DLe.tup ?_) | (refine DLe.agg ?_ rfl) | exact trivial | (refine And.intro ?_ ?_)))); (solve | exact .inl rfl | exact .inr rfl))) | fail | omega | exact decide_eq_true (by omega) | exact DLe.refl _)
    all_goals exact (by repeat (first | exact DLe.refl _ | exact DLe.nil _ | (refine DLe.tup ?_) | (refine DLe.agg ?_ rfl) | exact trivial | (refine And.intro ?_ ?_)))
end Go.Proofs.YtmkdihmmihpibaaDoor
namespace Go.Proofs.YtmkdihmmihpibaaDoor
open Go Go.RowKit
/-- All that was there is as it was, but for the blocks from lo on, ahead of hi: they are as wide as they were. -/
structure EX (lo hi : Nat) (w w' : World) : Prop where
  os : w'.os = w.os
  tape : w'.tape = w.tape
  output : w'.output = w.output
  size : w.heap.size ≤ w'.heap.size
  block : ∀ b, b < w.heap.size → (b < lo ∨ hi ≤ b) → w'.heap[b]? = w.heap[b]?
  there : ∀ b o, b < w.heap.size → (w.cell? ⟨b, o, none⟩).isSome = true → (w'.cell? ⟨b, o, none⟩).isSome = true
  free : ∀ b o, b < w.heap.size → w'.frozen? ⟨b, o, none⟩ = w.frozen? ⟨b, o, none⟩
theorem EX.refl {lo hi : Nat} (w : World) : EX lo hi w w := ⟨rfl, rfl, rfl, Nat.le_refl _, fun _ _ _ => rfl, fun _ _ _ h => h, fun _ _ _ => rfl⟩
theorem EX.trans {lo hi : Nat} {a b c : World} (h : EX lo hi a b) (k : EX lo hi b c) : EX lo hi a c :=
  ⟨k.os.trans h.os, k.tape.trans h.tape, k.output.trans h.output, Nat.le_trans h.size k.size, fun i hi hx => (k.block i (Nat.lt_of_lt_of_le hi h.size) hx).trans (h.block i hi hx),
   fun i o hi hs => k.there i o (Nat.lt_of_lt_of_le hi h.size) (h.there i o hi hs), fun i o hi => (k.free i o (Nat.lt_of_lt_of_le hi h.size)).trans (h.free i o hi)⟩
theorem EX.of {lo hi : Nat} {w w' : World} (h : Ext w w') : EX lo hi w w' :=
  ⟨h.os, h.tape, h.output, h.size, fun b hb _ => h.block b hb, fun b o hb hs => by rw [(bcell h).1 b o hb]; exact hs, fun b o hb => (bcell h).2 b o hb⟩
theorem EX.mono {lo hi lo' hi' : Nat} {w w' : World} (h1 : lo ≤ lo') (h2 : hi' ≤ hi) (h : EX lo' hi' w w') : EX lo hi w w' :=
  ⟨h.os, h.tape, h.output, h.size, fun b hb hx => h.block b hb (by omega), h.there, h.free⟩
theorem EX.cell {lo hi : Nat} {w w' : World} (h : EX lo hi w w') {b o : Nat} (hb : b < w.heap.size) (hx : b < lo ∨ hi ≤ b) : w'.cell? ⟨b, o, none⟩ = w.cell? ⟨b, o, none⟩ :=
  World.cell?_of_block (w := w) (h.block b hb hx)
theorem EX.setCell {lo hi : Nat} {w w' : World} (h : EX lo hi w w') {b o : Nat} (h1 : lo ≤ b) (h2 : b < hi) (v : Value) : EX lo hi w (w'.setCell ⟨b, o, none⟩ v) := by
  refine ⟨h.os, h.tape, h.output, by rw [World.size_setCell]; exact h.size, fun i hi hx => (block_setCell_ne v (by show b ≠ i; omega)).trans (h.block i hi hx), fun i j hi hs => ?_, fun i j hi => ?_⟩
  · have h3 := h.there i j hi hs
    obtain ⟨u, hu⟩ := Option.isSome_iff_exists.1 h3
    obtain ⟨u', hu'⟩ := cell?_setCell_some (w := w') (p := ⟨b, o, none⟩) (x := v) (q := ⟨i, j, none⟩) (v := u) hu
    rw [hu']; rfl
  · rw [World.frozen?_setCell]; exact h.free i j hi
theorem EX.drew {lo hi : Nat} {w w' : World} (h : EX lo hi w w') : EX lo hi w w'.drew := h.trans (EX.of ((Below.refl _ _).drew))
theorem EX.bel {lo hi B : Nat} {a w w' : World} (h : Bel B a w) (hx : EX lo hi w w') (hB : B ≤ lo) : Bel B a w' :=
  ⟨h.bel.trans ⟨hx.os, hx.tape, hx.output, hx.size, fun k hk => hx.block k (Nat.lt_of_lt_of_le hk h.le) (.inl (Nat.lt_of_lt_of_le hk hB))⟩, Nat.le_trans h.le hx.size⟩
theorem EX.some {lo hi : Nat} {w w' : World} (h : EX lo hi w w') {b o : Nat} {v : Value} (hc : w.cell? ⟨b, o, none⟩ = some v) : ∃ u, w'.cell? ⟨b, o, none⟩ = some u := by
  have := h.there b o (lt_of_cell hc) (by rw [hc]; rfl)
  exact Option.isSome_iff_exists.1 this
theorem EX.lo {lo hi : Nat} {w w' : World} (h : EX lo hi w w') (hl : lo ≤ w.heap.size) : ∀ b o, b < lo → w'.cell? ⟨b, o, none⟩ = w.cell? ⟨b, o, none⟩ := fun b o hb => h.cell (by omega) (.inl hb)
theorem EX.hi {lo hi : Nat} {w w' : World} (h : EX lo hi w w') : ∀ b o, hi ≤ b → b < w.heap.size → w'.cell? ⟨b, o, none⟩ = w.cell? ⟨b, o, none⟩ := fun b o hb h2 => h.cell h2 (.inr hb)
section
variable {P : Program} {ops : Array Oper} {Q : Exit → Act → World → Prop}
/-- Whatever order is picked. -/
def GX (P : Program) (ops : Array Oper) (Q : Exit → Act → World → Prop) : Nat → Array Bool → Act → Nat → Nat → World → Prop
  | 0, listed, a, lo, hi, W => Region.ready .any ops listed = [] ∧ ∀ w, EX lo hi W w → Q .normal a w
  | fuel + 1, listed, a, lo, hi, W => ∀ w, EX lo hi W w → (Region.ready .any ops listed = [] → Q .normal a w) ∧
      ∀ i ∈ Region.ready .any ops listed, wpOp P ops Q i (fun a' w' => EX lo hi w w' ∧ ∃ lo' hi', lo ≤ lo' ∧ hi' ≤ hi ∧ GX P ops Q fuel (listed.setIfInBounds i true) a' lo' hi' w') a w
theorem GX.world : ∀ {fuel : Nat} {listed : Array Bool} {a : Act} {lo hi : Nat} {W W' : World}, EX lo hi W W' → GX P ops Q fuel listed a lo hi W → GX P ops Q fuel listed a lo hi W'
  | 0, _, _, _, _, _, _, hx, h => ⟨h.1, fun w hw => h.2 w (hx.trans hw)⟩
  | _ + 1, _, _, _, _, _, _, hx, h => fun w hw => h w (hx.trans hw)
theorem GX.any : ∀ {fuel : Nat} {listed : Array Bool} {a : Act} {lo hi : Nat} {W : World}, GX P ops Q fuel listed a lo hi W → wpAny P .any ops Q fuel listed a W
  | 0, _, _, _, _, _, h => ⟨h.1, h.2 _ (EX.refl _)⟩
  | _ + 1, _, _, _, _, W, h => ⟨(h W (EX.refl _)).1, fun i hi => wpOp_mono (fun _ _ ⟨_, _, _, _, _, h'⟩ => GX.any h') ((h W (EX.refl _)).2 i hi)⟩
/-- In every world that extends W operation o yields v, and at most extends it. -/
def QX (P : Program) (ops : Array Oper) (lo hi : Nat) (W : World) (o : Oper) (v : Value) (a : Act) : Prop :=
  (Region.wanted o (yielded ops a.tmps) = true ∧ ∀ w, EX lo hi W w → o.quietAt P a (Ext w) w v) ∨
  (Region.wanted o (yielded ops a.tmps) = false ∧ v = undef)
theorem QX.world {lo hi lo' hi' : Nat} {W W' : World} {o : Oper} {v : Value} {a : Act} (h1 : lo ≤ lo') (h2 : hi' ≤ hi) (hx : EX lo hi W W') (h : QX P ops lo hi W o v a) : QX P ops lo' hi' W' o v a :=
  h.imp (fun ⟨g1, g2⟩ => ⟨g1, fun w hw => g2 w (hx.trans (hw.mono h1 h2))⟩) id
theorem QX.of_same {lo hi : Nat} {W : World} {o : Oper} {v : Value} {a a' : Act} (hy : QX P ops lo hi W o v a) (he : execOp a'.eval o = execOp a.eval o)
    (hw : Region.wanted o (yielded ops a'.tmps) = Region.wanted o (yielded ops a.tmps)) : QX P ops lo hi W o v a' := by
  unfold QX Oper.quietAt at *
  rw [he, hw]
  exact hy
theorem QX.wpOp {lo hi : Nat} {W : World} {i : Nat} {o : Oper} {v : Value} {a : Act} (hi' : ops[i]? = some o) (hy : QX P ops lo hi W o v a) {K : Act → World → Prop} {w : World} (hw : EX lo hi W w) (h : ∀ w', Ext w w' → K (a.put o.dst v) w') : wpOp P ops Q i K a w := by
  unfold Go.wpOp
  simp only [hi']
  rcases hy with ⟨hwa, hv⟩ | ⟨hwa, rfl⟩
  · simp only [hwa, if_true]
    left
    have h3 := hv w hw
    unfold Oper.quietAt at h3
    unfold Oper.wp
    generalize (execOp a.eval o).run P w = r at *
    cases r with
    | ok n w' =>
      cases n <;> simp only [Oper.quietUpon] at h3 <;> simp only [Oper.upon]
      case value u =>
        obtain ⟨e1, e2⟩ := h3
        rw [e1, e2]
        exact h _ (Below.refl _ _)
      case skip =>
        obtain ⟨e1, e2⟩ := h3
        rw [e1, ← e2]
        exact h _ (Below.refl _ _)
      case enter f args =>
        obtain ⟨e1, hc⟩ := h3
        rw [e1]
        exact hc.mono fun e w'' ⟨he, hw''⟩ => by subst he; exact h _ hw''
    | halt x w' => simp only [Oper.quietUpon] at h3
  · simp only [hwa, Bool.false_eq_true, if_false]
    exact h w (Below.refl _ _)
theorem wpOp_putX {lo hi : Nat} {W : World} {j : Nat} {oi oj : Oper} {v : Value} (hj : ops[j]? = some oj) (hap : oi.apart ops oj = true)
    (hsi : ∀ cs b, oi.op ≠ .select cs b) (hsj : ∀ cs b, oj.op ≠ .select cs b)
    (hQ : ∀ c a w, Q (.panic c) (a.put oi.dst v) w → Q (.panic c) a w) {K : Act → World → Prop} {a : Act} {w : World}
    (hy : QX P ops lo hi W oi v a) (h : wpOp P ops Q j K (a.put oi.dst v) w) :
    wpOp P ops Q j (fun a' w' => QX P ops lo hi W oi v a' ∧ K (a'.put oi.dst v) w') a w := by
  obtain ⟨h1, h2, h3⟩ := Oper.apart_spec hap
  have keep : ∀ (a : Act), QX P ops lo hi W oi v a → ∀ u, QX P ops lo hi W oi v (a.put oj.dst u) := fun a hy u =>
    hy.of_same (execOp_put oi hsi a oj.dst u h3) (wanted_put oi a oj.dst u h3)
  have keepD : ∀ d, QX P ops lo hi W oi v { a with defers := d :: a.defers } := fun d => hy.of_same rfl rfl
  unfold wpOp at *
  simp only [hj] at *
  rw [wanted_put oj a oi.dst v h1] at h
  split
  · rename_i hw
    simp only [hw, if_true] at h
    rcases h with h | ⟨hasks, hlets⟩
    case inr => exact .inr ⟨by unfold Oper.asks at *; rw [execOp_put oj hsj a oi.dst v h1] at hasks; exact hasks, hlets⟩
    refine .inl ?_
    unfold Oper.wp at *
    rw [execOp_put oj hsj a oi.dst v h1] at h
    generalize (execOp a.eval oj).run P w = r at *
    cases r with
    | ok n w' =>
      cases n <;> simp only [Oper.upon] at h ⊢
      case value u => exact ⟨keep a hy u, by rw [← Act.put_comm a v u h2]; exact h⟩
      case skip => exact ⟨keep a hy _, by rw [← Act.put_comm a v undef h2]; exact h⟩
      case defer d =>
        refine ⟨keep _ (keepD d) _, ?_⟩
        rw [← Act.put_comm _ v undef h2, ← Act.put_defers]
        exact h
      case enter f args =>
        refine Calls.mono h fun e w'' he => ?_
        cases e with
        | returned u => exact ⟨keep a hy u, by rw [← Act.put_comm a v u h2]; exact he⟩
        | panicked c => exact hQ _ _ _ he
        | outgrown => exact he
      case row row args => exact Rows.mono h fun u w'' he => ⟨keep a hy u, by rw [← Act.put_comm a v u h2]; exact he⟩
    | halt x w' =>
      cases x <;> simp only [Oper.upon] at h ⊢
      case panic u => exact hQ _ _ _ h
  · rename_i hw
    simp only [hw] at h
    exact ⟨keep a hy _, by rw [← Act.put_comm a v undef h2]; exact h⟩
theorem GX_first {i : Nat} {oi : Oper} {v : Value} (hio : ops[i]? = some oi) (hsel : ∀ (j : Nat) (o : Oper) cs b, ops[j]? = some o → o.op ≠ .select cs b)
    (hQ : ∀ c a w, Q (.panic c) (a.put oi.dst v) w → Q (.panic c) a w) :
    ∀ (fuel : Nat) (listed : Array Bool) (a : Act) (lo hi : Nat) (W : World),
      (∀ j oj, ops[j]? = some oj → j ≠ i → listed.getD j true = false → (∀ e ∈ oj.after, Region.binds .any e = true → e.on ≠ i) → oi.apart ops oj = true) →
      i ∈ Region.ready .any ops listed → QX P ops lo hi W oi v a →
      GX P ops Q fuel (listed.setIfInBounds i true) (a.put oi.dst v) lo hi W → GX P ops Q (fuel + 1) listed a lo hi W := by
  intro fuel
  induction fuel with
  | zero =>
    intro listed a lo hi W _ hr hy H w hw
    refine ⟨fun h => (by rw [h] at hr; cases hr), fun j hj => ?_⟩
    by_cases hji : j = i
    · subst hji; exact hy.wpOp hio hw fun w' hw' => ⟨EX.of hw', lo, hi, Nat.le_refl _, Nat.le_refl _, H.world (hw.trans (EX.of hw'))⟩
    · have := ready_mono hj hji
      rw [H.1] at this
      cases this
  | succ fuel ih =>
    intro listed a lo hi W hfree hr hy H w hw
    refine ⟨fun h => (by rw [h] at hr; cases hr), fun j hj => ?_⟩
    by_cases hji : j = i
    · subst hji; exact hy.wpOp hio hw fun w' hw' => ⟨EX.of hw', lo, hi, Nat.le_refl _, Nat.le_refl _, H.world (hw.trans (EX.of hw'))⟩
    · have h1 := (H w hw).2 j (ready_mono hj hji)
      obtain ⟨hjun, oj, hoj, hall⟩ := mem_ready.1 hj
      have hnot : ∀ e ∈ oj.after, Region.binds .any e = true → e.on ≠ i := fun e he hb heq => by
        have h1 := hall e he hb
        have h0 := (mem_ready.1 hr).1
        rw [heq] at h1
        rcases Nat.lt_or_ge i listed.size with h' | h'
        · simp [h'] at h0 h1; rw [h0] at h1; cases h1
        · simp [Array.getElem?_eq_none h'] at h1
      have h2 := wpOp_putX hoj (hfree j oj hoj hji hjun hnot) (fun cs b => hsel i oi cs b hio) (fun cs b => hsel j oj cs b hoj) hQ (hy.world (Nat.le_refl _) (Nat.le_refl _) hw) h1
      have hfree' : ∀ k ok, ops[k]? = some ok → k ≠ i → (listed.setIfInBounds j true).getD k true = false →
          (∀ e ∈ ok.after, Region.binds .any e = true → e.on ≠ i) → oi.apart ops ok = true := fun k ok hk hki hun hno => by
        refine hfree k ok hk hki ?_ hno
        by_cases hjk : j = k
        · subst hjk; exact hjun
        · rw [getD_set_ne true hjk] at hun; exact hun
      refine wpOp_mono (fun a' w' ⟨h3, h4, lo', hi', h5, h6, h7⟩ => ⟨h4, lo', hi', h5, h6, ih (listed.setIfInBounds j true) a' lo' hi' w' hfree' (ready_mono hr (Ne.symm hji)) (h3.world h5 h6 h4) ?_⟩) h2
      rw [Array.setIfInBounds_comm _ _ hji]
      exact h7
/-- The walk in the order of the text. -/
def wpMiy (P : Program) (ops : Array Oper) (Q : Exit → Act → World → Prop) : List Oper → Nat → Array Bool → Act → Nat → Nat → World → Prop
  | [], _, _, a, lo, hi, W => ∀ w, EX lo hi W w → Q .normal a w
  | o :: rest, k, listed, a, lo, hi, W =>
    (∃ v, QX P ops lo hi W o v a ∧ wpMiy P ops Q rest (k + 1) (listed.setIfInBounds k true) (a.put o.dst v) lo hi W) ∨
    (Region.ready .any ops listed = [k] ∧ Region.wanted o (yielded ops a.tmps) = true ∧ ∀ w, EX lo hi W w → o.wp P a w (fun a' w' => EX lo hi w w' ∧ ∃ lo' hi', lo ≤ lo' ∧ hi' ≤ hi ∧ wpMiy P ops Q rest (k + 1) (listed.setIfInBounds k true) a' lo' hi' w') Q)
theorem miy_sound (hs : Region.noSelect ops = true) (hQ : ∀ c a d v w, Q (.panic c) (a.put d v) w → Q (.panic c) a w) : ∀ (l : List Oper) (k : Nat) (listed : Array Bool) (a : Act) (lo hi : Nat) (W : World), (∀ j, l[j]? = ops[k + j]?) →
    Region.lexFrom .any ops l.length k listed = true → wpMiy P ops Q l k listed a lo hi W → GX P ops Q l.length listed a lo hi W
  | [], _, _, _, _, _, _, _, hB, h => ⟨by simpa [Region.lexFrom] using hB, h⟩
  | o :: l, k, listed, a, lo, hi, W, hl, hB, h => by
    have h0 : ops[k]? = some o := by simpa using (hl 0).symm
    simp only [List.length_cons, Region.lexFrom, Bool.and_eq_true] at hB
    obtain ⟨⟨hr, hf⟩, hB'⟩ := hB
    have hl' : ∀ j, l[j]? = ops[k + 1 + j]? := fun j => by have := hl (j + 1); simpa [Nat.add_assoc, Nat.add_comm 1 j] using this
    rcases h with ⟨v, hy, hK⟩ | ⟨hone, hwa, hK⟩
    · exact GX_first h0 (Region.noSelect_spec hs) (fun c a w => hQ c a _ _ w) l.length listed a lo hi W (Region.free_spec h0 hf) (by simpa using hr) hy (miy_sound hs hQ l (k + 1) _ _ _ _ _ hl' hB' hK)
    · intro w hw
      refine ⟨fun h => by rw [hone] at h; simp at h, fun i hi' => ?_⟩
      rw [hone] at hi'
      obtain rfl : i = k := by simpa using hi'
      unfold wpOp
      simp only [h0, hwa, if_true]
      left
      exact Oper.wp_mono (fun a' w' ⟨h1, lo', hi', h2, h3, h4⟩ => ⟨h1, lo', hi', h2, h3, miy_sound hs hQ l (i + 1) _ _ _ _ _ hl' hB' h4⟩) (hK w hw)
theorem region_miy {id : Nat} {a : Act} {w : World} {l : List Oper} (lo hi : Nat) (hm : P.follows .mixedOrders = true) (hB : Region.lexB .any l.toArray = true) (hQ : ∀ c a d v w, Q (.panic c) (a.put d v) w → Q (.panic c) a w)
    (h : wpMiy P l.toArray Q l 0 (Array.replicate l.length false) a lo hi w) : (Code.region id l.toArray true).wp P Q a w := by
  simp only [Region.lexB, Bool.and_eq_true] at hB
  refine wp_region_any hm ?_
  have h2 := miy_sound hB.1 hQ l 0 (Array.replicate l.length false) a lo hi w (by simp) (by simpa using hB.2) h
  have h3 := (h2.world (EX.of ((Below.refl _ _).drew : Ext w w.drew))).any
  simpa using h3
section
variable {o : Oper} {rest : List Oper} {k lo hi : Nat} {listed : Array Bool} {a : Act} {W : World}
theorem miy_nil (h : ∀ w, EX lo hi W w → Q .normal a w) : wpMiy P ops Q [] k listed a lo hi W := h
theorem miy_skip (hw : Region.wanted o (yielded ops a.tmps) = false) (hn : wpMiy P ops Q rest (k + 1) (listed.setIfInBounds k true) (a.put o.dst undef) lo hi W) : wpMiy P ops Q (o :: rest) k listed a lo hi W :=
  .inl ⟨undef, .inr ⟨hw, rfl⟩, hn⟩
theorem miy_skip_t {j d : Nat} {v : Value} (hg : o.guard = some (j, true)) (hd : (ops[j]?).bind (·.dst) = some d) (hv : a.tmps.toList[d]? = some v) (hb : v = .bool false) (hn : wpMiy P ops Q rest (k + 1) (listed.setIfInBounds k true) (a.put o.dst undef) lo hi W) : wpMiy P ops Q (o :: rest) k listed a lo hi W :=
  miy_skip (by simp [Region.wanted, hg, yields_bool hd hv hb]) hn
theorem miy_skip_f {j d : Nat} {v : Value} (hg : o.guard = some (j, false)) (hd : (ops[j]?).bind (·.dst) = some d) (hv : a.tmps.toList[d]? = some v) (hb : v = .bool true) (hn : wpMiy P ops Q rest (k + 1) (listed.setIfInBounds k true) (a.put o.dst undef) lo hi W) : wpMiy P ops Q (o :: rest) k listed a lo hi W :=
  miy_skip (by simp [Region.wanted, hg, yields_bool hd hv hb]) hn
theorem miy_skip_u {j d : Nat} {v : Value} {b : Bool} (hg : o.guard = some (j, b)) (hd : (ops[j]?).bind (·.dst) = some d) (hv : a.tmps.toList[d]? = some v) (hb : v = undef) (hn : wpMiy P ops Q rest (k + 1) (listed.setIfInBounds k true) (a.put o.dst undef) lo hi W) : wpMiy P ops Q (o :: rest) k listed a lo hi W :=
  miy_skip (by simp [Region.wanted, hg, yields_undef hd hv hb]) hn
theorem miy_take {v : Value} (hw : Region.wanted o (yielded ops a.tmps) = true) (h : ∀ w, EX lo hi W w → ∀ R : Value → Prop, R v → qUp P w w R ((execOp a.eval o).run P w))
    (hn : wpMiy P ops Q rest (k + 1) (listed.setIfInBounds k true) (a.put o.dst v) lo hi W) : wpMiy P ops Q (o :: rest) k listed a lo hi W :=
  .inl ⟨v, .inl ⟨hw, fun w hw => qUp_quiet (h w hw)⟩, hn⟩
theorem miy_alone (hr : Region.ready .any ops listed = [k]) (hw : Region.wanted o (yielded ops a.tmps) = true)
    (h : ∀ w, EX lo hi W w → ∀ K : Act → World → Prop, (∀ a' w' lo' hi', lo ≤ lo' → hi' ≤ hi → EX lo hi w w' → wpMiy P ops Q rest (k + 1) (listed.setIfInBounds k true) a' lo' hi' w' → K a' w') → o.wp P a w K Q) : wpMiy P ops Q (o :: rest) k listed a lo hi W :=
  .inr ⟨hr, hw, fun w hw => h w hw _ fun _ _ lo' hi' g1 g2 h1 h2 => ⟨h1, lo', hi', g1, g2, h2⟩⟩
end
end
end Go.Proofs.YtmkdihmmihpibaaDoor
namespace Go.Proofs.YtmkdihmmihpibaaDoor
open Go Go.RowKit Go.Proofs
set_option maxRecDepth 100000
theorem or_szI (a l : Int) (h : rightB a l = true) (hl : l < 16) : bits .or .i64 a (msk (l + 1) + 1) = a + szI (l + 1) := by
  obtain ⟨g1, g2, g3, g4, g5⟩ := right_bd h
  obtain ⟨n, rfl⟩ := Int.eq_ofNat_of_zero_le g3
  have e1 : msk (l + 1) + 1 = ((2 ^ (16 - (l + 1)).toNat : Nat) : Int) := by simp [msk]
  have e2 : szI (l + 1) = ((2 ^ (16 - (l + 1)).toNat : Nat) : Int) := by simp [szI]
  obtain ⟨k, hk⟩ : ∃ k, k = (16 - (l + 1)).toNat := ⟨_, rfl⟩
  have e3 : (16 - l).toNat = k + 1 := by omega
  rw [e1, e2, ← hk]
  have hk15 : k ≤ 15 := by omega
  have hp : 2 ^ k ≤ 2 ^ 15 := Nat.pow_le_pow_right (by omega) hk15
  have g6 : n % 2 ^ (k + 1) = 0 := by
    unfold szI at g5
    rw [e3] at g5
    exact_mod_cast g5
  have hn : n = 2 ^ (k + 1) * (n / 2 ^ (k + 1)) := by have := Nat.div_add_mod n (2 ^ (k + 1)); omega
  have hor : n ||| 2 ^ k = n + 2 ^ k := by
    rw [hn]
    exact (Nat.two_pow_add_eq_or_of_lt (Nat.pow_lt_pow_right (by omega) (by omega)) _).symm
  show IntKind.i64.wrap ((BitVec.ofInt 64 (n : Int) ||| BitVec.ofInt 64 ((2 ^ k : Nat) : Int)).toNat : Int) = _
  rw [BitVec.toNat_or, ofInt_i64 n (by omega), ofInt_i64 _ (by omega), hor, IntKind.wrap_i64]
  omega
def zeroP : Value := .agg #[.int .i64 0, .int .i64 0]
def halvesV (a l : Int) : Value :=
  if chk a l = 0 then (if l = 16 then .tuple #[zeroP, zeroP, .int .i64 3] else .tuple #[.agg #[.int .i64 a, .int .i64 (l + 1)], .agg #[.int .i64 (a + szI (l + 1)), .int .i64 (l + 1)], .int .i64 0])
  else .tuple #[zeroP, zeroP, .int .i64 (chk a l)]
set_option maxHeartbeats 2000000 in
set_option maxRecDepth 100000 in
theorem halves_any (a l : Int) (w : World) :
    Calls Tryd.prog 17 #[.agg #[.int .i64 a, .int .i64 l]] w fun e w' => e = .returned (halvesV a l) ∧ Ext w w' := by
  have hc := check_any a l
  unfold halvesV zeroP
  by_cases h0 : chk a l = 0
  · have hR : rightB a l = true := by simp [rightB, h0]
    obtain ⟨g1, g2, g3, g4, g5⟩ := right_bd hR
    rw [if_pos h0]
    rw [h0] at hc
    replace hc := Lib.hid hc
    clear h0
    by_cases h16 : l = 16
    · rw [if_pos h16]
      have h16I : (l == 16) = true := by simp [h16]
      clear h16
      go_enter Tryd.func17, Tryd.ntmps17
      go_wp2_with fail
      refine (hc.out _).mono ?_
      rintro e w1 ⟨rfl, hw1⟩
      obtain ⟨hcw1, hfw1⟩ := bcell hw1
      have hzw1 := bsize hw1
      (try simp only [World.size_alloc, World.size_setCell, World.size_drew, World.heap_drewN] at hcw1 hfw1 hzw1)
      go_wp2_with fail
      refine bodyPost_ret ?_ rfl ⟨rfl, Bel.bel (B := _) ?_⟩
      · simp [results, Tryd.results17, go_sem, hcw1]
      · (repeat (first | with_reducible assumption | with_reducible exact Bel.refl _ | with_reducible refine Bel.alloc ?_ _ | with_reducible refine Bel.drewN ?_ _ | with_reducible refine Bel.drew ?_ | (with_reducible refine Bel.setCell0 ?_ ?_ _; rotate_left; (first | omega | (simp; done) | (simp; omega))) | (with_reducible refine Bel.setCell ?_ (p := _) ?_ _; rotate_left; (first | (simp; done) | omega | (simp; omega))) | refine Bel.call ?_ (by assumption) | (refine EX.bel ?_ (by assumption) ?_; rotate_left; (first | omega | (simp; omega)))))
    · rw [if_neg h16]
      have h16I : (l == 16) = false := by simp [h16]
      have hor := or_szI a l hR (by omega)
      obtain ⟨z1, z2⟩ := msk_bd (l + 1) (by omega)
      have hwr : IntKind.i64.wrap (msk (l + 1) + 1) = msk (l + 1) + 1 := IntWalk.i64_in _ (by omega)
      have hmk := fun W => mask_any (l + 1) W (by omega) (by omega)
      replace hmk := Lib.hid hmk
      clear h16
      go_enter Tryd.func17, Tryd.ntmps17
      go_wp2_with fail
      refine (hc.out _).mono ?_
      rintro e w1 ⟨rfl, hw1⟩
      obtain ⟨hcw1, hfw1⟩ := bcell hw1
      have hzw1 := bsize hw1
      (try simp only [World.size_alloc, World.size_setCell, World.size_drew, World.heap_drewN] at hcw1 hfw1 hzw1)
      have l1 : w.heap.size < w1.heap.size := by omega
      have l2 : w.heap.size + 1 < w1.heap.size := by omega
      have l3 : w.heap.size + 1 + 1 < w1.heap.size := by omega
      go_wp2_with fail
      refine region_miy (w.heap.size + 1) (w.heap.size + 3) (by kernel_rfl) (by kernel_rfl) (fun _ _ d _ _ h => by cases d <;> exact h) ?_
      repeat (first | ((first | refine miy_skip_t rfl rfl rfl (by with_reducible rfl) ?_ | refine miy_skip_f rfl rfl rfl (by with_reducible rfl) ?_ | refine miy_skip_u rfl rfl rfl (by with_reducible rfl) ?_); simp only [Act.put, List.setIfInBounds_toArray, List.set_cons_zero, List.set_cons_succ]) | (apply miy_take; (first | exact want_0 rfl | exact want_b rfl rfl rfl (by with_reducible rfl)); intro wq hwq R hR; ((have hcc := EX.lo hwq (by first | omega | (simp; omega) | (simp; done)); have hcd := EX.hi hwq; (try simp only [World.size_alloc, World.size_setCell, World.size_drew, World.heap_drewN] at hcc hcd)); go_simp; first | exact hR | ((go_at_call 26; exact mcall_same (hmk.out _) hR))); simp only [Act.put, List.setIfInBounds_toArray, List.set_cons_zero, List.set_cons_succ]))
      refine miy_alone (by kernel_rfl) (by first | exact want_0 rfl | exact want_b rfl rfl rfl (by with_reducible rfl)) (fun w2 hw2 K hK => ?_)
      have hzw2 := hw2.size
      have hlw2 := EX.lo hw2 (by first | omega | (simp; omega) | (simp; done))
      have hhw2 := EX.hi hw2
      have hfw2 := hw2.free
      (try simp only [World.size_alloc, World.size_setCell, World.size_drew, World.heap_drewN] at hzw2 hlw2 hhw2 hfw2)
      (try have l0w2 : w.heap.size < w2.heap.size := by omega)
      (try have l1w2 : w.heap.size + 1 < w2.heap.size := by omega)
      (try have l2w2 : w.heap.size + 1 + 1 < w2.heap.size := by omega)
      (try have l3w2 : w.heap.size + 1 + 1 + 1 < w2.heap.size := by omega)
      obtain ⟨u0w2, hu0w2⟩ := hw2.some (b := w.heap.size + 1) (o := 0) (v := _) (by go_simp; rfl)
      obtain ⟨u1w2, hu1w2⟩ := hw2.some (b := w.heap.size + 1) (o := 1) (v := _) (by go_simp; rfl)
      go_simp
      refine hK _ _ (w.heap.size + 2) (w.heap.size + 3) (by omega) (by omega) (by repeat (first | exact EX.refl _ | refine EX.setCell ?_ (by omega) (by omega) _)) ?_
      clear hK K
      obtain ⟨v0, hv0⟩ := hw2.some (b := w.heap.size + 1 + 1) (o := 0) (v := _) (by go_simp; rfl)
      obtain ⟨v1, hv1⟩ := hw2.some (b := w.heap.size + 1 + 1) (o := 1) (v := _) (by go_simp; rfl)
      refine miy_alone (by kernel_rfl) (by first | exact want_0 rfl | exact want_b rfl rfl rfl (by with_reducible rfl)) (fun w3 hw3 K hK => ?_)
      have hzw3 := hw3.size
      have hlw3 := EX.lo hw3 (by first | omega | (simp; omega) | (simp; done))
      have hhw3 := EX.hi hw3
      have hfw3 := hw3.free
      (try simp only [World.size_alloc, World.size_setCell, World.size_drew, World.heap_drewN] at hzw3 hlw3 hhw3 hfw3)
      (try have l0w3 : w.heap.size < w3.heap.size := by omega)
      (try have l1w3 : w.heap.size + 1 < w3.heap.size := by omega)
      (try have l2w3 : w.heap.size + 1 + 1 < w3.heap.size := by omega)
      (try have l3w3 : w.heap.size + 1 + 1 + 1 < w3.heap.size := by omega)
      obtain ⟨u0w3, hu0w3⟩ := hw3.some (b := w.heap.size + 1 + 1) (o := 0) (v := _) (by go_simp; rfl)
      obtain ⟨u1w3, hu1w3⟩ := hw3.some (b := w.heap.size + 1 + 1) (o := 1) (v := _) (by go_simp; rfl)
      go_simp
      refine hK _ _ (w.heap.size + 3) (w.heap.size + 3) (by omega) (by omega) (by repeat (first | exact EX.refl _ | refine EX.setCell ?_ (by omega) (by omega) _)) ?_
      clear hK K
      repeat (first | ((first | refine miy_skip_t rfl rfl rfl (by with_reducible rfl) ?_ | refine miy_skip_f rfl rfl rfl (by with_reducible rfl) ?_ | refine miy_skip_u rfl rfl rfl (by with_reducible rfl) ?_); simp only [Act.put, List.setIfInBounds_toArray, List.set_cons_zero, List.set_cons_succ]) | (apply miy_take; (first | exact want_0 rfl | exact want_b rfl rfl rfl (by with_reducible rfl)); intro wq hwq R hR; ((have hcc := EX.lo hwq (by first | omega | (simp; omega) | (simp; done)); have hcd := EX.hi hwq; (try simp only [World.size_alloc, World.size_setCell, World.size_drew, World.heap_drewN] at hcc hcd)); go_simp; first | exact hR | (fail)); simp only [Act.put, List.setIfInBounds_toArray, List.set_cons_zero, List.set_cons_succ]))
      refine miy_nil ?_
      intro w4 hw4
      have hzw4 := hw4.size
      have hlw4 := EX.lo hw4 (by first | omega | (simp; omega) | (simp; done))
      have hhw4 := EX.hi hw4
      have hfw4 := hw4.free
      (try simp only [World.size_alloc, World.size_setCell, World.size_drew, World.heap_drewN] at hzw4 hlw4 hhw4 hfw4)
      (try have l0w4 : w.heap.size < w4.heap.size := by omega)
      (try have l1w4 : w.heap.size + 1 < w4.heap.size := by omega)
      (try have l2w4 : w.heap.size + 1 + 1 < w4.heap.size := by omega)
      (try have l3w4 : w.heap.size + 1 + 1 + 1 < w4.heap.size := by omega)
      go_wp2_with fail
      refine bodyPost_ret ?_ rfl ⟨rfl, Bel.bel (B := _) ?_⟩
      · simp [results, Tryd.results17, go_sem, hlw4, hlw3, hu0w2, hu1w2, hu0w3, hu1w3]
      · (repeat (first | with_reducible assumption | with_reducible exact Bel.refl _ | with_reducible refine Bel.alloc ?_ _ | with_reducible refine Bel.drewN ?_ _ | with_reducible refine Bel.drew ?_ | (with_reducible refine Bel.setCell0 ?_ ?_ _; rotate_left; (first | omega | (simp; done) | (simp; omega))) | (with_reducible refine Bel.setCell ?_ (p := _) ?_ _; rotate_left; (first | (simp; done) | omega | (simp; omega))) | refine Bel.call ?_ (by assumption) | (refine EX.bel ?_ (by assumption) ?_; rotate_left; (first | omega | (simp; omega)))))
  · rw [if_neg h0]
    replace h0 : (chk a l != 0) = true := by simpa using h0
    obtain ⟨r, hr⟩ : ∃ r, r = chk a l := ⟨_, rfl⟩
    rw [← hr] at hc h0 ⊢
    clear hr
    replace hc := Lib.hid hc
    go_enter Tryd.func17, Tryd.ntmps17
    go_wp2_with fail
    refine (hc.out _).mono ?_
    rintro e w1 ⟨rfl, hw1⟩
    obtain ⟨hcw1, hfw1⟩ := bcell hw1
    have hzw1 := bsize hw1
    (try simp only [World.size_alloc, World.size_setCell, World.size_drew, World.heap_drewN] at hcw1 hfw1 hzw1)
    go_wp2_with fail
    refine bodyPost_ret ?_ rfl ⟨rfl, Bel.bel (B := _) ?_⟩
    · simp [results, Tryd.results17, go_sem, hcw1]
    · (repeat (first | with_reducible assumption | with_reducible exact Bel.refl _ | with_reducible refine Bel.alloc ?_ _ | with_reducible refine Bel.drewN ?_ _ | with_reducible refine Bel.drew ?_ | (with_reducible refine Bel.setCell0 ?_ ?_ _; rotate_left; (first | omega | (simp; done) | (simp; omega))) | (with_reducible refine Bel.setCell ?_ (p := _) ?_ _; rotate_left; (first | (simp; done) | omega | (simp; omega))) | refine Bel.call ?_ (by assumption) | (refine EX.bel ?_ (by assumption) ?_; rotate_left; (first | omega | (simp; omega)))))
end Go.Proofs.YtmkdihmmihpibaaDoor
namespace Go.Proofs.YtmkdihmmihpibaaDoor
open Go Go.RowKit
/-- What digits up to a mark say, and what is behind it. -/
def numF (c : UInt8) : Nat → List UInt8 → Int → Int × List UInt8
  | 0, _, n => (n, [])
  | _ + 1, [], n => (n, [])
  | k + 1, b :: l, n => if b = c then (n, l) else numF c k l (10 * n + ((b.toNat : Int) - 48) % 256)
theorem sizeOf_p (n : Int) (h0 : 0 ≤ n) (h1 : n ≤ 16) : PSpec Tryd.prog 25 [.v (.int .i64 n)] (.v (.int .i64 (szI n))) := pspec_flat (fnok_of Tryd.func25 (by kernel_rfl) rfl) (by intro d hd; simp at hd; (repeat (first | (obtain rfl := hd; rfl) | (rcases hd with rfl | hd; · rfl)))) rfl rfl (fun w => (sizeOf_any n w h0 h1).mono fun _ _ h => ⟨h.1, h.2 ▸ Below.refl _ _⟩)
set_option maxRecDepth 100000 in
theorem upOf_p (p : Pfx) (hr : p.right = true) (hl : p.len ≠ 0) : PSpec Tryd.prog 19 [.agg (encP p)] (.agg (encP ⟨p.at_ - p.at_ % szI (p.len - 1), p.len - 1⟩)) := by
  obtain ⟨h1, h2, h3, h4⟩ := div_bd hr
  have hs := sizeOf_p (p.len - 1) (by omega) (by omega)
  have hb := szI_bd (n := p.len - 1) (by omega)
  have hw : IntKind.i64.wrap (p.len - 1) = p.len - 1 := by rw [IntKind.wrap_i64]; omega
  have hne : szI (p.len - 1) ≠ 0 := by omega
  have hq : IntKind.i64.wrap (IntKind.i64.wrap (p.at_.tdiv (szI (p.len - 1))) * szI (p.len - 1)) = p.at_ - p.at_ % szI (p.len - 1) := by
    generalize szI (p.len - 1) = z at *
    rw [Int.tdiv_eq_ediv_of_nonneg h1]
    have hd := Int.mul_ediv_add_emod p.at_ z
    have h5 := Int.emod_nonneg p.at_ hne
    have h6 := Int.ediv_nonneg h1 (show (0 : Int) ≤ z by omega)
    have h7 : p.at_ / z ≤ p.at_ := Int.ediv_le_self _ h1
    have e1 : IntKind.i64.wrap (p.at_ / z) = p.at_ / z := by rw [IntKind.wrap_i64]; omega
    have e2 : p.at_ / z * z = p.at_ - p.at_ % z := by rw [Int.mul_comm]; omega
    rw [e1, e2, IntKind.wrap_i64]
    have := Int.emod_lt_of_pos p.at_ (show (0 : Int) < z by omega)
    omega
  clear hb h1 h2 h3 h4
  generalize szI (p.len - 1) = z at *
  replace hl := Lib.hid hl
  refine ps_i tab_ok mixed Tryd.func19 rfl Tryd.ntmps19 Tryd.results19 (by kernel_rfl) ?_
  repeat' (first | (with_reducible refine And.intro ?_ ?_) | (with_reducible refine gK_i (fun _ => ?_) (fun _ => ?_)) | (with_reducible refine condS_i (fun _ => ?_) (fun _ => ?_)) | (with_reducible refine drw_i (by kernel_rfl)) | simp -dsimp only [go_sem, seval, *, encP, hw, hne, hq, undef] | ((with_reducible refine opK_c ?_); simp -dsimp only [go_sem, seval, encP, hw, hne, hq, undef]; first | refine callK_r (by first | assumption | exact hs) (by first | exact .inl rfl | exact .inr rfl) ?_ | (refine callK_i (by assumption) ?_ ?_ ?_; (solve | (repeat (first | exact DLe.refl _ | exact DLe.nil _ | (refine DLe.tup ?_) | (refine DLe.agg ?_ rfl) | exact trivial | (refine And.intro ?_ ?_)))); (solve | exact .inl rfl | exact .inr rfl))) | fail | omega | exact decide_eq_true (by omega) | exact DLe.refl _)
  all_goals exact (by repeat (first | exact DLe.refl _ | exact DLe.nil _ | (refine DLe.tup ?_) | (refine DLe.agg ?_ rfl) | exact trivial | (refine And.intro ?_ ?_)))
/-- Halves' answer. -/
def halfP (p : Pfx) : Pfx × Pfx × Int :=
  if chk p.at_ p.len ≠ 0 then (⟨0, 0⟩, ⟨0, 0⟩, chk p.at_ p.len) else if p.len = 16 then (⟨0, 0⟩, ⟨0, 0⟩, 3) else (⟨p.at_, p.len + 1⟩, ⟨p.at_ + szI (p.len + 1), p.len + 1⟩, 0)
theorem halves_v (p : Pfx) : halvesV p.at_ p.len = .tuple #[.agg #[.int .i64 (halfP p).1.at_, .int .i64 (halfP p).1.len], .agg #[.int .i64 (halfP p).2.1.at_, .int .i64 (halfP p).2.1.len], .int .i64 (halfP p).2.2] := by
  unfold halvesV halfP zeroP
  by_cases h : chk p.at_ p.len = 0
  · rw [if_pos h, if_neg (show ¬ chk p.at_ p.len ≠ 0 by simpa using h)]
    by_cases h2 : p.len = 16
    · rw [if_pos h2, if_pos h2]
    · rw [if_neg h2, if_neg h2]
  · rw [if_neg h, if_pos h]
theorem halves_p (p : Pfx) : PSpec Tryd.prog 17 [.agg (encP p)] (.tup [.agg (encP (halfP p).1), .agg (encP (halfP p).2.1), .v (.int .i64 (halfP p).2.2)]) := pspec_flat (fnok_of Tryd.func17 (by kernel_rfl) rfl) (by intro d hd; simp at hd; (repeat (first | (obtain rfl := hd; rfl) | (rcases hd with rfl | hd; · rfl)))) rfl rfl (fun w => (halves_any p.at_ p.len w).mono fun _ _ h => ⟨by rw [h.1, halves_v]; rfl, h.2⟩)
end Go.Proofs.YtmkdihmmihpibaaDoor
namespace Go.Proofs.YtmkdihmmihpibaaDoor
open Go Go.RowKit
set_option maxRecDepth 100000
/-- A small number's digits. -/
def d3 (n : Nat) : List UInt8 :=
  if n < 10 then [UInt8.ofNat (48 + n)] else if n < 100 then [UInt8.ofNat (48 + n / 10), UInt8.ofNat (48 + n % 10)] else [UInt8.ofNat (48 + n / 100), UInt8.ofNat (48 + n / 10 % 10), UInt8.ofNat (48 + n % 10)]
theorem dS_3 {n : Nat} (h : n < 1000) : dS n = d3 n := by
  unfold d3
  by_cases h1 : n < 10
  · rw [if_pos h1, dS_small h1]
  · rw [if_neg h1, dS_step h1]
    by_cases h2 : n < 100
    · rw [if_pos h2, dS_small (by omega)]; rfl
    · rw [if_neg h2, dS_step (by omega), dS_small (by omega)]
      rw [Nat.div_div_eq_div_mul]; rfl
theorem d3_atoi : ∀ n < 256, Lib.atoi (d3 n) = some (n : Int) := by decide
theorem d3_dig : ∀ n < 256, (d3 n).all (fun b => decide (48 ≤ b.toNat) && decide (b.toNat ≤ 57)) = true ∧ (d3 n).length ≤ 3 ∧ d3 n ≠ [] := by decide
theorem d3_num : ∀ n < 256, (d3 n).foldl (fun (m : Int) b => 10 * m + ((b.toNat : Int) - 48) % 256) 0 = (n : Int) := by decide
theorem d3_no {n : Nat} (h : n < 256) {c : UInt8} (hc : c.toNat < 48 ∨ 57 < c.toNat) : ∀ b ∈ d3 n, b ≠ c := fun b hb e => by
  have := List.all_eq_true.1 (d3_dig n h).1 b hb
  simp only [Bool.and_eq_true, decide_eq_true_eq] at this
  rw [e] at this
  omega
theorem numF_mark {c : UInt8} {r : List UInt8} : ∀ (a : List UInt8) (f : Nat) (n : Int), (∀ b ∈ a, b ≠ c) → a.length < f → numF c f (a ++ c :: r) n = (a.foldl (fun (m : Int) b => 10 * m + ((b.toNat : Int) - 48) % 256) n, r)
  | [], f + 1, n, _, _ => by simp [numF]
  | b :: a, f + 1, n, hb, hf => by
    rw [List.cons_append, numF, if_neg (hb b (by simp)), numF_mark a f _ (fun x hx => hb x (by simp [hx])) (by simpa using hf)]
    rfl
theorem numF_end {c : UInt8} : ∀ (a : List UInt8) (f : Nat) (n : Int), (∀ b ∈ a, b ≠ c) → a.length ≤ f → numF c f a n = (a.foldl (fun (m : Int) b => 10 * m + ((b.toNat : Int) - 48) % 256) n, [])
  | [], 0, n, _, _ => rfl
  | [], f + 1, n, _, _ => rfl
  | b :: a, f + 1, n, hb, hf => by
    rw [numF, if_neg (hb b (by simp)), numF_end a f _ (fun x hx => hb x (by simp [hx])) (by simpa using hf)]
    rfl
/-- What PrefixFrom tries. -/
def tryP (l : List UInt8) : Pfx := ⟨256 * (numF 46 6 l 0).1 + (numF 47 6 (numF 46 6 l 0).2 0).1, (numF 0 6 (numF 47 6 (numF 46 6 l 0).2 0).2 0).1⟩
theorem try_txt {p : Pfx} (hr : p.right = true) : tryP (txtP p) = p := by
  obtain ⟨h1, h2, h3, h4⟩ := div_bd hr
  obtain ⟨x, hx⟩ : ∃ x : Nat, p.at_ = x := ⟨p.at_.toNat, by omega⟩
  obtain ⟨z, hz⟩ : ∃ z : Nat, p.len = z := ⟨p.len.toNat, by omega⟩
  have ex : p.at_.toNat = x := by omega
  have ez : p.len.toNat = z := by omega
  have hh : x / 256 < 256 := by omega
  have hm : x % 256 < 256 := by omega
  have hz2 : z < 256 := by omega
  unfold tryP txtP
  rw [ex, ez, dS_3 (by omega), dS_3 (by omega), dS_3 (by omega)]
  rw [numF_mark _ 6 0 (d3_no hh (by decide)) (by have := (d3_dig _ hh).2.1; omega), d3_num _ hh]
  simp only
  rw [numF_mark _ 6 0 (d3_no hm (by decide)) (by have := (d3_dig _ hm).2.1; omega), d3_num _ hm]
  simp only
  rw [numF_end _ 6 0 (d3_no hz2 (by decide)) (by have := (d3_dig _ hz2).2.1; omega), d3_num _ hz2]
  cases p
  simp only [Pfx.mk.injEq] at *
  omega
/-- Read's answer. -/
def readF (l : List UInt8) : Pfx × Int := if (tryP l).right = true ∧ txtP (tryP l) = l then (tryP l, 0) else (⟨0, 0⟩, 1)
theorem readF_some {p : Pfx} (hp : p.right = true) : readF (txtP p) = (p, 0) := by
  unfold readF
  rw [try_txt hp, if_pos ⟨hp, rfl⟩]
theorem readF_none {l : List UInt8} (h : ∀ p : Pfx, p.right = true → txtP p ≠ l) : readF l = (⟨0, 0⟩, 1) := by
  unfold readF
  rw [if_neg (fun e => h _ e.1 e.2)]
end Go.Proofs.YtmkdihmmihpibaaDoor
namespace Go.Proofs.YtmkdihmmihpibaaDoor
open Go Go.RowKit
theorem index_mark {c : UInt8} {r : List UInt8} : ∀ (a : List UInt8), (∀ b ∈ a, b ≠ c) → Lib.indexByte (a ++ c :: r) c = a.length
  | [], _ => by unfold Lib.indexByte; simp
  | b :: a, h => by
    have ih := index_mark (c := c) (r := r) a (fun x hx => h x (by simp [hx]))
    rw [List.cons_append, Lib.indexByte, if_neg (by simpa using h b (by simp)), ih, if_neg (by simp), List.length_cons]
    omega
theorem cut_mark {a r : List UInt8} {c : UInt8} (h : ∀ b ∈ a, b ≠ c) : cutS (a ++ c :: r) c = (a, r, true) := by
  unfold cutS
  rw [index_mark a h, if_neg (by omega), Int.toNat_natCast]
  simp
theorem index_at : ∀ {l : List UInt8} {c : UInt8}, ¬ Lib.indexByte l c < 0 → l = l.take (Lib.indexByte l c).toNat ++ c :: l.drop ((Lib.indexByte l c).toNat + 1)
  | [], c, h => absurd (by unfold Lib.indexByte; decide) h
  | b :: l, c, h => by
    unfold Lib.indexByte at h ⊢
    by_cases hb : (b == c) = true
    · rw [if_pos hb]
      have : b = c := by simpa using hb
      simp [this]
    · rw [if_neg hb] at h ⊢
      by_cases h2 : (Lib.indexByte l c == -1) = true
      · rw [if_pos h2] at h; exact absurd (by decide) h
      · rw [if_neg h2] at h ⊢
        have hge := Lib.indexByte_ge l c
        have h3 : Lib.indexByte l c ≠ -1 := by simpa using h2
        have ih := index_at (l := l) (c := c) (by omega)
        have e : (Lib.indexByte l c + 1).toNat = (Lib.indexByte l c).toNat + 1 := by omega
        rw [e]
        simp only [List.take_succ_cons, List.drop_succ_cons, List.cons_append, List.cons.injEq, true_and]
        exact ih
theorem cut_found {l : List UInt8} {c : UInt8} (h : (cutS l c).2.2 = true) : l = (cutS l c).1 ++ c :: (cutS l c).2.1 := by
  unfold cutS at h ⊢
  split at h
  · cases h
  · rename_i h1
    rw [if_neg h1]
    exact index_at h1
/-- The small number that a word spells. -/
def okW (t : List UInt8) : Option Nat := match Lib.atoiAll t with | .ok v => if 0 ≤ v ∧ v < 256 ∧ dS v.toNat = t then some v.toNat else none | _ => none
theorem atoi_small {n : Nat} (h : n < 256) : Lib.atoiAll (dS n) = .ok (n : Int) := by
  rw [dS_3 (by omega), Lib.atoiAll_short _ (by have := (d3_dig n h).2.1; omega), d3_atoi n h]
  rfl
theorem okW_iff {t : List UInt8} {n : Nat} : okW t = some n ↔ n < 256 ∧ dS n = t := by
  unfold okW
  constructor
  · intro h
    split at h
    · split at h
      · rename_i v _ hv
        cases h
        exact ⟨by omega, hv.2.2⟩
      · cases h
    · cases h
  · rintro ⟨h, rfl⟩
    rw [atoi_small h]
    simp only
    rw [if_pos ⟨by omega, by omega, by rw [Int.toNat_natCast]⟩, Int.toNat_natCast]
theorem txt_nat {h m z : Nat} (hm : m < 256) : txtP ⟨((256 * h + m : Nat) : Int), (z : Int)⟩ = dS h ++ (46 :: (dS m ++ (47 :: dS z))) := by
  unfold txtP
  simp only [Int.toNat_natCast]
  rw [show (256 * h + m) / 256 = h by omega, show (256 * h + m) % 256 = m by omega]
theorem read_yes {l a : List UInt8} {h m z : Nat} (hm : m < 256) (h1 : cutS l 47 = (a, dS z, true)) (h2 : cutS a 46 = (dS h, dS m, true)) (hc : chk ((256 * h + m : Nat) : Int) (z : Int) = 0) : readF l = (⟨((256 * h + m : Nat) : Int), (z : Int)⟩, 0) := by
  have e1 := cut_found (l := l) (c := 47) (by rw [h1])
  have e2 := cut_found (l := a) (c := 46) (by rw [h2])
  rw [h1] at e1
  rw [h2] at e2
  simp only at e1 e2
  have : l = txtP ⟨((256 * h + m : Nat) : Int), (z : Int)⟩ := by rw [txt_nat hm, e1, e2]; simp
  rw [this]
  exact readF_some (by unfold Pfx.right rightB; simp only [hc]; rfl)
theorem read_no {l : List UInt8} (hn : ∀ (a : List UInt8) (h m z : Nat), h < 256 → m < 256 → z < 256 → cutS l 47 = (a, dS z, true) → cutS a 46 = (dS h, dS m, true) → chk ((256 * h + m : Nat) : Int) (z : Int) ≠ 0) : readF l = (⟨0, 0⟩, 1) := by
  refine readF_none fun p hp e => ?_
  obtain ⟨h1, h2, h3, h4⟩ := div_bd hp
  obtain ⟨x, hx⟩ : ∃ x : Nat, p.at_ = x := ⟨p.at_.toNat, by omega⟩
  obtain ⟨z, hz⟩ : ∃ z : Nat, p.len = z := ⟨p.len.toNat, by omega⟩
  have hpe : p = ⟨((256 * (x / 256) + x % 256 : Nat) : Int), (z : Int)⟩ := by
    cases p; simp only [Pfx.mk.injEq] at *; omega
  have hm : x % 256 < 256 := by omega
  have hh : x / 256 < 256 := by omega
  rw [hpe, txt_nat hm] at e
  have hno : ∀ b ∈ dS (x / 256) ++ (46 :: dS (x % 256)), b ≠ 47 := by
    intro b hb
    rcases List.mem_append.1 hb with hb | hb
    · rw [dS_3 (by omega)] at hb; exact d3_no hh (by decide) b hb
    · rcases List.mem_cons.1 hb with rfl | hb
      · decide
      · rw [dS_3 (by omega)] at hb; exact d3_no hm (by decide) b hb
  have c1 : cutS l 47 = (dS (x / 256) ++ (46 :: dS (x % 256)), dS z, true) := by
    rw [← e, ← cut_mark (r := dS z) hno]; simp
  have c2 : cutS (dS (x / 256) ++ (46 :: dS (x % 256))) 46 = (dS (x / 256), dS (x % 256), true) := cut_mark fun b hb => by
    rw [dS_3 (by omega)] at hb; exact d3_no hh (by decide) b hb
  refine hn _ _ _ _ hh hm (by omega) c1 c2 ?_
  rw [hpe] at hp
  unfold Pfx.right rightB at hp
  exact of_decide_eq_true (by simpa only [beq_iff_eq, decide_eq_true_iff] using hp)
end Go.Proofs.YtmkdihmmihpibaaDoor
namespace Go.Proofs.YtmkdihmmihpibaaDoor
open Go Go.RowKit
/-- How a word ends: no number; a number that is out of range, or spelt otherwise; a fine one. -/
theorem word_cases (t : List UInt8) : (∃ e, atoE t = e ∧ e = .nei ∧ okW t = none) ∨ (∃ v : Int, atoN t = v ∧ atoE t = .v .nilIface ∧ (v < 0 ∨ 256 ≤ v) ∧ okW t = none) ∨ (∃ v : Nat, atoN t = (v : Int) ∧ atoE t = .v .nilIface ∧ v < 256 ∧ okW t = if dS v = t then some v else none) := by
  unfold atoE atoN okW
  cases h : Lib.atoiAll t with
  | ok v =>
    right
    by_cases hv : 0 ≤ v ∧ v < 256
    · right
      refine ⟨v.toNat, by simp; omega, rfl, by omega, ?_⟩
      simp [hv.1, hv.2]
    · left
      refine ⟨v, rfl, rfl, by omega, ?_⟩
      simp only
      rw [if_neg (fun e => hv ⟨e.1, e.2.1⟩)]
  | range => exact .inl ⟨_, rfl, rfl, rfl⟩
  | _ => exact .inl ⟨_, rfl, rfl, rfl⟩
def fineW (F : Bool) (t0 t1 t2 : List UInt8) (k : Nat) : Bool := F && ([t0, t1, t2].take k).all fun t => (okW t).isSome
theorem fineW_next {F : Bool} {t0 t1 t2 t : List UInt8} {k : Nat} (h : [t0, t1, t2][k]? = some t) : fineW F t0 t1 t2 (k + 1) = (fineW F t0 t1 t2 k && (okW t).isSome) := by
  unfold fineW
  rw [take_snoc h, List.all_append]
  simp [Bool.and_assoc]
theorem or_256 {h m : Nat} (h1 : h < 256) (h2 : m < 256) : IntKind.i64.wrap ((BitVec.ofInt IntKind.i64.bits (IntKind.i64.wrap ((h : Int) * 2 ^ min 8 64)) ||| BitVec.ofInt IntKind.i64.bits (m : Int)).toNat : Int) = ((256 * h + m : Nat) : Int) := by
  have e0 : IntKind.i64.wrap ((h : Int) * 2 ^ min 8 64) = ((256 * h : Nat) : Int) := by
    rw [show (2 : Int) ^ min 8 64 = 256 by decide, IntKind.wrap_i64]; omega
  rw [e0]
  have e : (BitVec.ofInt 64 ((256 * h : Nat) : Int) ||| BitVec.ofInt 64 (m : Int)).toNat = 256 * h + m := by
    have e1 : (((256 * h : Nat) : Int) % ((2 ^ 64 : Nat) : Int)).toNat = 256 * h := by omega
    have e2 : ((m : Int) % ((2 ^ 64 : Nat) : Int)).toNat = m := by omega
    rw [BitVec.toNat_or, BitVec.toNat_ofInt, BitVec.toNat_ofInt, e1, e2]
    exact (Nat.two_pow_add_eq_or_of_lt (i := 8) h2 h).symm
  show IntKind.i64.wrap ((BitVec.ofInt 64 ((256 * h : Nat) : Int) ||| BitVec.ofInt 64 (m : Int)).toNat : Int) = _
  rw [e, IntKind.wrap_i64]; omega
theorem okN {t : List UInt8} {n : Nat} (h : okW t = some n) : n < 256 ∧ atoN t = (n : Int) := by
  obtain ⟨h1, rfl⟩ := okW_iff.1 h
  exact ⟨h1, by unfold atoN; rw [atoi_small h1]⟩
set_option maxRecDepth 100000 in
set_option maxHeartbeats 2000000 in
theorem read_p (l : List UInt8) (hl : l.length ≤ 281474976710656) : PSpec Tryd.prog 22 [.v (.string (bs l))] (.tup [.agg (encP (readF l).1), .v (.int .i64 (readF l).2)]) := by
  obtain ⟨R, hR⟩ : ∃ R, R = readF l := ⟨_, rfl⟩
  rw [← hR]
  replace hR := Lib.hid hR
  have hc1 := cut_p l 47 (by omega)
  have hl1 : (cutS l 47).1.length ≤ l.length ∧ (cutS l 47).2.1.length ≤ l.length := by unfold cutS; split <;> simp [Nat.min_le_right]
  obtain ⟨A, hA⟩ : ∃ A, A = (cutS l 47).1 := ⟨_, rfl⟩
  rw [← hA] at hl1 hc1
  have hc2 := cut_p A 46 (by omega)
  have hl2 : (cutS A 46).1.length ≤ A.length ∧ (cutS A 46).2.1.length ≤ A.length := by unfold cutS; split <;> simp [Nat.min_le_right]
  have hyes : ∀ h m z : Nat, m < 256 → (cutS l 47).2.2 = true → (cutS A 46).2.2 = true → okW (cutS A 46).1 = some h → okW (cutS A 46).2.1 = some m → okW (cutS l 47).2.1 = some z → chk ((256 * h + m : Nat) : Int) (z : Int) = 0 → R = (⟨((256 * h + m : Nat) : Int), (z : Int)⟩, 0) := fun h m z hm e1 e2 o1 o2 o3 hc => by
    rw [hR.out]
    refine read_yes (a := A) hm ?_ ?_ hc
    · rw [(okW_iff.1 o3).2, ← e1, hA]
    · rw [(okW_iff.1 o1).2, (okW_iff.1 o2).2, ← e2]
  have hno : (∀ h m z : Nat, (cutS l 47).2.2 = true → (cutS A 46).2.2 = true → okW (cutS A 46).1 = some h → okW (cutS A 46).2.1 = some m → okW (cutS l 47).2.1 = some z → chk ((256 * h + m : Nat) : Int) (z : Int) ≠ 0) → R = (⟨0, 0⟩, 1) := fun hh => by
    rw [hR.out]
    refine read_no fun a h m z b1 b2 b3 e1 e2 => ?_
    have ea : A = a := by rw [hA, e1]
    subst ea
    refine hh h m z (by rw [e1]) (by rw [e2]) (okW_iff.2 ⟨b1, ?_⟩) (okW_iff.2 ⟨b2, ?_⟩) (okW_iff.2 ⟨b3, ?_⟩)
    · rw [e2]
    · rw [e2]
    · rw [e1]
  generalize (cutS l 47).2.1 = t2 at *
  generalize (cutS l 47).2.2 = one at *
  generalize (cutS A 46).1 = t0 at *
  generalize (cutS A 46).2.1 = t1 at *
  generalize (cutS A 46).2.2 = two at *
  clear hA hR
  have ha : ∀ t ∈ [t0, t1, t2], t.length ≤ 281474976710656 := by
    intro t ht
    simp only [List.mem_cons, List.not_mem_nil, or_false] at ht
    rcases ht with rfl | rfl | rfl <;> omega
  clear hl1 hl2
  replace hyes := Lib.hid hyes
  replace hno := Lib.hid hno
  replace ha := Lib.hid ha
  have k1 : ByteArray.mk #[47] = bs [47] := rfl
  have k2 : ByteArray.mk #[46] = bs [46] := rfl
  obtain ⟨F, hF⟩ : ∃ F, F = (one && two) := ⟨_, rfl⟩
  have hfin : (one && two) = false → R = (⟨0, 0⟩, 1) := fun e => hno.out fun h m z e1 e2 => by rw [e1, e2] at e; cases e
  replace hF := Lib.hid hF
  refine ps_i tab_ok mixed Tryd.func22 rfl Tryd.ntmps22 Tryd.results22 (by kernel_rfl) ?_
  cases one
  all_goals
    have hF2 := hF.out
    simp only [Bool.false_and, Bool.true_and] at hF2
    repeat' (first | (with_reducible refine And.intro ?_ ?_) | (with_reducible refine gK_i (fun _ => ?_) (fun _ => ?_)) | (with_reducible refine condS_i (fun _ => ?_) (fun _ => ?_)) | (with_reducible refine drw_i (by kernel_rfl)) | simp -dsimp only [go_sem, seval, *, k1, k2, undef] | ((with_reducible refine opK_c ?_); simp -dsimp only [go_sem, seval, k1, k2, undef]; first | refine callK_r (by first | assumption | exact hc1 | exact hc2) (by first | exact .inl rfl | exact .inr rfl) ?_ | (refine callK_i (by assumption) ?_ ?_ ?_; (solve | (repeat (first | exact DLe.refl _ | exact DLe.nil _ | (refine DLe.tup ?_) | (refine DLe.agg ?_ rfl) | exact trivial | (refine And.intro ?_ ?_)))); (solve | exact .inl rfl | exact .inr rfl))) | fail | omega | exact decide_eq_true (by omega) | exact DLe.refl _)
    refine loopG tab_ok mixed (fun m e h => ∃ (k : Nat) (f : Bool), k ≤ 3 ∧ m = 3 - k ∧ f = fineW F t0 t1 t2 k ∧ e = [(37, .d (.v (.int .i64 k))), (36, .d (.agg [.v (.string (bs t0)), .v (.string (bs t1)), .v (.string (bs t2))])), (11, .d (.v (.bool f))), (10, .ptr 1 0), (3, .d (.v (.int .i64 0))), (2, .ptr 0 0)] ∧
      h = [.box 23 [.d (.v (.int .i64 0)), .d (.v (.int .i64 0))], .box 52 [.d (.v (.int .i64 (if 0 < k then atoN t0 else 0))), .d (.v (.int .i64 (if 1 < k then atoN t1 else 0))), .d (.v (.int .i64 (if 2 < k then atoN t2 else 0)))]]) _ _ _ ⟨0, _, by omega, rfl, hF2.symm.trans (by simp [fineW]), rfl, rfl⟩ (weak_forget _ (by simp) (by (try simp only [encP]); rfl) (by (repeat' (first | exact trivial | (refine ⟨rfl, ?_⟩)))) (by first | rfl | simp only [belowH, belowE, belowC, belowL, belowR, belowP, belowL_d, belowR_d, List.length_cons, List.length_nil, Nat.reduceAdd, Nat.reduceLT, decide_true, Bool.and_self, Bool.and_true]) (by first | rfl | simp only [belowH, belowE, belowC, belowL, belowR, belowP, belowL_d, belowR_d, List.length_cons, List.length_nil, Nat.reduceAdd, Nat.reduceLT, decide_true, Bool.and_self, Bool.and_true])) ?_
    rintro m e h ⟨k, f, hk, hm, hf, rfl, rfl⟩ C hC
    replace hm := Lib.hid hm
    replace hf := Lib.hid hf
    have hk4 : k = 0 ∨ k = 1 ∨ k = 2 ∨ k = 3 := by omega
    rcases hk4 with rfl | rfl | rfl | rfl
    · have hx := fineW_next (F := F) (k := 0) (show [t0, t1, t2][0]? = some t0 from rfl)
      have hat := atoi_p t0 (ha.out t0 (by simp))
      cases f with
      | false =>
        have hf2 : false = fineW F t0 t1 t2 (0 + 1) := by rw [hx, ← hf.out]; rfl
        replace hf2 := Lib.hid hf2
        replace hx := Lib.hid hx
        repeat' (first | (with_reducible refine And.intro ?_ ?_) | (with_reducible refine gK_i (fun _ => ?_) (fun _ => ?_)) | (with_reducible refine condS_i (fun _ => ?_) (fun _ => ?_)) | (with_reducible refine drw_i (by kernel_rfl)) | simp -dsimp only [go_sem, seval, *, undef] | ((with_reducible refine opK_c ?_); simp -dsimp only [go_sem, seval, undef]; first | refine callK_r (by first | assumption | exact hat) (by first | exact .inl rfl | exact .inr rfl) ?_ | (refine callK_i (by assumption) ?_ ?_ ?_; (solve | (repeat (first | exact DLe.refl _ | exact DLe.nil _ | (refine DLe.tup ?_) | (refine DLe.agg ?_ rfl) | exact trivial | (refine And.intro ?_ ?_)))); (solve | exact .inl rfl | exact .inr rfl))) | fail | omega | exact decide_eq_true (by omega) | exact DLe.refl _)
        exact hC _ _ _ _ _ (by have := hm.out; omega) ⟨0 + 1, false, by omega, rfl, hf2.out, rfl, rfl⟩ (weak_forget _ (by simp) (by (try simp only [encP]); rfl) (by (repeat' (first | exact trivial | (refine ⟨rfl, ?_⟩)))) (by first | rfl | simp only [belowH, belowE, belowC, belowL, belowR, belowP, belowL_d, belowR_d, List.length_cons, List.length_nil, Nat.reduceAdd, Nat.reduceLT, decide_true, Bool.and_self, Bool.and_true]) (by first | rfl | simp only [belowH, belowE, belowC, belowL, belowR, belowP, belowL_d, belowR_d, List.length_cons, List.length_nil, Nat.reduceAdd, Nat.reduceLT, decide_true, Bool.and_self, Bool.and_true]))
      | true =>
        have hfx : (okW t0).isSome = fineW F t0 t1 t2 (0 + 1) := by rw [hx, ← hf.out]; rfl
        replace hx := Lib.hid hx
        rcases word_cases t0 with ⟨ee, e1, rfl, e2⟩ | ⟨v, e1, e2, e3, e4⟩ | ⟨v, e1, e2, e3, e4⟩
        · rw [e2] at hfx
          rw [e1] at hat
          replace hfx := Lib.hid hfx
          replace e2 := Lib.hid e2
          replace e1 := Lib.hid e1
          repeat' (first | (with_reducible refine And.intro ?_ ?_) | (with_reducible refine gK_i (fun _ => ?_) (fun _ => ?_)) | (with_reducible refine condS_i (fun _ => ?_) (fun _ => ?_)) | (with_reducible refine drw_i (by kernel_rfl)) | simp -dsimp only [go_sem, seval, *, undef] | ((with_reducible refine opK_c ?_); simp -dsimp only [go_sem, seval, undef]; first | refine callK_r (by first | assumption | exact hat) (by first | exact .inl rfl | exact .inr rfl) ?_ | (refine callK_i (by assumption) ?_ ?_ ?_; (solve | (repeat (first | exact DLe.refl _ | exact DLe.nil _ | (refine DLe.tup ?_) | (refine DLe.agg ?_ rfl) | exact trivial | (refine And.intro ?_ ?_)))); (solve | exact .inl rfl | exact .inr rfl))) | fail | omega | exact decide_eq_true (by omega) | exact DLe.refl _)
          exact hC _ _ _ _ _ (by have := hm.out; omega) ⟨0 + 1, false, by omega, rfl, hfx.out, rfl, rfl⟩ (weak_forget _ (by simp) (by (try simp only [encP]); rfl) (by (repeat' (first | exact trivial | (refine ⟨rfl, ?_⟩)))) (by first | rfl | simp only [belowH, belowE, belowC, belowL, belowR, belowP, belowL_d, belowR_d, List.length_cons, List.length_nil, Nat.reduceAdd, Nat.reduceLT, decide_true, Bool.and_self, Bool.and_true]) (by first | rfl | simp only [belowH, belowE, belowC, belowL, belowR, belowP, belowL_d, belowR_d, List.length_cons, List.length_nil, Nat.reduceAdd, Nat.reduceLT, decide_true, Bool.and_self, Bool.and_true]))
        · rw [e4] at hfx
          rw [e2] at hat
          rw [← e1] at e3
          replace hfx := Lib.hid hfx
          replace e4 := Lib.hid e4
          replace e2 := Lib.hid e2
          replace e1 := Lib.hid e1
          rcases e3 with e3 | e3
          · have b1 : decide (atoN t0 ≥ 0) = false := by simp; omega
            repeat' (first | (with_reducible refine And.intro ?_ ?_) | (with_reducible refine gK_i (fun _ => ?_) (fun _ => ?_)) | (with_reducible refine condS_i (fun _ => ?_) (fun _ => ?_)) | (with_reducible refine drw_i (by kernel_rfl)) | simp -dsimp only [go_sem, seval, *, b1, undef] | ((with_reducible refine opK_c ?_); simp -dsimp only [go_sem, seval, b1, undef]; first | refine callK_r (by first | assumption | exact hat) (by first | exact .inl rfl | exact .inr rfl) ?_ | (refine callK_i (by assumption) ?_ ?_ ?_; (solve | (repeat (first | exact DLe.refl _ | exact DLe.nil _ | (refine DLe.tup ?_) | (refine DLe.agg ?_ rfl) | exact trivial | (refine And.intro ?_ ?_)))); (solve | exact .inl rfl | exact .inr rfl))) | fail | omega | exact decide_eq_true (by omega) | exact DLe.refl _)
            exact hC _ _ _ _ _ (by have := hm.out; omega) ⟨0 + 1, false, by omega, rfl, hfx.out, rfl, rfl⟩ (weak_forget _ (by simp) (by (try simp only [encP]); rfl) (by (repeat' (first | exact trivial | (refine ⟨rfl, ?_⟩)))) (by first | rfl | simp only [belowH, belowE, belowC, belowL, belowR, belowP, belowL_d, belowR_d, List.length_cons, List.length_nil, Nat.reduceAdd, Nat.reduceLT, decide_true, Bool.and_self, Bool.and_true]) (by first | rfl | simp only [belowH, belowE, belowC, belowL, belowR, belowP, belowL_d, belowR_d, List.length_cons, List.length_nil, Nat.reduceAdd, Nat.reduceLT, decide_true, Bool.and_self, Bool.and_true]))
          · have b1 : decide (atoN t0 ≥ 0) = true := by simp; omega
            have b2 : decide (atoN t0 < 256) = false := by simp; omega
            repeat' (first | (with_reducible refine And.intro ?_ ?_) | (with_reducible refine gK_i (fun _ => ?_) (fun _ => ?_)) | (with_reducible refine condS_i (fun _ => ?_) (fun _ => ?_)) | (with_reducible refine drw_i (by kernel_rfl)) | simp -dsimp only [go_sem, seval, *, b1, b2, undef] | ((with_reducible refine opK_c ?_); simp -dsimp only [go_sem, seval, b1, b2, undef]; first | refine callK_r (by first | assumption | exact hat) (by first | exact .inl rfl | exact .inr rfl) ?_ | (refine callK_i (by assumption) ?_ ?_ ?_; (solve | (repeat (first | exact DLe.refl _ | exact DLe.nil _ | (refine DLe.tup ?_) | (refine DLe.agg ?_ rfl) | exact trivial | (refine And.intro ?_ ?_)))); (solve | exact .inl rfl | exact .inr rfl))) | fail | omega | exact decide_eq_true (by omega) | exact DLe.refl _)
            exact hC _ _ _ _ _ (by have := hm.out; omega) ⟨0 + 1, false, by omega, rfl, hfx.out, rfl, rfl⟩ (weak_forget _ (by simp) (by (try simp only [encP]); rfl) (by (repeat' (first | exact trivial | (refine ⟨rfl, ?_⟩)))) (by first | rfl | simp only [belowH, belowE, belowC, belowL, belowR, belowP, belowL_d, belowR_d, List.length_cons, List.length_nil, Nat.reduceAdd, Nat.reduceLT, decide_true, Bool.and_self, Bool.and_true]) (by first | rfl | simp only [belowH, belowE, belowC, belowL, belowR, belowP, belowL_d, belowR_d, List.length_cons, List.length_nil, Nat.reduceAdd, Nat.reduceLT, decide_true, Bool.and_self, Bool.and_true]))
        · rw [e4] at hfx
          rw [e2] at hat
          have hit := itoa_p v (by omega)
          rw [← e1] at hit
          have b1 : decide (atoN t0 ≥ 0) = true := by simp; omega
          have b2 : decide (atoN t0 < 256) = true := by simp; omega
          have b3 : decide (bs (dS v) = bs t0) = decide (dS v = t0) := by rw [Bool.eq_iff_iff, decide_eq_true_iff, decide_eq_true_iff, bs_inj]
          have hfx2 : decide (dS v = t0) = fineW F t0 t1 t2 (0 + 1) := by rw [← hfx]; by_cases hh : dS v = t0 <;> simp [hh]
          replace hfx := Lib.hid hfx
          replace hfx2 := Lib.hid hfx2
          replace e4 := Lib.hid e4
          replace e2 := Lib.hid e2
          replace e1 := Lib.hid e1
          repeat' (first | (with_reducible refine And.intro ?_ ?_) | (with_reducible refine gK_i (fun _ => ?_) (fun _ => ?_)) | (with_reducible refine condS_i (fun _ => ?_) (fun _ => ?_)) | (with_reducible refine drw_i (by kernel_rfl)) | simp -dsimp only [go_sem, seval, *, b1, b2, b3, undef] | ((with_reducible refine opK_c ?_); simp -dsimp only [go_sem, seval, b1, b2, b3, undef]; first | refine callK_r (by first | assumption | exact hat | exact hit) (by first | exact .inl rfl | exact .inr rfl) ?_ | (refine callK_i (by assumption) ?_ ?_ ?_; (solve | (repeat (first | exact DLe.refl _ | exact DLe.nil _ | (refine DLe.tup ?_) | (refine DLe.agg ?_ rfl) | exact trivial | (refine And.intro ?_ ?_)))); (solve | exact .inl rfl | exact .inr rfl))) | fail | omega | exact decide_eq_true (by omega) | exact DLe.refl _)
          exact hC _ _ _ _ _ (by have := hm.out; omega) ⟨0 + 1, _, by omega, rfl, hfx2.out, rfl, rfl⟩ (weak_forget _ (by simp) (by (try simp only [encP]); rfl) (by (repeat' (first | exact trivial | (refine ⟨rfl, ?_⟩)))) (by first | rfl | simp only [belowH, belowE, belowC, belowL, belowR, belowP, belowL_d, belowR_d, List.length_cons, List.length_nil, Nat.reduceAdd, Nat.reduceLT, decide_true, Bool.and_self, Bool.and_true]) (by first | rfl | simp only [belowH, belowE, belowC, belowL, belowR, belowP, belowL_d, belowR_d, List.length_cons, List.length_nil, Nat.reduceAdd, Nat.reduceLT, decide_true, Bool.and_self, Bool.and_true]))
    · have hx := fineW_next (F := F) (k := 1) (show [t0, t1, t2][1]? = some t1 from rfl)
      have hat := atoi_p t1 (ha.out t1 (by simp))
      cases f with
      | false =>
        have hf2 : false = fineW F t0 t1 t2 (1 + 1) := by rw [hx, ← hf.out]; rfl
        replace hf2 := Lib.hid hf2
        replace hx := Lib.hid hx
        repeat' (first | (with_reducible refine And.intro ?_ ?_) | (with_reducible refine gK_i (fun _ => ?_) (fun _ => ?_)) | (with_reducible refine condS_i (fun _ => ?_) (fun _ => ?_)) | (with_reducible refine drw_i (by kernel_rfl)) | simp -dsimp only [go_sem, seval, *, undef] | ((with_reducible refine opK_c ?_); simp -dsimp only [go_sem, seval, undef]; first | refine callK_r (by first | assumption | exact hat) (by first | exact .inl rfl | exact .inr rfl) ?_ | (refine callK_i (by assumption) ?_ ?_ ?_; (solve | (repeat (first | exact DLe.refl _ | exact DLe.nil _ | (refine DLe.tup ?_) | (refine DLe.agg ?_ rfl) | exact trivial | (refine And.intro ?_ ?_)))); (solve | exact .inl rfl | exact .inr rfl))) | fail | omega | exact decide_eq_true (by omega) | exact DLe.refl _)
        exact hC _ _ _ _ _ (by have := hm.out; omega) ⟨1 + 1, false, by omega, rfl, hf2.out, rfl, rfl⟩ (weak_forget _ (by simp) (by (try simp only [encP]); rfl) (by (repeat' (first | exact trivial | (refine ⟨rfl, ?_⟩)))) (by first | rfl | simp only [belowH, belowE, belowC, belowL, belowR, belowP, belowL_d, belowR_d, List.length_cons, List.length_nil, Nat.reduceAdd, Nat.reduceLT, decide_true, Bool.and_self, Bool.and_true]) (by first | rfl | simp only [belowH, belowE, belowC, belowL, belowR, belowP, belowL_d, belowR_d, List.length_cons, List.length_nil, Nat.reduceAdd, Nat.reduceLT, decide_true, Bool.and_self, Bool.and_true]))
      | true =>
        have hfx : (okW t1).isSome = fineW F t0 t1 t2 (1 + 1) := by rw [hx, ← hf.out]; rfl
        replace hx := Lib.hid hx
        rcases word_cases t1 with ⟨ee, e1, rfl, e2⟩ | ⟨v, e1, e2, e3, e4⟩ | ⟨v, e1, e2, e3, e4⟩
        · rw [e2] at hfx
          rw [e1] at hat
          replace hfx := Lib.hid hfx
          replace e2 := Lib.hid e2
          replace e1 := Lib.hid e1
          repeat' (first | (with_reducible refine And.intro ?_ ?_) | (with_reducible refine gK_i (fun _ => ?_) (fun _ => ?_)) | (with_reducible refine condS_i (fun _ => ?_) (fun _ => ?_)) | (with_reducible refine drw_i (by kernel_rfl)) | simp -dsimp only [go_sem, seval, *, undef] | ((with_reducible refine opK_c ?_); simp -dsimp only [go_sem, seval, undef]; first | refine callK_r (by first | assumption | exact hat) (by first | exact .inl rfl | exact .inr rfl) ?_ | (refine callK_i (by assumption) ?_ ?_ ?_; (solve | (repeat (first | exact DLe.refl _ | exact DLe.nil _ | (refine DLe.tup ?_) | (refine DLe.agg ?_ rfl) | exact trivial | (refine And.intro ?_ ?_)))); (solve | exact .inl rfl | exact .inr rfl))) | fail | omega | exact decide_eq_true (by omega) | exact DLe.refl _)
          exact hC _ _ _ _ _ (by have := hm.out; omega) ⟨1 + 1, false, by omega, rfl, hfx.out, rfl, rfl⟩ (weak_forget _ (by simp) (by (try simp only [encP]); rfl) (by (repeat' (first | exact trivial | (refine ⟨rfl, ?_⟩)))) (by first | rfl | simp only [belowH, belowE, belowC, belowL, belowR, belowP, belowL_d, belowR_d, List.length_cons, List.length_nil, Nat.reduceAdd, Nat.reduceLT, decide_true, Bool.and_self, Bool.and_true]) (by first | rfl | simp only [belowH, belowE, belowC, belowL, belowR, belowP, belowL_d, belowR_d, List.length_cons, List.length_nil, Nat.reduceAdd, Nat.reduceLT, decide_true, Bool.and_self, Bool.and_true]))
        · rw [e4] at hfx
          rw [e2] at hat
          rw [← e1] at e3
          replace hfx := Lib.hid hfx
          replace e4 := Lib.hid e4
          replace e2 := Lib.hid e2
          replace e1 := Lib.hid e1
          rcases e3 with e3 | e3
          · have b1 : decide (atoN t1 ≥ 0) = false := by simp; omega
            repeat' (first | (with_reducible refine And.intro ?_ ?_) | (with_reducible refine gK_i (fun _ => ?_) (fun _ => ?_)) | (with_reducible refine condS_i (fun _ => ?_) (fun _ => ?_)) | (with_reducible refine drw_i (by kernel_rfl)) | simp -dsimp only [go_sem, seval, *, b1, undef] | ((with_reducible refine opK_c ?_); simp -dsimp only [go_sem, seval, b1, undef]; first | refine callK_r (by first | assumption | exact hat) (by first | exact .inl rfl | exact .inr rfl) ?_ | (refine callK_i (by assumption) ?_ ?_ ?_; (solve | (repeat (first | exact DLe.refl _ | exact DLe.nil _ | (refine DLe.tup ?_) | (refine DLe.agg ?_ rfl) | exact trivial | (refine And.intro ?_ ?_)))); (solve | exact .inl rfl | exact .inr rfl))) | fail | omega | exact decide_eq_true (by omega) | exact DLe.refl _)
            exact hC _ _ _ _ _ (by have := hm.out; omega) ⟨1 + 1, false, by omega, rfl, hfx.out, rfl, rfl⟩ (weak_forget _ (by simp) (by (try simp only [encP]); rfl) (by (repeat' (first | exact trivial | (refine ⟨rfl, ?_⟩)))) (by first | rfl | simp only [belowH, belowE, belowC, belowL, belowR, belowP, belowL_d, belowR_d, List.length_cons, List.length_nil, Nat.reduceAdd, Nat.reduceLT, decide_true, Bool.and_self, Bool.and_true]) (by first | rfl | simp only [belowH, belowE, belowC, belowL, belowR, belowP, belowL_d, belowR_d, List.length_cons, List.length_nil, Nat.reduceAdd, Nat.reduceLT, decide_true, Bool.and_self, Bool.and_true]))
          · have b1 : decide (atoN t1 ≥ 0) = true := by simp; omega
            have b2 : decide (atoN t1 < 256) = false := by simp; omega
            repeat' (first | (with_reducible refine And.intro ?_ ?_) | (with_reducible refine gK_i (fun _ => ?_) (fun _ => ?_)) | (with_reducible refine condS_i (fun _ => ?_) (fun _ => ?_)) | (with_reducible refine drw_i (by kernel_rfl)) | simp -dsimp only [go_sem, seval, *, b1, b2, undef] | ((with_reducible refine opK_c ?_); simp -dsimp only [go_sem, seval, b1, b2, undef]; first | refine callK_r (by first | assumption | exact hat) (by first | exact .inl rfl | exact .inr rfl) ?_ | (refine callK_i (by assumption) ?_ ?_ ?_; (solve | (repeat (first | exact DLe.refl _ | exact DLe.nil _ | (refine DLe.tup ?_) | (refine DLe.agg ?_ rfl) | exact trivial | (refine And.intro ?_ ?_)))); (solve | exact .inl rfl | exact .inr rfl))) | fail | omega | exact decide_eq_true (by omega) | exact DLe.refl _)
            exact hC _ _ _ _ _ (by have := hm.out; omega) ⟨1 + 1, false, by omega, rfl, hfx.out, rfl, rfl⟩ (weak_forget _ (by simp) (by (try simp only [encP]); rfl) (by (repeat' (first | exact trivial | (refine ⟨rfl, ?_⟩)))) (by first | rfl | simp only [belowH, belowE, belowC, belowL, belowR, belowP, belowL_d, belowR_d, List.length_cons, List.length_nil, Nat.reduceAdd, Nat.reduceLT, decide_true, Bool.and_self, Bool.and_true]) (by first | rfl | simp only [belowH, belowE, belowC, belowL, belowR, belowP, belowL_d, belowR_d, List.length_cons, List.length_nil, Nat.reduceAdd, Nat.reduceLT, decide_true, Bool.and_self, Bool.and_true]))
        · rw [e4] at hfx
          rw [e2] at hat
          have hit := itoa_p v (by omega)
          rw [← e1] at hit
          have b1 : decide (atoN t1 ≥ 0) = true := by simp; omega
          have b2 : decide (atoN t1 < 256) = true := by simp; omega
          have b3 : decide (bs (dS v) = bs t1) = decide (dS v = t1) := by rw [Bool.eq_iff_iff, decide_eq_true_iff, decide_eq_true_iff, bs_inj]
          have hfx2 : decide (dS v = t1) = fineW F t0 t1 t2 (1 + 1) := by rw [← hfx]; by_cases hh : dS v = t1 <;> simp [hh]
          replace hfx := Lib.hid hfx
          replace hfx2 := Lib.hid hfx2
          replace e4 := Lib.hid e4
          replace e2 := Lib.hid e2
          replace e1 := Lib.hid e1
          repeat' (first | (with_reducible refine And.intro ?_ ?_) | (with_reducible refine gK_i (fun _ => ?_) (fun _ => ?_)) | (with_reducible refine condS_i (fun _ => ?_) (fun _ => ?_)) | (with_reducible refine drw_i (by kernel_rfl)) | simp -dsimp only [go_sem, seval, *, b1, b2, b3, undef] | ((with_reducible refine opK_c ?_); simp -dsimp only [go_sem, seval, b1, b2, b3, undef]; first | refine callK_r (by first | assumption | exact hat | exact hit) (by first | exact .inl rfl | exact .inr rfl) ?_ | (refine callK_i (by assumption) ?_ ?_ ?_; (solve | (repeat (first | exact DLe.refl _ | exact DLe.nil _ | (refine DLe.tup ?_) | (refine DLe.agg ?_ rfl) | exact trivial | (refine And.intro ?_ ?_)))); (solve | exact .inl rfl | exact .inr rfl))) | fail | omega | exact decide_eq_true (by omega) | exact DLe.refl _)
          exact hC _ _ _ _ _ (by have := hm.out; omega) ⟨1 + 1, _, by omega, rfl, hfx2.out, rfl, rfl⟩ (weak_forget _ (by simp) (by (try simp only [encP]); rfl) (by (repeat' (first | exact trivial | (refine ⟨rfl, ?_⟩)))) (by first | rfl | simp only [belowH, belowE, belowC, belowL, belowR, belowP, belowL_d, belowR_d, List.length_cons, List.length_nil, Nat.reduceAdd, Nat.reduceLT, decide_true, Bool.and_self, Bool.and_true]) (by first | rfl | simp only [belowH, belowE, belowC, belowL, belowR, belowP, belowL_d, belowR_d, List.length_cons, List.length_nil, Nat.reduceAdd, Nat.reduceLT, decide_true, Bool.and_self, Bool.and_true]))
    · have hx := fineW_next (F := F) (k := 2) (show [t0, t1, t2][2]? = some t2 from rfl)
      have hat := atoi_p t2 (ha.out t2 (by simp))
      cases f with
      | false =>
        have hf2 : false = fineW F t0 t1 t2 (2 + 1) := by rw [hx, ← hf.out]; rfl
        replace hf2 := Lib.hid hf2
        replace hx := Lib.hid hx
        repeat' (first | (with_reducible refine And.intro ?_ ?_) | (with_reducible refine gK_i (fun _ => ?_) (fun _ => ?_)) | (with_reducible refine condS_i (fun _ => ?_) (fun _ => ?_)) | (with_reducible refine drw_i (by kernel_rfl)) | simp -dsimp only [go_sem, seval, *, undef] | ((with_reducible refine opK_c ?_); simp -dsimp only [go_sem, seval, undef]; first | refine callK_r (by first | assumption | exact hat) (by first | exact .inl rfl | exact .inr rfl) ?_ | (refine callK_i (by assumption) ?_ ?_ ?_; (solve | (repeat (first | exact DLe.refl _ | exact DLe.nil _ | (refine DLe.tup ?_) | (refine DLe.agg ?_ rfl) | exact trivial | (refine And.intro ?_ ?_)))); (solve | exact .inl rfl | exact .inr rfl))) | fail | omega | exact decide_eq_true (by omega) | exact DLe.refl _)
        exact hC _ _ _ _ _ (by have := hm.out; omega) ⟨2 + 1, false, by omega, rfl, hf2.out, rfl, rfl⟩ (weak_forget _ (by simp) (by (try simp only [encP]); rfl) (by (repeat' (first | exact trivial | (refine ⟨rfl, ?_⟩)))) (by first | rfl | simp only [belowH, belowE, belowC, belowL, belowR, belowP, belowL_d, belowR_d, List.length_cons, List.length_nil, Nat.reduceAdd, Nat.reduceLT, decide_true, Bool.and_self, Bool.and_true]) (by first | rfl | simp only [belowH, belowE, belowC, belowL, belowR, belowP, belowL_d, belowR_d, List.length_cons, List.length_nil, Nat.reduceAdd, Nat.reduceLT, decide_true, Bool.and_self, Bool.and_true]))
      | true =>
        have hfx : (okW t2).isSome = fineW F t0 t1 t2 (2 + 1) := by rw [hx, ← hf.out]; rfl
        replace hx := Lib.hid hx
        rcases word_cases t2 with ⟨ee, e1, rfl, e2⟩ | ⟨v, e1, e2, e3, e4⟩ | ⟨v, e1, e2, e3, e4⟩
        · rw [e2] at hfx
          rw [e1] at hat
          replace hfx := Lib.hid hfx
          replace e2 := Lib.hid e2
          replace e1 := Lib.hid e1
          repeat' (first | (with_reducible refine And.intro ?_ ?_) | (with_reducible refine gK_i (fun _ => ?_) (fun _ => ?_)) | (with_reducible refine condS_i (fun _ => ?_) (fun _ => ?_)) | (with_reducible refine drw_i (by kernel_rfl)) | simp -dsimp only [go_sem, seval, *, undef] | ((with_reducible refine opK_c ?_); simp -dsimp only [go_sem, seval, undef]; first | refine callK_r (by first | assumption | exact hat) (by first | exact .inl rfl | exact .inr rfl) ?_ | (refine callK_i (by assumption) ?_ ?_ ?_; (solve | (repeat (first | exact DLe.refl _ | exact DLe.nil _ | (refine DLe.tup ?_) | (refine DLe.agg ?_ rfl) | exact trivial | (refine And.intro ?_ ?_)))); (solve | exact .inl rfl | exact .inr rfl))) | fail | omega | exact decide_eq_true (by omega) | exact DLe.refl _)
          exact hC _ _ _ _ _ (by have := hm.out; omega) ⟨2 + 1, false, by omega, rfl, hfx.out, rfl, rfl⟩ (weak_forget _ (by simp) (by (try simp only [encP]); rfl) (by (repeat' (first | exact trivial | (refine ⟨rfl, ?_⟩)))) (by first | rfl | simp only [belowH, belowE, belowC, belowL, belowR, belowP, belowL_d, belowR_d, List.length_cons, List.length_nil, Nat.reduceAdd, Nat.reduceLT, decide_true, Bool.and_self, Bool.and_true]) (by first | rfl | simp only [belowH, belowE, belowC, belowL, belowR, belowP, belowL_d, belowR_d, List.length_cons, List.length_nil, Nat.reduceAdd, Nat.reduceLT, decide_true, Bool.and_self, Bool.and_true]))
        · rw [e4] at hfx
          rw [e2] at hat
          rw [← e1] at e3
          replace hfx := Lib.hid hfx
          replace e4 := Lib.hid e4
          replace e2 := Lib.hid e2
          replace e1 := Lib.hid e1
          rcases e3 with e3 | e3
          · have b1 : decide (atoN t2 ≥ 0) = false := by simp; omega
            repeat' (first | (with_reducible refine And.intro ?_ ?_) | (with_reducible refine gK_i (fun _ => ?_) (fun _ => ?_)) | (with_reducible refine condS_i (fun _ => ?_) (fun _ => ?_)) | (with_reducible refine drw_i (by kernel_rfl)) | simp -dsimp only [go_sem, seval, *, b1, undef] | ((with_reducible refine opK_c ?_); simp -dsimp only [go_sem, seval, b1, undef]; first | refine callK_r (by first | assumption | exact hat) (by first | exact .inl rfl | exact .inr rfl) ?_ | (refine callK_i (by assumption) ?_ ?_ ?_; (solve | (repeat (first | exact DLe.refl _ | exact DLe.nil _ | (refine DLe.tup ?_) | (refine DLe.agg ?_ rfl) | exact trivial | (refine And.intro ?_ ?_)))); (solve | exact .inl rfl | exact .inr rfl))) | fail | omega | exact decide_eq_true (by omega) | exact DLe.refl _)
            exact hC _ _ _ _ _ (by have := hm.out; omega) ⟨2 + 1, false, by omega, rfl, hfx.out, rfl, rfl⟩ (weak_forget _ (by simp) (by (try simp only [encP]); rfl) (by (repeat' (first | exact trivial | (refine ⟨rfl, ?_⟩)))) (by first | rfl | simp only [belowH, belowE, belowC, belowL, belowR, belowP, belowL_d, belowR_d, List.length_cons, List.length_nil, Nat.reduceAdd, Nat.reduceLT, decide_true, Bool.and_self, Bool.and_true]) (by first | rfl | simp only [belowH, belowE, belowC, belowL, belowR, belowP, belowL_d, belowR_d, List.length_cons, List.length_nil, Nat.reduceAdd, Nat.reduceLT, decide_true, Bool.and_self, Bool.and_true]))
          · have b1 : decide (atoN t2 ≥ 0) = true := by simp; omega
            have b2 : decide (atoN t2 < 256) = false := by simp; omega
            repeat' (first | (with_reducible refine And.intro ?_ ?_) | (with_reducible refine gK_i (fun _ => ?_) (fun _ => ?_)) | (with_reducible refine condS_i (fun _ => ?_) (fun _ => ?_)) | (with_reducible refine drw_i (by kernel_rfl)) | simp -dsimp only [go_sem, seval, *, b1, b2, undef] | ((with_reducible refine opK_c ?_); simp -dsimp only [go_sem, seval, b1, b2, undef]; first | refine callK_r (by first | assumption | exact hat) (by first | exact .inl rfl | exact .inr rfl) ?_ | (refine callK_i (by assumption) ?_ ?_ ?_; (solve | (repeat (first | exact DLe.refl _ | exact DLe.nil _ | (refine DLe.tup ?_) | (refine DLe.agg ?_ rfl) | exact trivial | (refine And.intro ?_ ?_)))); (solve | exact .inl rfl | exact .inr rfl))) | fail | omega | exact decide_eq_true (by omega) | exact DLe.refl _)
            exact hC _ _ _ _ _ (by have := hm.out; omega) ⟨2 + 1, false, by omega, rfl, hfx.out, rfl, rfl⟩ (weak_forget _ (by simp) (by (try simp only [encP]); rfl) (by (repeat' (first | exact trivial | (refine ⟨rfl, ?_⟩)))) (by first | rfl | simp only [belowH, belowE, belowC, belowL, belowR, belowP, belowL_d, belowR_d, List.length_cons, List.length_nil, Nat.reduceAdd, Nat.reduceLT, decide_true, Bool.and_self, Bool.and_true]) (by first | rfl | simp only [belowH, belowE, belowC, belowL, belowR, belowP, belowL_d, belowR_d, List.length_cons, List.length_nil, Nat.reduceAdd, Nat.reduceLT, decide_true, Bool.and_self, Bool.and_true]))
        · rw [e4] at hfx
          rw [e2] at hat
          have hit := itoa_p v (by omega)
          rw [← e1] at hit
          have b1 : decide (atoN t2 ≥ 0) = true := by simp; omega
          have b2 : decide (atoN t2 < 256) = true := by simp; omega
          have b3 : decide (bs (dS v) = bs t2) = decide (dS v = t2) := by rw [Bool.eq_iff_iff, decide_eq_true_iff, decide_eq_true_iff, bs_inj]
          have hfx2 : decide (dS v = t2) = fineW F t0 t1 t2 (2 + 1) := by rw [← hfx]; by_cases hh : dS v = t2 <;> simp [hh]
          replace hfx := Lib.hid hfx
          replace hfx2 := Lib.hid hfx2
          replace e4 := Lib.hid e4
          replace e2 := Lib.hid e2
          replace e1 := Lib.hid e1
          repeat' (first | (with_reducible refine And.intro ?_ ?_) | (with_reducible refine gK_i (fun _ => ?_) (fun _ => ?_)) | (with_reducible refine condS_i (fun _ => ?_) (fun _ => ?_)) | (with_reducible refine drw_i (by kernel_rfl)) | simp -dsimp only [go_sem, seval, *, b1, b2, b3, undef] | ((with_reducible refine opK_c ?_); simp -dsimp only [go_sem, seval, b1, b2, b3, undef]; first | refine callK_r (by first | assumption | exact hat | exact hit) (by first | exact .inl rfl | exact .inr rfl) ?_ | (refine callK_i (by assumption) ?_ ?_ ?_; (solve | (repeat (first | exact DLe.refl _ | exact DLe.nil _ | (refine DLe.tup ?_) | (refine DLe.agg ?_ rfl) | exact trivial | (refine And.intro ?_ ?_)))); (solve | exact .inl rfl | exact .inr rfl))) | fail | omega | exact decide_eq_true (by omega) | exact DLe.refl _)
          exact hC _ _ _ _ _ (by have := hm.out; omega) ⟨2 + 1, _, by omega, rfl, hfx2.out, rfl, rfl⟩ (weak_forget _ (by simp) (by (try simp only [encP]); rfl) (by (repeat' (first | exact trivial | (refine ⟨rfl, ?_⟩)))) (by first | rfl | simp only [belowH, belowE, belowC, belowL, belowR, belowP, belowL_d, belowR_d, List.length_cons, List.length_nil, Nat.reduceAdd, Nat.reduceLT, decide_true, Bool.and_self, Bool.and_true]) (by first | rfl | simp only [belowH, belowE, belowC, belowL, belowR, belowP, belowL_d, belowR_d, List.length_cons, List.length_nil, Nat.reduceAdd, Nat.reduceLT, decide_true, Bool.and_self, Bool.and_true]))
    · have c0 : (if 0 < 3 then atoN t0 else 0) = atoN t0 := rfl
      have c1 : (if 1 < 3 then atoN t1 else 0) = atoN t1 := rfl
      have c2 : (if 2 < 3 then atoN t2 else 0) = atoN t2 := rfl
      cases f with
      | false =>
        have hr : R = (⟨0, 0⟩, 1) := hno.out fun h m z e1 e2 o1 o2 o3 => by
          have h1 := hF.out
          rw [e2] at h1
          have h2 := hf.out
          have h3 : F = true := by rw [h1]; first | exact absurd e1 (by decide) | rfl
          rw [h3] at h2
          simp [fineW, o1, o2, o3] at h2
        rw [hr]
        repeat' (first | (with_reducible refine And.intro ?_ ?_) | (with_reducible refine gK_i (fun _ => ?_) (fun _ => ?_)) | (with_reducible refine condS_i (fun _ => ?_) (fun _ => ?_)) | (with_reducible refine drw_i (by kernel_rfl)) | simp -dsimp only [go_sem, seval, *, undef] | ((with_reducible refine opK_c ?_); simp -dsimp only [go_sem, seval, undef]; first | refine callK_r (by first | assumption | fail) (by first | exact .inl rfl | exact .inr rfl) ?_ | (refine callK_i (by assumption) ?_ ?_ ?_; (solve | (repeat (first | exact DLe.refl _ | exact DLe.nil _ | (refine DLe.tup ?_) | (refine DLe.agg ?_ rfl) | exact trivial | (refine And.intro ?_ ?_)))); (solve | exact .inl rfl | exact .inr rfl))) | fail | omega | exact decide_eq_true (by omega) | exact DLe.refl _)
        all_goals exact (by repeat (first | exact DLe.refl _ | exact DLe.nil _ | (refine DLe.tup ?_) | (refine DLe.agg ?_ rfl) | exact trivial | (refine And.intro ?_ ?_)))
      | true =>
        have h2 := hf.out
        have hFt : F = true := by
          cases F with
          | true => rfl
          | false => simp [fineW] at h2
        have h3 : (okW t0).isSome = true ∧ (okW t1).isSome = true ∧ (okW t2).isSome = true := by
          simp only [fineW, List.take_succ_cons, List.take_zero, List.all_cons, List.all_nil, Bool.and_true] at h2
          have h2 := h2.symm
          simp only [Bool.and_eq_true] at h2
          exact ⟨h2.2.1, h2.2.2.1, h2.2.2.2⟩
        obtain ⟨h, o1⟩ := Option.isSome_iff_exists.1 h3.1
        obtain ⟨m', o2⟩ := Option.isSome_iff_exists.1 h3.2.1
        obtain ⟨z, o3⟩ := Option.isSome_iff_exists.1 h3.2.2
        have n1 := okN o1
        have n2 := okN o2
        have n3 := okN o3
        have hor := or_256 n1.1 n2.1
        have hck := pcheck_p ⟨((256 * h + m' : Nat) : Int), (z : Int)⟩
        simp only [encP] at hck
        have hR3 : R = if chk ((256 * h + m' : Nat) : Int) (z : Int) = 0 then (⟨((256 * h + m' : Nat) : Int), (z : Int)⟩, 0) else (⟨0, 0⟩, 1) := by
          have h4 := hF.out
          rw [hFt] at h4
          simp only [Bool.false_and, Bool.true_and] at h4
          split
          · rename_i hc; exact (by first | exact absurd h4 (by decide) | exact hyes.out h m' z n2.1 rfl h4.symm o1 o2 o3 hc)
          · rename_i hc
            refine hno.out fun x y u _ _ p1 p2 p3 => ?_
            rw [o1] at p1
            rw [o2] at p2
            rw [o3] at p3
            cases p1
            cases p2
            cases p3
            exact hc
        have n1 := n1.2
        have n2 := n2.2
        have n3 := n3.2
        clear h2 h3 o1 o2 o3 hyes hno hf hfin hFt hF hF2
        generalize chk ((256 * h + m' : Nat) : Int) (z : Int) = E at *
        generalize ((256 * h + m' : Nat) : Int) = AA at *
        rw [hR3]
        by_cases hE : E = 0
        · rw [if_pos hE]
          subst hE
          replace hR3 := Lib.hid hR3
          repeat' (first | (with_reducible refine And.intro ?_ ?_) | (with_reducible refine gK_i (fun _ => ?_) (fun _ => ?_)) | (with_reducible refine condS_i (fun _ => ?_) (fun _ => ?_)) | (with_reducible refine drw_i (by kernel_rfl)) | simp -dsimp only [go_sem, seval, *, encP, hor, n1, n2, n3, undef] | ((with_reducible refine opK_c ?_); simp -dsimp only [go_sem, seval, encP, hor, n1, n2, n3, undef]; first | refine callK_r (by first | assumption | exact hck) (by first | exact .inl rfl | exact .inr rfl) ?_ | (refine callK_i (by assumption) ?_ ?_ ?_; (solve | (repeat (first | exact DLe.refl _ | exact DLe.nil _ | (refine DLe.tup ?_) | (refine DLe.agg ?_ rfl) | exact trivial | (refine And.intro ?_ ?_)))); (solve | exact .inl rfl | exact .inr rfl))) | fail | omega | exact decide_eq_true (by omega) | exact DLe.refl _)
          all_goals exact (by repeat (first | exact DLe.refl _ | exact DLe.nil _ | (refine DLe.tup ?_) | (refine DLe.agg ?_ rfl) | exact trivial | (refine And.intro ?_ ?_)))
        · rw [if_neg hE]
          have hE2 : (E != 0) = true := by simpa using hE
          replace hR3 := Lib.hid hR3
          repeat' (first | (with_reducible refine And.intro ?_ ?_) | (with_reducible refine gK_i (fun _ => ?_) (fun _ => ?_)) | (with_reducible refine condS_i (fun _ => ?_) (fun _ => ?_)) | (with_reducible refine drw_i (by kernel_rfl)) | simp -dsimp only [go_sem, seval, *, encP, hor, n1, n2, n3, hE2, undef] | ((with_reducible refine opK_c ?_); simp -dsimp only [go_sem, seval, encP, hor, n1, n2, n3, hE2, undef]; first | refine callK_r (by first | assumption | exact hck) (by first | exact .inl rfl | exact .inr rfl) ?_ | (refine callK_i (by assumption) ?_ ?_ ?_; (solve | (repeat (first | exact DLe.refl _ | exact DLe.nil _ | (refine DLe.tup ?_) | (refine DLe.agg ?_ rfl) | exact trivial | (refine And.intro ?_ ?_)))); (solve | exact .inl rfl | exact .inr rfl))) | fail | omega | exact decide_eq_true (by omega) | exact DLe.refl _)
          all_goals exact (by repeat (first | exact DLe.refl _ | exact DLe.nil _ | (refine DLe.tup ?_) | (refine DLe.agg ?_ rfl) | exact trivial | (refine And.intro ?_ ?_)))
end Go.Proofs.YtmkdihmmihpibaaDoor
namespace Go.Proofs.YtmkdihmmihpibaaDoor
open Go Go.RowKit
theorem choldsP (p : Pfx) (x : Int) : PSpec Tryd.prog 11 [.agg (encP p), .v (.int .i64 x)] (.v (.bool (holdB p.at_ p.len x))) := holdP_eq p x ▸ pspec_flat (fnok_of Tryd.func11 (by kernel_rfl) rfl) (by intro d hd; simp at hd; (repeat (first | (obtain rfl := hd; rfl) | (rcases hd with rfl | hd; · rfl)))) rfl rfl (fun w => holds_any _ _ _ _)
theorem cb_half : halfP ⟨256, 8⟩ = (⟨256, 9⟩, ⟨384, 9⟩, 0) := by kernel_rfl
theorem cb_up : upP ⟨384, 9⟩ = (⟨256, 8⟩, 0) := by kernel_rfl
def cbT : List UInt8 := [49, 46, 49, 50, 56, 47, 57]
theorem cb_txt : txtP ⟨384, 9⟩ = cbT := by
  unfold txtP
  rw [dS_3 (by decide), dS_3 (by decide), dS_3 (by decide)]
  rfl
theorem cb_right : (⟨384, 9⟩ : Pfx).right = true := by kernel_rfl
theorem cb_show : showP ⟨384, 9⟩ = (cbT, 0) := by
  unfold showP
  rw [if_neg (by decide), cb_txt]
theorem cb_read : readF cbT = (⟨384, 9⟩, 0) := by rw [← cb_txt]; exact readF_some cb_right
theorem cb_c1 : chk 256 8 = 0 := by kernel_rfl
theorem cb_c2 : chk 1 0 = 1 := by kernel_rfl
theorem cb_s : sizeI 256 8 = 256 := by kernel_rfl
theorem cb_m : meetP 256 8 384 9 = true := by kernel_rfl
theorem cb_i : insP 384 9 256 8 = true := by kernel_rfl
theorem cb_h : holdB 256 8 511 = true := by kernel_rfl
set_option maxRecDepth 100000 in
set_option maxHeartbeats 1000000 in
theorem cidrBegun_p : PSpec Tryd.prog 8 [] (.v (.bool true)) := by
  have h1 := halves_p ⟨256, 8⟩
  have h2 := up_p ⟨384, 9⟩
  have h3 := show_p ⟨384, 9⟩
  have h4 := read_p cbT (by decide)
  have h5 := check_p ⟨256, 8⟩
  have h6 := check_p ⟨1, 0⟩
  have h7 := size_p ⟨256, 8⟩
  have h8 := meets_p ⟨256, 8⟩ ⟨384, 9⟩
  have h9 := inside_p ⟨384, 9⟩ ⟨256, 8⟩
  have h10 := choldsP ⟨256, 8⟩ 511
  rw [cb_half] at h1
  rw [cb_up] at h2
  rw [cb_show] at h3
  rw [cb_read] at h4
  rw [show (⟨256, 8⟩ : Pfx).at_ = 256 from rfl, show (⟨256, 8⟩ : Pfx).len = 8 from rfl] at h5 h7 h8 h9 h10
  rw [show (⟨384, 9⟩ : Pfx).at_ = 384 from rfl, show (⟨384, 9⟩ : Pfx).len = 9 from rfl] at h8 h9
  rw [show (⟨1, 0⟩ : Pfx).at_ = 1 from rfl, show (⟨1, 0⟩ : Pfx).len = 0 from rfl] at h6
  rw [cb_c1] at h5
  rw [cb_c2] at h6
  rw [cb_s] at h7
  rw [cb_m] at h8
  rw [cb_i] at h9
  rw [cb_h] at h10
  simp only [encP] at h1 h2 h3 h4 h5 h6 h7 h8 h9 h10
  have ks : ByteArray.mk #[49, 46, 49, 50, 56, 47, 57] = bs cbT := rfl
  have ke : decide (bs cbT = bs cbT) = true := decide_eq_true rfl
  generalize bs cbT = T at *
  refine ps_i tab_ok mixed Tryd.func8 rfl Tryd.ntmps8 Tryd.results8 (by kernel_rfl) ?_
  repeat' (first | (with_reducible refine And.intro ?_ ?_) | (with_reducible refine gK_i (fun _ => ?_) (fun _ => ?_)) | (with_reducible refine condS_i (fun _ => ?_) (fun _ => ?_)) | (with_reducible refine drw_i (by kernel_rfl)) | simp -dsimp only [go_sem, seval, *, ks, ke, undef] | ((with_reducible refine opK_c ?_); simp -dsimp only [go_sem, seval, ks, ke, undef]; first | refine callK_r (by first | assumption | exact h1 | exact h2 | exact h3 | exact h4 | exact h5 | exact h6 | exact h7 | exact h8 | exact h9 | exact h10) (by first | exact .inl rfl | exact .inr rfl) ?_ | (refine callK_i (by assumption) ?_ ?_ ?_; (solve | (repeat (first | exact DLe.refl _ | exact DLe.nil _ | (refine DLe.tup ?_) | (refine DLe.agg ?_ rfl) | exact trivial | (refine And.intro ?_ ?_)))); (solve | exact .inl rfl | exact .inr rfl))) | fail | omega | exact decide_eq_true (by omega) | exact DLe.refl _)
set_option maxRecDepth 100000 in
set_option maxHeartbeats 1000000 in
theorem cidrTurns_p (p : Pfx) : PSpec Tryd.prog 4 [.agg (encP p)] (.v (.bool true)) := by
  have h0 := cidrBegun_p
  have h1 := checkPrefix_p p
  have h2 := halves_p p
  have h3 := up_p p
  unfold halfP at h2
  unfold upP at h3
  by_cases hc : chk p.at_ p.len = 0
  · have hr : p.right = true := by simp [Pfx.right, rightB, hc]
    obtain ⟨b1, b2, b3, b4⟩ := div_bd hr
    rw [if_neg (by simpa using hc)] at h2 h3
    rw [hc] at h1
    obtain ⟨a, n⟩ := p
    simp only at b1 b2 b3 b4 h1 h2 h3 hc
    by_cases h16 : n = 16
    · rw [if_pos h16] at h2
      have hl : n ≠ 0 := by omega
      rw [if_neg hl] at h3
      have h4 := upOf_p ⟨a, n⟩ hr hl
      simp only at h4
      clear hc hr b1 b2 b3 b4
      subst h16
      generalize szI (16 - 1) = Z at *
      generalize a - a % Z = AA at *
      simp only [encP] at h1 h2 h3 h4
      refine ps_i tab_ok mixed Tryd.func4 rfl Tryd.ntmps4 Tryd.results4 (by kernel_rfl) ?_
      repeat' (first | (with_reducible refine And.intro ?_ ?_) | (with_reducible refine gK_i (fun _ => ?_) (fun _ => ?_)) | (with_reducible refine condS_i (fun _ => ?_) (fun _ => ?_)) | (with_reducible refine drw_i (by kernel_rfl)) | simp -dsimp only [go_sem, seval, *, encP, beq_self_eq_true, undef] | ((with_reducible refine opK_c ?_); simp -dsimp only [go_sem, seval, encP, beq_self_eq_true, undef]; first | refine callK_r (by first | assumption | exact h0 | exact h1 | exact h2 | exact h3 | exact h4) (by first | exact .inl rfl | exact .inr rfl) ?_ | (refine callK_i (by assumption) ?_ ?_ ?_; (solve | (repeat (first | exact DLe.refl _ | exact DLe.nil _ | (refine DLe.tup ?_) | (refine DLe.agg ?_ rfl) | exact trivial | (refine And.intro ?_ ?_)))); (solve | exact .inl rfl | exact .inr rfl))) | fail | omega | exact decide_eq_true (by omega) | exact DLe.refl _)
    · rw [if_neg h16] at h2
      have e16 : (n == 16) = false := by simpa using h16
      have hz := szI_bd (n := n + 1) (by omega)
      have hfit := right_fit hr
      have hhalf := szI_half b3 (by omega)
      have w1 : IntKind.i64.wrap (n + 1) = n + 1 := by rw [IntKind.wrap_i64]; omega
      have w2 : IntKind.i64.wrap (IntKind.i64.wrap (16 - n) - 1) = 16 - n - 1 := by rw [IntKind.wrap_i64, IntKind.wrap_i64]; omega
      have w4 : (0 : Int) ≤ 16 - n - 1 := by omega
      have w3 : IntKind.i64.wrap (1 * 2 ^ min (16 - n - 1).toNat 64) = szI (n + 1) := by
        rw [Nat.min_eq_left (by omega), Int.one_mul, show (16 - n - 1).toNat = (16 - (n + 1)).toNat by omega]
        show IntKind.i64.wrap (szI (n + 1)) = _
        rw [IntKind.wrap_i64]; omega
      have w5 : IntKind.i64.wrap (a + szI (n + 1)) = a + szI (n + 1) := by rw [IntKind.wrap_i64]; simp only at hfit; omega
      clear hz hfit hhalf
      generalize szI (n + 1) = Y at *
      by_cases hn : n = 0
      · subst hn
        rw [if_pos rfl] at h3
        clear hc hr b1 b2 b3 b4 h16
        have w2b : IntKind.i64.wrap (IntKind.i64.wrap 16 - 1) = 15 := rfl
        have w3b : IntKind.i64.wrap (1 * 2 ^ min (Int.toNat 15) 64) = Y := w3
        have w3c : IntKind.i64.wrap (1 * 2 ^ min 15 64) = Y := w3
        simp only [encP, Int.zero_add] at h1 h2 h3 w1
        refine ps_i tab_ok mixed Tryd.func4 rfl Tryd.ntmps4 Tryd.results4 (by kernel_rfl) ?_
        repeat' (first | (with_reducible refine And.intro ?_ ?_) | (with_reducible refine gK_i (fun _ => ?_) (fun _ => ?_)) | (with_reducible refine condS_i (fun _ => ?_) (fun _ => ?_)) | (with_reducible refine drw_i (by kernel_rfl)) | simp -dsimp only [go_sem, seval, *, encP, w1, w2b, w3b, w3c, w5, beq_self_eq_true, undef] | ((with_reducible refine opK_c ?_); simp -dsimp only [go_sem, seval, encP, w1, w2b, w3b, w3c, w5, beq_self_eq_true, undef]; first | refine callK_r (by first | assumption | exact h0 | exact h1 | exact h2 | exact h3) (by first | exact .inl rfl | exact .inr rfl) ?_ | (refine callK_i (by assumption) ?_ ?_ ?_; (solve | (repeat (first | exact DLe.refl _ | exact DLe.nil _ | (refine DLe.tup ?_) | (refine DLe.agg ?_ rfl) | exact trivial | (refine And.intro ?_ ?_)))); (solve | exact .inl rfl | exact .inr rfl))) | fail | omega | exact decide_eq_true (by omega) | exact DLe.refl _)
      · rw [if_neg hn] at h3
        have h4 := upOf_p ⟨a, n⟩ hr hn
        simp only at h4
        have hn0 : (n == 0) = false := by simpa using hn
        clear hc hr b1 b2 b3 b4 hn
        generalize szI (n - 1) = Z at *
        generalize a - a % Z = AA at *
        simp only [encP] at h1 h2 h3 h4
        refine ps_i tab_ok mixed Tryd.func4 rfl Tryd.ntmps4 Tryd.results4 (by kernel_rfl) ?_
        repeat' (first | (with_reducible refine And.intro ?_ ?_) | (with_reducible refine gK_i (fun _ => ?_) (fun _ => ?_)) | (with_reducible refine condS_i (fun _ => ?_) (fun _ => ?_)) | (with_reducible refine drw_i (by kernel_rfl)) | simp -dsimp only [go_sem, seval, *, encP, e16, hn0, w1, w2, w3, w4, w5, beq_self_eq_true, undef] | ((with_reducible refine opK_c ?_); simp -dsimp only [go_sem, seval, encP, e16, hn0, w1, w2, w3, w4, w5, beq_self_eq_true, undef]; first | refine callK_r (by first | assumption | exact h0 | exact h1 | exact h2 | exact h3 | exact h4) (by first | exact .inl rfl | exact .inr rfl) ?_ | (refine callK_i (by assumption) ?_ ?_ ?_; (solve | (repeat (first | exact DLe.refl _ | exact DLe.nil _ | (refine DLe.tup ?_) | (refine DLe.agg ?_ rfl) | exact trivial | (refine And.intro ?_ ?_)))); (solve | exact .inl rfl | exact .inr rfl))) | fail | omega | exact decide_eq_true (by omega) | exact DLe.refl _)
  · rw [if_pos hc] at h2 h3
    have hE2 : (chk p.at_ p.len != 0) = true := by simpa using hc
    have hE3 : (chk p.at_ p.len == 0) = false := by simpa using hc
    generalize chk p.at_ p.len = E at *
    simp only [encP] at h1 h2 h3
    refine ps_i tab_ok mixed Tryd.func4 rfl Tryd.ntmps4 Tryd.results4 (by kernel_rfl) ?_
    repeat' (first | (with_reducible refine And.intro ?_ ?_) | (with_reducible refine gK_i (fun _ => ?_) (fun _ => ?_)) | (with_reducible refine condS_i (fun _ => ?_) (fun _ => ?_)) | (with_reducible refine drw_i (by kernel_rfl)) | simp -dsimp only [go_sem, seval, *, encP, hE2, hE3, beq_self_eq_true, undef] | ((with_reducible refine opK_c ?_); simp -dsimp only [go_sem, seval, encP, hE2, hE3, beq_self_eq_true, undef]; first | refine callK_r (by first | assumption | exact h0 | exact h1 | exact h2 | exact h3) (by first | exact .inl rfl | exact .inr rfl) ?_ | (refine callK_i (by assumption) ?_ ?_ ?_; (solve | (repeat (first | exact DLe.refl _ | exact DLe.nil _ | (refine DLe.tup ?_) | (refine DLe.agg ?_ rfl) | exact trivial | (refine And.intro ?_ ?_)))); (solve | exact .inl rfl | exact .inr rfl))) | fail | omega | exact decide_eq_true (by omega) | exact DLe.refl _)
end Go.Proofs.YtmkdihmmihpibaaDoor
namespace Go.Proofs.YtmkdihmmihpibaaDoor
open Go Go.RowKit Go.Proofs Go.ChangeShapes Go.WideShapes Go.Deep
section
variable {H : Type} {enc : TypeId × Value → H} {P : Program} {w : World} {base : Nat} {spare : Nat → Bool} {held : Bool}
/-- Whatever is read as of type t is an R. -/
def Rd {α : Type} (enc : TypeId × Value → H) (P : Program) (w : World) (base : Nat) (spare : Nat → Bool) (held : Bool) (t : TypeId) (R : List Value → α → Prop) : Prop :=
  ∀ fuel cs x, DataW.trod enc P w base spare held fuel t cs = some x → ∃ a, R cs a
theorem Rd.map {α β : Type} {t : TypeId} {R : List Value → α → Prop} {R' : List Value → β → Prop} (h : Rd enc P w base spare held t R) (f : α → β) (hf : ∀ cs a, R cs a → R' cs (f a)) : Rd enc P w base spare held t R' := by
  intro fuel cs x hx
  obtain ⟨a, ha⟩ := h fuel cs x hx
  exact ⟨f a, hf _ _ ha⟩
def in64 (n : Int) : Prop := -9223372036854775808 ≤ n ∧ n ≤ 9223372036854775807
def IntR (cs : List Value) (n : Int) : Prop := cs = [.int .i64 n] ∧ in64 n
theorem in64_wf {n : Int} (h : (Lit.int .i64 n).wf = true) : in64 n := by
  simp only [Lit.wf, Bool.and_eq_true, decide_eq_true_eq] at h
  have h1 : IntKind.i64.min = -9223372036854775808 := rfl
  have h2 : IntKind.i64.max = 9223372036854775807 := rfl
  rw [h1, h2] at h
  exact h
theorem rd_int {t : TypeId} (ht : P.underlying t = some (.int .i64)) : Rd enc P w base spare held t IntR := by
  intro fuel cs x hx
  obtain ⟨n, h, _, hw⟩ := DataW.trod_int ht hx
  exact ⟨n, h, in64_wf hw⟩
theorem rd_field {α : Type} {t : TypeId} {fs : Array Field} {fuel : Nat} {cs : List Value} {x : DataW H × List MemPlace} (ht : P.underlying t = some (.struct fs)) (h : DataW.trod enc P w base spare held fuel t cs = some x)
    (j : Nat) {f : Field} (hf : fs[j]? = some f) {R : List Value → α → Prop} (hr : Rd enc P w base spare held f.type R) : ∃ a, R ((cs.drop f.offset).take (P.cellsOf f.type)) a := by
  obtain ⟨xs, n, _, _, _, hlen, hg⟩ := DataW.trod_struct ht h
  have h1 := hg j f hf
  have hj : j < xs.length := by rw [hlen]; exact (Array.getElem?_eq_some_iff.1 hf).1
  rw [List.getElem?_eq_getElem hj] at h1
  exact hr _ _ _ h1
theorem rd_len {t : TypeId} {fs : Array Field} {fuel : Nat} {cs : List Value} {x : DataW H × List MemPlace} (ht : P.underlying t = some (.struct fs)) (h : DataW.trod enc P w base spare held fuel t cs = some x) : cs.length = P.cellsOf t := by
  obtain ⟨_, _, _, _, h, _⟩ := DataW.trod_struct ht h
  exact h
theorem trod_lts {t : TypeId} {v : Value} {d : DataW H} {p : List MemPlace} (h : DataW.Trod enc P w base spare held t v d p) : ∀ x ∈ p, x.block < w.heap.size := by
  obtain ⟨m, hm⟩ := h
  exact DataW.trod_lt m _ _ _ hm
end
end Go.Proofs.YtmkdihmmihpibaaDoor
namespace Go.Proofs.YtmkdihmmihpibaaDoor
open Go Go.RowKit Go.Proofs Go.ChangeShapes Go.WideShapes Go.Deep
/-- Nothing may be written. -/
def NM : Nat → Prop := fun _ => False
section
variable {H : Type} {enc : TypeId × Value → H} {P : Program} {w : World} {base : Nat} {spare : Nat → Bool} {held : Bool}
def RdW {α : Type} (enc : TypeId × Value → H) (P : Program) (w : World) (base : Nat) (spare : Nat → Bool) (held : Bool) (t : TypeId) (R : List Value → α → Prop) (S : α → Prop) : Prop :=
  ∀ fuel cs x, DataW.trod enc P w base spare held fuel t cs = some x → ∃ a, R cs a ∧ ((∀ n ∈ x.1.weights P t, n ≤ reachBytes) → S a)
theorem rdw_of {α : Type} {t : TypeId} {R : List Value → α → Prop} (h : Rd enc P w base spare held t R) : RdW enc P w base spare held t R (fun _ => True) := by
  intro fuel cs x hx
  obtain ⟨a, ha⟩ := h fuel cs x hx
  exact ⟨a, ha, fun _ => trivial⟩
theorem argw {α : Type} {R : List Value → α → Prop} {S : α → Prop} {r : Reach} {b0 : Nat} {t : TypeId} {fs : Array Field} {v : Value} {d : DataW H} {p : List MemPlace} (ht : P.underlying t = some (.struct fs)) (hval : Value.okWide P w r b0 t v) (hd : DataW.Trod enc P w base spare held t v d p)
    (hr : RdW enc P w base spare held t R S) : ∃ cs a, v = .agg cs ∧ R cs.toList a ∧ ((∀ n ∈ d.weights P t, n ≤ reachBytes) → S a) := by
  obtain ⟨cs, rfl, _⟩ := okWide_struct ht hval
  obtain ⟨fuel, hf⟩ := hd
  obtain ⟨a, ha, hs⟩ := hr _ _ _ hf
  exact ⟨cs, a, rfl, by simpa [Value.cells] using ha, hs⟩
end
end Go.Proofs.YtmkdihmmihpibaaDoor
namespace Go.Proofs.YtmkdihmmihpibaaDoor
open Go Go.RowKit Go.Proofs Go.ChangeShapes Go.WideShapes Go.Deep
set_option maxRecDepth 100000
theorem repDs_n {M : Nat → Prop} {w : World} : RepDs M w [] [] := ⟨rfl, fun j d x hj _ => by simp at hj⟩
theorem repDs_c {M : Nat → Prop} {w : World} {d : D} {v : Value} {ds : List D} {vs : List Value} (h : RepD M w d v) (g : RepDs M w ds vs) : RepDs M w (d :: ds) (v :: vs) := ⟨by simp [g.1], fun j e x hj hx => by
  cases j with
  | zero => simp at hj hx; subst hj; subst hx; exact h
  | succ j => exact g.2 j e x (by simpa using hj) (by simpa using hx)⟩
theorem rep_agg {w : World} {cs : Array Value} {ds : List D} (h : RepDs NM w ds cs.toList) (h1 : ds.all D.one = true) : RepD NM w (.agg ds) (.agg cs) := by
  have := RepD.agg (M := NM) (w := w) ds cs.toList h.1 (fun d hd => List.all_eq_true.1 h1 d hd) h.2
  simpa using this
theorem law_of {P : Program} {f : Nat} {args : List D} {vs : List Value} {W : World} (hp : PSpec P f args (.v (.bool true))) (hds : RepDs NM W args vs) (hg : GInv NM W) : Calls P f vs.toArray W fun e w' => e = .returned (.bool true) ∧ Ext W w' := by
  refine (hp.2 NM W vs (fun b h => h.elim) hg hds).mono ?_
  rintro e w' ⟨v, rfl, hv, hx⟩
  cases hv
  exact ⟨rfl, hx⟩
section
variable {H : Type} {enc : TypeId × Value → H} {w : World} {base : Nat} {spare : Nat → Bool} {held : Bool}
theorem Tryd.sizePfx : Tryd.prog.cellsOf 23 = 2 := by kernel_rfl
theorem Tryd.sizeInt1 : Tryd.prog.cellsOf 3 = 1 := by kernel_rfl
theorem rd_pfx : Rd enc Tryd.prog w base spare held 23 Pfx.R := by
  intro fuel cs x hx
  have hl := rd_len Tryd.underlying23 hx
  rw [Tryd.sizePfx] at hl
  obtain ⟨a, ha⟩ := rd_field Tryd.underlying23 hx 0 rfl (rd_int Tryd.underlying3)
  obtain ⟨b, hb⟩ := rd_field Tryd.underlying23 hx 1 rfl (rd_int Tryd.underlying3)
  match cs, hl with
  | [c0, c1], _ =>
    simp [Tryd.sizeInt1, IntR] at ha hb
    exact ⟨⟨a, b⟩, by simp [Pfx.R, ha.1, hb.1]⟩
theorem repDs_ints (l : List Int) : RepDs NM w (l.map fun n => .v (.int .i64 n)) (l.map fun n => .int .i64 n) := by
  induction l with
  | nil => exact repDs_n
  | cons a l ih => exact repDs_c (.v _) ih
theorem rd_pfxD : RdW enc Tryd.prog w base spare held 23 (fun cs (p : Pfx) => RepDs NM w (encP p) cs) (fun _ => True) :=
  rdw_of (rd_pfx.map id fun cs p h => by rw [show cs = _ from h]; exact repDs_ints [p.at_, p.len])
end
end Go.Proofs.YtmkdihmmihpibaaDoor
namespace Go.Proofs.YtmkdihmmihpibaaDoor
open Go Go.RowKit Go.Proofs
def laidC : List (String × DataW Unit) := [("math/bits.deBruijn32tab", Rows.laid_math_bits_deBruijn32tab), ("math/bits.deBruijn64tab", Rows.laid_math_bits_deBruijn64tab), ("internal/strconv.uint64pow10", Rows.laid_internal_strconv_uint64pow10), ("strconv.ErrRange", Rows.laid_strconv_ErrRange), ("strconv.ErrSyntax", Rows.laid_strconv_ErrSyntax)]
theorem var_heap {P : Program} {w : World} {n : String} {g : Nat} {vs : Array Value} (hg : P.globalNamed n = some g) (h : w.var? P n = some vs) : ∃ E sp, w.heap[g]? = some (.cells vs E sp) := by
  unfold World.var? at h
  rw [hg] at h
  simp only [Option.bind_some] at h
  split at h
  · rename_i cs E sp hh
    cases h
    exact ⟨E, sp, hh⟩
  · cases h
theorem g_pow : Tryd.prog.globalNamed "internal/strconv.uint64pow10" = some gPow := by kernel_rfl
theorem g_rng : Tryd.prog.globalNamed "strconv.ErrRange" = some gRng := by kernel_rfl
theorem g_syn : Tryd.prog.globalNamed "strconv.ErrSyntax" = some gSyn := by kernel_rfl
theorem t_pow : (Tryd.prog.globals[gPow]?).map (·.type) = some 85 := by kernel_rfl
theorem t_rng : (Tryd.prog.globals[gRng]?).map (·.type) = some 55 := by kernel_rfl
theorem t_syn : (Tryd.prog.globals[gSyn]?).map (·.type) = some 55 := by kernel_rfl
theorem star_es : "*" ++ "errors.errorString" = "*errors.errorString" := by decide
theorem row_es (u : TypeId) (h : Tryd.prog.typeName? 3 u = some "*errors.errorString") : u = 95 :=
  typeName_ptr_named (nm := "errors.errorString") (by rw [star_es]; kernel_rfl) (by kernel_rfl) (by decide) u (by rw [star_es]; exact h)
theorem ginv_laid {W : World} (hH : laidMetH Tryd.prog laidC W) : GInv NM W := by
  have h : laidMet Tryd.prog laidC W := MakeChecks.laidMetH_plain Tryd.prog laidC W (by kernel_rfl) ▸ hH
  have hP := Lib.tabIs_of_head (k := .u64) (zs := Lib.pow10Tab) (rest := [("strconv.ErrRange", Rows.laid_strconv_ErrRange), ("strconv.ErrSyntax", Rows.laid_strconv_ErrSyntax)]) g_pow t_pow Tryd.underlying85 Tryd.underlying72 (by kernel_rfl) (by kernel_rfl) h.tail.tail
  obtain ⟨a0, s0, hv0, -⟩ := laid_sentinel h.tail.tail.tail g_rng t_rng Tryd.underlying55 row_es Tryd.underlying95 Tryd.underlying97 rfl rfl Tryd.underlying9 (by kernel_rfl) (by kernel_rfl)
  obtain ⟨a1, s1, hv1, -⟩ := laid_sentinel h.tail.tail.tail.tail g_syn t_syn Tryd.underlying55 row_es Tryd.underlying95 Tryd.underlying97 rfl rfl Tryd.underlying9 (by kernel_rfl) (by kernel_rfl)
  intro x hx
  refine ⟨fun e => e.elim, ?_⟩
  unfold gTab at hx
  simp only [List.mem_cons, List.not_mem_nil, or_false] at hx
  rcases hx with rfl | rfl | rfl
  · obtain ⟨E, sp, hh⟩ := var_heap g_pow hP
    exact ⟨_, E, sp, hh, rfl⟩
  · obtain ⟨E, sp, hh⟩ := var_heap g_syn hv1
    exact ⟨_, E, sp, hh, _, _, rfl⟩
  · obtain ⟨E, sp, hh⟩ := var_heap g_rng hv0
    exact ⟨_, E, sp, hh, _, _, rfl⟩
end Go.Proofs.YtmkdihmmihpibaaDoor
namespace Go.Proofs.YtmkdihmmihpibaaDoor
open Go Go.RowKit Go.Proofs Go.ChangeShapes Go.WideShapes Go.ChangeAt
set_option linter.unusedVariables false
theorem cidrTurns_own : ownKnob Tryd.prog.godebug = Option.none := by kernel_rfl
theorem cidrTurns_laidOut : laidOutB Tryd.prog = true := by kernel_rfl
theorem cidrTurns_met (os : Os) (args : Array Value) : laidMetH Tryd.prog Rows.cidrTurnsRow.laid ((World.doorLaid Tryd.prog 62 os).forCall (fun _ _ => 0) ⟨#[], args, []⟩).memory :=
  laidMetH_of_parts3 (fuel := 8) (laidMet_of_run' 8 (by kernel_rfl) (by kernel_rfl)) (by kernel_rfl) (by kernel_rfl)
set_option maxRecDepth 100000 in
theorem cidrTurns_lifted (os : Os) (started : os.Started) (H : Type) (enc : TypeId × Value → H) :
    ReturnsInHanded {} Tryd.checked os 4 .any (fun w args => (Rows.cidrTurnsSpec.pre enc Tryd.prog Tryd.f4 Rows.cidrTurnsRow.domain false w args ∧ laidMetH Tryd.prog Rows.cidrTurnsRow.laid w) ∧ sizedMet enc Tryd.prog Tryd.f4 (OpenSpec.ofChange Rows.cidrTurnsSpec) false w args)
      (Rows.cidrTurnsSpec.post enc Tryd.prog Tryd.f4 false true false false) := by
  refine returnsInHanded_of_change_and (C := Tryd.checked) (X := fun w _ => laidMetH Tryd.prog Rows.cidrTurnsRow.laid w) (fun _ _ _ hh h => h.of_heap hh) cidrTurns_own started (by kernel_rfl) Tryd.func4
    (ChangeSpec.witness_shaped (enc := enc) (C := Tryd.checked) (os := os) (X := fun w _ => laidMetH Tryd.prog Rows.cidrTurnsRow.laid w) false (World.doorLaid Tryd.prog 62 os) #[.agg #[.int .i64 0, .int .i64 0]] 8 rfl (World.shaped_of_RefB (by kernel_rfl) (by kernel_rfl)) (by kernel_rfl) (by kernel_rfl) (by kernel_rfl) (cidrTurns_met os _)) ?_
  intro W base args ds gs before hval0 hW hcnd hsz hL _
  have hval : ∀ (j : Nat) t v, Tryd.f4.params[j]? = some t → args[j]? = some v → Value.okWide Tryd.prog W .any base t v := hval0
  have hW' := hW
  obtain ⟨p, q, hA0, hV, rfl, hfz, hnd⟩ := hW
  have hA : DataW.TrodAll enc Tryd.prog W 0 (fun _ => true) true Tryd.f4.params.toList args.toList ds p := hA0
  rw [Tryd.params4] at hA hval hsz
  obtain ⟨v0, vs0, d0, ds0, p0, q0, hargs, rfl, rfl, h0, r0⟩ := trodAll_cons hA
  obtain ⟨rfl, rfl, rfl⟩ := trodAll_nil r0
  obtain rfl : args = #[v0] := by cases args; simp_all
  obtain ⟨rfl, rfl⟩ := trodVars_none hV
  obtain ⟨cs0, a0, rfl, w0, s0⟩ := argw Tryd.underlying23 (hval 0 23 v0 rfl rfl) h0 rd_pfxD
  clear hA0 hval0
  refine (law_of (cidrTurns_p a0) (vs := [.agg cs0]) (repDs_c (rep_agg w0 rfl) repDs_n) (ginv_laid hL)).mono fun e W' ⟨he, bel⟩ => ?_
  subst he
  exact ⟨_, rfl, _, _, _, [], _, [], hW', trodAll_mk1 (shut_bool Tryd.underlying4 _), (trodAll_cons_mk (Below.trod cidrTurns_laidOut (by kernel_rfl) (of_decide_eq_true (by kernel_rfl)) h0 bel (trod_lts h0)) trodAll_mk0), rfl, bel.frame _, fun h => by cases h⟩
theorem cidrTurns_over : Rows.cidrTurnsRow.holds Tryd.pinned (OpenSpec.ofChange Rows.cidrTurnsSpec) :=
  OpenClaim.holds_of_wide 4 Tryd.f4 rfl rfl rfl rfl rfl rfl rfl ⟨rfl, rfl, rfl, rfl, rfl⟩ rfl rfl rfl rfl rfl (by kernel_rfl) Tryd.func4 (by kernel_rfl)
    (of_decide_eq_true (by kernel_rfl)) (by unfold Func.isWrapper; first | (rw [if_pos (by decide +kernel)]; kernel_rfl) | (rw [if_neg (by decide +kernel)]; exact ⟨rfl, rfl⟩))
    (fun os started H enc _ => cidrTurns_lifted os started H enc)
theorem cidrTurns_holds : Rows.CidrTurnsSaid := cidrTurns_over
theorem cidrTurns_plain (f : FuncId) (fn : Func) (hf : Tryd.pinned.checked.prog.funcNamed "parcelway/parcelwaylaw.CidrTurns" = some f) (hfn : Tryd.pinned.checked.prog.funcs[f]? = some fn) :
    true = Tryd.pinned.checked.prog.looks [] ∧ ∀ (j : Nat) t, fn.params[j]? = some t → Tryd.pinned.checked.prog.wantsStandIn t = false := by
  obtain rfl : f = 4 := Option.some.inj ((show Tryd.prog.funcNamed "parcelway/parcelwaylaw.CidrTurns" = some 4 by kernel_rfl).symm.trans hf) |>.symm
  obtain rfl : fn = Tryd.f4 := (Option.some.inj (Tryd.func4.symm.trans hfn)).symm
  refine ⟨by kernel_rfl, fun j t ht => ?_⟩
  rw [Tryd.params4] at ht
  have hm : t ∈ [23] := by simpa using Array.mem_of_getElem? ht
  have hall : ([23].all fun u => !Tryd.prog.wantsStandIn u) = true := by kernel_rfl
  exact (show Tryd.prog.wantsStandIn t = false by simpa using List.all_eq_true.1 hall t hm)
theorem cidrTurns_card : Rows.CidrTurnsCardSaid :=
  Claim7.holds_tied_plain_at .later [] _ _ _ _ cidrTurns_holds (fun _ h => by cases h) (by kernel_rfl) (fun _ h => by cases h) cidrTurns_row_tie rfl ⟨rfl, rfl⟩ (by kernel_rfl) rfl cidrTurns_plain (by kernel_rfl)
#print axioms cidrTurns_card
end Go.Proofs.YtmkdihmmihpibaaDoor
