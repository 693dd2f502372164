/- The program's prefixes: Holds, Inside, Meets. -/
import Derived.Test.YtflbpkgnadjokaaCidr2a
import Derived.Test.YtflbpkgnadjokaaMix
namespace Go.Proofs.Ytflbpkgnadjokaa
open Go Go.RowKit Go.Proofs
def insP (a l b m : Int) : Bool := rightB a l && rightB b m && decide (m ≤ l) && (a - a % szI m == b)
set_option maxHeartbeats 1000000 in
theorem inside_any (a l b m : Int) (w : World) :
    Calls Try.prog 20 #[.agg #[.int .i64 a, .int .i64 l], .agg #[.int .i64 b, .int .i64 m]] w fun e w' => e = .returned (.bool (insP a l b m)) ∧ Ext w w' := by
  cases hA : (rightB a l && rightB b m)
  case false =>
    have hs : insP a l b m = false := by simp [insP, hA]
    rw [hs]
    have hv := Lib.hid hA
    clear hA hs
    go_enter Try.func20, Try.ntmps20
    go_wp2_with fail
    refine region_mix (by kernel_rfl) (by kernel_rfl) (fun _ _ d _ _ h => by cases d <;> exact h) ?_
    repeat (first | ((first | refine mix_skip_t rfl rfl rfl (by with_reducible rfl) ?_ | refine mix_skip_f rfl rfl rfl (by with_reducible rfl) ?_ | refine mix_skip_u rfl rfl rfl (by with_reducible rfl) ?_); simp only [Act.put, List.setIfInBounds_toArray, List.set_cons_zero, List.set_cons_succ]) | (apply mix_take; (first | exact want_0 rfl | exact want_b rfl rfl rfl (by with_reducible rfl)); intro wq hwq R hR; ((have hcc := (bcell hwq).1; (try simp only [World.size_alloc, World.size_setCell, World.size_drew, World.heap_drewN] at hcc)); go_simp; first | exact hR | (fail)); simp only [Act.put, List.setIfInBounds_toArray, List.set_cons_zero, List.set_cons_succ]))
    refine mix_alone (by kernel_rfl) (by first | exact want_0 rfl | exact want_b rfl rfl rfl (by with_reducible rfl)) (fun w1 hw1 K hK => ?_)
    obtain ⟨hcw1, hfw1⟩ := bcell hw1
    have hzw1 := bsize hw1
    (try simp only [World.size_alloc, World.size_setCell, World.size_drew, World.heap_drewN] at hcw1 hfw1 hzw1)
    (try have l0w1 : w.heap.size ≤ w1.heap.size := by omega)
    (try have l1w1 : w.heap.size < w1.heap.size := by omega)
    (try have l2w1 : w.heap.size + 1 < w1.heap.size := by omega)
    go_simp
    refine hK _ _ (Bel.bel (B := _) ?_) ?_
    · (repeat (first | with_reducible assumption | with_reducible exact Bel.refl _ | with_reducible refine Bel.alloc ?_ _ | with_reducible refine Bel.drewN ?_ _ | with_reducible refine Bel.drew ?_ | (with_reducible refine Bel.setCell0 ?_ ?_ _; rotate_left; (first | omega | (simp; done) | (simp; omega))) | (with_reducible refine Bel.setCell ?_ (p := _) ?_ _; rotate_left; (first | (simp; done) | omega | (simp; omega))) | refine Bel.call ?_ (by assumption) | (refine EX.bel ?_ (by assumption) ?_; rotate_left; (first | omega | (simp; omega)))))
    clear hK K
    repeat (first | ((first | refine mix_skip_t rfl rfl rfl (by with_reducible rfl) ?_ | refine mix_skip_f rfl rfl rfl (by with_reducible rfl) ?_ | refine mix_skip_u rfl rfl rfl (by with_reducible rfl) ?_); simp only [Act.put, List.setIfInBounds_toArray, List.set_cons_zero, List.set_cons_succ]) | (apply mix_take; (first | exact want_0 rfl | exact want_b rfl rfl rfl (by with_reducible rfl)); intro wq hwq R hR; ((have hcc := (bcell hwq).1; (try simp only [World.size_alloc, World.size_setCell, World.size_drew, World.heap_drewN] at hcc)); go_simp; first | exact hR | ((go_at_call 41; refine mcall (right2 a l b m _ hv.out ?_ ?_ ?_ ?_) hR; go_simp; go_simp; go_simp; go_simp))); simp only [Act.put, List.setIfInBounds_toArray, List.set_cons_zero, List.set_cons_succ]))
    refine mix_nil ?_
    intro w2 hw2
    obtain ⟨hcw2, hfw2⟩ := bcell hw2
    have hzw2 := bsize hw2
    (try simp only [World.size_alloc, World.size_setCell, World.size_drew, World.heap_drewN] at hcw2 hfw2 hzw2)
    go_wp2_with fail
    go_ret
    refine ⟨rfl, Bel.bel (B := _) ?_⟩
    (repeat (first | with_reducible assumption | with_reducible exact Bel.refl _ | with_reducible refine Bel.alloc ?_ _ | with_reducible refine Bel.drewN ?_ _ | with_reducible refine Bel.drew ?_ | (with_reducible refine Bel.setCell0 ?_ ?_ _; rotate_left; (first | omega | (simp; done) | (simp; omega))) | (with_reducible refine Bel.setCell ?_ (p := _) ?_ _; rotate_left; (first | (simp; done) | omega | (simp; omega))) | refine Bel.call ?_ (by assumption) | (refine EX.bel ?_ (by assumption) ?_; rotate_left; (first | omega | (simp; omega)))))
  case true =>
    have hA' := hA
    simp only [Bool.and_eq_true] at hA'
    obtain ⟨g1, g2, g3, g4, -⟩ := right_bd hA'.1
    obtain ⟨k1, k2, k3, k4, -⟩ := right_bd hA'.2
    obtain ⟨z1, z2⟩ := msk_bd m k1
    have hv := Lib.hid hA
    by_cases hm : m ≤ l
    · have hs : insP a l b m = (a - a % szI m == b) := by simp [insP, hA, hm]
      rw [hs]
      have han := andnot_msk a m g3 g4 k1
      have hmI : decide (m ≤ l) = true := by simp [hm]
      clear hA hA' hs hm
      cases hE : (a - a % szI m == b)
      all_goals
        go_enter Try.func20, Try.ntmps20
        go_wp2_with fail
        refine region_mix (by kernel_rfl) (by kernel_rfl) (fun _ _ d _ _ h => by cases d <;> exact h) ?_
        repeat (first | ((first | refine mix_skip_t rfl rfl rfl (by with_reducible rfl) ?_ | refine mix_skip_f rfl rfl rfl (by with_reducible rfl) ?_ | refine mix_skip_u rfl rfl rfl (by with_reducible rfl) ?_); simp only [Act.put, List.setIfInBounds_toArray, List.set_cons_zero, List.set_cons_succ]) | (apply mix_take; (first | exact want_0 rfl | exact want_b rfl rfl rfl (by with_reducible rfl)); intro wq hwq R hR; ((have hcc := (bcell hwq).1; (try simp only [World.size_alloc, World.size_setCell, World.size_drew, World.heap_drewN] at hcc)); go_simp; first | exact hR | (fail)); simp only [Act.put, List.setIfInBounds_toArray, List.set_cons_zero, List.set_cons_succ]))
        refine mix_alone (by kernel_rfl) (by first | exact want_0 rfl | exact want_b rfl rfl rfl (by with_reducible rfl)) (fun w1 hw1 K hK => ?_)
        obtain ⟨hcw1, hfw1⟩ := bcell hw1
        have hzw1 := bsize hw1
        (try simp only [World.size_alloc, World.size_setCell, World.size_drew, World.heap_drewN] at hcw1 hfw1 hzw1)
        (try have l0w1 : w.heap.size ≤ w1.heap.size := by omega)
        (try have l1w1 : w.heap.size < w1.heap.size := by omega)
        (try have l2w1 : w.heap.size + 1 < w1.heap.size := by omega)
        go_simp
        refine hK _ _ (Bel.bel (B := _) ?_) ?_
        · (repeat (first | with_reducible assumption | with_reducible exact Bel.refl _ | with_reducible refine Bel.alloc ?_ _ | with_reducible refine Bel.drewN ?_ _ | with_reducible refine Bel.drew ?_ | (with_reducible refine Bel.setCell0 ?_ ?_ _; rotate_left; (first | omega | (simp; done) | (simp; omega))) | (with_reducible refine Bel.setCell ?_ (p := _) ?_ _; rotate_left; (first | (simp; done) | omega | (simp; omega))) | refine Bel.call ?_ (by assumption) | (refine EX.bel ?_ (by assumption) ?_; rotate_left; (first | omega | (simp; omega)))))
        clear hK K
        repeat (first | ((first | refine mix_skip_t rfl rfl rfl (by with_reducible rfl) ?_ | refine mix_skip_f rfl rfl rfl (by with_reducible rfl) ?_ | refine mix_skip_u rfl rfl rfl (by with_reducible rfl) ?_); simp only [Act.put, List.setIfInBounds_toArray, List.set_cons_zero, List.set_cons_succ]) | (apply mix_take; (first | exact want_0 rfl | exact want_b rfl rfl rfl (by with_reducible rfl)); intro wq hwq R hR; ((have hcc := (bcell hwq).1; (try simp only [World.size_alloc, World.size_setCell, World.size_drew, World.heap_drewN] at hcc)); go_simp; first | exact hR | (first | (go_at_call 41; refine mcall (right2 a l b m _ hv.out ?_ ?_ ?_ ?_) hR; go_simp; go_simp; go_simp; go_simp) | (go_at_call 42; exact mcall_same (mask_any _ _ k1 k2) hR))); simp only [Act.put, List.setIfInBounds_toArray, List.set_cons_zero, List.set_cons_succ]))
        refine mix_nil ?_
        intro w2 hw2
        obtain ⟨hcw2, hfw2⟩ := bcell hw2
        have hzw2 := bsize hw2
        (try simp only [World.size_alloc, World.size_setCell, World.size_drew, World.heap_drewN] at hcw2 hfw2 hzw2)
        go_wp2_with fail
        go_ret
        refine ⟨rfl, Bel.bel (B := _) ?_⟩
        (repeat (first | with_reducible assumption | with_reducible exact Bel.refl _ | with_reducible refine Bel.alloc ?_ _ | with_reducible refine Bel.drewN ?_ _ | with_reducible refine Bel.drew ?_ | (with_reducible refine Bel.setCell0 ?_ ?_ _; rotate_left; (first | omega | (simp; done) | (simp; omega))) | (with_reducible refine Bel.setCell ?_ (p := _) ?_ _; rotate_left; (first | (simp; done) | omega | (simp; omega))) | refine Bel.call ?_ (by assumption) | (refine EX.bel ?_ (by assumption) ?_; rotate_left; (first | omega | (simp; omega)))))
    · have hs : insP a l b m = false := by simp [insP, hA, hm]
      rw [hs]
      have hmI : decide (m ≤ l) = false := by simp [hm]
      clear hA hA' hs hm
      go_enter Try.func20, Try.ntmps20
      go_wp2_with fail
      refine region_mix (by kernel_rfl) (by kernel_rfl) (fun _ _ d _ _ h => by cases d <;> exact h) ?_
      repeat (first | ((first | refine mix_skip_t rfl rfl rfl (by with_reducible rfl) ?_ | refine mix_skip_f rfl rfl rfl (by with_reducible rfl) ?_ | refine mix_skip_u rfl rfl rfl (by with_reducible rfl) ?_); simp only [Act.put, List.setIfInBounds_toArray, List.set_cons_zero, List.set_cons_succ]) | (apply mix_take; (first | exact want_0 rfl | exact want_b rfl rfl rfl (by with_reducible rfl)); intro wq hwq R hR; ((have hcc := (bcell hwq).1; (try simp only [World.size_alloc, World.size_setCell, World.size_drew, World.heap_drewN] at hcc)); go_simp; first | exact hR | (fail)); simp only [Act.put, List.setIfInBounds_toArray, List.set_cons_zero, List.set_cons_succ]))
      refine mix_alone (by kernel_rfl) (by first | exact want_0 rfl | exact want_b rfl rfl rfl (by with_reducible rfl)) (fun w1 hw1 K hK => ?_)
      obtain ⟨hcw1, hfw1⟩ := bcell hw1
      have hzw1 := bsize hw1
      (try simp only [World.size_alloc, World.size_setCell, World.size_drew, World.heap_drewN] at hcw1 hfw1 hzw1)
      (try have l0w1 : w.heap.size ≤ w1.heap.size := by omega)
      (try have l1w1 : w.heap.size < w1.heap.size := by omega)
      (try have l2w1 : w.heap.size + 1 < w1.heap.size := by omega)
      go_simp
      refine hK _ _ (Bel.bel (B := _) ?_) ?_
      · (repeat (first | with_reducible assumption | with_reducible exact Bel.refl _ | with_reducible refine Bel.alloc ?_ _ | with_reducible refine Bel.drewN ?_ _ | with_reducible refine Bel.drew ?_ | (with_reducible refine Bel.setCell0 ?_ ?_ _; rotate_left; (first | omega | (simp; done) | (simp; omega))) | (with_reducible refine Bel.setCell ?_ (p := _) ?_ _; rotate_left; (first | (simp; done) | omega | (simp; omega))) | refine Bel.call ?_ (by assumption) | (refine EX.bel ?_ (by assumption) ?_; rotate_left; (first | omega | (simp; omega)))))
      clear hK K
      repeat (first | ((first | refine mix_skip_t rfl rfl rfl (by with_reducible rfl) ?_ | refine mix_skip_f rfl rfl rfl (by with_reducible rfl) ?_ | refine mix_skip_u rfl rfl rfl (by with_reducible rfl) ?_); simp only [Act.put, List.setIfInBounds_toArray, List.set_cons_zero, List.set_cons_succ]) | (apply mix_take; (first | exact want_0 rfl | exact want_b rfl rfl rfl (by with_reducible rfl)); intro wq hwq R hR; ((have hcc := (bcell hwq).1; (try simp only [World.size_alloc, World.size_setCell, World.size_drew, World.heap_drewN] at hcc)); go_simp; first | exact hR | ((go_at_call 41; refine mcall (right2 a l b m _ hv.out ?_ ?_ ?_ ?_) hR; go_simp; go_simp; go_simp; go_simp))); simp only [Act.put, List.setIfInBounds_toArray, List.set_cons_zero, List.set_cons_succ]))
      refine mix_nil ?_
      intro w2 hw2
      obtain ⟨hcw2, hfw2⟩ := bcell hw2
      have hzw2 := bsize hw2
      (try simp only [World.size_alloc, World.size_setCell, World.size_drew, World.heap_drewN] at hcw2 hfw2 hzw2)
      go_wp2_with fail
      go_ret
      refine ⟨rfl, Bel.bel (B := _) ?_⟩
      (repeat (first | with_reducible assumption | with_reducible exact Bel.refl _ | with_reducible refine Bel.alloc ?_ _ | with_reducible refine Bel.drewN ?_ _ | with_reducible refine Bel.drew ?_ | (with_reducible refine Bel.setCell0 ?_ ?_ _; rotate_left; (first | omega | (simp; done) | (simp; omega))) | (with_reducible refine Bel.setCell ?_ (p := _) ?_ _; rotate_left; (first | (simp; done) | omega | (simp; omega))) | refine Bel.call ?_ (by assumption) | (refine EX.bel ?_ (by assumption) ?_; rotate_left; (first | omega | (simp; omega)))))
end Go.Proofs.Ytflbpkgnadjokaa
