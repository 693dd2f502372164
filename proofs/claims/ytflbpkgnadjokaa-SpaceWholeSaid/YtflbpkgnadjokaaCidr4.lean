/- The program's prefixes: Holds, Meets. -/
import Derived.Test.YtflbpkgnadjokaaCidr2
namespace Go.Proofs.Ytflbpkgnadjokaa
open Go Go.RowKit Go.Proofs
def holdP (a l x : Int) : Bool := rightB a l && (decide (0 ≤ x) && (decide (x ≤ 65535) && (x - x % szI l == a)))
set_option maxHeartbeats 1000000 in
theorem holds_any (a l x : Int) (w : World) :
    Calls Try.prog 23 #[.agg #[.int .i64 a, .int .i64 l], .int .i64 x] w fun e w' => e = .returned (.bool (holdP a l x)) ∧ Ext w w' := by
  cases hA : rightB a l
  case false =>
    have hs : holdP a l x = false := by simp [holdP, hA]
    rw [hs]
    have hv := Lib.hid hA
    clear hA hs
    go_enter Try.func23, Try.ntmps23
    go_wp2_with fail
    refine region_mix (by kernel_rfl) (by kernel_rfl) (fun _ _ d _ _ h => by cases d <;> exact h) ?_
    repeat (first | ((first | refine mix_skip_t rfl rfl rfl (by with_reducible rfl) ?_ | refine mix_skip_f rfl rfl rfl (by with_reducible rfl) ?_ | refine mix_skip_u rfl rfl rfl (by with_reducible rfl) ?_); simp only [Act.put, List.setIfInBounds_toArray, List.set_cons_zero, List.set_cons_succ]) | (apply mix_take; (first | exact want_0 rfl | exact want_b rfl rfl rfl (by with_reducible rfl)); intro wq hwq R hR; ((have hcc := (bcell hwq).1; (try simp only [World.size_alloc, World.size_setCell, World.size_drew, World.heap_drewN] at hcc)); go_simp; first | exact hR | (fail)); simp only [Act.put, List.setIfInBounds_toArray, List.set_cons_zero, List.set_cons_succ]))
    refine mix_alone (by kernel_rfl) (by first | exact want_0 rfl | exact want_b rfl rfl rfl (by with_reducible rfl)) (fun w1 hw1 K hK => ?_)
    obtain ⟨hcw1, hfw1⟩ := bcell hw1
    have hzw1 := bsize hw1
    (try simp only [World.size_alloc, World.size_setCell, World.size_drew, World.heap_drewN] at hcw1 hfw1 hzw1)
    (try have l0w1 : w.heap.size ≤ w1.heap.size := by omega)
    (try have l1w1 : w.heap.size < w1.heap.size := by omega)
    (try have l2w1 : w.heap.size + 1 < w1.heap.size := by omega)
    go_simp
    refine hK _ _ (Bel.bel (B := _) ?_) ?_
    · (repeat (first | with_reducible assumption | with_reducible exact Bel.refl _ | with_reducible refine Bel.alloc ?_ _ | with_reducible refine Bel.drewN ?_ _ | with_reducible refine Bel.drew ?_ | (with_reducible refine Bel.setCell0 ?_ ?_ _; rotate_left; (first | omega | (simp; done) | (simp; omega))) | (with_reducible refine Bel.setCell ?_ (p := _) ?_ _; rotate_left; (first | (simp; done) | omega | (simp; omega))) | refine Bel.call ?_ (by assumption) | (refine EX.bel ?_ (by assumption) ?_; rotate_left; (first | omega | (simp; omega)))))
    clear hK K
    repeat (first | ((first | refine mix_skip_t rfl rfl rfl (by with_reducible rfl) ?_ | refine mix_skip_f rfl rfl rfl (by with_reducible rfl) ?_ | refine mix_skip_u rfl rfl rfl (by with_reducible rfl) ?_); simp only [Act.put, List.setIfInBounds_toArray, List.set_cons_zero, List.set_cons_succ]) | (apply mix_take; (first | exact want_0 rfl | exact want_b rfl rfl rfl (by with_reducible rfl)); intro wq hwq R hR; ((have hcc := (bcell hwq).1; (try simp only [World.size_alloc, World.size_setCell, World.size_drew, World.heap_drewN] at hcc)); go_simp; first | exact hR | ((go_at_call 41; refine mcall (right1 a l _ hv.out ?_ ?_) hR; go_simp; go_simp))); simp only [Act.put, List.setIfInBounds_toArray, List.set_cons_zero, List.set_cons_succ]))
    refine mix_nil ?_
    intro w2 hw2
    obtain ⟨hcw2, hfw2⟩ := bcell hw2
    have hzw2 := bsize hw2
    (try simp only [World.size_alloc, World.size_setCell, World.size_drew, World.heap_drewN] at hcw2 hfw2 hzw2)
    go_wp2_with fail
    go_ret
    refine ⟨rfl, Bel.bel (B := _) ?_⟩
    (repeat (first | with_reducible assumption | with_reducible exact Bel.refl _ | with_reducible refine Bel.alloc ?_ _ | with_reducible refine Bel.drewN ?_ _ | with_reducible refine Bel.drew ?_ | (with_reducible refine Bel.setCell0 ?_ ?_ _; rotate_left; (first | omega | (simp; done) | (simp; omega))) | (with_reducible refine Bel.setCell ?_ (p := _) ?_ _; rotate_left; (first | (simp; done) | omega | (simp; omega))) | refine Bel.call ?_ (by assumption) | (refine EX.bel ?_ (by assumption) ?_; rotate_left; (first | omega | (simp; omega)))))
  case true =>
    obtain ⟨g1, g2, g3, g4, -⟩ := right_bd hA
    obtain ⟨z1, z2⟩ := msk_bd l g1
    have hv := Lib.hid hA
    by_cases h0 : 0 ≤ x
    · by_cases h1 : x ≤ 65535
      · have hs : holdP a l x = (x - x % szI l == a) := by simp [holdP, hA, h0, h1]
        rw [hs]
        have han := andnot_msk x l h0 h1 g1
        have h0I : decide (0 ≤ x) = true := by simp [h0]
        have h1I : decide (x ≤ 65535) = true := by simp [h1]
        clear hA hs
        cases hE : (x - x % szI l == a)
        all_goals
          go_enter Try.func23, Try.ntmps23
          go_wp2_with fail
          refine region_mix (by kernel_rfl) (by kernel_rfl) (fun _ _ d _ _ h => by cases d <;> exact h) ?_
          repeat (first | ((first | refine mix_skip_t rfl rfl rfl (by with_reducible rfl) ?_ | refine mix_skip_f rfl rfl rfl (by with_reducible rfl) ?_ | refine mix_skip_u rfl rfl rfl (by with_reducible rfl) ?_); simp only [Act.put, List.setIfInBounds_toArray, List.set_cons_zero, List.set_cons_succ]) | (apply mix_take; (first | exact want_0 rfl | exact want_b rfl rfl rfl (by with_reducible rfl)); intro wq hwq R hR; ((have hcc := (bcell hwq).1; (try simp only [World.size_alloc, World.size_setCell, World.size_drew, World.heap_drewN] at hcc)); go_simp; first | exact hR | (fail)); simp only [Act.put, List.setIfInBounds_toArray, List.set_cons_zero, List.set_cons_succ]))
          refine mix_alone (by kernel_rfl) (by first | exact want_0 rfl | exact want_b rfl rfl rfl (by with_reducible rfl)) (fun w1 hw1 K hK => ?_)
          obtain ⟨hcw1, hfw1⟩ := bcell hw1
          have hzw1 := bsize hw1
          (try simp only [World.size_alloc, World.size_setCell, World.size_drew, World.heap_drewN] at hcw1 hfw1 hzw1)
          (try have l0w1 : w.heap.size ≤ w1.heap.size := by omega)
          (try have l1w1 : w.heap.size < w1.heap.size := by omega)
          (try have l2w1 : w.heap.size + 1 < w1.heap.size := by omega)
          go_simp
          refine hK _ _ (Bel.bel (B := _) ?_) ?_
          · (repeat (first | with_reducible assumption | with_reducible exact Bel.refl _ | with_reducible refine Bel.alloc ?_ _ | with_reducible refine Bel.drewN ?_ _ | with_reducible refine Bel.drew ?_ | (with_reducible refine Bel.setCell0 ?_ ?_ _; rotate_left; (first | omega | (simp; done) | (simp; omega))) | (with_reducible refine Bel.setCell ?_ (p := _) ?_ _; rotate_left; (first | (simp; done) | omega | (simp; omega))) | refine Bel.call ?_ (by assumption) | (refine EX.bel ?_ (by assumption) ?_; rotate_left; (first | omega | (simp; omega)))))
          clear hK K
          repeat (first | ((first | refine mix_skip_t rfl rfl rfl (by with_reducible rfl) ?_ | refine mix_skip_f rfl rfl rfl (by with_reducible rfl) ?_ | refine mix_skip_u rfl rfl rfl (by with_reducible rfl) ?_); simp only [Act.put, List.setIfInBounds_toArray, List.set_cons_zero, List.set_cons_succ]) | (apply mix_take; (first | exact want_0 rfl | exact want_b rfl rfl rfl (by with_reducible rfl)); intro wq hwq R hR; ((have hcc := (bcell hwq).1; (try simp only [World.size_alloc, World.size_setCell, World.size_drew, World.heap_drewN] at hcc)); go_simp; first | exact hR | (first | (go_at_call 41; refine mcall (right1 a l _ hv.out ?_ ?_) hR; go_simp; go_simp) | (go_at_call 42; exact mcall_same (mask_any _ _ g1 g2) hR))); simp only [Act.put, List.setIfInBounds_toArray, List.set_cons_zero, List.set_cons_succ]))
          refine mix_nil ?_
          intro w2 hw2
          obtain ⟨hcw2, hfw2⟩ := bcell hw2
          have hzw2 := bsize hw2
          (try simp only [World.size_alloc, World.size_setCell, World.size_drew, World.heap_drewN] at hcw2 hfw2 hzw2)
          go_wp2_with fail
          go_ret
          refine ⟨rfl, Bel.bel (B := _) ?_⟩
          (repeat (first | with_reducible assumption | with_reducible exact Bel.refl _ | with_reducible refine Bel.alloc ?_ _ | with_reducible refine Bel.drewN ?_ _ | with_reducible refine Bel.drew ?_ | (with_reducible refine Bel.setCell0 ?_ ?_ _; rotate_left; (first | omega | (simp; done) | (simp; omega))) | (with_reducible refine Bel.setCell ?_ (p := _) ?_ _; rotate_left; (first | (simp; done) | omega | (simp; omega))) | refine Bel.call ?_ (by assumption) | (refine EX.bel ?_ (by assumption) ?_; rotate_left; (first | omega | (simp; omega)))))
      · have hs : holdP a l x = false := by simp [holdP, h1]
        rw [hs]
        have h0I : decide (0 ≤ x) = true := by simp [h0]
        have h1I : decide (x ≤ 65535) = false := by simp [h1]
        clear hA hs h1
        go_enter Try.func23, Try.ntmps23
        go_wp2_with fail
        refine region_mix (by kernel_rfl) (by kernel_rfl) (fun _ _ d _ _ h => by cases d <;> exact h) ?_
        repeat (first | ((first | refine mix_skip_t rfl rfl rfl (by with_reducible rfl) ?_ | refine mix_skip_f rfl rfl rfl (by with_reducible rfl) ?_ | refine mix_skip_u rfl rfl rfl (by with_reducible rfl) ?_); simp only [Act.put, List.setIfInBounds_toArray, List.set_cons_zero, List.set_cons_succ]) | (apply mix_take; (first | exact want_0 rfl | exact want_b rfl rfl rfl (by with_reducible rfl)); intro wq hwq R hR; ((have hcc := (bcell hwq).1; (try simp only [World.size_alloc, World.size_setCell, World.size_drew, World.heap_drewN] at hcc)); go_simp; first | exact hR | (fail)); simp only [Act.put, List.setIfInBounds_toArray, List.set_cons_zero, List.set_cons_succ]))
        refine mix_alone (by kernel_rfl) (by first | exact want_0 rfl | exact want_b rfl rfl rfl (by with_reducible rfl)) (fun w1 hw1 K hK => ?_)
        obtain ⟨hcw1, hfw1⟩ := bcell hw1
        have hzw1 := bsize hw1
        (try simp only [World.size_alloc, World.size_setCell, World.size_drew, World.heap_drewN] at hcw1 hfw1 hzw1)
        (try have l0w1 : w.heap.size ≤ w1.heap.size := by omega)
        (try have l1w1 : w.heap.size < w1.heap.size := by omega)
        (try have l2w1 : w.heap.size + 1 < w1.heap.size := by omega)
        go_simp
        refine hK _ _ (Bel.bel (B := _) ?_) ?_
        · (repeat (first | with_reducible assumption | with_reducible exact Bel.refl _ | with_reducible refine Bel.alloc ?_ _ | with_reducible refine Bel.drewN ?_ _ | with_reducible refine Bel.drew ?_ | (with_reducible refine Bel.setCell0 ?_ ?_ _; rotate_left; (first | omega | (simp; done) | (simp; omega))) | (with_reducible refine Bel.setCell ?_ (p := _) ?_ _; rotate_left; (first | (simp; done) | omega | (simp; omega))) | refine Bel.call ?_ (by assumption) | (refine EX.bel ?_ (by assumption) ?_; rotate_left; (first | omega | (simp; omega)))))
        clear hK K
        repeat (first | ((first | refine mix_skip_t rfl rfl rfl (by with_reducible rfl) ?_ | refine mix_skip_f rfl rfl rfl (by with_reducible rfl) ?_ | refine mix_skip_u rfl rfl rfl (by with_reducible rfl) ?_); simp only [Act.put, List.setIfInBounds_toArray, List.set_cons_zero, List.set_cons_succ]) | (apply mix_take; (first | exact want_0 rfl | exact want_b rfl rfl rfl (by with_reducible rfl)); intro wq hwq R hR; ((have hcc := (bcell hwq).1; (try simp only [World.size_alloc, World.size_setCell, World.size_drew, World.heap_drewN] at hcc)); go_simp; first | exact hR | ((go_at_call 41; refine mcall (right1 a l _ hv.out ?_ ?_) hR; go_simp; go_simp))); simp only [Act.put, List.setIfInBounds_toArray, List.set_cons_zero, List.set_cons_succ]))
        refine mix_nil ?_
        intro w2 hw2
        obtain ⟨hcw2, hfw2⟩ := bcell hw2
        have hzw2 := bsize hw2
        (try simp only [World.size_alloc, World.size_setCell, World.size_drew, World.heap_drewN] at hcw2 hfw2 hzw2)
        go_wp2_with fail
        go_ret
        refine ⟨rfl, Bel.bel (B := _) ?_⟩
        (repeat (first | with_reducible assumption | with_reducible exact Bel.refl _ | with_reducible refine Bel.alloc ?_ _ | with_reducible refine Bel.drewN ?_ _ | with_reducible refine Bel.drew ?_ | (with_reducible refine Bel.setCell0 ?_ ?_ _; rotate_left; (first | omega | (simp; done) | (simp; omega))) | (with_reducible refine Bel.setCell ?_ (p := _) ?_ _; rotate_left; (first | (simp; done) | omega | (simp; omega))) | refine Bel.call ?_ (by assumption) | (refine EX.bel ?_ (by assumption) ?_; rotate_left; (first | omega | (simp; omega)))))
    · have hs : holdP a l x = false := by simp [holdP, h0]
      rw [hs]
      have h0I : decide (0 ≤ x) = false := by simp [h0]
      clear hA hs h0
      go_enter Try.func23, Try.ntmps23
      go_wp2_with fail
      refine region_mix (by kernel_rfl) (by kernel_rfl) (fun _ _ d _ _ h => by cases d <;> exact h) ?_
      repeat (first | ((first | refine mix_skip_t rfl rfl rfl (by with_reducible rfl) ?_ | refine mix_skip_f rfl rfl rfl (by with_reducible rfl) ?_ | refine mix_skip_u rfl rfl rfl (by with_reducible rfl) ?_); simp only [Act.put, List.setIfInBounds_toArray, List.set_cons_zero, List.set_cons_succ]) | (apply mix_take; (first | exact want_0 rfl | exact want_b rfl rfl rfl (by with_reducible rfl)); intro wq hwq R hR; ((have hcc := (bcell hwq).1; (try simp only [World.size_alloc, World.size_setCell, World.size_drew, World.heap_drewN] at hcc)); go_simp; first | exact hR | (fail)); simp only [Act.put, List.setIfInBounds_toArray, List.set_cons_zero, List.set_cons_succ]))
      refine mix_alone (by kernel_rfl) (by first | exact want_0 rfl | exact want_b rfl rfl rfl (by with_reducible rfl)) (fun w1 hw1 K hK => ?_)
      obtain ⟨hcw1, hfw1⟩ := bcell hw1
      have hzw1 := bsize hw1
      (try simp only [World.size_alloc, World.size_setCell, World.size_drew, World.heap_drewN] at hcw1 hfw1 hzw1)
      (try have l0w1 : w.heap.size ≤ w1.heap.size := by omega)
      (try have l1w1 : w.heap.size < w1.heap.size := by omega)
      (try have l2w1 : w.heap.size + 1 < w1.heap.size := by omega)
      go_simp
      refine hK _ _ (Bel.bel (B := _) ?_) ?_
      · (repeat (first | with_reducible assumption | with_reducible exact Bel.refl _ | with_reducible refine Bel.alloc ?_ _ | with_reducible refine Bel.drewN ?_ _ | with_reducible refine Bel.drew ?_ | (with_reducible refine Bel.setCell0 ?_ ?_ _; rotate_left; (first | omega | (simp; done) | (simp; omega))) | (with_reducible refine Bel.setCell ?_ (p := _) ?_ _; rotate_left; (first | (simp; done) | omega | (simp; omega))) | refine Bel.call ?_ (by assumption) | (refine EX.bel ?_ (by assumption) ?_; rotate_left; (first | omega | (simp; omega)))))
      clear hK K
      repeat (first | ((first | refine mix_skip_t rfl rfl rfl (by with_reducible rfl) ?_ | refine mix_skip_f rfl rfl rfl (by with_reducible rfl) ?_ | refine mix_skip_u rfl rfl rfl (by with_reducible rfl) ?_); simp only [Act.put, List.setIfInBounds_toArray, List.set_cons_zero, List.set_cons_succ]) | (apply mix_take; (first | exact want_0 rfl | exact want_b rfl rfl rfl (by with_reducible rfl)); intro wq hwq R hR; ((have hcc := (bcell hwq).1; (try simp only [World.size_alloc, World.size_setCell, World.size_drew, World.heap_drewN] at hcc)); go_simp; first | exact hR | ((go_at_call 41; refine mcall (right1 a l _ hv.out ?_ ?_) hR; go_simp; go_simp))); simp only [Act.put, List.setIfInBounds_toArray, List.set_cons_zero, List.set_cons_succ]))
      refine mix_nil ?_
      intro w2 hw2
      obtain ⟨hcw2, hfw2⟩ := bcell hw2
      have hzw2 := bsize hw2
      (try simp only [World.size_alloc, World.size_setCell, World.size_drew, World.heap_drewN] at hcw2 hfw2 hzw2)
      go_wp2_with fail
      go_ret
      refine ⟨rfl, Bel.bel (B := _) ?_⟩
      (repeat (first | with_reducible assumption | with_reducible exact Bel.refl _ | with_reducible refine Bel.alloc ?_ _ | with_reducible refine Bel.drewN ?_ _ | with_reducible refine Bel.drew ?_ | (with_reducible refine Bel.setCell0 ?_ ?_ _; rotate_left; (first | omega | (simp; done) | (simp; omega))) | (with_reducible refine Bel.setCell ?_ (p := _) ?_ _; rotate_left; (first | (simp; done) | omega | (simp; omega))) | refine Bel.call ?_ (by assumption) | (refine EX.bel ?_ (by assumption) ?_; rotate_left; (first | omega | (simp; omega)))))
def meetP (a l b m : Int) : Bool := insP a l b m || insP b m a l
set_option maxHeartbeats 1000000 in
theorem meets_any (a l b m : Int) (w : World) :
    Calls Try.prog 50 #[.agg #[.int .i64 a, .int .i64 l], .agg #[.int .i64 b, .int .i64 m]] w fun e w' => e = .returned (.bool (meetP a l b m)) ∧ Ext w w' := by
  unfold meetP
  cases hA : insP a l b m
  case true =>
    have hc := inside_any a l b m
    rw [hA] at hc
    replace hc := Lib.hid hc
    clear hA
    go_enter Try.func50, Try.ntmps50
    go_wp2_with fail
    refine (hc.out _).mono ?_
    rintro e w1 ⟨rfl, hw1⟩
    obtain ⟨hcw1, hfw1⟩ := bcell hw1
    have hzw1 := bsize hw1
    (try simp only [World.size_alloc, World.size_setCell, World.size_drew, World.heap_drewN] at hcw1 hfw1 hzw1)
    go_wp2_with fail
    go_ret
    refine ⟨rfl, Bel.bel (B := _) ?_⟩
    (repeat (first | with_reducible assumption | with_reducible exact Bel.refl _ | with_reducible refine Bel.alloc ?_ _ | with_reducible refine Bel.drewN ?_ _ | with_reducible refine Bel.drew ?_ | (with_reducible refine Bel.setCell0 ?_ ?_ _; rotate_left; (first | omega | (simp; done) | (simp; omega))) | (with_reducible refine Bel.setCell ?_ (p := _) ?_ _; rotate_left; (first | (simp; done) | omega | (simp; omega))) | refine Bel.call ?_ (by assumption) | (refine EX.bel ?_ (by assumption) ?_; rotate_left; (first | omega | (simp; omega)))))
  case false =>
    have hc := inside_any a l b m
    rw [hA] at hc
    replace hc := Lib.hid hc
    clear hA
    obtain ⟨r, hr⟩ : ∃ r, r = insP b m a l := ⟨_, rfl⟩
    have hd := inside_any b m a l
    rw [← hr] at hd ⊢
    clear hr
    replace hd := Lib.hid hd
    go_enter Try.func50, Try.ntmps50
    go_wp2_with fail
    refine (hc.out _).mono ?_
    rintro e w1 ⟨rfl, hw1⟩
    obtain ⟨hcw1, hfw1⟩ := bcell hw1
    have hzw1 := bsize hw1
    (try simp only [World.size_alloc, World.size_setCell, World.size_drew, World.heap_drewN] at hcw1 hfw1 hzw1)
    go_wp2_with fail
    refine (hd.out _).mono ?_
    rintro e w2 ⟨rfl, hw2⟩
    obtain ⟨hcw2, hfw2⟩ := bcell hw2
    have hzw2 := bsize hw2
    (try simp only [World.size_alloc, World.size_setCell, World.size_drew, World.heap_drewN] at hcw2 hfw2 hzw2)
    go_wp2_with fail
    go_ret
    refine ⟨rfl, Bel.bel (B := _) ?_⟩
    (repeat (first | with_reducible assumption | with_reducible exact Bel.refl _ | with_reducible refine Bel.alloc ?_ _ | with_reducible refine Bel.drewN ?_ _ | with_reducible refine Bel.drew ?_ | (with_reducible refine Bel.setCell0 ?_ ?_ _; rotate_left; (first | omega | (simp; done) | (simp; omega))) | (with_reducible refine Bel.setCell ?_ (p := _) ?_ _; rotate_left; (first | (simp; done) | omega | (simp; omega))) | refine Bel.call ?_ (by assumption) | (refine EX.bel ?_ (by assumption) ?_; rotate_left; (first | omega | (simp; omega)))))
end Go.Proofs.Ytflbpkgnadjokaa
