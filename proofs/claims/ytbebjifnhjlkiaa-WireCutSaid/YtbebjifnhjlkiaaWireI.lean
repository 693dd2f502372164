/- wire's laws: wireBegun. -/
import Derived.Test.YtbebjifnhjlkiaaWireH
namespace Go.Proofs.Ytbebjifnhjlkiaa
open Go Go.RowKit Go.Proofs
theorem rep_ten (w w' : World) (e : Ending) (h : RepAll (logS planL ++ ⟨#[120]⟩) w e w') : ∃ ao cap, e = .returned (.tuple #[.slice ao 10 cap, .int .i64 420, .int .i64 0]) ∧ Sl (fun b => w.heap.size ≤ b) w' 10 Cmd.R ao cap planL ∧ Ext w w' := by
  have hz : (logS planL ++ ⟨#[120]⟩ : ByteArray).size = 421 := by rw [ByteArray.size_append, planL_size]; rfl
  rcases h with ⟨-, n, ao, cap, hr, he, hs, hx⟩ | ⟨hg, -⟩
  · obtain rfl : n = 10 := hr.unique (log_replayed planL (by decide) ⟨#[120]⟩ (by decide))
    rw [cmdsOf_log planL planL_ok _ 10 (by decide)] at hs
    exact ⟨ao, cap, he, hs, hx⟩
  · omega
set_option maxHeartbeats 2000000 in
set_option maxRecDepth 100000 in
theorem wireBegun_any (w : World) :
    Calls Try.prog 13 #[] w fun e w' => e = .returned (.bool true) ∧ Ext w w' := by
  obtain ⟨s, hs⟩ : ∃ s, s = logS planL := ⟨_, rfl⟩
  have hsz : s.size = 420 := by rw [hs]; exact planL_size
  have hadd : ∀ W : World, (Op.stringOp .add s ⟨#[120]⟩).run Try.prog W = .ok (.string (s ++ ⟨#[120]⟩)) W := fun W => run_string_add_sum W s _ (by rw [hsz]; decide)
  have hlog := planL_log
  rw [← hs] at hlog
  have hrep := rep_ten
  rw [← hs] at hrep
  have hfr := fun W => frame_any ⟨#[97, 98]⟩ W (by decide)
  rw [frame_ab] at hfr
  replace hs := Lib.hid hs
  replace hlog := Lib.hid hlog
  replace hrep := Lib.hid hrep
  replace hfr := Lib.hid hfr
  go_enter Try.func13, Try.ntmps13
  go_wp2_with fail
  refine (plan_any _).mono ?_
  rintro e w1 ⟨b1, rfl, hsl1, hb1, hx1⟩
  have hl := log_any planL _ 10 w1 hsl1
  rw [hlog.out] at hl
  replace hl := Lib.hid hl
  go_wp2_with fail
  refine hl.out.mono ?_
  rintro e w2 ⟨rfl, hx2⟩
  clear hl
  go_wp2_with fail
  refine (replay_all _ _).mono ?_
  intro e w3 hr3
  obtain ⟨ao, cap, rfl, hsl3, hx3⟩ := hrep.out _ _ _ hr3
  clear hr3
  obtain ⟨b3, o3, rfl, hA3, hlt3, hc3⟩ := hsl3.cmd 3 (by decide)
  replace hc3 := Lib.hid hc3
  clear hsl3 hsl1
  go_wp2_with fail
  refine (hfr.out _).mono ?_
  rintro e w4 ⟨rfl, hx4⟩
  have hb3 := lt_of_cell (hc3.out 0 _ rfl)
  have k0 : w4.cell? ⟨b3, o3 + 30, none⟩ = some (.int .i64 8) := keepCell hx4 (hc3.out 0 _ rfl)
  have k1 : w4.cell? ⟨b3, o3 + 30 + 1, none⟩ = some (.int .i64 1) := keepCell hx4 (hc3.out 1 _ rfl)
  have k2 : w4.cell? ⟨b3, o3 + 30 + 2, none⟩ = some (.int .i64 7) := keepCell hx4 (hc3.out 2 _ rfl)
  have k3 : w4.cell? ⟨b3, o3 + 30 + 3, none⟩ = some (.int .i64 10) := keepCell hx4 (hc3.out 3 _ rfl)
  have k4 : w4.cell? ⟨b3, o3 + 30 + 4, none⟩ = some (.int .i64 0) := keepCell hx4 (hc3.out 4 _ rfl)
  have k5 : w4.cell? ⟨b3, o3 + 30 + 5, none⟩ = some (.int .i64 0) := keepCell hx4 (hc3.out 5 _ rfl)
  have k6 : w4.cell? ⟨b3, o3 + 30 + 6, none⟩ = some (.int .i64 0) := keepCell hx4 (hc3.out 6 _ rfl)
  have k7 : w4.cell? ⟨b3, o3 + 30 + 7, none⟩ = some (.int .i64 0) := keepCell hx4 (hc3.out 7 _ rfl)
  have k8 : w4.cell? ⟨b3, o3 + 30 + 8, none⟩ = some (.int .i64 0) := keepCell hx4 (hc3.out 8 _ rfl)
  have k9 : w4.cell? ⟨b3, o3 + 30 + 9, none⟩ = some (.int .i64 0) := keepCell hx4 (hc3.out 9 _ rfl)
  clear hc3
  go_wp2_with fail
  refine region_any (by kernel_rfl) ?_
  refine any_one 0 (by kernel_rfl) rfl rfl (fun K hK => ?_)
  go_simp
  refine hK _ _ ?_
  clear hK K
  refine any_one 1 (by kernel_rfl) rfl rfl (fun K hK => ?_)
  go_simp
  refine hK _ _ ?_
  clear hK K
  refine any_one 2 (by kernel_rfl) rfl rfl (fun K hK => ?_)
  go_simp
  refine hK _ _ ?_
  clear hK K
  refine any_one 3 (by kernel_rfl) rfl rfl (fun K hK => ?_)
  go_simp
  refine hK _ _ ?_
  clear hK K
  refine any_one 4 (by kernel_rfl) rfl rfl (fun K hK => ?_)
  go_simp
  refine hK _ _ ?_
  clear hK K
  refine any_one 5 (by kernel_rfl) rfl rfl (fun K hK => ?_)
  go_simp
  refine hK _ _ ?_
  clear hK K
  refine any_one 6 (by kernel_rfl) rfl rfl (fun K hK => ?_)
  go_simp
  refine hK _ _ ?_
  clear hK K
  refine any_one 7 (by kernel_rfl) rfl rfl (fun K hK => ?_)
  go_simp
  refine hK _ _ ?_
  clear hK K
  refine any_one 8 (by kernel_rfl) rfl rfl (fun K hK => ?_)
  go_simp
  refine hK _ _ ?_
  clear hK K
  refine any_one 9 (by kernel_rfl) rfl rfl (fun K hK => ?_)
  go_simp
  refine hK _ _ ?_
  clear hK K
  refine any_one 10 (by kernel_rfl) rfl rfl (fun K hK => ?_)
  go_simp
  refine hK _ _ ?_
  clear hK K
  refine any_one 11 (by kernel_rfl) rfl rfl (fun K hK => ?_)
  go_simp
  refine hK _ _ ?_
  clear hK K
  refine any_one 12 (by kernel_rfl) rfl rfl (fun K hK => ?_)
  go_simp
  refine hK _ _ ?_
  clear hK K
  refine any_one 13 (by kernel_rfl) rfl rfl (fun K hK => ?_)
  go_simp
  refine hK _ _ ?_
  clear hK K
  refine any_one 14 (by kernel_rfl) rfl rfl (fun K hK => ?_)
  go_simp
  refine hK _ _ ?_
  clear hK K
  refine any_one 15 (by kernel_rfl) rfl rfl (fun K hK => ?_)
  go_simp
  refine hK _ _ ?_
  clear hK K
  refine any_one 16 (by kernel_rfl) rfl rfl (fun K hK => ?_)
  go_simp
  refine hK _ _ ?_
  clear hK K
  refine any_one 17 (by kernel_rfl) rfl rfl (fun K hK => ?_)
  go_simp
  refine hK _ _ ?_
  clear hK K
  refine any_one 18 (by kernel_rfl) rfl rfl (fun K hK => ?_)
  go_simp
  refine hK _ _ ?_
  clear hK K
  refine any_one 19 (by kernel_rfl) rfl rfl (fun K hK => ?_)
  go_simp
  refine hK _ _ ?_
  clear hK K
  refine any_one 20 (by kernel_rfl) rfl rfl (fun K hK => ?_)
  go_simp
  refine hK _ _ ?_
  clear hK K
  refine any_one 21 (by kernel_rfl) rfl rfl (fun K hK => ?_)
  go_simp
  refine hK _ _ ?_
  clear hK K
  refine any_one 22 (by kernel_rfl) rfl rfl (fun K hK => ?_)
  go_simp
  refine hK _ _ ?_
  clear hK K
  refine any_one 23 (by kernel_rfl) rfl rfl (fun K hK => ?_)
  go_simp
  refine hK _ _ ?_
  clear hK K
  refine any_one 24 (by kernel_rfl) rfl rfl (fun K hK => ?_)
  go_simp
  refine hK _ _ ?_
  clear hK K
  refine any_two 25 28 (by kernel_rfl) rfl rfl rfl (fun K hK => ?_) (fun K hK => ?_)
  · skip
    go_simp
    refine hK _ _ ?_
    clear hK K
    refine any_two 26 28 (by kernel_rfl) rfl rfl rfl (fun K hK => ?_) (fun K hK => ?_)
    · skip
      go_simp
      refine hK _ _ ?_
      clear hK K
      refine any_two 27 28 (by kernel_rfl) rfl rfl rfl (fun K hK => ?_) (fun K hK => ?_)
      · skip
        go_simp
        refine hK _ _ ?_
        clear hK K
        refine any_one 28 (by kernel_rfl) rfl rfl (fun K hK => ?_)
        go_simp
        refine (plan_any _).mono ?_
        rintro e w5 ⟨b5, rfl, hsl5, hb5, hx5⟩
        have p0 : w5.cell? ⟨b3, o3 + 30, none⟩ = some (.int .i64 8) := keepCell hx5 (by simpa using k0)
        have p1 : w5.cell? ⟨b3, o3 + 30 + 1, none⟩ = some (.int .i64 1) := keepCell hx5 (by simpa using k1)
        have p2 : w5.cell? ⟨b3, o3 + 30 + 2, none⟩ = some (.int .i64 7) := keepCell hx5 (by simpa using k2)
        have p3 : w5.cell? ⟨b3, o3 + 30 + 3, none⟩ = some (.int .i64 10) := keepCell hx5 (by simpa using k3)
        have p4 : w5.cell? ⟨b3, o3 + 30 + 4, none⟩ = some (.int .i64 0) := keepCell hx5 (by simpa using k4)
        have p5 : w5.cell? ⟨b3, o3 + 30 + 5, none⟩ = some (.int .i64 0) := keepCell hx5 (by simpa using k5)
        have p6 : w5.cell? ⟨b3, o3 + 30 + 6, none⟩ = some (.int .i64 0) := keepCell hx5 (by simpa using k6)
        have p7 : w5.cell? ⟨b3, o3 + 30 + 7, none⟩ = some (.int .i64 0) := keepCell hx5 (by simpa using k7)
        have p8 : w5.cell? ⟨b3, o3 + 30 + 8, none⟩ = some (.int .i64 0) := keepCell hx5 (by simpa using k8)
        have p9 : w5.cell? ⟨b3, o3 + 30 + 9, none⟩ = some (.int .i64 0) := keepCell hx5 (by simpa using k9)
        obtain ⟨c5, o5, hao5, -, hlt5, hc5⟩ := hsl5.cmd 3 (by decide)
        cases hao5
        have q0 : w5.cell? ⟨b5, 30, none⟩ = some (.int .i64 8) := hc5 0 _ rfl
        have q1 : w5.cell? ⟨b5, 30 + 1, none⟩ = some (.int .i64 1) := hc5 1 _ rfl
        have q2 : w5.cell? ⟨b5, 30 + 2, none⟩ = some (.int .i64 7) := hc5 2 _ rfl
        have q3 : w5.cell? ⟨b5, 30 + 3, none⟩ = some (.int .i64 10) := hc5 3 _ rfl
        have q4 : w5.cell? ⟨b5, 30 + 4, none⟩ = some (.int .i64 0) := hc5 4 _ rfl
        have q5 : w5.cell? ⟨b5, 30 + 5, none⟩ = some (.int .i64 0) := hc5 5 _ rfl
        have q6 : w5.cell? ⟨b5, 30 + 6, none⟩ = some (.int .i64 0) := hc5 6 _ rfl
        have q7 : w5.cell? ⟨b5, 30 + 7, none⟩ = some (.int .i64 0) := hc5 7 _ rfl
        have q8 : w5.cell? ⟨b5, 30 + 8, none⟩ = some (.int .i64 0) := hc5 8 _ rfl
        have q9 : w5.cell? ⟨b5, 30 + 9, none⟩ = some (.int .i64 0) := hc5 9 _ rfl
        have hlt3 := lt_of_cell p0
        clear hc5 hsl5 k0 k1 k2 k3 k4 k5 k6 k7 k8 k9
        go_simp
        refine hK _ _ ?_
        clear hK K
        refine any_one 29 (by kernel_rfl) rfl rfl (fun K hK => ?_)
        go_simp
        refine hK _ _ ?_
        clear hK K
        refine any_one 30 (by kernel_rfl) rfl rfl (fun K hK => ?_)
        go_simp
        refine hK _ _ ?_
        clear hK K
        refine any_quiet 31 rfl (by kernel_rfl) (by kernel_rfl) ?_
        simp only [List.drop_succ_cons, List.drop_zero, Act.put, List.setIfInBounds_toArray, List.set_cons_zero, List.set_cons_succ]
        repeat (first | ((first | refine skip_t rfl rfl rfl (by with_reducible rfl) ?_ | refine skip_f rfl rfl rfl (by with_reducible rfl) ?_ | refine skip_u rfl rfl rfl (by with_reducible rfl) ?_); simp only [Act.put, List.setIfInBounds_toArray, List.set_cons_zero, List.set_cons_succ]) | (apply quiet_take; (first | exact want_0 rfl | exact want_b rfl rfl rfl (by with_reducible rfl)); intro wq hwq R hR; (have hcc := (bcell hwq).1; (try simp only [World.size_alloc, World.size_setCell, World.size_drew, World.heap_drewN] at hcc); go_simp; first | exact hR | (fail)); simp only [Act.put, List.setIfInBounds_toArray, List.set_cons_zero, List.set_cons_succ]))
        refine wpQuiet_nil ?_
        intro w6 hw6
        obtain ⟨hcw6, hfw6⟩ := bcell hw6
        have hzw6 := bsize hw6
        (try simp only [World.size_alloc, World.size_setCell, World.size_drew, World.heap_drewN] at hcw6 hfw6 hzw6)
        go_wp2_with fail
        go_ret
        refine ⟨rfl, Bel.bel (B := _) ?_⟩
        (repeat (first | with_reducible assumption | with_reducible exact Bel.refl _ | with_reducible refine Bel.alloc ?_ _ | with_reducible refine Bel.drewN ?_ _ | with_reducible refine Bel.drew ?_ | (with_reducible refine Bel.setCell ?_ (p := _) ?_ _; rotate_left; (first | exact Nat.le_refl _ | (simp; done) | omega | (simp; omega))) | refine Bel.call ?_ (by assumption)))
      · skip
        go_simp
        refine (plan_any _).mono ?_
        rintro e w5 ⟨b5, rfl, hsl5, hb5, hx5⟩
        have p0 : w5.cell? ⟨b3, o3 + 30, none⟩ = some (.int .i64 8) := keepCell hx5 (by simpa using k0)
        have p1 : w5.cell? ⟨b3, o3 + 30 + 1, none⟩ = some (.int .i64 1) := keepCell hx5 (by simpa using k1)
        have p2 : w5.cell? ⟨b3, o3 + 30 + 2, none⟩ = some (.int .i64 7) := keepCell hx5 (by simpa using k2)
        have p3 : w5.cell? ⟨b3, o3 + 30 + 3, none⟩ = some (.int .i64 10) := keepCell hx5 (by simpa using k3)
        have p4 : w5.cell? ⟨b3, o3 + 30 + 4, none⟩ = some (.int .i64 0) := keepCell hx5 (by simpa using k4)
        have p5 : w5.cell? ⟨b3, o3 + 30 + 5, none⟩ = some (.int .i64 0) := keepCell hx5 (by simpa using k5)
        have p6 : w5.cell? ⟨b3, o3 + 30 + 6, none⟩ = some (.int .i64 0) := keepCell hx5 (by simpa using k6)
        have p7 : w5.cell? ⟨b3, o3 + 30 + 7, none⟩ = some (.int .i64 0) := keepCell hx5 (by simpa using k7)
        have p8 : w5.cell? ⟨b3, o3 + 30 + 8, none⟩ = some (.int .i64 0) := keepCell hx5 (by simpa using k8)
        have p9 : w5.cell? ⟨b3, o3 + 30 + 9, none⟩ = some (.int .i64 0) := keepCell hx5 (by simpa using k9)
        obtain ⟨c5, o5, hao5, -, hlt5, hc5⟩ := hsl5.cmd 3 (by decide)
        cases hao5
        have q0 : w5.cell? ⟨b5, 30, none⟩ = some (.int .i64 8) := hc5 0 _ rfl
        have q1 : w5.cell? ⟨b5, 30 + 1, none⟩ = some (.int .i64 1) := hc5 1 _ rfl
        have q2 : w5.cell? ⟨b5, 30 + 2, none⟩ = some (.int .i64 7) := hc5 2 _ rfl
        have q3 : w5.cell? ⟨b5, 30 + 3, none⟩ = some (.int .i64 10) := hc5 3 _ rfl
        have q4 : w5.cell? ⟨b5, 30 + 4, none⟩ = some (.int .i64 0) := hc5 4 _ rfl
        have q5 : w5.cell? ⟨b5, 30 + 5, none⟩ = some (.int .i64 0) := hc5 5 _ rfl
        have q6 : w5.cell? ⟨b5, 30 + 6, none⟩ = some (.int .i64 0) := hc5 6 _ rfl
        have q7 : w5.cell? ⟨b5, 30 + 7, none⟩ = some (.int .i64 0) := hc5 7 _ rfl
        have q8 : w5.cell? ⟨b5, 30 + 8, none⟩ = some (.int .i64 0) := hc5 8 _ rfl
        have q9 : w5.cell? ⟨b5, 30 + 9, none⟩ = some (.int .i64 0) := hc5 9 _ rfl
        have hlt3 := lt_of_cell p0
        clear hc5 hsl5 k0 k1 k2 k3 k4 k5 k6 k7 k8 k9
        go_simp
        refine hK _ _ ?_
        clear hK K
        refine any_two 27 29 (by kernel_rfl) rfl rfl rfl (fun K hK => ?_) (fun K hK => ?_)
        · skip
          go_simp
          refine hK _ _ ?_
          clear hK K
          refine any_one 29 (by kernel_rfl) rfl rfl (fun K hK => ?_)
          go_simp
          refine hK _ _ ?_
          clear hK K
          refine any_one 30 (by kernel_rfl) rfl rfl (fun K hK => ?_)
          go_simp
          refine hK _ _ ?_
          clear hK K
          refine any_quiet 31 rfl (by kernel_rfl) (by kernel_rfl) ?_
          simp only [List.drop_succ_cons, List.drop_zero, Act.put, List.setIfInBounds_toArray, List.set_cons_zero, List.set_cons_succ]
          repeat (first | ((first | refine skip_t rfl rfl rfl (by with_reducible rfl) ?_ | refine skip_f rfl rfl rfl (by with_reducible rfl) ?_ | refine skip_u rfl rfl rfl (by with_reducible rfl) ?_); simp only [Act.put, List.setIfInBounds_toArray, List.set_cons_zero, List.set_cons_succ]) | (apply quiet_take; (first | exact want_0 rfl | exact want_b rfl rfl rfl (by with_reducible rfl)); intro wq hwq R hR; (have hcc := (bcell hwq).1; (try simp only [World.size_alloc, World.size_setCell, World.size_drew, World.heap_drewN] at hcc); go_simp; first | exact hR | (fail)); simp only [Act.put, List.setIfInBounds_toArray, List.set_cons_zero, List.set_cons_succ]))
          refine wpQuiet_nil ?_
          intro w6 hw6
          obtain ⟨hcw6, hfw6⟩ := bcell hw6
          have hzw6 := bsize hw6
          (try simp only [World.size_alloc, World.size_setCell, World.size_drew, World.heap_drewN] at hcw6 hfw6 hzw6)
          go_wp2_with fail
          go_ret
          refine ⟨rfl, Bel.bel (B := _) ?_⟩
          (repeat (first | with_reducible assumption | with_reducible exact Bel.refl _ | with_reducible refine Bel.alloc ?_ _ | with_reducible refine Bel.drewN ?_ _ | with_reducible refine Bel.drew ?_ | (with_reducible refine Bel.setCell ?_ (p := _) ?_ _; rotate_left; (first | exact Nat.le_refl _ | (simp; done) | omega | (simp; omega))) | refine Bel.call ?_ (by assumption)))
        · skip
          go_simp
          refine hK _ _ ?_
          clear hK K
          refine any_two 27 30 (by kernel_rfl) rfl rfl rfl (fun K hK => ?_) (fun K hK => ?_)
          · skip
            go_simp
            refine hK _ _ ?_
            clear hK K
            refine any_one 30 (by kernel_rfl) rfl rfl (fun K hK => ?_)
            go_simp
            refine hK _ _ ?_
            clear hK K
            refine any_quiet 31 rfl (by kernel_rfl) (by kernel_rfl) ?_
            simp only [List.drop_succ_cons, List.drop_zero, Act.put, List.setIfInBounds_toArray, List.set_cons_zero, List.set_cons_succ]
            repeat (first | ((first | refine skip_t rfl rfl rfl (by with_reducible rfl) ?_ | refine skip_f rfl rfl rfl (by with_reducible rfl) ?_ | refine skip_u rfl rfl rfl (by with_reducible rfl) ?_); simp only [Act.put, List.setIfInBounds_toArray, List.set_cons_zero, List.set_cons_succ]) | (apply quiet_take; (first | exact want_0 rfl | exact want_b rfl rfl rfl (by with_reducible rfl)); intro wq hwq R hR; (have hcc := (bcell hwq).1; (try simp only [World.size_alloc, World.size_setCell, World.size_drew, World.heap_drewN] at hcc); go_simp; first | exact hR | (fail)); simp only [Act.put, List.setIfInBounds_toArray, List.set_cons_zero, List.set_cons_succ]))
            refine wpQuiet_nil ?_
            intro w6 hw6
            obtain ⟨hcw6, hfw6⟩ := bcell hw6
            have hzw6 := bsize hw6
            (try simp only [World.size_alloc, World.size_setCell, World.size_drew, World.heap_drewN] at hcw6 hfw6 hzw6)
            go_wp2_with fail
            go_ret
            refine ⟨rfl, Bel.bel (B := _) ?_⟩
            (repeat (first | with_reducible assumption | with_reducible exact Bel.refl _ | with_reducible refine Bel.alloc ?_ _ | with_reducible refine Bel.drewN ?_ _ | with_reducible refine Bel.drew ?_ | (with_reducible refine Bel.setCell ?_ (p := _) ?_ _; rotate_left; (first | exact Nat.le_refl _ | (simp; done) | omega | (simp; omega))) | refine Bel.call ?_ (by assumption)))
          · skip
            go_simp
            refine hK _ _ ?_
            clear hK K
            refine any_one 27 (by kernel_rfl) rfl rfl (fun K hK => ?_)
            go_simp
            refine hK _ _ ?_
            clear hK K
            refine any_quiet 31 rfl (by kernel_rfl) (by kernel_rfl) ?_
            simp only [List.drop_succ_cons, List.drop_zero, Act.put, List.setIfInBounds_toArray, List.set_cons_zero, List.set_cons_succ]
            repeat (first | ((first | refine skip_t rfl rfl rfl (by with_reducible rfl) ?_ | refine skip_f rfl rfl rfl (by with_reducible rfl) ?_ | refine skip_u rfl rfl rfl (by with_reducible rfl) ?_); simp only [Act.put, List.setIfInBounds_toArray, List.set_cons_zero, List.set_cons_succ]) | (apply quiet_take; (first | exact want_0 rfl | exact want_b rfl rfl rfl (by with_reducible rfl)); intro wq hwq R hR; (have hcc := (bcell hwq).1; (try simp only [World.size_alloc, World.size_setCell, World.size_drew, World.heap_drewN] at hcc); go_simp; first | exact hR | (fail)); simp only [Act.put, List.setIfInBounds_toArray, List.set_cons_zero, List.set_cons_succ]))
            refine wpQuiet_nil ?_
            intro w6 hw6
            obtain ⟨hcw6, hfw6⟩ := bcell hw6
            have hzw6 := bsize hw6
            (try simp only [World.size_alloc, World.size_setCell, World.size_drew, World.heap_drewN] at hcw6 hfw6 hzw6)
            go_wp2_with fail
            go_ret
            refine ⟨rfl, Bel.bel (B := _) ?_⟩
            (repeat (first | with_reducible assumption | with_reducible exact Bel.refl _ | with_reducible refine Bel.alloc ?_ _ | with_reducible refine Bel.drewN ?_ _ | with_reducible refine Bel.drew ?_ | (with_reducible refine Bel.setCell ?_ (p := _) ?_ _; rotate_left; (first | exact Nat.le_refl _ | (simp; done) | omega | (simp; omega))) | refine Bel.call ?_ (by assumption)))
    · skip
      go_simp
      refine (plan_any _).mono ?_
      rintro e w5 ⟨b5, rfl, hsl5, hb5, hx5⟩
      have p0 : w5.cell? ⟨b3, o3 + 30, none⟩ = some (.int .i64 8) := keepCell hx5 (by simpa using k0)
      have p1 : w5.cell? ⟨b3, o3 + 30 + 1, none⟩ = some (.int .i64 1) := keepCell hx5 (by simpa using k1)
      have p2 : w5.cell? ⟨b3, o3 + 30 + 2, none⟩ = some (.int .i64 7) := keepCell hx5 (by simpa using k2)
      have p3 : w5.cell? ⟨b3, o3 + 30 + 3, none⟩ = some (.int .i64 10) := keepCell hx5 (by simpa using k3)
      have p4 : w5.cell? ⟨b3, o3 + 30 + 4, none⟩ = some (.int .i64 0) := keepCell hx5 (by simpa using k4)
      have p5 : w5.cell? ⟨b3, o3 + 30 + 5, none⟩ = some (.int .i64 0) := keepCell hx5 (by simpa using k5)
      have p6 : w5.cell? ⟨b3, o3 + 30 + 6, none⟩ = some (.int .i64 0) := keepCell hx5 (by simpa using k6)
      have p7 : w5.cell? ⟨b3, o3 + 30 + 7, none⟩ = some (.int .i64 0) := keepCell hx5 (by simpa using k7)
      have p8 : w5.cell? ⟨b3, o3 + 30 + 8, none⟩ = some (.int .i64 0) := keepCell hx5 (by simpa using k8)
      have p9 : w5.cell? ⟨b3, o3 + 30 + 9, none⟩ = some (.int .i64 0) := keepCell hx5 (by simpa using k9)
      obtain ⟨c5, o5, hao5, -, hlt5, hc5⟩ := hsl5.cmd 3 (by decide)
      cases hao5
      have q0 : w5.cell? ⟨b5, 30, none⟩ = some (.int .i64 8) := hc5 0 _ rfl
      have q1 : w5.cell? ⟨b5, 30 + 1, none⟩ = some (.int .i64 1) := hc5 1 _ rfl
      have q2 : w5.cell? ⟨b5, 30 + 2, none⟩ = some (.int .i64 7) := hc5 2 _ rfl
      have q3 : w5.cell? ⟨b5, 30 + 3, none⟩ = some (.int .i64 10) := hc5 3 _ rfl
      have q4 : w5.cell? ⟨b5, 30 + 4, none⟩ = some (.int .i64 0) := hc5 4 _ rfl
      have q5 : w5.cell? ⟨b5, 30 + 5, none⟩ = some (.int .i64 0) := hc5 5 _ rfl
      have q6 : w5.cell? ⟨b5, 30 + 6, none⟩ = some (.int .i64 0) := hc5 6 _ rfl
      have q7 : w5.cell? ⟨b5, 30 + 7, none⟩ = some (.int .i64 0) := hc5 7 _ rfl
      have q8 : w5.cell? ⟨b5, 30 + 8, none⟩ = some (.int .i64 0) := hc5 8 _ rfl
      have q9 : w5.cell? ⟨b5, 30 + 9, none⟩ = some (.int .i64 0) := hc5 9 _ rfl
      have hlt3 := lt_of_cell p0
      clear hc5 hsl5 k0 k1 k2 k3 k4 k5 k6 k7 k8 k9
      go_simp
      refine hK _ _ ?_
      clear hK K
      refine any_two 26 29 (by kernel_rfl) rfl rfl rfl (fun K hK => ?_) (fun K hK => ?_)
      · skip
        go_simp
        refine hK _ _ ?_
        clear hK K
        refine any_two 27 29 (by kernel_rfl) rfl rfl rfl (fun K hK => ?_) (fun K hK => ?_)
        · skip
          go_simp
          refine hK _ _ ?_
          clear hK K
          refine any_one 29 (by kernel_rfl) rfl rfl (fun K hK => ?_)
          go_simp
          refine hK _ _ ?_
          clear hK K
          refine any_one 30 (by kernel_rfl) rfl rfl (fun K hK => ?_)
          go_simp
          refine hK _ _ ?_
          clear hK K
          refine any_quiet 31 rfl (by kernel_rfl) (by kernel_rfl) ?_
          simp only [List.drop_succ_cons, List.drop_zero, Act.put, List.setIfInBounds_toArray, List.set_cons_zero, List.set_cons_succ]
          repeat (first | ((first | refine skip_t rfl rfl rfl (by with_reducible rfl) ?_ | refine skip_f rfl rfl rfl (by with_reducible rfl) ?_ | refine skip_u rfl rfl rfl (by with_reducible rfl) ?_); simp only [Act.put, List.setIfInBounds_toArray, List.set_cons_zero, List.set_cons_succ]) | (apply quiet_take; (first | exact want_0 rfl | exact want_b rfl rfl rfl (by with_reducible rfl)); intro wq hwq R hR; (have hcc := (bcell hwq).1; (try simp only [World.size_alloc, World.size_setCell, World.size_drew, World.heap_drewN] at hcc); go_simp; first | exact hR | (fail)); simp only [Act.put, List.setIfInBounds_toArray, List.set_cons_zero, List.set_cons_succ]))
          refine wpQuiet_nil ?_
          intro w6 hw6
          obtain ⟨hcw6, hfw6⟩ := bcell hw6
          have hzw6 := bsize hw6
          (try simp only [World.size_alloc, World.size_setCell, World.size_drew, World.heap_drewN] at hcw6 hfw6 hzw6)
          go_wp2_with fail
          go_ret
          refine ⟨rfl, Bel.bel (B := _) ?_⟩
          (repeat (first | with_reducible assumption | with_reducible exact Bel.refl _ | with_reducible refine Bel.alloc ?_ _ | with_reducible refine Bel.drewN ?_ _ | with_reducible refine Bel.drew ?_ | (with_reducible refine Bel.setCell ?_ (p := _) ?_ _; rotate_left; (first | exact Nat.le_refl _ | (simp; done) | omega | (simp; omega))) | refine Bel.call ?_ (by assumption)))
        · skip
          go_simp
          refine hK _ _ ?_
          clear hK K
          refine any_two 27 30 (by kernel_rfl) rfl rfl rfl (fun K hK => ?_) (fun K hK => ?_)
          · skip
            go_simp
            refine hK _ _ ?_
            clear hK K
            refine any_one 30 (by kernel_rfl) rfl rfl (fun K hK => ?_)
            go_simp
            refine hK _ _ ?_
            clear hK K
            refine any_quiet 31 rfl (by kernel_rfl) (by kernel_rfl) ?_
            simp only [List.drop_succ_cons, List.drop_zero, Act.put, List.setIfInBounds_toArray, List.set_cons_zero, List.set_cons_succ]
            repeat (first | ((first | refine skip_t rfl rfl rfl (by with_reducible rfl) ?_ | refine skip_f rfl rfl rfl (by with_reducible rfl) ?_ | refine skip_u rfl rfl rfl (by with_reducible rfl) ?_); simp only [Act.put, List.setIfInBounds_toArray, List.set_cons_zero, List.set_cons_succ]) | (apply quiet_take; (first | exact want_0 rfl | exact want_b rfl rfl rfl (by with_reducible rfl)); intro wq hwq R hR; (have hcc := (bcell hwq).1; (try simp only [World.size_alloc, World.size_setCell, World.size_drew, World.heap_drewN] at hcc); go_simp; first | exact hR | (fail)); simp only [Act.put, List.setIfInBounds_toArray, List.set_cons_zero, List.set_cons_succ]))
            refine wpQuiet_nil ?_
            intro w6 hw6
            obtain ⟨hcw6, hfw6⟩ := bcell hw6
            have hzw6 := bsize hw6
            (try simp only [World.size_alloc, World.size_setCell, World.size_drew, World.heap_drewN] at hcw6 hfw6 hzw6)
            go_wp2_with fail
            go_ret
            refine ⟨rfl, Bel.bel (B := _) ?_⟩
            (repeat (first | with_reducible assumption | with_reducible exact Bel.refl _ | with_reducible refine Bel.alloc ?_ _ | with_reducible refine Bel.drewN ?_ _ | with_reducible refine Bel.drew ?_ | (with_reducible refine Bel.setCell ?_ (p := _) ?_ _; rotate_left; (first | exact Nat.le_refl _ | (simp; done) | omega | (simp; omega))) | refine Bel.call ?_ (by assumption)))
          · skip
            go_simp
            refine hK _ _ ?_
            clear hK K
            refine any_one 27 (by kernel_rfl) rfl rfl (fun K hK => ?_)
            go_simp
            refine hK _ _ ?_
            clear hK K
            refine any_quiet 31 rfl (by kernel_rfl) (by kernel_rfl) ?_
            simp only [List.drop_succ_cons, List.drop_zero, Act.put, List.setIfInBounds_toArray, List.set_cons_zero, List.set_cons_succ]
            repeat (first | ((first | refine skip_t rfl rfl rfl (by with_reducible rfl) ?_ | refine skip_f rfl rfl rfl (by with_reducible rfl) ?_ | refine skip_u rfl rfl rfl (by with_reducible rfl) ?_); simp only [Act.put, List.setIfInBounds_toArray, List.set_cons_zero, List.set_cons_succ]) | (apply quiet_take; (first | exact want_0 rfl | exact want_b rfl rfl rfl (by with_reducible rfl)); intro wq hwq R hR; (have hcc := (bcell hwq).1; (try simp only [World.size_alloc, World.size_setCell, World.size_drew, World.heap_drewN] at hcc); go_simp; first | exact hR | (fail)); simp only [Act.put, List.setIfInBounds_toArray, List.set_cons_zero, List.set_cons_succ]))
            refine wpQuiet_nil ?_
            intro w6 hw6
            obtain ⟨hcw6, hfw6⟩ := bcell hw6
            have hzw6 := bsize hw6
            (try simp only [World.size_alloc, World.size_setCell, World.size_drew, World.heap_drewN] at hcw6 hfw6 hzw6)
            go_wp2_with fail
            go_ret
            refine ⟨rfl, Bel.bel (B := _) ?_⟩
            (repeat (first | with_reducible assumption | with_reducible exact Bel.refl _ | with_reducible refine Bel.alloc ?_ _ | with_reducible refine Bel.drewN ?_ _ | with_reducible refine Bel.drew ?_ | (with_reducible refine Bel.setCell ?_ (p := _) ?_ _; rotate_left; (first | exact Nat.le_refl _ | (simp; done) | omega | (simp; omega))) | refine Bel.call ?_ (by assumption)))
      · skip
        go_simp
        refine hK _ _ ?_
        clear hK K
        refine any_two 26 30 (by kernel_rfl) rfl rfl rfl (fun K hK => ?_) (fun K hK => ?_)
        · skip
          go_simp
          refine hK _ _ ?_
          clear hK K
          refine any_two 27 30 (by kernel_rfl) rfl rfl rfl (fun K hK => ?_) (fun K hK => ?_)
          · skip
            go_simp
            refine hK _ _ ?_
            clear hK K
            refine any_one 30 (by kernel_rfl) rfl rfl (fun K hK => ?_)
            go_simp
            refine hK _ _ ?_
            clear hK K
            refine any_quiet 31 rfl (by kernel_rfl) (by kernel_rfl) ?_
            simp only [List.drop_succ_cons, List.drop_zero, Act.put, List.setIfInBounds_toArray, List.set_cons_zero, List.set_cons_succ]
            repeat (first | ((first | refine skip_t rfl rfl rfl (by with_reducible rfl) ?_ | refine skip_f rfl rfl rfl (by with_reducible rfl) ?_ | refine skip_u rfl rfl rfl (by with_reducible rfl) ?_); simp only [Act.put, List.setIfInBounds_toArray, List.set_cons_zero, List.set_cons_succ]) | (apply quiet_take; (first | exact want_0 rfl | exact want_b rfl rfl rfl (by with_reducible rfl)); intro wq hwq R hR; (have hcc := (bcell hwq).1; (try simp only [World.size_alloc, World.size_setCell, World.size_drew, World.heap_drewN] at hcc); go_simp; first | exact hR | (fail)); simp only [Act.put, List.setIfInBounds_toArray, List.set_cons_zero, List.set_cons_succ]))
            refine wpQuiet_nil ?_
            intro w6 hw6
            obtain ⟨hcw6, hfw6⟩ := bcell hw6
            have hzw6 := bsize hw6
            (try simp only [World.size_alloc, World.size_setCell, World.size_drew, World.heap_drewN] at hcw6 hfw6 hzw6)
            go_wp2_with fail
            go_ret
            refine ⟨rfl, Bel.bel (B := _) ?_⟩
            (repeat (first | with_reducible assumption | with_reducible exact Bel.refl _ | with_reducible refine Bel.alloc ?_ _ | with_reducible refine Bel.drewN ?_ _ | with_reducible refine Bel.drew ?_ | (with_reducible refine Bel.setCell ?_ (p := _) ?_ _; rotate_left; (first | exact Nat.le_refl _ | (simp; done) | omega | (simp; omega))) | refine Bel.call ?_ (by assumption)))
          · skip
            go_simp
            refine hK _ _ ?_
            clear hK K
            refine any_one 27 (by kernel_rfl) rfl rfl (fun K hK => ?_)
            go_simp
            refine hK _ _ ?_
            clear hK K
            refine any_quiet 31 rfl (by kernel_rfl) (by kernel_rfl) ?_
            simp only [List.drop_succ_cons, List.drop_zero, Act.put, List.setIfInBounds_toArray, List.set_cons_zero, List.set_cons_succ]
            repeat (first | ((first | refine skip_t rfl rfl rfl (by with_reducible rfl) ?_ | refine skip_f rfl rfl rfl (by with_reducible rfl) ?_ | refine skip_u rfl rfl rfl (by with_reducible rfl) ?_); simp only [Act.put, List.setIfInBounds_toArray, List.set_cons_zero, List.set_cons_succ]) | (apply quiet_take; (first | exact want_0 rfl | exact want_b rfl rfl rfl (by with_reducible rfl)); intro wq hwq R hR; (have hcc := (bcell hwq).1; (try simp only [World.size_alloc, World.size_setCell, World.size_drew, World.heap_drewN] at hcc); go_simp; first | exact hR | (fail)); simp only [Act.put, List.setIfInBounds_toArray, List.set_cons_zero, List.set_cons_succ]))
            refine wpQuiet_nil ?_
            intro w6 hw6
            obtain ⟨hcw6, hfw6⟩ := bcell hw6
            have hzw6 := bsize hw6
            (try simp only [World.size_alloc, World.size_setCell, World.size_drew, World.heap_drewN] at hcw6 hfw6 hzw6)
            go_wp2_with fail
            go_ret
            refine ⟨rfl, Bel.bel (B := _) ?_⟩
            (repeat (first | with_reducible assumption | with_reducible exact Bel.refl _ | with_reducible refine Bel.alloc ?_ _ | with_reducible refine Bel.drewN ?_ _ | with_reducible refine Bel.drew ?_ | (with_reducible refine Bel.setCell ?_ (p := _) ?_ _; rotate_left; (first | exact Nat.le_refl _ | (simp; done) | omega | (simp; omega))) | refine Bel.call ?_ (by assumption)))
        · skip
          go_simp
          refine hK _ _ ?_
          clear hK K
          refine any_one 26 (by kernel_rfl) rfl rfl (fun K hK => ?_)
          go_simp
          refine hK _ _ ?_
          clear hK K
          refine any_one 27 (by kernel_rfl) rfl rfl (fun K hK => ?_)
          go_simp
          refine hK _ _ ?_
          clear hK K
          refine any_quiet 31 rfl (by kernel_rfl) (by kernel_rfl) ?_
          simp only [List.drop_succ_cons, List.drop_zero, Act.put, List.setIfInBounds_toArray, List.set_cons_zero, List.set_cons_succ]
          repeat (first | ((first | refine skip_t rfl rfl rfl (by with_reducible rfl) ?_ | refine skip_f rfl rfl rfl (by with_reducible rfl) ?_ | refine skip_u rfl rfl rfl (by with_reducible rfl) ?_); simp only [Act.put, List.setIfInBounds_toArray, List.set_cons_zero, List.set_cons_succ]) | (apply quiet_take; (first | exact want_0 rfl | exact want_b rfl rfl rfl (by with_reducible rfl)); intro wq hwq R hR; (have hcc := (bcell hwq).1; (try simp only [World.size_alloc, World.size_setCell, World.size_drew, World.heap_drewN] at hcc); go_simp; first | exact hR | (fail)); simp only [Act.put, List.setIfInBounds_toArray, List.set_cons_zero, List.set_cons_succ]))
          refine wpQuiet_nil ?_
          intro w6 hw6
          obtain ⟨hcw6, hfw6⟩ := bcell hw6
          have hzw6 := bsize hw6
          (try simp only [World.size_alloc, World.size_setCell, World.size_drew, World.heap_drewN] at hcw6 hfw6 hzw6)
          go_wp2_with fail
          go_ret
          refine ⟨rfl, Bel.bel (B := _) ?_⟩
          (repeat (first | with_reducible assumption | with_reducible exact Bel.refl _ | with_reducible refine Bel.alloc ?_ _ | with_reducible refine Bel.drewN ?_ _ | with_reducible refine Bel.drew ?_ | (with_reducible refine Bel.setCell ?_ (p := _) ?_ _; rotate_left; (first | exact Nat.le_refl _ | (simp; done) | omega | (simp; omega))) | refine Bel.call ?_ (by assumption)))
  · skip
    go_simp
    refine (plan_any _).mono ?_
    rintro e w5 ⟨b5, rfl, hsl5, hb5, hx5⟩
    have p0 : w5.cell? ⟨b3, o3 + 30, none⟩ = some (.int .i64 8) := keepCell hx5 (by simpa using k0)
    have p1 : w5.cell? ⟨b3, o3 + 30 + 1, none⟩ = some (.int .i64 1) := keepCell hx5 (by simpa using k1)
    have p2 : w5.cell? ⟨b3, o3 + 30 + 2, none⟩ = some (.int .i64 7) := keepCell hx5 (by simpa using k2)
    have p3 : w5.cell? ⟨b3, o3 + 30 + 3, none⟩ = some (.int .i64 10) := keepCell hx5 (by simpa using k3)
    have p4 : w5.cell? ⟨b3, o3 + 30 + 4, none⟩ = some (.int .i64 0) := keepCell hx5 (by simpa using k4)
    have p5 : w5.cell? ⟨b3, o3 + 30 + 5, none⟩ = some (.int .i64 0) := keepCell hx5 (by simpa using k5)
    have p6 : w5.cell? ⟨b3, o3 + 30 + 6, none⟩ = some (.int .i64 0) := keepCell hx5 (by simpa using k6)
    have p7 : w5.cell? ⟨b3, o3 + 30 + 7, none⟩ = some (.int .i64 0) := keepCell hx5 (by simpa using k7)
    have p8 : w5.cell? ⟨b3, o3 + 30 + 8, none⟩ = some (.int .i64 0) := keepCell hx5 (by simpa using k8)
    have p9 : w5.cell? ⟨b3, o3 + 30 + 9, none⟩ = some (.int .i64 0) := keepCell hx5 (by simpa using k9)
    obtain ⟨c5, o5, hao5, -, hlt5, hc5⟩ := hsl5.cmd 3 (by decide)
    cases hao5
    have q0 : w5.cell? ⟨b5, 30, none⟩ = some (.int .i64 8) := hc5 0 _ rfl
    have q1 : w5.cell? ⟨b5, 30 + 1, none⟩ = some (.int .i64 1) := hc5 1 _ rfl
    have q2 : w5.cell? ⟨b5, 30 + 2, none⟩ = some (.int .i64 7) := hc5 2 _ rfl
    have q3 : w5.cell? ⟨b5, 30 + 3, none⟩ = some (.int .i64 10) := hc5 3 _ rfl
    have q4 : w5.cell? ⟨b5, 30 + 4, none⟩ = some (.int .i64 0) := hc5 4 _ rfl
    have q5 : w5.cell? ⟨b5, 30 + 5, none⟩ = some (.int .i64 0) := hc5 5 _ rfl
    have q6 : w5.cell? ⟨b5, 30 + 6, none⟩ = some (.int .i64 0) := hc5 6 _ rfl
    have q7 : w5.cell? ⟨b5, 30 + 7, none⟩ = some (.int .i64 0) := hc5 7 _ rfl
    have q8 : w5.cell? ⟨b5, 30 + 8, none⟩ = some (.int .i64 0) := hc5 8 _ rfl
    have q9 : w5.cell? ⟨b5, 30 + 9, none⟩ = some (.int .i64 0) := hc5 9 _ rfl
    have hlt3 := lt_of_cell p0
    clear hc5 hsl5 k0 k1 k2 k3 k4 k5 k6 k7 k8 k9
    go_simp
    refine hK _ _ ?_
    clear hK K
    refine any_two 25 29 (by kernel_rfl) rfl rfl rfl (fun K hK => ?_) (fun K hK => ?_)
    · skip
      go_simp
      refine hK _ _ ?_
      clear hK K
      refine any_two 26 29 (by kernel_rfl) rfl rfl rfl (fun K hK => ?_) (fun K hK => ?_)
      · skip
        go_simp
        refine hK _ _ ?_
        clear hK K
        refine any_two 27 29 (by kernel_rfl) rfl rfl rfl (fun K hK => ?_) (fun K hK => ?_)
        · skip
          go_simp
          refine hK _ _ ?_
          clear hK K
          refine any_one 29 (by kernel_rfl) rfl rfl (fun K hK => ?_)
          go_simp
          refine hK _ _ ?_
          clear hK K
          refine any_one 30 (by kernel_rfl) rfl rfl (fun K hK => ?_)
          go_simp
          refine hK _ _ ?_
          clear hK K
          refine any_quiet 31 rfl (by kernel_rfl) (by kernel_rfl) ?_
          simp only [List.drop_succ_cons, List.drop_zero, Act.put, List.setIfInBounds_toArray, List.set_cons_zero, List.set_cons_succ]
          repeat (first | ((first | refine skip_t rfl rfl rfl (by with_reducible rfl) ?_ | refine skip_f rfl rfl rfl (by with_reducible rfl) ?_ | refine skip_u rfl rfl rfl (by with_reducible rfl) ?_); simp only [Act.put, List.setIfInBounds_toArray, List.set_cons_zero, List.set_cons_succ]) | (apply quiet_take; (first | exact want_0 rfl | exact want_b rfl rfl rfl (by with_reducible rfl)); intro wq hwq R hR; (have hcc := (bcell hwq).1; (try simp only [World.size_alloc, World.size_setCell, World.size_drew, World.heap_drewN] at hcc); go_simp; first | exact hR | (fail)); simp only [Act.put, List.setIfInBounds_toArray, List.set_cons_zero, List.set_cons_succ]))
          refine wpQuiet_nil ?_
          intro w6 hw6
          obtain ⟨hcw6, hfw6⟩ := bcell hw6
          have hzw6 := bsize hw6
          (try simp only [World.size_alloc, World.size_setCell, World.size_drew, World.heap_drewN] at hcw6 hfw6 hzw6)
          go_wp2_with fail
          go_ret
          refine ⟨rfl, Bel.bel (B := _) ?_⟩
          (repeat (first | with_reducible assumption | with_reducible exact Bel.refl _ | with_reducible refine Bel.alloc ?_ _ | with_reducible refine Bel.drewN ?_ _ | with_reducible refine Bel.drew ?_ | (with_reducible refine Bel.setCell ?_ (p := _) ?_ _; rotate_left; (first | exact Nat.le_refl _ | (simp; done) | omega | (simp; omega))) | refine Bel.call ?_ (by assumption)))
        · skip
          go_simp
          refine hK _ _ ?_
          clear hK K
          refine any_two 27 30 (by kernel_rfl) rfl rfl rfl (fun K hK => ?_) (fun K hK => ?_)
          · skip
            go_simp
            refine hK _ _ ?_
            clear hK K
            refine any_one 30 (by kernel_rfl) rfl rfl (fun K hK => ?_)
            go_simp
            refine hK _ _ ?_
            clear hK K
            refine any_quiet 31 rfl (by kernel_rfl) (by kernel_rfl) ?_
            simp only [List.drop_succ_cons, List.drop_zero, Act.put, List.setIfInBounds_toArray, List.set_cons_zero, List.set_cons_succ]
            repeat (first | ((first | refine skip_t rfl rfl rfl (by with_reducible rfl) ?_ | refine skip_f rfl rfl rfl (by with_reducible rfl) ?_ | refine skip_u rfl rfl rfl (by with_reducible rfl) ?_); simp only [Act.put, List.setIfInBounds_toArray, List.set_cons_zero, List.set_cons_succ]) | (apply quiet_take; (first | exact want_0 rfl | exact want_b rfl rfl rfl (by with_reducible rfl)); intro wq hwq R hR; (have hcc := (bcell hwq).1; (try simp only [World.size_alloc, World.size_setCell, World.size_drew, World.heap_drewN] at hcc); go_simp; first | exact hR | (fail)); simp only [Act.put, List.setIfInBounds_toArray, List.set_cons_zero, List.set_cons_succ]))
            refine wpQuiet_nil ?_
            intro w6 hw6
            obtain ⟨hcw6, hfw6⟩ := bcell hw6
            have hzw6 := bsize hw6
            (try simp only [World.size_alloc, World.size_setCell, World.size_drew, World.heap_drewN] at hcw6 hfw6 hzw6)
            go_wp2_with fail
            go_ret
            refine ⟨rfl, Bel.bel (B := _) ?_⟩
            (repeat (first | with_reducible assumption | with_reducible exact Bel.refl _ | with_reducible refine Bel.alloc ?_ _ | with_reducible refine Bel.drewN ?_ _ | with_reducible refine Bel.drew ?_ | (with_reducible refine Bel.setCell ?_ (p := _) ?_ _; rotate_left; (first | exact Nat.le_refl _ | (simp; done) | omega | (simp; omega))) | refine Bel.call ?_ (by assumption)))
          · skip
            go_simp
            refine hK _ _ ?_
            clear hK K
            refine any_one 27 (by kernel_rfl) rfl rfl (fun K hK => ?_)
            go_simp
            refine hK _ _ ?_
            clear hK K
            refine any_quiet 31 rfl (by kernel_rfl) (by kernel_rfl) ?_
            simp only [List.drop_succ_cons, List.drop_zero, Act.put, List.setIfInBounds_toArray, List.set_cons_zero, List.set_cons_succ]
            repeat (first | ((first | refine skip_t rfl rfl rfl (by with_reducible rfl) ?_ | refine skip_f rfl rfl rfl (by with_reducible rfl) ?_ | refine skip_u rfl rfl rfl (by with_reducible rfl) ?_); simp only [Act.put, List.setIfInBounds_toArray, List.set_cons_zero, List.set_cons_succ]) | (apply quiet_take; (first | exact want_0 rfl | exact want_b rfl rfl rfl (by with_reducible rfl)); intro wq hwq R hR; (have hcc := (bcell hwq).1; (try simp only [World.size_alloc, World.size_setCell, World.size_drew, World.heap_drewN] at hcc); go_simp; first | exact hR | (fail)); simp only [Act.put, List.setIfInBounds_toArray, List.set_cons_zero, List.set_cons_succ]))
            refine wpQuiet_nil ?_
            intro w6 hw6
            obtain ⟨hcw6, hfw6⟩ := bcell hw6
            have hzw6 := bsize hw6
            (try simp only [World.size_alloc, World.size_setCell, World.size_drew, World.heap_drewN] at hcw6 hfw6 hzw6)
            go_wp2_with fail
            go_ret
            refine ⟨rfl, Bel.bel (B := _) ?_⟩
            (repeat (first | with_reducible assumption | with_reducible exact Bel.refl _ | with_reducible refine Bel.alloc ?_ _ | with_reducible refine Bel.drewN ?_ _ | with_reducible refine Bel.drew ?_ | (with_reducible refine Bel.setCell ?_ (p := _) ?_ _; rotate_left; (first | exact Nat.le_refl _ | (simp; done) | omega | (simp; omega))) | refine Bel.call ?_ (by assumption)))
      · skip
        go_simp
        refine hK _ _ ?_
        clear hK K
        refine any_two 26 30 (by kernel_rfl) rfl rfl rfl (fun K hK => ?_) (fun K hK => ?_)
        · skip
          go_simp
          refine hK _ _ ?_
          clear hK K
          refine any_two 27 30 (by kernel_rfl) rfl rfl rfl (fun K hK => ?_) (fun K hK => ?_)
          · skip
            go_simp
            refine hK _ _ ?_
            clear hK K
            refine any_one 30 (by kernel_rfl) rfl rfl (fun K hK => ?_)
            go_simp
            refine hK _ _ ?_
            clear hK K
            refine any_quiet 31 rfl (by kernel_rfl) (by kernel_rfl) ?_
            simp only [List.drop_succ_cons, List.drop_zero, Act.put, List.setIfInBounds_toArray, List.set_cons_zero, List.set_cons_succ]
            repeat (first | ((first | refine skip_t rfl rfl rfl (by with_reducible rfl) ?_ | refine skip_f rfl rfl rfl (by with_reducible rfl) ?_ | refine skip_u rfl rfl rfl (by with_reducible rfl) ?_); simp only [Act.put, List.setIfInBounds_toArray, List.set_cons_zero, List.set_cons_succ]) | (apply quiet_take; (first | exact want_0 rfl | exact want_b rfl rfl rfl (by with_reducible rfl)); intro wq hwq R hR; (have hcc := (bcell hwq).1; (try simp only [World.size_alloc, World.size_setCell, World.size_drew, World.heap_drewN] at hcc); go_simp; first | exact hR | (fail)); simp only [Act.put, List.setIfInBounds_toArray, List.set_cons_zero, List.set_cons_succ]))
            refine wpQuiet_nil ?_
            intro w6 hw6
            obtain ⟨hcw6, hfw6⟩ := bcell hw6
            have hzw6 := bsize hw6
            (try simp only [World.size_alloc, World.size_setCell, World.size_drew, World.heap_drewN] at hcw6 hfw6 hzw6)
            go_wp2_with fail
            go_ret
            refine ⟨rfl, Bel.bel (B := _) ?_⟩
            (repeat (first | with_reducible assumption | with_reducible exact Bel.refl _ | with_reducible refine Bel.alloc ?_ _ | with_reducible refine Bel.drewN ?_ _ | with_reducible refine Bel.drew ?_ | (with_reducible refine Bel.setCell ?_ (p := _) ?_ _; rotate_left; (first | exact Nat.le_refl _ | (simp; done) | omega | (simp; omega))) | refine Bel.call ?_ (by assumption)))
          · skip
            go_simp
            refine hK _ _ ?_
            clear hK K
            refine any_one 27 (by kernel_rfl) rfl rfl (fun K hK => ?_)
            go_simp
            refine hK _ _ ?_
            clear hK K
            refine any_quiet 31 rfl (by kernel_rfl) (by kernel_rfl) ?_
            simp only [List.drop_succ_cons, List.drop_zero, Act.put, List.setIfInBounds_toArray, List.set_cons_zero, List.set_cons_succ]
            repeat (first | ((first | refine skip_t rfl rfl rfl (by with_reducible rfl) ?_ | refine skip_f rfl rfl rfl (by with_reducible rfl) ?_ | refine skip_u rfl rfl rfl (by with_reducible rfl) ?_); simp only [Act.put, List.setIfInBounds_toArray, List.set_cons_zero, List.set_cons_succ]) | (apply quiet_take; (first | exact want_0 rfl | exact want_b rfl rfl rfl (by with_reducible rfl)); intro wq hwq R hR; (have hcc := (bcell hwq).1; (try simp only [World.size_alloc, World.size_setCell, World.size_drew, World.heap_drewN] at hcc); go_simp; first | exact hR | (fail)); simp only [Act.put, List.setIfInBounds_toArray, List.set_cons_zero, List.set_cons_succ]))
            refine wpQuiet_nil ?_
            intro w6 hw6
            obtain ⟨hcw6, hfw6⟩ := bcell hw6
            have hzw6 := bsize hw6
            (try simp only [World.size_alloc, World.size_setCell, World.size_drew, World.heap_drewN] at hcw6 hfw6 hzw6)
            go_wp2_with fail
            go_ret
            refine ⟨rfl, Bel.bel (B := _) ?_⟩
            (repeat (first | with_reducible assumption | with_reducible exact Bel.refl _ | with_reducible refine Bel.alloc ?_ _ | with_reducible refine Bel.drewN ?_ _ | with_reducible refine Bel.drew ?_ | (with_reducible refine Bel.setCell ?_ (p := _) ?_ _; rotate_left; (first | exact Nat.le_refl _ | (simp; done) | omega | (simp; omega))) | refine Bel.call ?_ (by assumption)))
        · skip
          go_simp
          refine hK _ _ ?_
          clear hK K
          refine any_one 26 (by kernel_rfl) rfl rfl (fun K hK => ?_)
          go_simp
          refine hK _ _ ?_
          clear hK K
          refine any_one 27 (by kernel_rfl) rfl rfl (fun K hK => ?_)
          go_simp
          refine hK _ _ ?_
          clear hK K
          refine any_quiet 31 rfl (by kernel_rfl) (by kernel_rfl) ?_
          simp only [List.drop_succ_cons, List.drop_zero, Act.put, List.setIfInBounds_toArray, List.set_cons_zero, List.set_cons_succ]
          repeat (first | ((first | refine skip_t rfl rfl rfl (by with_reducible rfl) ?_ | refine skip_f rfl rfl rfl (by with_reducible rfl) ?_ | refine skip_u rfl rfl rfl (by with_reducible rfl) ?_); simp only [Act.put, List.setIfInBounds_toArray, List.set_cons_zero, List.set_cons_succ]) | (apply quiet_take; (first | exact want_0 rfl | exact want_b rfl rfl rfl (by with_reducible rfl)); intro wq hwq R hR; (have hcc := (bcell hwq).1; (try simp only [World.size_alloc, World.size_setCell, World.size_drew, World.heap_drewN] at hcc); go_simp; first | exact hR | (fail)); simp only [Act.put, List.setIfInBounds_toArray, List.set_cons_zero, List.set_cons_succ]))
          refine wpQuiet_nil ?_
          intro w6 hw6
          obtain ⟨hcw6, hfw6⟩ := bcell hw6
          have hzw6 := bsize hw6
          (try simp only [World.size_alloc, World.size_setCell, World.size_drew, World.heap_drewN] at hcw6 hfw6 hzw6)
          go_wp2_with fail
          go_ret
          refine ⟨rfl, Bel.bel (B := _) ?_⟩
          (repeat (first | with_reducible assumption | with_reducible exact Bel.refl _ | with_reducible refine Bel.alloc ?_ _ | with_reducible refine Bel.drewN ?_ _ | with_reducible refine Bel.drew ?_ | (with_reducible refine Bel.setCell ?_ (p := _) ?_ _; rotate_left; (first | exact Nat.le_refl _ | (simp; done) | omega | (simp; omega))) | refine Bel.call ?_ (by assumption)))
    · skip
      go_simp
      refine hK _ _ ?_
      clear hK K
      refine any_two 25 30 (by kernel_rfl) rfl rfl rfl (fun K hK => ?_) (fun K hK => ?_)
      · skip
        go_simp
        refine hK _ _ ?_
        clear hK K
        refine any_two 26 30 (by kernel_rfl) rfl rfl rfl (fun K hK => ?_) (fun K hK => ?_)
        · skip
          go_simp
          refine hK _ _ ?_
          clear hK K
          refine any_two 27 30 (by kernel_rfl) rfl rfl rfl (fun K hK => ?_) (fun K hK => ?_)
          · skip
            go_simp
            refine hK _ _ ?_
            clear hK K
            refine any_one 30 (by kernel_rfl) rfl rfl (fun K hK => ?_)
            go_simp
            refine hK _ _ ?_
            clear hK K
            refine any_quiet 31 rfl (by kernel_rfl) (by kernel_rfl) ?_
            simp only [List.drop_succ_cons, List.drop_zero, Act.put, List.setIfInBounds_toArray, List.set_cons_zero, List.set_cons_succ]
            repeat (first | ((first | refine skip_t rfl rfl rfl (by with_reducible rfl) ?_ | refine skip_f rfl rfl rfl (by with_reducible rfl) ?_ | refine skip_u rfl rfl rfl (by with_reducible rfl) ?_); simp only [Act.put, List.setIfInBounds_toArray, List.set_cons_zero, List.set_cons_succ]) | (apply quiet_take; (first | exact want_0 rfl | exact want_b rfl rfl rfl (by with_reducible rfl)); intro wq hwq R hR; (have hcc := (bcell hwq).1; (try simp only [World.size_alloc, World.size_setCell, World.size_drew, World.heap_drewN] at hcc); go_simp; first | exact hR | (fail)); simp only [Act.put, List.setIfInBounds_toArray, List.set_cons_zero, List.set_cons_succ]))
            refine wpQuiet_nil ?_
            intro w6 hw6
            obtain ⟨hcw6, hfw6⟩ := bcell hw6
            have hzw6 := bsize hw6
            (try simp only [World.size_alloc, World.size_setCell, World.size_drew, World.heap_drewN] at hcw6 hfw6 hzw6)
            go_wp2_with fail
            go_ret
            refine ⟨rfl, Bel.bel (B := _) ?_⟩
            (repeat (first | with_reducible assumption | with_reducible exact Bel.refl _ | with_reducible refine Bel.alloc ?_ _ | with_reducible refine Bel.drewN ?_ _ | with_reducible refine Bel.drew ?_ | (with_reducible refine Bel.setCell ?_ (p := _) ?_ _; rotate_left; (first | exact Nat.le_refl _ | (simp; done) | omega | (simp; omega))) | refine Bel.call ?_ (by assumption)))
          · skip
            go_simp
            refine hK _ _ ?_
            clear hK K
            refine any_one 27 (by kernel_rfl) rfl rfl (fun K hK => ?_)
            go_simp
            refine hK _ _ ?_
            clear hK K
            refine any_quiet 31 rfl (by kernel_rfl) (by kernel_rfl) ?_
            simp only [List.drop_succ_cons, List.drop_zero, Act.put, List.setIfInBounds_toArray, List.set_cons_zero, List.set_cons_succ]
            repeat (first | ((first | refine skip_t rfl rfl rfl (by with_reducible rfl) ?_ | refine skip_f rfl rfl rfl (by with_reducible rfl) ?_ | refine skip_u rfl rfl rfl (by with_reducible rfl) ?_); simp only [Act.put, List.setIfInBounds_toArray, List.set_cons_zero, List.set_cons_succ]) | (apply quiet_take; (first | exact want_0 rfl | exact want_b rfl rfl rfl (by with_reducible rfl)); intro wq hwq R hR; (have hcc := (bcell hwq).1; (try simp only [World.size_alloc, World.size_setCell, World.size_drew, World.heap_drewN] at hcc); go_simp; first | exact hR | (fail)); simp only [Act.put, List.setIfInBounds_toArray, List.set_cons_zero, List.set_cons_succ]))
            refine wpQuiet_nil ?_
            intro w6 hw6
            obtain ⟨hcw6, hfw6⟩ := bcell hw6
            have hzw6 := bsize hw6
            (try simp only [World.size_alloc, World.size_setCell, World.size_drew, World.heap_drewN] at hcw6 hfw6 hzw6)
            go_wp2_with fail
            go_ret
            refine ⟨rfl, Bel.bel (B := _) ?_⟩
            (repeat (first | with_reducible assumption | with_reducible exact Bel.refl _ | with_reducible refine Bel.alloc ?_ _ | with_reducible refine Bel.drewN ?_ _ | with_reducible refine Bel.drew ?_ | (with_reducible refine Bel.setCell ?_ (p := _) ?_ _; rotate_left; (first | exact Nat.le_refl _ | (simp; done) | omega | (simp; omega))) | refine Bel.call ?_ (by assumption)))
        · skip
          go_simp
          refine hK _ _ ?_
          clear hK K
          refine any_one 26 (by kernel_rfl) rfl rfl (fun K hK => ?_)
          go_simp
          refine hK _ _ ?_
          clear hK K
          refine any_one 27 (by kernel_rfl) rfl rfl (fun K hK => ?_)
          go_simp
          refine hK _ _ ?_
          clear hK K
          refine any_quiet 31 rfl (by kernel_rfl) (by kernel_rfl) ?_
          simp only [List.drop_succ_cons, List.drop_zero, Act.put, List.setIfInBounds_toArray, List.set_cons_zero, List.set_cons_succ]
          repeat (first | ((first | refine skip_t rfl rfl rfl (by with_reducible rfl) ?_ | refine skip_f rfl rfl rfl (by with_reducible rfl) ?_ | refine skip_u rfl rfl rfl (by with_reducible rfl) ?_); simp only [Act.put, List.setIfInBounds_toArray, List.set_cons_zero, List.set_cons_succ]) | (apply quiet_take; (first | exact want_0 rfl | exact want_b rfl rfl rfl (by with_reducible rfl)); intro wq hwq R hR; (have hcc := (bcell hwq).1; (try simp only [World.size_alloc, World.size_setCell, World.size_drew, World.heap_drewN] at hcc); go_simp; first | exact hR | (fail)); simp only [Act.put, List.setIfInBounds_toArray, List.set_cons_zero, List.set_cons_succ]))
          refine wpQuiet_nil ?_
          intro w6 hw6
          obtain ⟨hcw6, hfw6⟩ := bcell hw6
          have hzw6 := bsize hw6
          (try simp only [World.size_alloc, World.size_setCell, World.size_drew, World.heap_drewN] at hcw6 hfw6 hzw6)
          go_wp2_with fail
          go_ret
          refine ⟨rfl, Bel.bel (B := _) ?_⟩
          (repeat (first | with_reducible assumption | with_reducible exact Bel.refl _ | with_reducible refine Bel.alloc ?_ _ | with_reducible refine Bel.drewN ?_ _ | with_reducible refine Bel.drew ?_ | (with_reducible refine Bel.setCell ?_ (p := _) ?_ _; rotate_left; (first | exact Nat.le_refl _ | (simp; done) | omega | (simp; omega))) | refine Bel.call ?_ (by assumption)))
      · skip
        go_simp
        refine hK _ _ ?_
        clear hK K
        refine any_one 25 (by kernel_rfl) rfl rfl (fun K hK => ?_)
        go_simp
        refine hK _ _ ?_
        clear hK K
        refine any_one 26 (by kernel_rfl) rfl rfl (fun K hK => ?_)
        go_simp
        refine hK _ _ ?_
        clear hK K
        refine any_one 27 (by kernel_rfl) rfl rfl (fun K hK => ?_)
        go_simp
        refine hK _ _ ?_
        clear hK K
        refine any_quiet 31 rfl (by kernel_rfl) (by kernel_rfl) ?_
        simp only [List.drop_succ_cons, List.drop_zero, Act.put, List.setIfInBounds_toArray, List.set_cons_zero, List.set_cons_succ]
        repeat (first | ((first | refine skip_t rfl rfl rfl (by with_reducible rfl) ?_ | refine skip_f rfl rfl rfl (by with_reducible rfl) ?_ | refine skip_u rfl rfl rfl (by with_reducible rfl) ?_); simp only [Act.put, List.setIfInBounds_toArray, List.set_cons_zero, List.set_cons_succ]) | (apply quiet_take; (first | exact want_0 rfl | exact want_b rfl rfl rfl (by with_reducible rfl)); intro wq hwq R hR; (have hcc := (bcell hwq).1; (try simp only [World.size_alloc, World.size_setCell, World.size_drew, World.heap_drewN] at hcc); go_simp; first | exact hR | (fail)); simp only [Act.put, List.setIfInBounds_toArray, List.set_cons_zero, List.set_cons_succ]))
        refine wpQuiet_nil ?_
        intro w6 hw6
        obtain ⟨hcw6, hfw6⟩ := bcell hw6
        have hzw6 := bsize hw6
        (try simp only [World.size_alloc, World.size_setCell, World.size_drew, World.heap_drewN] at hcw6 hfw6 hzw6)
        go_wp2_with fail
        go_ret
        refine ⟨rfl, Bel.bel (B := _) ?_⟩
        (repeat (first | with_reducible assumption | with_reducible exact Bel.refl _ | with_reducible refine Bel.alloc ?_ _ | with_reducible refine Bel.drewN ?_ _ | with_reducible refine Bel.drew ?_ | (with_reducible refine Bel.setCell ?_ (p := _) ?_ _; rotate_left; (first | exact Nat.le_refl _ | (simp; done) | omega | (simp; omega))) | refine Bel.call ?_ (by assumption)))
end Go.Proofs.Ytbebjifnhjlkiaa
