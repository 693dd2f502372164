/- wire: the reference's ReplayOf. -/
import Derived.Test.YtbebjifnhjlkiaaWireB
namespace Go.Proofs.Ytbebjifnhjlkiaa
open Go Go.RowKit Go.Proofs
set_option maxHeartbeats 2000000 in
set_option maxRecDepth 100000 in
theorem replayOf_any (s : ByteArray) (w : World) (hs : s.size ≤ 16384) :
    Calls Try.prog 17 #[.string s] w (RepOut s w) := by
  obtain ⟨i0, hi, hz0, hz1, hz2⟩ := info_parts Try.infoCmd
  have hstart : PRel s w 0 (.slice none 0 0) w := ⟨World.ownsRow_nil _ _ _ _, by omega, by omega, by omega, Bel.refl w⟩
  replace hstart := Lib.hid hstart
  have hsI : decide ((s.size : Int) > 16384) = false := by simp; omega
  go_enter Try.func17, Try.ntmps17
  go_wp2_with fail
  go_loopw [5, 6] (fun v i wr => ∃ n : Nat, i = .int .i64 (42 * (n : Int)) ∧ PRel s w n v wr) (fun _ i _ => s.size - (intOf i).toNat)
  case atStart => exact ⟨0, rfl, hstart.out⟩
  case round =>
    obtain ⟨n, rfl, hrel⟩ := hrel
    clear hstart
    obtain ⟨hown, hn, hn2, hall, hbel⟩ := hrel
    have hle := hbel.le
    obtain ⟨g, cap, hv⟩ : ∃ ao cap, u5 = .slice ao n cap := by
      obtain ⟨ao, cap, hv, -⟩ := sl_own (A := fun b => w.heap.size ≤ b) hown (cmdsOf_length s n).symm (fun _ _ => rfl) (fun _ hb => hb)
      exact ⟨ao, cap, hv⟩
    subst hv
    by_cases hlt : 42 * n + 42 ≤ s.size
    · have hltI : 42 * (n : Int) + 42 ≤ s.size := by omega
      by_cases h200 : n < 200
      · have h200I : (n : Int) < 200 := by omega
        obtain ⟨t, ht⟩ : ∃ t, t = s.extract (42 * n + 1) (42 * n + 38) := ⟨_, rfl⟩
        have htz : t.size = 37 := by rw [ht, ByteArray.size_extract]; omega
        obtain ⟨c, hc⟩ : ∃ c, c = cmdOf (numsOf t) := ⟨_, rfl⟩
        have hrd := cmdFrom_any t wr htz
        simp only [← hc, Cmd.cs] at hrd
        rw [ht] at hrd
        have hck : c = cmdK s n := by rw [hc, ht]; rfl
        obtain ⟨z, hz⟩ : ∃ z, z = frameS t := ⟨_, rfl⟩
        have hcs : strOfNums (c.op :: c.nums.flatMap be4) = t := by rw [hc]; exact cmdS_cmdOf t htz
        have hbd := bAt_bd (numsOf_byte t) 0
        have hcb := fun W => cmdBytes_any c W (by rw [hc]; exact hbd.1) (by rw [hc]; exact hbd.2) (by rw [hc]; exact cmdOf_in _ (numsOf_byte t))
        simp only [hcs, Cmd.cs] at hcb
        have hfr := fun W => frameOf_any t W (by omega)
        rw [← hz] at hfr
        replace ht := Lib.hid ht
        replace hc := Lib.hid hc
        replace hcs := Lib.hid hcs
        replace hz := Lib.hid hz
        replace htz := Lib.hid htz
        replace hck := Lib.hid hck
        replace hfr := Lib.hid hfr
        replace hcb := Lib.hid hcb
        replace hown := Lib.hid hown
        replace hall := Lib.hid hall
        clear hbd
        go_wp2_with fail
        refine hrd.mono ?_
        rintro e w1 ⟨rfl, hw1⟩
        clear hrd
        obtain ⟨b0, hb0⟩ : ∃ b0, b0 = w1.heap.size := ⟨_, rfl⟩
        have hwr : IntKind.i64.wrap (42 * (n : Int) + 42) = 42 * (n : Int) + 42 := IntWalk.i64_in _ (by omega)
        have pp1 : (0 : Int) ≤ 42 * (n : Int) + 42 := by omega
        have pp2 : (0 : Int) ≤ 42 * (n : Int) := by omega
        have pp3 : 42 * (n : Int) ≤ 42 * (n : Int) + 42 := by omega
        have pp4 : (42 * (n : Int)).toNat = 42 * n := by omega
        have pp5 : (42 * (n : Int) + 42).toNat = 42 * n + 42 := by omega
        by_cases hq : z = s.extract (42 * n) (42 * n + 42)
        · have hfit : fits s (42 * n) := ⟨by omega, by rw [← hq, hz.out, ht.out]⟩
          replace hfit := Lib.hid hfit
          go_wp2_with fail
          refine region_ext (by kernel_rfl) (by kernel_rfl) ?_
          repeat (first | ((first | refine skip_t rfl rfl rfl (by with_reducible rfl) ?_ | refine skip_f rfl rfl rfl (by with_reducible rfl) ?_ | refine skip_u rfl rfl rfl (by with_reducible rfl) ?_); simp only [Act.put, List.setIfInBounds_toArray, List.set_cons_zero, List.set_cons_succ]) | (apply quiet_take; (first | exact want_0 rfl | exact want_b rfl rfl rfl (by with_reducible rfl)); intro wq hwq R hR; (have hcc := (bcell hwq).1; (try simp only [World.size_alloc, World.size_setCell, World.size_drew, World.heap_drewN] at hcc); go_simp; first | exact hR | (first | (go_at_call 8; exact callq hwq (hcb.out _) hR) | (go_at_call 12; exact callq hwq (hfr.out _) hR))); simp only [Act.put, List.setIfInBounds_toArray, List.set_cons_zero, List.set_cons_succ]))
          refine wpQuiet_nil ?_
          intro w2 hw2
          obtain ⟨hcw2, hfw2⟩ := bcell hw2
          have hzw2 := bsize hw2
          (try simp only [World.size_alloc, World.size_setCell, World.size_drew, World.heap_drewN] at hcw2 hfw2 hzw2)
          have hx2 : Ext wr w2 := ext_trans (ext_trans hw1 (ext_alloc _ _)) hw2
          have hown2 := ownsRow_ext hx2 hown.out
          have hbel2 := hbel.call hx2
          have q0 : w2.cell? ⟨w1.heap.size, 0, none⟩ = some (.int .i64 c.op) := keepCell hw2 (cell_of_block (block_new _ _) rfl)
          have q1 : w2.cell? ⟨w1.heap.size, 1, none⟩ = some (.int .i64 c.a) := keepCell hw2 (cell_of_block (block_new _ _) rfl)
          have q2 : w2.cell? ⟨w1.heap.size, 2, none⟩ = some (.int .i64 c.b) := keepCell hw2 (cell_of_block (block_new _ _) rfl)
          have q3 : w2.cell? ⟨w1.heap.size, 3, none⟩ = some (.int .i64 c.c) := keepCell hw2 (cell_of_block (block_new _ _) rfl)
          have q4 : w2.cell? ⟨w1.heap.size, 4, none⟩ = some (.int .i64 c.at_) := keepCell hw2 (cell_of_block (block_new _ _) rfl)
          have q5 : w2.cell? ⟨w1.heap.size, 5, none⟩ = some (.int .i64 c.len) := keepCell hw2 (cell_of_block (block_new _ _) rfl)
          have q6 : w2.cell? ⟨w1.heap.size, 6, none⟩ = some (.int .i64 c.min) := keepCell hw2 (cell_of_block (block_new _ _) rfl)
          have q7 : w2.cell? ⟨w1.heap.size, 7, none⟩ = some (.int .i64 c.max) := keepCell hw2 (cell_of_block (block_new _ _) rfl)
          have q8 : w2.cell? ⟨w1.heap.size, 8, none⟩ = some (.int .i64 c.usual) := keepCell hw2 (cell_of_block (block_new _ _) rfl)
          have q9 : w2.cell? ⟨w1.heap.size, 9, none⟩ = some (.int .i64 c.cool) := keepCell hw2 (cell_of_block (block_new _ _) rfl)
          have hle2 := hbel2.le
          clear hw1 hw2 hbel hx2 hcw2 hfw2 hzw2
          go_wp2_with (at_builtin; refine wpList_append_own _ rfl _ _ 41 rfl w.heap.size 27 i0 (.agg #[.int .i64 0, .int .i64 0, .int .i64 0, .int .i64 0, .int .i64 0, .int .i64 0, .int .i64 0, .int .i64 0, .int .i64 0, .int .i64 0]) 10 80 Try.underlying41 hi hz0 hz1 hz2 rfl (by decide) _ _ _ rfl (hown2.alloc _) ⟨w2.heap.size, 0, none⟩ 1 1 c.cs.toList rfl rfl ?c1 ?c2 (by unfold maxLen; omega) (by omega) (by simp; omega) ?_; rotate_right; intro v' w3 hown' hgrow _)
          case c1 =>
            intro u x hu
            simp only [Cmd.cs] at hu
            match u, hu with
            | 0, hu | 1, hu | 2, hu | 3, hu | 4, hu | 5, hu | 6, hu | 7, hu | 8, hu | 9, hu => simp at hu; subst hu; simp [Addr.add]
          case c2 => intro u hu; simp [Cmd.cs] at hu; rcases hu with rfl | rfl | rfl | rfl | rfl | rfl | rfl | rfl | rfl | rfl <;> rfl
          have R : PRel s w (n + 1) v' w3 := by
            refine ⟨?_, by omega, by omega, ?_, (hbel2.alloc _).grownOwn (hown2.alloc _) hgrow (by omega)⟩
            · rw [cmdsOf_snoc, List.flatMap_append, ← hck.out]
              simpa using hown'
            · intro k hk
              rcases Nat.lt_or_ge k n with h | h
              · exact hall.out k h
              · obtain rfl : k = n := by omega
                exact hfit.out
          clear hown' hgrow hown2 hbel2 hown
          replace R := Lib.hid R
          go_wp2_with fail
          go_roundw
          case rel => exact ⟨n + 1, by go_num, R.out⟩
          case measure => simp [intOf]; omega
        · have hq2 : (z.toList == (s.extract (42 * n) (42 * n + 42)).toList) = false := toList_ne hq
          have hfin : ∀ W, Ext wr W → RepOut s w (.returned (.tuple #[.slice g n cap, .int .i64 (42 * (n : Int)), .int .i64 0])) W := fun W hW => rep_done (v := .slice g n cap) ⟨ownsRow_ext hW hown.out, hn, hn2, hall.out, hbel.call hW⟩ (.inr (fun hf => hq (by rw [hz.out, ht.out]; exact hf.2)))
          replace hfin := Lib.hid hfin
          clear hq
          go_wp2_with fail
          refine region_ext (by kernel_rfl) (by kernel_rfl) ?_
          repeat (first | ((first | refine skip_t rfl rfl rfl (by with_reducible rfl) ?_ | refine skip_f rfl rfl rfl (by with_reducible rfl) ?_ | refine skip_u rfl rfl rfl (by with_reducible rfl) ?_); simp only [Act.put, List.setIfInBounds_toArray, List.set_cons_zero, List.set_cons_succ]) | (apply quiet_take; (first | exact want_0 rfl | exact want_b rfl rfl rfl (by with_reducible rfl)); intro wq hwq R hR; (have hcc := (bcell hwq).1; (try simp only [World.size_alloc, World.size_setCell, World.size_drew, World.heap_drewN] at hcc); go_simp; first | exact hR | (first | (go_at_call 8; exact callq hwq (hcb.out _) hR) | (go_at_call 12; exact callq hwq (hfr.out _) hR))); simp only [Act.put, List.setIfInBounds_toArray, List.set_cons_zero, List.set_cons_succ]))
          refine wpQuiet_nil ?_
          intro w2 hw2
          obtain ⟨hcw2, hfw2⟩ := bcell hw2
          have hzw2 := bsize hw2
          (try simp only [World.size_alloc, World.size_setCell, World.size_drew, World.heap_drewN] at hcw2 hfw2 hzw2)
          have hfin2 := hfin.out w2 (ext_trans (ext_trans hw1 (ext_alloc _ _)) hw2)
          replace hfin := Lib.hid hfin2
          clear hfin2
          go_wp2_with fail
          refine bodyPost_ret ?_ rfl hfin.out
          simp [results, Try.results17, go_sem]
      · have hfin := rep_done ⟨hown, hn, hn2, hall, hbel⟩ (.inl (by omega))
        have h200I : ¬ (n : Int) < 200 := by omega
        replace hfin := Lib.hid hfin
        clear hown hall
        go_wp2_with fail
        refine bodyPost_ret ?_ rfl hfin.out
        simp [results, Try.results17, go_sem]
    · have hltI : ¬ (42 * (n : Int) + 42 ≤ s.size) := by omega
      have hfin := rep_done ⟨hown, hn, hn2, hall, hbel⟩ (.inr (fun hf => by have := hf.1; omega))
      clear hown hall
      replace hfin := Lib.hid hfin
      go_wp2_with fail
      refine bodyPost_ret ?_ rfl hfin.out
      simp [results, Try.results17, go_sem]
end Go.Proofs.Ytbebjifnhjlkiaa
