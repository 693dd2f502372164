/- package slices at prefixes: Index, Contains. -/
import Derived.Test.YtflbpkgnadjokaaSlP
import Derived.Test.YtflbpkgnadjokaaCidr1
namespace Go.Proofs.Ytflbpkgnadjokaa
open Go Go.RowKit Go.Proofs
instance : DecidableEq Pfx := fun a b => by
  cases a; cases b; simp only [Pfx.mk.injEq]; exact inferInstance
set_option maxHeartbeats 1000000 in
theorem index_P {A : Area} (v : Pfx) (l : List Pfx) (ao : Option Addr) (cap : Nat) (w : World) (h : Sl A w 2 Pfx.R ao cap l) :
    Calls Try.prog 39 #[.slice ao l.length cap, .agg #[.int .i64 v.at_, .int .i64 v.len]] w fun e w' => e = .returned (.int .i64 (idxOf (fun x => decide (v = x)) l)) ∧ Ext w w' := by
  have hcl := h.cap_le
  have hcm := h.cap_max
  obtain ⟨r, hr⟩ : ∃ r, r = idxOf (fun x => decide (v = x)) l := ⟨_, rfl⟩
  rw [← hr]
  replace hr := Lib.hid hr
  go_enter Try.func39, Try.ntmps39
  go_wp2_with fail
  go_loopw [5, 8] (fun _ s8 wr => ∃ k : Nat, k ≤ l.length ∧ s8 = .int .i64 k ∧ Hid (∀ j (h : j < k) (h' : j < l.length), decide (v = l[j]) = false) ∧ Ext (w.alloc (.cells #[.int .i64 v.at_, .int .i64 v.len] 23)) wr) (fun _ s8 _ => l.length - (intOf s8).toNat)
  case atStart => exact ⟨0, Nat.zero_le _, rfl, Lib.hid (fun j hj => absurd hj (Nat.not_lt_zero _)), Below.refl _ _⟩
  case round =>
    obtain ⟨k, hk, rfl, hall, hx⟩ := hrel
    by_cases hlt : k < l.length
    · have hltI : (k : Int) < (l.length : Int) := by omega
      obtain ⟨b, off, cs, rfl, -, hlen, hR, hcs⟩ := h.elem k hlt
      replace hcs := cellsAt_ext hx (cellsAt_ext (ext_alloc _ _) hcs)
      unfold Pfx.R at hR
      subst hR
      obtain ⟨k0, k1⟩ := cellsAt_2 hcs
      have p0 : wr.cell? ⟨w.heap.size, 0, none⟩ = some (.int .i64 v.at_) := keepCell hx (by simp)
      have p1 : wr.cell? ⟨w.heap.size, 1, none⟩ = some (.int .i64 v.len) := keepCell hx (by simp)
      have lb := lt_of_cell k0
      have lp := lt_of_cell p0
      obtain ⟨y, hy⟩ : ∃ y, y = l[k] := ⟨_, rfl⟩
      rw [← hy] at k0 k1
      replace hy := Lib.hid hy
      clear hcs h
      by_cases e0 : v.at_ = y.at_
      · by_cases e1 : v.len = y.len
        · have he : decide (v = y) = true := by simp; cases v; cases y; simp_all
          replace he := Lib.hid he
          go_wp2_with fail
          refine region_mix (by kernel_rfl) (by kernel_rfl) (fun _ _ d _ _ h => by cases d <;> exact h) ?_
          repeat (first | ((first | refine mix_skip_t rfl rfl rfl (by with_reducible rfl) ?_ | refine mix_skip_f rfl rfl rfl (by with_reducible rfl) ?_ | refine mix_skip_u rfl rfl rfl (by with_reducible rfl) ?_); simp only [Act.put, List.setIfInBounds_toArray, List.set_cons_zero, List.set_cons_succ]) | (apply mix_take; (first | exact want_0 rfl | exact want_b rfl rfl rfl (by with_reducible rfl)); intro wq hwq R hR; ((have hcc := (bcell hwq).1; (try simp only [World.size_alloc, World.size_setCell, World.size_drew, World.heap_drewN] at hcc)); go_simp; first | exact hR | (fail)); simp only [Act.put, List.setIfInBounds_toArray, List.set_cons_zero, List.set_cons_succ]))
          refine mix_nil ?_
          intro w2 hw2
          obtain ⟨hcw2, hfw2⟩ := bcell hw2
          have hzw2 := bsize hw2
          (try simp only [World.size_alloc, World.size_setCell, World.size_drew, World.heap_drewN] at hcw2 hfw2 hzw2)
          go_wp2_with fail
          go_ret
          exact ⟨ret_int (by rw [hr.out]; exact (idx_hit hlt (by rw [← hy.out]; exact he.out) fun j hj => hall.out j hj (by omega)).symm), ext_trans (ext_alloc _ _) (ext_trans hx hw2)⟩
        · have he : decide (v = y) = false := by simp; intro h; exact e1 (by rw [h])
          replace he := Lib.hid he
          go_wp2_with fail
          refine region_mix (by kernel_rfl) (by kernel_rfl) (fun _ _ d _ _ h => by cases d <;> exact h) ?_
          repeat (first | ((first | refine mix_skip_t rfl rfl rfl (by with_reducible rfl) ?_ | refine mix_skip_f rfl rfl rfl (by with_reducible rfl) ?_ | refine mix_skip_u rfl rfl rfl (by with_reducible rfl) ?_); simp only [Act.put, List.setIfInBounds_toArray, List.set_cons_zero, List.set_cons_succ]) | (apply mix_take; (first | exact want_0 rfl | exact want_b rfl rfl rfl (by with_reducible rfl)); intro wq hwq R hR; ((have hcc := (bcell hwq).1; (try simp only [World.size_alloc, World.size_setCell, World.size_drew, World.heap_drewN] at hcc)); go_simp; first | exact hR | (fail)); simp only [Act.put, List.setIfInBounds_toArray, List.set_cons_zero, List.set_cons_succ]))
          refine mix_nil ?_
          intro w2 hw2
          obtain ⟨hcw2, hfw2⟩ := bcell hw2
          have hzw2 := bsize hw2
          (try simp only [World.size_alloc, World.size_setCell, World.size_drew, World.heap_drewN] at hcw2 hfw2 hzw2)
          go_wp2_with fail
          go_roundw
          case rel => exact ⟨k + 1, by omega, by go_num, Lib.hid (fun j hj hj' => by
            rcases Nat.lt_or_eq_of_le (Nat.le_of_lt_succ hj) with h1 | h1
            · exact hall.out j h1 hj'
            · subst h1; rw [← hy.out]; exact he.out), ext_trans hx hw2⟩
          case measure => simp [intOf]; omega
      · have he : decide (v = y) = false := by simp; intro h; exact e0 (by rw [h])
        replace he := Lib.hid he
        go_wp2_with fail
        refine region_mix (by kernel_rfl) (by kernel_rfl) (fun _ _ d _ _ h => by cases d <;> exact h) ?_
        repeat (first | ((first | refine mix_skip_t rfl rfl rfl (by with_reducible rfl) ?_ | refine mix_skip_f rfl rfl rfl (by with_reducible rfl) ?_ | refine mix_skip_u rfl rfl rfl (by with_reducible rfl) ?_); simp only [Act.put, List.setIfInBounds_toArray, List.set_cons_zero, List.set_cons_succ]) | (apply mix_take; (first | exact want_0 rfl | exact want_b rfl rfl rfl (by with_reducible rfl)); intro wq hwq R hR; ((have hcc := (bcell hwq).1; (try simp only [World.size_alloc, World.size_setCell, World.size_drew, World.heap_drewN] at hcc)); go_simp; first | exact hR | (fail)); simp only [Act.put, List.setIfInBounds_toArray, List.set_cons_zero, List.set_cons_succ]))
        refine mix_nil ?_
        intro w2 hw2
        obtain ⟨hcw2, hfw2⟩ := bcell hw2
        have hzw2 := bsize hw2
        (try simp only [World.size_alloc, World.size_setCell, World.size_drew, World.heap_drewN] at hcw2 hfw2 hzw2)
        go_wp2_with fail
        go_roundw
        case rel => exact ⟨k + 1, by omega, by go_num, Lib.hid (fun j hj hj' => by
          rcases Nat.lt_or_eq_of_le (Nat.le_of_lt_succ hj) with h1 | h1
          · exact hall.out j h1 hj'
          · subst h1; rw [← hy.out]; exact he.out), ext_trans hx hw2⟩
        case measure => simp [intOf]; omega
    · have hltI : ¬ (k : Int) < (l.length : Int) := by omega
      obtain rfl : k = l.length := by omega
      go_wp2_with fail
      go_ret
      exact ⟨ret_int (by rw [hr.out]; exact (idx_none fun j hj => hall.out j hj hj).symm), ext_trans (ext_alloc _ _) hx⟩
theorem contains_P {A : Area} (v : Pfx) (l : List Pfx) (ao : Option Addr) (cap : Nat) (w : World) (h : Sl A w 2 Pfx.R ao cap l) :
    Calls Try.prog 54 #[.slice ao l.length cap, .agg #[.int .i64 v.at_, .int .i64 v.len]] w fun e w' => e = .returned (.bool (l.contains v)) ∧ Ext w w' := by
  have hc := fun W (h : Sl A W 2 Pfx.R ao cap l) => index_P v l ao cap W h
  have ha := idx_any (fun x => decide (v = x)) l
  have hb : l.contains v = l.any (fun x => decide (v = x)) := by
    rw [Bool.eq_iff_iff]; simp
  rw [← hb] at ha
  obtain ⟨r, hr⟩ : ∃ r, r = idxOf (fun x => decide (v = x)) l := ⟨_, rfl⟩
  rw [← hr] at ha
  simp only [← hr] at hc
  rw [← ha]
  clear hr ha hb
  replace hc := Lib.hid hc
  go_enter Try.func54, Try.ntmps54
  go_wp2_with fail
  refine (hc.out _ (h.ext (ext_alloc _ _))).mono ?_
  rintro e w1 ⟨rfl, hx1⟩
  go_wp2_with fail
  go_ret
  exact ⟨rfl, ext_trans (ext_alloc _ _) hx1⟩
end Go.Proofs.Ytflbpkgnadjokaa
