/- The reference: SamePrefixes, SameSpaces. -/
import Derived.Test.YtflbpkgnadjokaaSlP2
namespace Go.Proofs.Ytflbpkgnadjokaa
open Go Go.RowKit Go.Proofs
set_option maxHeartbeats 1000000 in
set_option maxRecDepth 100000 in
theorem samePrefixes_any {A B : Area} (l m : List Pfx) (ao bo : Option Addr) (cap cap2 : Nat) (w : World) (h : Sl A w 2 Pfx.R ao cap l) (h' : Sl B w 2 Pfx.R bo cap2 m) :
    Calls Try.prog 14 #[.slice ao l.length cap, .slice bo m.length cap2] w fun e w' => e = .returned (.bool (decide (l = m))) ∧ Ext w w' := by
  have hcl := h.cap_le
  have hcm := h.cap_max
  have hcl' := h'.cap_le
  have hcm' := h'.cap_max
  obtain ⟨r, hr⟩ : ∃ r, r = decide (l = m) := ⟨_, rfl⟩
  rw [← hr]
  replace hr := Lib.hid hr
  by_cases hlen : l.length = m.length
  · have hlenI : ((l.length : Int) != (m.length : Int)) = false := by rw [hlen]; simp
    rw [hlen] at hlenI
    rw [hlen]
    rw [hlen] at hcl
    replace hlen := Lib.hid hlen
    go_enter Try.func14, Try.ntmps14
    go_wp2_with fail
    go_loopw [5] (fun s5 wr => ∃ k : Nat, k ≤ m.length ∧ s5 = .int .i64 k ∧ Hid (∀ j (h : j < l.length) (h' : j < m.length), j < k → l[j] = m[j]) ∧ Ext w wr) (fun s5 _ => m.length - (intOf s5).toNat)
    case atStart => exact ⟨0, Nat.zero_le _, rfl, Lib.hid (fun j _ _ hj => absurd hj (Nat.not_lt_zero _)), Below.refl _ _⟩
    case round =>
      obtain ⟨k, hk, rfl, hall, hx⟩ := hrel
      by_cases hlt : k < m.length
      · have hltI : (k : Int) < (m.length : Int) := by omega
        have hltl : k < l.length := by rw [hlen.out]; exact hlt
        obtain ⟨b, off, cs, rfl, -, -, hR, hcs⟩ := h.elem k hltl
        obtain ⟨b', off', cs', rfl, -, -, hR', hcs'⟩ := h'.elem k hlt
        replace hcs := cellsAt_ext hx hcs
        replace hcs' := cellsAt_ext hx hcs'
        unfold Pfx.R at hR hR'
        subst hR hR'
        obtain ⟨k0, k1⟩ := cellsAt_2 hcs
        obtain ⟨m0, m1⟩ := cellsAt_2 hcs'
        have lb := lt_of_cell k0
        have lb' := lt_of_cell m0
        obtain ⟨x, hxx⟩ : ∃ x, x = l[k] := ⟨_, rfl⟩
        obtain ⟨y, hyy⟩ : ∃ y, y = m[k] := ⟨_, rfl⟩
        rw [← hxx] at k0 k1
        rw [← hyy] at m0 m1
        replace hxx := Lib.hid hxx
        replace hyy := Lib.hid hyy
        clear hcs hcs' h h'
        by_cases e0 : x.at_ = y.at_
        · by_cases e1 : x.len = y.len
          · have he : x = y := by cases x; cases y; simp_all
            replace he := Lib.hid he
            go_wp2_with fail
            refine region_mix (by kernel_rfl) (by kernel_rfl) (fun _ _ d _ _ h => by cases d <;> exact h) ?_
            repeat (first | ((first | refine mix_skip_t rfl rfl rfl (by with_reducible rfl) ?_ | refine mix_skip_f rfl rfl rfl (by with_reducible rfl) ?_ | refine mix_skip_u rfl rfl rfl (by with_reducible rfl) ?_); simp only [Act.put, List.setIfInBounds_toArray, List.set_cons_zero, List.set_cons_succ]) | (apply mix_take; (first | exact want_0 rfl | exact want_b rfl rfl rfl (by with_reducible rfl)); intro wq hwq R hR; ((have hcc := (bcell hwq).1; (try simp only [World.size_alloc, World.size_setCell, World.size_drew, World.heap_drewN] at hcc)); go_simp; first | exact hR | (fail)); simp only [Act.put, List.setIfInBounds_toArray, List.set_cons_zero, List.set_cons_succ]))
            refine mix_nil ?_
            intro w2 hw2
            obtain ⟨hcw2, hfw2⟩ := bcell hw2
            have hzw2 := bsize hw2
            (try simp only [World.size_alloc, World.size_setCell, World.size_drew, World.heap_drewN] at hcw2 hfw2 hzw2)
            go_wp2_with fail
            go_roundw
            case rel => exact ⟨k + 1, by omega, by go_num, Lib.hid (fun j hj hj' hjk => by
              rcases Nat.lt_or_eq_of_le (Nat.le_of_lt_succ hjk) with h1 | h1
              · exact hall.out j hj hj' h1
              · subst h1; rw [← hxx.out, ← hyy.out]; exact he.out), ext_trans hx hw2⟩
            case measure => simp [intOf]; omega
          · have hf : r = false := by rw [hr.out]; simp; intro h; subst h; exact e1 (by rw [hxx.out, hyy.out])
            replace hf := Lib.hid hf
            go_wp2_with fail
            refine region_mix (by kernel_rfl) (by kernel_rfl) (fun _ _ d _ _ h => by cases d <;> exact h) ?_
            repeat (first | ((first | refine mix_skip_t rfl rfl rfl (by with_reducible rfl) ?_ | refine mix_skip_f rfl rfl rfl (by with_reducible rfl) ?_ | refine mix_skip_u rfl rfl rfl (by with_reducible rfl) ?_); simp only [Act.put, List.setIfInBounds_toArray, List.set_cons_zero, List.set_cons_succ]) | (apply mix_take; (first | exact want_0 rfl | exact want_b rfl rfl rfl (by with_reducible rfl)); intro wq hwq R hR; ((have hcc := (bcell hwq).1; (try simp only [World.size_alloc, World.size_setCell, World.size_drew, World.heap_drewN] at hcc)); go_simp; first | exact hR | (fail)); simp only [Act.put, List.setIfInBounds_toArray, List.set_cons_zero, List.set_cons_succ]))
            refine mix_nil ?_
            intro w2 hw2
            obtain ⟨hcw2, hfw2⟩ := bcell hw2
            have hzw2 := bsize hw2
            (try simp only [World.size_alloc, World.size_setCell, World.size_drew, World.heap_drewN] at hcw2 hfw2 hzw2)
            go_wp2_with fail
            go_ret
            exact ⟨ret_bool hf.out.symm, ext_trans hx hw2⟩
        · have hf : r = false := by rw [hr.out]; simp; intro h; subst h; exact e0 (by rw [hxx.out, hyy.out])
          replace hf := Lib.hid hf
          go_wp2_with fail
          refine region_mix (by kernel_rfl) (by kernel_rfl) (fun _ _ d _ _ h => by cases d <;> exact h) ?_
          repeat (first | ((first | refine mix_skip_t rfl rfl rfl (by with_reducible rfl) ?_ | refine mix_skip_f rfl rfl rfl (by with_reducible rfl) ?_ | refine mix_skip_u rfl rfl rfl (by with_reducible rfl) ?_); simp only [Act.put, List.setIfInBounds_toArray, List.set_cons_zero, List.set_cons_succ]) | (apply mix_take; (first | exact want_0 rfl | exact want_b rfl rfl rfl (by with_reducible rfl)); intro wq hwq R hR; ((have hcc := (bcell hwq).1; (try simp only [World.size_alloc, World.size_setCell, World.size_drew, World.heap_drewN] at hcc)); go_simp; first | exact hR | (fail)); simp only [Act.put, List.setIfInBounds_toArray, List.set_cons_zero, List.set_cons_succ]))
          refine mix_nil ?_
          intro w2 hw2
          obtain ⟨hcw2, hfw2⟩ := bcell hw2
          have hzw2 := bsize hw2
          (try simp only [World.size_alloc, World.size_setCell, World.size_drew, World.heap_drewN] at hcw2 hfw2 hzw2)
          go_wp2_with fail
          go_ret
          exact ⟨ret_bool hf.out.symm, ext_trans hx hw2⟩
      · have hltI : ¬ (k : Int) < (m.length : Int) := by omega
        obtain rfl : k = m.length := by omega
        have hf : r = true := by
          rw [hr.out]; simp
          exact List.ext_getElem hlen.out fun j hj hj' => hall.out j hj hj' hj'
        replace hf := Lib.hid hf
        go_wp2_with fail
        go_ret
        exact ⟨ret_bool hf.out.symm, hx⟩
  · have hlenI : ((l.length : Int) != (m.length : Int)) = true := by simp; omega
    have hf : r = false := by rw [hr.out]; simp; intro h; exact hlen (by rw [h])
    replace hf := Lib.hid hf
    clear hlen h h'
    go_enter Try.func14, Try.ntmps14
    go_wp2_with fail
    go_ret
    exact ⟨ret_bool hf.out.symm, Below.refl _ _⟩
set_option maxHeartbeats 1000000 in
theorem sameSpaces_any {A B : Area} (p q : Pfx) (l m : List Pfx) (ao bo : Option Addr) (cap cap2 : Nat) (w : World) (h : Sl A w 2 Pfx.R ao cap l) (h' : Sl B w 2 Pfx.R bo cap2 m) :
    Calls Try.prog 19 #[.agg #[.int .i64 p.at_, .int .i64 p.len, .slice ao l.length cap], .agg #[.int .i64 q.at_, .int .i64 q.len, .slice bo m.length cap2]] w fun e w' => e = .returned (.bool (decide (p = q) && decide (l = m))) ∧ Ext w w' := by
  have hc := fun W (h : Sl A W 2 Pfx.R ao cap l) (h' : Sl B W 2 Pfx.R bo cap2 m) => samePrefixes_any l m ao bo cap cap2 W h h'
  obtain ⟨r, hr⟩ : ∃ r, r = decide (l = m) := ⟨_, rfl⟩
  simp only [← hr] at hc ⊢
  clear hr
  replace hc := Lib.hid hc
  by_cases e0 : p.at_ = q.at_
  · by_cases e1 : p.len = q.len
    · have he : decide (p = q) = true := by simp; cases p; cases q; simp_all
      rw [he]
      clear he
      go_enter Try.func19, Try.ntmps19
      go_wp2_with fail
      refine (hc.out _ (h.ext (ext_trans (ext_alloc _ _) (ext_alloc _ _))) (h'.ext (ext_trans (ext_alloc _ _) (ext_alloc _ _)))).mono ?_
      rintro e w1 ⟨rfl, hx1⟩
      go_wp2_with fail
      go_ret
      exact ⟨by simp, ext_trans (ext_trans (ext_alloc _ _) (ext_alloc _ _)) hx1⟩
    · have he : decide (p = q) = false := by simp; intro h; exact e1 (by rw [h])
      rw [he]
      clear he
      go_enter Try.func19, Try.ntmps19
      go_wp2_with fail
      go_ret
      exact ⟨by simp, ext_trans (ext_alloc _ _) (ext_alloc _ _)⟩
  · have he : decide (p = q) = false := by simp; intro h; exact e0 (by rw [h])
    rw [he]
    clear he
    go_enter Try.func19, Try.ntmps19
    go_wp2_with fail
    go_ret
    exact ⟨by simp, ext_trans (ext_alloc _ _) (ext_alloc _ _)⟩
end Go.Proofs.Ytflbpkgnadjokaa
