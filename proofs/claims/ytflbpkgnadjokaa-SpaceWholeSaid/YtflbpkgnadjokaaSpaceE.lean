/- The law SpaceWhole. -/
import Derived.Test.YtflbpkgnadjokaaSpaceB
import Derived.Test.YtflbpkgnadjokaaWhole
import Derived.Test.YtflbpkgnadjokaaChoose
namespace Go.Proofs.Ytflbpkgnadjokaa
open Go Go.RowKit Go.Proofs
set_option maxHeartbeats 1000000 in
set_option maxRecDepth 100000 in
theorem whole_bad {A : Area} (root : Pfx) (us : List Pfx) (uo : Option Addr) (ucap : Nat) (x : Int) (w : World) (h : Sl A w 2 Pfx.R uo ucap us) (h0 : chkS root us ≠ 0) :
    Calls Try.prog 6 #[.agg #[.int .i64 root.at_, .int .i64 root.len, .slice uo us.length ucap], .int .i64 x] w fun e w' => e = .returned (.bool true) ∧ Ext w w' := by
  have hho := fun W (h : Sl A W 2 Pfx.R uo ucap us) => holes_any root us uo ucap W h
  obtain ⟨c, hc⟩ : ∃ c, c = chkS root us := ⟨_, rfl⟩
  rw [← hc] at h0
  have hce : (c != 0) = true := by simpa using h0
  replace hc := Lib.hid hc
  replace h0 := Lib.hid h0
  replace hho := Lib.hid hho
  go_enter Try.func6, Try.ntmps6
  go_wp2_with fail
  refine (hho.out _ (h.ext (ext_alloc _ _))).mono ?_
  rintro e w2 (⟨hn, -⟩ | ⟨-, rfl, hx2⟩)
  case inl => exact absurd (by rw [hc.out]; exact hn) h0.out
  rw [← hc.out]
  go_wp2_with fail
  refine (spaceBegun_any _).mono ?_
  rintro e w3 ⟨rfl, hw3⟩
  obtain ⟨hcw3, hfw3⟩ := bcell hw3
  have hzw3 := bsize hw3
  (try simp only [World.size_alloc, World.size_setCell, World.size_drew, World.heap_drewN] at hcw3 hfw3 hzw3)
  go_wp2_with fail
  go_ret
  exact ⟨rfl, ext_trans (ext_trans (ext_alloc _ _) hx2) hw3⟩
set_option maxHeartbeats 2000000 in
set_option maxRecDepth 100000 in
theorem whole_good {A : Area} (root : Pfx) (us : List Pfx) (uo : Option Addr) (ucap : Nat) (x : Int) (w : World) (h : Sl A w 2 Pfx.R uo ucap us) (h0 : chkS root us = 0) (hx1 : -9223372036854775808 ≤ x) (hx2 : x ≤ 9223372036854775807) :
    Calls Try.prog 6 #[.agg #[.int .i64 root.at_, .int .i64 root.len, .slice uo us.length ucap], .int .i64 x] w fun e w' => e = .returned (.bool true) ∧ Ext w w' := by
  have hcl := h.cap_le
  have hcm := h.cap_max
  have hho := fun W (h : Sl A W 2 Pfx.R uo ucap us) => holes_any root us uo ucap W h
  have hok := chkS_ok.1 h0
  obtain ⟨g1, g2, g3, g4, g5⟩ := root.bd hok.rr
  have hzb := szI_bd g1
  have hhi : root.hi = root.at_ + szI root.len := rfl
  have hrb := root.hi_bd hok.rr
  have hsz := size_any root.at_ root.len
  rw [sizeI_right (a := root.at_) (l := root.len) hok.rr] at hsz
  obtain ⟨z, hz⟩ : ∃ z, z = szI root.len := ⟨_, rfl⟩
  rw [← hz] at hsz hzb hhi
  have hch := fun W => choose_any x z W hx1 hx2 (by omega)
  have hm0 := Int.emod_nonneg (absI x) (show z ≠ 0 by omega)
  have hm1 := Int.emod_lt_of_pos (absI x) (show 0 < z by omega)
  obtain ⟨m, hm⟩ : ∃ m, m = absI x % z := ⟨_, rfl⟩
  rw [← hm] at hch hm0 hm1
  obtain ⟨a, ha⟩ : ∃ a, a = root.at_ + m := ⟨_, rfl⟩
  have haw : IntKind.i64.wrap (root.at_ + m) = a := by rw [ha]; exact IntWalk.i64_in _ (by omega)
  have hone := whole_one hok (a := a) (by omega) (by omega)
  have hlenH : (holesS root us).length ≤ 65536 := Nat.le_trans (holesF_len us _ root) (by have := Nat.pow_le_pow_right (n := 2) (by omega) (show (16 - root.len).toNat ≤ 16 by omega); simpa using this)
  have hmany := hok.many
  have hmax : max 1 z = z := by omega
  replace hho := Lib.hid hho
  replace hsz := Lib.hid hsz
  replace hch := Lib.hid hch
  replace h0 := Lib.hid h0
  clear hm hz hhi hok ha g5 hrb g4
  go_enter Try.func6, Try.ntmps6
  go_wp2_with fail
  refine (hho.out _ (h.ext (ext_alloc _ _))).mono ?_
  rintro e w2 (⟨-, ao, cap, rfl, hs2, hx2'⟩ | ⟨hn, -⟩)
  case inr => exact absurd h0.out hn
  obtain ⟨L, hL⟩ : ∃ L, L = holesS root us := ⟨_, rfl⟩
  rw [← hL] at hs2 hone hlenH ⊢
  replace hone := Lib.hid hone
  clear hL
  have hbx : blk w2 w.heap.size #[.int .i64 root.at_, .int .i64 root.len, .slice uo us.length ucap] 26 := blk_ext (block_new _ _) hx2'
  have s0 := blk_cell (o := 0) hbx rfl
  have s1 := blk_cell (o := 1) hbx rfl
  have s2 := blk_cell (o := 2) hbx rfl
  have l2 : w.heap.size < w2.heap.size := lt_of_block hbx
  have hxw2 := ext_trans (ext_alloc _ _) hx2'
  clear hx2'
  go_wp2_with fail
  refine region_mix (by kernel_rfl) (by kernel_rfl) (fun _ _ d _ _ h => by cases d <;> exact h) ?_
  repeat (first | ((first | refine mix_skip_t rfl rfl rfl (by with_reducible rfl) ?_ | refine mix_skip_f rfl rfl rfl (by with_reducible rfl) ?_ | refine mix_skip_u rfl rfl rfl (by with_reducible rfl) ?_); simp only [Act.put, List.setIfInBounds_toArray, List.set_cons_zero, List.set_cons_succ]) | (apply mix_take; (first | exact want_0 rfl | exact want_b rfl rfl rfl (by with_reducible rfl)); intro wq hwq R hR; ((have hcc := (bcell hwq).1; (try simp only [World.size_alloc, World.size_setCell, World.size_drew, World.heap_drewN] at hcc)); go_simp; first | exact hR | ((first | (go_at_call 22; exact mcall (hsz.out _) hR) | (go_at_call 21; exact mcall_same (hch.out _) hR)))); simp only [Act.put, List.setIfInBounds_toArray, List.set_cons_zero, List.set_cons_succ]))
  refine mix_nil ?_
  intro w3 hw3
  obtain ⟨hcw3, hfw3⟩ := bcell hw3
  have hzw3 := bsize hw3
  (try simp only [World.size_alloc, World.size_setCell, World.size_drew, World.heap_drewN] at hcw3 hfw3 hzw3)
  replace hs2 := hs2.ext hw3
  have hbx3 := blk_ext hbx hw3
  have hxw3 := ext_trans hxw2 hw3
  clear s0 s1 s2 hcw3 hfw3 hbx
  go_wp2_with fail
  go_loopw [8, 9] (fun s8 s9 wr => ∃ k : Nat, k ≤ L.length ∧ s8 = .int .i64 ((L.take k).countP (holdQ a) : Nat) ∧ s9 = .int .i64 k ∧ Ext w3 wr) (fun _ s9 _ => L.length - (intOf s9).toNat)
  case atStart => exact ⟨0, Nat.zero_le _, by simp, rfl, Below.refl _ _⟩
  case round =>
    obtain ⟨k, hk, rfl, rfl, hx⟩ := hrel
    have hbd := count_bd a L k
    obtain ⟨c, hc⟩ : ∃ c, c = (L.take k).countP (holdQ a) := ⟨_, rfl⟩
    rw [← hc] at hbd ⊢
    by_cases hlt : k < L.length
    · have hltI : (k : Int) < (L.length : Int) := by omega
      obtain ⟨b, off, cs, rfl, -, hlen, hR, hcs⟩ := (hs2.ext hx).elem k hlt
      unfold Pfx.R at hR
      subst hR
      obtain ⟨k0, k1⟩ := cellsAt_2 hcs
      have lb := lt_of_cell k0
      have hct := count_take a L k hlt
      obtain ⟨y, hy⟩ : ∃ y, y = L[k] := ⟨_, rfl⟩
      rw [← hy] at k0 k1 hct
      rw [← hc] at hct
      have hh := holds_any y.at_ y.len a
      obtain ⟨q, hq⟩ : ∃ q, q = holdQ a y := ⟨_, rfl⟩
      have hq' : holdP y.at_ y.len a = q := hq.symm
      rw [hq'] at hh
      rw [← hq] at hct
      replace hh := Lib.hid hh
      replace hct := Lib.hid hct
      replace hc := Lib.hid hc
      replace hy := Lib.hid hy
      clear hcs hq hq'
      have hcw : IntKind.i64.wrap ((c : Int) + 1) = (c : Int) + 1 := IntWalk.i64_in _ (by omega)
      cases q
      case true =>
        go_wp2_with fail
        refine (hh.out _).mono ?_
        rintro e w5 ⟨rfl, hw5⟩
        obtain ⟨hcw5, hfw5⟩ := bcell hw5
        have hzw5 := bsize hw5
        (try simp only [World.size_alloc, World.size_setCell, World.size_drew, World.heap_drewN] at hcw5 hfw5 hzw5)
        go_wp2_with fail
        go_roundw
        case rel => exact ⟨k + 1, by omega, by (have e : (L.take (k + 1)).countP (holdQ a) = c + 1 := by (have h1 := hct.out; simp only [if_true] at h1; exact h1)); rw [e]; simp, by go_num, ext_trans hx hw5⟩
        case measure => simp [intOf]; omega
      case false =>
        go_wp2_with fail
        refine (hh.out _).mono ?_
        rintro e w5 ⟨rfl, hw5⟩
        obtain ⟨hcw5, hfw5⟩ := bcell hw5
        have hzw5 := bsize hw5
        (try simp only [World.size_alloc, World.size_setCell, World.size_drew, World.heap_drewN] at hcw5 hfw5 hzw5)
        go_wp2_with fail
        go_roundw
        case rel => exact ⟨k + 1, by omega, by (have e : (L.take (k + 1)).countP (holdQ a) = c := by (have h1 := hct.out; simp only [Bool.false_eq_true, if_false, Nat.add_zero] at h1; exact h1)); rw [e], by go_num, ext_trans hx hw5⟩
        case measure => simp [intOf]; omega
    · have hltI : ¬ (k : Int) < (L.length : Int) := by omega
      obtain rfl : k = L.length := by omega
      rw [List.take_length] at hc
      replace hc := Lib.hid hc
      have hxr := ext_trans hxw3 hx
      have hbr := blk_ext hbx3 hx
      obtain ⟨wz, rfl⟩ : ∃ wz : World, wz = wr := ⟨_, rfl⟩
      go_wp2_with fail
      go_loopw [8, 10] (fun s8 s10 wr => ∃ k : Nat, k ≤ us.length ∧ s8 = .int .i64 ((c + (us.take k).countP (holdQ a) : Nat) : Int) ∧ s10 = .int .i64 k ∧ Ext wz wr) (fun _ s10 _ => us.length - (intOf s10).toNat)
      case atStart => exact ⟨0, Nat.zero_le _, by simp, rfl, Below.refl _ _⟩
      case round =>
        obtain ⟨k, hk2, rfl, rfl, hx4⟩ := hrel
        have hbd2 := count_bd a us k
        have hb4 := blk_ext hbr hx4
        have s0 := blk_cell (o := 0) hb4 rfl
        have s1 := blk_cell (o := 1) hb4 rfl
        have s2 := blk_cell (o := 2) hb4 rfl
        have l4 := lt_of_block hb4
        obtain ⟨d, hd⟩ : ∃ d, d = (us.take k).countP (holdQ a) := ⟨_, rfl⟩
        rw [← hd] at hbd2 ⊢
        by_cases hlt2 : k < us.length
        · have hltI2 : (k : Int) < (us.length : Int) := by omega
          obtain ⟨b, off, cs, rfl, -, hlen, hR, hcs⟩ := (h.ext (ext_trans hxr hx4)).elem k hlt2
          unfold Pfx.R at hR
          subst hR
          obtain ⟨k0, k1⟩ := cellsAt_2 hcs
          have lb := lt_of_cell k0
          have hct := count_take a us k hlt2
          obtain ⟨y, hy⟩ : ∃ y, y = us[k] := ⟨_, rfl⟩
          rw [← hy] at k0 k1 hct
          rw [← hd] at hct
          have hh := holds_any y.at_ y.len a
          obtain ⟨q, hq⟩ : ∃ q, q = holdQ a y := ⟨_, rfl⟩
          have hq' : holdP y.at_ y.len a = q := hq.symm
          rw [hq'] at hh
          rw [← hq] at hct
          obtain ⟨n, hn⟩ : ∃ n, n = c + d := ⟨_, rfl⟩
          rw [← hn]
          have hcw : IntKind.i64.wrap ((n : Int) + 1) = (n : Int) + 1 := IntWalk.i64_in _ (by omega)
          replace hh := Lib.hid hh
          replace hct := Lib.hid hct
          replace hd := Lib.hid hd
          replace hn := Lib.hid hn
          replace hy := Lib.hid hy
          clear hcs hq hq'
          cases q
          case true =>
            go_wp2_with fail
            refine (hh.out _).mono ?_
            rintro e w5 ⟨rfl, hw5⟩
            obtain ⟨hcw5, hfw5⟩ := bcell hw5
            have hzw5 := bsize hw5
            (try simp only [World.size_alloc, World.size_setCell, World.size_drew, World.heap_drewN] at hcw5 hfw5 hzw5)
            go_wp2_with fail
            go_roundw
            case rel => exact ⟨k + 1, by omega, by (have e : c + (us.take (k + 1)).countP (holdQ a) = n + 1 := by (have h1 := hct.out; have h2 := hn.out; simp only [if_true] at h1; omega)); rw [e]; simp, by go_num, ext_trans hx4 hw5⟩
            case measure => simp [intOf]; omega
          case false =>
            go_wp2_with fail
            refine (hh.out _).mono ?_
            rintro e w5 ⟨rfl, hw5⟩
            obtain ⟨hcw5, hfw5⟩ := bcell hw5
            have hzw5 := bsize hw5
            (try simp only [World.size_alloc, World.size_setCell, World.size_drew, World.heap_drewN] at hcw5 hfw5 hzw5)
            go_wp2_with fail
            go_roundw
            case rel => exact ⟨k + 1, by omega, by (have e : c + (us.take (k + 1)).countP (holdQ a) = n := by (have h1 := hct.out; have h2 := hn.out; simp only [Bool.false_eq_true, if_false, Nat.add_zero] at h1; omega)); rw [e], by go_num, ext_trans hx4 hw5⟩
            case measure => simp [intOf]; omega
        · have hltI2 : ¬ (k : Int) < (us.length : Int) := by omega
          obtain rfl : k = us.length := by omega
          rw [List.take_length] at hd
          have hcd : c + d = 1 := by rw [hd, hc.out]; exact hone.out
          rw [hcd]
          clear hd hcd
          go_wp2_with fail
          refine (spaceBegun_any _).mono ?_
          rintro e w5 ⟨rfl, hw5⟩
          obtain ⟨hcw5, hfw5⟩ := bcell hw5
          have hzw5 := bsize hw5
          (try simp only [World.size_alloc, World.size_setCell, World.size_drew, World.heap_drewN] at hcw5 hfw5 hzw5)
          go_wp2_with fail
          go_ret
          exact ⟨rfl, ext_trans (ext_trans hxr hx4) hw5⟩
theorem spaceWhole_any {A : Area} (root : Pfx) (us : List Pfx) (uo : Option Addr) (ucap : Nat) (x : Int) (w : World) (h : Sl A w 2 Pfx.R uo ucap us) (hx1 : -9223372036854775808 ≤ x) (hx2 : x ≤ 9223372036854775807) :
    Calls Try.prog 6 #[.agg #[.int .i64 root.at_, .int .i64 root.len, .slice uo us.length ucap], .int .i64 x] w fun e w' => e = .returned (.bool true) ∧ Ext w w' := by
  by_cases h0 : chkS root us = 0
  · exact whole_good root us uo ucap x w h h0 hx1 hx2
  · exact whole_bad root us uo ucap x w h h0
end Go.Proofs.Ytflbpkgnadjokaa
