import Derived.Test.YtflbpkgnadjokaaBase
namespace Go.Proofs.Ytflbpkgnadjokaa
open Go Go.RowKit Go.Proofs
def msk (n : Int) : Int := 2 ^ (16 - n).toNat - 1
theorem msk_nat (n : Int) : msk n = ((2 ^ (16 - n).toNat - 1 : Nat) : Int) := by
  have := Nat.one_le_two_pow (n := (16 - n).toNat)
  have h4 : ((2 ^ (16 - n).toNat : Nat) : Int) = (2 : Int) ^ (16 - n).toNat := by simp
  unfold msk; omega
theorem pow_bd (n : Int) (h0 : 0 ≤ n) : (2 : Int) ^ (16 - n).toNat ≤ 65536 ∧ 1 ≤ (2 : Int) ^ (16 - n).toNat := by
  have h1 : (16 - n).toNat ≤ 16 := by omega
  have h2 := Nat.pow_le_pow_right (n := 2) (by omega) h1
  have h3 := Nat.one_le_two_pow (n := (16 - n).toNat)
  have h4 : ((2 ^ (16 - n).toNat : Nat) : Int) = (2 : Int) ^ (16 - n).toNat := by simp
  omega
theorem msk_bd (n : Int) (h0 : 0 ≤ n) : 0 ≤ msk n ∧ msk n ≤ 65535 := by
  have := pow_bd n h0
  unfold msk; omega
theorem mask_any (n : Int) (w : World) (h0 : 0 ≤ n) (h1 : n ≤ 16) :
    Calls Try.prog 42 #[.int .i64 n] w fun e w' => e = .returned (.int .i64 (msk n)) ∧ w = w' := by
  have hp := pow_bd n h0
  go_enter Try.func42, Try.ntmps42
  go_wp2
  go_ret
  exact ⟨rfl, rfl⟩
def chk (a l : Int) : Int := if l < 0 ∨ l > 16 ∨ a < 0 ∨ a > 65535 then 3 else if a % 2 ^ (16 - l).toNat = 0 then 0 else 1
theorem and_msk (a l : Int) (h0 : 0 ≤ a) (h1 : a ≤ 65535) (h2 : 0 ≤ l) : bits .and .i64 a (msk l) = a % 2 ^ (16 - l).toNat := by
  obtain ⟨n, rfl⟩ := Int.eq_ofNat_of_zero_le h0
  rw [msk_nat, i64_and_nat _ _ (by omega) (by have := msk_bd l h2; rw [msk_nat] at this; omega), Nat.and_two_pow_sub_one_eq_mod]
  simp
theorem chk_3 {a l : Int} (h : l < 0 ∨ l > 16 ∨ a < 0 ∨ a > 65535) : chk a l = 3 := if_pos h
theorem chk_in {a l : Int} (h1 : 0 ≤ l) (h2 : l ≤ 16) (h3 : 0 ≤ a) (h4 : a ≤ 65535) : chk a l = if a % 2 ^ (16 - l).toNat = 0 then 0 else 1 := if_neg (by omega)
set_option maxHeartbeats 400000 in
theorem check_any (a l : Int) (w : World) :
    Calls Try.prog 34 #[.agg #[.int .i64 a, .int .i64 l]] w fun e w' => e = .returned (.int .i64 (chk a l)) ∧ Ext w w' := by
  by_cases hl : l < 0 ∨ l > 16 ∨ a < 0 ∨ a > 65535
  · have hc := Lib.hid (chk_3 hl)
    by_cases h1 : l < 0
    · clear hl
      go_enter Try.func34, Try.ntmps34
      go_wp2_with fail
      go_ret
      exact ⟨ret_int hc.out.symm, (Below.refl _ _).alloc (Nat.le_refl _) _⟩
    by_cases h2 : l > 16
    · clear hl
      go_enter Try.func34, Try.ntmps34
      go_wp2_with fail
      go_ret
      exact ⟨ret_int hc.out.symm, (Below.refl _ _).alloc (Nat.le_refl _) _⟩
    by_cases h3 : a < 0
    · clear hl
      go_enter Try.func34, Try.ntmps34
      go_wp2_with fail
      go_ret
      exact ⟨ret_int hc.out.symm, (Below.refl _ _).alloc (Nat.le_refl _) _⟩
    have h4 : a > 65535 := by omega
    clear hl
    go_enter Try.func34, Try.ntmps34
    go_wp2_with fail
    go_ret
    exact ⟨ret_int hc.out.symm, (Below.refl _ _).alloc (Nat.le_refl _) _⟩
  · have hm := msk_bd l (by omega)
    obtain ⟨g1, g2, g3, g4⟩ : 0 ≤ l ∧ l ≤ 16 ∧ 0 ≤ a ∧ a ≤ 65535 := by omega
    clear hl
    have hc := Lib.hid (chk_in g1 g2 g3 g4)
    have ha := Lib.hid (and_msk a l g3 g4 g1)
    go_enter Try.func34, Try.ntmps34
    go_wp2_with fail
    go_quiet ((go_at_call 42; exact Calls.quiet_of_same ((mask_any _ _ (by omega) (by omega)).mono (fun _ _ h => ⟨h.1, h.2.symm⟩))))
    go_wp2_with fail
    · go_ret
      rename_i h
      rw [ha.out] at h
      exact ⟨ret_int (by rw [hc.out, if_neg (by simpa using h)]), below_drewN ((Below.refl _ _).alloc (Nat.le_refl _) _) _⟩
    · go_ret
      rename_i h
      rw [ha.out] at h
      exact ⟨ret_int (by rw [hc.out, if_pos (by simpa using h)]), below_drewN ((Below.refl _ _).alloc (Nat.le_refl _) _) _⟩
structure Pfx where
  at_ : Int
  len : Int
  deriving DecidableEq
def Pfx.R (cs : List Value) (p : Pfx) : Prop := cs = [.int .i64 p.at_, .int .i64 p.len]
def Pfx.chk (p : Pfx) : Int := Go.Proofs.Ytflbpkgnadjokaa.chk p.at_ p.len
set_option maxHeartbeats 400000 in
theorem right_any {A : Area} {w : World} {ao : Option Addr} {cap : Nat} {l : List Pfx} (h : Sl A w 2 Pfx.R ao cap l) :
    Calls Try.prog 41 #[.slice ao l.length cap] w fun e w' => e = .returned (.bool (l.all fun p => p.chk == 0)) ∧ Ext w w' := by
  have hcl := h.cap_le
  have hcm := h.cap_max
  go_enter Try.func41, Try.ntmps41
  go_wp2_with fail
  go_loopw [7] (fun i wr => ∃ k : Nat, k ≤ l.length ∧ i = .int .i64 k ∧ (∀ p ∈ l.take k, p.chk = 0) ∧ Bel w.heap.size w wr) (fun i _ => l.length - (intOf i).toNat)
  case atStart => exact ⟨0, Nat.zero_le _, rfl, by simp, Bel.refl _⟩
  case round =>
    obtain ⟨k, hk, rfl, hall, hb⟩ := hrel
    by_cases hlt : k < l.length
    · obtain ⟨b, off, cs, hao, -, -, hR, hc⟩ := h.elem k hlt
      generalize hp : l[k] = p at hR
      unfold Pfx.R at hR
      subst hR
      have hc0 := hc 0 (by simp)
      have hc1 := hc 1 (by simp)
      simp at hc0 hc1
      have hbl := lt_of_cell hc0
      have hc0 := hb.cell hbl hc0
      have hc1 := hb.cell hbl hc1
      replace hp := Lib.hid hp
      replace hall := Lib.hid hall
      clear hc
      subst hao
      go_wp2_with fail
      have hle := hb.le
      refine (check_any _ _ _).mono ?_
      rintro e w1 ⟨rfl, hw1⟩
      have hb3 : Bel w.heap.size w w1 := by (repeat (first | with_reducible assumption | with_reducible exact Bel.refl _ | with_reducible refine Bel.alloc ?_ _ | with_reducible refine Bel.drewN ?_ _ | with_reducible refine Bel.drew ?_ | (with_reducible refine Bel.setCell0 ?_ ?_ _; rotate_left; (first | omega | (simp; done) | (simp; omega))) | (with_reducible refine Bel.setCell ?_ (p := _) ?_ _; rotate_left; (first | (simp; done) | omega | (simp; omega))) | refine Bel.call ?_ (by assumption) | (refine EX.bel ?_ (by assumption) ?_; rotate_left; (first | omega | (simp; omega)))))
      replace hb3 := Lib.hid hb3
      clear hb
      by_cases hz : Go.Proofs.Ytflbpkgnadjokaa.chk p.at_ p.len = 0
      · have hz2 : (Go.Proofs.Ytflbpkgnadjokaa.chk p.at_ p.len != 0) = false := by simp [hz]
        replace hz := Lib.hid hz
        go_wp2_with fail
        go_roundw
        case rel => exact ⟨k + 1, by omega, by go_num, by
            intro q hq
            rw [List.take_succ_eq_append_getElem hlt] at hq
            rcases List.mem_append.1 hq with hq | hq
            · exact hall.out q hq
            · rw [List.mem_singleton.1 hq, hp.out]; exact hz.out, hb3.out⟩
        case measure => simp [intOf]; omega
      · have hz2 : (Go.Proofs.Ytflbpkgnadjokaa.chk p.at_ p.len != 0) = true := by simp [hz]
        go_wp2_with fail
        go_ret
        refine ⟨?_, hb3.out.bel⟩
        have : (l.all fun p => p.chk == 0) = false := by
          rw [List.all_eq_false]
          exact ⟨l[k], List.getElem_mem hlt, by rw [hp.out]; simpa [Pfx.chk] using hz⟩
        rw [this]; rfl
    · obtain rfl : k = l.length := by omega
      go_wp2_with fail
      go_ret
      refine ⟨?_, hb.bel⟩
      have : (l.all fun p => p.chk == 0) = true := by
        rw [List.all_eq_true]
        intro p hp
        rw [List.take_length] at hall
        simpa using hall p hp
      rw [this]; rfl
end Go.Proofs.Ytflbpkgnadjokaa
