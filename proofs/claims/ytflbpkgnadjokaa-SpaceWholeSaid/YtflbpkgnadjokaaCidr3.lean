/- The program's prefixes: Halves. -/
import Derived.Test.YtflbpkgnadjokaaCidr2a
import Derived.Test.YtflbpkgnadjokaaMiy
import Derived.IntWalk
namespace Go.Proofs.Ytflbpkgnadjokaa
open Go Go.RowKit Go.Proofs
theorem or_szI (a l : Int) (h : rightB a l = true) (hl : l < 16) : bits .or .i64 a (msk (l + 1) + 1) = a + szI (l + 1) := by
  obtain ⟨g1, g2, g3, g4, g5⟩ := right_bd h
  obtain ⟨n, rfl⟩ := Int.eq_ofNat_of_zero_le g3
  have e1 : msk (l + 1) + 1 = ((2 ^ (16 - (l + 1)).toNat : Nat) : Int) := by simp [msk]
  have e2 : szI (l + 1) = ((2 ^ (16 - (l + 1)).toNat : Nat) : Int) := by simp [szI]
  obtain ⟨k, hk⟩ : ∃ k, k = (16 - (l + 1)).toNat := ⟨_, rfl⟩
  have e3 : (16 - l).toNat = k + 1 := by omega
  rw [e1, e2, ← hk]
  have hk15 : k ≤ 15 := by omega
  have hp : 2 ^ k ≤ 2 ^ 15 := Nat.pow_le_pow_right (by omega) hk15
  have g6 : n % 2 ^ (k + 1) = 0 := by
    unfold szI at g5
    rw [e3] at g5
    exact_mod_cast g5
  have hn : n = 2 ^ (k + 1) * (n / 2 ^ (k + 1)) := by have := Nat.div_add_mod n (2 ^ (k + 1)); omega
  have hor : n ||| 2 ^ k = n + 2 ^ k := by
    rw [hn]
    exact (Nat.two_pow_add_eq_or_of_lt (Nat.pow_lt_pow_right (by omega) (by omega)) _).symm
  show IntKind.i64.wrap ((BitVec.ofInt 64 (n : Int) ||| BitVec.ofInt 64 ((2 ^ k : Nat) : Int)).toNat : Int) = _
  rw [BitVec.toNat_or, ofInt_i64 n (by omega), ofInt_i64 _ (by omega), hor, IntKind.wrap_i64]
  omega
def zeroP : Value := .agg #[.int .i64 0, .int .i64 0]
def halvesV (a l : Int) : Value :=
  if chk a l = 0 then (if l = 16 then .tuple #[zeroP, zeroP, .int .i64 3] else .tuple #[.agg #[.int .i64 a, .int .i64 (l + 1)], .agg #[.int .i64 (a + szI (l + 1)), .int .i64 (l + 1)], .int .i64 0])
  else .tuple #[zeroP, zeroP, .int .i64 (chk a l)]
set_option maxHeartbeats 1000000 in
theorem halves_any (a l : Int) (w : World) :
    Calls Try.prog 53 #[.agg #[.int .i64 a, .int .i64 l]] w fun e w' => e = .returned (halvesV a l) ∧ Ext w w' := by
  have hc := check_any a l
  unfold halvesV zeroP
  by_cases h0 : chk a l = 0
  · have hR : rightB a l = true := by simp [rightB, h0]
    obtain ⟨g1, g2, g3, g4, g5⟩ := right_bd hR
    rw [if_pos h0]
    rw [h0] at hc
    replace hc := Lib.hid hc
    clear h0
    by_cases h16 : l = 16
    · rw [if_pos h16]
      have h16I : (l == 16) = true := by simp [h16]
      clear h16
      go_enter Try.func53, Try.ntmps53
      go_wp2_with fail
      refine (hc.out _).mono ?_
      rintro e w1 ⟨rfl, hw1⟩
      obtain ⟨hcw1, hfw1⟩ := bcell hw1
      have hzw1 := bsize hw1
      (try simp only [World.size_alloc, World.size_setCell, World.size_drew, World.heap_drewN] at hcw1 hfw1 hzw1)
      go_wp2_with fail
      refine bodyPost_ret ?_ rfl ⟨rfl, Bel.bel (B := _) ?_⟩
      · simp [results, Try.results53, go_sem, hcw1]
      · (repeat (first | with_reducible assumption | with_reducible exact Bel.refl _ | with_reducible refine Bel.alloc ?_ _ | with_reducible refine Bel.drewN ?_ _ | with_reducible refine Bel.drew ?_ | (with_reducible refine Bel.setCell0 ?_ ?_ _; rotate_left; (first | omega | (simp; done) | (simp; omega))) | (with_reducible refine Bel.setCell ?_ (p := _) ?_ _; rotate_left; (first | (simp; done) | omega | (simp; omega))) | refine Bel.call ?_ (by assumption) | (refine EX.bel ?_ (by assumption) ?_; rotate_left; (first | omega | (simp; omega)))))
    · rw [if_neg h16]
      have h16I : (l == 16) = false := by simp [h16]
      have hor := or_szI a l hR (by omega)
      obtain ⟨z1, z2⟩ := msk_bd (l + 1) (by omega)
      have hwr : IntKind.i64.wrap (msk (l + 1) + 1) = msk (l + 1) + 1 := IntWalk.i64_in _ (by omega)
      have hmk := fun W => mask_any (l + 1) W (by omega) (by omega)
      replace hmk := Lib.hid hmk
      clear h16
      go_enter Try.func53, Try.ntmps53
      go_wp2_with fail
      refine (hc.out _).mono ?_
      rintro e w1 ⟨rfl, hw1⟩
      obtain ⟨hcw1, hfw1⟩ := bcell hw1
      have hzw1 := bsize hw1
      (try simp only [World.size_alloc, World.size_setCell, World.size_drew, World.heap_drewN] at hcw1 hfw1 hzw1)
      have l1 : w.heap.size < w1.heap.size := by omega
      have l2 : w.heap.size + 1 < w1.heap.size := by omega
      have l3 : w.heap.size + 1 + 1 < w1.heap.size := by omega
      go_wp2_with fail
      refine region_miy (w.heap.size + 1) (w.heap.size + 3) (by kernel_rfl) (by kernel_rfl) (fun _ _ d _ _ h => by cases d <;> exact h) ?_
      repeat (first | ((first | refine miy_skip_t rfl rfl rfl (by with_reducible rfl) ?_ | refine miy_skip_f rfl rfl rfl (by with_reducible rfl) ?_ | refine miy_skip_u rfl rfl rfl (by with_reducible rfl) ?_); simp only [Act.put, List.setIfInBounds_toArray, List.set_cons_zero, List.set_cons_succ]) | (apply miy_take; (first | exact want_0 rfl | exact want_b rfl rfl rfl (by with_reducible rfl)); intro wq hwq R hR; ((have hcc := EX.lo hwq (by first | omega | (simp; omega) | (simp; done)); have hcd := EX.hi hwq; (try simp only [World.size_alloc, World.size_setCell, World.size_drew, World.heap_drewN] at hcc hcd)); go_simp; first | exact hR | ((go_at_call 42; exact mcall_same (hmk.out _) hR))); simp only [Act.put, List.setIfInBounds_toArray, List.set_cons_zero, List.set_cons_succ]))
      refine miy_alone (by kernel_rfl) (by first | exact want_0 rfl | exact want_b rfl rfl rfl (by with_reducible rfl)) (fun w2 hw2 K hK => ?_)
      have hzw2 := hw2.size
      have hlw2 := EX.lo hw2 (by first | omega | (simp; omega) | (simp; done))
      have hhw2 := EX.hi hw2
      have hfw2 := hw2.free
      (try simp only [World.size_alloc, World.size_setCell, World.size_drew, World.heap_drewN] at hzw2 hlw2 hhw2 hfw2)
      (try have l0w2 : w.heap.size < w2.heap.size := by omega)
      (try have l1w2 : w.heap.size + 1 < w2.heap.size := by omega)
      (try have l2w2 : w.heap.size + 1 + 1 < w2.heap.size := by omega)
      (try have l3w2 : w.heap.size + 1 + 1 + 1 < w2.heap.size := by omega)
      obtain ⟨u0w2, hu0w2⟩ := hw2.some (b := w.heap.size + 1) (o := 0) (v := _) (by go_simp; rfl)
      obtain ⟨u1w2, hu1w2⟩ := hw2.some (b := w.heap.size + 1) (o := 1) (v := _) (by go_simp; rfl)
      go_simp
      refine hK _ _ (w.heap.size + 2) (w.heap.size + 3) (by omega) (by omega) (by repeat (first | exact EX.refl _ | refine EX.setCell ?_ (by omega) (by omega) _)) ?_
      clear hK K
      obtain ⟨v0, hv0⟩ := hw2.some (b := w.heap.size + 1 + 1) (o := 0) (v := _) (by go_simp; rfl)
      obtain ⟨v1, hv1⟩ := hw2.some (b := w.heap.size + 1 + 1) (o := 1) (v := _) (by go_simp; rfl)
      refine miy_alone (by kernel_rfl) (by first | exact want_0 rfl | exact want_b rfl rfl rfl (by with_reducible rfl)) (fun w3 hw3 K hK => ?_)
      have hzw3 := hw3.size
      have hlw3 := EX.lo hw3 (by first | omega | (simp; omega) | (simp; done))
      have hhw3 := EX.hi hw3
      have hfw3 := hw3.free
      (try simp only [World.size_alloc, World.size_setCell, World.size_drew, World.heap_drewN] at hzw3 hlw3 hhw3 hfw3)
      (try have l0w3 : w.heap.size < w3.heap.size := by omega)
      (try have l1w3 : w.heap.size + 1 < w3.heap.size := by omega)
      (try have l2w3 : w.heap.size + 1 + 1 < w3.heap.size := by omega)
      (try have l3w3 : w.heap.size + 1 + 1 + 1 < w3.heap.size := by omega)
      obtain ⟨u0w3, hu0w3⟩ := hw3.some (b := w.heap.size + 1 + 1) (o := 0) (v := _) (by go_simp; rfl)
      obtain ⟨u1w3, hu1w3⟩ := hw3.some (b := w.heap.size + 1 + 1) (o := 1) (v := _) (by go_simp; rfl)
      go_simp
      refine hK _ _ (w.heap.size + 3) (w.heap.size + 3) (by omega) (by omega) (by repeat (first | exact EX.refl _ | refine EX.setCell ?_ (by omega) (by omega) _)) ?_
      clear hK K
      repeat (first | ((first | refine miy_skip_t rfl rfl rfl (by with_reducible rfl) ?_ | refine miy_skip_f rfl rfl rfl (by with_reducible rfl) ?_ | refine miy_skip_u rfl rfl rfl (by with_reducible rfl) ?_); simp only [Act.put, List.setIfInBounds_toArray, List.set_cons_zero, List.set_cons_succ]) | (apply miy_take; (first | exact want_0 rfl | exact want_b rfl rfl rfl (by with_reducible rfl)); intro wq hwq R hR; ((have hcc := EX.lo hwq (by first | omega | (simp; omega) | (simp; done)); have hcd := EX.hi hwq; (try simp only [World.size_alloc, World.size_setCell, World.size_drew, World.heap_drewN] at hcc hcd)); go_simp; first | exact hR | (fail)); simp only [Act.put, List.setIfInBounds_toArray, List.set_cons_zero, List.set_cons_succ]))
      refine miy_nil ?_
      intro w4 hw4
      have hzw4 := hw4.size
      have hlw4 := EX.lo hw4 (by first | omega | (simp; omega) | (simp; done))
      have hhw4 := EX.hi hw4
      have hfw4 := hw4.free
      (try simp only [World.size_alloc, World.size_setCell, World.size_drew, World.heap_drewN] at hzw4 hlw4 hhw4 hfw4)
      (try have l0w4 : w.heap.size < w4.heap.size := by omega)
      (try have l1w4 : w.heap.size + 1 < w4.heap.size := by omega)
      (try have l2w4 : w.heap.size + 1 + 1 < w4.heap.size := by omega)
      (try have l3w4 : w.heap.size + 1 + 1 + 1 < w4.heap.size := by omega)
      go_wp2_with fail
      refine bodyPost_ret ?_ rfl ⟨rfl, Bel.bel (B := _) ?_⟩
      · simp [results, Try.results53, go_sem, hlw4, hlw3, hu0w2, hu1w2, hu0w3, hu1w3]
      · (repeat (first | with_reducible assumption | with_reducible exact Bel.refl _ | with_reducible refine Bel.alloc ?_ _ | with_reducible refine Bel.drewN ?_ _ | with_reducible refine Bel.drew ?_ | (with_reducible refine Bel.setCell0 ?_ ?_ _; rotate_left; (first | omega | (simp; done) | (simp; omega))) | (with_reducible refine Bel.setCell ?_ (p := _) ?_ _; rotate_left; (first | (simp; done) | omega | (simp; omega))) | refine Bel.call ?_ (by assumption) | (refine EX.bel ?_ (by assumption) ?_; rotate_left; (first | omega | (simp; omega)))))
  · rw [if_neg h0]
    replace h0 : (chk a l != 0) = true := by simpa using h0
    obtain ⟨r, hr⟩ : ∃ r, r = chk a l := ⟨_, rfl⟩
    rw [← hr] at hc h0 ⊢
    clear hr
    replace hc := Lib.hid hc
    go_enter Try.func53, Try.ntmps53
    go_wp2_with fail
    refine (hc.out _).mono ?_
    rintro e w1 ⟨rfl, hw1⟩
    obtain ⟨hcw1, hfw1⟩ := bcell hw1
    have hzw1 := bsize hw1
    (try simp only [World.size_alloc, World.size_setCell, World.size_drew, World.heap_drewN] at hcw1 hfw1 hzw1)
    go_wp2_with fail
    refine bodyPost_ret ?_ rfl ⟨rfl, Bel.bel (B := _) ?_⟩
    · simp [results, Try.results53, go_sem, hcw1]
    · (repeat (first | with_reducible assumption | with_reducible exact Bel.refl _ | with_reducible refine Bel.alloc ?_ _ | with_reducible refine Bel.drewN ?_ _ | with_reducible refine Bel.drew ?_ | (with_reducible refine Bel.setCell0 ?_ ?_ _; rotate_left; (first | omega | (simp; done) | (simp; omega))) | (with_reducible refine Bel.setCell ?_ (p := _) ?_ _; rotate_left; (first | (simp; done) | omega | (simp; omega))) | refine Bel.call ?_ (by assumption) | (refine EX.bel ?_ (by assumption) ?_; rotate_left; (first | omega | (simp; omega)))))
end Go.Proofs.Ytflbpkgnadjokaa
