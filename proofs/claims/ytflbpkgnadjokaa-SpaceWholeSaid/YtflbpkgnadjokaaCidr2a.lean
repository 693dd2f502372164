/- The program's prefixes: Size, Holds, Inside, Meets. -/
import Derived.Test.YtflbpkgnadjokaaCidrR
import Derived.Deep.RegionHeld3
namespace Go.Proofs.Ytflbpkgnadjokaa
open Go Go.RowKit Go.Proofs
theorem cellsAt_cons {w : World} {b off : Nat} {c : Value} {cs : List Value} (h : w.cell? ⟨b, off, none⟩ = some c) (hs : cellsAt w b (off + 1) cs) : cellsAt w b off (c :: cs) := by
  intro i hi
  match i with
  | 0 => simpa using h
  | i + 1 => have := hs i (by simpa using hi); simpa [Nat.add_assoc, Nat.add_comm 1 i] using this
theorem cellsAt_nil {w : World} {b off : Nat} : cellsAt w b off [] := fun i hi => absurd hi (by simp)
theorem right1 {w : World} {b : Nat} (a l : Int) (v : Bool) (hv : rightB a l = v) (h0 : w.cell? ⟨b, 0, none⟩ = some (.int .i64 a)) (h1 : w.cell? ⟨b, 1, none⟩ = some (.int .i64 l)) :
    Calls Try.prog 41 #[.slice (some ⟨b, 0, none⟩) 1 1] w fun e w' => e = .returned (.bool v) ∧ Ext w w' := by
  have h : Sl (fun _ => True) w 2 Pfx.R (some ⟨b, 0, none⟩) 1 [(⟨a, l⟩ : Pfx)] := by
    refine ⟨by simp, by omega, fun i hi => ?_⟩
    match i with
    | 0 => exact ⟨b, 0, _, rfl, trivial, rfl, rfl, cellsAt_cons h0 (cellsAt_cons h1 cellsAt_nil)⟩
  refine (right_any h).mono fun e w' hh => ⟨hh.1.trans (ret_bool ?_), hh.2⟩
  rw [← hv]; simp [rightB, Pfx.chk]
theorem right2 {w : World} {b : Nat} (a l c m : Int) (v : Bool) (hv : (rightB a l && rightB c m) = v) (h0 : w.cell? ⟨b, 0, none⟩ = some (.int .i64 a)) (h1 : w.cell? ⟨b, 1, none⟩ = some (.int .i64 l))
    (h2 : w.cell? ⟨b, 2, none⟩ = some (.int .i64 c)) (h3 : w.cell? ⟨b, 3, none⟩ = some (.int .i64 m)) :
    Calls Try.prog 41 #[.slice (some ⟨b, 0, none⟩) 2 2] w fun e w' => e = .returned (.bool v) ∧ Ext w w' := by
  have h : Sl (fun _ => True) w 2 Pfx.R (some ⟨b, 0, none⟩) 2 [(⟨a, l⟩ : Pfx), ⟨c, m⟩] := by
    refine ⟨by simp, by omega, fun i hi => ?_⟩
    match i with
    | 0 => exact ⟨b, 0, _, rfl, trivial, rfl, rfl, cellsAt_cons h0 (cellsAt_cons h1 cellsAt_nil)⟩
    | 1 => exact ⟨b, 0, _, rfl, trivial, rfl, rfl, cellsAt_cons h2 (cellsAt_cons h3 cellsAt_nil)⟩
  refine (right_any h).mono fun e w' hh => ⟨hh.1.trans (ret_bool ?_), hh.2⟩
  rw [← hv]; simp [rightB, Pfx.chk]
theorem bv_andnot (x y : BitVec 64) : (x &&& ~~~y).toNat = x.toNat - (x &&& y).toNat := by
  have h1 : (x &&& ~~~y) &&& (x &&& y) = 0#64 := by
    ext i hi
    simp only [BitVec.getElem_and, BitVec.getElem_not, BitVec.getElem_zero]
    cases x[i] <;> cases y[i] <;> rfl
  have h2 : (x &&& ~~~y) + (x &&& y) = x := by
    rw [BitVec.add_eq_or_of_and_eq_zero _ _ h1]
    ext i hi
    simp only [BitVec.getElem_and, BitVec.getElem_not, BitVec.getElem_or]
    cases x[i] <;> cases y[i] <;> rfl
  have h4 := BitVec.toNat_add_of_and_eq_zero h1
  rw [h2] at h4
  omega
theorem andnot_msk (a l : Int) (h0 : 0 ≤ a) (h1 : a ≤ 65535) (h2 : 0 ≤ l) : bits .andNot .i64 a (msk l) = a - a % szI l := by
  obtain ⟨n, rfl⟩ := Int.eq_ofNat_of_zero_le h0
  have hm := msk_bd l h2
  rw [msk_nat] at hm ⊢
  show IntKind.i64.wrap ((BitVec.ofInt 64 (n : Int) &&& ~~~ BitVec.ofInt 64 _).toNat : Int) = _
  rw [bv_andnot, BitVec.toNat_and, ofInt_i64 n (by omega), ofInt_i64 _ (by omega), Nat.and_two_pow_sub_one_eq_mod, IntKind.wrap_i64]
  have := Nat.mod_le n (2 ^ (16 - l).toNat)
  unfold szI
  have h9 : ((n : Int) % 2 ^ (16 - l).toNat) = ((n % 2 ^ (16 - l).toNat : Nat) : Int) := by simp
  omega
def sizeI (a l : Int) : Int := if rightB a l = true then szI l else 0
set_option maxHeartbeats 400000 in
theorem size_any (a l : Int) (w : World) :
    Calls Try.prog 22 #[.agg #[.int .i64 a, .int .i64 l]] w fun e w' => e = .returned (.int .i64 (sizeI a l)) ∧ Ext w w' := by
  cases hA : rightB a l
  case false =>
    have hs : sizeI a l = 0 := by simp [sizeI, hA]
    rw [hs]
    have hv := Lib.hid hA
    go_enter Try.func22, Try.ntmps22
    go_wp2_with (first | (go_at_call 41; refine (right1 a l _ hv.out ?_ ?_).mono ?_; go_simp; go_simp; rintro e w1 ⟨rfl, hw1⟩))
    go_ret
    refine ⟨rfl, Bel.bel (B := _) ?_⟩
    (repeat (first | with_reducible assumption | with_reducible exact Bel.refl _ | with_reducible refine Bel.alloc ?_ _ | with_reducible refine Bel.drewN ?_ _ | with_reducible refine Bel.drew ?_ | (with_reducible refine Bel.setCell0 ?_ ?_ _; rotate_left; (first | omega | (simp; done) | (simp; omega))) | (with_reducible refine Bel.setCell ?_ (p := _) ?_ _; rotate_left; (first | (simp; done) | omega | (simp; omega))) | refine Bel.call ?_ (by assumption) | (refine EX.bel ?_ (by assumption) ?_; rotate_left; (first | omega | (simp; omega)))))
  case true =>
    have hs : sizeI a l = msk l + 1 := by simp [sizeI, hA, msk, szI]
    rw [hs]
    have hv := Lib.hid hA
    obtain ⟨g1, g2, g3, g4, -⟩ := right_bd hA
    obtain ⟨z1, z2⟩ := msk_bd l g1
    go_enter Try.func22, Try.ntmps22
    go_wp2_with (first | (go_at_call 41; refine (right1 a l _ hv.out ?_ ?_).mono ?_; go_simp; go_simp; rintro e w1 ⟨rfl, hw1⟩; obtain ⟨hcw1, hfw1⟩ := bcell hw1; simp only [World.size_alloc] at hcw1 hfw1) | (go_at_call 42; refine (mask_any _ _ g1 g2).mono ?_; rintro e w2 ⟨rfl, rfl⟩))
    go_ret
    refine ⟨rfl, Bel.bel (B := _) ?_⟩
    (repeat (first | with_reducible assumption | with_reducible exact Bel.refl _ | with_reducible refine Bel.alloc ?_ _ | with_reducible refine Bel.drewN ?_ _ | with_reducible refine Bel.drew ?_ | (with_reducible refine Bel.setCell0 ?_ ?_ _; rotate_left; (first | omega | (simp; done) | (simp; omega))) | (with_reducible refine Bel.setCell ?_ (p := _) ?_ _; rotate_left; (first | (simp; done) | omega | (simp; omega))) | refine Bel.call ?_ (by assumption) | (refine EX.bel ?_ (by assumption) ?_; rotate_left; (first | omega | (simp; omega)))))
end Go.Proofs.Ytflbpkgnadjokaa
