/- Texts of this work, joined: Lib2, Brg, Within, CidrR, Cidr2a, Mix, Cidr2, Cidr4, Miy, Cidr3, BrgC, Cells, SlP, SlP2, Space1, Space2, Space3, Space4, Space5, Holes, Holes2, Holes3, BrgT, Lib3, LibM. -/
import Derived.Test.YtbeocackphfijaaZHPoolFinds2
import Derived.Deep.RegionHeld3
import Derived.IntWalk
import Derived.Shelf.Slices.SearchI
import Derived.RangeFuncNested
import Derived.RangeFuncBound
import Derived.RangeFuncCalls
import Derived.RangeFuncLeaves
import Derived.Shelf.Abstract
import Derived.Shelf.RegionOpen
import Derived.OwnWalkIn
import Derived.TacticsInMore
import Derived.LoopNIn
import Derived.LoopIn
set_option linter.unusedSimpArgs false
set_option linter.unusedVariables false
namespace Go.Proofs.Ytbeocackphfijaa
open Go Go.RowKit
def cmpI (a b : Int) : Int := if a < b then -1 else if a > b then 1 else 0
theorem cmpI_neg (a b : Int) : decide (cmpI a b < 0) = decide (a < b) := by
  unfold cmpI
  split
  · simp [*]
  · split <;> simp [*]
theorem cmpI_zero (a b : Int) : (cmpI a b == 0) = (a == b) := by
  unfold cmpI
  split
  · rename_i h; rw [Bool.eq_iff_iff]; simp; omega
  · split
    · rw [Bool.eq_iff_iff]; simp; omega
    · rw [Bool.eq_iff_iff]; simp; omega
theorem wrap_u64 (x : Int) : IntKind.u64.wrap x = x % 18446744073709551616 := rfl
def lbN {α : Type} (key : α → Int) (t : Int) (l : List α) : Nat := l.findIdx fun x => decide (t ≤ key x)
def lbB {α : Type} (key : α → Int) (t : Int) (l : List α) : Bool := match l[lbN key t l]? with | some x => key x == t | none => false
theorem lbN_eq {α : Type} {key : α → Int} {t : Int} {l : List α} {i : Nat} (hi : i ≤ l.length) (hlo : ∀ q (hq : q < l.length), q < i → key l[q] < t) (hhi : ∀ q (hq : q < l.length), i ≤ q → t ≤ key l[q]) : lbN key t l = i := by
  unfold lbN
  rcases Nat.lt_or_ge i l.length with h | h
  · rw [List.findIdx_eq h]
    refine ⟨by simpa using hhi i h (Nat.le_refl _), fun j hj => ?_⟩
    have := hlo j (by omega) hj
    simp; omega
  · obtain rfl : i = l.length := by omega
    rw [List.findIdx_eq_length]
    intro x hx
    obtain ⟨q, hq, rfl⟩ := List.mem_iff_getElem.1 hx
    have := hlo q hq hq
    simp; omega
theorem isNaN_p (a : Int) : PSpec Try.prog 99 [.v (.int .i64 a)] (.v (.bool false)) := by
  have h : (a != a) = false := by simp
  refine ps_i tab_ok mixed Try.func99 rfl Try.ntmps99 Try.results99 (by kernel_rfl) ?_
  repeat' (first | (with_reducible refine And.intro ?_ ?_) | (with_reducible refine gK_i (fun _ => ?_) (fun _ => ?_)) | (with_reducible refine condS_i (fun _ => ?_) (fun _ => ?_)) | (with_reducible refine drw_i (by kernel_rfl)) | simp -dsimp only [go_sem, ↓reduceIte, reduceCtorEq, Nat.reduceAdd, Nat.reduceMul, Nat.reduceSub, Nat.reduceLeDiff, Nat.reduceLT, Nat.reduceEqDiff, Int.reduceLE, Int.reduceLT, Int.reduceToNat, Int.reduceBEq, Int.reduceBNe, Int.reduceEq, Int.reduceAdd, Int.reduceSub, Int.reduceMul, Int.reduceNeg, Int.cast_ofNat_Int, *, h] | ((with_reducible refine opK_c ?_); simp -dsimp only [go_sem, ↓reduceIte, reduceCtorEq, Nat.reduceAdd, Nat.reduceMul, Nat.reduceSub, Nat.reduceLeDiff, Nat.reduceLT, Nat.reduceEqDiff, Int.reduceLE, Int.reduceLT, Int.reduceToNat, Int.reduceBEq, Int.reduceBNe, Int.reduceEq, Int.reduceAdd, Int.reduceSub, Int.reduceMul, Int.reduceNeg, Int.cast_ofNat_Int, h]; first | refine callK_r (by first | assumption | fail) (by first | exact .inl rfl | exact .inr rfl) ?_ | (refine callK_i (by assumption) ?_ ?_ ?_; (solve | (repeat (first | exact DLe.refl _ | exact DLe.nil _ | (refine DLe.tup ?_) | (refine DLe.agg ?_ rfl) | exact trivial | (refine And.intro ?_ ?_)))); (solve | exact .inl rfl | exact .inr rfl))) | fail | omega | exact decide_eq_true (by omega) | exact DLe.refl _)
  all_goals exact DLe.refl _
theorem compare_p (a b : Int) : PSpec Try.prog 85 [.v (.int .i64 a), .v (.int .i64 b)] (.v (.int .i64 (cmpI a b))) := by
  rcases Int.lt_trichotomy a b with h | h | h
  · have h1 : decide (a < b) = true := by simpa using h
    have e : cmpI a b = -1 := by simp [cmpI, h]
    refine ps_i tab_ok mixed Try.func85 rfl Try.ntmps85 Try.results85 (by kernel_rfl) ?_
    repeat' (first | (with_reducible refine And.intro ?_ ?_) | (with_reducible refine gK_i (fun _ => ?_) (fun _ => ?_)) | (with_reducible refine condS_i (fun _ => ?_) (fun _ => ?_)) | (with_reducible refine drw_i (by kernel_rfl)) | simp -dsimp only [go_sem, ↓reduceIte, reduceCtorEq, Nat.reduceAdd, Nat.reduceMul, Nat.reduceSub, Nat.reduceLeDiff, Nat.reduceLT, Nat.reduceEqDiff, Int.reduceLE, Int.reduceLT, Int.reduceToNat, Int.reduceBEq, Int.reduceBNe, Int.reduceEq, Int.reduceAdd, Int.reduceSub, Int.reduceMul, Int.reduceNeg, Int.cast_ofNat_Int, *, h1] | ((with_reducible refine opK_c ?_); simp -dsimp only [go_sem, ↓reduceIte, reduceCtorEq, Nat.reduceAdd, Nat.reduceMul, Nat.reduceSub, Nat.reduceLeDiff, Nat.reduceLT, Nat.reduceEqDiff, Int.reduceLE, Int.reduceLT, Int.reduceToNat, Int.reduceBEq, Int.reduceBNe, Int.reduceEq, Int.reduceAdd, Int.reduceSub, Int.reduceMul, Int.reduceNeg, Int.cast_ofNat_Int, h1]; first | refine callK_r (by first | assumption | exact isNaN_p a | exact isNaN_p b) (by first | exact .inl rfl | exact .inr rfl) ?_ | (refine callK_i (by assumption) ?_ ?_ ?_; (solve | (repeat (first | exact DLe.refl _ | exact DLe.nil _ | (refine DLe.tup ?_) | (refine DLe.agg ?_ rfl) | exact trivial | (refine And.intro ?_ ?_)))); (solve | exact .inl rfl | exact .inr rfl))) | fail | omega | exact decide_eq_true (by omega) | exact DLe.refl _)
    all_goals (rw [e]; exact DLe.refl _)
  · subst h
    have e : cmpI a a = 0 := by simp [cmpI]
    have h1 : decide (a > a) = false := by simp
    refine ps_i tab_ok mixed Try.func85 rfl Try.ntmps85 Try.results85 (by kernel_rfl) ?_
    repeat' (first | (with_reducible refine And.intro ?_ ?_) | (with_reducible refine gK_i (fun _ => ?_) (fun _ => ?_)) | (with_reducible refine condS_i (fun _ => ?_) (fun _ => ?_)) | (with_reducible refine drw_i (by kernel_rfl)) | simp -dsimp only [go_sem, ↓reduceIte, reduceCtorEq, Nat.reduceAdd, Nat.reduceMul, Nat.reduceSub, Nat.reduceLeDiff, Nat.reduceLT, Nat.reduceEqDiff, Int.reduceLE, Int.reduceLT, Int.reduceToNat, Int.reduceBEq, Int.reduceBNe, Int.reduceEq, Int.reduceAdd, Int.reduceSub, Int.reduceMul, Int.reduceNeg, Int.cast_ofNat_Int, *, Int.lt_irrefl, h1] | ((with_reducible refine opK_c ?_); simp -dsimp only [go_sem, ↓reduceIte, reduceCtorEq, Nat.reduceAdd, Nat.reduceMul, Nat.reduceSub, Nat.reduceLeDiff, Nat.reduceLT, Nat.reduceEqDiff, Int.reduceLE, Int.reduceLT, Int.reduceToNat, Int.reduceBEq, Int.reduceBNe, Int.reduceEq, Int.reduceAdd, Int.reduceSub, Int.reduceMul, Int.reduceNeg, Int.cast_ofNat_Int, Int.lt_irrefl, h1]; first | refine callK_r (by first | assumption | exact isNaN_p a) (by first | exact .inl rfl | exact .inr rfl) ?_ | (refine callK_i (by assumption) ?_ ?_ ?_; (solve | (repeat (first | exact DLe.refl _ | exact DLe.nil _ | (refine DLe.tup ?_) | (refine DLe.agg ?_ rfl) | exact trivial | (refine And.intro ?_ ?_)))); (solve | exact .inl rfl | exact .inr rfl))) | fail | omega | exact decide_eq_true (by omega) | exact DLe.refl _)
    all_goals (rw [e]; exact DLe.refl _)
  · have h1 : decide (a < b) = false := by simp; omega
    have h2 : decide (a > b) = true := by simpa using h
    have e : cmpI a b = 1 := by unfold cmpI; rw [if_neg (by omega), if_pos h]
    refine ps_i tab_ok mixed Try.func85 rfl Try.ntmps85 Try.results85 (by kernel_rfl) ?_
    repeat' (first | (with_reducible refine And.intro ?_ ?_) | (with_reducible refine gK_i (fun _ => ?_) (fun _ => ?_)) | (with_reducible refine condS_i (fun _ => ?_) (fun _ => ?_)) | (with_reducible refine drw_i (by kernel_rfl)) | simp -dsimp only [go_sem, ↓reduceIte, reduceCtorEq, Nat.reduceAdd, Nat.reduceMul, Nat.reduceSub, Nat.reduceLeDiff, Nat.reduceLT, Nat.reduceEqDiff, Int.reduceLE, Int.reduceLT, Int.reduceToNat, Int.reduceBEq, Int.reduceBNe, Int.reduceEq, Int.reduceAdd, Int.reduceSub, Int.reduceMul, Int.reduceNeg, Int.cast_ofNat_Int, *, h1, h2] | ((with_reducible refine opK_c ?_); simp -dsimp only [go_sem, ↓reduceIte, reduceCtorEq, Nat.reduceAdd, Nat.reduceMul, Nat.reduceSub, Nat.reduceLeDiff, Nat.reduceLT, Nat.reduceEqDiff, Int.reduceLE, Int.reduceLT, Int.reduceToNat, Int.reduceBEq, Int.reduceBNe, Int.reduceEq, Int.reduceAdd, Int.reduceSub, Int.reduceMul, Int.reduceNeg, Int.cast_ofNat_Int, h1, h2]; first | refine callK_r (by first | assumption | exact isNaN_p a | exact isNaN_p b) (by first | exact .inl rfl | exact .inr rfl) ?_ | (refine callK_i (by assumption) ?_ ?_ ?_; (solve | (repeat (first | exact DLe.refl _ | exact DLe.nil _ | (refine DLe.tup ?_) | (refine DLe.agg ?_ rfl) | exact trivial | (refine And.intro ?_ ?_)))); (solve | exact .inl rfl | exact .inr rfl))) | fail | omega | exact decide_eq_true (by omega) | exact DLe.refl _)
    all_goals (rw [e]; exact DLe.refl _)
theorem less_p (a b : Int) : PSpec Try.prog 95 [.v (.int .i64 a), .v (.int .i64 b)] (.v (.bool (decide (a < b)))) := by
  cases h : decide (a < b) with
  | true =>
    refine ps_i tab_ok mixed Try.func95 rfl Try.ntmps95 Try.results95 (by kernel_rfl) ?_
    repeat' (first | (with_reducible refine And.intro ?_ ?_) | (with_reducible refine gK_i (fun _ => ?_) (fun _ => ?_)) | (with_reducible refine condS_i (fun _ => ?_) (fun _ => ?_)) | (with_reducible refine drw_i (by kernel_rfl)) | simp -dsimp only [go_sem, ↓reduceIte, reduceCtorEq, Nat.reduceAdd, Nat.reduceMul, Nat.reduceSub, Nat.reduceLeDiff, Nat.reduceLT, Nat.reduceEqDiff, Int.reduceLE, Int.reduceLT, Int.reduceToNat, Int.reduceBEq, Int.reduceBNe, Int.reduceEq, Int.reduceAdd, Int.reduceSub, Int.reduceMul, Int.reduceNeg, Int.cast_ofNat_Int, *, h] | ((with_reducible refine opK_c ?_); simp -dsimp only [go_sem, ↓reduceIte, reduceCtorEq, Nat.reduceAdd, Nat.reduceMul, Nat.reduceSub, Nat.reduceLeDiff, Nat.reduceLT, Nat.reduceEqDiff, Int.reduceLE, Int.reduceLT, Int.reduceToNat, Int.reduceBEq, Int.reduceBNe, Int.reduceEq, Int.reduceAdd, Int.reduceSub, Int.reduceMul, Int.reduceNeg, Int.cast_ofNat_Int, h]; first | refine callK_r (by first | assumption | exact isNaN_p a | exact isNaN_p b) (by first | exact .inl rfl | exact .inr rfl) ?_ | (refine callK_i (by assumption) ?_ ?_ ?_; (solve | (repeat (first | exact DLe.refl _ | exact DLe.nil _ | (refine DLe.tup ?_) | (refine DLe.agg ?_ rfl) | exact trivial | (refine And.intro ?_ ?_)))); (solve | exact .inl rfl | exact .inr rfl))) | fail | omega | exact decide_eq_true (by omega) | exact DLe.refl _)
    all_goals exact DLe.refl _
  | false =>
    refine ps_i tab_ok mixed Try.func95 rfl Try.ntmps95 Try.results95 (by kernel_rfl) ?_
    repeat' (first | (with_reducible refine And.intro ?_ ?_) | (with_reducible refine gK_i (fun _ => ?_) (fun _ => ?_)) | (with_reducible refine condS_i (fun _ => ?_) (fun _ => ?_)) | (with_reducible refine drw_i (by kernel_rfl)) | simp -dsimp only [go_sem, ↓reduceIte, reduceCtorEq, Nat.reduceAdd, Nat.reduceMul, Nat.reduceSub, Nat.reduceLeDiff, Nat.reduceLT, Nat.reduceEqDiff, Int.reduceLE, Int.reduceLT, Int.reduceToNat, Int.reduceBEq, Int.reduceBNe, Int.reduceEq, Int.reduceAdd, Int.reduceSub, Int.reduceMul, Int.reduceNeg, Int.cast_ofNat_Int, *, h] | ((with_reducible refine opK_c ?_); simp -dsimp only [go_sem, ↓reduceIte, reduceCtorEq, Nat.reduceAdd, Nat.reduceMul, Nat.reduceSub, Nat.reduceLeDiff, Nat.reduceLT, Nat.reduceEqDiff, Int.reduceLE, Int.reduceLT, Int.reduceToNat, Int.reduceBEq, Int.reduceBNe, Int.reduceEq, Int.reduceAdd, Int.reduceSub, Int.reduceMul, Int.reduceNeg, Int.cast_ofNat_Int, h]; first | refine callK_r (by first | assumption | exact isNaN_p a | exact isNaN_p b) (by first | exact .inl rfl | exact .inr rfl) ?_ | (refine callK_i (by assumption) ?_ ?_ ?_; (solve | (repeat (first | exact DLe.refl _ | exact DLe.nil _ | (refine DLe.tup ?_) | (refine DLe.agg ?_ rfl) | exact trivial | (refine And.intro ?_ ?_)))); (solve | exact .inl rfl | exact .inr rfl))) | fail | omega | exact decide_eq_true (by omega) | exact DLe.refl _)
    all_goals exact DLe.refl _
set_option maxHeartbeats 1000000 in
theorem bsrf_Pool {α : Type} {enc : α → List D} (henc : ∀ x, (enc x).length = 9) (key : α → Int) (l : List α) (t : Int) (g : Nat) (caps : List D) (hl : l.length ≤ 1000000000) (hs : l.Pairwise fun a b => key a < key b) (hc : ∀ x ∈ l, PSpec Try.prog g (.agg (enc x) :: .v (.int .i64 t) :: caps) (.v (.int .i64 (cmpI (key x) t)))) :
    PSpec Try.prog 77 [.sl 9 (l.map enc), .v (.int .i64 t), .clo g caps] (.tup [.v (.int .i64 (lbN key t l)), .v (.bool (lbB key t l))]) := by
  refine ps_i tab_ok mixed Try.func77 rfl Try.ntmps77 Try.results77 (by kernel_rfl) ?_
  repeat' (first | (with_reducible refine And.intro ?_ ?_) | (with_reducible refine gK_i (fun _ => ?_) (fun _ => ?_)) | (with_reducible refine condS_i (fun _ => ?_) (fun _ => ?_)) | (with_reducible refine drw_i (by kernel_rfl)) | simp -dsimp only [go_sem, ↓reduceIte, reduceCtorEq, Nat.reduceAdd, Nat.reduceMul, Nat.reduceSub, Nat.reduceLeDiff, Nat.reduceLT, Nat.reduceEqDiff, Int.reduceLE, Int.reduceLT, Int.reduceToNat, Int.reduceBEq, Int.reduceBNe, Int.reduceEq, Int.reduceAdd, Int.reduceSub, Int.reduceMul, Int.reduceNeg, Int.cast_ofNat_Int, *, bne_self_eq_false] | ((with_reducible refine opK_c ?_); simp -dsimp only [go_sem, ↓reduceIte, reduceCtorEq, Nat.reduceAdd, Nat.reduceMul, Nat.reduceSub, Nat.reduceLeDiff, Nat.reduceLT, Nat.reduceEqDiff, Int.reduceLE, Int.reduceLT, Int.reduceToNat, Int.reduceBEq, Int.reduceBNe, Int.reduceEq, Int.reduceAdd, Int.reduceSub, Int.reduceMul, Int.reduceNeg, Int.cast_ofNat_Int, bne_self_eq_false]; first | refine callK_r (by first | assumption | fail) (by first | exact .inl rfl | exact .inr rfl) ?_ | (refine callK_i (by assumption) ?_ ?_ ?_; (solve | (repeat (first | exact DLe.refl _ | exact DLe.nil _ | (refine DLe.tup ?_) | (refine DLe.agg ?_ rfl) | exact trivial | (refine And.intro ?_ ?_)))); (solve | exact .inl rfl | exact .inr rfl))) | fail | omega | exact decide_eq_true (by omega) | exact DLe.refl _)
  refine loopG tab_ok mixed (fun m e h => ∃ i j : Nat, i ≤ j ∧ j ≤ l.length ∧ (∀ q (hq : q < l.length), q < i → key l[q] < t) ∧ (∀ q (hq : q < l.length), j ≤ q → t ≤ key l[q]) ∧ m = j - i ∧
    e = [(10, .d (.v (.int .i64 j))), (9, .d (.v (.int .i64 i))), (8, .d (.v (.int .i64 l.length))), (7, .d (.v (.bool false))), (6, .d (.v (.int .i64 0))), (2, .d (.clo g caps)), (1, .d (.v (.int .i64 t))), (0, .d (.sl 9 (l.map enc)))] ∧ h = []) _ _ _ ⟨0, l.length, Nat.zero_le _, Nat.le_refl _, fun q hq h => absurd h (Nat.not_lt_zero _), fun q hq h => by omega, rfl, rfl, rfl⟩ ?_ ?_
  · exact weak_forget [] (by simp) rfl ⟨rfl, rfl, rfl, rfl, rfl, rfl, rfl, rfl, trivial⟩ (by first | rfl | simp only [belowH, belowE, belowC, belowL, belowR, belowP, belowL_d, belowR_d, List.length_cons, List.length_nil, Nat.reduceAdd, Nat.reduceLT, decide_true, Bool.and_self, Bool.and_true]) (by first | rfl | simp only [belowH, belowE, belowC, belowL, belowR, belowP, belowL_d, belowR_d, List.length_cons, List.length_nil, Nat.reduceAdd, Nat.reduceLT, decide_true, Bool.and_self, Bool.and_true])
  · rintro m e h ⟨i, j, hij, hj, hlo, hhi, rfl, rfl, rfl⟩ CL hCL
    by_cases hlt : i < j
    · obtain ⟨q, hq⟩ : ∃ q, q = (i + j) / 2 := ⟨_, rfl⟩
      have hql : q < l.length := by omega
      obtain ⟨x, hx⟩ : ∃ x, l[q]? = some x := ⟨_, List.getElem?_eq_getElem hql⟩
      have hxe : l[q] = x := by rw [List.getElem?_eq_getElem hql] at hx; exact Option.some.inj hx
      have hltI : (i : Int) < (j : Int) := by omega
      have hw1 : IntKind.i64.wrap ((i : Int) + (j : Int)) = ((i + j : Nat) : Int) := by rw [IntKind.wrap_i64]; omega
      have hw2 : IntKind.u64.wrap ((i + j : Nat) : Int) = ((i + j : Nat) : Int) := by rw [wrap_u64]; omega
      have hsh : (((i + j : Nat) : Int)).fdiv (2 ^ min 1 64) = (q : Int) := by
        rw [hq, show (min 1 64 : Nat) = 1 from rfl, Int.pow_succ, Int.pow_zero, Int.one_mul, Int.fdiv_eq_ediv_of_nonneg _ (by omega)]
        omega
      have hw3 : IntKind.i64.wrap (q : Int) = (q : Int) := by rw [IntKind.wrap_i64]; omega
      have hw4 : IntKind.i64.wrap ((q : Int) + 1) = ((q + 1 : Nat) : Int) := by rw [IntKind.wrap_i64]; omega
      have hlen := henc x
      have htk : (enc x).take 9 = enc x := List.take_of_length_le (by omega)
      have hcx := hc x (List.mem_of_getElem? hx)
      have hcm := cmpI_neg (key x) t
      have hqd : i ≤ q ∧ q < j := by omega
      replace hq := Lib.hid hq
      by_cases hk : key x < t
      · have hkI : decide (key x < t) = true := by simpa using hk
        repeat' (first | (with_reducible refine And.intro ?_ ?_) | (with_reducible refine gK_i (fun _ => ?_) (fun _ => ?_)) | (with_reducible refine condS_i (fun _ => ?_) (fun _ => ?_)) | (with_reducible refine drw_i (by kernel_rfl)) | simp -dsimp only [go_sem, ↓reduceIte, reduceCtorEq, Nat.reduceAdd, Nat.reduceMul, Nat.reduceSub, Nat.reduceLeDiff, Nat.reduceLT, Nat.reduceEqDiff, Int.reduceLE, Int.reduceLT, Int.reduceToNat, Int.reduceBEq, Int.reduceBNe, Int.reduceEq, Int.reduceAdd, Int.reduceSub, Int.reduceMul, Int.reduceNeg, Int.cast_ofNat_Int, *, hx, hltI, hw1, hw2, hw3, hw4, hsh, htk, hlen, hcm, hkI, vwL_d, tcL_d] | ((with_reducible refine opK_c ?_); simp -dsimp only [go_sem, ↓reduceIte, reduceCtorEq, Nat.reduceAdd, Nat.reduceMul, Nat.reduceSub, Nat.reduceLeDiff, Nat.reduceLT, Nat.reduceEqDiff, Int.reduceLE, Int.reduceLT, Int.reduceToNat, Int.reduceBEq, Int.reduceBNe, Int.reduceEq, Int.reduceAdd, Int.reduceSub, Int.reduceMul, Int.reduceNeg, Int.cast_ofNat_Int, hx, hltI, hw1, hw2, hw3, hw4, hsh, htk, hlen, hcm, hkI, vwL_d, tcL_d]; first | refine callK_r (by first | assumption | exact hcx) (by first | exact .inl rfl | exact .inr rfl) ?_ | (refine callK_i (by assumption) ?_ ?_ ?_; (solve | (repeat (first | exact DLe.refl _ | exact DLe.nil _ | (refine DLe.tup ?_) | (refine DLe.agg ?_ rfl) | exact trivial | (refine And.intro ?_ ?_)))); (solve | exact .inl rfl | exact .inr rfl))) | fail | omega | exact decide_eq_true (by omega) | exact DLe.refl _)
        refine hCL _ _ _ _ _ ?_ ⟨q + 1, j, by omega, hj, ?_, hhi, rfl, rfl, rfl⟩ (weak_forget [] (by simp) rfl ⟨rfl, rfl, rfl, rfl, rfl, rfl, rfl, rfl, trivial⟩ (by first | rfl | simp only [belowH, belowE, belowC, belowL, belowR, belowP, belowL_d, belowR_d, List.length_cons, List.length_nil, Nat.reduceAdd, Nat.reduceLT, decide_true, Bool.and_self, Bool.and_true]) (by first | rfl | simp only [belowH, belowE, belowC, belowL, belowR, belowP, belowL_d, belowR_d, List.length_cons, List.length_nil, Nat.reduceAdd, Nat.reduceLT, decide_true, Bool.and_self, Bool.and_true]))
        · omega
        · intro q' hq' hlt'
          rcases Nat.lt_or_ge q' q with h1 | h1
          · have := List.pairwise_iff_getElem.1 hs q' q hq' hql h1
            rw [hxe] at this; omega
          · obtain rfl : q' = q := by omega
            rw [hxe]; exact hk
      · have hkI : decide (key x < t) = false := by simpa using hk
        repeat' (first | (with_reducible refine And.intro ?_ ?_) | (with_reducible refine gK_i (fun _ => ?_) (fun _ => ?_)) | (with_reducible refine condS_i (fun _ => ?_) (fun _ => ?_)) | (with_reducible refine drw_i (by kernel_rfl)) | simp -dsimp only [go_sem, ↓reduceIte, reduceCtorEq, Nat.reduceAdd, Nat.reduceMul, Nat.reduceSub, Nat.reduceLeDiff, Nat.reduceLT, Nat.reduceEqDiff, Int.reduceLE, Int.reduceLT, Int.reduceToNat, Int.reduceBEq, Int.reduceBNe, Int.reduceEq, Int.reduceAdd, Int.reduceSub, Int.reduceMul, Int.reduceNeg, Int.cast_ofNat_Int, *, hx, hltI, hw1, hw2, hw3, hw4, hsh, htk, hlen, hcm, hkI, vwL_d, tcL_d] | ((with_reducible refine opK_c ?_); simp -dsimp only [go_sem, ↓reduceIte, reduceCtorEq, Nat.reduceAdd, Nat.reduceMul, Nat.reduceSub, Nat.reduceLeDiff, Nat.reduceLT, Nat.reduceEqDiff, Int.reduceLE, Int.reduceLT, Int.reduceToNat, Int.reduceBEq, Int.reduceBNe, Int.reduceEq, Int.reduceAdd, Int.reduceSub, Int.reduceMul, Int.reduceNeg, Int.cast_ofNat_Int, hx, hltI, hw1, hw2, hw3, hw4, hsh, htk, hlen, hcm, hkI, vwL_d, tcL_d]; first | refine callK_r (by first | assumption | exact hcx) (by first | exact .inl rfl | exact .inr rfl) ?_ | (refine callK_i (by assumption) ?_ ?_ ?_; (solve | (repeat (first | exact DLe.refl _ | exact DLe.nil _ | (refine DLe.tup ?_) | (refine DLe.agg ?_ rfl) | exact trivial | (refine And.intro ?_ ?_)))); (solve | exact .inl rfl | exact .inr rfl))) | fail | omega | exact decide_eq_true (by omega) | exact DLe.refl _)
        refine hCL _ _ _ _ _ ?_ ⟨i, q, by omega, by omega, hlo, ?_, rfl, rfl, rfl⟩ (weak_forget [] (by simp) rfl ⟨rfl, rfl, rfl, rfl, rfl, rfl, rfl, rfl, trivial⟩ (by first | rfl | simp only [belowH, belowE, belowC, belowL, belowR, belowP, belowL_d, belowR_d, List.length_cons, List.length_nil, Nat.reduceAdd, Nat.reduceLT, decide_true, Bool.and_self, Bool.and_true]) (by first | rfl | simp only [belowH, belowE, belowC, belowL, belowR, belowP, belowL_d, belowR_d, List.length_cons, List.length_nil, Nat.reduceAdd, Nat.reduceLT, decide_true, Bool.and_self, Bool.and_true]))
        · omega
        · intro q' hq' hlt'
          rcases Nat.lt_or_ge q q' with h1 | h1
          · have := List.pairwise_iff_getElem.1 hs q q' hql hq' h1
            rw [hxe] at this; omega
          · obtain rfl : q' = q := by omega
            rw [hxe]; omega
    · obtain rfl : i = j := by omega
      have hlb := lbN_eq hj hlo hhi
      have hlbB : lbB key t l = match l[i]? with | some x => key x == t | none => false := by unfold lbB; rw [hlb]
      replace hlb := Lib.hid hlb
      replace hlbB := Lib.hid hlbB
      by_cases hin : i < l.length
      · obtain ⟨x, hx⟩ : ∃ x, l[i]? = some x := ⟨_, List.getElem?_eq_getElem hin⟩
        have hinI : decide ((i : Int) < (l.length : Int)) = true := by simpa using hin
        have hlen := henc x
        have htk : (enc x).take 9 = enc x := List.take_of_length_le (by omega)
        have hcx := hc x (List.mem_of_getElem? hx)
        have hcz := cmpI_zero (key x) t
        repeat' (first | (with_reducible refine And.intro ?_ ?_) | (with_reducible refine gK_i (fun _ => ?_) (fun _ => ?_)) | (with_reducible refine condS_i (fun _ => ?_) (fun _ => ?_)) | (with_reducible refine drw_i (by kernel_rfl)) | simp -dsimp only [go_sem, ↓reduceIte, reduceCtorEq, Nat.reduceAdd, Nat.reduceMul, Nat.reduceSub, Nat.reduceLeDiff, Nat.reduceLT, Nat.reduceEqDiff, Int.reduceLE, Int.reduceLT, Int.reduceToNat, Int.reduceBEq, Int.reduceBNe, Int.reduceEq, Int.reduceAdd, Int.reduceSub, Int.reduceMul, Int.reduceNeg, Int.cast_ofNat_Int, *, Int.lt_irrefl, hx, hinI, htk, hlen, hcz, vwL_d, tcL_d] | ((with_reducible refine opK_c ?_); simp -dsimp only [go_sem, ↓reduceIte, reduceCtorEq, Nat.reduceAdd, Nat.reduceMul, Nat.reduceSub, Nat.reduceLeDiff, Nat.reduceLT, Nat.reduceEqDiff, Int.reduceLE, Int.reduceLT, Int.reduceToNat, Int.reduceBEq, Int.reduceBNe, Int.reduceEq, Int.reduceAdd, Int.reduceSub, Int.reduceMul, Int.reduceNeg, Int.cast_ofNat_Int, Int.lt_irrefl, hx, hinI, htk, hlen, hcz, vwL_d, tcL_d]; first | refine callK_r (by first | assumption | exact hcx) (by first | exact .inl rfl | exact .inr rfl) ?_ | (refine callK_i (by assumption) ?_ ?_ ?_; (solve | (repeat (first | exact DLe.refl _ | exact DLe.nil _ | (refine DLe.tup ?_) | (refine DLe.agg ?_ rfl) | exact trivial | (refine And.intro ?_ ?_)))); (solve | exact .inl rfl | exact .inr rfl))) | fail | omega | exact decide_eq_true (by omega) | exact DLe.refl _)
        all_goals rw [hlbB.out, hx, hlb.out]
        all_goals exact DLe.refl _
      · have hinI : decide ((i : Int) < (l.length : Int)) = false := by simpa using hin
        repeat' (first | (with_reducible refine And.intro ?_ ?_) | (with_reducible refine gK_i (fun _ => ?_) (fun _ => ?_)) | (with_reducible refine condS_i (fun _ => ?_) (fun _ => ?_)) | (with_reducible refine drw_i (by kernel_rfl)) | simp -dsimp only [go_sem, ↓reduceIte, reduceCtorEq, Nat.reduceAdd, Nat.reduceMul, Nat.reduceSub, Nat.reduceLeDiff, Nat.reduceLT, Nat.reduceEqDiff, Int.reduceLE, Int.reduceLT, Int.reduceToNat, Int.reduceBEq, Int.reduceBNe, Int.reduceEq, Int.reduceAdd, Int.reduceSub, Int.reduceMul, Int.reduceNeg, Int.cast_ofNat_Int, *, Int.lt_irrefl, hinI] | ((with_reducible refine opK_c ?_); simp -dsimp only [go_sem, ↓reduceIte, reduceCtorEq, Nat.reduceAdd, Nat.reduceMul, Nat.reduceSub, Nat.reduceLeDiff, Nat.reduceLT, Nat.reduceEqDiff, Int.reduceLE, Int.reduceLT, Int.reduceToNat, Int.reduceBEq, Int.reduceBNe, Int.reduceEq, Int.reduceAdd, Int.reduceSub, Int.reduceMul, Int.reduceNeg, Int.cast_ofNat_Int, Int.lt_irrefl, hinI]; first | refine callK_r (by first | assumption | fail) (by first | exact .inl rfl | exact .inr rfl) ?_ | (refine callK_i (by assumption) ?_ ?_ ?_; (solve | (repeat (first | exact DLe.refl _ | exact DLe.nil _ | (refine DLe.tup ?_) | (refine DLe.agg ?_ rfl) | exact trivial | (refine And.intro ?_ ?_)))); (solve | exact .inl rfl | exact .inr rfl))) | fail | omega | exact decide_eq_true (by omega) | exact DLe.refl _)
        all_goals rw [hlbB.out, hlb.out, List.getElem?_eq_none (by omega)]
        all_goals exact DLe.refl _
set_option maxHeartbeats 1000000 in
theorem bsrf_Lease {α : Type} {enc : α → List D} (henc : ∀ x, (enc x).length = 5) (key : α → Int) (l : List α) (t : Int) (g : Nat) (caps : List D) (hl : l.length ≤ 1000000000) (hs : l.Pairwise fun a b => key a < key b) (hc : ∀ x ∈ l, PSpec Try.prog g (.agg (enc x) :: .v (.int .i64 t) :: caps) (.v (.int .i64 (cmpI (key x) t)))) :
    PSpec Try.prog 83 [.sl 5 (l.map enc), .v (.int .i64 t), .clo g caps] (.tup [.v (.int .i64 (lbN key t l)), .v (.bool (lbB key t l))]) := by
  refine ps_i tab_ok mixed Try.func83 rfl Try.ntmps83 Try.results83 (by kernel_rfl) ?_
  repeat' (first | (with_reducible refine And.intro ?_ ?_) | (with_reducible refine gK_i (fun _ => ?_) (fun _ => ?_)) | (with_reducible refine condS_i (fun _ => ?_) (fun _ => ?_)) | (with_reducible refine drw_i (by kernel_rfl)) | simp -dsimp only [go_sem, ↓reduceIte, reduceCtorEq, Nat.reduceAdd, Nat.reduceMul, Nat.reduceSub, Nat.reduceLeDiff, Nat.reduceLT, Nat.reduceEqDiff, Int.reduceLE, Int.reduceLT, Int.reduceToNat, Int.reduceBEq, Int.reduceBNe, Int.reduceEq, Int.reduceAdd, Int.reduceSub, Int.reduceMul, Int.reduceNeg, Int.cast_ofNat_Int, *, bne_self_eq_false] | ((with_reducible refine opK_c ?_); simp -dsimp only [go_sem, ↓reduceIte, reduceCtorEq, Nat.reduceAdd, Nat.reduceMul, Nat.reduceSub, Nat.reduceLeDiff, Nat.reduceLT, Nat.reduceEqDiff, Int.reduceLE, Int.reduceLT, Int.reduceToNat, Int.reduceBEq, Int.reduceBNe, Int.reduceEq, Int.reduceAdd, Int.reduceSub, Int.reduceMul, Int.reduceNeg, Int.cast_ofNat_Int, bne_self_eq_false]; first | refine callK_r (by first | assumption | fail) (by first | exact .inl rfl | exact .inr rfl) ?_ | (refine callK_i (by assumption) ?_ ?_ ?_; (solve | (repeat (first | exact DLe.refl _ | exact DLe.nil _ | (refine DLe.tup ?_) | (refine DLe.agg ?_ rfl) | exact trivial | (refine And.intro ?_ ?_)))); (solve | exact .inl rfl | exact .inr rfl))) | fail | omega | exact decide_eq_true (by omega) | exact DLe.refl _)
  refine loopG tab_ok mixed (fun m e h => ∃ i j : Nat, i ≤ j ∧ j ≤ l.length ∧ (∀ q (hq : q < l.length), q < i → key l[q] < t) ∧ (∀ q (hq : q < l.length), j ≤ q → t ≤ key l[q]) ∧ m = j - i ∧
    e = [(10, .d (.v (.int .i64 j))), (9, .d (.v (.int .i64 i))), (8, .d (.v (.int .i64 l.length))), (7, .d (.v (.bool false))), (6, .d (.v (.int .i64 0))), (2, .d (.clo g caps)), (1, .d (.v (.int .i64 t))), (0, .d (.sl 5 (l.map enc)))] ∧ h = []) _ _ _ ⟨0, l.length, Nat.zero_le _, Nat.le_refl _, fun q hq h => absurd h (Nat.not_lt_zero _), fun q hq h => by omega, rfl, rfl, rfl⟩ ?_ ?_
  · exact weak_forget [] (by simp) rfl ⟨rfl, rfl, rfl, rfl, rfl, rfl, rfl, rfl, trivial⟩ (by first | rfl | simp only [belowH, belowE, belowC, belowL, belowR, belowP, belowL_d, belowR_d, List.length_cons, List.length_nil, Nat.reduceAdd, Nat.reduceLT, decide_true, Bool.and_self, Bool.and_true]) (by first | rfl | simp only [belowH, belowE, belowC, belowL, belowR, belowP, belowL_d, belowR_d, List.length_cons, List.length_nil, Nat.reduceAdd, Nat.reduceLT, decide_true, Bool.and_self, Bool.and_true])
  · rintro m e h ⟨i, j, hij, hj, hlo, hhi, rfl, rfl, rfl⟩ CL hCL
    by_cases hlt : i < j
    · obtain ⟨q, hq⟩ : ∃ q, q = (i + j) / 2 := ⟨_, rfl⟩
      have hql : q < l.length := by omega
      obtain ⟨x, hx⟩ : ∃ x, l[q]? = some x := ⟨_, List.getElem?_eq_getElem hql⟩
      have hxe : l[q] = x := by rw [List.getElem?_eq_getElem hql] at hx; exact Option.some.inj hx
      have hltI : (i : Int) < (j : Int) := by omega
      have hw1 : IntKind.i64.wrap ((i : Int) + (j : Int)) = ((i + j : Nat) : Int) := by rw [IntKind.wrap_i64]; omega
      have hw2 : IntKind.u64.wrap ((i + j : Nat) : Int) = ((i + j : Nat) : Int) := by rw [wrap_u64]; omega
      have hsh : (((i + j : Nat) : Int)).fdiv (2 ^ min 1 64) = (q : Int) := by
        rw [hq, show (min 1 64 : Nat) = 1 from rfl, Int.pow_succ, Int.pow_zero, Int.one_mul, Int.fdiv_eq_ediv_of_nonneg _ (by omega)]
        omega
      have hw3 : IntKind.i64.wrap (q : Int) = (q : Int) := by rw [IntKind.wrap_i64]; omega
      have hw4 : IntKind.i64.wrap ((q : Int) + 1) = ((q + 1 : Nat) : Int) := by rw [IntKind.wrap_i64]; omega
      have hlen := henc x
      have htk : (enc x).take 5 = enc x := List.take_of_length_le (by omega)
      have hcx := hc x (List.mem_of_getElem? hx)
      have hcm := cmpI_neg (key x) t
      have hqd : i ≤ q ∧ q < j := by omega
      replace hq := Lib.hid hq
      by_cases hk : key x < t
      · have hkI : decide (key x < t) = true := by simpa using hk
        repeat' (first | (with_reducible refine And.intro ?_ ?_) | (with_reducible refine gK_i (fun _ => ?_) (fun _ => ?_)) | (with_reducible refine condS_i (fun _ => ?_) (fun _ => ?_)) | (with_reducible refine drw_i (by kernel_rfl)) | simp -dsimp only [go_sem, ↓reduceIte, reduceCtorEq, Nat.reduceAdd, Nat.reduceMul, Nat.reduceSub, Nat.reduceLeDiff, Nat.reduceLT, Nat.reduceEqDiff, Int.reduceLE, Int.reduceLT, Int.reduceToNat, Int.reduceBEq, Int.reduceBNe, Int.reduceEq, Int.reduceAdd, Int.reduceSub, Int.reduceMul, Int.reduceNeg, Int.cast_ofNat_Int, *, hx, hltI, hw1, hw2, hw3, hw4, hsh, htk, hlen, hcm, hkI, vwL_d, tcL_d] | ((with_reducible refine opK_c ?_); simp -dsimp only [go_sem, ↓reduceIte, reduceCtorEq, Nat.reduceAdd, Nat.reduceMul, Nat.reduceSub, Nat.reduceLeDiff, Nat.reduceLT, Nat.reduceEqDiff, Int.reduceLE, Int.reduceLT, Int.reduceToNat, Int.reduceBEq, Int.reduceBNe, Int.reduceEq, Int.reduceAdd, Int.reduceSub, Int.reduceMul, Int.reduceNeg, Int.cast_ofNat_Int, hx, hltI, hw1, hw2, hw3, hw4, hsh, htk, hlen, hcm, hkI, vwL_d, tcL_d]; first | refine callK_r (by first | assumption | exact hcx) (by first | exact .inl rfl | exact .inr rfl) ?_ | (refine callK_i (by assumption) ?_ ?_ ?_; (solve | (repeat (first | exact DLe.refl _ | exact DLe.nil _ | (refine DLe.tup ?_) | (refine DLe.agg ?_ rfl) | exact trivial | (refine And.intro ?_ ?_)))); (solve | exact .inl rfl | exact .inr rfl))) | fail | omega | exact decide_eq_true (by omega) | exact DLe.refl _)
        refine hCL _ _ _ _ _ ?_ ⟨q + 1, j, by omega, hj, ?_, hhi, rfl, rfl, rfl⟩ (weak_forget [] (by simp) rfl ⟨rfl, rfl, rfl, rfl, rfl, rfl, rfl, rfl, trivial⟩ (by first | rfl | simp only [belowH, belowE, belowC, belowL, belowR, belowP, belowL_d, belowR_d, List.length_cons, List.length_nil, Nat.reduceAdd, Nat.reduceLT, decide_true, Bool.and_self, Bool.and_true]) (by first | rfl | simp only [belowH, belowE, belowC, belowL, belowR, belowP, belowL_d, belowR_d, List.length_cons, List.length_nil, Nat.reduceAdd, Nat.reduceLT, decide_true, Bool.and_self, Bool.and_true]))
        · omega
        · intro q' hq' hlt'
          rcases Nat.lt_or_ge q' q with h1 | h1
          · have := List.pairwise_iff_getElem.1 hs q' q hq' hql h1
            rw [hxe] at this; omega
          · obtain rfl : q' = q := by omega
            rw [hxe]; exact hk
      · have hkI : decide (key x < t) = false := by simpa using hk
        repeat' (first | (with_reducible refine And.intro ?_ ?_) | (with_reducible refine gK_i (fun _ => ?_) (fun _ => ?_)) | (with_reducible refine condS_i (fun _ => ?_) (fun _ => ?_)) | (with_reducible refine drw_i (by kernel_rfl)) | simp -dsimp only [go_sem, ↓reduceIte, reduceCtorEq, Nat.reduceAdd, Nat.reduceMul, Nat.reduceSub, Nat.reduceLeDiff, Nat.reduceLT, Nat.reduceEqDiff, Int.reduceLE, Int.reduceLT, Int.reduceToNat, Int.reduceBEq, Int.reduceBNe, Int.reduceEq, Int.reduceAdd, Int.reduceSub, Int.reduceMul, Int.reduceNeg, Int.cast_ofNat_Int, *, hx, hltI, hw1, hw2, hw3, hw4, hsh, htk, hlen, hcm, hkI, vwL_d, tcL_d] | ((with_reducible refine opK_c ?_); simp -dsimp only [go_sem, ↓reduceIte, reduceCtorEq, Nat.reduceAdd, Nat.reduceMul, Nat.reduceSub, Nat.reduceLeDiff, Nat.reduceLT, Nat.reduceEqDiff, Int.reduceLE, Int.reduceLT, Int.reduceToNat, Int.reduceBEq, Int.reduceBNe, Int.reduceEq, Int.reduceAdd, Int.reduceSub, Int.reduceMul, Int.reduceNeg, Int.cast_ofNat_Int, hx, hltI, hw1, hw2, hw3, hw4, hsh, htk, hlen, hcm, hkI, vwL_d, tcL_d]; first | refine callK_r (by first | assumption | exact hcx) (by first | exact .inl rfl | exact .inr rfl) ?_ | (refine callK_i (by assumption) ?_ ?_ ?_; (solve | (repeat (first | exact DLe.refl _ | exact DLe.nil _ | (refine DLe.tup ?_) | (refine DLe.agg ?_ rfl) | exact trivial | (refine And.intro ?_ ?_)))); (solve | exact .inl rfl | exact .inr rfl))) | fail | omega | exact decide_eq_true (by omega) | exact DLe.refl _)
        refine hCL _ _ _ _ _ ?_ ⟨i, q, by omega, by omega, hlo, ?_, rfl, rfl, rfl⟩ (weak_forget [] (by simp) rfl ⟨rfl, rfl, rfl, rfl, rfl, rfl, rfl, rfl, trivial⟩ (by first | rfl | simp only [belowH, belowE, belowC, belowL, belowR, belowP, belowL_d, belowR_d, List.length_cons, List.length_nil, Nat.reduceAdd, Nat.reduceLT, decide_true, Bool.and_self, Bool.and_true]) (by first | rfl | simp only [belowH, belowE, belowC, belowL, belowR, belowP, belowL_d, belowR_d, List.length_cons, List.length_nil, Nat.reduceAdd, Nat.reduceLT, decide_true, Bool.and_self, Bool.and_true]))
        · omega
        · intro q' hq' hlt'
          rcases Nat.lt_or_ge q q' with h1 | h1
          · have := List.pairwise_iff_getElem.1 hs q q' hql hq' h1
            rw [hxe] at this; omega
          · obtain rfl : q' = q := by omega
            rw [hxe]; omega
    · obtain rfl : i = j := by omega
      have hlb := lbN_eq hj hlo hhi
      have hlbB : lbB key t l = match l[i]? with | some x => key x == t | none => false := by unfold lbB; rw [hlb]
      replace hlb := Lib.hid hlb
      replace hlbB := Lib.hid hlbB
      by_cases hin : i < l.length
      · obtain ⟨x, hx⟩ : ∃ x, l[i]? = some x := ⟨_, List.getElem?_eq_getElem hin⟩
        have hinI : decide ((i : Int) < (l.length : Int)) = true := by simpa using hin
        have hlen := henc x
        have htk : (enc x).take 5 = enc x := List.take_of_length_le (by omega)
        have hcx := hc x (List.mem_of_getElem? hx)
        have hcz := cmpI_zero (key x) t
        repeat' (first | (with_reducible refine And.intro ?_ ?_) | (with_reducible refine gK_i (fun _ => ?_) (fun _ => ?_)) | (with_reducible refine condS_i (fun _ => ?_) (fun _ => ?_)) | (with_reducible refine drw_i (by kernel_rfl)) | simp -dsimp only [go_sem, ↓reduceIte, reduceCtorEq, Nat.reduceAdd, Nat.reduceMul, Nat.reduceSub, Nat.reduceLeDiff, Nat.reduceLT, Nat.reduceEqDiff, Int.reduceLE, Int.reduceLT, Int.reduceToNat, Int.reduceBEq, Int.reduceBNe, Int.reduceEq, Int.reduceAdd, Int.reduceSub, Int.reduceMul, Int.reduceNeg, Int.cast_ofNat_Int, *, Int.lt_irrefl, hx, hinI, htk, hlen, hcz, vwL_d, tcL_d] | ((with_reducible refine opK_c ?_); simp -dsimp only [go_sem, ↓reduceIte, reduceCtorEq, Nat.reduceAdd, Nat.reduceMul, Nat.reduceSub, Nat.reduceLeDiff, Nat.reduceLT, Nat.reduceEqDiff, Int.reduceLE, Int.reduceLT, Int.reduceToNat, Int.reduceBEq, Int.reduceBNe, Int.reduceEq, Int.reduceAdd, Int.reduceSub, Int.reduceMul, Int.reduceNeg, Int.cast_ofNat_Int, Int.lt_irrefl, hx, hinI, htk, hlen, hcz, vwL_d, tcL_d]; first | refine callK_r (by first | assumption | exact hcx) (by first | exact .inl rfl | exact .inr rfl) ?_ | (refine callK_i (by assumption) ?_ ?_ ?_; (solve | (repeat (first | exact DLe.refl _ | exact DLe.nil _ | (refine DLe.tup ?_) | (refine DLe.agg ?_ rfl) | exact trivial | (refine And.intro ?_ ?_)))); (solve | exact .inl rfl | exact .inr rfl))) | fail | omega | exact decide_eq_true (by omega) | exact DLe.refl _)
        all_goals rw [hlbB.out, hx, hlb.out]
        all_goals exact DLe.refl _
      · have hinI : decide ((i : Int) < (l.length : Int)) = false := by simpa using hin
        repeat' (first | (with_reducible refine And.intro ?_ ?_) | (with_reducible refine gK_i (fun _ => ?_) (fun _ => ?_)) | (with_reducible refine condS_i (fun _ => ?_) (fun _ => ?_)) | (with_reducible refine drw_i (by kernel_rfl)) | simp -dsimp only [go_sem, ↓reduceIte, reduceCtorEq, Nat.reduceAdd, Nat.reduceMul, Nat.reduceSub, Nat.reduceLeDiff, Nat.reduceLT, Nat.reduceEqDiff, Int.reduceLE, Int.reduceLT, Int.reduceToNat, Int.reduceBEq, Int.reduceBNe, Int.reduceEq, Int.reduceAdd, Int.reduceSub, Int.reduceMul, Int.reduceNeg, Int.cast_ofNat_Int, *, Int.lt_irrefl, hinI] | ((with_reducible refine opK_c ?_); simp -dsimp only [go_sem, ↓reduceIte, reduceCtorEq, Nat.reduceAdd, Nat.reduceMul, Nat.reduceSub, Nat.reduceLeDiff, Nat.reduceLT, Nat.reduceEqDiff, Int.reduceLE, Int.reduceLT, Int.reduceToNat, Int.reduceBEq, Int.reduceBNe, Int.reduceEq, Int.reduceAdd, Int.reduceSub, Int.reduceMul, Int.reduceNeg, Int.cast_ofNat_Int, Int.lt_irrefl, hinI]; first | refine callK_r (by first | assumption | fail) (by first | exact .inl rfl | exact .inr rfl) ?_ | (refine callK_i (by assumption) ?_ ?_ ?_; (solve | (repeat (first | exact DLe.refl _ | exact DLe.nil _ | (refine DLe.tup ?_) | (refine DLe.agg ?_ rfl) | exact trivial | (refine And.intro ?_ ?_)))); (solve | exact .inl rfl | exact .inr rfl))) | fail | omega | exact decide_eq_true (by omega) | exact DLe.refl _)
        all_goals rw [hlbB.out, hlb.out, List.getElem?_eq_none (by omega)]
        all_goals exact DLe.refl _
end Go.Proofs.Ytbeocackphfijaa
namespace Go.Proofs.Ytbeocackphfijaa
open Go Go.RowKit
def dval0 : D → Value
  | .v x => x
  | _ => undef
def dval1 : D → Value
  | .v x => x
  | .agg l => .agg (l.map dval0).toArray
  | _ => undef
def dval : D → Value
  | .v x => x
  | .agg l => .agg (l.map dval0).toArray
  | .tup l => .tuple (l.map dval1).toArray
  | _ => undef
theorem ext_list {vs : List Value} {ds : List D} {f : D → Value} (hl : ds.length = vs.length) (h : ∀ (j : Nat) (d : D) (x : Value), ds[j]? = some d → vs[j]? = some x → x = f d) : vs = ds.map f := by
  apply List.ext_getElem?
  intro j
  rw [List.getElem?_map]
  cases hd : ds[j]? with
  | none =>
    have : ds.length ≤ j := by simpa using hd
    rw [List.getElem?_eq_none (by omega)]; rfl
  | some d =>
    have hlt : j < vs.length := by rw [← hl]; exact (List.getElem?_eq_some_iff.1 hd).1
    rw [List.getElem?_eq_getElem hlt, h j d _ hd (List.getElem?_eq_getElem hlt)]; rfl
theorem isV_val {M : Nat → Prop} {w : World} {d : D} {v : Value} (h : RepD M w d v) (hf : d.isV = true) : v = dval0 d := by
  cases d <;> simp [D.isV] at hf
  cases h
  rfl
theorem flat_val {M : Nat → Prop} {w : World} {d : D} {v : Value} (h : RepD M w d v) (hf : d.flat = true) : v = dval d := by
  cases h with
  | v => rfl
  | agg cells vs hl h1 hrep =>
    simp only [D.flat, List.all_eq_true] at hf
    rw [ext_list (f := dval0) hl fun j d x hj hx => isV_val (hrep j d x hj hx) (hf d (List.mem_of_getElem? hj))]
    rfl
  | tup ds vs hl hrep =>
    simp only [D.flat, List.all_eq_true] at hf
    rw [ext_list (f := dval1) hl fun j d x hj hx => ?_]
    · rfl
    · have h0 := hrep j d x hj hx
      have h1 := hf d (List.mem_of_getElem? hj)
      cases h0 with
      | v => rfl
      | agg cells us hl' h1' hrep' =>
        simp only [List.all_eq_true] at h1
        rw [ext_list (f := dval0) hl' fun j d x hj hx => isV_val (hrep' j d x hj hx) (h1 d (List.mem_of_getElem? hj))]
        rfl
      | _ => simp at h1
  | _ => simp [D.flat] at hf
def D.aggOK : D → Bool
  | .agg l => l.all D.one
  | .tup l => l.all fun d => match d with | .agg l => l.all D.one | _ => true
  | _ => true
theorem map_rep {M : Nat → Prop} {w : World} (ds : List D) (hf : ∀ d ∈ ds, d.isV = true) : ∀ (j : Nat) (d : D) (x : Value), ds[j]? = some d → (ds.map dval0)[j]? = some x → RepD M w d x := by
  intro j d x hj hx
  rw [List.getElem?_map, hj] at hx
  cases hx
  have := hf d (List.mem_of_getElem? hj)
  cases d <;> simp [D.isV] at this
  exact .v _
theorem flat_mk {M : Nat → Prop} {w : World} {d : D} (hf : d.flat = true) (h1 : d.aggOK = true) : RepD M w d (dval d) := by
  cases d with
  | v x => exact .v x
  | agg l =>
    simp only [D.flat, List.all_eq_true] at hf
    simp only [D.aggOK, List.all_eq_true] at h1
    exact .agg l _ (by simp) h1 (map_rep l hf)
  | tup l =>
    simp only [D.flat, List.all_eq_true] at hf
    simp only [D.aggOK, List.all_eq_true] at h1
    refine .tup l _ (by simp) fun j d x hj hx => ?_
    rw [List.getElem?_map, hj] at hx
    cases hx
    have h2 := hf d (List.mem_of_getElem? hj)
    have h3 := h1 d (List.mem_of_getElem? hj)
    cases d with
    | v x => exact .v x
    | agg l' =>
      simp only [List.all_eq_true] at h2 h3
      exact .agg l' _ (by simp) h3 (map_rep l' h2)
    | _ => simp at h2
  | _ => simp [D.flat] at hf
theorem pspec_flat {P : Program} {f : Nat} {ds : List D} {r : D} (hn : FnOK P f) (hf : ∀ d ∈ ds, d.flat = true) (hr : r.flat = true) (hr1 : r.aggOK = true) (h : ∀ w, Calls P f (ds.map dval).toArray w fun e w' => e = .returned (dval r) ∧ Ext w w') : PSpec P f ds r := by
  refine ⟨hn, fun M w vs _ hds => ?_⟩
  rw [ext_list (f := dval) hds.1 fun j d x hj hx => flat_val (hds.2 j d x hj hx) (hf d (List.mem_of_getElem? hj))]
  exact (h w).mono fun e w' ⟨he, hx⟩ => ⟨dval r, he, flat_mk hr hr1, hx⟩
theorem repDs_cons {M : Nat → Prop} {w : World} {d : D} {ds : List D} {vs : List Value} (h : RepDs M w (d :: ds) vs) : ∃ v us, vs = v :: us ∧ RepD M w d v ∧ RepDs M w ds us := by
  cases vs with
  | nil => have := h.1; simp at this
  | cons v us => exact ⟨v, us, rfl, h.2 0 d v rfl rfl, ⟨by simpa using h.1, fun j d x hj hx => h.2 (j + 1) d x (by simpa using hj) (by simpa using hx)⟩⟩
theorem repDs_nil {M : Nat → Prop} {w : World} {vs : List Value} (h : RepDs M w [] vs) : vs = [] := by
  cases vs with
  | nil => rfl
  | cons v us => have := h.1; simp at this
theorem repD_agg {M : Nat → Prop} {w : World} {ds : List D} {v : Value} (h : RepD M w (.agg ds) v) : ∃ vs : List Value, v = .agg vs.toArray ∧ RepDs M w ds vs := by
  cases h with
  | agg _ vs hl h1 hrep => exact ⟨vs, rfl, hl, hrep⟩
theorem repD_v {M : Nat → Prop} {w : World} {x v : Value} (h : RepD M w (.v x) v) : v = x := by cases h; rfl
theorem repD_sl {M : Nat → Prop} {w : World} {us : List Pfx} {v : Value} (h : RepD M w (.sl 2 (us.map encP)) v) : ∃ ao cap, v = .slice ao us.length cap ∧ Sl (fun b => ¬ M b) w 2 Pfx.R ao cap us := by
  generalize hr : us.map encP = rows at h
  have hl : us.length = rows.length := by rw [← hr]; simp
  cases h with
  | nil _ ao cap hm =>
    have : us = [] := List.eq_nil_of_length_eq_zero (by simpa using hl)
    subst this
    exact ⟨ao, cap, rfl, ⟨Nat.zero_le _, hm, fun i hi => absurd hi (Nat.not_lt_zero _)⟩⟩
  | sl _ _ b off cap f hM hb hc hm hr' h1 hcell hrep =>
    refine ⟨_, cap, by rw [hl], ⟨by omega, hm, fun i hi => ⟨b, off, [.int .i64 us[i].at_, .int .i64 us[i].len], rfl, hM, rfl, rfl, fun j hj => ?_⟩⟩⟩
    have hrow : rows[i]? = some (encP us[i]) := by rw [← hr, List.getElem?_map, List.getElem?_eq_getElem hi]; rfl
    have hcj := hcell i j (by omega) hj
    rw [hcj]
    match j, hj with
    | 0, _ => rw [repD_v (hrep i 0 _ _ hrow rfl)]; rfl
    | 1, _ => rw [repD_v (hrep i 1 _ _ hrow rfl)]; rfl
theorem repD_S {M : Nat → Prop} {w : World} {root : Pfx} {us : List Pfx} {v : Value} (h : RepD M w (.agg (encS root us)) v) : ∃ uo cap, v = .agg #[.int .i64 root.at_, .int .i64 root.len, .slice uo us.length cap] ∧ Sl (fun b => ¬ M b) w 2 Pfx.R uo cap us := by
  obtain ⟨vs, rfl, hvs⟩ := repD_agg h
  obtain ⟨a, vs, rfl, ha, hvs⟩ := repDs_cons hvs
  obtain ⟨b, vs, rfl, hb, hvs⟩ := repDs_cons hvs
  obtain ⟨c, vs, rfl, hc, hvs⟩ := repDs_cons hvs
  rw [repDs_nil hvs, repD_v ha, repD_v hb]
  obtain ⟨ao, cap, rfl, hs⟩ := repD_sl hc
  exact ⟨ao, cap, rfl, hs⟩
end Go.Proofs.Ytbeocackphfijaa
namespace Go.Proofs.Ytbeocackphfijaa
open Go Go.RowKit Go.Proofs
set_option maxRecDepth 100000
def within (n lo hi : Int) : Bool := decide (lo ≤ n) && decide (n ≤ hi)
end Go.Proofs.Ytbeocackphfijaa
namespace Go.Proofs.Ytbeocackphfijaa
open Go Go.RowKit Go.Proofs
set_option maxRecDepth 100000
def szI (n : Int) : Int := 2 ^ (16 - n).toNat
theorem szI_bd {n : Int} (h0 : 0 ≤ n) : 1 ≤ szI n ∧ szI n ≤ 65536 := by have := pow_bd n h0; unfold szI; omega
def rightB (a l : Int) : Bool := chk a l == 0
theorem right_bd {a l : Int} (h : rightB a l = true) : 0 ≤ l ∧ l ≤ 16 ∧ 0 ≤ a ∧ a ≤ 65535 ∧ a % szI l = 0 := by
  have h0 : chk a l = 0 := by simpa [rightB] using h
  unfold chk at h0
  split at h0
  · omega
  · rename_i h1
    split at h0
    · rename_i h2; exact ⟨by omega, by omega, by omega, by omega, h2⟩
    · omega
end Go.Proofs.Ytbeocackphfijaa
namespace Go.Proofs.Ytbeocackphfijaa
open Go Go.RowKit Go.Proofs
set_option maxRecDepth 100000
theorem cellsAt_cons {w : World} {b off : Nat} {c : Value} {cs : List Value} (h : w.cell? ⟨b, off, none⟩ = some c) (hs : cellsAt w b (off + 1) cs) : cellsAt w b off (c :: cs) := by
  intro i hi
  match i with
  | 0 => simpa using h
  | i + 1 => have := hs i (by simpa using hi); simpa [Nat.add_assoc, Nat.add_comm 1 i] using this
theorem cellsAt_nil {w : World} {b off : Nat} : cellsAt w b off [] := fun i hi => absurd hi (by simp)
theorem right1 {w : World} {b : Nat} (a l : Int) (v : Bool) (hv : rightB a l = v) (h0 : w.cell? ⟨b, 0, none⟩ = some (.int .i64 a)) (h1 : w.cell? ⟨b, 1, none⟩ = some (.int .i64 l)) :
    Calls Try.prog 73 #[.slice (some ⟨b, 0, none⟩) 1 1] w fun e w' => e = .returned (.bool v) ∧ Ext w w' := by
  have h : Sl (fun _ => True) w 2 Pfx.R (some ⟨b, 0, none⟩) 1 [(⟨a, l⟩ : Pfx)] := by
    refine ⟨by simp, by omega, fun i hi => ?_⟩
    match i with
    | 0 => exact ⟨b, 0, _, rfl, trivial, rfl, rfl, cellsAt_cons h0 (cellsAt_cons h1 cellsAt_nil)⟩
  refine (right_any h).mono fun e w' hh => ⟨hh.1.trans (ret_bool ?_), hh.2⟩
  rw [← hv]; simp [rightB, Pfx.chk]
theorem right2 {w : World} {b : Nat} (a l c m : Int) (v : Bool) (hv : (rightB a l && rightB c m) = v) (h0 : w.cell? ⟨b, 0, none⟩ = some (.int .i64 a)) (h1 : w.cell? ⟨b, 1, none⟩ = some (.int .i64 l))
    (h2 : w.cell? ⟨b, 2, none⟩ = some (.int .i64 c)) (h3 : w.cell? ⟨b, 3, none⟩ = some (.int .i64 m)) :
    Calls Try.prog 73 #[.slice (some ⟨b, 0, none⟩) 2 2] w fun e w' => e = .returned (.bool v) ∧ Ext w w' := by
  have h : Sl (fun _ => True) w 2 Pfx.R (some ⟨b, 0, none⟩) 2 [(⟨a, l⟩ : Pfx), ⟨c, m⟩] := by
    refine ⟨by simp, by omega, fun i hi => ?_⟩
    match i with
    | 0 => exact ⟨b, 0, _, rfl, trivial, rfl, rfl, cellsAt_cons h0 (cellsAt_cons h1 cellsAt_nil)⟩
    | 1 => exact ⟨b, 0, _, rfl, trivial, rfl, rfl, cellsAt_cons h2 (cellsAt_cons h3 cellsAt_nil)⟩
  refine (right_any h).mono fun e w' hh => ⟨hh.1.trans (ret_bool ?_), hh.2⟩
  rw [← hv]; simp [rightB, Pfx.chk]
theorem bv_andnot (x y : BitVec 64) : (x &&& ~~~y).toNat = x.toNat - (x &&& y).toNat := by
  have h1 : (x &&& ~~~y) &&& (x &&& y) = 0#64 := by
    ext i hi
    simp only [BitVec.getElem_and, BitVec.getElem_not, BitVec.getElem_zero]
    cases x[i] <;> cases y[i] <;> rfl
  have h2 : (x &&& ~~~y) + (x &&& y) = x := by
    rw [BitVec.add_eq_or_of_and_eq_zero _ _ h1]
    ext i hi
    simp only [BitVec.getElem_and, BitVec.getElem_not, BitVec.getElem_or]
    cases x[i] <;> cases y[i] <;> rfl
  have h4 := BitVec.toNat_add_of_and_eq_zero h1
  rw [h2] at h4
  omega
theorem andnot_msk (a l : Int) (h0 : 0 ≤ a) (h1 : a ≤ 65535) (h2 : 0 ≤ l) : bits .andNot .i64 a (msk l) = a - a % szI l := by
  obtain ⟨n, rfl⟩ := Int.eq_ofNat_of_zero_le h0
  have hm := msk_bd l h2
  rw [msk_nat] at hm ⊢
  show IntKind.i64.wrap ((BitVec.ofInt 64 (n : Int) &&& ~~~ BitVec.ofInt 64 _).toNat : Int) = _
  rw [bv_andnot, BitVec.toNat_and, ofInt_i64 n (by omega), ofInt_i64 _ (by omega), Nat.and_two_pow_sub_one_eq_mod, IntKind.wrap_i64]
  have := Nat.mod_le n (2 ^ (16 - l).toNat)
  unfold szI
  have h9 : ((n : Int) % 2 ^ (16 - l).toNat) = ((n % 2 ^ (16 - l).toNat : Nat) : Int) := by simp
  omega
def sizeI (a l : Int) : Int := if rightB a l = true then szI l else 0
set_option maxHeartbeats 400000 in
theorem size_any (a l : Int) (w : World) :
    Calls Try.prog 30 #[.agg #[.int .i64 a, .int .i64 l]] w fun e w' => e = .returned (.int .i64 (sizeI a l)) ∧ Ext w w' := by
  cases hA : rightB a l
  case false =>
    have hs : sizeI a l = 0 := by simp [sizeI, hA]
    rw [hs]
    have hv := Lib.hid hA
    go_enter Try.func30, Try.ntmps30
    go_wp2_with (first | (go_at_call 73; refine (right1 a l _ hv.out ?_ ?_).mono ?_; go_simp; go_simp; rintro e w1 ⟨rfl, hw1⟩))
    go_ret
    refine ⟨rfl, Bel.bel (B := _) ?_⟩
    (repeat (first | with_reducible assumption | with_reducible exact Bel.refl _ | with_reducible refine Bel.alloc ?_ _ | with_reducible refine Bel.drewN ?_ _ | with_reducible refine Bel.drew ?_ | (with_reducible refine Bel.setCell0 ?_ ?_ _; rotate_left; (first | omega | (simp; done) | (simp; omega))) | (with_reducible refine Bel.setCell ?_ (p := _) ?_ _; rotate_left; (first | (simp; done) | omega | (simp; omega))) | refine Bel.call ?_ (by assumption) | (refine EX.bel ?_ (by assumption) ?_; rotate_left; (first | omega | (simp; omega)))))
  case true =>
    have hs : sizeI a l = msk l + 1 := by simp [sizeI, hA, msk, szI]
    rw [hs]
    have hv := Lib.hid hA
    obtain ⟨g1, g2, g3, g4, -⟩ := right_bd hA
    obtain ⟨z1, z2⟩ := msk_bd l g1
    go_enter Try.func30, Try.ntmps30
    go_wp2_with (first | (go_at_call 73; refine (right1 a l _ hv.out ?_ ?_).mono ?_; go_simp; go_simp; rintro e w1 ⟨rfl, hw1⟩; obtain ⟨hcw1, hfw1⟩ := bcell hw1; simp only [World.size_alloc] at hcw1 hfw1) | (go_at_call 74; refine (mask_any _ _ g1 g2).mono ?_; rintro e w2 ⟨rfl, rfl⟩))
    go_ret
    refine ⟨rfl, Bel.bel (B := _) ?_⟩
    (repeat (first | with_reducible assumption | with_reducible exact Bel.refl _ | with_reducible refine Bel.alloc ?_ _ | with_reducible refine Bel.drewN ?_ _ | with_reducible refine Bel.drew ?_ | (with_reducible refine Bel.setCell0 ?_ ?_ _; rotate_left; (first | omega | (simp; done) | (simp; omega))) | (with_reducible refine Bel.setCell ?_ (p := _) ?_ _; rotate_left; (first | (simp; done) | omega | (simp; omega))) | refine Bel.call ?_ (by assumption) | (refine EX.bel ?_ (by assumption) ?_; rotate_left; (first | omega | (simp; omega)))))
end Go.Proofs.Ytbeocackphfijaa
namespace Go.Proofs.Ytbeocackphfijaa
open Go Go.RowKit
section
variable {P : Program} {ops : Array Oper} {Q : Exit → Act → World → Prop}
/-- Whatever order is picked, from every world that extends W. -/
def GO (P : Program) (ops : Array Oper) (Q : Exit → Act → World → Prop) : Nat → Array Bool → Act → World → Prop
  | 0, listed, a, W => Region.ready .any ops listed = [] ∧ ∀ w, Ext W w → Q .normal a w
  | fuel + 1, listed, a, W => ∀ w, Ext W w → (Region.ready .any ops listed = [] → Q .normal a w) ∧
      ∀ i ∈ Region.ready .any ops listed, wpOp P ops Q i (fun a' w' => Ext w w' ∧ GO P ops Q fuel (listed.setIfInBounds i true) a' w') a w
theorem GO.world : ∀ {fuel : Nat} {listed : Array Bool} {a : Act} {W W' : World}, Ext W W' → GO P ops Q fuel listed a W → GO P ops Q fuel listed a W'
  | 0, _, _, _, _, hx, h => ⟨h.1, fun w hw => h.2 w (ext_trans hx hw)⟩
  | _ + 1, _, _, _, _, hx, h => fun w hw => h w (ext_trans hx hw)
theorem GO.any : ∀ {fuel : Nat} {listed : Array Bool} {a : Act} {W : World}, GO P ops Q fuel listed a W → wpAny P .any ops Q fuel listed a W
  | 0, _, _, _, h => ⟨h.1, h.2 _ (Below.refl _ _)⟩
  | _ + 1, _, _, W, h => ⟨(h W (Below.refl _ _)).1, fun i hi => wpOp_mono (fun _ _ h' => GO.any h'.2) ((h W (Below.refl _ _)).2 i hi)⟩
/-- In every world that extends W operation o yields v, and at most extends it. -/
def QY (P : Program) (ops : Array Oper) (W : World) (o : Oper) (v : Value) (a : Act) : Prop :=
  (Region.wanted o (yielded ops a.tmps) = true ∧ ∀ w, Ext W w → o.quietAt P a (Ext w) w v) ∨
  (Region.wanted o (yielded ops a.tmps) = false ∧ v = undef)
theorem QY.world {W W' : World} {o : Oper} {v : Value} {a : Act} (hx : Ext W W') (h : QY P ops W o v a) : QY P ops W' o v a :=
  h.imp (fun ⟨h1, h2⟩ => ⟨h1, fun w hw => h2 w (ext_trans hx hw)⟩) id
theorem QY.of_same {W : World} {o : Oper} {v : Value} {a a' : Act} (hy : QY P ops W o v a) (he : execOp a'.eval o = execOp a.eval o)
    (hw : Region.wanted o (yielded ops a'.tmps) = Region.wanted o (yielded ops a.tmps)) : QY P ops W o v a' := by
  unfold QY Oper.quietAt at *
  rw [he, hw]
  exact hy
theorem QY.wpOp {W : World} {i : Nat} {o : Oper} {v : Value} {a : Act} (hi : ops[i]? = some o) (hy : QY P ops W o v a) {K : Act → World → Prop} {w : World} (hw : Ext W w) (h : ∀ w', Ext w w' → K (a.put o.dst v) w') : wpOp P ops Q i K a w := by
  unfold Go.wpOp
  simp only [hi]
  rcases hy with ⟨hwa, hv⟩ | ⟨hwa, rfl⟩
  · simp only [hwa, if_true]
    left
    exact Oper.wp_of_quiet (C := Ext w) (K := fun a' => a' = a.put o.dst v) (Below.refl _ _) (fun a' w' hw' ha => ha ▸ h w' hw') ⟨v, fun w'' hw'' => by
      have := hv w'' (ext_trans hw hw'')
      unfold Oper.quietAt at *
      generalize (execOp a.eval o).run P w'' = r at *
      cases r with
      | ok n u => cases n <;> simp only [Oper.quietUpon] at this ⊢ <;> first | exact this | exact ⟨this.1, this.2.mono fun _ _ ⟨e1, e2⟩ => ⟨e1, ext_trans hw'' e2⟩⟩
      | halt x u => simp only [Oper.quietUpon] at this, rfl⟩
  · simp only [hwa, Bool.false_eq_true, if_false]
    exact h w (Below.refl _ _)
theorem wpOp_putQ {W : World} {j : Nat} {oi oj : Oper} {v : Value} (hj : ops[j]? = some oj) (hap : oi.apart ops oj = true)
    (hsi : ∀ cs b, oi.op ≠ .select cs b) (hsj : ∀ cs b, oj.op ≠ .select cs b)
    (hQ : ∀ c a w, Q (.panic c) (a.put oi.dst v) w → Q (.panic c) a w) {K : Act → World → Prop} {a : Act} {w : World}
    (hy : QY P ops W oi v a) (h : wpOp P ops Q j K (a.put oi.dst v) w) :
    wpOp P ops Q j (fun a' w' => QY P ops W oi v a' ∧ K (a'.put oi.dst v) w') a w := by
  obtain ⟨h1, h2, h3⟩ := Oper.apart_spec hap
  have keep : ∀ (a : Act), QY P ops W oi v a → ∀ u, QY P ops W oi v (a.put oj.dst u) := fun a hy u =>
    hy.of_same (execOp_put oi hsi a oj.dst u h3) (wanted_put oi a oj.dst u h3)
  have keepD : ∀ d, QY P ops W oi v { a with defers := d :: a.defers } := fun d => hy.of_same rfl rfl
  unfold wpOp at *
  simp only [hj] at *
  rw [wanted_put oj a oi.dst v h1] at h
  split
  · rename_i hw
    simp only [hw, if_true] at h
    rcases h with h | ⟨hasks, hlets⟩
    case inr => exact .inr ⟨by unfold Oper.asks at *; rw [execOp_put oj hsj a oi.dst v h1] at hasks; exact hasks, hlets⟩
    refine .inl ?_
    unfold Oper.wp at *
    rw [execOp_put oj hsj a oi.dst v h1] at h
    generalize (execOp a.eval oj).run P w = r at *
    cases r with
    | ok n w' =>
      cases n <;> simp only [Oper.upon] at h ⊢
      case value u => exact ⟨keep a hy u, by rw [← Act.put_comm a v u h2]; exact h⟩
      case skip => exact ⟨keep a hy _, by rw [← Act.put_comm a v undef h2]; exact h⟩
      case defer d =>
        refine ⟨keep _ (keepD d) _, ?_⟩
        rw [← Act.put_comm _ v undef h2, ← Act.put_defers]
        exact h
      case enter f args =>
        refine Calls.mono h fun e w'' he => ?_
        cases e with
        | returned u => exact ⟨keep a hy u, by rw [← Act.put_comm a v u h2]; exact he⟩
        | panicked c => exact hQ _ _ _ he
        | outgrown => exact he
      case row row args => exact Rows.mono h fun u w'' he => ⟨keep a hy u, by rw [← Act.put_comm a v u h2]; exact he⟩
    | halt x w' =>
      cases x <;> simp only [Oper.upon] at h ⊢
      case panic u => exact hQ _ _ _ h
  · rename_i hw
    simp only [hw] at h
    exact ⟨keep a hy _, by rw [← Act.put_comm a v undef h2]; exact h⟩
theorem GO_first {i : Nat} {oi : Oper} {v : Value} (hi : ops[i]? = some oi) (hsel : ∀ (j : Nat) (o : Oper) cs b, ops[j]? = some o → o.op ≠ .select cs b)
    (hQ : ∀ c a w, Q (.panic c) (a.put oi.dst v) w → Q (.panic c) a w) :
    ∀ (fuel : Nat) (listed : Array Bool) (a : Act) (W : World),
      (∀ j oj, ops[j]? = some oj → j ≠ i → listed.getD j true = false → (∀ e ∈ oj.after, Region.binds .any e = true → e.on ≠ i) → oi.apart ops oj = true) →
      i ∈ Region.ready .any ops listed → QY P ops W oi v a →
      GO P ops Q fuel (listed.setIfInBounds i true) (a.put oi.dst v) W → GO P ops Q (fuel + 1) listed a W := by
  intro fuel
  induction fuel with
  | zero =>
    intro listed a W _ hr hy H w hw
    refine ⟨fun h => (by rw [h] at hr; cases hr), fun j hj => ?_⟩
    by_cases hji : j = i
    · subst hji; exact hy.wpOp hi hw fun w' hw' => ⟨hw', H.world (ext_trans hw hw')⟩
    · have := ready_mono hj hji
      rw [H.1] at this
      cases this
  | succ fuel ih =>
    intro listed a W hfree hr hy H w hw
    refine ⟨fun h => (by rw [h] at hr; cases hr), fun j hj => ?_⟩
    by_cases hji : j = i
    · subst hji; exact hy.wpOp hi hw fun w' hw' => ⟨hw', H.world (ext_trans hw hw')⟩
    · have h1 := (H w hw).2 j (ready_mono hj hji)
      obtain ⟨hjun, oj, hoj, hall⟩ := mem_ready.1 hj
      have hnot : ∀ e ∈ oj.after, Region.binds .any e = true → e.on ≠ i := fun e he hb heq => by
        have h1 := hall e he hb
        have h0 := (mem_ready.1 hr).1
        rw [heq] at h1
        rcases Nat.lt_or_ge i listed.size with h' | h'
        · simp [h'] at h0 h1; rw [h0] at h1; cases h1
        · simp [Array.getElem?_eq_none h'] at h1
      have h2 := wpOp_putQ hoj (hfree j oj hoj hji hjun hnot) (fun cs b => hsel i oi cs b hi) (fun cs b => hsel j oj cs b hoj) hQ (hy.world hw) h1
      have hfree' : ∀ k ok, ops[k]? = some ok → k ≠ i → (listed.setIfInBounds j true).getD k true = false →
          (∀ e ∈ ok.after, Region.binds .any e = true → e.on ≠ i) → oi.apart ops ok = true := fun k ok hk hki hun hno => by
        refine hfree k ok hk hki ?_ hno
        by_cases hjk : j = k
        · subst hjk; exact hjun
        · rw [getD_set_ne true hjk] at hun; exact hun
      refine wpOp_mono (fun a' w' h3 => ⟨h3.2.1, ih (listed.setIfInBounds j true) a' w' hfree' (ready_mono hr (Ne.symm hji)) (h3.1.world h3.2.1) ?_⟩) h2
      rw [Array.setIfInBounds_comm _ _ hji]
      exact h3.2.2
/-- The walk in the order of the text. -/
def wpMix (P : Program) (ops : Array Oper) (Q : Exit → Act → World → Prop) : List Oper → Nat → Array Bool → Act → World → Prop
  | [], _, _, a, W => ∀ w, Ext W w → Q .normal a w
  | o :: rest, k, listed, a, W =>
    (∃ v, QY P ops W o v a ∧ wpMix P ops Q rest (k + 1) (listed.setIfInBounds k true) (a.put o.dst v) W) ∨
    (Region.ready .any ops listed = [k] ∧ Region.wanted o (yielded ops a.tmps) = true ∧ ∀ w, Ext W w → o.wp P a w (fun a' w' => Ext w w' ∧ wpMix P ops Q rest (k + 1) (listed.setIfInBounds k true) a' w') Q)
theorem mix_sound (hs : Region.noSelect ops = true) (hQ : ∀ c a d v w, Q (.panic c) (a.put d v) w → Q (.panic c) a w) : ∀ (l : List Oper) (k : Nat) (listed : Array Bool) (a : Act) (W : World), (∀ j, l[j]? = ops[k + j]?) →
    Region.lexFrom .any ops l.length k listed = true → wpMix P ops Q l k listed a W → GO P ops Q l.length listed a W
  | [], _, _, _, _, _, hB, h => ⟨by simpa [Region.lexFrom] using hB, h⟩
  | o :: l, k, listed, a, W, hl, hB, h => by
    have h0 : ops[k]? = some o := by simpa using (hl 0).symm
    simp only [List.length_cons, Region.lexFrom, Bool.and_eq_true] at hB
    obtain ⟨⟨hr, hf⟩, hB'⟩ := hB
    have hl' : ∀ j, l[j]? = ops[k + 1 + j]? := fun j => by have := hl (j + 1); simpa [Nat.add_assoc, Nat.add_comm 1 j] using this
    rcases h with ⟨v, hy, hK⟩ | ⟨hone, hwa, hK⟩
    · exact GO_first h0 (Region.noSelect_spec hs) (fun c a w => hQ c a _ _ w) l.length listed a W (Region.free_spec h0 hf) (by simpa using hr) hy (mix_sound hs hQ l (k + 1) _ _ _ hl' hB' hK)
    · intro w hw
      refine ⟨fun h => by rw [hone] at h; simp at h, fun i hi => ?_⟩
      rw [hone] at hi
      obtain rfl : i = k := by simpa using hi
      unfold wpOp
      simp only [h0, hwa, if_true]
      left
      exact Oper.wp_mono (fun a' w' h' => ⟨h'.1, mix_sound hs hQ l (i + 1) _ _ _ hl' hB' h'.2⟩) (hK w hw)
theorem region_mix {id : Nat} {a : Act} {w : World} {l : List Oper} (hm : P.follows .mixedOrders = true) (hB : Region.lexB .any l.toArray = true) (hQ : ∀ c a d v w, Q (.panic c) (a.put d v) w → Q (.panic c) a w)
    (h : wpMix P l.toArray Q l 0 (Array.replicate l.length false) a w) : (Code.region id l.toArray true).wp P Q a w := by
  simp only [Region.lexB, Bool.and_eq_true] at hB
  refine wp_region_any hm ?_
  have h2 := mix_sound hB.1 hQ l 0 (Array.replicate l.length false) a w (by simp) (by simpa using hB.2) h
  have h3 := (h2.world ((Below.refl _ _).drew : Ext w w.drew)).any
  simpa using h3
section
variable {o : Oper} {rest : List Oper} {k : Nat} {listed : Array Bool} {a : Act} {W : World}
theorem mix_nil (h : ∀ w, Ext W w → Q .normal a w) : wpMix P ops Q [] k listed a W := h
theorem mix_skip (hw : Region.wanted o (yielded ops a.tmps) = false) (hn : wpMix P ops Q rest (k + 1) (listed.setIfInBounds k true) (a.put o.dst undef) W) : wpMix P ops Q (o :: rest) k listed a W :=
  .inl ⟨undef, .inr ⟨hw, rfl⟩, hn⟩
theorem mix_skip_t {j d : Nat} {v : Value} (hg : o.guard = some (j, true)) (hd : (ops[j]?).bind (·.dst) = some d) (hv : a.tmps.toList[d]? = some v) (hb : v = .bool false) (hn : wpMix P ops Q rest (k + 1) (listed.setIfInBounds k true) (a.put o.dst undef) W) : wpMix P ops Q (o :: rest) k listed a W :=
  mix_skip (by simp [Region.wanted, hg, yields_bool hd hv hb]) hn
theorem mix_skip_f {j d : Nat} {v : Value} (hg : o.guard = some (j, false)) (hd : (ops[j]?).bind (·.dst) = some d) (hv : a.tmps.toList[d]? = some v) (hb : v = .bool true) (hn : wpMix P ops Q rest (k + 1) (listed.setIfInBounds k true) (a.put o.dst undef) W) : wpMix P ops Q (o :: rest) k listed a W :=
  mix_skip (by simp [Region.wanted, hg, yields_bool hd hv hb]) hn
theorem mix_skip_u {j d : Nat} {v : Value} {b : Bool} (hg : o.guard = some (j, b)) (hd : (ops[j]?).bind (·.dst) = some d) (hv : a.tmps.toList[d]? = some v) (hb : v = undef) (hn : wpMix P ops Q rest (k + 1) (listed.setIfInBounds k true) (a.put o.dst undef) W) : wpMix P ops Q (o :: rest) k listed a W :=
  mix_skip (by simp [Region.wanted, hg, yields_undef hd hv hb]) hn
theorem mix_take {v : Value} (hw : Region.wanted o (yielded ops a.tmps) = true) (h : ∀ w, Ext W w → ∀ R : Value → Prop, R v → qUp P w w R ((execOp a.eval o).run P w))
    (hn : wpMix P ops Q rest (k + 1) (listed.setIfInBounds k true) (a.put o.dst v) W) : wpMix P ops Q (o :: rest) k listed a W :=
  .inl ⟨v, .inl ⟨hw, fun w hw => qUp_quiet (h w hw)⟩, hn⟩
theorem mix_alone (hr : Region.ready .any ops listed = [k]) (hw : Region.wanted o (yielded ops a.tmps) = true)
    (h : ∀ w, Ext W w → ∀ K : Act → World → Prop, (∀ a' w', Ext w w' → wpMix P ops Q rest (k + 1) (listed.setIfInBounds k true) a' w' → K a' w') → o.wp P a w K Q) : wpMix P ops Q (o :: rest) k listed a W :=
  .inr ⟨hr, hw, fun w hw => h w hw _ fun _ _ h1 h2 => ⟨h1, h2⟩⟩
end
theorem mcall {f : FuncId} {args : Array Value} {w : World} {R : Value → Prop} {v : Value} (h : Calls P f args w fun e w' => e = .returned v ∧ Ext w w') (hR : R v) : Calls P f args w (qPost w R) :=
  h.mono fun _ _ ⟨he, hx⟩ => ⟨⟨v, he, hR⟩, hx⟩
theorem mcall_same {f : FuncId} {args : Array Value} {w : World} {R : Value → Prop} {v : Value} (h : Calls P f args w fun e w' => e = .returned v ∧ w = w') (hR : R v) : Calls P f args w (qPost w R) :=
  h.mono fun _ _ ⟨he, hx⟩ => ⟨⟨v, he, hR⟩, hx ▸ Below.refl _ _⟩
end
end Go.Proofs.Ytbeocackphfijaa
namespace Go.Proofs.Ytbeocackphfijaa
open Go Go.RowKit Go.Proofs
set_option maxRecDepth 100000
def insP (a l b m : Int) : Bool := rightB a l && rightB b m && decide (m ≤ l) && (a - a % szI m == b)
set_option maxHeartbeats 1000000 in
theorem inside_any (a l b m : Int) (w : World) :
    Calls Try.prog 27 #[.agg #[.int .i64 a, .int .i64 l], .agg #[.int .i64 b, .int .i64 m]] w fun e w' => e = .returned (.bool (insP a l b m)) ∧ Ext w w' := by
  cases hA : (rightB a l && rightB b m)
  case false =>
    have hs : insP a l b m = false := by simp [insP, hA]
    rw [hs]
    have hv := Lib.hid hA
    clear hA hs
    go_enter Try.func27, Try.ntmps27
    go_wp2_with fail
    refine region_mix (by kernel_rfl) (by kernel_rfl) (fun _ _ d _ _ h => by cases d <;> exact h) ?_
    repeat (first | ((first | refine mix_skip_t rfl rfl rfl (by with_reducible rfl) ?_ | refine mix_skip_f rfl rfl rfl (by with_reducible rfl) ?_ | refine mix_skip_u rfl rfl rfl (by with_reducible rfl) ?_); simp only [Act.put, List.setIfInBounds_toArray, List.set_cons_zero, List.set_cons_succ]) | (apply mix_take; (first | exact want_0 rfl | exact want_b rfl rfl rfl (by with_reducible rfl)); intro wq hwq R hR; ((have hcc := (bcell hwq).1; (try simp only [World.size_alloc, World.size_setCell, World.size_drew, World.heap_drewN] at hcc)); go_simp; first | exact hR | (fail)); simp only [Act.put, List.setIfInBounds_toArray, List.set_cons_zero, List.set_cons_succ]))
    refine mix_alone (by kernel_rfl) (by first | exact want_0 rfl | exact want_b rfl rfl rfl (by with_reducible rfl)) (fun w1 hw1 K hK => ?_)
    obtain ⟨hcw1, hfw1⟩ := bcell hw1
    have hzw1 := bsize hw1
    (try simp only [World.size_alloc, World.size_setCell, World.size_drew, World.heap_drewN] at hcw1 hfw1 hzw1)
    (try have l0w1 : w.heap.size ≤ w1.heap.size := by omega)
    (try have l1w1 : w.heap.size < w1.heap.size := by omega)
    (try have l2w1 : w.heap.size + 1 < w1.heap.size := by omega)
    go_simp
    refine hK _ _ (Bel.bel (B := _) ?_) ?_
    · (repeat (first | with_reducible assumption | with_reducible exact Bel.refl _ | with_reducible refine Bel.alloc ?_ _ | with_reducible refine Bel.drewN ?_ _ | with_reducible refine Bel.drew ?_ | (with_reducible refine Bel.setCell0 ?_ ?_ _; rotate_left; (first | omega | (simp; done) | (simp; omega))) | (with_reducible refine Bel.setCell ?_ (p := _) ?_ _; rotate_left; (first | (simp; done) | omega | (simp; omega))) | refine Bel.call ?_ (by assumption) | (refine EX.bel ?_ (by assumption) ?_; rotate_left; (first | omega | (simp; omega)))))
    clear hK K
    repeat (first | ((first | refine mix_skip_t rfl rfl rfl (by with_reducible rfl) ?_ | refine mix_skip_f rfl rfl rfl (by with_reducible rfl) ?_ | refine mix_skip_u rfl rfl rfl (by with_reducible rfl) ?_); simp only [Act.put, List.setIfInBounds_toArray, List.set_cons_zero, List.set_cons_succ]) | (apply mix_take; (first | exact want_0 rfl | exact want_b rfl rfl rfl (by with_reducible rfl)); intro wq hwq R hR; ((have hcc := (bcell hwq).1; (try simp only [World.size_alloc, World.size_setCell, World.size_drew, World.heap_drewN] at hcc)); go_simp; first | exact hR | ((go_at_call 73; refine mcall (right2 a l b m _ hv.out ?_ ?_ ?_ ?_) hR; go_simp; go_simp; go_simp; go_simp))); simp only [Act.put, List.setIfInBounds_toArray, List.set_cons_zero, List.set_cons_succ]))
    refine mix_nil ?_
    intro w2 hw2
    obtain ⟨hcw2, hfw2⟩ := bcell hw2
    have hzw2 := bsize hw2
    (try simp only [World.size_alloc, World.size_setCell, World.size_drew, World.heap_drewN] at hcw2 hfw2 hzw2)
    go_wp2_with fail
    go_ret
    refine ⟨rfl, Bel.bel (B := _) ?_⟩
    (repeat (first | with_reducible assumption | with_reducible exact Bel.refl _ | with_reducible refine Bel.alloc ?_ _ | with_reducible refine Bel.drewN ?_ _ | with_reducible refine Bel.drew ?_ | (with_reducible refine Bel.setCell0 ?_ ?_ _; rotate_left; (first | omega | (simp; done) | (simp; omega))) | (with_reducible refine Bel.setCell ?_ (p := _) ?_ _; rotate_left; (first | (simp; done) | omega | (simp; omega))) | refine Bel.call ?_ (by assumption) | (refine EX.bel ?_ (by assumption) ?_; rotate_left; (first | omega | (simp; omega)))))
  case true =>
    have hA' := hA
    simp only [Bool.and_eq_true] at hA'
    obtain ⟨g1, g2, g3, g4, -⟩ := right_bd hA'.1
    obtain ⟨k1, k2, k3, k4, -⟩ := right_bd hA'.2
    obtain ⟨z1, z2⟩ := msk_bd m k1
    have hv := Lib.hid hA
    by_cases hm : m ≤ l
    · have hs : insP a l b m = (a - a % szI m == b) := by simp [insP, hA, hm]
      rw [hs]
      have han := andnot_msk a m g3 g4 k1
      have hmI : decide (m ≤ l) = true := by simp [hm]
      clear hA hA' hs hm
      cases hE : (a - a % szI m == b)
      all_goals
        go_enter Try.func27, Try.ntmps27
        go_wp2_with fail
        refine region_mix (by kernel_rfl) (by kernel_rfl) (fun _ _ d _ _ h => by cases d <;> exact h) ?_
        repeat (first | ((first | refine mix_skip_t rfl rfl rfl (by with_reducible rfl) ?_ | refine mix_skip_f rfl rfl rfl (by with_reducible rfl) ?_ | refine mix_skip_u rfl rfl rfl (by with_reducible rfl) ?_); simp only [Act.put, List.setIfInBounds_toArray, List.set_cons_zero, List.set_cons_succ]) | (apply mix_take; (first | exact want_0 rfl | exact want_b rfl rfl rfl (by with_reducible rfl)); intro wq hwq R hR; ((have hcc := (bcell hwq).1; (try simp only [World.size_alloc, World.size_setCell, World.size_drew, World.heap_drewN] at hcc)); go_simp; first | exact hR | (fail)); simp only [Act.put, List.setIfInBounds_toArray, List.set_cons_zero, List.set_cons_succ]))
        refine mix_alone (by kernel_rfl) (by first | exact want_0 rfl | exact want_b rfl rfl rfl (by with_reducible rfl)) (fun w1 hw1 K hK => ?_)
        obtain ⟨hcw1, hfw1⟩ := bcell hw1
        have hzw1 := bsize hw1
        (try simp only [World.size_alloc, World.size_setCell, World.size_drew, World.heap_drewN] at hcw1 hfw1 hzw1)
        (try have l0w1 : w.heap.size ≤ w1.heap.size := by omega)
        (try have l1w1 : w.heap.size < w1.heap.size := by omega)
        (try have l2w1 : w.heap.size + 1 < w1.heap.size := by omega)
        go_simp
        refine hK _ _ (Bel.bel (B := _) ?_) ?_
        · (repeat (first | with_reducible assumption | with_reducible exact Bel.refl _ | with_reducible refine Bel.alloc ?_ _ | with_reducible refine Bel.drewN ?_ _ | with_reducible refine Bel.drew ?_ | (with_reducible refine Bel.setCell0 ?_ ?_ _; rotate_left; (first | omega | (simp; done) | (simp; omega))) | (with_reducible refine Bel.setCell ?_ (p := _) ?_ _; rotate_left; (first | (simp; done) | omega | (simp; omega))) | refine Bel.call ?_ (by assumption) | (refine EX.bel ?_ (by assumption) ?_; rotate_left; (first | omega | (simp; omega)))))
        clear hK K
        repeat (first | ((first | refine mix_skip_t rfl rfl rfl (by with_reducible rfl) ?_ | refine mix_skip_f rfl rfl rfl (by with_reducible rfl) ?_ | refine mix_skip_u rfl rfl rfl (by with_reducible rfl) ?_); simp only [Act.put, List.setIfInBounds_toArray, List.set_cons_zero, List.set_cons_succ]) | (apply mix_take; (first | exact want_0 rfl | exact want_b rfl rfl rfl (by with_reducible rfl)); intro wq hwq R hR; ((have hcc := (bcell hwq).1; (try simp only [World.size_alloc, World.size_setCell, World.size_drew, World.heap_drewN] at hcc)); go_simp; first | exact hR | (first | (go_at_call 73; refine mcall (right2 a l b m _ hv.out ?_ ?_ ?_ ?_) hR; go_simp; go_simp; go_simp; go_simp) | (go_at_call 74; exact mcall_same (mask_any _ _ k1 k2) hR))); simp only [Act.put, List.setIfInBounds_toArray, List.set_cons_zero, List.set_cons_succ]))
        refine mix_nil ?_
        intro w2 hw2
        obtain ⟨hcw2, hfw2⟩ := bcell hw2
        have hzw2 := bsize hw2
        (try simp only [World.size_alloc, World.size_setCell, World.size_drew, World.heap_drewN] at hcw2 hfw2 hzw2)
        go_wp2_with fail
        go_ret
        refine ⟨rfl, Bel.bel (B := _) ?_⟩
        (repeat (first | with_reducible assumption | with_reducible exact Bel.refl _ | with_reducible refine Bel.alloc ?_ _ | with_reducible refine Bel.drewN ?_ _ | with_reducible refine Bel.drew ?_ | (with_reducible refine Bel.setCell0 ?_ ?_ _; rotate_left; (first | omega | (simp; done) | (simp; omega))) | (with_reducible refine Bel.setCell ?_ (p := _) ?_ _; rotate_left; (first | (simp; done) | omega | (simp; omega))) | refine Bel.call ?_ (by assumption) | (refine EX.bel ?_ (by assumption) ?_; rotate_left; (first | omega | (simp; omega)))))
    · have hs : insP a l b m = false := by simp [insP, hA, hm]
      rw [hs]
      have hmI : decide (m ≤ l) = false := by simp [hm]
      clear hA hA' hs hm
      go_enter Try.func27, Try.ntmps27
      go_wp2_with fail
      refine region_mix (by kernel_rfl) (by kernel_rfl) (fun _ _ d _ _ h => by cases d <;> exact h) ?_
      repeat (first | ((first | refine mix_skip_t rfl rfl rfl (by with_reducible rfl) ?_ | refine mix_skip_f rfl rfl rfl (by with_reducible rfl) ?_ | refine mix_skip_u rfl rfl rfl (by with_reducible rfl) ?_); simp only [Act.put, List.setIfInBounds_toArray, List.set_cons_zero, List.set_cons_succ]) | (apply mix_take; (first | exact want_0 rfl | exact want_b rfl rfl rfl (by with_reducible rfl)); intro wq hwq R hR; ((have hcc := (bcell hwq).1; (try simp only [World.size_alloc, World.size_setCell, World.size_drew, World.heap_drewN] at hcc)); go_simp; first | exact hR | (fail)); simp only [Act.put, List.setIfInBounds_toArray, List.set_cons_zero, List.set_cons_succ]))
      refine mix_alone (by kernel_rfl) (by first | exact want_0 rfl | exact want_b rfl rfl rfl (by with_reducible rfl)) (fun w1 hw1 K hK => ?_)
      obtain ⟨hcw1, hfw1⟩ := bcell hw1
      have hzw1 := bsize hw1
      (try simp only [World.size_alloc, World.size_setCell, World.size_drew, World.heap_drewN] at hcw1 hfw1 hzw1)
      (try have l0w1 : w.heap.size ≤ w1.heap.size := by omega)
      (try have l1w1 : w.heap.size < w1.heap.size := by omega)
      (try have l2w1 : w.heap.size + 1 < w1.heap.size := by omega)
      go_simp
      refine hK _ _ (Bel.bel (B := _) ?_) ?_
      · (repeat (first | with_reducible assumption | with_reducible exact Bel.refl _ | with_reducible refine Bel.alloc ?_ _ | with_reducible refine Bel.drewN ?_ _ | with_reducible refine Bel.drew ?_ | (with_reducible refine Bel.setCell0 ?_ ?_ _; rotate_left; (first | omega | (simp; done) | (simp; omega))) | (with_reducible refine Bel.setCell ?_ (p := _) ?_ _; rotate_left; (first | (simp; done) | omega | (simp; omega))) | refine Bel.call ?_ (by assumption) | (refine EX.bel ?_ (by assumption) ?_; rotate_left; (first | omega | (simp; omega)))))
      clear hK K
      repeat (first | ((first | refine mix_skip_t rfl rfl rfl (by with_reducible rfl) ?_ | refine mix_skip_f rfl rfl rfl (by with_reducible rfl) ?_ | refine mix_skip_u rfl rfl rfl (by with_reducible rfl) ?_); simp only [Act.put, List.setIfInBounds_toArray, List.set_cons_zero, List.set_cons_succ]) | (apply mix_take; (first | exact want_0 rfl | exact want_b rfl rfl rfl (by with_reducible rfl)); intro wq hwq R hR; ((have hcc := (bcell hwq).1; (try simp only [World.size_alloc, World.size_setCell, World.size_drew, World.heap_drewN] at hcc)); go_simp; first | exact hR | ((go_at_call 73; refine mcall (right2 a l b m _ hv.out ?_ ?_ ?_ ?_) hR; go_simp; go_simp; go_simp; go_simp))); simp only [Act.put, List.setIfInBounds_toArray, List.set_cons_zero, List.set_cons_succ]))
      refine mix_nil ?_
      intro w2 hw2
      obtain ⟨hcw2, hfw2⟩ := bcell hw2
      have hzw2 := bsize hw2
      (try simp only [World.size_alloc, World.size_setCell, World.size_drew, World.heap_drewN] at hcw2 hfw2 hzw2)
      go_wp2_with fail
      go_ret
      refine ⟨rfl, Bel.bel (B := _) ?_⟩
      (repeat (first | with_reducible assumption | with_reducible exact Bel.refl _ | with_reducible refine Bel.alloc ?_ _ | with_reducible refine Bel.drewN ?_ _ | with_reducible refine Bel.drew ?_ | (with_reducible refine Bel.setCell0 ?_ ?_ _; rotate_left; (first | omega | (simp; done) | (simp; omega))) | (with_reducible refine Bel.setCell ?_ (p := _) ?_ _; rotate_left; (first | (simp; done) | omega | (simp; omega))) | refine Bel.call ?_ (by assumption) | (refine EX.bel ?_ (by assumption) ?_; rotate_left; (first | omega | (simp; omega)))))
end Go.Proofs.Ytbeocackphfijaa
namespace Go.Proofs.Ytbeocackphfijaa
open Go Go.RowKit Go.Proofs
set_option maxRecDepth 100000
def meetP (a l b m : Int) : Bool := insP a l b m || insP b m a l
set_option maxHeartbeats 1000000 in
theorem meets_any (a l b m : Int) (w : World) :
    Calls Try.prog 26 #[.agg #[.int .i64 a, .int .i64 l], .agg #[.int .i64 b, .int .i64 m]] w fun e w' => e = .returned (.bool (meetP a l b m)) ∧ Ext w w' := by
  unfold meetP
  cases hA : insP a l b m
  case true =>
    have hc := inside_any a l b m
    rw [hA] at hc
    replace hc := Lib.hid hc
    clear hA
    go_enter Try.func26, Try.ntmps26
    go_wp2_with fail
    refine (hc.out _).mono ?_
    rintro e w1 ⟨rfl, hw1⟩
    obtain ⟨hcw1, hfw1⟩ := bcell hw1
    have hzw1 := bsize hw1
    (try simp only [World.size_alloc, World.size_setCell, World.size_drew, World.heap_drewN] at hcw1 hfw1 hzw1)
    go_wp2_with fail
    go_ret
    refine ⟨rfl, Bel.bel (B := _) ?_⟩
    (repeat (first | with_reducible assumption | with_reducible exact Bel.refl _ | with_reducible refine Bel.alloc ?_ _ | with_reducible refine Bel.drewN ?_ _ | with_reducible refine Bel.drew ?_ | (with_reducible refine Bel.setCell0 ?_ ?_ _; rotate_left; (first | omega | (simp; done) | (simp; omega))) | (with_reducible refine Bel.setCell ?_ (p := _) ?_ _; rotate_left; (first | (simp; done) | omega | (simp; omega))) | refine Bel.call ?_ (by assumption) | (refine EX.bel ?_ (by assumption) ?_; rotate_left; (first | omega | (simp; omega)))))
  case false =>
    have hc := inside_any a l b m
    rw [hA] at hc
    replace hc := Lib.hid hc
    clear hA
    obtain ⟨r, hr⟩ : ∃ r, r = insP b m a l := ⟨_, rfl⟩
    have hd := inside_any b m a l
    rw [← hr] at hd ⊢
    clear hr
    replace hd := Lib.hid hd
    go_enter Try.func26, Try.ntmps26
    go_wp2_with fail
    refine (hc.out _).mono ?_
    rintro e w1 ⟨rfl, hw1⟩
    obtain ⟨hcw1, hfw1⟩ := bcell hw1
    have hzw1 := bsize hw1
    (try simp only [World.size_alloc, World.size_setCell, World.size_drew, World.heap_drewN] at hcw1 hfw1 hzw1)
    go_wp2_with fail
    refine (hd.out _).mono ?_
    rintro e w2 ⟨rfl, hw2⟩
    obtain ⟨hcw2, hfw2⟩ := bcell hw2
    have hzw2 := bsize hw2
    (try simp only [World.size_alloc, World.size_setCell, World.size_drew, World.heap_drewN] at hcw2 hfw2 hzw2)
    go_wp2_with fail
    go_ret
    refine ⟨rfl, Bel.bel (B := _) ?_⟩
    (repeat (first | with_reducible assumption | with_reducible exact Bel.refl _ | with_reducible refine Bel.alloc ?_ _ | with_reducible refine Bel.drewN ?_ _ | with_reducible refine Bel.drew ?_ | (with_reducible refine Bel.setCell0 ?_ ?_ _; rotate_left; (first | omega | (simp; done) | (simp; omega))) | (with_reducible refine Bel.setCell ?_ (p := _) ?_ _; rotate_left; (first | (simp; done) | omega | (simp; omega))) | refine Bel.call ?_ (by assumption) | (refine EX.bel ?_ (by assumption) ?_; rotate_left; (first | omega | (simp; omega)))))
end Go.Proofs.Ytbeocackphfijaa
namespace Go.Proofs.Ytbeocackphfijaa
open Go Go.RowKit
/-- All that was there is as it was, but for the blocks from lo on, ahead of hi: they are as wide as they were. -/
structure EX (lo hi : Nat) (w w' : World) : Prop where
  os : w'.os = w.os
  tape : w'.tape = w.tape
  output : w'.output = w.output
  size : w.heap.size ≤ w'.heap.size
  block : ∀ b, b < w.heap.size → (b < lo ∨ hi ≤ b) → w'.heap[b]? = w.heap[b]?
  there : ∀ b o, b < w.heap.size → (w.cell? ⟨b, o, none⟩).isSome = true → (w'.cell? ⟨b, o, none⟩).isSome = true
  free : ∀ b o, b < w.heap.size → w'.frozen? ⟨b, o, none⟩ = w.frozen? ⟨b, o, none⟩
theorem EX.refl {lo hi : Nat} (w : World) : EX lo hi w w := ⟨rfl, rfl, rfl, Nat.le_refl _, fun _ _ _ => rfl, fun _ _ _ h => h, fun _ _ _ => rfl⟩
theorem EX.trans {lo hi : Nat} {a b c : World} (h : EX lo hi a b) (k : EX lo hi b c) : EX lo hi a c :=
  ⟨k.os.trans h.os, k.tape.trans h.tape, k.output.trans h.output, Nat.le_trans h.size k.size, fun i hi hx => (k.block i (Nat.lt_of_lt_of_le hi h.size) hx).trans (h.block i hi hx),
   fun i o hi hs => k.there i o (Nat.lt_of_lt_of_le hi h.size) (h.there i o hi hs), fun i o hi => (k.free i o (Nat.lt_of_lt_of_le hi h.size)).trans (h.free i o hi)⟩
theorem EX.of {lo hi : Nat} {w w' : World} (h : Ext w w') : EX lo hi w w' :=
  ⟨h.os, h.tape, h.output, h.size, fun b hb _ => h.block b hb, fun b o hb hs => by rw [(bcell h).1 b o hb]; exact hs, fun b o hb => (bcell h).2 b o hb⟩
theorem EX.mono {lo hi lo' hi' : Nat} {w w' : World} (h1 : lo ≤ lo') (h2 : hi' ≤ hi) (h : EX lo' hi' w w') : EX lo hi w w' :=
  ⟨h.os, h.tape, h.output, h.size, fun b hb hx => h.block b hb (by omega), h.there, h.free⟩
theorem EX.cell {lo hi : Nat} {w w' : World} (h : EX lo hi w w') {b o : Nat} (hb : b < w.heap.size) (hx : b < lo ∨ hi ≤ b) : w'.cell? ⟨b, o, none⟩ = w.cell? ⟨b, o, none⟩ :=
  World.cell?_of_block (w := w) (h.block b hb hx)
theorem EX.setCell {lo hi : Nat} {w w' : World} (h : EX lo hi w w') {b o : Nat} (h1 : lo ≤ b) (h2 : b < hi) (v : Value) : EX lo hi w (w'.setCell ⟨b, o, none⟩ v) := by
  refine ⟨h.os, h.tape, h.output, by rw [World.size_setCell]; exact h.size, fun i hi hx => (block_setCell_ne v (by show b ≠ i; omega)).trans (h.block i hi hx), fun i j hi hs => ?_, fun i j hi => ?_⟩
  · have h3 := h.there i j hi hs
    obtain ⟨u, hu⟩ := Option.isSome_iff_exists.1 h3
    obtain ⟨u', hu'⟩ := cell?_setCell_some (w := w') (p := ⟨b, o, none⟩) (x := v) (q := ⟨i, j, none⟩) (v := u) hu
    rw [hu']; rfl
  · rw [World.frozen?_setCell]; exact h.free i j hi
theorem EX.drew {lo hi : Nat} {w w' : World} (h : EX lo hi w w') : EX lo hi w w'.drew := h.trans (EX.of ((Below.refl _ _).drew))
theorem EX.bel {lo hi B : Nat} {a w w' : World} (h : Bel B a w) (hx : EX lo hi w w') (hB : B ≤ lo) : Bel B a w' :=
  ⟨h.bel.trans ⟨hx.os, hx.tape, hx.output, hx.size, fun k hk => hx.block k (Nat.lt_of_lt_of_le hk h.le) (.inl (Nat.lt_of_lt_of_le hk hB))⟩, Nat.le_trans h.le hx.size⟩
theorem EX.some {lo hi : Nat} {w w' : World} (h : EX lo hi w w') {b o : Nat} {v : Value} (hc : w.cell? ⟨b, o, none⟩ = some v) : ∃ u, w'.cell? ⟨b, o, none⟩ = some u := by
  have := h.there b o (lt_of_cell hc) (by rw [hc]; rfl)
  exact Option.isSome_iff_exists.1 this
theorem EX.lo {lo hi : Nat} {w w' : World} (h : EX lo hi w w') (hl : lo ≤ w.heap.size) : ∀ b o, b < lo → w'.cell? ⟨b, o, none⟩ = w.cell? ⟨b, o, none⟩ := fun b o hb => h.cell (by omega) (.inl hb)
theorem EX.hi {lo hi : Nat} {w w' : World} (h : EX lo hi w w') : ∀ b o, hi ≤ b → b < w.heap.size → w'.cell? ⟨b, o, none⟩ = w.cell? ⟨b, o, none⟩ := fun b o hb h2 => h.cell h2 (.inr hb)
section
variable {P : Program} {ops : Array Oper} {Q : Exit → Act → World → Prop}
/-- Whatever order is picked. -/
def GX (P : Program) (ops : Array Oper) (Q : Exit → Act → World → Prop) : Nat → Array Bool → Act → Nat → Nat → World → Prop
  | 0, listed, a, lo, hi, W => Region.ready .any ops listed = [] ∧ ∀ w, EX lo hi W w → Q .normal a w
  | fuel + 1, listed, a, lo, hi, W => ∀ w, EX lo hi W w → (Region.ready .any ops listed = [] → Q .normal a w) ∧
      ∀ i ∈ Region.ready .any ops listed, wpOp P ops Q i (fun a' w' => EX lo hi w w' ∧ ∃ lo' hi', lo ≤ lo' ∧ hi' ≤ hi ∧ GX P ops Q fuel (listed.setIfInBounds i true) a' lo' hi' w') a w
theorem GX.world : ∀ {fuel : Nat} {listed : Array Bool} {a : Act} {lo hi : Nat} {W W' : World}, EX lo hi W W' → GX P ops Q fuel listed a lo hi W → GX P ops Q fuel listed a lo hi W'
  | 0, _, _, _, _, _, _, hx, h => ⟨h.1, fun w hw => h.2 w (hx.trans hw)⟩
  | _ + 1, _, _, _, _, _, _, hx, h => fun w hw => h w (hx.trans hw)
theorem GX.any : ∀ {fuel : Nat} {listed : Array Bool} {a : Act} {lo hi : Nat} {W : World}, GX P ops Q fuel listed a lo hi W → wpAny P .any ops Q fuel listed a W
  | 0, _, _, _, _, _, h => ⟨h.1, h.2 _ (EX.refl _)⟩
  | _ + 1, _, _, _, _, W, h => ⟨(h W (EX.refl _)).1, fun i hi => wpOp_mono (fun _ _ ⟨_, _, _, _, _, h'⟩ => GX.any h') ((h W (EX.refl _)).2 i hi)⟩
/-- In every world that extends W operation o yields v, and at most extends it. -/
def QX (P : Program) (ops : Array Oper) (lo hi : Nat) (W : World) (o : Oper) (v : Value) (a : Act) : Prop :=
  (Region.wanted o (yielded ops a.tmps) = true ∧ ∀ w, EX lo hi W w → o.quietAt P a (Ext w) w v) ∨
  (Region.wanted o (yielded ops a.tmps) = false ∧ v = undef)
theorem QX.world {lo hi lo' hi' : Nat} {W W' : World} {o : Oper} {v : Value} {a : Act} (h1 : lo ≤ lo') (h2 : hi' ≤ hi) (hx : EX lo hi W W') (h : QX P ops lo hi W o v a) : QX P ops lo' hi' W' o v a :=
  h.imp (fun ⟨g1, g2⟩ => ⟨g1, fun w hw => g2 w (hx.trans (hw.mono h1 h2))⟩) id
theorem QX.of_same {lo hi : Nat} {W : World} {o : Oper} {v : Value} {a a' : Act} (hy : QX P ops lo hi W o v a) (he : execOp a'.eval o = execOp a.eval o)
    (hw : Region.wanted o (yielded ops a'.tmps) = Region.wanted o (yielded ops a.tmps)) : QX P ops lo hi W o v a' := by
  unfold QX Oper.quietAt at *
  rw [he, hw]
  exact hy
theorem QX.wpOp {lo hi : Nat} {W : World} {i : Nat} {o : Oper} {v : Value} {a : Act} (hi' : ops[i]? = some o) (hy : QX P ops lo hi W o v a) {K : Act → World → Prop} {w : World} (hw : EX lo hi W w) (h : ∀ w', Ext w w' → K (a.put o.dst v) w') : wpOp P ops Q i K a w := by
  unfold Go.wpOp
  simp only [hi']
  rcases hy with ⟨hwa, hv⟩ | ⟨hwa, rfl⟩
  · simp only [hwa, if_true]
    left
    have h3 := hv w hw
    unfold Oper.quietAt at h3
    unfold Oper.wp
    generalize (execOp a.eval o).run P w = r at *
    cases r with
    | ok n w' =>
      cases n <;> simp only [Oper.quietUpon] at h3 <;> simp only [Oper.upon]
      case value u =>
        obtain ⟨e1, e2⟩ := h3
        rw [e1, e2]
        exact h _ (Below.refl _ _)
      case skip =>
        obtain ⟨e1, e2⟩ := h3
        rw [e1, ← e2]
        exact h _ (Below.refl _ _)
      case enter f args =>
        obtain ⟨e1, hc⟩ := h3
        rw [e1]
        exact hc.mono fun e w'' ⟨he, hw''⟩ => by subst he; exact h _ hw''
    | halt x w' => simp only [Oper.quietUpon] at h3
  · simp only [hwa, Bool.false_eq_true, if_false]
    exact h w (Below.refl _ _)
theorem wpOp_putX {lo hi : Nat} {W : World} {j : Nat} {oi oj : Oper} {v : Value} (hj : ops[j]? = some oj) (hap : oi.apart ops oj = true)
    (hsi : ∀ cs b, oi.op ≠ .select cs b) (hsj : ∀ cs b, oj.op ≠ .select cs b)
    (hQ : ∀ c a w, Q (.panic c) (a.put oi.dst v) w → Q (.panic c) a w) {K : Act → World → Prop} {a : Act} {w : World}
    (hy : QX P ops lo hi W oi v a) (h : wpOp P ops Q j K (a.put oi.dst v) w) :
    wpOp P ops Q j (fun a' w' => QX P ops lo hi W oi v a' ∧ K (a'.put oi.dst v) w') a w := by
  obtain ⟨h1, h2, h3⟩ := Oper.apart_spec hap
  have keep : ∀ (a : Act), QX P ops lo hi W oi v a → ∀ u, QX P ops lo hi W oi v (a.put oj.dst u) := fun a hy u =>
    hy.of_same (execOp_put oi hsi a oj.dst u h3) (wanted_put oi a oj.dst u h3)
  have keepD : ∀ d, QX P ops lo hi W oi v { a with defers := d :: a.defers } := fun d => hy.of_same rfl rfl
  unfold wpOp at *
  simp only [hj] at *
  rw [wanted_put oj a oi.dst v h1] at h
  split
  · rename_i hw
    simp only [hw, if_true] at h
    rcases h with h | ⟨hasks, hlets⟩
    case inr => exact .inr ⟨by unfold Oper.asks at *; rw [execOp_put oj hsj a oi.dst v h1] at hasks; exact hasks, hlets⟩
    refine .inl ?_
    unfold Oper.wp at *
    rw [execOp_put oj hsj a oi.dst v h1] at h
    generalize (execOp a.eval oj).run P w = r at *
    cases r with
    | ok n w' =>
      cases n <;> simp only [Oper.upon] at h ⊢
      case value u => exact ⟨keep a hy u, by rw [← Act.put_comm a v u h2]; exact h⟩
      case skip => exact ⟨keep a hy _, by rw [← Act.put_comm a v undef h2]; exact h⟩
      case defer d =>
        refine ⟨keep _ (keepD d) _, ?_⟩
        rw [← Act.put_comm _ v undef h2, ← Act.put_defers]
        exact h
      case enter f args =>
        refine Calls.mono h fun e w'' he => ?_
        cases e with
        | returned u => exact ⟨keep a hy u, by rw [← Act.put_comm a v u h2]; exact he⟩
        | panicked c => exact hQ _ _ _ he
        | outgrown => exact he
      case row row args => exact Rows.mono h fun u w'' he => ⟨keep a hy u, by rw [← Act.put_comm a v u h2]; exact he⟩
    | halt x w' =>
      cases x <;> simp only [Oper.upon] at h ⊢
      case panic u => exact hQ _ _ _ h
  · rename_i hw
    simp only [hw] at h
    exact ⟨keep a hy _, by rw [← Act.put_comm a v undef h2]; exact h⟩
theorem GX_first {i : Nat} {oi : Oper} {v : Value} (hio : ops[i]? = some oi) (hsel : ∀ (j : Nat) (o : Oper) cs b, ops[j]? = some o → o.op ≠ .select cs b)
    (hQ : ∀ c a w, Q (.panic c) (a.put oi.dst v) w → Q (.panic c) a w) :
    ∀ (fuel : Nat) (listed : Array Bool) (a : Act) (lo hi : Nat) (W : World),
      (∀ j oj, ops[j]? = some oj → j ≠ i → listed.getD j true = false → (∀ e ∈ oj.after, Region.binds .any e = true → e.on ≠ i) → oi.apart ops oj = true) →
      i ∈ Region.ready .any ops listed → QX P ops lo hi W oi v a →
      GX P ops Q fuel (listed.setIfInBounds i true) (a.put oi.dst v) lo hi W → GX P ops Q (fuel + 1) listed a lo hi W := by
  intro fuel
  induction fuel with
  | zero =>
    intro listed a lo hi W _ hr hy H w hw
    refine ⟨fun h => (by rw [h] at hr; cases hr), fun j hj => ?_⟩
    by_cases hji : j = i
    · subst hji; exact hy.wpOp hio hw fun w' hw' => ⟨EX.of hw', lo, hi, Nat.le_refl _, Nat.le_refl _, H.world (hw.trans (EX.of hw'))⟩
    · have := ready_mono hj hji
      rw [H.1] at this
      cases this
  | succ fuel ih =>
    intro listed a lo hi W hfree hr hy H w hw
    refine ⟨fun h => (by rw [h] at hr; cases hr), fun j hj => ?_⟩
    by_cases hji : j = i
    · subst hji; exact hy.wpOp hio hw fun w' hw' => ⟨EX.of hw', lo, hi, Nat.le_refl _, Nat.le_refl _, H.world (hw.trans (EX.of hw'))⟩
    · have h1 := (H w hw).2 j (ready_mono hj hji)
      obtain ⟨hjun, oj, hoj, hall⟩ := mem_ready.1 hj
      have hnot : ∀ e ∈ oj.after, Region.binds .any e = true → e.on ≠ i := fun e he hb heq => by
        have h1 := hall e he hb
        have h0 := (mem_ready.1 hr).1
        rw [heq] at h1
        rcases Nat.lt_or_ge i listed.size with h' | h'
        · simp [h'] at h0 h1; rw [h0] at h1; cases h1
        · simp [Array.getElem?_eq_none h'] at h1
      have h2 := wpOp_putX hoj (hfree j oj hoj hji hjun hnot) (fun cs b => hsel i oi cs b hio) (fun cs b => hsel j oj cs b hoj) hQ (hy.world (Nat.le_refl _) (Nat.le_refl _) hw) h1
      have hfree' : ∀ k ok, ops[k]? = some ok → k ≠ i → (listed.setIfInBounds j true).getD k true = false →
          (∀ e ∈ ok.after, Region.binds .any e = true → e.on ≠ i) → oi.apart ops ok = true := fun k ok hk hki hun hno => by
        refine hfree k ok hk hki ?_ hno
        by_cases hjk : j = k
        · subst hjk; exact hjun
        · rw [getD_set_ne true hjk] at hun; exact hun
      refine wpOp_mono (fun a' w' ⟨h3, h4, lo', hi', h5, h6, h7⟩ => ⟨h4, lo', hi', h5, h6, ih (listed.setIfInBounds j true) a' lo' hi' w' hfree' (ready_mono hr (Ne.symm hji)) (h3.world h5 h6 h4) ?_⟩) h2
      rw [Array.setIfInBounds_comm _ _ hji]
      exact h7
/-- The walk in the order of the text. -/
def wpMiy (P : Program) (ops : Array Oper) (Q : Exit → Act → World → Prop) : List Oper → Nat → Array Bool → Act → Nat → Nat → World → Prop
  | [], _, _, a, lo, hi, W => ∀ w, EX lo hi W w → Q .normal a w
  | o :: rest, k, listed, a, lo, hi, W =>
    (∃ v, QX P ops lo hi W o v a ∧ wpMiy P ops Q rest (k + 1) (listed.setIfInBounds k true) (a.put o.dst v) lo hi W) ∨
    (Region.ready .any ops listed = [k] ∧ Region.wanted o (yielded ops a.tmps) = true ∧ ∀ w, EX lo hi W w → o.wp P a w (fun a' w' => EX lo hi w w' ∧ ∃ lo' hi', lo ≤ lo' ∧ hi' ≤ hi ∧ wpMiy P ops Q rest (k + 1) (listed.setIfInBounds k true) a' lo' hi' w') Q)
theorem miy_sound (hs : Region.noSelect ops = true) (hQ : ∀ c a d v w, Q (.panic c) (a.put d v) w → Q (.panic c) a w) : ∀ (l : List Oper) (k : Nat) (listed : Array Bool) (a : Act) (lo hi : Nat) (W : World), (∀ j, l[j]? = ops[k + j]?) →
    Region.lexFrom .any ops l.length k listed = true → wpMiy P ops Q l k listed a lo hi W → GX P ops Q l.length listed a lo hi W
  | [], _, _, _, _, _, _, _, hB, h => ⟨by simpa [Region.lexFrom] using hB, h⟩
  | o :: l, k, listed, a, lo, hi, W, hl, hB, h => by
    have h0 : ops[k]? = some o := by simpa using (hl 0).symm
    simp only [List.length_cons, Region.lexFrom, Bool.and_eq_true] at hB
    obtain ⟨⟨hr, hf⟩, hB'⟩ := hB
    have hl' : ∀ j, l[j]? = ops[k + 1 + j]? := fun j => by have := hl (j + 1); simpa [Nat.add_assoc, Nat.add_comm 1 j] using this
    rcases h with ⟨v, hy, hK⟩ | ⟨hone, hwa, hK⟩
    · exact GX_first h0 (Region.noSelect_spec hs) (fun c a w => hQ c a _ _ w) l.length listed a lo hi W (Region.free_spec h0 hf) (by simpa using hr) hy (miy_sound hs hQ l (k + 1) _ _ _ _ _ hl' hB' hK)
    · intro w hw
      refine ⟨fun h => by rw [hone] at h; simp at h, fun i hi' => ?_⟩
      rw [hone] at hi'
      obtain rfl : i = k := by simpa using hi'
      unfold wpOp
      simp only [h0, hwa, if_true]
      left
      exact Oper.wp_mono (fun a' w' ⟨h1, lo', hi', h2, h3, h4⟩ => ⟨h1, lo', hi', h2, h3, miy_sound hs hQ l (i + 1) _ _ _ _ _ hl' hB' h4⟩) (hK w hw)
theorem region_miy {id : Nat} {a : Act} {w : World} {l : List Oper} (lo hi : Nat) (hm : P.follows .mixedOrders = true) (hB : Region.lexB .any l.toArray = true) (hQ : ∀ c a d v w, Q (.panic c) (a.put d v) w → Q (.panic c) a w)
    (h : wpMiy P l.toArray Q l 0 (Array.replicate l.length false) a lo hi w) : (Code.region id l.toArray true).wp P Q a w := by
  simp only [Region.lexB, Bool.and_eq_true] at hB
  refine wp_region_any hm ?_
  have h2 := miy_sound hB.1 hQ l 0 (Array.replicate l.length false) a lo hi w (by simp) (by simpa using hB.2) h
  have h3 := (h2.world (EX.of ((Below.refl _ _).drew : Ext w w.drew))).any
  simpa using h3
section
variable {o : Oper} {rest : List Oper} {k lo hi : Nat} {listed : Array Bool} {a : Act} {W : World}
theorem miy_nil (h : ∀ w, EX lo hi W w → Q .normal a w) : wpMiy P ops Q [] k listed a lo hi W := h
theorem miy_skip (hw : Region.wanted o (yielded ops a.tmps) = false) (hn : wpMiy P ops Q rest (k + 1) (listed.setIfInBounds k true) (a.put o.dst undef) lo hi W) : wpMiy P ops Q (o :: rest) k listed a lo hi W :=
  .inl ⟨undef, .inr ⟨hw, rfl⟩, hn⟩
theorem miy_skip_t {j d : Nat} {v : Value} (hg : o.guard = some (j, true)) (hd : (ops[j]?).bind (·.dst) = some d) (hv : a.tmps.toList[d]? = some v) (hb : v = .bool false) (hn : wpMiy P ops Q rest (k + 1) (listed.setIfInBounds k true) (a.put o.dst undef) lo hi W) : wpMiy P ops Q (o :: rest) k listed a lo hi W :=
  miy_skip (by simp [Region.wanted, hg, yields_bool hd hv hb]) hn
theorem miy_skip_f {j d : Nat} {v : Value} (hg : o.guard = some (j, false)) (hd : (ops[j]?).bind (·.dst) = some d) (hv : a.tmps.toList[d]? = some v) (hb : v = .bool true) (hn : wpMiy P ops Q rest (k + 1) (listed.setIfInBounds k true) (a.put o.dst undef) lo hi W) : wpMiy P ops Q (o :: rest) k listed a lo hi W :=
  miy_skip (by simp [Region.wanted, hg, yields_bool hd hv hb]) hn
theorem miy_skip_u {j d : Nat} {v : Value} {b : Bool} (hg : o.guard = some (j, b)) (hd : (ops[j]?).bind (·.dst) = some d) (hv : a.tmps.toList[d]? = some v) (hb : v = undef) (hn : wpMiy P ops Q rest (k + 1) (listed.setIfInBounds k true) (a.put o.dst undef) lo hi W) : wpMiy P ops Q (o :: rest) k listed a lo hi W :=
  miy_skip (by simp [Region.wanted, hg, yields_undef hd hv hb]) hn
theorem miy_take {v : Value} (hw : Region.wanted o (yielded ops a.tmps) = true) (h : ∀ w, EX lo hi W w → ∀ R : Value → Prop, R v → qUp P w w R ((execOp a.eval o).run P w))
    (hn : wpMiy P ops Q rest (k + 1) (listed.setIfInBounds k true) (a.put o.dst v) lo hi W) : wpMiy P ops Q (o :: rest) k listed a lo hi W :=
  .inl ⟨v, .inl ⟨hw, fun w hw => qUp_quiet (h w hw)⟩, hn⟩
theorem miy_alone (hr : Region.ready .any ops listed = [k]) (hw : Region.wanted o (yielded ops a.tmps) = true)
    (h : ∀ w, EX lo hi W w → ∀ K : Act → World → Prop, (∀ a' w' lo' hi', lo ≤ lo' → hi' ≤ hi → EX lo hi w w' → wpMiy P ops Q rest (k + 1) (listed.setIfInBounds k true) a' lo' hi' w' → K a' w') → o.wp P a w K Q) : wpMiy P ops Q (o :: rest) k listed a lo hi W :=
  .inr ⟨hr, hw, fun w hw => h w hw _ fun _ _ lo' hi' g1 g2 h1 h2 => ⟨h1, lo', hi', g1, g2, h2⟩⟩
end
end
end Go.Proofs.Ytbeocackphfijaa
namespace Go.Proofs.Ytbeocackphfijaa
open Go Go.RowKit Go.Proofs
set_option maxRecDepth 100000
theorem or_szI (a l : Int) (h : rightB a l = true) (hl : l < 16) : bits .or .i64 a (msk (l + 1) + 1) = a + szI (l + 1) := by
  obtain ⟨g1, g2, g3, g4, g5⟩ := right_bd h
  obtain ⟨n, rfl⟩ := Int.eq_ofNat_of_zero_le g3
  have e1 : msk (l + 1) + 1 = ((2 ^ (16 - (l + 1)).toNat : Nat) : Int) := by simp [msk]
  have e2 : szI (l + 1) = ((2 ^ (16 - (l + 1)).toNat : Nat) : Int) := by simp [szI]
  obtain ⟨k, hk⟩ : ∃ k, k = (16 - (l + 1)).toNat := ⟨_, rfl⟩
  have e3 : (16 - l).toNat = k + 1 := by omega
  rw [e1, e2, ← hk]
  have hk15 : k ≤ 15 := by omega
  have hp : 2 ^ k ≤ 2 ^ 15 := Nat.pow_le_pow_right (by omega) hk15
  have g6 : n % 2 ^ (k + 1) = 0 := by
    unfold szI at g5
    rw [e3] at g5
    exact_mod_cast g5
  have hn : n = 2 ^ (k + 1) * (n / 2 ^ (k + 1)) := by have := Nat.div_add_mod n (2 ^ (k + 1)); omega
  have hor : n ||| 2 ^ k = n + 2 ^ k := by
    rw [hn]
    exact (Nat.two_pow_add_eq_or_of_lt (Nat.pow_lt_pow_right (by omega) (by omega)) _).symm
  show IntKind.i64.wrap ((BitVec.ofInt 64 (n : Int) ||| BitVec.ofInt 64 ((2 ^ k : Nat) : Int)).toNat : Int) = _
  rw [BitVec.toNat_or, ofInt_i64 n (by omega), ofInt_i64 _ (by omega), hor, IntKind.wrap_i64]
  omega
def zeroP : Value := .agg #[.int .i64 0, .int .i64 0]
def halvesV (a l : Int) : Value :=
  if chk a l = 0 then (if l = 16 then .tuple #[zeroP, zeroP, .int .i64 3] else .tuple #[.agg #[.int .i64 a, .int .i64 (l + 1)], .agg #[.int .i64 (a + szI (l + 1)), .int .i64 (l + 1)], .int .i64 0])
  else .tuple #[zeroP, zeroP, .int .i64 (chk a l)]
set_option maxHeartbeats 2000000 in
set_option maxRecDepth 100000 in
theorem halves_any (a l : Int) (w : World) :
    Calls Try.prog 111 #[.agg #[.int .i64 a, .int .i64 l]] w fun e w' => e = .returned (halvesV a l) ∧ Ext w w' := by
  have hc := check_any a l
  unfold halvesV zeroP
  by_cases h0 : chk a l = 0
  · have hR : rightB a l = true := by simp [rightB, h0]
    obtain ⟨g1, g2, g3, g4, g5⟩ := right_bd hR
    rw [if_pos h0]
    rw [h0] at hc
    replace hc := Lib.hid hc
    clear h0
    by_cases h16 : l = 16
    · rw [if_pos h16]
      have h16I : (l == 16) = true := by simp [h16]
      clear h16
      go_enter Try.func111, Try.ntmps111
      go_wp2_with fail
      refine (hc.out _).mono ?_
      rintro e w1 ⟨rfl, hw1⟩
      obtain ⟨hcw1, hfw1⟩ := bcell hw1
      have hzw1 := bsize hw1
      (try simp only [World.size_alloc, World.size_setCell, World.size_drew, World.heap_drewN] at hcw1 hfw1 hzw1)
      go_wp2_with fail
      refine bodyPost_ret ?_ rfl ⟨rfl, Bel.bel (B := _) ?_⟩
      · simp [results, Try.results111, go_sem, hcw1]
      · (repeat (first | with_reducible assumption | with_reducible exact Bel.refl _ | with_reducible refine Bel.alloc ?_ _ | with_reducible refine Bel.drewN ?_ _ | with_reducible refine Bel.drew ?_ | (with_reducible refine Bel.setCell0 ?_ ?_ _; rotate_left; (first | omega | (simp; done) | (simp; omega))) | (with_reducible refine Bel.setCell ?_ (p := _) ?_ _; rotate_left; (first | (simp; done) | omega | (simp; omega))) | refine Bel.call ?_ (by assumption) | (refine EX.bel ?_ (by assumption) ?_; rotate_left; (first | omega | (simp; omega)))))
    · rw [if_neg h16]
      have h16I : (l == 16) = false := by simp [h16]
      have hor := or_szI a l hR (by omega)
      obtain ⟨z1, z2⟩ := msk_bd (l + 1) (by omega)
      have hwr : IntKind.i64.wrap (msk (l + 1) + 1) = msk (l + 1) + 1 := IntWalk.i64_in _ (by omega)
      have hmk := fun W => mask_any (l + 1) W (by omega) (by omega)
      replace hmk := Lib.hid hmk
      clear h16
      go_enter Try.func111, Try.ntmps111
      go_wp2_with fail
      refine (hc.out _).mono ?_
      rintro e w1 ⟨rfl, hw1⟩
      obtain ⟨hcw1, hfw1⟩ := bcell hw1
      have hzw1 := bsize hw1
      (try simp only [World.size_alloc, World.size_setCell, World.size_drew, World.heap_drewN] at hcw1 hfw1 hzw1)
      have l1 : w.heap.size < w1.heap.size := by omega
      have l2 : w.heap.size + 1 < w1.heap.size := by omega
      have l3 : w.heap.size + 1 + 1 < w1.heap.size := by omega
      go_wp2_with fail
      refine region_miy (w.heap.size + 1) (w.heap.size + 3) (by kernel_rfl) (by kernel_rfl) (fun _ _ d _ _ h => by cases d <;> exact h) ?_
      repeat (first | ((first | refine miy_skip_t rfl rfl rfl (by with_reducible rfl) ?_ | refine miy_skip_f rfl rfl rfl (by with_reducible rfl) ?_ | refine miy_skip_u rfl rfl rfl (by with_reducible rfl) ?_); simp only [Act.put, List.setIfInBounds_toArray, List.set_cons_zero, List.set_cons_succ]) | (apply miy_take; (first | exact want_0 rfl | exact want_b rfl rfl rfl (by with_reducible rfl)); intro wq hwq R hR; ((have hcc := EX.lo hwq (by first | omega | (simp; omega) | (simp; done)); have hcd := EX.hi hwq; (try simp only [World.size_alloc, World.size_setCell, World.size_drew, World.heap_drewN] at hcc hcd)); go_simp; first | exact hR | ((go_at_call 74; exact mcall_same (hmk.out _) hR))); simp only [Act.put, List.setIfInBounds_toArray, List.set_cons_zero, List.set_cons_succ]))
      refine miy_alone (by kernel_rfl) (by first | exact want_0 rfl | exact want_b rfl rfl rfl (by with_reducible rfl)) (fun w2 hw2 K hK => ?_)
      have hzw2 := hw2.size
      have hlw2 := EX.lo hw2 (by first | omega | (simp; omega) | (simp; done))
      have hhw2 := EX.hi hw2
      have hfw2 := hw2.free
      (try simp only [World.size_alloc, World.size_setCell, World.size_drew, World.heap_drewN] at hzw2 hlw2 hhw2 hfw2)
      (try have l0w2 : w.heap.size < w2.heap.size := by omega)
      (try have l1w2 : w.heap.size + 1 < w2.heap.size := by omega)
      (try have l2w2 : w.heap.size + 1 + 1 < w2.heap.size := by omega)
      (try have l3w2 : w.heap.size + 1 + 1 + 1 < w2.heap.size := by omega)
      obtain ⟨u0w2, hu0w2⟩ := hw2.some (b := w.heap.size + 1) (o := 0) (v := _) (by go_simp; rfl)
      obtain ⟨u1w2, hu1w2⟩ := hw2.some (b := w.heap.size + 1) (o := 1) (v := _) (by go_simp; rfl)
      go_simp
      refine hK _ _ (w.heap.size + 2) (w.heap.size + 3) (by omega) (by omega) (by repeat (first | exact EX.refl _ | refine EX.setCell ?_ (by omega) (by omega) _)) ?_
      clear hK K
      obtain ⟨v0, hv0⟩ := hw2.some (b := w.heap.size + 1 + 1) (o := 0) (v := _) (by go_simp; rfl)
      obtain ⟨v1, hv1⟩ := hw2.some (b := w.heap.size + 1 + 1) (o := 1) (v := _) (by go_simp; rfl)
      refine miy_alone (by kernel_rfl) (by first | exact want_0 rfl | exact want_b rfl rfl rfl (by with_reducible rfl)) (fun w3 hw3 K hK => ?_)
      have hzw3 := hw3.size
      have hlw3 := EX.lo hw3 (by first | omega | (simp; omega) | (simp; done))
      have hhw3 := EX.hi hw3
      have hfw3 := hw3.free
      (try simp only [World.size_alloc, World.size_setCell, World.size_drew, World.heap_drewN] at hzw3 hlw3 hhw3 hfw3)
      (try have l0w3 : w.heap.size < w3.heap.size := by omega)
      (try have l1w3 : w.heap.size + 1 < w3.heap.size := by omega)
      (try have l2w3 : w.heap.size + 1 + 1 < w3.heap.size := by omega)
      (try have l3w3 : w.heap.size + 1 + 1 + 1 < w3.heap.size := by omega)
      obtain ⟨u0w3, hu0w3⟩ := hw3.some (b := w.heap.size + 1 + 1) (o := 0) (v := _) (by go_simp; rfl)
      obtain ⟨u1w3, hu1w3⟩ := hw3.some (b := w.heap.size + 1 + 1) (o := 1) (v := _) (by go_simp; rfl)
      go_simp
      refine hK _ _ (w.heap.size + 3) (w.heap.size + 3) (by omega) (by omega) (by repeat (first | exact EX.refl _ | refine EX.setCell ?_ (by omega) (by omega) _)) ?_
      clear hK K
      repeat (first | ((first | refine miy_skip_t rfl rfl rfl (by with_reducible rfl) ?_ | refine miy_skip_f rfl rfl rfl (by with_reducible rfl) ?_ | refine miy_skip_u rfl rfl rfl (by with_reducible rfl) ?_); simp only [Act.put, List.setIfInBounds_toArray, List.set_cons_zero, List.set_cons_succ]) | (apply miy_take; (first | exact want_0 rfl | exact want_b rfl rfl rfl (by with_reducible rfl)); intro wq hwq R hR; ((have hcc := EX.lo hwq (by first | omega | (simp; omega) | (simp; done)); have hcd := EX.hi hwq; (try simp only [World.size_alloc, World.size_setCell, World.size_drew, World.heap_drewN] at hcc hcd)); go_simp; first | exact hR | (fail)); simp only [Act.put, List.setIfInBounds_toArray, List.set_cons_zero, List.set_cons_succ]))
      refine miy_nil ?_
      intro w4 hw4
      have hzw4 := hw4.size
      have hlw4 := EX.lo hw4 (by first | omega | (simp; omega) | (simp; done))
      have hhw4 := EX.hi hw4
      have hfw4 := hw4.free
      (try simp only [World.size_alloc, World.size_setCell, World.size_drew, World.heap_drewN] at hzw4 hlw4 hhw4 hfw4)
      (try have l0w4 : w.heap.size < w4.heap.size := by omega)
      (try have l1w4 : w.heap.size + 1 < w4.heap.size := by omega)
      (try have l2w4 : w.heap.size + 1 + 1 < w4.heap.size := by omega)
      (try have l3w4 : w.heap.size + 1 + 1 + 1 < w4.heap.size := by omega)
      go_wp2_with fail
      refine bodyPost_ret ?_ rfl ⟨rfl, Bel.bel (B := _) ?_⟩
      · simp [results, Try.results111, go_sem, hlw4, hlw3, hu0w2, hu1w2, hu0w3, hu1w3]
      · (repeat (first | with_reducible assumption | with_reducible exact Bel.refl _ | with_reducible refine Bel.alloc ?_ _ | with_reducible refine Bel.drewN ?_ _ | with_reducible refine Bel.drew ?_ | (with_reducible refine Bel.setCell0 ?_ ?_ _; rotate_left; (first | omega | (simp; done) | (simp; omega))) | (with_reducible refine Bel.setCell ?_ (p := _) ?_ _; rotate_left; (first | (simp; done) | omega | (simp; omega))) | refine Bel.call ?_ (by assumption) | (refine EX.bel ?_ (by assumption) ?_; rotate_left; (first | omega | (simp; omega)))))
  · rw [if_neg h0]
    replace h0 : (chk a l != 0) = true := by simpa using h0
    obtain ⟨r, hr⟩ : ∃ r, r = chk a l := ⟨_, rfl⟩
    rw [← hr] at hc h0 ⊢
    clear hr
    replace hc := Lib.hid hc
    go_enter Try.func111, Try.ntmps111
    go_wp2_with fail
    refine (hc.out _).mono ?_
    rintro e w1 ⟨rfl, hw1⟩
    obtain ⟨hcw1, hfw1⟩ := bcell hw1
    have hzw1 := bsize hw1
    (try simp only [World.size_alloc, World.size_setCell, World.size_drew, World.heap_drewN] at hcw1 hfw1 hzw1)
    go_wp2_with fail
    refine bodyPost_ret ?_ rfl ⟨rfl, Bel.bel (B := _) ?_⟩
    · simp [results, Try.results111, go_sem, hcw1]
    · (repeat (first | with_reducible assumption | with_reducible exact Bel.refl _ | with_reducible refine Bel.alloc ?_ _ | with_reducible refine Bel.drewN ?_ _ | with_reducible refine Bel.drew ?_ | (with_reducible refine Bel.setCell0 ?_ ?_ _; rotate_left; (first | omega | (simp; done) | (simp; omega))) | (with_reducible refine Bel.setCell ?_ (p := _) ?_ _; rotate_left; (first | (simp; done) | omega | (simp; omega))) | refine Bel.call ?_ (by assumption) | (refine EX.bel ?_ (by assumption) ?_; rotate_left; (first | omega | (simp; omega)))))
end Go.Proofs.Ytbeocackphfijaa
namespace Go.Proofs.Ytbeocackphfijaa
open Go Go.RowKit
theorem check_p (p : Pfx) : PSpec Try.prog 34 [.agg (encP p)] (.v (.int .i64 (chk p.at_ p.len))) := pspec_flat (fnok_of Try.func34 (by kernel_rfl) rfl) (by intro d hd; simp at hd; (repeat (first | (obtain rfl := hd; rfl) | (rcases hd with rfl | hd; · rfl)))) rfl rfl (fun w => check_any _ _ _)
theorem inside_p (p q : Pfx) : PSpec Try.prog 27 [.agg (encP p), .agg (encP q)] (.v (.bool (insP p.at_ p.len q.at_ q.len))) := pspec_flat (fnok_of Try.func27 (by kernel_rfl) rfl) (by intro d hd; simp at hd; (repeat (first | (obtain rfl := hd; rfl) | (rcases hd with rfl | hd; · rfl)))) rfl rfl (fun w => inside_any _ _ _ _ _)
theorem meets_p (p q : Pfx) : PSpec Try.prog 26 [.agg (encP p), .agg (encP q)] (.v (.bool (meetP p.at_ p.len q.at_ q.len))) := pspec_flat (fnok_of Try.func26 (by kernel_rfl) rfl) (by intro d hd; simp at hd; (repeat (first | (obtain rfl := hd; rfl) | (rcases hd with rfl | hd; · rfl)))) rfl rfl (fun w => meets_any _ _ _ _ _)
end Go.Proofs.Ytbeocackphfijaa
namespace Go.Proofs.Ytbeocackphfijaa
open Go Go.RowKit Go.Proofs
section
variable {w : World} {b o : Nat} {c0 c1 c2 c3 c4 c5 c6 c7 c8 : Value}
theorem cellsAt_2 (h : cellsAt w b o [c0, c1]) : w.cell? ⟨b, o, none⟩ = some c0 ∧ w.cell? ⟨b, o + 1, none⟩ = some c1 := ⟨h 0 (by simp), h 1 (by simp)⟩
end
theorem cellsAt_ext {w w' : World} {b o : Nat} {cs : List Value} (hx : Ext w w') (h : cellsAt w b o cs) : cellsAt w' b o cs := fun j hj => keepCell hx (h j hj)
theorem Sl.ext {α : Type} {A : Area} {w w' : World} {k : Nat} {R : List Value → α → Prop} {ao : Option Addr} {cap : Nat} {l : List α} (h : Sl A w k R ao cap l) (hx : Ext w w') : Sl A w' k R ao cap l := by
  refine ⟨h.cap_le, h.cap_max, fun i hi => ?_⟩
  obtain ⟨b, off, cs, h1, h2, h3, h4, h5⟩ := h.elem i hi
  exact ⟨b, off, cs, h1, h2, h3, h4, cellsAt_ext hx h5⟩
theorem Sl.nil {α : Type} {A : Area} {w : World} {k : Nat} {R : List Value → α → Prop} {ao : Option Addr} {cap : Nat} (h : cap ≤ 9223372036854775807) : Sl A w k R ao cap ([] : List α) :=
  ⟨Nat.zero_le _, h, fun i hi => by simp at hi⟩
theorem Sl.take {α : Type} {A : Area} {w : World} {k : Nat} {R : List Value → α → Prop} {ao : Option Addr} {cap : Nat} {l : List α} (h : Sl A w k R ao cap l) (n : Nat) : Sl A w k R ao cap (l.take n) := by
  refine ⟨Nat.le_trans (List.length_take_le' n l) h.cap_le, h.cap_max, fun i hi => ?_⟩
  have hi' : i < l.length := by rw [List.length_take] at hi; omega
  obtain ⟨b, off, cs, h1, h2, h3, h4, h5⟩ := h.elem i hi'
  exact ⟨b, off, cs, h1, h2, h3, by rw [List.getElem_take]; exact h4, h5⟩
theorem Sl.mono {α : Type} {A : Area} {w : World} {k : Nat} {R R' : List Value → α → Prop} {ao : Option Addr} {cap : Nat} {l : List α} (h : Sl A w k R ao cap l) (hR : ∀ cs x, x ∈ l → R cs x → R' cs x) : Sl A w k R' ao cap l := by
  refine ⟨h.cap_le, h.cap_max, fun i hi => ?_⟩
  obtain ⟨b, off, cs, h1, h2, h3, h4, h5⟩ := h.elem i hi
  exact ⟨b, off, cs, h1, h2, h3, hR _ _ (List.getElem_mem hi) h4, h5⟩
/-- The first index of which p holds; -1: none. -/
def idxOf {α : Type} (p : α → Bool) (l : List α) : Int := match l.findIdx? p with | some i => (i : Int) | none => -1
theorem idx_hit {α : Type} {p : α → Bool} {l : List α} {k : Nat} (hk : k < l.length) (hp : p l[k] = true) (hn : ∀ j (h : j < k), p (l[j]'(by omega)) = false) : idxOf p l = k := by
  have : l.findIdx? p = some k := by
    rw [List.findIdx?_eq_some_iff_getElem]
    exact ⟨hk, hp, fun j hj => by simp [hn j hj]⟩
  unfold idxOf; rw [this]
theorem idx_none {α : Type} {p : α → Bool} {l : List α} (hn : ∀ j (h : j < l.length), p l[j] = false) : idxOf p l = -1 := by
  have : l.findIdx? p = none := by
    rw [List.findIdx?_eq_none_iff]
    intro x hx
    obtain ⟨j, hj, rfl⟩ := List.mem_iff_getElem.1 hx
    exact hn j hj
  unfold idxOf; rw [this]
theorem idx_any {α : Type} (p : α → Bool) (l : List α) : decide (idxOf p l ≥ 0) = l.any p := by
  unfold idxOf
  cases h : l.findIdx? p with
  | none =>
    rw [List.findIdx?_eq_none_iff] at h
    have : l.any p = false := by rw [List.any_eq_false]; intro x hx; simp [h x hx]
    rw [this]; rfl
  | some i =>
    rw [List.findIdx?_eq_some_iff_getElem] at h
    obtain ⟨hi, hp, _⟩ := h
    have : l.any p = true := by rw [List.any_eq_true]; exact ⟨l[i], List.getElem_mem hi, hp⟩
    rw [this]; simp
/-- What is asked of a function value that answers a bool. -/
def PredP {α : Type} (P : Program) (g : Nat) (lb : Array Value) (R : List Value → α → Prop) (p : α → Bool) (l : List α) (w : World) : Prop :=
  ∀ W, Ext w W → ∀ x ∈ l, ∀ cs, R cs x → Calls P g (#[.agg cs.toArray] ++ lb) W fun e w' => e = .returned (.bool (p x)) ∧ Ext W w'
end Go.Proofs.Ytbeocackphfijaa
namespace Go.Proofs.Ytbeocackphfijaa
open Go Go.RowKit Go.Proofs
set_option maxHeartbeats 1000000 in
theorem indexFunc_P {α : Type} {A : Area} {R : List Value → α → Prop} (g : Nat) (lb : Array Value) (eg : ∀ args w, (callFunc g args).run Try.prog w = .ok (.enter g args) w) (p : α → Bool) (l : List α) (ao : Option Addr) (cap : Nat) (w : World) (h : Sl A w 2 R ao cap l) (hp : PredP Try.prog g lb R p l w) :
    Calls Try.prog 91 #[.slice ao l.length cap, .func (.func g) #[] lb] w fun e w' => e = .returned (.int .i64 (idxOf p l)) ∧ Ext w w' := by
  have hcl := h.cap_le
  have hcm := h.cap_max
  obtain ⟨r, hr⟩ : ∃ r, r = idxOf p l := ⟨_, rfl⟩
  rw [← hr]
  replace hr := Lib.hid hr
  replace hp := Lib.hid hp
  go_enter Try.func91, Try.ntmps91
  go_wp2_with fail
  go_loopw [5, 8] (fun _ s8 wr => ∃ k : Nat, k ≤ l.length ∧ s8 = .int .i64 k ∧ Hid (∀ j (h : j < k) (h' : j < l.length), p l[j] = false) ∧ Ext w wr) (fun _ s8 _ => l.length - (intOf s8).toNat)
  case atStart => exact ⟨0, Nat.zero_le _, rfl, Lib.hid (fun j hj => absurd hj (Nat.not_lt_zero _)), Below.refl _ w⟩
  case round =>
    obtain ⟨k, hk, rfl, hall, hx⟩ := hrel
    by_cases hlt : k < l.length
    · have hltI : (k : Int) < (l.length : Int) := by omega
      obtain ⟨b, off, cs, rfl, -, hlen, hR, hcs⟩ := h.elem k hlt
      have hcall := hp.out wr hx l[k] (List.getElem_mem hlt) cs hR
      replace hcs := cellsAt_ext hx hcs
      obtain ⟨q, hq⟩ : ∃ q, q = p l[k] := ⟨_, rfl⟩
      rw [← hq] at hcall
      replace hq := Lib.hid hq
      clear h hR
      match cs, hlen with
      | [v0, v1], _ =>
        obtain ⟨k0, k1⟩ := cellsAt_2 hcs
        clear hcs
        replace hcall := Lib.hid hcall
        cases q
        case true =>
          go_wp2_with fail
          refine hcall.out.mono ?_
          rintro e w1 ⟨rfl, hx1⟩
          go_wp2_with fail
          go_ret
          exact ⟨ret_int (by rw [hr.out]; exact (idx_hit hlt hq.out.symm fun j hj => hall.out j hj (by omega)).symm), ext_trans hx hx1⟩
        case false =>
          go_wp2_with fail
          refine hcall.out.mono ?_
          rintro e w1 ⟨rfl, hx1⟩
          go_wp2_with fail
          go_roundw
          case rel => exact ⟨k + 1, by omega, by go_num, Lib.hid (fun j hj hj' => by
            rcases Nat.lt_or_eq_of_le (Nat.le_of_lt_succ hj) with h1 | h1
            · exact hall.out j h1 hj'
            · subst h1; exact hq.out.symm), ext_trans hx hx1⟩
          case measure => simp [intOf]; omega
    · have hltI : ¬ (k : Int) < (l.length : Int) := by omega
      obtain rfl : k = l.length := by omega
      go_wp2_with fail
      go_ret
      exact ⟨ret_int (by rw [hr.out]; exact (idx_none fun j hj => hall.out j hj hj).symm), hx⟩
theorem containsFunc_P {α : Type} {A : Area} {R : List Value → α → Prop} (g : Nat) (lb : Array Value) (eg : ∀ args w, (callFunc g args).run Try.prog w = .ok (.enter g args) w) (p : α → Bool) (l : List α) (ao : Option Addr) (cap : Nat) (w : World) (h : Sl A w 2 R ao cap l) (hp : PredP Try.prog g lb R p l w) :
    Calls Try.prog 56 #[.slice ao l.length cap, .func (.func g) #[] lb] w fun e w' => e = .returned (.bool (l.any p)) ∧ Ext w w' := by
  have hc := indexFunc_P g lb eg p l ao cap w h hp
  have ha := idx_any p l
  obtain ⟨r, hr⟩ : ∃ r, r = idxOf p l := ⟨_, rfl⟩
  rw [← hr] at hc ha
  rw [← ha]
  clear hr ha h hp
  replace hc := Lib.hid hc
  go_enter Try.func56, Try.ntmps56
  go_wp2_with fail
  refine hc.out.mono ?_
  rintro e w1 ⟨rfl, hx1⟩
  go_wp2_with fail
  go_ret
  exact ⟨rfl, hx1⟩
end Go.Proofs.Ytbeocackphfijaa
namespace Go.Proofs.Ytbeocackphfijaa
open Go Go.RowKit Go.Proofs
set_option maxRecDepth 100000
set_option maxHeartbeats 1000000 in
theorem index_P {A : Area} (v : Pfx) (l : List Pfx) (ao : Option Addr) (cap : Nat) (w : World) (h : Sl A w 2 Pfx.R ao cap l) :
    Calls Try.prog 115 #[.slice ao l.length cap, .agg #[.int .i64 v.at_, .int .i64 v.len]] w fun e w' => e = .returned (.int .i64 (idxOf (fun x => decide (v = x)) l)) ∧ Ext w w' := by
  have hcl := h.cap_le
  have hcm := h.cap_max
  obtain ⟨r, hr⟩ : ∃ r, r = idxOf (fun x => decide (v = x)) l := ⟨_, rfl⟩
  rw [← hr]
  replace hr := Lib.hid hr
  go_enter Try.func115, Try.ntmps115
  go_wp2_with fail
  go_loopw [5, 8] (fun _ s8 wr => ∃ k : Nat, k ≤ l.length ∧ s8 = .int .i64 k ∧ Hid (∀ j (h : j < k) (h' : j < l.length), decide (v = l[j]) = false) ∧ Ext (w.alloc (.cells #[.int .i64 v.at_, .int .i64 v.len] 26)) wr) (fun _ s8 _ => l.length - (intOf s8).toNat)
  case atStart => exact ⟨0, Nat.zero_le _, rfl, Lib.hid (fun j hj => absurd hj (Nat.not_lt_zero _)), Below.refl _ _⟩
  case round =>
    obtain ⟨k, hk, rfl, hall, hx⟩ := hrel
    by_cases hlt : k < l.length
    · have hltI : (k : Int) < (l.length : Int) := by omega
      obtain ⟨b, off, cs, rfl, -, hlen, hR, hcs⟩ := h.elem k hlt
      replace hcs := cellsAt_ext hx (cellsAt_ext (ext_alloc _ _) hcs)
      unfold Pfx.R at hR
      subst hR
      obtain ⟨k0, k1⟩ := cellsAt_2 hcs
      have p0 : wr.cell? ⟨w.heap.size, 0, none⟩ = some (.int .i64 v.at_) := keepCell hx (by simp)
      have p1 : wr.cell? ⟨w.heap.size, 1, none⟩ = some (.int .i64 v.len) := keepCell hx (by simp)
      have lb := lt_of_cell k0
      have lp := lt_of_cell p0
      obtain ⟨y, hy⟩ : ∃ y, y = l[k] := ⟨_, rfl⟩
      rw [← hy] at k0 k1
      replace hy := Lib.hid hy
      clear hcs h
      by_cases e0 : v.at_ = y.at_
      · by_cases e1 : v.len = y.len
        · have he : decide (v = y) = true := by simp; cases v; cases y; simp_all
          replace he := Lib.hid he
          go_wp2_with fail
          refine region_mix (by kernel_rfl) (by kernel_rfl) (fun _ _ d _ _ h => by cases d <;> exact h) ?_
          repeat (first | ((first | refine mix_skip_t rfl rfl rfl (by with_reducible rfl) ?_ | refine mix_skip_f rfl rfl rfl (by with_reducible rfl) ?_ | refine mix_skip_u rfl rfl rfl (by with_reducible rfl) ?_); simp only [Act.put, List.setIfInBounds_toArray, List.set_cons_zero, List.set_cons_succ]) | (apply mix_take; (first | exact want_0 rfl | exact want_b rfl rfl rfl (by with_reducible rfl)); intro wq hwq R hR; ((have hcc := (bcell hwq).1; (try simp only [World.size_alloc, World.size_setCell, World.size_drew, World.heap_drewN] at hcc)); go_simp; first | exact hR | (fail)); simp only [Act.put, List.setIfInBounds_toArray, List.set_cons_zero, List.set_cons_succ]))
          refine mix_nil ?_
          intro w2 hw2
          obtain ⟨hcw2, hfw2⟩ := bcell hw2
          have hzw2 := bsize hw2
          (try simp only [World.size_alloc, World.size_setCell, World.size_drew, World.heap_drewN] at hcw2 hfw2 hzw2)
          go_wp2_with fail
          go_ret
          exact ⟨ret_int (by rw [hr.out]; exact (idx_hit hlt (by rw [← hy.out]; exact he.out) fun j hj => hall.out j hj (by omega)).symm), ext_trans (ext_alloc _ _) (ext_trans hx hw2)⟩
        · have he : decide (v = y) = false := by simp; intro h; exact e1 (by rw [h])
          replace he := Lib.hid he
          go_wp2_with fail
          refine region_mix (by kernel_rfl) (by kernel_rfl) (fun _ _ d _ _ h => by cases d <;> exact h) ?_
          repeat (first | ((first | refine mix_skip_t rfl rfl rfl (by with_reducible rfl) ?_ | refine mix_skip_f rfl rfl rfl (by with_reducible rfl) ?_ | refine mix_skip_u rfl rfl rfl (by with_reducible rfl) ?_); simp only [Act.put, List.setIfInBounds_toArray, List.set_cons_zero, List.set_cons_succ]) | (apply mix_take; (first | exact want_0 rfl | exact want_b rfl rfl rfl (by with_reducible rfl)); intro wq hwq R hR; ((have hcc := (bcell hwq).1; (try simp only [World.size_alloc, World.size_setCell, World.size_drew, World.heap_drewN] at hcc)); go_simp; first | exact hR | (fail)); simp only [Act.put, List.setIfInBounds_toArray, List.set_cons_zero, List.set_cons_succ]))
          refine mix_nil ?_
          intro w2 hw2
          obtain ⟨hcw2, hfw2⟩ := bcell hw2
          have hzw2 := bsize hw2
          (try simp only [World.size_alloc, World.size_setCell, World.size_drew, World.heap_drewN] at hcw2 hfw2 hzw2)
          go_wp2_with fail
          go_roundw
          case rel => exact ⟨k + 1, by omega, by go_num, Lib.hid (fun j hj hj' => by
            rcases Nat.lt_or_eq_of_le (Nat.le_of_lt_succ hj) with h1 | h1
            · exact hall.out j h1 hj'
            · subst h1; rw [← hy.out]; exact he.out), ext_trans hx hw2⟩
          case measure => simp [intOf]; omega
      · have he : decide (v = y) = false := by simp; intro h; exact e0 (by rw [h])
        replace he := Lib.hid he
        go_wp2_with fail
        refine region_mix (by kernel_rfl) (by kernel_rfl) (fun _ _ d _ _ h => by cases d <;> exact h) ?_
        repeat (first | ((first | refine mix_skip_t rfl rfl rfl (by with_reducible rfl) ?_ | refine mix_skip_f rfl rfl rfl (by with_reducible rfl) ?_ | refine mix_skip_u rfl rfl rfl (by with_reducible rfl) ?_); simp only [Act.put, List.setIfInBounds_toArray, List.set_cons_zero, List.set_cons_succ]) | (apply mix_take; (first | exact want_0 rfl | exact want_b rfl rfl rfl (by with_reducible rfl)); intro wq hwq R hR; ((have hcc := (bcell hwq).1; (try simp only [World.size_alloc, World.size_setCell, World.size_drew, World.heap_drewN] at hcc)); go_simp; first | exact hR | (fail)); simp only [Act.put, List.setIfInBounds_toArray, List.set_cons_zero, List.set_cons_succ]))
        refine mix_nil ?_
        intro w2 hw2
        obtain ⟨hcw2, hfw2⟩ := bcell hw2
        have hzw2 := bsize hw2
        (try simp only [World.size_alloc, World.size_setCell, World.size_drew, World.heap_drewN] at hcw2 hfw2 hzw2)
        go_wp2_with fail
        go_roundw
        case rel => exact ⟨k + 1, by omega, by go_num, Lib.hid (fun j hj hj' => by
          rcases Nat.lt_or_eq_of_le (Nat.le_of_lt_succ hj) with h1 | h1
          · exact hall.out j h1 hj'
          · subst h1; rw [← hy.out]; exact he.out), ext_trans hx hw2⟩
        case measure => simp [intOf]; omega
    · have hltI : ¬ (k : Int) < (l.length : Int) := by omega
      obtain rfl : k = l.length := by omega
      go_wp2_with fail
      go_ret
      exact ⟨ret_int (by rw [hr.out]; exact (idx_none fun j hj => hall.out j hj hj).symm), ext_trans (ext_alloc _ _) hx⟩
theorem contains_P {A : Area} (v : Pfx) (l : List Pfx) (ao : Option Addr) (cap : Nat) (w : World) (h : Sl A w 2 Pfx.R ao cap l) :
    Calls Try.prog 112 #[.slice ao l.length cap, .agg #[.int .i64 v.at_, .int .i64 v.len]] w fun e w' => e = .returned (.bool (l.contains v)) ∧ Ext w w' := by
  have hc := fun W (h : Sl A W 2 Pfx.R ao cap l) => index_P v l ao cap W h
  have ha := idx_any (fun x => decide (v = x)) l
  have hb : l.contains v = l.any (fun x => decide (v = x)) := by
    rw [Bool.eq_iff_iff]; simp
  rw [← hb] at ha
  obtain ⟨r, hr⟩ : ∃ r, r = idxOf (fun x => decide (v = x)) l := ⟨_, rfl⟩
  rw [← hr] at ha
  simp only [← hr] at hc
  rw [← ha]
  clear hr ha hb
  replace hc := Lib.hid hc
  go_enter Try.func112, Try.ntmps112
  go_wp2_with fail
  refine (hc.out _ (h.ext (ext_alloc _ _))).mono ?_
  rintro e w1 ⟨rfl, hx1⟩
  go_wp2_with fail
  go_ret
  exact ⟨rfl, ext_trans (ext_alloc _ _) hx1⟩
end Go.Proofs.Ytbeocackphfijaa
namespace Go.Proofs.Ytbeocackphfijaa
open Go Go.RowKit Go.Proofs
set_option maxRecDepth 100000
def Pfx.meets (p q : Pfx) : Bool := meetP p.at_ p.len q.at_ q.len
theorem meets1_any (b : Nat) (p q : Pfx) (w : World) (h0 : w.cell? ⟨b, 0, none⟩ = some (.int .i64 p.at_)) (h1 : w.cell? ⟨b, 1, none⟩ = some (.int .i64 p.len)) :
    Calls Try.prog 114 #[.agg #[.int .i64 q.at_, .int .i64 q.len], .pointer (some ⟨b, 0, none⟩)] w fun e w' => e = .returned (.bool (p.meets q)) ∧ Ext w w' := by
  have hlt := lt_of_cell h0
  have hm := meets_any p.at_ p.len q.at_ q.len
  obtain ⟨r, hr⟩ : ∃ r, r = p.meets q := ⟨_, rfl⟩
  unfold Pfx.meets at hr
  rw [← hr] at hm
  unfold Pfx.meets
  rw [← hr]
  clear hr
  replace hm := Lib.hid hm
  go_enter Try.func114, Try.ntmps114
  go_wp2_with fail
  refine (hm.out _).mono ?_
  rintro e w1 ⟨rfl, hw1⟩
  obtain ⟨hcw1, hfw1⟩ := bcell hw1
  have hzw1 := bsize hw1
  (try simp only [World.size_alloc, World.size_setCell, World.size_drew, World.heap_drewN] at hcw1 hfw1 hzw1)
  go_wp2_with fail
  go_ret
  refine ⟨rfl, Bel.bel (B := _) ?_⟩
  (repeat (first | with_reducible assumption | with_reducible exact Bel.refl _ | with_reducible refine Bel.alloc ?_ _ | with_reducible refine Bel.drewN ?_ _ | with_reducible refine Bel.drew ?_ | (with_reducible refine Bel.setCell0 ?_ ?_ _; rotate_left; (first | omega | (simp; done) | (simp; omega))) | (with_reducible refine Bel.setCell ?_ (p := _) ?_ _; rotate_left; (first | (simp; done) | omega | (simp; omega))) | refine Bel.call ?_ (by assumption) | (refine EX.bel ?_ (by assumption) ?_; rotate_left; (first | omega | (simp; omega)))))
theorem pred_meets (b : Nat) (p : Pfx) (us : List Pfx) (w : World) (h0 : w.cell? ⟨b, 0, none⟩ = some (.int .i64 p.at_)) (h1 : w.cell? ⟨b, 1, none⟩ = some (.int .i64 p.len)) :
    PredP Try.prog 114 #[.pointer (some ⟨b, 0, none⟩)] Pfx.R (fun q => p.meets q) us w := by
  intro W hW x _ cs hR
  unfold Pfx.R at hR
  subst hR
  exact meets1_any b p x W (keepCell hW h0) (keepCell hW h1)
theorem spaceMeets_any {A : Area} (us : List Pfx) (uo : Option Addr) (ucap : Nat) (p : Pfx) (w : World) (h : Sl A w 2 Pfx.R uo ucap us) :
    Calls Try.prog 110 #[.slice uo us.length ucap, .agg #[.int .i64 p.at_, .int .i64 p.len]] w fun e w' => e = .returned (.bool (us.any fun q => p.meets q)) ∧ Ext w w' := by
  have hc := fun W (hs : Sl A W 2 Pfx.R uo ucap us) h0 h1 => containsFunc_P 114 #[.pointer (some ⟨w.heap.size, 0, none⟩)] (enters_of Try.func114 (by kernel_rfl) rfl) (fun q => p.meets q) us uo ucap W hs (pred_meets w.heap.size p us W h0 h1)
  obtain ⟨r, hr⟩ : ∃ r, r = us.any fun q => p.meets q := ⟨_, rfl⟩
  rw [← hr] at hc ⊢
  clear hr
  replace hc := Lib.hid hc
  go_enter Try.func110, Try.ntmps110
  go_wp2_with fail
  refine (hc.out _ (h.ext (ext_alloc _ _)) (by simp) (by simp)).mono ?_
  rintro e w1 ⟨rfl, hx1⟩
  go_wp2_with fail
  go_ret
  exact ⟨rfl, ext_trans (ext_alloc _ _) hx1⟩
end Go.Proofs.Ytbeocackphfijaa
namespace Go.Proofs.Ytbeocackphfijaa
open Go Go.RowKit Go.Proofs Go.Shelf
set_option maxRecDepth 100000
attribute [local go_sem] Oper.semAt_some
def Pfx.low (p : Pfx) : Pfx := ⟨p.at_, p.len + 1⟩
def Pfx.high (p : Pfx) : Pfx := ⟨p.at_ + szI (p.len + 1), p.len + 1⟩
def Pfx.right (p : Pfx) : Bool := rightB p.at_ p.len
def Pfx.v (p : Pfx) : Value := .agg #[.int .i64 p.at_, .int .i64 p.len]
def holesF (us : List Pfx) : Nat → Pfx → List Pfx
  | 0, p => if us.any p.meets then [] else [p]
  | n + 1, p => if us.any p.meets then (if us.contains p then [] else holesF us n p.low ++ holesF us n p.high) else [p]
theorem right_of {a l : Int} (h0 : 0 ≤ l) (h1 : l ≤ 16) (h2 : 0 ≤ a) (h3 : a ≤ 65535) (h4 : a % szI l = 0) : rightB a l = true := by
  unfold rightB; rw [chk_in h0 h1 h2 h3]; unfold szI at h4; simp [h4]
theorem szI_half {l : Int} (h0 : 0 ≤ l) (h1 : l < 16) : szI l = 2 * szI (l + 1) := by
  unfold szI
  have : (16 - l).toNat = (16 - (l + 1)).toNat + 1 := by omega
  rw [this, Int.pow_succ]
  omega
theorem szI_dvd {l m : Int} (h0 : 0 ≤ m) (h1 : m ≤ l) (h2 : l ≤ 16) : ∃ k : Int, szI m = szI l * k ∧ 1 ≤ k := by
  refine ⟨2 ^ (l - m).toNat, ?_, ?_⟩
  · unfold szI
    rw [← Int.pow_add]
    congr 1
    omega
  · have h3 := Nat.one_le_two_pow (n := (l - m).toNat)
    have h4 : ((2 ^ (l - m).toNat : Nat) : Int) = (2 : Int) ^ (l - m).toNat := by simp
    omega
theorem right_fit {a l : Int} (h : rightB a l = true) : a + szI l ≤ 65536 := by
  obtain ⟨g1, g2, g3, g4, g5⟩ := right_bd h
  obtain ⟨k, hk, hk1⟩ := szI_dvd (Int.le_refl 0) g1 g2
  have h0 : szI 0 = 65536 := by decide
  rw [h0] at hk
  have hs := szI_bd g1
  have hd : szI l ∣ 65536 - a := by
    refine Int.dvd_sub ⟨k, hk⟩ (Int.dvd_of_emod_eq_zero g5)
  have := Int.le_of_dvd (by omega) hd
  omega
theorem low_right {p : Pfx} (h : p.right = true) (hl : p.len < 16) : p.low.right = true := by
  obtain ⟨g1, g2, g3, g4, g5⟩ := right_bd h
  refine right_of (by simp [Pfx.low]; omega) (by simp [Pfx.low]; omega) g3 g4 ?_
  show p.at_ % szI (p.len + 1) = 0
  rw [szI_half g1 hl] at g5
  exact Int.emod_eq_zero_of_dvd (Int.dvd_trans ⟨2, by omega⟩ (Int.dvd_of_emod_eq_zero g5))
theorem high_right {p : Pfx} (h : p.right = true) (hl : p.len < 16) : p.high.right = true := by
  obtain ⟨g1, g2, g3, g4, g5⟩ := right_bd h
  have hf := right_fit h
  have hh := szI_half g1 hl
  have hs := szI_bd (n := p.len + 1) (by omega)
  refine right_of (by simp [Pfx.high]; omega) (by simp [Pfx.high]; omega) (by simp [Pfx.high]; omega) (by simp [Pfx.high]; omega) ?_
  show (p.at_ + szI (p.len + 1)) % szI (p.len + 1) = 0
  rw [Int.add_emod_right]
  rw [hh] at g5
  exact Int.emod_eq_zero_of_dvd (Int.dvd_trans ⟨2, by omega⟩ (Int.dvd_of_emod_eq_zero g5))
/-- What a round leaves alone: cells of blocks that are not the loop's own. -/
structure KP (own : World → Nat → Prop) (W W' : World) : Prop where
  size : W.heap.size ≤ W'.heap.size
  cells : ∀ b c t f, ¬ own W b → W.heap[b]? = some (.cells c t f) → W'.heap[b]? = some (.cells c t f)
  own : ∀ b, b < W.heap.size → own W' b → own W b
theorem lt_of_block {w : World} {b : Nat} {o : Obj} (h : w.heap[b]? = some o) : b < w.heap.size := by
  rcases Nat.lt_or_ge b w.heap.size with h' | h'
  · exact h'
  · simp [Array.getElem?_eq_none h'] at h
theorem KP.trans {own : World → Nat → Prop} {a b c : World} (h : KP own a b) (k : KP own b c) : KP own a c :=
  ⟨Nat.le_trans h.size k.size, fun i x t f hn hc => k.cells i x t f (fun ho => hn (h.own i (lt_of_block hc) ho)) (h.cells i x t f hn hc), fun i hi ho => h.own i hi (k.own i (Nat.lt_of_lt_of_le hi h.size) ho)⟩
theorem KP.of {own : World → Nat → Prop} {a b : World} (h : Ext a b) (ho : ∀ i, own b i → own a i) : KP own a b :=
  ⟨h.size, fun i x t f _ hc => block_ext h hc, fun i _ hi => ho i hi⟩
theorem KP.cell {own : World → Nat → Prop} {a b : World} (h : KP own a b) {i o : Nat} {v : Value} (hn : ¬ own a i) (hc : a.cell? ⟨i, o, none⟩ = some v) : b.cell? ⟨i, o, none⟩ = some v := by
  have hlt := lt_of_cell hc
  obtain ⟨x, hx⟩ : ∃ x, a.heap[i]? = some x := ⟨_, Array.getElem?_eq_getElem hlt⟩
  cases x with
  | cells c t f =>
    have := h.cells i c t f hn hx
    simp only [World.cell?, hx, this] at hc ⊢
    exact hc
  | _ => simp [World.cell?, hx] at hc
theorem Sl.kp {α : Type} {own : World → Nat → Prop} {n₀ : Nat} {w w' : World} {k : Nat} {R : List Value → α → Prop} {ao : Option Addr} {cap : Nat} {l : List α} (h : Sl (fun b => b < n₀) w k R ao cap l) (ho : ∀ b, own w b → n₀ ≤ b) (hb : KP own w w') : Sl (fun b => b < n₀) w' k R ao cap l := by
  refine ⟨h.cap_le, h.cap_max, fun i hi => ?_⟩
  obtain ⟨b, off, cs, h1, h2, h3, h4, h5⟩ := h.elem i hi
  exact ⟨b, off, cs, h1, h2, h3, h4, fun j hj => hb.cell (fun hx => by have := ho b hx; omega) (h5 j hj)⟩
theorem room_of_none {F : Fence} (hd : F.depth = none) (k : Nat) : F.room k := fun d h => by rw [hd] at h; cases h
theorem RoundIn.anyDepth {F : Fence} (hd : F.depth = none) {m m' : Nat} {P : Program} {l : Nat} {f : FuncId} {tmps : Array Value} {assign body : Code} {w : World} {R : Ending → World → Prop}
    (h : RoundIn F m P l f tmps assign body w R) : RoundIn F m' P l f tmps assign body w R := ⟨h.1, fun c cs _ => h.2 c cs (room_of_none hd _)⟩
theorem YieldAt.anyDepth {F : Fence} (hd : F.depth = none) {m : Nat} (m' : Nat) {P : Program} {l : Nat} {args : Array Value} {W : World} {R : Ending → World → Prop} (h : YieldAt F m P l args W R) : YieldAt F m' P l args W R := by
  obtain ⟨fn, tmps, assign, body, hy, hR⟩ := h
  exact ⟨fn, tmps, assign, body, hy, RoundIn.anyDepth hd hR⟩
def DownEnd (own : World → Nat → Prop) (J Jx : List Pfx → World → Prop) (pre L : List Pfx) (W : World) (e : Ending) (W' : World) : Prop :=
  (e = .returned (.bool true) ∧ J (pre ++ L) W' ∧ KP own W W') ∨ (e = .returned (.bool false) ∧ ∃ q, q <+: L ∧ Jx (pre ++ q) W')
/-- What is asked of a loop's state and of its rounds. -/
structure LoopOK (own : World → Nat → Prop) (n₀ N l : Nat) (J Jx : List Pfx → World → Prop) : Prop where
  ext : ∀ s A B, J s A → Ext A B → J s B
  extx : ∀ s A B, Jx s A → Ext A B → Jx s B
  own1 : ∀ s A b, J s A → own A b → n₀ ≤ b ∧ b < A.heap.size
  own2 : ∀ s A B b, J s A → Ext A B → own B b → own A b
  round : ∀ m pre (x : Pfx) W, J pre W → pre.length < N → YieldAt Fence.wide m Try.prog l #[x.v] W fun e W' =>
      (e = .returned (.bool true) ∧ J (pre ++ [x]) W' ∧ KP own W W') ∨ (e = .returned (.bool false) ∧ Jx (pre ++ [x]) W')
theorem LoopOK.kp {own : World → Nat → Prop} {n₀ N l : Nat} {J Jx : List Pfx → World → Prop} (hL : LoopOK own n₀ N l J Jx) {s : List Pfx} {A B : World} (hj : J s A) (hx : Ext A B) : KP own A B := KP.of hx fun b => hL.own2 s A B b hj hx
section
variable (own : World → Nat → Prop) (l n₀ N : Nat) (us : List Pfx) (uo : Option Addr) (ucap : Nat) (J Jx : List Pfx → World → Prop) (hL : LoopOK own n₀ N l J Jx)
include hL
set_option maxRecDepth 100000 in
set_option maxHeartbeats 2000000 in
theorem down_free (p : Pfx) (m : Nat) (pre : List Pfx) (W : World) (hM : us.any p.meets = false) (hs : Sl (fun b => b < n₀) W 2 Pfx.R uo ucap us) (hj : J pre W) (hN : pre.length + 1 ≤ N) :
    CallsIn Fence.wide m Try.prog 107 #[p.v, .slice uo us.length ucap, .func (.yield l) #[] #[]] W (DownEnd own J Jx pre [p] W) := by
  have hm := fun W' (h : Sl (fun b => b < n₀) W' 2 Pfx.R uo ucap us) => spaceMeets_any us uo ucap p W' h
  rw [hM] at hm
  replace hm := Lib.hid hm
  clear hM
  unfold Pfx.v
  refine callsIn_of_wp Try.func107 rfl trivial ?_ rfl
  simp only [Try.ntmps107, List.size_toArray, List.length_cons, List.length_nil, Nat.reduceAdd, Nat.reduceSub, Array.replicate_succ, Array.replicate_zero, List.push_toArray, List.append_toArray, List.nil_append, List.cons_append]
  gi_wp2_with fail
  refine ⟨trivial, fun h => (by cases h), ?_⟩
  refine (callsIn_wide.2 (hm.out _ (hs.ext (ext_alloc _ _)))).mono ?_
  rintro e w1 ⟨rfl, hw1⟩
  obtain ⟨hcw1, hfw1⟩ := bcell hw1
  have hzw1 := bsize hw1
  (try simp only [World.size_alloc, World.size_setCell, World.size_drew, World.heap_drewN] at hcw1 hfw1 hzw1)
  have hx1 := ext_trans (ext_alloc _ _) hw1
  obtain ⟨fn, tmps, assign, body, hy, hRr⟩ := hL.round (m - 1) pre p w1 (hL.ext _ _ _ hj hx1) (by omega)
  unfold Pfx.v at hy
  have hb1 := hL.kp hj hx1
  gi_wp2_with fail
  refine ⟨fun h => (by cases h), ?_⟩
  refine hRr.mono ?_
  rintro e w2 (⟨rfl, hj2, hb2⟩ | ⟨rfl, hx2⟩)
  · gi_wp2_with fail
    go_ret
    exact .inl ⟨rfl, hj2, hb1.trans hb2⟩
  · gi_wp2_with fail
    go_ret
    exact .inr ⟨rfl, [p], List.prefix_refl _, hx2⟩
set_option maxRecDepth 100000 in
set_option maxHeartbeats 2000000 in
theorem down_in : ∀ (n : Nat) (p : Pfx) (m : Nat) (pre : List Pfx) (W : World), 16 - p.len = (n : Int) → p.right = true → Sl (fun b => b < n₀) W 2 Pfx.R uo ucap us → J pre W → pre.length + (holesF us n p).length ≤ N →
      CallsIn Fence.wide m Try.prog 107 #[p.v, .slice uo us.length ucap, .func (.yield l) #[] #[]] W (DownEnd own J Jx pre (holesF us n p) W) := by
  intro n
  induction n with
  | zero =>
    intro p m pre W hn hr hs hj hN
    cases hM : us.any p.meets
    · unfold holesF at hN ⊢
      rw [hM] at hN ⊢
      simp only [Bool.false_eq_true, if_false, List.length_cons, List.length_nil] at hN ⊢
      exact down_free own l n₀ N us uo ucap J Jx hL p m pre W hM hs hj (by omega)
    · unfold holesF
      rw [hM, if_pos rfl]
      have hm := fun W' (h : Sl (fun b => b < n₀) W' 2 Pfx.R uo ucap us) => spaceMeets_any us uo ucap p W' h
      rw [hM] at hm
      have hh := halves_any p.at_ p.len
      have hc : chk p.at_ p.len = 0 := by have := hr; unfold Pfx.right rightB at this; simpa using this
      have hl : p.len = 16 := by omega
      have hv : halvesV p.at_ p.len = .tuple #[.agg #[.int .i64 0, .int .i64 0], .agg #[.int .i64 0, .int .i64 0], .int .i64 3] := by unfold halvesV zeroP; rw [if_pos hc, if_pos hl]
      rw [hv] at hh
      clear hv hc hM hN hl hn hr
      replace hm := Lib.hid hm
      replace hh := Lib.hid hh
      unfold Pfx.v
      refine callsIn_of_wp Try.func107 rfl trivial ?_ rfl
      simp only [Try.ntmps107, List.size_toArray, List.length_cons, List.length_nil, Nat.reduceAdd, Nat.reduceSub, Array.replicate_succ, Array.replicate_zero, List.push_toArray, List.append_toArray, List.nil_append, List.cons_append]
      gi_wp2_with fail
      refine ⟨trivial, fun h => (by cases h), ?_⟩
      refine (callsIn_wide.2 (hm.out _ (hs.ext (ext_alloc _ _)))).mono ?_
      rintro e w1 ⟨rfl, hw1⟩
      obtain ⟨hcw1, hfw1⟩ := bcell hw1
      have hzw1 := bsize hw1
      (try simp only [World.size_alloc, World.size_setCell, World.size_drew, World.heap_drewN] at hcw1 hfw1 hzw1)
      have hx1 := ext_trans (ext_alloc _ _) hw1
      have l1 : W.heap.size < w1.heap.size := by omega
      gi_wp2_with fail
      refine ⟨trivial, fun h => (by cases h), ?_⟩
      refine (callsIn_wide.2 (hh.out _)).mono ?_
      rintro e w2 ⟨rfl, hw2⟩
      obtain ⟨hcw2, hfw2⟩ := bcell hw2
      have hzw2 := bsize hw2
      (try simp only [World.size_alloc, World.size_setCell, World.size_drew, World.heap_drewN] at hcw2 hfw2 hzw2)
      have l2 : W.heap.size < w2.heap.size := by omega
      gi_wp2_with fail
      refine ⟨trivial, ?_⟩
      gi_wp2_with fail
      go_ret
      exact .inl ⟨rfl, by rw [List.append_nil]; exact hL.ext _ _ _ hj (ext_trans hx1 (ext_trans hw2 (ext_trans (ext_alloc _ _) (ext_alloc _ _)))), hL.kp hj (ext_trans hx1 (ext_trans hw2 (ext_trans (ext_alloc _ _) (ext_alloc _ _))))⟩
  | succ n ih =>
    intro p m pre W hn hr hs hj hN
    cases hM : us.any p.meets
    · unfold holesF at hN ⊢
      rw [hM] at hN ⊢
      simp only [Bool.false_eq_true, if_false, List.length_cons, List.length_nil] at hN ⊢
      exact down_free own l n₀ N us uo ucap J Jx hL p m pre W hM hs hj (by omega)
    · have hm := fun W' (h : Sl (fun b => b < n₀) W' 2 Pfx.R uo ucap us) => spaceMeets_any us uo ucap p W' h
      rw [hM] at hm
      have hh := halves_any p.at_ p.len
      have hc : chk p.at_ p.len = 0 := by have := hr; unfold Pfx.right rightB at this; simpa using this
      have hl : p.len < 16 := by omega
      have hv : halvesV p.at_ p.len = .tuple #[.agg #[.int .i64 p.at_, .int .i64 (p.len + 1)], .agg #[.int .i64 (p.at_ + szI (p.len + 1)), .int .i64 (p.len + 1)], .int .i64 0] := by unfold halvesV; rw [if_pos hc, if_neg (by omega)]
      rw [hv] at hh
      have hct := fun W' (h : Sl (fun b => b < n₀) W' 2 Pfx.R uo ucap us) => contains_P p us uo ucap W' h
      unfold holesF at hN ⊢
      rw [hM, if_pos rfl] at hN ⊢
      clear hv hc hM
      replace hm := Lib.hid hm
      replace hh := Lib.hid hh
      cases hC : us.contains p
      · rw [hC] at hct hN
        simp only [Bool.false_eq_true, if_false, List.length_append] at hN ⊢
        replace hct := Lib.hid hct
        have ihl := fun m' pre' W' => ih p.low m' pre' W' (by simp [Pfx.low]; omega) (low_right hr hl)
        have ihr := fun m' pre' W' => ih p.high m' pre' W' (by simp [Pfx.high]; omega) (high_right hr hl)
        obtain ⟨L, hLL⟩ : ∃ L, L = holesF us n p.low := ⟨_, rfl⟩
        obtain ⟨M, hMM⟩ : ∃ M, M = holesF us n p.high := ⟨_, rfl⟩
        rw [← hLL] at ihl hN ⊢
        rw [← hMM] at ihr hN ⊢
        simp only [Pfx.v, Pfx.low] at ihl
        simp only [Pfx.v, Pfx.high] at ihr
        replace ihl := Lib.hid ihl
        replace ihr := Lib.hid ihr
        clear ih hLL hMM hC hl hn hr
        unfold Pfx.v
        refine callsIn_of_wp Try.func107 rfl trivial ?_ rfl
        simp only [Try.ntmps107, List.size_toArray, List.length_cons, List.length_nil, Nat.reduceAdd, Nat.reduceSub, Array.replicate_succ, Array.replicate_zero, List.push_toArray, List.append_toArray, List.nil_append, List.cons_append]
        gi_wp2_with fail
        refine ⟨trivial, fun h => (by cases h), ?_⟩
        refine (callsIn_wide.2 (hm.out _ (hs.ext (ext_alloc _ _)))).mono ?_
        rintro e w1 ⟨rfl, hw1⟩
        obtain ⟨hcw1, hfw1⟩ := bcell hw1
        have hzw1 := bsize hw1
        (try simp only [World.size_alloc, World.size_setCell, World.size_drew, World.heap_drewN] at hcw1 hfw1 hzw1)
        have hx1 := ext_trans (ext_alloc _ _) hw1
        have l1 : W.heap.size < w1.heap.size := by omega
        gi_wp2_with fail
        refine ⟨trivial, fun h => (by cases h), ?_⟩
        refine (callsIn_wide.2 (hh.out _)).mono ?_
        rintro e w2 ⟨rfl, hw2⟩
        obtain ⟨hcw2, hfw2⟩ := bcell hw2
        have hzw2 := bsize hw2
        (try simp only [World.size_alloc, World.size_setCell, World.size_drew, World.heap_drewN] at hcw2 hfw2 hzw2)
        have hx2 := ext_trans hx1 hw2
        have l2 : W.heap.size < w2.heap.size := by omega
        gi_wp2_with fail
        refine ⟨trivial, fun h => (by cases h), ?_⟩
        refine (callsIn_wide.2 (hct.out _ ((hs.ext hx2).ext (ext_trans (ext_alloc _ _) (ext_alloc _ _))))).mono ?_
        rintro e w3 ⟨rfl, hw3⟩
        obtain ⟨hcw3, hfw3⟩ := bcell hw3
        have hzw3 := bsize hw3
        (try simp only [World.size_alloc, World.size_setCell, World.size_drew, World.heap_drewN] at hcw3 hfw3 hzw3)
        have hx3 := ext_trans hx2 (ext_trans (ext_trans (ext_alloc _ _) (ext_alloc _ _)) hw3)
        have hj3 := hL.ext _ _ _ hj hx3
        have hk3 := hL.kp hj hx3
        have l3 : w2.heap.size < w3.heap.size := by omega
        have l4 : w2.heap.size + 1 < w3.heap.size := by omega
        have l5 : W.heap.size < w3.heap.size := by omega
        have d0 : w3.cell? ⟨w2.heap.size, 0, none⟩ = some (.int .i64 p.at_) := by rw [hcw3 _ _ (by omega)]; go_simp
        have d1 : w3.cell? ⟨w2.heap.size, 1, none⟩ = some (.int .i64 (p.len + 1)) := by rw [hcw3 _ _ (by omega)]; go_simp
        have e0 : w3.cell? ⟨w2.heap.size + 1, 0, none⟩ = some (.int .i64 (p.at_ + szI (p.len + 1))) := by rw [hcw3 _ _ (by omega)]; go_simp
        have e1 : w3.cell? ⟨w2.heap.size + 1, 1, none⟩ = some (.int .i64 (p.len + 1)) := by rw [hcw3 _ _ (by omega)]; go_simp
        have no : ¬ own w3 (w2.heap.size + 1) := fun ho => by
          have := (hL.own1 _ _ _ hj (hL.own2 _ _ _ _ hj hx3 ho)).2
          omega
        have hs3 := hs.ext hx3
        clear hcw3 hfw3 hcw2 hfw2 hcw1 hfw1
        gi_wp2_with fail
        refine ⟨trivial, fun h => (by cases h), ?_⟩
        refine (ihl.out _ pre _ hs3 hj3 (by omega)).mono ?_
        rintro e w4 (⟨rfl, hj4, hk4⟩ | ⟨rfl, q, hq, hx4⟩)
        · have hs4 := hs3.kp (fun b hb => (hL.own1 _ _ _ hj3 hb).1) hk4
          have e0' := hk4.cell no e0
          have e1' := hk4.cell no e1
          clear e0 e1 d0 d1
          gi_wp2_with fail
          refine ⟨trivial, fun h => (by cases h), ?_⟩
          refine (ihr.out _ _ _ hs4 hj4 (by simp; omega)).mono ?_
          rintro e w5 (⟨rfl, hj5, hk5⟩ | ⟨rfl, q, hq, hx5⟩)
          · gi_wp2_with fail
            go_ret
            exact .inl ⟨rfl, by rw [← List.append_assoc]; exact hj5, hk3.trans (hk4.trans hk5)⟩
          · gi_wp2_with fail
            go_ret
            obtain ⟨r, hr⟩ := hq
            exact .inr ⟨rfl, L ++ q, ⟨r, by rw [← hr]; simp⟩, by rw [← List.append_assoc]; exact hx5⟩
        · gi_wp2_with fail
          refine ⟨trivial, ?_⟩
          gi_wp2_with fail
          go_ret
          exact .inr ⟨rfl, q, hq.trans (List.prefix_append _ _), hx4⟩
      · rw [hC] at hct
        rw [if_pos rfl]
        replace hct := Lib.hid hct
        clear ih hC hl hn hr hN
        unfold Pfx.v
        refine callsIn_of_wp Try.func107 rfl trivial ?_ rfl
        simp only [Try.ntmps107, List.size_toArray, List.length_cons, List.length_nil, Nat.reduceAdd, Nat.reduceSub, Array.replicate_succ, Array.replicate_zero, List.push_toArray, List.append_toArray, List.nil_append, List.cons_append]
        gi_wp2_with fail
        refine ⟨trivial, fun h => (by cases h), ?_⟩
        refine (callsIn_wide.2 (hm.out _ (hs.ext (ext_alloc _ _)))).mono ?_
        rintro e w1 ⟨rfl, hw1⟩
        obtain ⟨hcw1, hfw1⟩ := bcell hw1
        have hzw1 := bsize hw1
        (try simp only [World.size_alloc, World.size_setCell, World.size_drew, World.heap_drewN] at hcw1 hfw1 hzw1)
        have hx1 := ext_trans (ext_alloc _ _) hw1
        have l1 : W.heap.size < w1.heap.size := by omega
        gi_wp2_with fail
        refine ⟨trivial, fun h => (by cases h), ?_⟩
        refine (callsIn_wide.2 (hh.out _)).mono ?_
        rintro e w2 ⟨rfl, hw2⟩
        obtain ⟨hcw2, hfw2⟩ := bcell hw2
        have hzw2 := bsize hw2
        (try simp only [World.size_alloc, World.size_setCell, World.size_drew, World.heap_drewN] at hcw2 hfw2 hzw2)
        have hx2 := ext_trans hx1 hw2
        have l2 : W.heap.size < w2.heap.size := by omega
        gi_wp2_with fail
        refine ⟨trivial, fun h => (by cases h), ?_⟩
        refine (callsIn_wide.2 (hct.out _ ((hs.ext hx2).ext (ext_trans (ext_alloc _ _) (ext_alloc _ _))))).mono ?_
        rintro e w3 ⟨rfl, hw3⟩
        obtain ⟨hcw3, hfw3⟩ := bcell hw3
        have hzw3 := bsize hw3
        (try simp only [World.size_alloc, World.size_setCell, World.size_drew, World.heap_drewN] at hcw3 hfw3 hzw3)
        have hx3 := ext_trans hx2 (ext_trans (ext_trans (ext_alloc _ _) (ext_alloc _ _)) hw3)
        gi_wp2_with fail
        go_ret
        exact .inl ⟨rfl, by simpa using hL.ext _ _ _ hj hx3, hL.kp hj hx3⟩
end
end Go.Proofs.Ytbeocackphfijaa
namespace Go.Proofs.Ytbeocackphfijaa
open Go Go.RowKit Go.Proofs Go.Shelf
set_option maxRecDepth 100000
attribute [local go_sem] Oper.semAt_some
theorem walk_any (p : Pfx) (uo : Option Addr) (k ucap : Nat) (w : World) :
    Calls Try.prog 98 #[p.v, .slice uo k ucap] w fun e w' => e = .returned (.func (.func 106) #[] #[.pointer (some ⟨w.heap.size, 0, none⟩), .pointer (some ⟨w.heap.size + 1, 0, none⟩)]) ∧
      w' = (w.alloc (.cells #[.int .i64 p.at_, .int .i64 p.len] 26)).alloc (.cells #[.slice uo k ucap] 78) := by
  unfold Pfx.v
  go_enter Try.func98, Try.ntmps98
  go_wp2_with fail
  go_ret
  exact ⟨rfl, rfl⟩
theorem abides_ext {β : Type} {B : Nat} {J : β → World → Prop} (h : AbidesFrom B J) : ∀ s X Y, J s X → Ext X Y → J s Y := fun s X Y hj hx =>
  h s X Y none hj ⟨hx.os, hx.tape, hx.output, hx.size, fun b hb _ => hx.block b hb⟩ (fun r e => by cases e)
/-- What a round keeps: own blocks apart, all cells; and G, what says which blocks are own. -/
def KG (own : World → Nat → Prop) (G : World → Prop) (W W' : World) : Prop := G W → KP own W W' ∧ G W'
set_option maxHeartbeats 1000000 in
set_option maxRecDepth 100000 in
theorem walk1_in (own : World → Nat → Prop) (G : World → Prop) (l n₀ b1 b2 : Nat) (us : List Pfx) (uo : Option Addr) (ucap : Nat) (p : Pfx) (n : Nat) (hn : 16 - p.len = (n : Int)) (hr : p.right = true) (J Jx : List Pfx → World → Prop)
    (m : Nat) (hL : LoopOK own n₀ (holesF us n p).length l J Jx) (W : World) (c0 : W.cell? ⟨b1, 0, none⟩ = some (.int .i64 p.at_)) (c1 : W.cell? ⟨b1, 1, none⟩ = some (.int .i64 p.len)) (c2 : W.cell? ⟨b2, 0, none⟩ = some (.slice uo us.length ucap))
    (hs : Sl (fun b => b < n₀) W 2 Pfx.R uo ucap us) (h0 : J [] W) :
    CallsIn Fence.wide m Try.prog 106 #[.func (.yield l) #[] #[], .pointer (some ⟨b1, 0, none⟩), .pointer (some ⟨b2, 0, none⟩)] W fun e W' => (∃ v, e = .returned v) ∧
      ((∃ ys, ys = holesF us n p ∧ J ys W') ∨ (∃ pre, pre <+: holesF us n p ∧ Jx pre W')) := by
  have hd := down_in own l n₀ (holesF us n p).length us uo ucap J Jx hL n p (m - 1) [] W hn hr hs h0 (by simp)
  simp only [Pfx.v] at hd
  replace hd := Lib.hid hd
  clear hL hn hr
  refine callsIn_of_wp Try.func106 rfl trivial ?_ rfl
  simp only [Try.ntmps106, List.size_toArray, List.length_cons, List.length_nil, Nat.reduceAdd, Nat.reduceSub, Array.replicate_succ, Array.replicate_zero, List.push_toArray, List.append_toArray, List.nil_append, List.cons_append]
  gi_wp2_with fail
  refine ⟨trivial, fun h => (by cases h), ?_⟩
  refine hd.out.mono ?_
  rintro e w1 (⟨rfl, hj, hk⟩ | ⟨rfl, q, hq, hx⟩)
  · gi_wp2_with fail
    go_end0
    exact ⟨⟨_, rfl⟩, .inl ⟨_, rfl, by simpa using hj⟩⟩
  · gi_wp2_with fail
    go_end0
    exact ⟨⟨_, rfl⟩, .inr ⟨q, hq, by simpa using hx⟩⟩
theorem walk_stops (own : World → Nat → Prop) (G : World → Prop) (m n₀ b1 b2 : Nat) (us : List Pfx) (uo : Option Addr) (ucap : Nat) (p : Pfx) (n : Nat) (hn : 16 - p.len = (n : Int)) (hr : p.right = true) (w : World)
    (hG0 : G w) (hG1 : ∀ A b, G A → own A b → n₀ ≤ b ∧ b < A.heap.size) (hG2 : ∀ A B b, G A → Ext A B → own B b → own A b) (hG3 : ∀ A B, G A → Ext A B → G B)
    (c0 : w.cell? ⟨b1, 0, none⟩ = some (.int .i64 p.at_)) (c1 : w.cell? ⟨b1, 1, none⟩ = some (.int .i64 p.len)) (c2 : w.cell? ⟨b2, 0, none⟩ = some (.slice uo us.length ucap))
    (hs : Sl (fun b => b < n₀) w 2 Pfx.R uo ucap us) :
    SeqStopsK Fence.wide m Try.prog 106 #[.pointer (some ⟨b1, 0, none⟩), .pointer (some ⟨b2, 0, none⟩)] (fun x : Pfx => #[x.v]) (KG own G) (fun ys => ys = holesF us n p) (fun pre => pre <+: holesF us n p) (holesF us n p).length w := by
  intro l J Jx W hW hJ hJx hY h0
  have hL : LoopOK own n₀ (holesF us n p).length l (fun s A => J s A ∧ G A) Jx := by
    refine ⟨fun s A B h hx => ⟨abides_ext hJ s A B h.1 hx, hG3 A B h.2 hx⟩, fun s A B h hx => abides_ext hJx s A B h hx, fun s A b h ho => hG1 A b h.2 ho, fun s A B b h hx ho => hG2 A B b h.2 hx ho, fun m' pre x W1 h hl => ?_⟩
    refine YieldAt.mono (YieldAt.anyDepth rfl m' (hY pre x W1 h.1 hl)) fun e W2 h2 => ?_
    rcases h2 with ⟨he, hj, hk⟩ | h2
    · exact .inl ⟨he, ⟨hj, (hk h.2).2⟩, (hk h.2).1⟩
    · exact .inr h2
  refine (walk1_in own G l n₀ b1 b2 us uo ucap p n hn hr (fun s A => J s A ∧ G A) Jx m hL W (keepCell hW c0) (keepCell hW c1) (keepCell hW c2) (hs.ext hW) ⟨h0, hG3 _ _ hG0 hW⟩).mono ?_
  rintro e W' ⟨hv, ⟨ys, hy, hj⟩ | h⟩
  · exact ⟨hv, .inl ⟨ys, hy, hj.1⟩⟩
  · exact ⟨hv, .inr h⟩
end Go.Proofs.Ytbeocackphfijaa
namespace Go.Proofs.Ytbeocackphfijaa
open Go Go.RowKit Go.Proofs
set_option maxRecDepth 100000
def insQ (p q : Pfx) : Bool := insP p.at_ p.len q.at_ q.len
def usedOK (root : Pfx) : Int → List Pfx → Bool
  | _, [] => true
  | free, p :: ps => insQ p root && (decide (free ≤ p.at_) && usedOK root (p.at_ + szI p.len) ps)
theorem usedOK_cons (root : Pfx) (f : Int) (p : Pfx) (ps : List Pfx) : usedOK root f (p :: ps) = (insQ p root && (decide (f ≤ p.at_) && usedOK root (p.at_ + szI p.len) ps)) := rfl
def chkS (root : Pfx) (us : List Pfx) : Int := if us.length > 32 then 2 else if chk root.at_ root.len = 0 then (if usedOK root root.at_ us then 0 else 1) else 1
theorem insP_right {a l b m : Int} (h : insP a l b m = true) : rightB a l = true := by
  unfold insP at h; simp at h; exact h.1.1.1
theorem sizeI_right {a l : Int} (h : rightB a l = true) : sizeI a l = szI l := by unfold sizeI; rw [if_pos h]
set_option maxHeartbeats 1000000 in
set_option maxRecDepth 100000 in
theorem spaceCheck_any {A : Area} (root : Pfx) (us : List Pfx) (uo : Option Addr) (ucap : Nat) (w : World) (h : Sl A w 2 Pfx.R uo ucap us) :
    Calls Try.prog 50 #[.agg #[.int .i64 root.at_, .int .i64 root.len, .slice uo us.length ucap]] w fun e w' => e = .returned (.int .i64 (chkS root us)) ∧ Ext w w' := by
  have hcl := h.cap_le
  have hcm := h.cap_max
  by_cases h32 : us.length > 32
  · have hr : chkS root us = 2 := by unfold chkS; rw [if_pos h32]
    rw [hr]
    have hI : (32 : Int) < (us.length : Int) := by omega
    clear hr h32
    go_enter Try.func50, Try.ntmps50
    go_wp2_with fail
    go_ret
    refine ⟨rfl, Bel.bel (B := _) ?_⟩
    (repeat (first | with_reducible assumption | with_reducible exact Bel.refl _ | with_reducible refine Bel.alloc ?_ _ | with_reducible refine Bel.drewN ?_ _ | with_reducible refine Bel.drew ?_ | (with_reducible refine Bel.setCell0 ?_ ?_ _; rotate_left; (first | omega | (simp; done) | (simp; omega))) | (with_reducible refine Bel.setCell ?_ (p := _) ?_ _; rotate_left; (first | (simp; done) | omega | (simp; omega))) | refine Bel.call ?_ (by assumption) | (refine EX.bel ?_ (by assumption) ?_; rotate_left; (first | omega | (simp; omega)))))
  · have hI : (us.length : Int) ≤ 32 := by omega
    have hck := check_any root.at_ root.len
    by_cases hc : chk root.at_ root.len = 0
    · obtain ⟨r, hr⟩ : ∃ r, r = chkS root us := ⟨_, rfl⟩
      rw [← hr]
      have hr2 : r = if usedOK root root.at_ us then 0 else 1 := by rw [hr]; unfold chkS; rw [if_neg h32, if_pos hc]
      rw [hc] at hck
      clear hr hc h32
      replace hr := Lib.hid hr2
      clear hr2
      replace hck := Lib.hid hck
      go_enter Try.func50, Try.ntmps50
      go_wp2_with fail
      refine (hck.out _).mono ?_
      rintro e w1 ⟨rfl, hw1⟩
      obtain ⟨hcw1, hfw1⟩ := bcell hw1
      have hzw1 := bsize hw1
      (try simp only [World.size_alloc, World.size_setCell, World.size_drew, World.heap_drewN] at hcw1 hfw1 hzw1)
      have l1 : w.heap.size < w1.heap.size := by omega
      go_wp2_with fail
      go_loopw [3, 20] (fun s3 s20 wr => ∃ (k : Nat) (f : Int), k ≤ us.length ∧ s20 = .int .i64 k ∧ s3 = .int .i64 f ∧ Hid (usedOK root root.at_ us = usedOK root f (us.drop k)) ∧ Ext w1 wr) (fun _ s20 _ => us.length - (intOf s20).toNat)
      case atStart => exact ⟨0, root.at_, Nat.zero_le _, rfl, rfl, Lib.hid rfl, Below.refl _ _⟩
      case round =>
        obtain ⟨k, f, hk, rfl, rfl, hu, hx⟩ := hrel
        have hbel : Bel w.heap.size w wr := (((Bel.refl w).alloc _).call hw1).call hx
        obtain ⟨hcr, hfr⟩ := bcell hx
        have hzr := bsize hx
        have lr : w.heap.size < wr.heap.size := by omega
        by_cases hlt : k < us.length
        · have hltI : (k : Int) < (us.length : Int) := by omega
          have hdrop : us.drop k = us[k] :: us.drop (k + 1) := List.drop_eq_getElem_cons hlt
          rw [hdrop] at hu
          clear hdrop
          obtain ⟨b, off, cs, rfl, -, hlen, hR, hcs⟩ := h.elem k hlt
          replace hcs := cellsAt_ext (ext_trans (ext_trans (ext_alloc _ _) hw1) hx) hcs
          unfold Pfx.R at hR
          subst hR
          obtain ⟨k0, k1⟩ := cellsAt_2 hcs
          have lb := lt_of_cell k0
          obtain ⟨p, hp⟩ : ∃ p, p = us[k] := ⟨_, rfl⟩
          rw [← hp] at k0 k1 hu
          clear hcs hp h
          have hin := inside_any p.at_ p.len root.at_ root.len
          obtain ⟨q, hq⟩ : ∃ q, q = insP p.at_ p.len root.at_ root.len := ⟨_, rfl⟩
          rw [← hq] at hin
          have hu2 : usedOK root root.at_ us = (q && (decide (f ≤ p.at_) && usedOK root (p.at_ + szI p.len) (us.drop (k + 1)))) := by rw [hu.out, usedOK_cons, hq]; rfl
          clear hu
          cases q
          case false =>
            have hret : r = 1 := by rw [hr.out, hu2]; rfl
            replace hret := Lib.hid hret
            clear hu2 hr hq
            replace hin := Lib.hid hin
            go_wp2_with fail
            refine (hin.out _).mono ?_
            rintro e w2 ⟨rfl, hw2⟩
            obtain ⟨hcw2, hfw2⟩ := bcell hw2
            have hzw2 := bsize hw2
            (try simp only [World.size_alloc, World.size_setCell, World.size_drew, World.heap_drewN] at hcw2 hfw2 hzw2)
            go_wp2_with fail
            go_ret
            refine ⟨ret_int hret.out.symm, Bel.bel (B := _) ?_⟩
            (repeat (first | with_reducible assumption | with_reducible exact Bel.refl _ | with_reducible refine Bel.alloc ?_ _ | with_reducible refine Bel.drewN ?_ _ | with_reducible refine Bel.drew ?_ | (with_reducible refine Bel.setCell0 ?_ ?_ _; rotate_left; (first | omega | (simp; done) | (simp; omega))) | (with_reducible refine Bel.setCell ?_ (p := _) ?_ _; rotate_left; (first | (simp; done) | omega | (simp; omega))) | refine Bel.call ?_ (by assumption) | (refine EX.bel ?_ (by assumption) ?_; rotate_left; (first | omega | (simp; omega)))))
          case true =>
            have hrp := insP_right hq.symm
            obtain ⟨g1, g2, g3, g4, -⟩ := right_bd hrp
            obtain ⟨z1, z2⟩ := szI_bd g1
            have hsz := size_any p.at_ p.len
            rw [sizeI_right hrp] at hsz
            have hwr : IntKind.i64.wrap (p.at_ + szI p.len) = p.at_ + szI p.len := IntWalk.i64_in _ (by omega)
            replace hin := Lib.hid hin
            replace hsz := Lib.hid hsz
            clear hq hrp
            by_cases hf : f ≤ p.at_
            · have hu3 : usedOK root root.at_ us = usedOK root (p.at_ + szI p.len) (us.drop (k + 1)) := by rw [hu2]; simp [hf]
              clear hu2
              replace hu3 := Lib.hid hu3
              go_wp2_with fail
              refine (hin.out _).mono ?_
              rintro e w2 ⟨rfl, hw2⟩
              obtain ⟨hcw2, hfw2⟩ := bcell hw2
              have hzw2 := bsize hw2
              (try simp only [World.size_alloc, World.size_setCell, World.size_drew, World.heap_drewN] at hcw2 hfw2 hzw2)
              have l2 : w.heap.size < w2.heap.size := by omega
              have l3 : wr.heap.size < w2.heap.size := by omega
              go_wp2_with fail
              refine region_mix (by kernel_rfl) (by kernel_rfl) (fun _ _ d _ _ h => by cases d <;> exact h) ?_
              repeat (first | ((first | refine mix_skip_t rfl rfl rfl (by with_reducible rfl) ?_ | refine mix_skip_f rfl rfl rfl (by with_reducible rfl) ?_ | refine mix_skip_u rfl rfl rfl (by with_reducible rfl) ?_); simp only [Act.put, List.setIfInBounds_toArray, List.set_cons_zero, List.set_cons_succ]) | (apply mix_take; (first | exact want_0 rfl | exact want_b rfl rfl rfl (by with_reducible rfl)); intro wq hwq R hR; ((have hcc := (bcell hwq).1; (try simp only [World.size_alloc, World.size_setCell, World.size_drew, World.heap_drewN] at hcc)); go_simp; first | exact hR | ((go_at_call 30; exact mcall (hsz.out _) hR))); simp only [Act.put, List.setIfInBounds_toArray, List.set_cons_zero, List.set_cons_succ]))
              refine mix_nil ?_
              intro w3 hw3
              obtain ⟨hcw3, hfw3⟩ := bcell hw3
              have hzw3 := bsize hw3
              (try simp only [World.size_alloc, World.size_setCell, World.size_drew, World.heap_drewN] at hcw3 hfw3 hzw3)
              go_wp2_with fail
              go_roundw
              case rel => exact ⟨k + 1, _, by omega, by go_num, rfl, hu3, ext_trans hx (ext_trans (ext_trans (ext_alloc _ _) hw2) hw3)⟩
              case measure => simp [intOf]; omega
            · have hret : r = 1 := by rw [hr.out, hu2]; simp [hf]
              replace hret := Lib.hid hret
              have hf' : p.at_ < f := by omega
              clear hu2 hr hf
              go_wp2_with fail
              refine (hin.out _).mono ?_
              rintro e w2 ⟨rfl, hw2⟩
              obtain ⟨hcw2, hfw2⟩ := bcell hw2
              have hzw2 := bsize hw2
              (try simp only [World.size_alloc, World.size_setCell, World.size_drew, World.heap_drewN] at hcw2 hfw2 hzw2)
              have l2 : w.heap.size < w2.heap.size := by omega
              have l3 : wr.heap.size < w2.heap.size := by omega
              go_wp2_with fail
              go_ret
              refine ⟨ret_int hret.out.symm, Bel.bel (B := _) ?_⟩
              (repeat (first | with_reducible assumption | with_reducible exact Bel.refl _ | with_reducible refine Bel.alloc ?_ _ | with_reducible refine Bel.drewN ?_ _ | with_reducible refine Bel.drew ?_ | (with_reducible refine Bel.setCell0 ?_ ?_ _; rotate_left; (first | omega | (simp; done) | (simp; omega))) | (with_reducible refine Bel.setCell ?_ (p := _) ?_ _; rotate_left; (first | (simp; done) | omega | (simp; omega))) | refine Bel.call ?_ (by assumption) | (refine EX.bel ?_ (by assumption) ?_; rotate_left; (first | omega | (simp; omega)))))
        · have hltI : ¬ (k : Int) < (us.length : Int) := by omega
          obtain rfl : k = us.length := by omega
          have hret : r = 0 := by rw [hr.out, hu.out, List.drop_length]; rfl
          replace hret := Lib.hid hret
          clear hr hu
          go_wp2_with fail
          go_ret
          exact ⟨ret_int hret.out.symm, hbel.bel⟩
    · have hr : chkS root us = 1 := by unfold chkS; rw [if_neg h32, if_neg hc]
      rw [hr]
      obtain ⟨c, hcc⟩ : ∃ c, c = chk root.at_ root.len := ⟨_, rfl⟩
      rw [← hcc] at hck
      have hne : (c != 0) = true := by rw [hcc]; simpa using hc
      clear hr h32 hc hcc
      replace hck := Lib.hid hck
      go_enter Try.func50, Try.ntmps50
      go_wp2_with fail
      refine (hck.out _).mono ?_
      rintro e w1 ⟨rfl, hw1⟩
      obtain ⟨hcw1, hfw1⟩ := bcell hw1
      have hzw1 := bsize hw1
      (try simp only [World.size_alloc, World.size_setCell, World.size_drew, World.heap_drewN] at hcw1 hfw1 hzw1)
      go_wp2_with fail
      go_ret
      refine ⟨rfl, Bel.bel (B := _) ?_⟩
      (repeat (first | with_reducible assumption | with_reducible exact Bel.refl _ | with_reducible refine Bel.alloc ?_ _ | with_reducible refine Bel.drewN ?_ _ | with_reducible refine Bel.drew ?_ | (with_reducible refine Bel.setCell0 ?_ ?_ _; rotate_left; (first | omega | (simp; done) | (simp; omega))) | (with_reducible refine Bel.setCell ?_ (p := _) ?_ _; rotate_left; (first | (simp; done) | omega | (simp; omega))) | refine Bel.call ?_ (by assumption) | (refine EX.bel ?_ (by assumption) ?_; rotate_left; (first | omega | (simp; omega)))))
end Go.Proofs.Ytbeocackphfijaa
namespace Go.Proofs.Ytbeocackphfijaa
open Go Go.RowKit Go.Proofs Go.Shelf
set_option maxRecDepth 100000
attribute [local go_sem] Oper.semAt_some
def holesS (root : Pfx) (us : List Pfx) : List Pfx := holesF us (16 - root.len).toNat root
def Pfx.zero : Pfx := ⟨0, 0⟩
/-- Fit's answer: the prefix, is there one, the error. -/
def fitS (root : Pfx) (us : List Pfx) (size : Int) : Pfx × Bool × Int :=
  if chkS root us = 0 then
    (if size < root.len ∨ 16 < size then (Pfx.zero, false, 3) else match (holesS root us).find? (fun q => decide (q.len ≤ size)) with | some q => (⟨q.at_, size⟩, true, 0) | none => (Pfx.zero, false, 0))
  else (Pfx.zero, false, chkS root us)
def blk (W : World) (b : Nat) (cs : Array Value) (t : TypeId) : Prop := W.heap[b]? = some (.cells cs t (0, 0))
theorem blk_kept {A B : World} {row : Option Nat} {b : Nat} {cs : Array Value} {t : TypeId} (h : blk A b cs t) (hg : A.grownBy B row) (hr : ∀ r, row = some r → ∃ o : Obj, A.heap[r]? = some o ∧ o.isCells = false) : blk B b cs t :=
  (hg.block b (lt_of_block h) (fun e => by obtain ⟨o, ho, hc⟩ := hr b e.symm; rw [show A.heap[b]? = _ from h] at ho; cases ho; cases hc)).trans h
theorem blk_ext {A B : World} {b : Nat} {cs : Array Value} {t : TypeId} (h : blk A b cs t) (hx : Ext A B) : blk B b cs t := block_ext hx h
theorem blk_cell {W : World} {b o : Nat} {cs : Array Value} {t : TypeId} {v : Value} (h : blk W b cs t) (hv : cs[o]? = some v) : W.cell? ⟨b, o, none⟩ = some v := cell_of_block h hv
theorem blk_free {W : World} {b o : Nat} {cs : Array Value} {t : TypeId} (h : blk W b cs t) : W.frozen? ⟨b, o, none⟩ = false := free_of_block h
theorem blk_set {W : World} {b o : Nat} {cs : Array Value} {t : TypeId} (h : blk W b cs t) (v : Value) : blk (W.setCell ⟨b, o, none⟩ v) b (cs.setIfInBounds o v) t := block_setCell h v
theorem blk_other {W : World} {b c o : Nat} {cs : Array Value} {t : TypeId} (h : blk W b cs t) (hne : c ≠ b) (v : Value) : blk (W.setCell ⟨c, o, none⟩ v) b cs t := (block_setCell_ne v hne).trans h
theorem Sl.inW {α : Type} {A : Area} {w : World} {k : Nat} {R : List Value → α → Prop} {ao : Option Addr} {cap : Nat} {l : List α} (h : Sl A w (k + 1) R ao cap l) : Sl (fun b => b < w.heap.size) w (k + 1) R ao cap l := by
  refine ⟨h.cap_le, h.cap_max, fun i hi => ?_⟩
  obtain ⟨b, off, cs, h1, h2, h3, h4, h5⟩ := h.elem i hi
  exact ⟨b, off, cs, h1, lt_of_cell (h5 0 (by omega)), h3, h4, h5⟩
theorem KG_t {own : World → Nat → Prop} {G : World → Prop} {A B C : World} (h : KG own G A B) (k : KG own G B C) : KG own G A C := fun g => ⟨(h g).1.trans (k (h g).2).1, (k (h g).2).2⟩
abbrev noOwn : World → Nat → Prop := fun _ _ => False
abbrev noG : World → Prop := fun _ => True
theorem KG_no {W W' : World} (h : Ext W W') : KG noOwn noG W W' := fun _ => ⟨KP.of h fun _ h => h, trivial⟩
theorem KG_no_put {w : World} (W : World) (l : Nat) (o o' : Obj) (_ : w.heap.size ≤ l) (h : W.heap[l]? = some o) (hc : o.isCells = false) (_ : o.isWalk = false) : KG noOwn noG W (W.putObj l o') := fun _ =>
  ⟨⟨(grownBy_putObj' W l o').size, fun b c t f _ hb => ((grownBy_putObj' W l o').block b (lt_of_block hb) (fun e => by cases e; rw [h] at hb; cases hb; cases hc)).trans hb, fun b _ ho => ho⟩, trivial⟩
/-- The loop's state: what has come does not fit; the boxes. -/
def FitI (w w1 : World) (size : Int) (pre : List Pfx) (W : World) : Prop :=
  ((∀ y ∈ pre, decide (y.len ≤ size) = false) ∧ blk W (w.heap.size + 1) #[.int .i64 size] 3 ∧ blk W (w.heap.size + 2) #[.int .i64 0, .int .i64 0] 26 ∧ blk W (w.heap.size + 3) #[.bool false] 4 ∧ blk W (w.heap.size + 4) #[.int .i64 0] 29 ∧ w1.heap.size ≤ W.heap.size) ∧ Below w.heap.size w W
def FitX (w : World) (size : Int) (c : Code) (pre : List Pfx) (W : World) : Prop :=
  (c = .ret ∧ ∃ q x, pre = q ++ [x] ∧ decide (x.len ≤ size) = true ∧ (∀ y ∈ q, decide (y.len ≤ size) = false) ∧ blk W (w.heap.size + 2) #[.int .i64 x.at_, .int .i64 size] 26 ∧ blk W (w.heap.size + 3) #[.bool true] 4 ∧ blk W (w.heap.size + 4) #[.int .i64 0] 29) ∧ Below w.heap.size w W
theorem fitI_own (w w1 : World) (size : Int) (B : Nat) (hB : w.heap.size ≤ B) : OwnFrom B (FitI w w1 size) := by
  intro s X Y row h hg hr
  obtain ⟨⟨h1, h2, h3, h4, h5, h6⟩, h7⟩ := h
  have hr' : ∀ r, row = some r → ∃ o : Obj, X.heap[r]? = some o ∧ o.isCells = false := fun r e => (hr r e).2
  exact ⟨⟨h1, blk_kept h2 hg hr', blk_kept h3 hg hr', blk_kept h4 hg hr', blk_kept h5 hg hr', Nat.le_trans h6 hg.size⟩, h7.grown hg h7.size (fun k e => Nat.le_trans hB (hr k e).1)⟩
theorem fitX_own (w : World) (size : Int) (c : Code) (B : Nat) (hB : w.heap.size ≤ B) : OwnFrom B (FitX w size c) := by
  intro s X Y row h hg hr
  obtain ⟨⟨h1, q, x, h2, h3, h4, h5, h6, h7⟩, h8⟩ := h
  have hr' : ∀ r, row = some r → ∃ o : Obj, X.heap[r]? = some o ∧ o.isCells = false := fun r e => (hr r e).2
  exact ⟨⟨h1, q, x, h2, h3, h4, blk_kept h5 hg hr', blk_kept h6 hg hr', blk_kept h7 hg hr'⟩, h8.grown hg h8.size (fun k e => Nat.le_trans hB (hr k e).1)⟩
/-- The frame of a round. -/
def fitAct (w w1 : World) (root : Pfx) (uo : Option Addr) (n ucap : Nat) (size : Int) (x : Pfx) (Bx : Nat) : Act :=
  { tmps := #[.agg #[.int .i64 root.at_, .int .i64 root.len, .slice uo n ucap], .int .i64 size, .pointer (some ⟨w.heap.size, 0, none⟩), .pointer (some ⟨w.heap.size + 1, 0, none⟩), .pointer (some ⟨w.heap.size + 1 + 1, 0, none⟩), .pointer (some ⟨w.heap.size + 1 + 1 + 1, 0, none⟩), .pointer (some ⟨w.heap.size + 1 + 1 + 1 + 1, 0, none⟩), .int .i64 0, .pointer (some ⟨Bx, 0, none⟩),
    .agg #[.int .i64 root.at_, .int .i64 root.len, .slice uo n ucap], .int .i64 0, .int .i64 0, .bool false, undef, undef, .int .i64 size, .pointer (some ⟨w.heap.size, 0, none⟩), .pointer (some ⟨w.heap.size, 1, none⟩), .int .i64 root.len, .bool false, .bool false, .int .i64 size, .bool false, .bool false, undef, .pointer (some ⟨w.heap.size, 0, none⟩), .agg #[.int .i64 root.at_, .int .i64 root.len], .pointer (some ⟨w.heap.size, 2, none⟩), .slice uo n ucap,
    .func (.func 106) #[] #[.pointer (some ⟨w1.heap.size, 0, none⟩), .pointer (some ⟨w1.heap.size + 1, 0, none⟩)], .agg #[.int .i64 x.at_, .int .i64 x.len], undef, undef, undef, undef, undef, undef, undef, undef, undef], defers := [] }
def FitAx (w w1 : World) (root : Pfx) (uo : Option Addr) (n ucap : Nat) (size : Int) (x : Pfx) (a' : Act) (W : World) : Prop :=
  ∃ Bx, w1.heap.size ≤ Bx ∧ blk W Bx #[.int .i64 x.at_, .int .i64 x.len] 26 ∧ a' = fitAct w w1 root uo n ucap size x Bx
set_option maxHeartbeats 2000000 in
set_option maxRecDepth 100000 in
theorem fit_loop {A : Area} (root : Pfx) (us : List Pfx) (uo : Option Addr) (ucap : Nat) (size : Int) (w : World) (h : Sl A w 2 Pfx.R uo ucap us) (hck0 : chkS root us = 0) (h1 : root.len ≤ size) (h2 : size ≤ 16) :
    Calls Try.prog 82 #[.agg #[.int .i64 root.at_, .int .i64 root.len, .slice uo us.length ucap], .int .i64 size] w fun e w' =>
      e = .returned (.tuple #[(fitS root us size).1.v, .bool (fitS root us size).2.1, .int .i64 (fitS root us size).2.2]) ∧ Ext w w' := by
  have hck := fun W (h : Sl A W 2 Pfx.R uo ucap us) => spaceCheck_any root us uo ucap W h
  rw [hck0] at hck
  replace hck := Lib.hid hck
  have hwk := fun W => walk_any root uo us.length ucap W
  unfold Pfx.v at hwk
  replace hwk := Lib.hid hwk
  refine (callsIn_wide (n := 3)).1 ?_
  refine callsIn_of_wp_marks Try.func82 rfl trivial ?_ rfl
  simp only [Try.ntmps82, List.size_toArray, List.length_cons, List.length_nil, Nat.reduceAdd, Nat.reduceSub, Array.replicate_succ, Array.replicate_zero, List.push_toArray, List.append_toArray, List.nil_append, List.cons_append]
  gi_wp2_with fail
  refine ⟨trivial, ?_⟩
  refine (callsIn_wide.2 (hck.out _ (h.ext (ext_trans (ext_alloc _ _) (ext_trans (ext_alloc _ _) (ext_trans (ext_alloc _ _) (ext_trans (ext_alloc _ _) (ext_alloc _ _)))))))).mono ?_
  rintro e w1 ⟨rfl, hw1⟩
  obtain ⟨hcw1, hfw1⟩ := bcell hw1
  have hzw1 := bsize hw1
  (try simp only [World.size_alloc, World.size_setCell, World.size_drew, World.heap_drewN] at hcw1 hfw1 hzw1)
  have l1 : w.heap.size < w1.heap.size := by omega
  have l2 : w.heap.size + 1 < w1.heap.size := by omega
  gi_wp2_with fail

  refine ⟨trivial, ?_⟩
  refine (callsIn_wide.2 (hwk.out _)).mono ?_
  rintro e w2 ⟨rfl, rfl⟩
  have b0 : blk w1 w.heap.size #[.int .i64 root.at_, .int .i64 root.len, .slice uo us.length ucap] 80 := blk_ext (block_alloc (block_alloc (block_alloc (block_alloc (block_new' _ (by simp)))))) hw1
  have b1 : blk w1 (w.heap.size + 1) #[.int .i64 size] 3 := blk_ext (block_alloc (block_alloc (block_alloc (block_new' _ (by simp))))) hw1
  have b2 : blk w1 (w.heap.size + 2) #[.int .i64 0, .int .i64 0] 26 := blk_ext (block_alloc (block_alloc (block_new' _ (by simp)))) hw1
  have b3 : blk w1 (w.heap.size + 3) #[.bool false] 4 := blk_ext (block_alloc (block_new' _ (by simp))) hw1
  have b4 : blk w1 (w.heap.size + 4) #[.int .i64 0] 29 := blk_ext (block_new' _ (by simp)) hw1
  have hlo : decide (size < root.len) = false := by simp; omega
  have hhi : decide (16 < size) = false := by simp; omega
  gi_wp2_with fail
  have hx2 : Ext w1 ((w1.alloc (.cells #[.int .i64 root.at_, .int .i64 root.len] 26)).alloc (.cells #[.slice uo us.length ucap] 78)) := ext_trans (ext_alloc _ _) (ext_alloc _ _)
  have hxx : Ext w w1 := ext_trans (ext_trans (ext_alloc _ _) (ext_trans (ext_alloc _ _) (ext_trans (ext_alloc _ _) (ext_trans (ext_alloc _ _) (ext_alloc _ _))))) hw1
  have hlen : 16 - root.len = (((16 - root.len).toNat : Nat) : Int) := by omega
  have hroot : root.right = true := by
    unfold chkS at hck0
    split at hck0 <;> (try split at hck0) <;> simp_all [Pfx.right, rightB]
  refine wpIn_rangeFunc_ownH rfl (by omega) (gf := 106) (lb := #[.pointer (some ⟨w1.heap.size, 0, none⟩), .pointer (some ⟨w1.heap.size + 1, 0, none⟩)]) rfl trivial (enters_of Try.func106 (by kernel_rfl) rfl)
    (walk_stops noOwn noG 2 w1.heap.size w1.heap.size (w1.heap.size + 1) us uo ucap root _ hlen hroot _ trivial (fun _ _ _ h => h.elim) (fun _ _ _ _ _ h => h) (fun _ _ _ _ => trivial) (by simp) (by simp) (by simp) ((((h.ext hxx).inW).ext hx2))) KG_t (KG_no_put (w := ((w1.alloc (.cells #[.int .i64 root.at_, .int .i64 root.len] 26)).alloc (.cells #[.slice uo us.length ucap] 78)))) (Below.refl _ _) (fun _ => rfl)
    (FitI w w1 size) (FitX w size) (fitI_own w w1 size _ (by simp; omega)) (fun c => fitX_own w size c _ (by simp; omega))
    ⟨⟨by simp, blk_ext b1 hx2, blk_ext b2 hx2, blk_ext b3 hx2, blk_ext b4 hx2, hx2.size⟩, (ext_trans hxx hx2).mono (Nat.le_refl _)⟩
    (FitAx w w1 root uo us.length ucap size) (fun x a' => by
      intro s X Y row h hg hr
      obtain ⟨Bx, h1, h2, h3⟩ := h
      exact ⟨Bx, h1, blk_kept h2 hg (fun r e => (hr r e).2), h3⟩) ?assign ?body ?done ?stop
  case assign =>
    intro l pre x W K hi hK
    have hi' := hi
    obtain ⟨⟨-, -, -, -, -, hsz⟩, hB⟩ := hi'
    unfold Pfx.v
    gi_wp2
    refine hK _ _ ((KeepsOthers.alloc _ _).from _) (KG_no (ext_alloc _ _)) (fitI_own w w1 size w.heap.size (Nat.le_refl _) _ _ _ none hi (World.grownBy_alloc _ _ _) (fun r e => by cases e)) ⟨W.heap.size, hsz, block_new _ _, rfl⟩
  case body =>
    rintro l pre x a' W hl ⟨r, hr⟩ hi ⟨Bx, hBx, bX, rfl⟩ hlt
    obtain ⟨⟨hp, c1, c2, c3, c4, hsz⟩, hB⟩ := hi
    have x0 := blk_cell (o := 0) bX rfl
    have x1 := blk_cell (o := 1) bX rfl
    have s0 := blk_cell (o := 0) c1 rfl
    have p0 := blk_cell (o := 0) c2 rfl
    have p1 := blk_cell (o := 1) c2 rfl
    have q0 := blk_cell (o := 0) c3 rfl
    have r0 := blk_cell (o := 0) c4 rfl
    have f2 : ∀ o, W.frozen? ⟨w.heap.size + 2, o, none⟩ = false := fun o => blk_free c2
    have f3 : ∀ o, W.frozen? ⟨w.heap.size + 3, o, none⟩ = false := fun o => blk_free c3
    have f4 : ∀ o, W.frozen? ⟨w.heap.size + 4, o, none⟩ = false := fun o => blk_free c4
    unfold fitAct
    cases hx : decide (x.len ≤ size)
    · have Hx := Lib.hid hx
      gi_wp2
      exact ⟨(KeepsOthers.refl _).from _, KG_no (Below.refl _ _), ⟨⟨fun y hy => (List.mem_append.1 hy).elim (hp y) (fun e => by simp at e; rw [e]; exact Hx.out), c1, c2, c3, c4, hsz⟩, hB⟩⟩
    · have Hx := Lib.hid hx
      gi_wp2
      refine ⟨((((KeepsOthers.setCell _ _ _).trans (KeepsOthers.setCell _ _ _)).trans (KeepsOthers.setCell _ _ _)).trans (KeepsOthers.setCell _ _ _)).from _, ⟨⟨rfl, pre, x, rfl, Hx.out, hp, ?_, ?_, ?_⟩, ?_⟩⟩
      · exact blk_other (blk_other (blk_set (blk_set c2 _) _) (by omega) _) (by omega) _
      · exact blk_other (blk_set (blk_other (blk_other c3 (by omega) _) (by omega) _) _) (by omega) _
      · exact blk_set (blk_other (blk_other (blk_other c4 (by omega) _) (by omega) _) (by omega) _) _
      · exact (((hB.setCell (p := ⟨w.heap.size + 2, 0, none⟩) (by simp) _).setCell (p := ⟨w.heap.size + 2, 1, none⟩) (by simp) _).setCell (p := ⟨w.heap.size + 3, 0, none⟩) (by simp) _).setCell (p := ⟨w.heap.size + 4, 0, none⟩) (by simp) _
  case done =>
    rintro D ys W hD rfl ⟨⟨hne, c1, c2, c3, c4, hsz⟩, hB⟩ hK
    have p0 := blk_cell (o := 0) c2 rfl
    have p1 := blk_cell (o := 1) c2 rfl
    have q0 := blk_cell (o := 0) c3 rfl
    have r0 := blk_cell (o := 0) c4 rfl
    have f2 : ∀ o, W.frozen? ⟨w.heap.size + 2, o, none⟩ = false := fun o => blk_free c2
    have f3 : ∀ o, W.frozen? ⟨w.heap.size + 3, o, none⟩ = false := fun o => blk_free c3
    have f4 : ∀ o, W.frozen? ⟨w.heap.size + 4, o, none⟩ = false := fun o => blk_free c4
    have hfit : fitS root us size = (Pfx.zero, false, 0) := by
      unfold fitS
      rw [if_pos hck0, if_neg (by omega)]
      have : (holesS root us).find? (fun q => decide (q.len ≤ size)) = none := by
        rw [List.find?_eq_none]
        intro q hq
        rw [hne q hq]; simp
      rw [this]
    replace hfit := Lib.hid hfit
    replace hne := Lib.hid hne
    have hK' := ((((KeepsOthers.setCell W ⟨w.heap.size + 2, 0, none⟩ (.int .i64 0)).trans (KeepsOthers.setCell _ ⟨w.heap.size + 2, 1, none⟩ (.int .i64 0))).trans (KeepsOthers.setCell _ ⟨w.heap.size + 3, 0, none⟩ (.bool false))).trans (KeepsOthers.setCell _ ⟨w.heap.size + 4, 0, none⟩ (.int .i64 0))).same D _ hK rfl
    have e2 := blk_kept (blk_other (c := w.heap.size + 4) (o := 0) (blk_other (c := w.heap.size + 3) (o := 0) (blk_set (o := 1) (blk_set (o := 0) c2 (.int .i64 0)) (.int .i64 0)) (by omega) (.bool false)) (by omega) (.int .i64 0)) (grownBy_putObj' _ D (.deferred none)) (fun r e => by cases e; exact ⟨_, hK', rfl⟩)
    have e3 := blk_kept (blk_other (c := w.heap.size + 4) (o := 0) (blk_set (o := 0) (blk_other (c := w.heap.size + 2) (o := 1) (blk_other (c := w.heap.size + 2) (o := 0) c3 (by omega) (.int .i64 0)) (by omega) (.int .i64 0)) (.bool false)) (by omega) (.int .i64 0)) (grownBy_putObj' _ D (.deferred none)) (fun r e => by cases e; exact ⟨_, hK', rfl⟩)
    have e4 := blk_kept (blk_set (o := 0) (blk_other (c := w.heap.size + 3) (o := 0) (blk_other (c := w.heap.size + 2) (o := 1) (blk_other (c := w.heap.size + 2) (o := 0) c4 (by omega) (.int .i64 0)) (by omega) (.int .i64 0)) (by omega) (.bool false)) (.int .i64 0)) (grownBy_putObj' _ D (.deferred none)) (fun r e => by cases e; exact ⟨_, hK', rfl⟩)
    have hB4 := ((((hB.setCell (p := ⟨w.heap.size + 2, 0, none⟩) (by simp) (.int .i64 0)).setCell (p := ⟨w.heap.size + 2, 1, none⟩) (by simp) (.int .i64 0)).setCell (p := ⟨w.heap.size + 3, 0, none⟩) (by simp) (.bool false)).setCell (p := ⟨w.heap.size + 4, 0, none⟩) (by simp) (.int .i64 0)).trans (belowK_b (w := w) (Nat.le_refl _) _ D _ (.deferred none) (by simp at hD; omega) hK' rfl rfl)
    gi_wp2
    refine ⟨by simp, .inl ⟨_, _, rfl, run_takeDeferred hK', ?_⟩⟩
    refine ⟨.tuple #[Pfx.zero.v, .bool false, .int .i64 0], ?_, by rw [hfit.out], hB4⟩
    have y0 := blk_cell (o := 0) e2 rfl
    have y1 := blk_cell (o := 1) e2 rfl
    have y2 := blk_cell (o := 0) e3 rfl
    have y3 := blk_cell (o := 0) e4 rfl
    unfold Pfx.zero Pfx.v
    simp [results, Try.f82, go_sem, y0, y1, y2, y3]
  case stop =>
    rintro D c pre W hD hpre ⟨⟨rfl, q, x, hq, hx, hn, c2, c3, c4⟩, hB⟩ hK
    have hfit : fitS root us size = (⟨x.at_, size⟩, true, 0) := by
      unfold fitS
      rw [if_pos hck0, if_neg (by omega)]
      have : (holesS root us).find? (fun q => decide (q.len ≤ size)) = some x := by
        obtain ⟨r, hr⟩ := hpre
        unfold holesS
        rw [← hr, hq, List.append_assoc, List.find?_append]
        have h1 : q.find? (fun q => decide (q.len ≤ size)) = none := by
          rw [List.find?_eq_none]
          intro y hy
          rw [hn y hy]; simp
        rw [h1]
        simp only [List.cons_append, List.find?_cons, hx, Option.none_or]
      rw [this]
    replace hfit := Lib.hid hfit
    replace hn := Lib.hid hn
    replace hq := Lib.hid hq
    replace hpre := Lib.hid hpre
    have e2 := blk_kept c2 (grownBy_putObj' _ D (.deferred none)) (fun r e => by cases e; exact ⟨_, hK, rfl⟩)
    have e3 := blk_kept c3 (grownBy_putObj' _ D (.deferred none)) (fun r e => by cases e; exact ⟨_, hK, rfl⟩)
    have e4 := blk_kept c4 (grownBy_putObj' _ D (.deferred none)) (fun r e => by cases e; exact ⟨_, hK, rfl⟩)
    have hB4 := hB.trans (belowK_b (w := w) (Nat.le_refl _) _ D _ (.deferred none) (by simp at hD; omega) hK rfl rfl)
    gi_wp2
    refine ⟨by simp, .inl ⟨_, _, rfl, run_takeDeferred hK, ?_⟩⟩
    refine ⟨.tuple #[Pfx.v ⟨x.at_, size⟩, .bool true, .int .i64 0], ?_, by rw [hfit.out], hB4⟩
    have y0 := blk_cell (o := 0) e2 rfl
    have y1 := blk_cell (o := 1) e2 rfl
    have y2 := blk_cell (o := 0) e3 rfl
    have y3 := blk_cell (o := 0) e4 rfl
    unfold Pfx.v
    simp [results, Try.f82, go_sem, y0, y1, y2, y3]
set_option maxHeartbeats 1000000 in
set_option maxRecDepth 100000 in
theorem fit_any {A : Area} (root : Pfx) (us : List Pfx) (uo : Option Addr) (ucap : Nat) (size : Int) (w : World) (h : Sl A w 2 Pfx.R uo ucap us) :
    Calls Try.prog 82 #[.agg #[.int .i64 root.at_, .int .i64 root.len, .slice uo us.length ucap], .int .i64 size] w fun e w' =>
      e = .returned (.tuple #[(fitS root us size).1.v, .bool (fitS root us size).2.1, .int .i64 (fitS root us size).2.2]) ∧ Ext w w' := by
  by_cases h0 : chkS root us = 0
  · by_cases h1 : root.len ≤ size ∧ size ≤ 16
    · exact fit_loop root us uo ucap size w h h0 h1.1 h1.2
    · have hf : fitS root us size = (Pfx.zero, false, 3) := by unfold fitS; rw [if_pos h0, if_pos (by omega)]
      rw [hf]
      have hck := fun W (h : Sl A W 2 Pfx.R uo ucap us) => spaceCheck_any root us uo ucap W h
      rw [h0] at hck
      replace hck := Lib.hid hck
      clear hf h0
      unfold Pfx.zero Pfx.v
      by_cases h2 : size < root.len
      · have hlo : decide (size < root.len) = true := by simp [h2]
        clear h1
        go_enter Try.func82, Try.ntmps82
        go_wp2_with fail
        refine (hck.out _ (h.ext (ext_trans (ext_alloc _ _) (ext_trans (ext_alloc _ _) (ext_trans (ext_alloc _ _) (ext_trans (ext_alloc _ _) (ext_alloc _ _))))))).mono ?_
        rintro e w1 ⟨rfl, hw1⟩
        obtain ⟨hcw1, hfw1⟩ := bcell hw1
        have hzw1 := bsize hw1
        (try simp only [World.size_alloc, World.size_setCell, World.size_drew, World.heap_drewN] at hcw1 hfw1 hzw1)
        go_wp2_with fail
        refine bodyPost_ret ?_ rfl ⟨rfl, Bel.bel (B := _) ?_⟩
        · simp [results, Try.results82, go_sem, hcw1]
        · (repeat (first | with_reducible assumption | with_reducible exact Bel.refl _ | with_reducible refine Bel.alloc ?_ _ | with_reducible refine Bel.drewN ?_ _ | with_reducible refine Bel.drew ?_ | (with_reducible refine Bel.setCell0 ?_ ?_ _; rotate_left; (first | omega | (simp; done) | (simp; omega))) | (with_reducible refine Bel.setCell ?_ (p := _) ?_ _; rotate_left; (first | (simp; done) | omega | (simp; omega))) | refine Bel.call ?_ (by assumption) | (refine EX.bel ?_ (by assumption) ?_; rotate_left; (first | omega | (simp; omega)))))
      · have hlo : decide (size < root.len) = false := by simp [h2]
        have hhi : decide (16 < size) = true := by simp; omega
        clear h1
        go_enter Try.func82, Try.ntmps82
        go_wp2_with fail
        refine (hck.out _ (h.ext (ext_trans (ext_alloc _ _) (ext_trans (ext_alloc _ _) (ext_trans (ext_alloc _ _) (ext_trans (ext_alloc _ _) (ext_alloc _ _))))))).mono ?_
        rintro e w1 ⟨rfl, hw1⟩
        obtain ⟨hcw1, hfw1⟩ := bcell hw1
        have hzw1 := bsize hw1
        (try simp only [World.size_alloc, World.size_setCell, World.size_drew, World.heap_drewN] at hcw1 hfw1 hzw1)
        go_wp2_with fail
        refine bodyPost_ret ?_ rfl ⟨rfl, Bel.bel (B := _) ?_⟩
        · simp [results, Try.results82, go_sem, hcw1]
        · (repeat (first | with_reducible assumption | with_reducible exact Bel.refl _ | with_reducible refine Bel.alloc ?_ _ | with_reducible refine Bel.drewN ?_ _ | with_reducible refine Bel.drew ?_ | (with_reducible refine Bel.setCell0 ?_ ?_ _; rotate_left; (first | omega | (simp; done) | (simp; omega))) | (with_reducible refine Bel.setCell ?_ (p := _) ?_ _; rotate_left; (first | (simp; done) | omega | (simp; omega))) | refine Bel.call ?_ (by assumption) | (refine EX.bel ?_ (by assumption) ?_; rotate_left; (first | omega | (simp; omega)))))
  · have hf : fitS root us size = (Pfx.zero, false, chkS root us) := by unfold fitS; rw [if_neg h0]
    rw [hf]
    have hck := fun W (h : Sl A W 2 Pfx.R uo ucap us) => spaceCheck_any root us uo ucap W h
    obtain ⟨c, hc⟩ : ∃ c, c = chkS root us := ⟨_, rfl⟩
    rw [← hc] at hck h0 ⊢
    have hne : (c != 0) = true := by simpa using h0
    replace hck := Lib.hid hck
    clear hf h0 hc
    unfold Pfx.zero Pfx.v
    go_enter Try.func82, Try.ntmps82
    go_wp2_with fail
    refine (hck.out _ (h.ext (ext_trans (ext_alloc _ _) (ext_trans (ext_alloc _ _) (ext_trans (ext_alloc _ _) (ext_trans (ext_alloc _ _) (ext_alloc _ _))))))).mono ?_
    rintro e w1 ⟨rfl, hw1⟩
    obtain ⟨hcw1, hfw1⟩ := bcell hw1
    have hzw1 := bsize hw1
    (try simp only [World.size_alloc, World.size_setCell, World.size_drew, World.heap_drewN] at hcw1 hfw1 hzw1)
    go_wp2_with fail
    refine bodyPost_ret ?_ rfl ⟨rfl, Bel.bel (B := _) ?_⟩
    · simp [results, Try.results82, go_sem, hcw1]
    · (repeat (first | with_reducible assumption | with_reducible exact Bel.refl _ | with_reducible refine Bel.alloc ?_ _ | with_reducible refine Bel.drewN ?_ _ | with_reducible refine Bel.drew ?_ | (with_reducible refine Bel.setCell0 ?_ ?_ _; rotate_left; (first | omega | (simp; done) | (simp; omega))) | (with_reducible refine Bel.setCell ?_ (p := _) ?_ _; rotate_left; (first | (simp; done) | omega | (simp; omega))) | refine Bel.call ?_ (by assumption) | (refine EX.bel ?_ (by assumption) ?_; rotate_left; (first | omega | (simp; omega)))))
end Go.Proofs.Ytbeocackphfijaa
namespace Go.Proofs.Ytbeocackphfijaa
open Go Go.RowKit Go.Proofs
/-- Behind a prefix's last address. -/
def Pfx.hi (p : Pfx) : Int := p.at_ + szI p.len
theorem Pfx.bd {p : Pfx} (h : p.right = true) : 0 ≤ p.len ∧ p.len ≤ 16 ∧ 0 ≤ p.at_ ∧ p.at_ ≤ 65535 ∧ p.at_ % szI p.len = 0 := right_bd h
theorem Pfx.hi_bd {p : Pfx} (h : p.right = true) : p.at_ < p.hi ∧ p.hi ≤ 65536 := by
  have h1 := right_fit h
  obtain ⟨g1, -⟩ := p.bd h
  have h2 := szI_bd g1
  unfold Pfx.hi; omega
/-- An address lies in an aligned block just if its block begins there. -/
theorem blk_iff {s a b : Int} (hs : 0 < s) (hb : b % s = 0) : a - a % s = b ↔ b ≤ a ∧ a < b + s := by
  have h1 := Int.emod_nonneg a (b := s) (by omega)
  have h2 := Int.emod_lt_of_pos a hs
  constructor
  · intro h; omega
  · intro ⟨h3, h4⟩
    have h5 : (a - b) % s = a % s := by rw [Int.sub_emod, hb, Int.sub_zero, Int.emod_emod]
    rw [Int.emod_eq_of_lt (by omega) (by omega)] at h5
    omega
theorem dvd_step {s x : Int} (hs : 0 < s) (hx : 0 < x) (hd : s ∣ x) : s ≤ x := Int.le_of_dvd hx hd
/-- Two right prefixes, the second no longer: they meet just if the first lies in the second. -/
theorem nest {p q : Pfx} (hp : p.right = true) (hq : q.right = true) (hl : q.len ≤ p.len) (h1 : p.at_ < q.hi) (h2 : q.at_ < p.hi) : q.at_ ≤ p.at_ ∧ p.hi ≤ q.hi := by
  obtain ⟨a1, a2, a3, a4, a5⟩ := p.bd hp
  obtain ⟨b1, b2, b3, b4, b5⟩ := q.bd hq
  obtain ⟨k, hk, hk1⟩ := szI_dvd b1 hl a2
  have s1 := szI_bd a1
  have s2 := szI_bd b1
  unfold Pfx.hi at *
  have dq : szI p.len ∣ q.at_ := Int.dvd_trans ⟨k, hk⟩ (Int.dvd_of_emod_eq_zero b5)
  have dp : szI p.len ∣ p.at_ := Int.dvd_of_emod_eq_zero a5
  have dm : szI p.len ∣ szI q.len := ⟨k, hk⟩
  refine ⟨?_, ?_⟩
  · rcases Int.lt_or_le p.at_ q.at_ with h | h
    · have := dvd_step (by omega) (show 0 < q.at_ - p.at_ by omega) (Int.dvd_sub dq dp)
      omega
    · exact h
  · have := dvd_step (by omega) (show 0 < q.at_ + szI q.len - p.at_ by omega) (Int.dvd_sub (Int.dvd_add dq dm) dp)
    omega
theorem insQ_iff {p q : Pfx} : insQ p q = true ↔ p.right = true ∧ q.right = true ∧ q.len ≤ p.len ∧ q.at_ ≤ p.at_ ∧ p.at_ < q.hi := by
  unfold insQ insP Pfx.right
  constructor
  · intro h
    simp only [Bool.and_eq_true, decide_eq_true_eq, beq_iff_eq] at h
    obtain ⟨⟨⟨h1, h2⟩, h3⟩, h4⟩ := h
    obtain ⟨b1, b2, b3, b4, b5⟩ := right_bd h2
    have := (blk_iff (by have := szI_bd b1; omega) b5).1 h4
    exact ⟨h1, h2, h3, this.1, this.2⟩
  · intro ⟨h1, h2, h3, h4, h5⟩
    obtain ⟨b1, b2, b3, b4, b5⟩ := right_bd h2
    simp only [Bool.and_eq_true, decide_eq_true_eq, beq_iff_eq]
    exact ⟨⟨⟨h1, h2⟩, h3⟩, (blk_iff (by have := szI_bd b1; omega) b5).2 ⟨h4, h5⟩⟩
theorem le_mul1 {s k : Int} (hs : 0 ≤ s) (hk : 1 ≤ k) : s ≤ s * k := by
  have := Int.mul_le_mul_of_nonneg_left hk hs
  rwa [Int.mul_one] at this
theorem szI_le {l m : Int} (h0 : 0 ≤ m) (h2 : l ≤ 16) (h3 : 0 ≤ l) (hm : m ≤ 16) : szI l ≤ szI m ↔ m ≤ l := by
  constructor
  · intro h
    rcases Int.lt_or_le l m with hlt | hle
    · obtain ⟨k, hk, hk1⟩ := szI_dvd (l := m) (m := l + 1) (by omega) (by omega) hm
      have e := szI_half h3 (by omega)
      have s1 := szI_bd h0
      have : szI m ≤ szI (l + 1) := by rw [hk]; exact le_mul1 (by have := szI_bd (n := l + 1) (by omega); omega) hk1
      omega
    · exact hle
  · intro h
    obtain ⟨k, hk, hk1⟩ := szI_dvd h0 h h2
    rw [hk]
    exact le_mul1 (by have := szI_bd h3; omega) hk1
theorem insQ_hi {p q : Pfx} : insQ p q = true ↔ p.right = true ∧ q.right = true ∧ q.at_ ≤ p.at_ ∧ p.hi ≤ q.hi := by
  rw [insQ_iff]
  constructor
  · intro ⟨h1, h2, h3, h4, h5⟩
    exact ⟨h1, h2, nest h1 h2 h3 h5 (by have := p.hi_bd h1; omega)⟩
  · intro ⟨h1, h2, h3, h4⟩
    have hp := p.hi_bd h1
    obtain ⟨a1, a2, -⟩ := p.bd h1
    obtain ⟨b1, b2, -⟩ := q.bd h2
    exact ⟨h1, h2, (szI_le b1 a2 a1 b2).1 (by unfold Pfx.hi at *; omega), h3, by omega⟩
theorem meets_iff {p q : Pfx} : p.meets q = true ↔ p.right = true ∧ q.right = true ∧ p.at_ < q.hi ∧ q.at_ < p.hi := by
  have e : p.meets q = (insQ p q || insQ q p) := rfl
  rw [e, Bool.or_eq_true, insQ_iff, insQ_iff]
  constructor
  · rintro (⟨h1, h2, h3, h4, h5⟩ | ⟨h1, h2, h3, h4, h5⟩)
    · exact ⟨h1, h2, h5, by have := p.hi_bd h1; omega⟩
    · exact ⟨h2, h1, by have := q.hi_bd h1; omega, h5⟩
  · intro ⟨h1, h2, h3, h4⟩
    rcases Int.le_total q.len p.len with hl | hl
    · exact .inl ⟨h1, h2, hl, (nest h1 h2 hl h3 h4).1, h3⟩
    · exact .inr ⟨h2, h1, hl, (nest h2 h1 hl h4 h3).1, h4⟩
end Go.Proofs.Ytbeocackphfijaa
namespace Go.Proofs.Ytbeocackphfijaa
open Go Go.RowKit Go.Proofs
def Apart (a b : Pfx) : Prop := a.hi ≤ b.at_
theorem usedOK_iff (root : Pfx) : ∀ (us : List Pfx) (f : Int), usedOK root f us = true ↔ (∀ u ∈ us, insQ u root = true) ∧ (∀ u ∈ us, f ≤ u.at_) ∧ us.Pairwise Apart
  | [], f => by simp [usedOK]
  | p :: ps, f => by
    rw [usedOK_cons, Bool.and_eq_true, Bool.and_eq_true, decide_eq_true_eq, usedOK_iff root ps, List.pairwise_cons]
    constructor
    · intro ⟨h1, h2, h3, h4, h5⟩
      have hp := p.hi_bd (insQ_hi.1 h1).1
      refine ⟨?_, ?_, ⟨fun u hu => h4 u hu, h5⟩⟩
      · intro u hu; rcases List.mem_cons.1 hu with rfl | hu
        · exact h1
        · exact h3 u hu
      · intro u hu; rcases List.mem_cons.1 hu with rfl | hu
        · exact h2
        · have := h4 u hu; unfold Pfx.hi at hp; omega
    · intro ⟨h1, h2, h3, h4⟩
      exact ⟨h1 p (by simp), h2 p (by simp), fun u hu => h1 u (by simp [hu]), fun u hu => h3 u hu, h4⟩
structure SpaceOK (root : Pfx) (us : List Pfx) : Prop where
  rr : root.right = true
  many : us.length ≤ 32
  ins : ∀ u ∈ us, insQ u root = true
  apart : us.Pairwise Apart
theorem chkS_ok {root : Pfx} {us : List Pfx} : chkS root us = 0 ↔ SpaceOK root us := by
  unfold chkS
  constructor
  · intro h
    split at h
    · omega
    · rename_i h1
      split at h
      · rename_i h2
        split at h
        · rename_i h3
          obtain ⟨g1, g2, g3⟩ := (usedOK_iff root us _).1 h3
          exact ⟨by simp [Pfx.right, rightB, h2], by omega, g1, g3⟩
        · omega
      · omega
  · intro ⟨h1, h2, h3, h4⟩
    have hc : chk root.at_ root.len = 0 := by unfold Pfx.right rightB at h1; simpa using h1
    rw [if_neg (by omega), if_pos hc, if_pos ((usedOK_iff root us _).2 ⟨h3, fun u hu => (insQ_hi.1 (h3 u hu)).2.2.1, h4⟩)]
end Go.Proofs.Ytbeocackphfijaa
namespace Go.Proofs.Ytbeocackphfijaa
open Go Go.RowKit Go.Proofs
/-- Free: it meets no used one. -/
def freeP (us : List Pfx) (p : Pfx) : Bool := !us.any p.meets
theorem low_ins {p : Pfx} (h : p.right = true) (hl : p.len < 16) : p.low.at_ = p.at_ ∧ p.low.hi = p.high.at_ ∧ p.high.hi = p.hi ∧ p.at_ < p.high.at_ ∧ p.high.at_ < p.hi := by
  obtain ⟨g1, -⟩ := p.bd h
  have e := szI_half g1 hl
  have s1 := szI_bd (n := p.len + 1) (by omega)
  unfold Pfx.low Pfx.high Pfx.hi
  refine ⟨rfl, rfl, ?_, ?_, ?_⟩ <;> simp <;> omega
theorem insQ_trans {a b c : Pfx} (h : insQ a b = true) (k : insQ b c = true) : insQ a c = true := by
  rw [insQ_hi] at *
  exact ⟨h.1, k.2.1, by omega, by omega⟩
/-- What lies in p, and is shorter than all of p, lies in one half. -/
theorem ins_half {b p : Pfx} (h : insQ b p = true) (hl : p.len < b.len) : insQ b p.low = true ∨ insQ b p.high = true := by
  obtain ⟨k1, k2, k3, k4⟩ := insQ_hi.1 h
  obtain ⟨b1, b2, -⟩ := b.bd k1
  have hp16 : p.len < 16 := by omega
  obtain ⟨e1, e2, e3, e4, e5⟩ := low_ins k2 hp16
  have hb := b.hi_bd k1
  rcases Int.lt_or_le b.at_ p.high.at_ with hlt | hle
  · left
    rw [insQ_iff]
    exact ⟨k1, low_right k2 hp16, by simp [Pfx.low]; omega, by rw [e1]; exact k3, by rw [e2]; exact hlt⟩
  · right
    rw [insQ_iff]
    exact ⟨k1, high_right k2 hp16, by simp [Pfx.high]; omega, hle, by rw [e3]; omega⟩
theorem low_insQ {p : Pfx} (h : p.right = true) (hl : p.len < 16) : insQ p.low p = true := by
  obtain ⟨e1, e2, e3, e4, e5⟩ := low_ins h hl
  exact insQ_hi.2 ⟨low_right h hl, h, by omega, by omega⟩
theorem high_insQ {p : Pfx} (h : p.right = true) (hl : p.len < 16) : insQ p.high p = true := by
  obtain ⟨e1, e2, e3, e4, e5⟩ := low_ins h hl
  exact insQ_hi.2 ⟨high_right h hl, h, by omega, by omega⟩
theorem insQ_refl {p : Pfx} (h : p.right = true) : insQ p p = true := insQ_hi.2 ⟨h, h, by omega, by omega⟩
theorem hole_ins (us : List Pfx) : ∀ (n : Nat) (p : Pfx), 16 - p.len = (n : Int) → p.right = true → ∀ q ∈ holesF us n p, insQ q p = true ∧ freeP us q = true
  | 0, p, hn, hr, q, hq => by
    unfold holesF at hq
    split at hq
    · cases hq
    · rename_i h
      obtain rfl : q = p := by simpa using hq
      exact ⟨insQ_refl hr, by unfold freeP; simpa using h⟩
  | n + 1, p, hn, hr, q, hq => by
    unfold holesF at hq
    split at hq
    · split at hq
      · cases hq
      · have hl : p.len < 16 := by omega
        rcases List.mem_append.1 hq with h | h
        · have := hole_ins us n p.low (by simp [Pfx.low]; omega) (low_right hr hl) q h
          exact ⟨insQ_trans this.1 (low_insQ hr hl), this.2⟩
        · have := hole_ins us n p.high (by simp [Pfx.high]; omega) (high_right hr hl) q h
          exact ⟨insQ_trans this.1 (high_insQ hr hl), this.2⟩
    · rename_i h
      obtain rfl : q = p := by simpa using hq
      exact ⟨insQ_refl hr, by unfold freeP; simpa using h⟩
theorem hole_sorted (us : List Pfx) : ∀ (n : Nat) (p : Pfx), 16 - p.len = (n : Int) → p.right = true → (holesF us n p).Pairwise Apart
  | 0, p, hn, hr => by unfold holesF; split <;> simp
  | n + 1, p, hn, hr => by
    unfold holesF
    split
    · split
      · simp
      · have hl : p.len < 16 := by omega
        have h1 := hole_sorted us n p.low (by simp [Pfx.low]; omega) (low_right hr hl)
        have h2 := hole_sorted us n p.high (by simp [Pfx.high]; omega) (high_right hr hl)
        refine List.pairwise_append.2 ⟨h1, h2, fun a ha b hb => ?_⟩
        have ka := (insQ_hi.1 (hole_ins us n p.low (by simp [Pfx.low]; omega) (low_right hr hl) a ha).1)
        have kb := (insQ_hi.1 (hole_ins us n p.high (by simp [Pfx.high]; omega) (high_right hr hl) b hb).1)
        obtain ⟨e1, e2, e3, e4, e5⟩ := low_ins hr hl
        unfold Apart
        omega
    · simp
/-- Whatever is free lies in a hole. -/
theorem hole_all (us : List Pfx) (hu : ∀ u ∈ us, u.right = true) : ∀ (n : Nat) (p : Pfx), 16 - p.len = (n : Int) → p.right = true → ∀ b, insQ b p = true → freeP us b = true → ∃ h ∈ holesF us n p, insQ b h = true
  | n, p, hn, hr, b, hb, hf => by
    have hbr := (insQ_hi.1 hb).1
    have hbh := b.hi_bd hbr
    by_cases hm : us.any p.meets = true
    · have hnc : us.contains p = false := by
        rw [Bool.eq_false_iff]
        intro hc
        have hp : p ∈ us := by simpa using hc
        have : us.any b.meets = true := List.any_eq_true.2 ⟨p, hp, meets_iff.2 ⟨hbr, hr, by have := insQ_iff.1 hb; omega, by have := insQ_iff.1 hb; omega⟩⟩
        unfold freeP at hf; rw [this] at hf; cases hf
      have hlen : p.len < b.len := by
        have h3 := (insQ_iff.1 hb).2.2.1
        rcases Int.lt_or_eq_of_le h3 with h | h
        · exact h
        · exfalso
          have hi := (insQ_hi.1 hb)
          have : b = p := by
            obtain ⟨ba, bl⟩ := b
            obtain ⟨pa, pl⟩ := p
            simp only [Pfx.mk.injEq]
            simp only [Pfx.hi] at hi
            simp only at h
            subst h
            exact ⟨by omega, rfl⟩
          subst this
          unfold freeP at hf; rw [hm] at hf; cases hf
      obtain ⟨b1, b2, -⟩ := b.bd hbr
      have hl : p.len < 16 := by omega
      match n, hn with
      | 0, hn => omega
      | n + 1, hn =>
        unfold holesF
        rw [if_pos hm, if_neg (by rw [hnc]; simp)]
        rcases ins_half hb hlen with h | h
        · obtain ⟨q, hq, hi⟩ := hole_all us hu n p.low (by simp [Pfx.low]; omega) (low_right hr hl) b h hf
          exact ⟨q, List.mem_append.2 (.inl hq), hi⟩
        · obtain ⟨q, hq, hi⟩ := hole_all us hu n p.high (by simp [Pfx.high]; omega) (high_right hr hl) b h hf
          exact ⟨q, List.mem_append.2 (.inr hq), hi⟩
    · refine ⟨p, ?_, hb⟩
      match n with
      | 0 => unfold holesF; rw [if_neg hm]; simp
      | n + 1 => unfold holesF; rw [if_neg hm]; simp
theorem holesS_ins {root : Pfx} {us : List Pfx} (h : SpaceOK root us) {q : Pfx} (hq : q ∈ holesS root us) : insQ q root = true ∧ freeP us q = true := by
  obtain ⟨g1, g2, -⟩ := root.bd h.rr
  exact hole_ins us _ root (by omega) h.rr q hq
theorem holesS_sorted {root : Pfx} {us : List Pfx} (h : SpaceOK root us) : (holesS root us).Pairwise Apart := by
  obtain ⟨g1, g2, -⟩ := root.bd h.rr
  exact hole_sorted us _ root (by omega) h.rr
theorem holesS_all {root : Pfx} {us : List Pfx} (h : SpaceOK root us) {b : Pfx} (hb : insQ b root = true) (hf : freeP us b = true) : ∃ q ∈ holesS root us, insQ b q = true := by
  obtain ⟨g1, g2, -⟩ := root.bd h.rr
  exact hole_all us (fun u hu => (insQ_hi.1 (h.ins u hu)).1) _ root (by omega) h.rr b hb hf
theorem free_sub {us : List Pfx} {a b : Pfx} (h : insQ a b = true) (hf : freeP us b = true) : freeP us a = true := by
  unfold freeP at *
  rw [Bool.not_eq_true'] at *
  rw [List.any_eq_false] at *
  intro u hu hm
  obtain ⟨k1, k2, k3, k4⟩ := insQ_hi.1 h
  obtain ⟨m1, m2, m3, m4⟩ := meets_iff.1 hm
  exact hf u hu (meets_iff.2 ⟨k2, m2, by omega, by omega⟩)
end Go.Proofs.Ytbeocackphfijaa
namespace Go.Proofs.Ytbeocackphfijaa
open Go Go.RowKit
theorem spCheck_p (root : Pfx) (us : List Pfx) : PSpec Try.prog 50 [.agg (encS root us)] (.v (.int .i64 (chkS root us))) := by
  refine ⟨fnok_of Try.func50 (by kernel_rfl) rfl, fun M w vs hM hds => ?_⟩
  obtain ⟨v, vs, rfl, h1, hds⟩ := repDs_cons hds
  rw [repDs_nil hds]
  obtain ⟨uo, cap, rfl, hs⟩ := repD_S h1
  exact (spaceCheck_any root us uo cap w hs).mono fun e w' ⟨he, hx⟩ => ⟨_, he, .v _, hx⟩
theorem spFit_p (root : Pfx) (us : List Pfx) (size : Int) : PSpec Try.prog 82 [.agg (encS root us), .v (.int .i64 size)] (.tup [.agg (encP (fitS root us size).1), .v (.bool (fitS root us size).2.1), .v (.int .i64 (fitS root us size).2.2)]) := by
  refine ⟨fnok_of Try.func82 (by kernel_rfl) rfl, fun M w vs hM hds => ?_⟩
  obtain ⟨v, vs, rfl, h1, hds⟩ := repDs_cons hds
  obtain ⟨v, vs, rfl, h2, hds⟩ := repDs_cons hds
  rw [repDs_nil hds]
  obtain ⟨uo, cap, rfl, hs⟩ := repD_S h1
  rw [repD_v h2]
  exact (fit_any root us uo cap size w hs).mono fun e w' ⟨he, hx⟩ => ⟨_, he, flat_mk rfl rfl, hx⟩
end Go.Proofs.Ytbeocackphfijaa
namespace Go.Proofs.Ytbeocackphfijaa
open Go Go.RowKit
/-- Do the numbers rise? -/
def sortedI : List Int → Bool
  | a :: b :: l => decide (a ≤ b) && sortedI (b :: l)
  | _ => true
theorem sortedI_at : ∀ (l : List Int), sortedI l = true ↔ ∀ j (h : j + 1 < l.length), l[j] ≤ l[j + 1]
  | [] => by simp [sortedI]
  | [a] => by simp [sortedI]
  | a :: b :: l => by
    have ih := sortedI_at (b :: l)
    simp only [sortedI, Bool.and_eq_true, decide_eq_true_eq, ih]
    constructor
    · rintro ⟨h1, h2⟩ j hj
      cases j with
      | zero => exact h1
      | succ j => exact h2 j (by simpa using hj)
    · intro h
      exact ⟨h 0 (by simp), fun j hj => h (j + 1) (by simpa using hj)⟩
set_option maxHeartbeats 1000000 in
theorem isSorted_p (l : List Int) (hl : l.length ≤ 1000000000) (h0 : l ≠ []) : PSpec Try.prog 80 [.sl 1 (l.map fun n => [encI n])] (.v (.bool (sortedI l))) := by
  have hpos : 0 < l.length := List.length_pos_iff.2 h0
  have hw0 : IntKind.i64.wrap ((l.length : Int) - 1) = ((l.length - 1 : Nat) : Int) := by rw [IntKind.wrap_i64]; omega
  refine ps_i tab_ok mixed Try.func80 rfl Try.ntmps80 Try.results80 (by kernel_rfl) ?_
  repeat' (first | (with_reducible refine And.intro ?_ ?_) | (with_reducible refine gK_i (fun _ => ?_) (fun _ => ?_)) | (with_reducible refine condS_i (fun _ => ?_) (fun _ => ?_)) | (with_reducible refine drw_i (by kernel_rfl)) | simp -dsimp only [go_sem, ↓reduceIte, reduceCtorEq, Nat.reduceAdd, Nat.reduceMul, Nat.reduceSub, Nat.reduceLeDiff, Nat.reduceLT, Nat.reduceEqDiff, Int.reduceLE, Int.reduceLT, Int.reduceToNat, Int.reduceBEq, Int.reduceBNe, Int.reduceEq, Int.reduceAdd, Int.reduceSub, Int.reduceMul, Int.reduceNeg, Int.cast_ofNat_Int, *, hw0] | ((with_reducible refine opK_c ?_); simp -dsimp only [go_sem, ↓reduceIte, reduceCtorEq, Nat.reduceAdd, Nat.reduceMul, Nat.reduceSub, Nat.reduceLeDiff, Nat.reduceLT, Nat.reduceEqDiff, Int.reduceLE, Int.reduceLT, Int.reduceToNat, Int.reduceBEq, Int.reduceBNe, Int.reduceEq, Int.reduceAdd, Int.reduceSub, Int.reduceMul, Int.reduceNeg, Int.cast_ofNat_Int, hw0]; first | refine callK_r (by first | assumption | fail) (by first | exact .inl rfl | exact .inr rfl) ?_ | (refine callK_i (by assumption) ?_ ?_ ?_; (solve | (repeat (first | exact DLe.refl _ | exact DLe.nil _ | (refine DLe.tup ?_) | (refine DLe.agg ?_ rfl) | exact trivial | (refine And.intro ?_ ?_)))); (solve | exact .inl rfl | exact .inr rfl))) | fail | omega | exact decide_eq_true (by omega) | exact DLe.refl _)
  refine loopG tab_ok mixed (fun m e h => ∃ i : Nat, i < l.length ∧ (∀ j (h : j + 1 < l.length), i ≤ j → l[j] ≤ l[j + 1]) ∧ m = i ∧ e = [(3, .d (.v (.int .i64 i))), (2, .d (.v (.bool false))), (0, .d (.sl 1 (l.map fun n => [encI n])))] ∧ h = []) _ _ _ ⟨l.length - 1, by omega, fun j h1 h2 => by omega, rfl, rfl, rfl⟩ ?_ ?_
  · exact weak_forget [] (by simp) rfl ⟨rfl, rfl, rfl, trivial⟩ (by first | rfl | simp only [belowH, belowE, belowC, belowL, belowR, belowP, belowL_d, belowR_d, List.length_cons, List.length_nil, Nat.reduceAdd, Nat.reduceLT, decide_true, Bool.and_self, Bool.and_true]) (by first | rfl | simp only [belowH, belowE, belowC, belowL, belowR, belowP, belowL_d, belowR_d, List.length_cons, List.length_nil, Nat.reduceAdd, Nat.reduceLT, decide_true, Bool.and_self, Bool.and_true])
  · rintro m e h ⟨i, hi, hok, hm, rfl, rfl⟩ CL hCL
    by_cases hi0 : 0 < i
    · obtain ⟨x, hx⟩ : ∃ x, l[i]? = some x := ⟨_, List.getElem?_eq_getElem hi⟩
      obtain ⟨y, hy⟩ : ∃ y, l[i - 1]? = some y := ⟨_, List.getElem?_eq_getElem (by omega)⟩
      have hxe : l[i] = x := by rw [List.getElem?_eq_getElem hi] at hx; exact Option.some.inj hx
      have hye : l[i - 1] = y := by rw [List.getElem?_eq_getElem (by omega)] at hy; exact Option.some.inj hy
      have hgt : decide ((i : Int) > 0) = true := by simpa using hi0
      have hw : IntKind.i64.wrap ((i : Int) - 1) = ((i - 1 : Nat) : Int) := by rw [IntKind.wrap_i64]; omega
      cases hlt : decide (x < y) with
      | true =>
        have hfalse : sortedI l = false := by
          rw [Bool.eq_false_iff, ne_eq, sortedI_at]
          intro h
          have := h (i - 1) (by omega)
          simp only [show i - 1 + 1 = i by omega, hxe, hye] at this
          simp at hlt; omega
        have hls := less_p x y
        rw [hlt] at hls
        repeat' (first | (with_reducible refine And.intro ?_ ?_) | (with_reducible refine gK_i (fun _ => ?_) (fun _ => ?_)) | (with_reducible refine condS_i (fun _ => ?_) (fun _ => ?_)) | (with_reducible refine drw_i (by kernel_rfl)) | simp -dsimp only [go_sem, ↓reduceIte, reduceCtorEq, Nat.reduceAdd, Nat.reduceMul, Nat.reduceSub, Nat.reduceLeDiff, Nat.reduceLT, Nat.reduceEqDiff, Int.reduceLE, Int.reduceLT, Int.reduceToNat, Int.reduceBEq, Int.reduceBNe, Int.reduceEq, Int.reduceAdd, Int.reduceSub, Int.reduceMul, Int.reduceNeg, Int.cast_ofNat_Int, *, hx, hy, hgt, hw, encI] | ((with_reducible refine opK_c ?_); simp -dsimp only [go_sem, ↓reduceIte, reduceCtorEq, Nat.reduceAdd, Nat.reduceMul, Nat.reduceSub, Nat.reduceLeDiff, Nat.reduceLT, Nat.reduceEqDiff, Int.reduceLE, Int.reduceLT, Int.reduceToNat, Int.reduceBEq, Int.reduceBNe, Int.reduceEq, Int.reduceAdd, Int.reduceSub, Int.reduceMul, Int.reduceNeg, Int.cast_ofNat_Int, hx, hy, hgt, hw, encI]; first | refine callK_r (by first | assumption | exact hls) (by first | exact .inl rfl | exact .inr rfl) ?_ | (refine callK_i (by assumption) ?_ ?_ ?_; (solve | (repeat (first | exact DLe.refl _ | exact DLe.nil _ | (refine DLe.tup ?_) | (refine DLe.agg ?_ rfl) | exact trivial | (refine And.intro ?_ ?_)))); (solve | exact .inl rfl | exact .inr rfl))) | fail | omega | exact decide_eq_true (by omega) | exact DLe.refl _)
        all_goals (rw [hfalse]; exact DLe.refl _)
      | false =>
        have hls := less_p x y
        rw [hlt] at hls
        repeat' (first | (with_reducible refine And.intro ?_ ?_) | (with_reducible refine gK_i (fun _ => ?_) (fun _ => ?_)) | (with_reducible refine condS_i (fun _ => ?_) (fun _ => ?_)) | (with_reducible refine drw_i (by kernel_rfl)) | simp -dsimp only [go_sem, ↓reduceIte, reduceCtorEq, Nat.reduceAdd, Nat.reduceMul, Nat.reduceSub, Nat.reduceLeDiff, Nat.reduceLT, Nat.reduceEqDiff, Int.reduceLE, Int.reduceLT, Int.reduceToNat, Int.reduceBEq, Int.reduceBNe, Int.reduceEq, Int.reduceAdd, Int.reduceSub, Int.reduceMul, Int.reduceNeg, Int.cast_ofNat_Int, *, hx, hy, hgt, hw, encI] | ((with_reducible refine opK_c ?_); simp -dsimp only [go_sem, ↓reduceIte, reduceCtorEq, Nat.reduceAdd, Nat.reduceMul, Nat.reduceSub, Nat.reduceLeDiff, Nat.reduceLT, Nat.reduceEqDiff, Int.reduceLE, Int.reduceLT, Int.reduceToNat, Int.reduceBEq, Int.reduceBNe, Int.reduceEq, Int.reduceAdd, Int.reduceSub, Int.reduceMul, Int.reduceNeg, Int.cast_ofNat_Int, hx, hy, hgt, hw, encI]; first | refine callK_r (by first | assumption | exact hls) (by first | exact .inl rfl | exact .inr rfl) ?_ | (refine callK_i (by assumption) ?_ ?_ ?_; (solve | (repeat (first | exact DLe.refl _ | exact DLe.nil _ | (refine DLe.tup ?_) | (refine DLe.agg ?_ rfl) | exact trivial | (refine And.intro ?_ ?_)))); (solve | exact .inl rfl | exact .inr rfl))) | fail | omega | exact decide_eq_true (by omega) | exact DLe.refl _)
        refine hCL _ _ _ _ _ ?_ ⟨i - 1, by omega, ?_, rfl, rfl, rfl⟩ (weak_forget [] (by simp) rfl ⟨rfl, rfl, rfl, trivial⟩ (by first | rfl | simp only [belowH, belowE, belowC, belowL, belowR, belowP, belowL_d, belowR_d, List.length_cons, List.length_nil, Nat.reduceAdd, Nat.reduceLT, decide_true, Bool.and_self, Bool.and_true]) (by first | rfl | simp only [belowH, belowE, belowC, belowL, belowR, belowP, belowL_d, belowR_d, List.length_cons, List.length_nil, Nat.reduceAdd, Nat.reduceLT, decide_true, Bool.and_self, Bool.and_true]))
        · omega
        · intro j hj hij
          rcases Nat.lt_or_ge (i - 1) j with h1 | h1
          · exact hok j hj (by omega)
          · obtain rfl : j = i - 1 := by omega
            simp only [show i - 1 + 1 = i by omega, hxe, hye]
            simp at hlt; omega
    · have hie : i = 0 := by omega
      have htrue : sortedI l = true := (sortedI_at l).2 fun j hj => hok j hj (by omega)
      have hgt : decide ((i : Int) > 0) = false := by simp; omega
      replace hie := Lib.hid hie
      repeat' (first | (with_reducible refine And.intro ?_ ?_) | (with_reducible refine gK_i (fun _ => ?_) (fun _ => ?_)) | (with_reducible refine condS_i (fun _ => ?_) (fun _ => ?_)) | (with_reducible refine drw_i (by kernel_rfl)) | simp -dsimp only [go_sem, ↓reduceIte, reduceCtorEq, Nat.reduceAdd, Nat.reduceMul, Nat.reduceSub, Nat.reduceLeDiff, Nat.reduceLT, Nat.reduceEqDiff, Int.reduceLE, Int.reduceLT, Int.reduceToNat, Int.reduceBEq, Int.reduceBNe, Int.reduceEq, Int.reduceAdd, Int.reduceSub, Int.reduceMul, Int.reduceNeg, Int.cast_ofNat_Int, *, hgt] | ((with_reducible refine opK_c ?_); simp -dsimp only [go_sem, ↓reduceIte, reduceCtorEq, Nat.reduceAdd, Nat.reduceMul, Nat.reduceSub, Nat.reduceLeDiff, Nat.reduceLT, Nat.reduceEqDiff, Int.reduceLE, Int.reduceLT, Int.reduceToNat, Int.reduceBEq, Int.reduceBNe, Int.reduceEq, Int.reduceAdd, Int.reduceSub, Int.reduceMul, Int.reduceNeg, Int.cast_ofNat_Int, hgt]; first | refine callK_r (by first | assumption | fail) (by first | exact .inl rfl | exact .inr rfl) ?_ | (refine callK_i (by assumption) ?_ ?_ ?_; (solve | (repeat (first | exact DLe.refl _ | exact DLe.nil _ | (refine DLe.tup ?_) | (refine DLe.agg ?_ rfl) | exact trivial | (refine And.intro ?_ ?_)))); (solve | exact .inl rfl | exact .inr rfl))) | fail | omega | exact decide_eq_true (by omega) | exact DLe.refl _)
      all_goals (rw [htrue]; exact DLe.refl _)
/-- May it be a pool's or a network's number? -/
def idOK (n : Int) : Bool := decide (1 ≤ n) && decide (n ≤ 65536)
theorem ids_p (n : Int) : PSpec Try.prog 33 [.v (.int .i64 n)] (.v (.bool (idOK n))) := by
  cases e1 : decide (n ≥ 1) with
  | true =>
    have h1 : decide (1 ≤ n) = true := e1
    refine ps_i tab_ok mixed Try.func33 rfl Try.ntmps33 Try.results33 (by kernel_rfl) ?_
    repeat' (first | (with_reducible refine And.intro ?_ ?_) | (with_reducible refine gK_i (fun _ => ?_) (fun _ => ?_)) | (with_reducible refine condS_i (fun _ => ?_) (fun _ => ?_)) | (with_reducible refine drw_i (by kernel_rfl)) | simp -dsimp only [go_sem, ↓reduceIte, reduceCtorEq, Nat.reduceAdd, Nat.reduceMul, Nat.reduceSub, Nat.reduceLeDiff, Nat.reduceLT, Nat.reduceEqDiff, Int.reduceLE, Int.reduceLT, Int.reduceToNat, Int.reduceBEq, Int.reduceBNe, Int.reduceEq, Int.reduceAdd, Int.reduceSub, Int.reduceMul, Int.reduceNeg, Int.cast_ofNat_Int, *, e1] | ((with_reducible refine opK_c ?_); simp -dsimp only [go_sem, ↓reduceIte, reduceCtorEq, Nat.reduceAdd, Nat.reduceMul, Nat.reduceSub, Nat.reduceLeDiff, Nat.reduceLT, Nat.reduceEqDiff, Int.reduceLE, Int.reduceLT, Int.reduceToNat, Int.reduceBEq, Int.reduceBNe, Int.reduceEq, Int.reduceAdd, Int.reduceSub, Int.reduceMul, Int.reduceNeg, Int.cast_ofNat_Int, e1]; first | refine callK_r (by first | assumption | fail) (by first | exact .inl rfl | exact .inr rfl) ?_ | (refine callK_i (by assumption) ?_ ?_ ?_; (solve | (repeat (first | exact DLe.refl _ | exact DLe.nil _ | (refine DLe.tup ?_) | (refine DLe.agg ?_ rfl) | exact trivial | (refine And.intro ?_ ?_)))); (solve | exact .inl rfl | exact .inr rfl))) | fail | omega | exact decide_eq_true (by omega) | exact DLe.refl _)
    all_goals (unfold idOK; rw [h1]; exact DLe.refl _)
  | false =>
    have h1 : decide (1 ≤ n) = false := e1
    refine ps_i tab_ok mixed Try.func33 rfl Try.ntmps33 Try.results33 (by kernel_rfl) ?_
    repeat' (first | (with_reducible refine And.intro ?_ ?_) | (with_reducible refine gK_i (fun _ => ?_) (fun _ => ?_)) | (with_reducible refine condS_i (fun _ => ?_) (fun _ => ?_)) | (with_reducible refine drw_i (by kernel_rfl)) | simp -dsimp only [go_sem, ↓reduceIte, reduceCtorEq, Nat.reduceAdd, Nat.reduceMul, Nat.reduceSub, Nat.reduceLeDiff, Nat.reduceLT, Nat.reduceEqDiff, Int.reduceLE, Int.reduceLT, Int.reduceToNat, Int.reduceBEq, Int.reduceBNe, Int.reduceEq, Int.reduceAdd, Int.reduceSub, Int.reduceMul, Int.reduceNeg, Int.cast_ofNat_Int, *, e1] | ((with_reducible refine opK_c ?_); simp -dsimp only [go_sem, ↓reduceIte, reduceCtorEq, Nat.reduceAdd, Nat.reduceMul, Nat.reduceSub, Nat.reduceLeDiff, Nat.reduceLT, Nat.reduceEqDiff, Int.reduceLE, Int.reduceLT, Int.reduceToNat, Int.reduceBEq, Int.reduceBNe, Int.reduceEq, Int.reduceAdd, Int.reduceSub, Int.reduceMul, Int.reduceNeg, Int.cast_ofNat_Int, e1]; first | refine callK_r (by first | assumption | fail) (by first | exact .inl rfl | exact .inr rfl) ?_ | (refine callK_i (by assumption) ?_ ?_ ?_; (solve | (repeat (first | exact DLe.refl _ | exact DLe.nil _ | (refine DLe.tup ?_) | (refine DLe.agg ?_ rfl) | exact trivial | (refine And.intro ?_ ?_)))); (solve | exact .inl rfl | exact .inr rfl))) | fail | omega | exact decide_eq_true (by omega) | exact DLe.refl _)
    all_goals (unfold idOK; rw [h1]; exact DLe.refl _)
/-- May it be a rule for a root of that length? -/
def ruleOK (r : Rul) (len : Int) : Bool := sortedI [len, r.min, r.usual, r.max, 16] && (decide (0 ≤ r.cool) && decide (r.cool ≤ 1024))
set_option maxHeartbeats 1000000 in
theorem rule_p (r : Rul) (root : Pfx) : PSpec Try.prog 37 [.agg (encR r), .agg (encP root)] (.v (.bool (ruleOK r root.len))) := by
  have hs := isSorted_p [root.len, r.min, r.usual, r.max, 16] (by simp) (by simp)
  unfold ruleOK
  cases h0 : sortedI [root.len, r.min, r.usual, r.max, 16] with
  | false =>
    rw [h0] at hs
    refine ps_i tab_ok mixed Try.func37 rfl Try.ntmps37 Try.results37 (by kernel_rfl) ?_
    repeat' (first | (with_reducible refine And.intro ?_ ?_) | (with_reducible refine gK_i (fun _ => ?_) (fun _ => ?_)) | (with_reducible refine condS_i (fun _ => ?_) (fun _ => ?_)) | (with_reducible refine drw_i (by kernel_rfl)) | simp -dsimp only [go_sem, ↓reduceIte, reduceCtorEq, Nat.reduceAdd, Nat.reduceMul, Nat.reduceSub, Nat.reduceLeDiff, Nat.reduceLT, Nat.reduceEqDiff, Int.reduceLE, Int.reduceLT, Int.reduceToNat, Int.reduceBEq, Int.reduceBNe, Int.reduceEq, Int.reduceAdd, Int.reduceSub, Int.reduceMul, Int.reduceNeg, Int.cast_ofNat_Int, *, encR, encP, encI] | ((with_reducible refine opK_c ?_); simp -dsimp only [go_sem, ↓reduceIte, reduceCtorEq, Nat.reduceAdd, Nat.reduceMul, Nat.reduceSub, Nat.reduceLeDiff, Nat.reduceLT, Nat.reduceEqDiff, Int.reduceLE, Int.reduceLT, Int.reduceToNat, Int.reduceBEq, Int.reduceBNe, Int.reduceEq, Int.reduceAdd, Int.reduceSub, Int.reduceMul, Int.reduceNeg, Int.cast_ofNat_Int, encR, encP, encI]; first | refine callK_r (by first | assumption | exact hs) (by first | exact .inl rfl | exact .inr rfl) ?_ | (refine callK_i (by assumption) ?_ ?_ ?_; (solve | (repeat (first | exact DLe.refl _ | exact DLe.nil _ | (refine DLe.tup ?_) | (refine DLe.agg ?_ rfl) | exact trivial | (refine And.intro ?_ ?_)))); (solve | exact .inl rfl | exact .inr rfl))) | fail | omega | exact decide_eq_true (by omega) | exact DLe.refl _)
    all_goals exact DLe.refl _
  | true =>
    rw [h0] at hs
    show PSpec _ _ _ (.v (.bool (true && (decide (r.cool ≥ 0) && decide (r.cool ≤ 1024)))))
    cases e1 : decide (r.cool ≥ 0) with
    | true =>
      refine ps_i tab_ok mixed Try.func37 rfl Try.ntmps37 Try.results37 (by kernel_rfl) ?_
      repeat' (first | (with_reducible refine And.intro ?_ ?_) | (with_reducible refine gK_i (fun _ => ?_) (fun _ => ?_)) | (with_reducible refine condS_i (fun _ => ?_) (fun _ => ?_)) | (with_reducible refine drw_i (by kernel_rfl)) | simp -dsimp only [go_sem, ↓reduceIte, reduceCtorEq, Nat.reduceAdd, Nat.reduceMul, Nat.reduceSub, Nat.reduceLeDiff, Nat.reduceLT, Nat.reduceEqDiff, Int.reduceLE, Int.reduceLT, Int.reduceToNat, Int.reduceBEq, Int.reduceBNe, Int.reduceEq, Int.reduceAdd, Int.reduceSub, Int.reduceMul, Int.reduceNeg, Int.cast_ofNat_Int, *, encR, encP, encI, e1] | ((with_reducible refine opK_c ?_); simp -dsimp only [go_sem, ↓reduceIte, reduceCtorEq, Nat.reduceAdd, Nat.reduceMul, Nat.reduceSub, Nat.reduceLeDiff, Nat.reduceLT, Nat.reduceEqDiff, Int.reduceLE, Int.reduceLT, Int.reduceToNat, Int.reduceBEq, Int.reduceBNe, Int.reduceEq, Int.reduceAdd, Int.reduceSub, Int.reduceMul, Int.reduceNeg, Int.cast_ofNat_Int, encR, encP, encI, e1]; first | refine callK_r (by first | assumption | exact hs) (by first | exact .inl rfl | exact .inr rfl) ?_ | (refine callK_i (by assumption) ?_ ?_ ?_; (solve | (repeat (first | exact DLe.refl _ | exact DLe.nil _ | (refine DLe.tup ?_) | (refine DLe.agg ?_ rfl) | exact trivial | (refine And.intro ?_ ?_)))); (solve | exact .inl rfl | exact .inr rfl))) | fail | omega | exact decide_eq_true (by omega) | exact DLe.refl _)
      all_goals exact DLe.refl _
    | false =>
      refine ps_i tab_ok mixed Try.func37 rfl Try.ntmps37 Try.results37 (by kernel_rfl) ?_
      repeat' (first | (with_reducible refine And.intro ?_ ?_) | (with_reducible refine gK_i (fun _ => ?_) (fun _ => ?_)) | (with_reducible refine condS_i (fun _ => ?_) (fun _ => ?_)) | (with_reducible refine drw_i (by kernel_rfl)) | simp -dsimp only [go_sem, ↓reduceIte, reduceCtorEq, Nat.reduceAdd, Nat.reduceMul, Nat.reduceSub, Nat.reduceLeDiff, Nat.reduceLT, Nat.reduceEqDiff, Int.reduceLE, Int.reduceLT, Int.reduceToNat, Int.reduceBEq, Int.reduceBNe, Int.reduceEq, Int.reduceAdd, Int.reduceSub, Int.reduceMul, Int.reduceNeg, Int.cast_ofNat_Int, *, encR, encP, encI, e1] | ((with_reducible refine opK_c ?_); simp -dsimp only [go_sem, ↓reduceIte, reduceCtorEq, Nat.reduceAdd, Nat.reduceMul, Nat.reduceSub, Nat.reduceLeDiff, Nat.reduceLT, Nat.reduceEqDiff, Int.reduceLE, Int.reduceLT, Int.reduceToNat, Int.reduceBEq, Int.reduceBNe, Int.reduceEq, Int.reduceAdd, Int.reduceSub, Int.reduceMul, Int.reduceNeg, Int.cast_ofNat_Int, encR, encP, encI, e1]; first | refine callK_r (by first | assumption | exact hs) (by first | exact .inl rfl | exact .inr rfl) ?_ | (refine callK_i (by assumption) ?_ ?_ ?_; (solve | (repeat (first | exact DLe.refl _ | exact DLe.nil _ | (refine DLe.tup ?_) | (refine DLe.agg ?_ rfl) | exact trivial | (refine And.intro ?_ ?_)))); (solve | exact .inl rfl | exact .inr rfl))) | fail | omega | exact decide_eq_true (by omega) | exact DLe.refl _)
      all_goals exact DLe.refl _
/-- A pool as a space. -/
def usedP (p : Pol) : List Pfx := p.leases.map (·.at_)
set_option maxHeartbeats 1000000 in
theorem taken_p (p : Pol) (hb : p.leases.length ≤ 3518437208882) : PSpec Try.prog 51 [.ept (encPol p)] (.agg (encS p.root (usedP p))) := by
  refine ps_i tab_ok mixed Try.func51 rfl Try.ntmps51 Try.results51 (by kernel_rfl) ?_
  repeat' (first | (with_reducible refine And.intro ?_ ?_) | (with_reducible refine gK_i (fun _ => ?_) (fun _ => ?_)) | (with_reducible refine condS_i (fun _ => ?_) (fun _ => ?_)) | (with_reducible refine drw_i (by kernel_rfl)) | simp -dsimp only [go_sem, ↓reduceIte, reduceCtorEq, Nat.reduceAdd, Nat.reduceMul, Nat.reduceSub, Nat.reduceLeDiff, Nat.reduceLT, Nat.reduceEqDiff, Int.reduceLE, Int.reduceLT, Int.reduceToNat, Int.reduceBEq, Int.reduceBNe, Int.reduceEq, Int.reduceAdd, Int.reduceSub, Int.reduceMul, Int.reduceNeg, Int.cast_ofNat_Int, *, encPol] | ((with_reducible refine opK_c ?_); simp -dsimp only [go_sem, ↓reduceIte, reduceCtorEq, Nat.reduceAdd, Nat.reduceMul, Nat.reduceSub, Nat.reduceLeDiff, Nat.reduceLT, Nat.reduceEqDiff, Int.reduceLE, Int.reduceLT, Int.reduceToNat, Int.reduceBEq, Int.reduceBNe, Int.reduceEq, Int.reduceAdd, Int.reduceSub, Int.reduceMul, Int.reduceNeg, Int.cast_ofNat_Int, encPol]; first | refine callK_r (by first | assumption | fail) (by first | exact .inl rfl | exact .inr rfl) ?_ | (refine callK_i (by assumption) ?_ ?_ ?_; (solve | (repeat (first | exact DLe.refl _ | exact DLe.nil _ | (refine DLe.tup ?_) | (refine DLe.agg ?_ rfl) | exact trivial | (refine And.intro ?_ ?_)))); (solve | exact .inl rfl | exact .inr rfl))) | fail | omega | exact decide_eq_true (by omega) | exact DLe.refl _)
  refine loopG tab_ok mixed (fun m e h => ∃ k g : Nat, k ≤ p.leases.length ∧ m = p.leases.length - k ∧ e = [(16, .d (.v (.int .i64 k))), (15, .d (.v (.int .i64 p.leases.length))), (14, .d (.sl 5 (p.leases.map encL))), (3, .ptr 1 0), (2, .ptr 0 0)] ∧
      h = [.box 80 [.d (.v (.int .i64 0)), .d (.v (.int .i64 0)), .d (.v (.slice none 0 0))], .box 80 [.d (.v (.int .i64 p.root.at_)), .d (.v (.int .i64 p.root.len)), .own 2 g], .row 26 2 g (dRows (((usedP p).take k).map encP))]) _ _ _ ⟨0, 0, Nat.zero_le _, rfl, rfl, rfl⟩ ?_ ?_
  · exact (weak_adopt_box (by simp) 1 _ _ 2 _ _ rfl rfl rfl).trans (weak_forget [] (by simp) rfl ⟨rfl, rfl, rfl, rfl, rfl, trivial⟩ (by first | rfl | simp only [belowH, belowE, belowC, belowL, belowR, belowP, belowL_d, belowR_d, List.length_cons, List.length_nil, Nat.reduceAdd, Nat.reduceLT, decide_true, Bool.and_self, Bool.and_true]) (by first | rfl | simp only [belowH, belowE, belowC, belowL, belowR, belowP, belowL_d, belowR_d, List.length_cons, List.length_nil, Nat.reduceAdd, Nat.reduceLT, decide_true, Bool.and_self, Bool.and_true]))
  · rintro m e h ⟨k, g, hk, hm, rfl, rfl⟩ CL hCL
    by_cases hlt : k < p.leases.length
    · obtain ⟨l, hl⟩ : ∃ l, p.leases[k]? = some l := ⟨_, List.getElem?_eq_getElem hlt⟩
      have hltI : (k : Int) < (p.leases.length : Int) := by omega
      have hwr : IntKind.i64.wrap ((k : Int) + 1) = ((k + 1 : Nat) : Int) := by rw [IntKind.wrap_i64]; omega
      have hbnd : (((usedP p).take k).length + 1) * 16 ≤ 140737488355328 := by rw [List.length_take, usedP, List.length_map]; omega
      repeat' (first | (with_reducible refine And.intro ?_ ?_) | (with_reducible refine gK_i (fun _ => ?_) (fun _ => ?_)) | (with_reducible refine condS_i (fun _ => ?_) (fun _ => ?_)) | (with_reducible refine drw_i (by kernel_rfl)) | simp -dsimp only [go_sem, ↓reduceIte, reduceCtorEq, Nat.reduceAdd, Nat.reduceMul, Nat.reduceSub, Nat.reduceLeDiff, Nat.reduceLT, Nat.reduceEqDiff, Int.reduceLE, Int.reduceLT, Int.reduceToNat, Int.reduceBEq, Int.reduceBNe, Int.reduceEq, Int.reduceAdd, Int.reduceSub, Int.reduceMul, Int.reduceNeg, Int.cast_ofNat_Int, *, encPol, encL, hl, hltI, hwr, hbnd] | ((with_reducible refine opK_c ?_); simp -dsimp only [go_sem, ↓reduceIte, reduceCtorEq, Nat.reduceAdd, Nat.reduceMul, Nat.reduceSub, Nat.reduceLeDiff, Nat.reduceLT, Nat.reduceEqDiff, Int.reduceLE, Int.reduceLT, Int.reduceToNat, Int.reduceBEq, Int.reduceBNe, Int.reduceEq, Int.reduceAdd, Int.reduceSub, Int.reduceMul, Int.reduceNeg, Int.cast_ofNat_Int, encPol, encL, hl, hltI, hwr, hbnd]; first | refine callK_r (by first | assumption | fail) (by first | exact .inl rfl | exact .inr rfl) ?_ | (refine callK_i (by assumption) ?_ ?_ ?_; (solve | (repeat (first | exact DLe.refl _ | exact DLe.nil _ | (refine DLe.tup ?_) | (refine DLe.agg ?_ rfl) | exact trivial | (refine And.intro ?_ ?_)))); (solve | exact .inl rfl | exact .inr rfl))) | fail | omega | exact decide_eq_true (by omega) | exact DLe.refl _)
      have hts : (usedP p).take (k + 1) = (usedP p).take k ++ [l.at_] := take_snoc (by rw [usedP, List.getElem?_map, hl]; rfl)
      refine hCL _ _ _ _ _ ?_ ⟨k + 1, g + 1, hlt, rfl, rfl, rfl⟩ (weak_forget [.box 50 ((encL l).map .d)] (by simp) ?_ ⟨rfl, rfl, rfl, rfl, rfl, trivial⟩ (by first | rfl | simp only [belowH, belowE, belowC, belowL, belowR, belowP, belowL_d, belowR_d, List.length_cons, List.length_nil, Nat.reduceAdd, Nat.reduceLT, decide_true, Bool.and_self, Bool.and_true]) (by first | rfl | simp only [belowH, belowE, belowC, belowL, belowR, belowP, belowL_d, belowR_d, List.length_cons, List.length_nil, Nat.reduceAdd, Nat.reduceLT, decide_true, Bool.and_self, Bool.and_true]))
      · omega
      · rw [hts, List.map_append]; rfl
    · obtain rfl : k = p.leases.length := by omega
      repeat' (first | (with_reducible refine And.intro ?_ ?_) | (with_reducible refine gK_i (fun _ => ?_) (fun _ => ?_)) | (with_reducible refine condS_i (fun _ => ?_) (fun _ => ?_)) | (with_reducible refine drw_i (by kernel_rfl)) | simp -dsimp only [go_sem, ↓reduceIte, reduceCtorEq, Nat.reduceAdd, Nat.reduceMul, Nat.reduceSub, Nat.reduceLeDiff, Nat.reduceLT, Nat.reduceEqDiff, Int.reduceLE, Int.reduceLT, Int.reduceToNat, Int.reduceBEq, Int.reduceBNe, Int.reduceEq, Int.reduceAdd, Int.reduceSub, Int.reduceMul, Int.reduceNeg, Int.cast_ofNat_Int, *, encPol, encL, Int.lt_irrefl] | ((with_reducible refine opK_c ?_); simp -dsimp only [go_sem, ↓reduceIte, reduceCtorEq, Nat.reduceAdd, Nat.reduceMul, Nat.reduceSub, Nat.reduceLeDiff, Nat.reduceLT, Nat.reduceEqDiff, Int.reduceLE, Int.reduceLT, Int.reduceToNat, Int.reduceBEq, Int.reduceBNe, Int.reduceEq, Int.reduceAdd, Int.reduceSub, Int.reduceMul, Int.reduceNeg, Int.cast_ofNat_Int, encPol, encL, Int.lt_irrefl]; first | refine callK_r (by first | assumption | fail) (by first | exact .inl rfl | exact .inr rfl) ?_ | (refine callK_i (by assumption) ?_ ?_ ?_; (solve | (repeat (first | exact DLe.refl _ | exact DLe.nil _ | (refine DLe.tup ?_) | (refine DLe.agg ?_ rfl) | exact trivial | (refine And.intro ?_ ?_)))); (solve | exact .inl rfl | exact .inr rfl))) | fail | omega | exact decide_eq_true (by omega) | exact DLe.refl _)
      rw [List.take_of_length_le (by simp [usedP])]
      all_goals exact DLe.refl _
end Go.Proofs.Ytbeocackphfijaa
namespace Go.Proofs.Ytbeocackphfijaa
open Go Go.RowKit
theorem encL_len (p : Lse) : (encL p).length = 5 := rfl
theorem encPol_len (p : Pol) : (encPol p).length = 9 := rfl
theorem encP_len (p : Pfx) : (encP p).length = 2 := rfl
theorem delete_Lease {α : Type} {enc : α → List D} (l : List α) (i j g : Nat) (hi : i < l.length) (hj : j = i + 1) :
    MSpec Try.prog 93 [.own 0 g, .d (.v (.int .i64 i)), .d (.v (.int .i64 j))] [.row 50 5 g (dRows (l.map enc))] (.own 0 (g + 1)) [.row 50 5 (g + 1) (dRows ((l.eraseIdx i).map enc))] := by
  have h1 : ((i : Int) == (j : Int)) = false := by simp; omega
  have hne : ¬ dRows (l.map enc) = [] := by cases l <;> simp [dRows] at hi ⊢
  have hle : (i : Int) ≤ (j : Int) := by omega
  have hle2 : (j : Int) ≤ (l.length : Int) := by omega
  have hlm : (l.map enc).length = l.length := List.length_map _
  have h2 := del_len (dRows (l.map enc)) i j l.length (by rw [dRows_len, hlm]; exact hi) hj (by rw [dRows_len, hlm])
  rw [dRows_len, hlm] at h2
  have hj1 := Lib.hid hj
  clear hj
  have hj2 : j ≤ l.length := by have := hj1.out; omega
  have hmin : min (l.length - j) (l.length - j) = l.length - j := Nat.min_self _
  have hlt : i + (l.length - j) ≤ l.length := by have := hj1.out; omega
  have hk1 : l.length - (i + (l.length - j)) = 1 := by have := hj1.out; omega
  have hk2 : i + (l.length - j) + 1 ≤ l.length := by have := hj1.out; omega
  have hne2 : ¬ setAt (dRows (l.map enc)) i (((dRows (l.map enc)).drop j).take (l.length - j)) = [] := by
    intro h
    rw [h] at h2; simp at h2; omega
  refine ms_i tab_ok mixed Try.func93 rfl Try.ntmps93 Try.results93 (by kernel_rfl) (by simp) (by simp [belowL, belowP]) (by simp [belowH, belowC, belowL, belowP, belowL_d, belowR_d]) ?_
  repeat' (first | (with_reducible refine And.intro ?_ ?_) | (with_reducible refine gK_i (fun _ => ?_) (fun _ => ?_)) | (with_reducible refine condS_i (fun _ => ?_) (fun _ => ?_)) | (with_reducible refine drw_i (by kernel_rfl)) | simp -dsimp only [go_sem, ↓reduceIte, reduceCtorEq, Nat.reduceAdd, Nat.reduceMul, Nat.reduceSub, Nat.reduceLeDiff, Nat.reduceLT, Nat.reduceEqDiff, Int.reduceLE, Int.reduceLT, Int.reduceToNat, Int.reduceBEq, Int.reduceBNe, Int.reduceEq, Int.reduceAdd, Int.reduceSub, Int.reduceMul, Int.reduceNeg, Int.cast_ofNat_Int, *, h1, hne, Nat.sub_zero, List.length_take, List.length_drop] | ((with_reducible refine opK_c ?_); simp -dsimp only [go_sem, ↓reduceIte, reduceCtorEq, Nat.reduceAdd, Nat.reduceMul, Nat.reduceSub, Nat.reduceLeDiff, Nat.reduceLT, Nat.reduceEqDiff, Int.reduceLE, Int.reduceLT, Int.reduceToNat, Int.reduceBEq, Int.reduceBNe, Int.reduceEq, Int.reduceAdd, Int.reduceSub, Int.reduceMul, Int.reduceNeg, Int.cast_ofNat_Int, h1, hne, Nat.sub_zero, List.length_take, List.length_drop]; first | refine callK_r (by first | assumption | fail) (by first | exact .inl rfl | exact .inr rfl) ?_ | refine callK_i (by assumption) (by repeat (first | exact DLe.refl _ | exact DLe.nil _ | (refine DLe.tup ?_) | (refine DLe.agg ?_ rfl) | exact trivial | (refine And.intro ?_ ?_))) (by first | exact .inl rfl | exact .inr rfl) ?_) | omega | exact decide_eq_true (by omega) | exact DLe.refl _)
  rw [map_erase]
  exact del_weak (by rw [hlm]; exact hi) hj1.out hlm.symm
theorem clone_Lease {α : Type} (enc : α → List D) (l : List α) (hl : l.length ≤ 1000000000) :
    MSpec Try.prog 94 [.d (.sl 5 (l.map enc))] [] (.own 0 1) [.row 50 5 1 (dRows (l.map enc))] := by
  cases l with
  | nil =>
    refine ms_empty (pl := []) (ql := []) fun ao cap => ?_
    cases ao with
    | none =>
      simp only [List.nil_append]
      refine ms_i tab_ok mixed Try.func94 rfl Try.ntmps94 Try.results94 (by kernel_rfl) (by simp) (by simp [belowL, belowP]) (by simp [belowH, belowC, belowL, belowP, belowL_d, belowR_d]) ?_
      repeat' (first | (with_reducible refine And.intro ?_ ?_) | (with_reducible refine gK_i (fun _ => ?_) (fun _ => ?_)) | (with_reducible refine condS_i (fun _ => ?_) (fun _ => ?_)) | (with_reducible refine drw_i (by kernel_rfl)) | simp -dsimp only [go_sem, ↓reduceIte, reduceCtorEq, Nat.reduceAdd, Nat.reduceMul, Nat.reduceSub, Nat.reduceLeDiff, Nat.reduceLT, Nat.reduceEqDiff, Int.reduceLE, Int.reduceLT, Int.reduceToNat, Int.reduceBEq, Int.reduceBNe, Int.reduceEq, Int.reduceAdd, Int.reduceSub, Int.reduceMul, Int.reduceNeg, Int.cast_ofNat_Int, *, Option.isNone_none, Option.isSome_some] | ((with_reducible refine opK_c ?_); simp -dsimp only [go_sem, ↓reduceIte, reduceCtorEq, Nat.reduceAdd, Nat.reduceMul, Nat.reduceSub, Nat.reduceLeDiff, Nat.reduceLT, Nat.reduceEqDiff, Int.reduceLE, Int.reduceLT, Int.reduceToNat, Int.reduceBEq, Int.reduceBNe, Int.reduceEq, Int.reduceAdd, Int.reduceSub, Int.reduceMul, Int.reduceNeg, Int.cast_ofNat_Int, Option.isNone_none, Option.isSome_some]; first | refine callK_r (by first | assumption | fail) (by first | exact .inl rfl | exact .inr rfl) ?_ | refine callK_i (by assumption) (by repeat (first | exact DLe.refl _ | exact DLe.nil _ | (refine DLe.tup ?_) | (refine DLe.agg ?_ rfl) | exact trivial | (refine And.intro ?_ ?_))) (by first | exact .inl rfl | exact .inr rfl) ?_) | omega | exact decide_eq_true (by omega) | exact DLe.refl _)
      refine weak_ret_adopt (h := []) (Nat.le_refl _) 50 5 ?_
      exact (weak_ret_bump 0 0 50 5 [] rfl (weak_eq rfl rfl))
    | some a =>
      simp only [List.nil_append]
      refine ms_i tab_ok mixed Try.func94 rfl Try.ntmps94 Try.results94 (by kernel_rfl) (by simp) (by simp [belowL, belowP]) (by simp [belowH, belowC, belowL, belowP, belowL_d, belowR_d]) ?_
      repeat' (first | (with_reducible refine And.intro ?_ ?_) | (with_reducible refine gK_i (fun _ => ?_) (fun _ => ?_)) | (with_reducible refine condS_i (fun _ => ?_) (fun _ => ?_)) | (with_reducible refine drw_i (by kernel_rfl)) | simp -dsimp only [go_sem, ↓reduceIte, reduceCtorEq, Nat.reduceAdd, Nat.reduceMul, Nat.reduceSub, Nat.reduceLeDiff, Nat.reduceLT, Nat.reduceEqDiff, Int.reduceLE, Int.reduceLT, Int.reduceToNat, Int.reduceBEq, Int.reduceBNe, Int.reduceEq, Int.reduceAdd, Int.reduceSub, Int.reduceMul, Int.reduceNeg, Int.cast_ofNat_Int, *, Option.isNone_some, Option.isSome_some] | ((with_reducible refine opK_c ?_); simp -dsimp only [go_sem, ↓reduceIte, reduceCtorEq, Nat.reduceAdd, Nat.reduceMul, Nat.reduceSub, Nat.reduceLeDiff, Nat.reduceLT, Nat.reduceEqDiff, Int.reduceLE, Int.reduceLT, Int.reduceToNat, Int.reduceBEq, Int.reduceBNe, Int.reduceEq, Int.reduceAdd, Int.reduceSub, Int.reduceMul, Int.reduceNeg, Int.cast_ofNat_Int, Option.isNone_some, Option.isSome_some]; first | refine callK_r (by first | assumption | fail) (by first | exact .inl rfl | exact .inr rfl) ?_ | refine callK_i (by assumption) (by repeat (first | exact DLe.refl _ | exact DLe.nil _ | (refine DLe.tup ?_) | (refine DLe.agg ?_ rfl) | exact trivial | (refine And.intro ?_ ?_))) (by first | exact .inl rfl | exact .inr rfl) ?_) | omega | exact decide_eq_true (by omega) | exact DLe.refl _)
      exact weak_eq rfl rfl
  | cons x l =>
    simp only [List.length_cons] at hl
    refine ms_i tab_ok mixed Try.func94 rfl Try.ntmps94 Try.results94 (by kernel_rfl) (by simp) (by simp [belowL, belowP]) (by simp [belowH, belowC, belowL, belowP, belowL_d, belowR_d]) ?_
    repeat' (first | (with_reducible refine And.intro ?_ ?_) | (with_reducible refine gK_i (fun _ => ?_) (fun _ => ?_)) | (with_reducible refine condS_i (fun _ => ?_) (fun _ => ?_)) | (with_reducible refine drw_i (by kernel_rfl)) | simp -dsimp only [go_sem, ↓reduceIte, reduceCtorEq, Nat.reduceAdd, Nat.reduceMul, Nat.reduceSub, Nat.reduceLeDiff, Nat.reduceLT, Nat.reduceEqDiff, Int.reduceLE, Int.reduceLT, Int.reduceToNat, Int.reduceBEq, Int.reduceBNe, Int.reduceEq, Int.reduceAdd, Int.reduceSub, Int.reduceMul, Int.reduceNeg, Int.cast_ofNat_Int, *, Option.isNone_some, Option.isSome_some] | ((with_reducible refine opK_c ?_); simp -dsimp only [go_sem, ↓reduceIte, reduceCtorEq, Nat.reduceAdd, Nat.reduceMul, Nat.reduceSub, Nat.reduceLeDiff, Nat.reduceLT, Nat.reduceEqDiff, Int.reduceLE, Int.reduceLT, Int.reduceToNat, Int.reduceBEq, Int.reduceBNe, Int.reduceEq, Int.reduceAdd, Int.reduceSub, Int.reduceMul, Int.reduceNeg, Int.cast_ofNat_Int, Option.isNone_some, Option.isSome_some]; first | refine callK_r (by first | assumption | fail) (by first | exact .inl rfl | exact .inr rfl) ?_ | refine callK_i (by assumption) (by repeat (first | exact DLe.refl _ | exact DLe.nil _ | (refine DLe.tup ?_) | (refine DLe.agg ?_ rfl) | exact trivial | (refine And.intro ?_ ?_))) (by first | exact .inl rfl | exact .inr rfl) ?_) | omega | exact decide_eq_true (by omega) | exact DLe.refl _)
    all_goals first | omega | exact weak_eq rfl rfl
set_option maxHeartbeats 1000000 in
theorem delf_Lease (p : Lse → Bool) (l : List Lse) (k g fn : Nat) (caps : List PV) (h : List Chunk) (hk : hatL h k = .row 50 5 g (dRows (l.map encL))) (hbc : belowL h.length caps = true) (hbh : belowH h.length h = true) (hl : l.length ≤ 1000000000)
    (h5 : ∃ ds, viewL (viewF (hatL h) 5) caps = some ds ∧ ∀ x ∈ l, PSpec Try.prog fn (.agg (encL x) :: ds) (.v (.bool (p x))))
    (h6 : ∀ (m : List Lse) (b : Chunk), ∃ ds, viewL (vw (hatL (setC h k (.row 50 5 g (dRows (m.map encL))) ++ [b]))) caps = some ds ∧ ∀ x ∈ l, PSpec Try.prog fn (.agg (encL x) :: ds) (.v (.bool (p x)))) :
    MSpec Try.prog 71 [.own k g, .clo fn caps] h (.own k (g + 1)) (setC h k (.row 50 5 (g + 1) (dRows ((l.filter fun x => !p x).map encL)))) := by
  have hlt : k < h.length := hatL_lt (by rw [hk]; simp)
  obtain ⟨ds, hd1, hd2⟩ := h5
  have hix := idxf_Lease encL_len p l fn ds hl hd2
  have hle : h.length ≤ (setC h k (.row 50 5 (g + 1) (dRows ((l.filter fun x => !p x).map encL)))).length := by rw [setC_lt hlt]; exact Nat.le_refl _
  have hba : belowL h.length [.own k g, .clo fn caps] = true := by simp only [belowL, belowP, hlt, hbc, decide_true, Bool.and_self]
  unfold idxI at hix
  cases hf : l.findIdx? p with
  | none =>
    rw [hf] at hix
    replace hf := Lib.hid hf
    refine ms_w tab_ok mixed Try.func71 rfl Try.ntmps71 Try.results71 (by kernel_rfl) hle hba hbh ?_
    repeat' (first | (with_reducible refine And.intro ?_ ?_) | (with_reducible refine gK_i (fun _ => ?_) (fun _ => ?_)) | (with_reducible refine condS_i (fun _ => ?_) (fun _ => ?_)) | (with_reducible refine drw_i (by kernel_rfl)) | simp -dsimp only [go_sem, ↓reduceIte, reduceCtorEq, Nat.reduceAdd, Nat.reduceMul, Nat.reduceSub, Nat.reduceLeDiff, Nat.reduceLT, Nat.reduceEqDiff, Int.reduceLE, Int.reduceLT, Int.reduceToNat, Int.reduceBEq, Int.reduceBNe, Int.reduceEq, Int.reduceAdd, Int.reduceSub, Int.reduceMul, Int.reduceNeg, Int.cast_ofNat_Int, *, hk, hd1] | ((with_reducible refine opK_c ?_); simp -dsimp only [go_sem, ↓reduceIte, reduceCtorEq, Nat.reduceAdd, Nat.reduceMul, Nat.reduceSub, Nat.reduceLeDiff, Nat.reduceLT, Nat.reduceEqDiff, Int.reduceLE, Int.reduceLT, Int.reduceToNat, Int.reduceBEq, Int.reduceBNe, Int.reduceEq, Int.reduceAdd, Int.reduceSub, Int.reduceMul, Int.reduceNeg, Int.cast_ofNat_Int, hk, hd1]; first | refine callK_r (by first | assumption | exact hix) (by first | exact .inl rfl | exact .inr rfl) ?_ | refine callK_i (by assumption) (by repeat (first | exact DLe.refl _ | exact DLe.nil _ | (refine DLe.tup ?_) | (refine DLe.agg ?_ rfl) | exact trivial | (refine And.intro ?_ ?_))) (by first | exact .inl rfl | exact .inr rfl) ?_) | omega | exact decide_eq_true (by omega) | exact DLe.refl _)
    have he : (l.filter fun x => !p x) = l := List.filter_eq_self.2 fun x hx => by
      have := List.findIdx?_eq_none_iff.1 hf.out x hx
      simp [this]
    rw [he]
    exact weak_ret_bump k g _ _ _ hk (weak_eq rfl rfl)
  | some i0 =>
    rw [hf] at hix
    have hst := mix_start hf
    replace hf := Lib.hid hf
    have hne1 : ((i0 : Int) == -1) = false := by rw [beq_eq_false_iff_ne]; omega
    have hw1 : IntKind.i64.wrap ((i0 : Int) + 1) = ((i0 + 1 : Nat) : Int) := by rw [IntKind.wrap_i64]; omega
    obtain ⟨ga, gb, gc, gd, ge, gf, gg, gi⟩ := hpOK hlt
    refine ms_w tab_ok mixed Try.func71 rfl Try.ntmps71 Try.results71 (by kernel_rfl) hle hba hbh ?_
    have hst := Lib.hid hst
    repeat' (first | (with_reducible refine And.intro ?_ ?_) | (with_reducible refine gK_i (fun _ => ?_) (fun _ => ?_)) | (with_reducible refine condS_i (fun _ => ?_) (fun _ => ?_)) | (with_reducible refine drw_i (by kernel_rfl)) | simp -dsimp only [go_sem, ↓reduceIte, reduceCtorEq, Nat.reduceAdd, Nat.reduceMul, Nat.reduceSub, Nat.reduceLeDiff, Nat.reduceLT, Nat.reduceEqDiff, Int.reduceLE, Int.reduceLT, Int.reduceToNat, Int.reduceBEq, Int.reduceBNe, Int.reduceEq, Int.reduceAdd, Int.reduceSub, Int.reduceMul, Int.reduceNeg, Int.cast_ofNat_Int, *, hk, hd1, hne1, hw1] | ((with_reducible refine opK_c ?_); simp -dsimp only [go_sem, ↓reduceIte, reduceCtorEq, Nat.reduceAdd, Nat.reduceMul, Nat.reduceSub, Nat.reduceLeDiff, Nat.reduceLT, Nat.reduceEqDiff, Int.reduceLE, Int.reduceLT, Int.reduceToNat, Int.reduceBEq, Int.reduceBNe, Int.reduceEq, Int.reduceAdd, Int.reduceSub, Int.reduceMul, Int.reduceNeg, Int.cast_ofNat_Int, hk, hd1, hne1, hw1]; first | refine callK_r (by first | assumption | exact hix) (by first | exact .inl rfl | exact .inr rfl) ?_ | refine callK_i (by assumption) (by repeat (first | exact DLe.refl _ | exact DLe.nil _ | (refine DLe.tup ?_) | (refine DLe.agg ?_ rfl) | exact trivial | (refine And.intro ?_ ?_))) (by first | exact .inl rfl | exact .inr rfl) ?_) | omega | exact decide_eq_true (by omega) | exact DLe.refl _)
    refine loopG tab_ok mixed (fun m e h' => ∃ j, j ≤ l.length ∧ i0 < j ∧ m = l.length - j ∧ e = [(6, .d (.v (.int .i64 j))), (5, .d (.v (.int .i64 (keptL p l j).length))), (4, .d (.v (.slice none 0 0))), (1, .clo fn caps), (0, .own k g)] ∧ h' = setC h k (.row 50 5 g (dRows ((mixL p l j).map encL)))) (l.length - (i0 + 1)) _ _ ⟨i0 + 1, hst.out.1, by omega, rfl, rfl, rfl⟩ ?_ ?_
    · rw [hst.out.2.1, hst.out.2.2]
      refine weak_forget [] (by rw [gb]; exact Nat.le_refl _) (by rw [setC_same h k _ hk hlt, List.append_nil]) ⟨rfl, rfl, rfl, rfl, rfl, trivial⟩ (by rw [gb]; simp only [belowE, belowP, hlt, hbc, decide_true, Bool.and_self]) (by rw [gb]; exact belowH_setC _ _ _ _ hbh (by simp only [belowC, belowR_d]) hlt)
    · rintro m e h' ⟨j, hj, hij, rfl, rfl, rfl⟩ C hC
      have hkl := kept_le p l j
      have hml := mix_len p l j
      by_cases hjl : j < l.length
      · obtain ⟨x, hx⟩ : ∃ x, l[j]? = some x := ⟨_, List.getElem?_eq_getElem hjl⟩
        have hmx : (mixL p l j)[j]? = some x := by rw [mix_get p l j j hkl.1]; exact hx
        obtain ⟨y, hmy⟩ : ∃ y, (mixL p l j)[(keptL p l j).length]? = some y := ⟨_, List.getElem?_eq_getElem (by omega)⟩
        have hjI : (j : Int) < (l.length : Int) := by omega
        have hw2 : IntKind.i64.wrap ((j : Int) + 1) = ((j + 1 : Nat) : Int) := by rw [IntKind.wrap_i64]; omega
        have hw3 : IntKind.i64.wrap (((keptL p l j).length : Int) + 1) = (((keptL p l j).length + 1 : Nat) : Int) := by rw [IntKind.wrap_i64]; omega
        have hk2 : (keptL p l j).length < l.length := by omega
        obtain ⟨ds2, hd3, hd4⟩ := h6 (mixL p l j) (.box 50 ((encL x).map .d))
        have hcx := hd4 x (List.mem_of_getElem? hx)
        have hx := Lib.hid hx
        have hrow := dRows_setrow encL (mixL p l j) (keptL p l j).length x
        simp only [encL, List.map_cons, List.map_nil] at hd3 hcx hrow
        repeat' (first | (with_reducible refine And.intro ?_ ?_) | (with_reducible refine gK_i (fun _ => ?_) (fun _ => ?_)) | (with_reducible refine condS_i (fun _ => ?_) (fun _ => ?_)) | (with_reducible refine drw_i (by kernel_rfl)) | simp -dsimp only [go_sem, ↓reduceIte, reduceCtorEq, Nat.reduceAdd, Nat.reduceMul, Nat.reduceSub, Nat.reduceLeDiff, Nat.reduceLT, Nat.reduceEqDiff, Int.reduceLE, Int.reduceLT, Int.reduceToNat, Int.reduceBEq, Int.reduceBNe, Int.reduceEq, Int.reduceAdd, Int.reduceSub, Int.reduceMul, Int.reduceNeg, Int.cast_ofNat_Int, *, encL, hmx, hmy, hjI, hw2, hw3, hd3, hml, gb] | ((with_reducible refine opK_c ?_); simp -dsimp only [go_sem, ↓reduceIte, reduceCtorEq, Nat.reduceAdd, Nat.reduceMul, Nat.reduceSub, Nat.reduceLeDiff, Nat.reduceLT, Nat.reduceEqDiff, Int.reduceLE, Int.reduceLT, Int.reduceToNat, Int.reduceBEq, Int.reduceBNe, Int.reduceEq, Int.reduceAdd, Int.reduceSub, Int.reduceMul, Int.reduceNeg, Int.cast_ofNat_Int, encL, hmx, hmy, hjI, hw2, hw3, hd3, hml, gb]; first | refine callK_r (by first | assumption | exact hcx) (by first | exact .inl rfl | exact .inr rfl) ?_ | refine callK_i (by assumption) (by repeat (first | exact DLe.refl _ | exact DLe.nil _ | (refine DLe.tup ?_) | (refine DLe.agg ?_ rfl) | exact trivial | (refine And.intro ?_ ?_))) (by first | exact .inl rfl | exact .inr rfl) ?_) | omega | exact decide_eq_true (by omega) | exact DLe.refl _)
        · rename_i hp
          obtain ⟨q1, q2⟩ := mix_t hx.out hp
          refine hC _ _ _ _ _ (by omega) ⟨j + 1, by omega, by omega, rfl, rfl, rfl⟩ ?_
          rw [q1, q2]
          exact weak_forget _ (by rw [gb]; exact Nat.le_refl _) rfl ⟨rfl, rfl, rfl, rfl, rfl, trivial⟩ (by rw [gb]; simp only [belowE, belowP, hlt, hbc, decide_true, Bool.and_self, Bool.and_true]) (by rw [gb]; exact belowH_setC _ _ _ _ hbh (by simp only [belowC, belowR_d]) hlt)
        · rename_i hp
          obtain ⟨q1, q2⟩ := mix_f hx.out hp
          refine hC _ _ _ _ _ (by omega) ⟨j + 1, by omega, by omega, rfl, rfl, rfl⟩ ?_
          rw [q1, q2]
          exact weak_forget _ (by rw [gb]; exact Nat.le_refl _) rfl ⟨rfl, rfl, rfl, rfl, rfl, trivial⟩ (by rw [gb]; simp only [belowE, belowP, hlt, hbc, decide_true, Bool.and_self, Bool.and_true]) (by rw [gb]; exact belowH_setC _ _ _ _ hbh (by simp only [belowC, belowR_d]) hlt)
      · obtain rfl : j = l.length := by omega
        have hm0 : mixL p l l.length ≠ [] := fun e => by rw [e] at hml; simp at hml; omega
        have hn1 : ¬ dRows ((mixL p l l.length).map encL) = [] := by simpa [dRows] using hm0
        have hl2 : ∀ z : List PV, (setAt (dRows ((mixL p l l.length).map encL)) (keptL p l l.length).length (List.replicate (l.length - (keptL p l l.length).length) z)).length = l.length := fun z => by
          rw [setAt_length (by simp [dRows_len, hml]; omega)]
          simp [dRows_len, hml]
        have hn2 : ∀ z : List PV, ¬ setAt (dRows ((mixL p l l.length).map encL)) (keptL p l l.length).length (List.replicate (l.length - (keptL p l l.length).length) z) = [] := fun z e => by
          have := hl2 z
          rw [e] at this; simp at this; omega
        repeat' (first | (with_reducible refine And.intro ?_ ?_) | (with_reducible refine gK_i (fun _ => ?_) (fun _ => ?_)) | (with_reducible refine condS_i (fun _ => ?_) (fun _ => ?_)) | (with_reducible refine drw_i (by kernel_rfl)) | simp -dsimp only [go_sem, ↓reduceIte, reduceCtorEq, Nat.reduceAdd, Nat.reduceMul, Nat.reduceSub, Nat.reduceLeDiff, Nat.reduceLT, Nat.reduceEqDiff, Int.reduceLE, Int.reduceLT, Int.reduceToNat, Int.reduceBEq, Int.reduceBNe, Int.reduceEq, Int.reduceAdd, Int.reduceSub, Int.reduceMul, Int.reduceNeg, Int.cast_ofNat_Int, *, encL, Int.lt_irrefl, hml, gb] | ((with_reducible refine opK_c ?_); simp -dsimp only [go_sem, ↓reduceIte, reduceCtorEq, Nat.reduceAdd, Nat.reduceMul, Nat.reduceSub, Nat.reduceLeDiff, Nat.reduceLT, Nat.reduceEqDiff, Int.reduceLE, Int.reduceLT, Int.reduceToNat, Int.reduceBEq, Int.reduceBNe, Int.reduceEq, Int.reduceAdd, Int.reduceSub, Int.reduceMul, Int.reduceNeg, Int.cast_ofNat_Int, encL, Int.lt_irrefl, hml, gb]; first | refine callK_r (by first | assumption | fail) (by first | exact .inl rfl | exact .inr rfl) ?_ | refine callK_i (by assumption) (by repeat (first | exact DLe.refl _ | exact DLe.nil _ | (refine DLe.tup ?_) | (refine DLe.agg ?_ rfl) | exact trivial | (refine And.intro ?_ ?_))) (by first | exact .inl rfl | exact .inr rfl) ?_) | omega | exact decide_eq_true (by omega) | exact DLe.refl _)
        have hfin := mixL_take p l
        rw [← hfin, List.map_take]
        exact delf_weak hlt (by simp [hml]; omega) (by simpa using hm0) (by simp [hml])
set_option maxHeartbeats 1000000 in
theorem delf_Pool (p : Pol → Bool) (l : List Pol) (k g fn : Nat) (caps : List PV) (h : List Chunk) (hk : hatL h k = .row 46 9 g (dRows (l.map encPol))) (hbc : belowL h.length caps = true) (hbh : belowH h.length h = true) (hl : l.length ≤ 1000000000)
    (h5 : ∃ ds, viewL (viewF (hatL h) 5) caps = some ds ∧ ∀ x ∈ l, PSpec Try.prog fn (.agg (encPol x) :: ds) (.v (.bool (p x))))
    (h6 : ∀ (m : List Pol) (b : Chunk), ∃ ds, viewL (vw (hatL (setC h k (.row 46 9 g (dRows (m.map encPol))) ++ [b]))) caps = some ds ∧ ∀ x ∈ l, PSpec Try.prog fn (.agg (encPol x) :: ds) (.v (.bool (p x)))) :
    MSpec Try.prog 69 [.own k g, .clo fn caps] h (.own k (g + 1)) (setC h k (.row 46 9 (g + 1) (dRows ((l.filter fun x => !p x).map encPol)))) := by
  have hlt : k < h.length := hatL_lt (by rw [hk]; simp)
  obtain ⟨ds, hd1, hd2⟩ := h5
  have hix := idxf_Pool encPol_len p l fn ds hl hd2
  have hle : h.length ≤ (setC h k (.row 46 9 (g + 1) (dRows ((l.filter fun x => !p x).map encPol)))).length := by rw [setC_lt hlt]; exact Nat.le_refl _
  have hba : belowL h.length [.own k g, .clo fn caps] = true := by simp only [belowL, belowP, hlt, hbc, decide_true, Bool.and_self]
  unfold idxI at hix
  cases hf : l.findIdx? p with
  | none =>
    rw [hf] at hix
    replace hf := Lib.hid hf
    refine ms_w tab_ok mixed Try.func69 rfl Try.ntmps69 Try.results69 (by kernel_rfl) hle hba hbh ?_
    repeat' (first | (with_reducible refine And.intro ?_ ?_) | (with_reducible refine gK_i (fun _ => ?_) (fun _ => ?_)) | (with_reducible refine condS_i (fun _ => ?_) (fun _ => ?_)) | (with_reducible refine drw_i (by kernel_rfl)) | simp -dsimp only [go_sem, ↓reduceIte, reduceCtorEq, Nat.reduceAdd, Nat.reduceMul, Nat.reduceSub, Nat.reduceLeDiff, Nat.reduceLT, Nat.reduceEqDiff, Int.reduceLE, Int.reduceLT, Int.reduceToNat, Int.reduceBEq, Int.reduceBNe, Int.reduceEq, Int.reduceAdd, Int.reduceSub, Int.reduceMul, Int.reduceNeg, Int.cast_ofNat_Int, *, hk, hd1] | ((with_reducible refine opK_c ?_); simp -dsimp only [go_sem, ↓reduceIte, reduceCtorEq, Nat.reduceAdd, Nat.reduceMul, Nat.reduceSub, Nat.reduceLeDiff, Nat.reduceLT, Nat.reduceEqDiff, Int.reduceLE, Int.reduceLT, Int.reduceToNat, Int.reduceBEq, Int.reduceBNe, Int.reduceEq, Int.reduceAdd, Int.reduceSub, Int.reduceMul, Int.reduceNeg, Int.cast_ofNat_Int, hk, hd1]; first | refine callK_r (by first | assumption | exact hix) (by first | exact .inl rfl | exact .inr rfl) ?_ | refine callK_i (by assumption) (by repeat (first | exact DLe.refl _ | exact DLe.nil _ | (refine DLe.tup ?_) | (refine DLe.agg ?_ rfl) | exact trivial | (refine And.intro ?_ ?_))) (by first | exact .inl rfl | exact .inr rfl) ?_) | omega | exact decide_eq_true (by omega) | exact DLe.refl _)
    have he : (l.filter fun x => !p x) = l := List.filter_eq_self.2 fun x hx => by
      have := List.findIdx?_eq_none_iff.1 hf.out x hx
      simp [this]
    rw [he]
    exact weak_ret_bump k g _ _ _ hk (weak_eq rfl rfl)
  | some i0 =>
    rw [hf] at hix
    have hst := mix_start hf
    replace hf := Lib.hid hf
    have hne1 : ((i0 : Int) == -1) = false := by rw [beq_eq_false_iff_ne]; omega
    have hw1 : IntKind.i64.wrap ((i0 : Int) + 1) = ((i0 + 1 : Nat) : Int) := by rw [IntKind.wrap_i64]; omega
    obtain ⟨ga, gb, gc, gd, ge, gf, gg, gi⟩ := hpOK hlt
    refine ms_w tab_ok mixed Try.func69 rfl Try.ntmps69 Try.results69 (by kernel_rfl) hle hba hbh ?_
    have hst := Lib.hid hst
    repeat' (first | (with_reducible refine And.intro ?_ ?_) | (with_reducible refine gK_i (fun _ => ?_) (fun _ => ?_)) | (with_reducible refine condS_i (fun _ => ?_) (fun _ => ?_)) | (with_reducible refine drw_i (by kernel_rfl)) | simp -dsimp only [go_sem, ↓reduceIte, reduceCtorEq, Nat.reduceAdd, Nat.reduceMul, Nat.reduceSub, Nat.reduceLeDiff, Nat.reduceLT, Nat.reduceEqDiff, Int.reduceLE, Int.reduceLT, Int.reduceToNat, Int.reduceBEq, Int.reduceBNe, Int.reduceEq, Int.reduceAdd, Int.reduceSub, Int.reduceMul, Int.reduceNeg, Int.cast_ofNat_Int, *, hk, hd1, hne1, hw1] | ((with_reducible refine opK_c ?_); simp -dsimp only [go_sem, ↓reduceIte, reduceCtorEq, Nat.reduceAdd, Nat.reduceMul, Nat.reduceSub, Nat.reduceLeDiff, Nat.reduceLT, Nat.reduceEqDiff, Int.reduceLE, Int.reduceLT, Int.reduceToNat, Int.reduceBEq, Int.reduceBNe, Int.reduceEq, Int.reduceAdd, Int.reduceSub, Int.reduceMul, Int.reduceNeg, Int.cast_ofNat_Int, hk, hd1, hne1, hw1]; first | refine callK_r (by first | assumption | exact hix) (by first | exact .inl rfl | exact .inr rfl) ?_ | refine callK_i (by assumption) (by repeat (first | exact DLe.refl _ | exact DLe.nil _ | (refine DLe.tup ?_) | (refine DLe.agg ?_ rfl) | exact trivial | (refine And.intro ?_ ?_))) (by first | exact .inl rfl | exact .inr rfl) ?_) | omega | exact decide_eq_true (by omega) | exact DLe.refl _)
    refine loopG tab_ok mixed (fun m e h' => ∃ j, j ≤ l.length ∧ i0 < j ∧ m = l.length - j ∧ e = [(6, .d (.v (.int .i64 j))), (5, .d (.v (.int .i64 (keptL p l j).length))), (4, .d (.v (.slice none 0 0))), (1, .clo fn caps), (0, .own k g)] ∧ h' = setC h k (.row 46 9 g (dRows ((mixL p l j).map encPol)))) (l.length - (i0 + 1)) _ _ ⟨i0 + 1, hst.out.1, by omega, rfl, rfl, rfl⟩ ?_ ?_
    · rw [hst.out.2.1, hst.out.2.2]
      refine weak_forget [] (by rw [gb]; exact Nat.le_refl _) (by rw [setC_same h k _ hk hlt, List.append_nil]) ⟨rfl, rfl, rfl, rfl, rfl, trivial⟩ (by rw [gb]; simp only [belowE, belowP, hlt, hbc, decide_true, Bool.and_self]) (by rw [gb]; exact belowH_setC _ _ _ _ hbh (by simp only [belowC, belowR_d]) hlt)
    · rintro m e h' ⟨j, hj, hij, rfl, rfl, rfl⟩ C hC
      have hkl := kept_le p l j
      have hml := mix_len p l j
      by_cases hjl : j < l.length
      · obtain ⟨x, hx⟩ : ∃ x, l[j]? = some x := ⟨_, List.getElem?_eq_getElem hjl⟩
        have hmx : (mixL p l j)[j]? = some x := by rw [mix_get p l j j hkl.1]; exact hx
        obtain ⟨y, hmy⟩ : ∃ y, (mixL p l j)[(keptL p l j).length]? = some y := ⟨_, List.getElem?_eq_getElem (by omega)⟩
        have hjI : (j : Int) < (l.length : Int) := by omega
        have hw2 : IntKind.i64.wrap ((j : Int) + 1) = ((j + 1 : Nat) : Int) := by rw [IntKind.wrap_i64]; omega
        have hw3 : IntKind.i64.wrap (((keptL p l j).length : Int) + 1) = (((keptL p l j).length + 1 : Nat) : Int) := by rw [IntKind.wrap_i64]; omega
        have hk2 : (keptL p l j).length < l.length := by omega
        obtain ⟨ds2, hd3, hd4⟩ := h6 (mixL p l j) (.box 46 ((encPol x).map .d))
        have hcx := hd4 x (List.mem_of_getElem? hx)
        have hx := Lib.hid hx
        have hrow := dRows_setrow encPol (mixL p l j) (keptL p l j).length x
        simp only [encPol, List.map_cons, List.map_nil] at hd3 hcx hrow
        repeat' (first | (with_reducible refine And.intro ?_ ?_) | (with_reducible refine gK_i (fun _ => ?_) (fun _ => ?_)) | (with_reducible refine condS_i (fun _ => ?_) (fun _ => ?_)) | (with_reducible refine drw_i (by kernel_rfl)) | simp -dsimp only [go_sem, ↓reduceIte, reduceCtorEq, Nat.reduceAdd, Nat.reduceMul, Nat.reduceSub, Nat.reduceLeDiff, Nat.reduceLT, Nat.reduceEqDiff, Int.reduceLE, Int.reduceLT, Int.reduceToNat, Int.reduceBEq, Int.reduceBNe, Int.reduceEq, Int.reduceAdd, Int.reduceSub, Int.reduceMul, Int.reduceNeg, Int.cast_ofNat_Int, *, encPol, hmx, hmy, hjI, hw2, hw3, hd3, hml, gb] | ((with_reducible refine opK_c ?_); simp -dsimp only [go_sem, ↓reduceIte, reduceCtorEq, Nat.reduceAdd, Nat.reduceMul, Nat.reduceSub, Nat.reduceLeDiff, Nat.reduceLT, Nat.reduceEqDiff, Int.reduceLE, Int.reduceLT, Int.reduceToNat, Int.reduceBEq, Int.reduceBNe, Int.reduceEq, Int.reduceAdd, Int.reduceSub, Int.reduceMul, Int.reduceNeg, Int.cast_ofNat_Int, encPol, hmx, hmy, hjI, hw2, hw3, hd3, hml, gb]; first | refine callK_r (by first | assumption | exact hcx) (by first | exact .inl rfl | exact .inr rfl) ?_ | refine callK_i (by assumption) (by repeat (first | exact DLe.refl _ | exact DLe.nil _ | (refine DLe.tup ?_) | (refine DLe.agg ?_ rfl) | exact trivial | (refine And.intro ?_ ?_))) (by first | exact .inl rfl | exact .inr rfl) ?_) | omega | exact decide_eq_true (by omega) | exact DLe.refl _)
        · rename_i hp
          obtain ⟨q1, q2⟩ := mix_t hx.out hp
          refine hC _ _ _ _ _ (by omega) ⟨j + 1, by omega, by omega, rfl, rfl, rfl⟩ ?_
          rw [q1, q2]
          exact weak_forget _ (by rw [gb]; exact Nat.le_refl _) rfl ⟨rfl, rfl, rfl, rfl, rfl, trivial⟩ (by rw [gb]; simp only [belowE, belowP, hlt, hbc, decide_true, Bool.and_self, Bool.and_true]) (by rw [gb]; exact belowH_setC _ _ _ _ hbh (by simp only [belowC, belowR_d]) hlt)
        · rename_i hp
          obtain ⟨q1, q2⟩ := mix_f hx.out hp
          refine hC _ _ _ _ _ (by omega) ⟨j + 1, by omega, by omega, rfl, rfl, rfl⟩ ?_
          rw [q1, q2]
          exact weak_forget _ (by rw [gb]; exact Nat.le_refl _) rfl ⟨rfl, rfl, rfl, rfl, rfl, trivial⟩ (by rw [gb]; simp only [belowE, belowP, hlt, hbc, decide_true, Bool.and_self, Bool.and_true]) (by rw [gb]; exact belowH_setC _ _ _ _ hbh (by simp only [belowC, belowR_d]) hlt)
      · obtain rfl : j = l.length := by omega
        have hm0 : mixL p l l.length ≠ [] := fun e => by rw [e] at hml; simp at hml; omega
        have hn1 : ¬ dRows ((mixL p l l.length).map encPol) = [] := by simpa [dRows] using hm0
        have hl2 : ∀ z : List PV, (setAt (dRows ((mixL p l l.length).map encPol)) (keptL p l l.length).length (List.replicate (l.length - (keptL p l l.length).length) z)).length = l.length := fun z => by
          rw [setAt_length (by simp [dRows_len, hml]; omega)]
          simp [dRows_len, hml]
        have hn2 : ∀ z : List PV, ¬ setAt (dRows ((mixL p l l.length).map encPol)) (keptL p l l.length).length (List.replicate (l.length - (keptL p l l.length).length) z) = [] := fun z e => by
          have := hl2 z
          rw [e] at this; simp at this; omega
        repeat' (first | (with_reducible refine And.intro ?_ ?_) | (with_reducible refine gK_i (fun _ => ?_) (fun _ => ?_)) | (with_reducible refine condS_i (fun _ => ?_) (fun _ => ?_)) | (with_reducible refine drw_i (by kernel_rfl)) | simp -dsimp only [go_sem, ↓reduceIte, reduceCtorEq, Nat.reduceAdd, Nat.reduceMul, Nat.reduceSub, Nat.reduceLeDiff, Nat.reduceLT, Nat.reduceEqDiff, Int.reduceLE, Int.reduceLT, Int.reduceToNat, Int.reduceBEq, Int.reduceBNe, Int.reduceEq, Int.reduceAdd, Int.reduceSub, Int.reduceMul, Int.reduceNeg, Int.cast_ofNat_Int, *, encPol, Int.lt_irrefl, hml, gb] | ((with_reducible refine opK_c ?_); simp -dsimp only [go_sem, ↓reduceIte, reduceCtorEq, Nat.reduceAdd, Nat.reduceMul, Nat.reduceSub, Nat.reduceLeDiff, Nat.reduceLT, Nat.reduceEqDiff, Int.reduceLE, Int.reduceLT, Int.reduceToNat, Int.reduceBEq, Int.reduceBNe, Int.reduceEq, Int.reduceAdd, Int.reduceSub, Int.reduceMul, Int.reduceNeg, Int.cast_ofNat_Int, encPol, Int.lt_irrefl, hml, gb]; first | refine callK_r (by first | assumption | fail) (by first | exact .inl rfl | exact .inr rfl) ?_ | refine callK_i (by assumption) (by repeat (first | exact DLe.refl _ | exact DLe.nil _ | (refine DLe.tup ?_) | (refine DLe.agg ?_ rfl) | exact trivial | (refine And.intro ?_ ?_))) (by first | exact .inl rfl | exact .inr rfl) ?_) | omega | exact decide_eq_true (by omega) | exact DLe.refl _)
        have hfin := mixL_take p l
        rw [← hfin, List.map_take]
        exact delf_weak hlt (by simp [hml]; omega) (by simpa using hm0) (by simp [hml])
end Go.Proofs.Ytbeocackphfijaa
