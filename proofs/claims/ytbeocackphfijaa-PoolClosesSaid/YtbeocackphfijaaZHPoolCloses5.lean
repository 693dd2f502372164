/- Texts of this work, joined: Pool3, Pool4, Pool5, Pool6, Pool7, Pool8, PoolR4, PoolR5, PoolR7, PoolR9, PoolRA, PoolRB, PoolRC, Pool9, PoolA, PoolA2, PoolB. -/
import Derived.Test.YtbeocackphfijaaZHPoolCloses4
set_option linter.unusedSimpArgs false
set_option linter.unusedVariables false
namespace Go.Proofs.Ytbeocackphfijaa
open Go Go.RowKit
set_option maxRecDepth 100000 in
theorem ownD_m (b : Bok) (h8 : b.pools.length ≤ 8) (h32 : ∀ p ∈ b.pools, p.leases.length ≤ 32) :
    MSpec Try.prog 76 [.d (.agg (encB b))] [] (.ptr 1 0) [.gone, .box 24 [.d (.v (.int .i64 b.tick)), .own 2 b.pools.length], .row 46 9 b.pools.length (dRows (b.pools.map encPol))] := by
  refine ms_i tab_ok mixed Try.func76 rfl Try.ntmps76 Try.results76 (by kernel_rfl) (by simp) (by simp [belowL, belowP]) (by simp [belowH, belowC, belowL, belowP, belowL_d, belowR_d]) ?_
  repeat' (first | (with_reducible refine And.intro ?_ ?_) | (with_reducible refine gK_i (fun _ => ?_) (fun _ => ?_)) | (with_reducible refine condS_i (fun _ => ?_) (fun _ => ?_)) | (with_reducible refine drw_i (by kernel_rfl)) | simp -dsimp only [go_sem, ↓reduceIte, reduceCtorEq, Nat.reduceAdd, Nat.reduceMul, Nat.reduceSub, Nat.reduceLeDiff, Nat.reduceLT, Nat.reduceEqDiff, Int.reduceLE, Int.reduceLT, Int.reduceToNat, Int.reduceBEq, Int.reduceBNe, Int.reduceEq, Int.reduceAdd, Int.reduceSub, Int.reduceMul, Int.reduceNeg, Int.cast_ofNat_Int, *, encB] | ((with_reducible refine opK_c ?_); simp -dsimp only [go_sem, ↓reduceIte, reduceCtorEq, Nat.reduceAdd, Nat.reduceMul, Nat.reduceSub, Nat.reduceLeDiff, Nat.reduceLT, Nat.reduceEqDiff, Int.reduceLE, Int.reduceLT, Int.reduceToNat, Int.reduceBEq, Int.reduceBNe, Int.reduceEq, Int.reduceAdd, Int.reduceSub, Int.reduceMul, Int.reduceNeg, Int.cast_ofNat_Int, encB]; first | refine callK_r (by first | assumption | fail) (by first | exact .inl rfl | exact .inr rfl) ?_ | refine callK_i (by assumption) (by repeat (first | exact DLe.refl _ | exact DLe.nil _ | (refine DLe.tup ?_) | (refine DLe.agg ?_ rfl) | exact trivial | (refine And.intro ?_ ?_))) (by first | exact .inl rfl | exact .inr rfl) ?_) | omega | exact decide_eq_true (by omega) | exact DLe.refl _)
  refine loopL tab_ok mixed b.pools (fun _ => True) (fun k => [(13, .d (.v (.int .i64 k))), (12, .d (.v (.int .i64 b.pools.length))), (11, .d (.sl 9 (b.pools.map encPol))), (3, .ptr 1 0), (2, .d (.v (.pointer none)))])
    (fun k => [.gone, .box 24 [.d (.v (.int .i64 b.tick)), .own 2 k], .row 46 9 k (dRows ((b.pools.take k).map encPol))]) trivial ?_ ?_ ?_
  · refine (weak_gone 0 (by simp)).trans ((weak_adopt_box (by simp) 1 24 [.d (.v (.int .i64 b.tick)), .d (.v (.slice none 0 0))] 1 46 9 rfl rfl rfl).trans ?_)
    exact weak_forget _ (by simp) (by (try simp only [encB]); rfl) (by (repeat' (first | exact trivial | (refine ⟨rfl, ?_⟩)))) (by first | rfl | simp only [belowH, belowE, belowC, belowL, belowR, belowP, belowL_d, belowR_d, List.length_cons, List.length_nil, Nat.reduceAdd, Nat.reduceLT, decide_true, Bool.and_self, Bool.and_true]) (by first | rfl | simp only [belowH, belowE, belowC, belowL, belowR, belowP, belowL_d, belowR_d, List.length_cons, List.length_nil, Nat.reduceAdd, Nat.reduceLT, decide_true, Bool.and_self, Bool.and_true])
  · intro k p hp hk _ C hC
    have hkI : (k : Int) < (b.pools.length : Int) := by omega
    have hwr : IntKind.i64.wrap ((k : Int) + 1) = ((k + 1 : Nat) : Int) := by rw [IntKind.wrap_i64]; omega
    have hpl := h32 p (List.mem_of_getElem? hp)
    have hb1 : k + 1 ≤ 100 := by omega
    have hlt : (List.take k b.pools).length = k := by rw [List.length_take]; omega
    repeat' (first | (with_reducible refine And.intro ?_ ?_) | (with_reducible refine gK_i (fun _ => ?_) (fun _ => ?_)) | (with_reducible refine condS_i (fun _ => ?_) (fun _ => ?_)) | (with_reducible refine drw_i (by kernel_rfl)) | simp -dsimp only [go_sem, ↓reduceIte, reduceCtorEq, Nat.reduceAdd, Nat.reduceMul, Nat.reduceSub, Nat.reduceLeDiff, Nat.reduceLT, Nat.reduceEqDiff, Int.reduceLE, Int.reduceLT, Int.reduceToNat, Int.reduceBEq, Int.reduceBNe, Int.reduceEq, Int.reduceAdd, Int.reduceSub, Int.reduceMul, Int.reduceNeg, Int.cast_ofNat_Int, *, encB, encPol, hkI, hwr, hp] | ((with_reducible refine opK_c ?_); simp -dsimp only [go_sem, ↓reduceIte, reduceCtorEq, Nat.reduceAdd, Nat.reduceMul, Nat.reduceSub, Nat.reduceLeDiff, Nat.reduceLT, Nat.reduceEqDiff, Int.reduceLE, Int.reduceLT, Int.reduceToNat, Int.reduceBEq, Int.reduceBNe, Int.reduceEq, Int.reduceAdd, Int.reduceSub, Int.reduceMul, Int.reduceNeg, Int.cast_ofNat_Int, encB, encPol, hkI, hwr, hp]; first | refine callK_r (by first | assumption | fail) (by first | exact .inl rfl | exact .inr rfl) ?_ | (refine callK_i (by assumption) ?_ ?_ ?_; (solve | (repeat (first | exact DLe.refl _ | exact DLe.nil _ | (refine DLe.tup ?_) | (refine DLe.agg ?_ rfl) | exact trivial | (refine And.intro ?_ ?_)))); (solve | exact .inl rfl | exact .inr rfl))) | (refine opK_M [] (clone_Lease encL p.leases (by omega)) ?_ ?_ ?_ ?_ ?_ ?_; (solve | rfl | simp only [go_sem, ↓reduceIte, reduceCtorEq, Nat.reduceAdd, Nat.reduceMul, Nat.reduceSub, Nat.reduceLeDiff, Nat.reduceLT, Nat.reduceEqDiff, Int.reduceLE, Int.reduceLT, Int.reduceToNat, Int.reduceBEq, Int.reduceBNe, Int.reduceEq, Int.reduceAdd, Int.reduceSub, Int.reduceMul, Int.reduceNeg, Int.cast_ofNat_Int, encPol]); (solve | rfl); (solve | decide); (solve | simp); (solve | simp only [go_sem, ↓reduceIte, reduceCtorEq, Nat.reduceAdd, Nat.reduceMul, Nat.reduceSub, Nat.reduceLeDiff, Nat.reduceLT, Nat.reduceEqDiff, Int.reduceLE, Int.reduceLT, Int.reduceToNat, Int.reduceBEq, Int.reduceBNe, Int.reduceEq, Int.reduceAdd, Int.reduceSub, Int.reduceMul, Int.reduceNeg, Int.cast_ofNat_Int, lentOK, encPol])) | omega | exact decide_eq_true (by omega) | exact DLe.refl _)
    refine hC _ _ trivial ((weak_freeze 4 1 50 5 (p.leases.map encL) rfl).trans ?_)
    simp only [fzE, fz, fzL, fzH, fzC, fzR, fzR_app, fzR_d, fzL_d, List.map_cons, List.map_nil, Nat.reduceAdd, Nat.reduceEqDiff, reduceIte, and_true, true_and, and_self, and_false, false_and, Nat.zero_add, Nat.add_zero, reduceCtorEq]
    exact weak_forget _ (by simp) (by rw [take_snoc hp, List.map_append, List.map_cons, List.map_nil, ← dRows_app]; rfl) (by (repeat' (first | exact trivial | (refine ⟨rfl, ?_⟩)))) (by first | rfl | simp only [belowH, belowE, belowC, belowL, belowR, belowP, belowL_d, belowR_d, List.length_cons, List.length_nil, Nat.reduceAdd, Nat.reduceLT, decide_true, Bool.and_self, Bool.and_true]) (by first | rfl | simp only [belowH, belowE, belowC, belowL, belowR, belowP, belowL_d, belowR_d, List.length_cons, List.length_nil, Nat.reduceAdd, Nat.reduceLT, decide_true, Bool.and_self, Bool.and_true])
  · intro _ C
    repeat' (first | (with_reducible refine And.intro ?_ ?_) | (with_reducible refine gK_i (fun _ => ?_) (fun _ => ?_)) | (with_reducible refine condS_i (fun _ => ?_) (fun _ => ?_)) | (with_reducible refine drw_i (by kernel_rfl)) | simp -dsimp only [go_sem, ↓reduceIte, reduceCtorEq, Nat.reduceAdd, Nat.reduceMul, Nat.reduceSub, Nat.reduceLeDiff, Nat.reduceLT, Nat.reduceEqDiff, Int.reduceLE, Int.reduceLT, Int.reduceToNat, Int.reduceBEq, Int.reduceBNe, Int.reduceEq, Int.reduceAdd, Int.reduceSub, Int.reduceMul, Int.reduceNeg, Int.cast_ofNat_Int, *, encB, Int.lt_irrefl] | ((with_reducible refine opK_c ?_); simp -dsimp only [go_sem, ↓reduceIte, reduceCtorEq, Nat.reduceAdd, Nat.reduceMul, Nat.reduceSub, Nat.reduceLeDiff, Nat.reduceLT, Nat.reduceEqDiff, Int.reduceLE, Int.reduceLT, Int.reduceToNat, Int.reduceBEq, Int.reduceBNe, Int.reduceEq, Int.reduceAdd, Int.reduceSub, Int.reduceMul, Int.reduceNeg, Int.cast_ofNat_Int, encB, Int.lt_irrefl]; first | refine callK_r (by first | assumption | fail) (by first | exact .inl rfl | exact .inr rfl) ?_ | (refine callK_i (by assumption) ?_ ?_ ?_; (solve | (repeat (first | exact DLe.refl _ | exact DLe.nil _ | (refine DLe.tup ?_) | (refine DLe.agg ?_ rfl) | exact trivial | (refine And.intro ?_ ?_)))); (solve | exact .inl rfl | exact .inr rfl))) | fail | omega | exact decide_eq_true (by omega) | exact DLe.refl _)
    rw [List.take_length]
    exact weak_eq rfl rfl
/-- A pool's row, with a slice of one's own for its leases. -/
def polRow (p : Pol) (v : PV) : List PV := [.d (.v (.int .i64 p.id)), .d (.v (.int .i64 p.up)), .d (.v (.int .i64 p.root.at_)), .d (.v (.int .i64 p.root.len)), .d (.v (.int .i64 p.rule.min)), .d (.v (.int .i64 p.rule.max)), .d (.v (.int .i64 p.rule.usual)), .d (.v (.int .i64 p.rule.cool)), v]
/-- Pools, one of which has its leases for itself. -/
def zipR (pre : List Pol) (r : List PV) (post : List Pol) : List (List PV) := dRows (pre.map encPol) ++ r :: dRows (post.map encPol)
theorem zipR_len (pre : List Pol) (r : List PV) (post : List Pol) : (zipR pre r post).length = pre.length + 1 + post.length := by
  simp [zipR, dRows_len]; omega
theorem belowR_app (n : Nat) : ∀ (l m : List (List PV)), belowR n (l ++ m) = (belowR n l && belowR n m)
  | [], m => rfl
  | r :: l, m => by simp only [List.cons_append, belowR, belowR_app n l m, Bool.and_assoc]
theorem belowR_zip (n : Nat) (pre : List Pol) (r : List PV) (post : List Pol) : belowR n (zipR pre r post) = belowL n r := by
  simp only [zipR, belowR_app, belowR, belowR_d, Bool.true_and, Bool.and_true]
theorem fzR_zip (k g : Nat) (d : D) (pre : List Pol) (r : List PV) (post : List Pol) : fzR k g d (zipR pre r post) = zipR pre (fzL k g d r) post := by
  simp only [zipR, fzR_app, fzR, fzR_d]
theorem zipR_snoc (pre : List Pol) (r : List PV) (post : List Pol) (q : Pol) : zipR pre r post ++ [(encPol q).map .d] = zipR pre r (post ++ [q]) := by
  simp [zipR, dRows]
set_option maxRecDepth 100000 in
set_option maxHeartbeats 1000000 in
theorem ownZ_m (b : Bok) (pre post : List Pol) (p : Pol) (hb : b.pools = pre ++ p :: post) (h8 : b.pools.length ≤ 8) (h32 : ∀ p ∈ b.pools, p.leases.length ≤ 32) :
    MSpec Try.prog 76 [.d (.agg (encB b))] [] (.ptr 1 0) [.gone, .box 24 [.d (.v (.int .i64 b.tick)), .own 2 b.pools.length], .row 46 9 b.pools.length (zipR pre (polRow p (.own 4 1)) post), .gone, .row 50 5 1 (dRows (p.leases.map encL))] := by
  have hlen : b.pools.length = pre.length + 1 + post.length := by rw [hb]; simp; omega
  have hL := Lib.hid hb
  have hlen2 := Lib.hid hlen
  clear hb hlen
  refine ms_i tab_ok mixed Try.func76 rfl Try.ntmps76 Try.results76 (by kernel_rfl) (by simp) (by simp [belowL, belowP]) (by simp [belowH, belowC, belowL, belowP, belowL_d, belowR_d]) ?_
  repeat' (first | (with_reducible refine And.intro ?_ ?_) | (with_reducible refine gK_i (fun _ => ?_) (fun _ => ?_)) | (with_reducible refine condS_i (fun _ => ?_) (fun _ => ?_)) | (with_reducible refine drw_i (by kernel_rfl)) | simp -dsimp only [go_sem, ↓reduceIte, reduceCtorEq, Nat.reduceAdd, Nat.reduceMul, Nat.reduceSub, Nat.reduceLeDiff, Nat.reduceLT, Nat.reduceEqDiff, Int.reduceLE, Int.reduceLT, Int.reduceToNat, Int.reduceBEq, Int.reduceBNe, Int.reduceEq, Int.reduceAdd, Int.reduceSub, Int.reduceMul, Int.reduceNeg, Int.cast_ofNat_Int, *, encB] | ((with_reducible refine opK_c ?_); simp -dsimp only [go_sem, ↓reduceIte, reduceCtorEq, Nat.reduceAdd, Nat.reduceMul, Nat.reduceSub, Nat.reduceLeDiff, Nat.reduceLT, Nat.reduceEqDiff, Int.reduceLE, Int.reduceLT, Int.reduceToNat, Int.reduceBEq, Int.reduceBNe, Int.reduceEq, Int.reduceAdd, Int.reduceSub, Int.reduceMul, Int.reduceNeg, Int.cast_ofNat_Int, encB]; first | refine callK_r (by first | assumption | fail) (by first | exact .inl rfl | exact .inr rfl) ?_ | refine callK_i (by assumption) (by repeat (first | exact DLe.refl _ | exact DLe.nil _ | (refine DLe.tup ?_) | (refine DLe.agg ?_ rfl) | exact trivial | (refine And.intro ?_ ?_))) (by first | exact .inl rfl | exact .inr rfl) ?_) | omega | exact decide_eq_true (by omega) | exact DLe.refl _)
  refine loopG tab_ok mixed (fun m e h => (∃ k, k ≤ pre.length ∧ m = b.pools.length - k ∧ e = [(13, .d (.v (.int .i64 k))), (12, .d (.v (.int .i64 b.pools.length))), (11, .d (.sl 9 (b.pools.map encPol))), (3, .ptr 1 0), (2, .d (.v (.pointer none)))] ∧
      h = [.gone, .box 24 [.d (.v (.int .i64 b.tick)), .own 2 k], .row 46 9 k (dRows ((pre.take k).map encPol))]) ∨
    ∃ k j, k = pre.length + 1 + j ∧ j ≤ post.length ∧ m = b.pools.length - k ∧ e = [(13, .d (.v (.int .i64 k))), (12, .d (.v (.int .i64 b.pools.length))), (11, .d (.sl 9 (b.pools.map encPol))), (3, .ptr 1 0), (2, .d (.v (.pointer none)))] ∧
      h = [.gone, .box 24 [.d (.v (.int .i64 b.tick)), .own 2 k], .row 46 9 k (zipR pre (polRow p (.own 4 1)) (post.take j)), .gone, .row 50 5 1 (dRows (p.leases.map encL))]) _ _ _ (.inl ⟨0, Nat.zero_le _, rfl, rfl, rfl⟩) ?_ ?_
  · refine (weak_gone 0 (by simp)).trans ((weak_adopt_box (by simp) 1 24 [.d (.v (.int .i64 b.tick)), .d (.v (.slice none 0 0))] 1 46 9 rfl rfl rfl).trans ?_)
    exact weak_forget _ (by simp) (by (try simp only [encB]); rfl) (by (repeat' (first | exact trivial | (refine ⟨rfl, ?_⟩)))) (by first | rfl | simp only [belowH, belowE, belowC, belowL, belowR, belowP, belowL_d, belowR_d, List.length_cons, List.length_nil, Nat.reduceAdd, Nat.reduceLT, decide_true, Bool.and_self, Bool.and_true]) (by first | rfl | simp only [belowH, belowE, belowC, belowL, belowR, belowP, belowL_d, belowR_d, List.length_cons, List.length_nil, Nat.reduceAdd, Nat.reduceLT, decide_true, Bool.and_self, Bool.and_true])
  · rintro m e h (⟨k, hk, hm, rfl, rfl⟩ | ⟨k, j, hkj, hj, hm, rfl, rfl⟩) C hC
    · have hkI : (k : Int) < (b.pools.length : Int) := by have := hlen2.out; omega
      have hwr : IntKind.i64.wrap ((k : Int) + 1) = ((k + 1 : Nat) : Int) := by rw [IntKind.wrap_i64]; omega
      have hb1 : k + 1 ≤ 100 := by have := hlen2.out; omega
      have hlt : (List.take k pre).length = k := by rw [List.length_take]; omega
      have hm := Lib.hid hm
      by_cases hkp : k < pre.length
      · obtain ⟨q, hq⟩ : ∃ q, pre[k]? = some q := ⟨_, List.getElem?_eq_getElem hkp⟩
        have hq2 : b.pools[k]? = some q := by rw [hL.out, List.getElem?_append_left hkp]; exact hq
        have hpl := h32 q (List.mem_of_getElem? hq2)
        have hq := Lib.hid hq
        repeat' (first | (with_reducible refine And.intro ?_ ?_) | (with_reducible refine gK_i (fun _ => ?_) (fun _ => ?_)) | (with_reducible refine condS_i (fun _ => ?_) (fun _ => ?_)) | (with_reducible refine drw_i (by kernel_rfl)) | simp -dsimp only [go_sem, ↓reduceIte, reduceCtorEq, Nat.reduceAdd, Nat.reduceMul, Nat.reduceSub, Nat.reduceLeDiff, Nat.reduceLT, Nat.reduceEqDiff, Int.reduceLE, Int.reduceLT, Int.reduceToNat, Int.reduceBEq, Int.reduceBNe, Int.reduceEq, Int.reduceAdd, Int.reduceSub, Int.reduceMul, Int.reduceNeg, Int.cast_ofNat_Int, *, encB, encPol, hkI, hwr, hq2] | ((with_reducible refine opK_c ?_); simp -dsimp only [go_sem, ↓reduceIte, reduceCtorEq, Nat.reduceAdd, Nat.reduceMul, Nat.reduceSub, Nat.reduceLeDiff, Nat.reduceLT, Nat.reduceEqDiff, Int.reduceLE, Int.reduceLT, Int.reduceToNat, Int.reduceBEq, Int.reduceBNe, Int.reduceEq, Int.reduceAdd, Int.reduceSub, Int.reduceMul, Int.reduceNeg, Int.cast_ofNat_Int, encB, encPol, hkI, hwr, hq2]; first | refine callK_r (by first | assumption | fail) (by first | exact .inl rfl | exact .inr rfl) ?_ | (refine callK_i (by assumption) ?_ ?_ ?_; (solve | (repeat (first | exact DLe.refl _ | exact DLe.nil _ | (refine DLe.tup ?_) | (refine DLe.agg ?_ rfl) | exact trivial | (refine And.intro ?_ ?_)))); (solve | exact .inl rfl | exact .inr rfl))) | (refine opK_M [] (clone_Lease encL q.leases (by omega)) ?_ ?_ ?_ ?_ ?_ ?_; (solve | rfl | simp only [go_sem, ↓reduceIte, reduceCtorEq, Nat.reduceAdd, Nat.reduceMul, Nat.reduceSub, Nat.reduceLeDiff, Nat.reduceLT, Nat.reduceEqDiff, Int.reduceLE, Int.reduceLT, Int.reduceToNat, Int.reduceBEq, Int.reduceBNe, Int.reduceEq, Int.reduceAdd, Int.reduceSub, Int.reduceMul, Int.reduceNeg, Int.cast_ofNat_Int, encPol]); (solve | rfl); (solve | decide); (solve | simp); (solve | simp only [go_sem, ↓reduceIte, reduceCtorEq, Nat.reduceAdd, Nat.reduceMul, Nat.reduceSub, Nat.reduceLeDiff, Nat.reduceLT, Nat.reduceEqDiff, Int.reduceLE, Int.reduceLT, Int.reduceToNat, Int.reduceBEq, Int.reduceBNe, Int.reduceEq, Int.reduceAdd, Int.reduceSub, Int.reduceMul, Int.reduceNeg, Int.cast_ofNat_Int, lentOK, encPol])) | omega | exact decide_eq_true (by omega) | exact DLe.refl _)
        refine hC _ _ _ _ _ ?_ (.inl ⟨k + 1, hkp, rfl, rfl, rfl⟩) ((weak_freeze 4 1 50 5 (q.leases.map encL) rfl).trans ?_)
        · have := hm.out; have := hlen2.out; omega
        simp only [fzE, fz, fzL, fzH, fzC, fzR, fzR_app, fzR_d, fzL_d, List.map_cons, List.map_nil, Nat.reduceAdd, Nat.reduceEqDiff, reduceIte, and_true, true_and, and_self, and_false, false_and, Nat.zero_add, Nat.add_zero, reduceCtorEq]
        exact weak_forget _ (by simp) (by rw [take_snoc hq.out, List.map_append, List.map_cons, List.map_nil, ← dRows_app]; rfl) (by (repeat' (first | exact trivial | (refine ⟨rfl, ?_⟩)))) (by first | rfl | simp only [belowH, belowE, belowC, belowL, belowR, belowP, belowL_d, belowR_d, List.length_cons, List.length_nil, Nat.reduceAdd, Nat.reduceLT, decide_true, Bool.and_self, Bool.and_true]) (by first | rfl | simp only [belowH, belowE, belowC, belowL, belowR, belowP, belowL_d, belowR_d, List.length_cons, List.length_nil, Nat.reduceAdd, Nat.reduceLT, decide_true, Bool.and_self, Bool.and_true])
      · obtain rfl : k = pre.length := by omega
        have hq2 : b.pools[pre.length]? = some p := by rw [hL.out, List.getElem?_append_right (Nat.le_refl _), Nat.sub_self]; rfl
        have hpl := h32 p (List.mem_of_getElem? hq2)
        repeat' (first | (with_reducible refine And.intro ?_ ?_) | (with_reducible refine gK_i (fun _ => ?_) (fun _ => ?_)) | (with_reducible refine condS_i (fun _ => ?_) (fun _ => ?_)) | (with_reducible refine drw_i (by kernel_rfl)) | simp -dsimp only [go_sem, ↓reduceIte, reduceCtorEq, Nat.reduceAdd, Nat.reduceMul, Nat.reduceSub, Nat.reduceLeDiff, Nat.reduceLT, Nat.reduceEqDiff, Int.reduceLE, Int.reduceLT, Int.reduceToNat, Int.reduceBEq, Int.reduceBNe, Int.reduceEq, Int.reduceAdd, Int.reduceSub, Int.reduceMul, Int.reduceNeg, Int.cast_ofNat_Int, *, encB, encPol, hkI, hwr, hq2, List.take_length] | ((with_reducible refine opK_c ?_); simp -dsimp only [go_sem, ↓reduceIte, reduceCtorEq, Nat.reduceAdd, Nat.reduceMul, Nat.reduceSub, Nat.reduceLeDiff, Nat.reduceLT, Nat.reduceEqDiff, Int.reduceLE, Int.reduceLT, Int.reduceToNat, Int.reduceBEq, Int.reduceBNe, Int.reduceEq, Int.reduceAdd, Int.reduceSub, Int.reduceMul, Int.reduceNeg, Int.cast_ofNat_Int, encB, encPol, hkI, hwr, hq2, List.take_length]; first | refine callK_r (by first | assumption | fail) (by first | exact .inl rfl | exact .inr rfl) ?_ | (refine callK_i (by assumption) ?_ ?_ ?_; (solve | (repeat (first | exact DLe.refl _ | exact DLe.nil _ | (refine DLe.tup ?_) | (refine DLe.agg ?_ rfl) | exact trivial | (refine And.intro ?_ ?_)))); (solve | exact .inl rfl | exact .inr rfl))) | (refine opK_M [] (clone_Lease encL p.leases (by omega)) ?_ ?_ ?_ ?_ ?_ ?_; (solve | rfl | simp only [go_sem, ↓reduceIte, reduceCtorEq, Nat.reduceAdd, Nat.reduceMul, Nat.reduceSub, Nat.reduceLeDiff, Nat.reduceLT, Nat.reduceEqDiff, Int.reduceLE, Int.reduceLT, Int.reduceToNat, Int.reduceBEq, Int.reduceBNe, Int.reduceEq, Int.reduceAdd, Int.reduceSub, Int.reduceMul, Int.reduceNeg, Int.cast_ofNat_Int, encPol]); (solve | rfl); (solve | decide); (solve | simp); (solve | simp only [go_sem, ↓reduceIte, reduceCtorEq, Nat.reduceAdd, Nat.reduceMul, Nat.reduceSub, Nat.reduceLeDiff, Nat.reduceLT, Nat.reduceEqDiff, Int.reduceLE, Int.reduceLT, Int.reduceToNat, Int.reduceBEq, Int.reduceBNe, Int.reduceEq, Int.reduceAdd, Int.reduceSub, Int.reduceMul, Int.reduceNeg, Int.cast_ofNat_Int, lentOK, encPol])) | omega | exact decide_eq_true (by omega) | exact DLe.refl _)
        refine hC _ _ _ _ _ ?_ (.inr ⟨pre.length + 1, 0, rfl, Nat.zero_le _, rfl, rfl, rfl⟩) ((weak_gone 3 (by simp)).trans ?_)
        · have := hm.out; have := hlen2.out; omega
        exact weak_forget _ (by simp) (by rfl) (by (repeat' (first | exact trivial | (refine ⟨rfl, ?_⟩)))) (by first | rfl | simp only [belowH, belowE, belowC, belowL, belowR, belowP, belowL_d, belowR_d, belowR_zip, polRow, List.length_cons, List.length_nil, Nat.reduceAdd, Nat.reduceLT, decide_true, Bool.and_self, Bool.and_true]) (by first | rfl | simp only [belowH, belowE, belowC, belowL, belowR, belowP, belowL_d, belowR_d, belowR_zip, polRow, List.length_cons, List.length_nil, Nat.reduceAdd, Nat.reduceLT, decide_true, Bool.and_self, Bool.and_true])
    · have hm := Lib.hid hm
      have hkj2 := Lib.hid hkj
      have hb1 : pre.length + 1 + j + 1 ≤ 100 := by have := hlen2.out; omega
      have hlt : (List.take j post).length = j := by rw [List.length_take]; omega
      have hkl : k ≤ b.pools.length := by have := hlen2.out; omega
      by_cases hjp : j < post.length
      · obtain ⟨q, hq⟩ : ∃ q, post[j]? = some q := ⟨_, List.getElem?_eq_getElem hjp⟩
        have hq2 : b.pools[k]? = some q := by
          rw [hL.out, List.getElem?_append_right (by omega), show k - pre.length = j + 1 by omega, List.getElem?_cons_succ]; exact hq
        have hpl := h32 q (List.mem_of_getElem? hq2)
        have hkI : (k : Int) < (b.pools.length : Int) := by have := hlen2.out; omega
        have hwr : IntKind.i64.wrap ((k : Int) + 1) = ((k + 1 : Nat) : Int) := by rw [IntKind.wrap_i64]; omega
        have hq := Lib.hid hq
        clear hkj
        repeat' (first | (with_reducible refine And.intro ?_ ?_) | (with_reducible refine gK_i (fun _ => ?_) (fun _ => ?_)) | (with_reducible refine condS_i (fun _ => ?_) (fun _ => ?_)) | (with_reducible refine drw_i (by kernel_rfl)) | simp -dsimp only [go_sem, ↓reduceIte, reduceCtorEq, Nat.reduceAdd, Nat.reduceMul, Nat.reduceSub, Nat.reduceLeDiff, Nat.reduceLT, Nat.reduceEqDiff, Int.reduceLE, Int.reduceLT, Int.reduceToNat, Int.reduceBEq, Int.reduceBNe, Int.reduceEq, Int.reduceAdd, Int.reduceSub, Int.reduceMul, Int.reduceNeg, Int.cast_ofNat_Int, *, encB, encPol, hkI, hwr, hq2, zipR_len, hlt] | ((with_reducible refine opK_c ?_); simp -dsimp only [go_sem, ↓reduceIte, reduceCtorEq, Nat.reduceAdd, Nat.reduceMul, Nat.reduceSub, Nat.reduceLeDiff, Nat.reduceLT, Nat.reduceEqDiff, Int.reduceLE, Int.reduceLT, Int.reduceToNat, Int.reduceBEq, Int.reduceBNe, Int.reduceEq, Int.reduceAdd, Int.reduceSub, Int.reduceMul, Int.reduceNeg, Int.cast_ofNat_Int, encB, encPol, hkI, hwr, hq2, zipR_len, hlt]; first | refine callK_r (by first | assumption | fail) (by first | exact .inl rfl | exact .inr rfl) ?_ | (refine callK_i (by assumption) ?_ ?_ ?_; (solve | (repeat (first | exact DLe.refl _ | exact DLe.nil _ | (refine DLe.tup ?_) | (refine DLe.agg ?_ rfl) | exact trivial | (refine And.intro ?_ ?_)))); (solve | exact .inl rfl | exact .inr rfl))) | (refine opK_M [] (clone_Lease encL q.leases (by omega)) ?_ ?_ ?_ ?_ ?_ ?_; (solve | rfl | simp only [go_sem, ↓reduceIte, reduceCtorEq, Nat.reduceAdd, Nat.reduceMul, Nat.reduceSub, Nat.reduceLeDiff, Nat.reduceLT, Nat.reduceEqDiff, Int.reduceLE, Int.reduceLT, Int.reduceToNat, Int.reduceBEq, Int.reduceBNe, Int.reduceEq, Int.reduceAdd, Int.reduceSub, Int.reduceMul, Int.reduceNeg, Int.cast_ofNat_Int, encPol]); (solve | rfl); (solve | decide); (solve | simp); (solve | simp only [go_sem, ↓reduceIte, reduceCtorEq, Nat.reduceAdd, Nat.reduceMul, Nat.reduceSub, Nat.reduceLeDiff, Nat.reduceLT, Nat.reduceEqDiff, Int.reduceLE, Int.reduceLT, Int.reduceToNat, Int.reduceBEq, Int.reduceBNe, Int.reduceEq, Int.reduceAdd, Int.reduceSub, Int.reduceMul, Int.reduceNeg, Int.cast_ofNat_Int, lentOK, encPol])) | omega | exact decide_eq_true (by omega) | exact DLe.refl _)
        refine hC _ _ _ _ _ ?_ (.inr ⟨k + 1, j + 1, by have := hkj2.out; omega, hjp, rfl, rfl, rfl⟩) ((weak_freeze 6 1 50 5 (q.leases.map encL) rfl).trans ?_)
        · have := hm.out; have := hlen2.out; have := hkj2.out; omega
        simp only [fzE, fz, fzL, fzH, fzC, fzR, fzR_app, fzR_d, fzL_d, List.map_cons, List.map_nil, Nat.reduceAdd, Nat.reduceEqDiff, reduceIte, and_true, true_and, and_self, and_false, false_and, Nat.zero_add, Nat.add_zero, reduceCtorEq, fzR_zip, polRow]
        exact weak_forget _ (by simp) (by rw [take_snoc hq.out, ← zipR_snoc]; rfl) (by (repeat' (first | exact trivial | (refine ⟨rfl, ?_⟩)))) (by first | rfl | simp only [belowH, belowE, belowC, belowL, belowR, belowP, belowL_d, belowR_d, belowR_zip, polRow, List.length_cons, List.length_nil, Nat.reduceAdd, Nat.reduceLT, decide_true, Bool.and_self, Bool.and_true]) (by first | rfl | simp only [belowH, belowE, belowC, belowL, belowR, belowP, belowL_d, belowR_d, belowR_zip, polRow, List.length_cons, List.length_nil, Nat.reduceAdd, Nat.reduceLT, decide_true, Bool.and_self, Bool.and_true])
      · obtain rfl : j = post.length := by omega
        obtain rfl : k = b.pools.length := by have := hlen2.out; omega
        clear hkj
        repeat' (first | (with_reducible refine And.intro ?_ ?_) | (with_reducible refine gK_i (fun _ => ?_) (fun _ => ?_)) | (with_reducible refine condS_i (fun _ => ?_) (fun _ => ?_)) | (with_reducible refine drw_i (by kernel_rfl)) | simp -dsimp only [go_sem, ↓reduceIte, reduceCtorEq, Nat.reduceAdd, Nat.reduceMul, Nat.reduceSub, Nat.reduceLeDiff, Nat.reduceLT, Nat.reduceEqDiff, Int.reduceLE, Int.reduceLT, Int.reduceToNat, Int.reduceBEq, Int.reduceBNe, Int.reduceEq, Int.reduceAdd, Int.reduceSub, Int.reduceMul, Int.reduceNeg, Int.cast_ofNat_Int, *, encB, Int.lt_irrefl] | ((with_reducible refine opK_c ?_); simp -dsimp only [go_sem, ↓reduceIte, reduceCtorEq, Nat.reduceAdd, Nat.reduceMul, Nat.reduceSub, Nat.reduceLeDiff, Nat.reduceLT, Nat.reduceEqDiff, Int.reduceLE, Int.reduceLT, Int.reduceToNat, Int.reduceBEq, Int.reduceBNe, Int.reduceEq, Int.reduceAdd, Int.reduceSub, Int.reduceMul, Int.reduceNeg, Int.cast_ofNat_Int, encB, Int.lt_irrefl]; first | refine callK_r (by first | assumption | fail) (by first | exact .inl rfl | exact .inr rfl) ?_ | (refine callK_i (by assumption) ?_ ?_ ?_; (solve | (repeat (first | exact DLe.refl _ | exact DLe.nil _ | (refine DLe.tup ?_) | (refine DLe.agg ?_ rfl) | exact trivial | (refine And.intro ?_ ?_)))); (solve | exact .inl rfl | exact .inr rfl))) | fail | omega | exact decide_eq_true (by omega) | exact DLe.refl _)
        rw [List.take_length]
        exact weak_eq rfl rfl
end Go.Proofs.Ytbeocackphfijaa
namespace Go.Proofs.Ytbeocackphfijaa
open Go Go.RowKit
theorem renR_zip (ρ : Nat → Nat) (pre : List Pol) (r : List PV) (post : List Pol) : renR ρ (zipR pre r post) = zipR pre (renL ρ r) post := by
  have app : ∀ (l m : List (List PV)), renR ρ (l ++ m) = renR ρ l ++ renR ρ m := by
    intro l m
    rw [renR_map, renR_map, renR_map, List.map_append]
  simp only [zipR, app, renR, renR_d]
/-- A right book. -/
structure BookOK (b : Bok) : Prop where
  n8 : b.pools.length ≤ 8
  l32 : ∀ p ∈ b.pools, p.leases.length ≤ 32
  rise : Rise b.pools
  tick : 0 ≤ b.tick ∧ b.tick ≤ 1073741824
  mem : ∀ p ∈ b.pools, idOK p.id = true ∧ chkS p.root (usedP p) = 0 ∧ ruleOK p.rule p.root.len = true
  second : secondOK b b.pools [] = true
theorem bookOK {b : Bok} (h : chkBk b = 0) : BookOK b := by
  unfold chkBk at h
  split at h
  · cases h
  · rename_i h8
    split at h
    · cases h
    · rename_i ht
      split at h
      · rename_i hf
        rw [Bool.and_eq_true] at hf
        have hm := firstOK_mem _ _ hf.1
        refine ⟨by omega, fun p hp => ?_, (firstOK_rise _ _ hf.1).1, by omega, hm, hf.2⟩
        have := (hm p hp).2.1
        unfold chkS at this
        split at this
        · cases this
        · rename_i h; simpa [usedP] using h
      · cases h
set_option maxRecDepth 100000 in
theorem beginE_p (b : Bok) (hz : ∀ p ∈ b.pools, p.leases.length ≤ 3518437208882) (h : chkBk b ≠ 0) : PSpec Try.prog 31 [.agg (encB b)] (.tup [.v (.pointer none), .v (.int .i64 (chkBk b))]) := by
  have hc := bkCheck_p b hz
  have h1 : (chkBk b != 0) = true := by simpa using h
  refine ps_i tab_ok mixed Try.func31 rfl Try.ntmps31 Try.results31 (by kernel_rfl) ?_
  repeat' (first | (with_reducible refine And.intro ?_ ?_) | (with_reducible refine gK_i (fun _ => ?_) (fun _ => ?_)) | (with_reducible refine condS_i (fun _ => ?_) (fun _ => ?_)) | (with_reducible refine drw_i (by kernel_rfl)) | simp -dsimp only [go_sem, ↓reduceIte, reduceCtorEq, Nat.reduceAdd, Nat.reduceMul, Nat.reduceSub, Nat.reduceLeDiff, Nat.reduceLT, Nat.reduceEqDiff, Int.reduceLE, Int.reduceLT, Int.reduceToNat, Int.reduceBEq, Int.reduceBNe, Int.reduceEq, Int.reduceAdd, Int.reduceSub, Int.reduceMul, Int.reduceNeg, Int.cast_ofNat_Int, *, encB, h1] | ((with_reducible refine opK_c ?_); simp -dsimp only [go_sem, ↓reduceIte, reduceCtorEq, Nat.reduceAdd, Nat.reduceMul, Nat.reduceSub, Nat.reduceLeDiff, Nat.reduceLT, Nat.reduceEqDiff, Int.reduceLE, Int.reduceLT, Int.reduceToNat, Int.reduceBEq, Int.reduceBNe, Int.reduceEq, Int.reduceAdd, Int.reduceSub, Int.reduceMul, Int.reduceNeg, Int.cast_ofNat_Int, encB, h1]; first | refine callK_r (by first | assumption | exact hc) (by first | exact .inl rfl | exact .inr rfl) ?_ | (refine callK_i (by assumption) ?_ ?_ ?_; (solve | (repeat (first | exact DLe.refl _ | exact DLe.nil _ | (refine DLe.tup ?_) | (refine DLe.agg ?_ rfl) | exact trivial | (refine And.intro ?_ ?_)))); (solve | exact .inl rfl | exact .inr rfl))) | fail | omega | exact decide_eq_true (by omega) | exact DLe.refl _)
set_option maxRecDepth 100000 in
theorem beginD_m (b : Bok) (hz : ∀ p ∈ b.pools, p.leases.length ≤ 3518437208882) (h : chkBk b = 0) :
    MSpec Try.prog 31 [.d (.agg (encB b))] [] (.tup [.ptr 2 0, .d (.v (.int .i64 0))]) [.gone, .gone, .box 24 [.d (.v (.int .i64 b.tick)), .own 3 b.pools.length], .row 46 9 b.pools.length (dRows (b.pools.map encPol))] := by
  have hc := bkCheck_p b hz
  have hb := bookOK h
  have ho := ownD_m b hb.n8 hb.l32
  rw [h] at hc
  replace h := Lib.hid h
  refine ms_i tab_ok mixed Try.func31 rfl Try.ntmps31 Try.results31 (by kernel_rfl) (by simp) (by simp [belowL, belowP]) (by simp [belowH, belowC, belowL, belowP, belowL_d, belowR_d]) ?_
  repeat' (first | (with_reducible refine And.intro ?_ ?_) | (with_reducible refine gK_i (fun _ => ?_) (fun _ => ?_)) | (with_reducible refine condS_i (fun _ => ?_) (fun _ => ?_)) | (with_reducible refine drw_i (by kernel_rfl)) | simp -dsimp only [go_sem, ↓reduceIte, reduceCtorEq, Nat.reduceAdd, Nat.reduceMul, Nat.reduceSub, Nat.reduceLeDiff, Nat.reduceLT, Nat.reduceEqDiff, Int.reduceLE, Int.reduceLT, Int.reduceToNat, Int.reduceBEq, Int.reduceBNe, Int.reduceEq, Int.reduceAdd, Int.reduceSub, Int.reduceMul, Int.reduceNeg, Int.cast_ofNat_Int, *, encB] | ((with_reducible refine opK_c ?_); simp -dsimp only [go_sem, ↓reduceIte, reduceCtorEq, Nat.reduceAdd, Nat.reduceMul, Nat.reduceSub, Nat.reduceLeDiff, Nat.reduceLT, Nat.reduceEqDiff, Int.reduceLE, Int.reduceLT, Int.reduceToNat, Int.reduceBEq, Int.reduceBNe, Int.reduceEq, Int.reduceAdd, Int.reduceSub, Int.reduceMul, Int.reduceNeg, Int.cast_ofNat_Int, encB]; first | refine callK_r (by first | assumption | exact hc) (by first | exact .inl rfl | exact .inr rfl) ?_ | (refine callK_i (by assumption) ?_ ?_ ?_; (solve | (repeat (first | exact DLe.refl _ | exact DLe.nil _ | (refine DLe.tup ?_) | (refine DLe.agg ?_ rfl) | exact trivial | (refine And.intro ?_ ?_)))); (solve | exact .inl rfl | exact .inr rfl))) | (refine opK_M [] (ho) ?_ ?_ ?_ ?_ ?_ ?_; (solve | rfl | simp only [go_sem, ↓reduceIte, reduceCtorEq, Nat.reduceAdd, Nat.reduceMul, Nat.reduceSub, Nat.reduceLeDiff, Nat.reduceLT, Nat.reduceEqDiff, Int.reduceLE, Int.reduceLT, Int.reduceToNat, Int.reduceBEq, Int.reduceBNe, Int.reduceEq, Int.reduceAdd, Int.reduceSub, Int.reduceMul, Int.reduceNeg, Int.cast_ofNat_Int, encB]); (solve | rfl); (solve | decide); (solve | simp); (solve | simp only [go_sem, ↓reduceIte, reduceCtorEq, Nat.reduceAdd, Nat.reduceMul, Nat.reduceSub, Nat.reduceLeDiff, Nat.reduceLT, Nat.reduceEqDiff, Int.reduceLE, Int.reduceLT, Int.reduceToNat, Int.reduceBEq, Int.reduceBNe, Int.reduceEq, Int.reduceAdd, Int.reduceSub, Int.reduceMul, Int.reduceNeg, Int.cast_ofNat_Int, lentOK, encB])) | omega | exact decide_eq_true (by omega) | exact DLe.refl _)
  exact (weak_gone 0 (by simp)).trans (weak_eq rfl rfl)
set_option maxRecDepth 100000 in
theorem beginZ_m (b : Bok) (pre post : List Pol) (p : Pol) (hp : b.pools = pre ++ p :: post) (hz : ∀ p ∈ b.pools, p.leases.length ≤ 3518437208882) (h : chkBk b = 0) :
    MSpec Try.prog 31 [.d (.agg (encB b))] [] (.tup [.ptr 2 0, .d (.v (.int .i64 0))]) [.gone, .gone, .box 24 [.d (.v (.int .i64 b.tick)), .own 3 b.pools.length], .row 46 9 b.pools.length (zipR pre (polRow p (.own 5 1)) post), .gone, .row 50 5 1 (dRows (p.leases.map encL))] := by
  have hc := bkCheck_p b hz
  have hb := bookOK h
  have ho := ownZ_m b pre post p hp hb.n8 hb.l32
  rw [h] at hc
  replace h := Lib.hid h
  replace hp := Lib.hid hp
  refine ms_i tab_ok mixed Try.func31 rfl Try.ntmps31 Try.results31 (by kernel_rfl) (by simp) (by simp [belowL, belowP]) (by simp [belowH, belowC, belowL, belowP, belowL_d, belowR_d]) ?_
  repeat' (first | (with_reducible refine And.intro ?_ ?_) | (with_reducible refine gK_i (fun _ => ?_) (fun _ => ?_)) | (with_reducible refine condS_i (fun _ => ?_) (fun _ => ?_)) | (with_reducible refine drw_i (by kernel_rfl)) | simp -dsimp only [go_sem, ↓reduceIte, reduceCtorEq, Nat.reduceAdd, Nat.reduceMul, Nat.reduceSub, Nat.reduceLeDiff, Nat.reduceLT, Nat.reduceEqDiff, Int.reduceLE, Int.reduceLT, Int.reduceToNat, Int.reduceBEq, Int.reduceBNe, Int.reduceEq, Int.reduceAdd, Int.reduceSub, Int.reduceMul, Int.reduceNeg, Int.cast_ofNat_Int, *, encB, polRow, renR_zip] | ((with_reducible refine opK_c ?_); simp -dsimp only [go_sem, ↓reduceIte, reduceCtorEq, Nat.reduceAdd, Nat.reduceMul, Nat.reduceSub, Nat.reduceLeDiff, Nat.reduceLT, Nat.reduceEqDiff, Int.reduceLE, Int.reduceLT, Int.reduceToNat, Int.reduceBEq, Int.reduceBNe, Int.reduceEq, Int.reduceAdd, Int.reduceSub, Int.reduceMul, Int.reduceNeg, Int.cast_ofNat_Int, encB, polRow, renR_zip]; first | refine callK_r (by first | assumption | exact hc) (by first | exact .inl rfl | exact .inr rfl) ?_ | (refine callK_i (by assumption) ?_ ?_ ?_; (solve | (repeat (first | exact DLe.refl _ | exact DLe.nil _ | (refine DLe.tup ?_) | (refine DLe.agg ?_ rfl) | exact trivial | (refine And.intro ?_ ?_)))); (solve | exact .inl rfl | exact .inr rfl))) | (refine opK_M [] (ho) ?_ ?_ ?_ ?_ ?_ ?_; (solve | rfl | simp only [go_sem, ↓reduceIte, reduceCtorEq, Nat.reduceAdd, Nat.reduceMul, Nat.reduceSub, Nat.reduceLeDiff, Nat.reduceLT, Nat.reduceEqDiff, Int.reduceLE, Int.reduceLT, Int.reduceToNat, Int.reduceBEq, Int.reduceBNe, Int.reduceEq, Int.reduceAdd, Int.reduceSub, Int.reduceMul, Int.reduceNeg, Int.cast_ofNat_Int, encB, polRow, renR_zip]); (solve | rfl); (solve | decide); (solve | simp); (solve | simp only [go_sem, ↓reduceIte, reduceCtorEq, Nat.reduceAdd, Nat.reduceMul, Nat.reduceSub, Nat.reduceLeDiff, Nat.reduceLT, Nat.reduceEqDiff, Int.reduceLE, Int.reduceLT, Int.reduceToNat, Int.reduceBEq, Int.reduceBNe, Int.reduceEq, Int.reduceAdd, Int.reduceSub, Int.reduceMul, Int.reduceNeg, Int.cast_ofNat_Int, lentOK, encB, polRow, renR_zip])) | omega | exact decide_eq_true (by omega) | exact DLe.refl _)
  exact (weak_gone 0 (by simp)).trans (weak_eq rfl rfl)
theorem lb_at {α : Type} {key : α → Int} {l : List α} {i : Nat} {q : α} (hs : l.Pairwise fun a b => key a < key b) (hq : l[i]? = some q) : lbN key (key q) l = i ∧ lbB key (key q) l = true := by
  obtain ⟨hi, rfl⟩ := List.getElem?_eq_some_iff.1 hq
  have h1 : lbN key (key l[i]) l = i := lbN_eq (Nat.le_of_lt hi) (fun k hk hki => List.pairwise_iff_getElem.1 hs k i hk hi hki) (fun k hk hki => by
    rcases Nat.lt_or_ge i k with h | h
    · have := List.pairwise_iff_getElem.1 hs i k hi hk h; omega
    · obtain rfl : k = i := by omega
      exact Int.le_refl _)
  refine ⟨h1, ?_⟩
  unfold lbB
  rw [h1, hq]; simp
set_option maxRecDepth 100000 in
/-- A pool that is there, in a book of one's own. -/
theorem find_m (b : Bok) (i : Nat) (q : Pol) (g : Nat) (rows : List (List PV)) (hs : List Chunk) (c0 : PV) (hq : b.pools[i]? = some q) (hr : Rise b.pools) (h8 : b.pools.length ≤ 8) (hrl : rows.length = b.pools.length)
    (hv : viewR (viewF (hatL (.box 24 [c0, .own 1 g] :: .row 46 9 g rows :: hs)) 5) rows = some (b.pools.map encPol)) (hbl : belowR (hs.length + 2) rows = true) (hbh : belowH (hs.length + 2) hs = true) (hc0 : belowP (hs.length + 2) c0 = true) :
    MSpec Try.prog 32 [.ptr 0 0, .d (.v (.int .i64 q.id))] (.box 24 [c0, .own 1 g] :: .row 46 9 g rows :: hs) (.tup [.rp 1 g 9 i 0, .d (.v (.bool true))]) (.box 24 [c0, .own 1 g] :: .row 46 9 g rows :: hs) := by
  have hbs := bsrf_Pool encPol_len (fun p => p.id) b.pools q.id 78 [] (by omega) hr (fun p _ => byId_p p q.id)
  obtain ⟨e1, e2⟩ := lb_at (key := fun p : Pol => p.id) hr hq
  rw [e1, e2] at hbs
  have hi : i < rows.length := by rw [hrl]; exact (List.getElem?_eq_some_iff.1 hq).1
  have hiI : (0 : Int) ≤ (i : Int) := by omega
  replace hq := Lib.hid hq
  replace hrl := Lib.hid hrl
  replace e1 := Lib.hid e1
  replace e2 := Lib.hid e2
  refine ms_w tab_ok mixed Try.func32 rfl Try.ntmps32 Try.results32 (by kernel_rfl) (Nat.le_refl _) (by simp [belowL, belowP]) (by simp [belowH, belowC, belowL, belowP, hbl, hbh, hc0]) ?_
  repeat' (first | (with_reducible refine And.intro ?_ ?_) | (with_reducible refine gK_i (fun _ => ?_) (fun _ => ?_)) | (with_reducible refine condS_i (fun _ => ?_) (fun _ => ?_)) | (with_reducible refine drw_i (by kernel_rfl)) | simp -dsimp only [go_sem, ↓reduceIte, reduceCtorEq, Nat.reduceAdd, Nat.reduceMul, Nat.reduceSub, Nat.reduceLeDiff, Nat.reduceLT, Nat.reduceEqDiff, Int.reduceLE, Int.reduceLT, Int.reduceToNat, Int.reduceBEq, Int.reduceBNe, Int.reduceEq, Int.reduceAdd, Int.reduceSub, Int.reduceMul, Int.reduceNeg, Int.cast_ofNat_Int, *, hv] | ((with_reducible refine opK_c ?_); simp -dsimp only [go_sem, ↓reduceIte, reduceCtorEq, Nat.reduceAdd, Nat.reduceMul, Nat.reduceSub, Nat.reduceLeDiff, Nat.reduceLT, Nat.reduceEqDiff, Int.reduceLE, Int.reduceLT, Int.reduceToNat, Int.reduceBEq, Int.reduceBNe, Int.reduceEq, Int.reduceAdd, Int.reduceSub, Int.reduceMul, Int.reduceNeg, Int.cast_ofNat_Int, hv]; first | refine callK_r (by first | assumption | exact hbs) (by first | exact .inl rfl | exact .inr rfl) ?_ | (refine callK_i (by assumption) ?_ ?_ ?_; (solve | (repeat (first | exact DLe.refl _ | exact DLe.nil _ | (refine DLe.tup ?_) | (refine DLe.agg ?_ rfl) | exact trivial | (refine And.intro ?_ ?_)))); (solve | exact .inl rfl | exact .inr rfl))) | fail | omega | exact decide_eq_true (by omega) | exact DLe.refl _)
  exact weak_eq rfl rfl
/-- What of a pool fits a size. -/
def fitE (p : Pol) (size : Int) : Pfx × Int :=
  if size < p.rule.min ∨ size > p.rule.max then (Pfx.zero, 7) else
  if (fitS p.root (usedP p) size).2.1 = false ∨ p.leases.length = 32 then (Pfx.zero, 8) else ((fitS p.root (usedP p) size).1, 0)
set_option maxRecDepth 100000 in
theorem fit_p (p : Pol) (size : Int) (hl : p.leases.length ≤ 32) : PSpec Try.prog 39 [.ept (encPol p), .v (.int .i64 size)] (.tup [.agg (encP (fitE p size).1), .v (.int .i64 (fitE p size).2)]) := by
  have ht := taken_p p (by omega)
  have hf := spFit_p p.root (usedP p) size
  refine ps_i tab_ok mixed Try.func39 rfl Try.ntmps39 Try.results39 (by kernel_rfl) ?_
  repeat' (first | (with_reducible refine And.intro ?_ ?_) | (with_reducible refine gK_i (fun _ => ?_) (fun _ => ?_)) | (with_reducible refine condS_i (fun _ => ?_) (fun _ => ?_)) | (with_reducible refine drw_i (by kernel_rfl)) | simp -dsimp only [go_sem, ↓reduceIte, reduceCtorEq, Nat.reduceAdd, Nat.reduceMul, Nat.reduceSub, Nat.reduceLeDiff, Nat.reduceLT, Nat.reduceEqDiff, Int.reduceLE, Int.reduceLT, Int.reduceToNat, Int.reduceBEq, Int.reduceBNe, Int.reduceEq, Int.reduceAdd, Int.reduceSub, Int.reduceMul, Int.reduceNeg, Int.cast_ofNat_Int, *, encPol, encP] | ((with_reducible refine opK_c ?_); simp -dsimp only [go_sem, ↓reduceIte, reduceCtorEq, Nat.reduceAdd, Nat.reduceMul, Nat.reduceSub, Nat.reduceLeDiff, Nat.reduceLT, Nat.reduceEqDiff, Int.reduceLE, Int.reduceLT, Int.reduceToNat, Int.reduceBEq, Int.reduceBNe, Int.reduceEq, Int.reduceAdd, Int.reduceSub, Int.reduceMul, Int.reduceNeg, Int.cast_ofNat_Int, encPol, encP]; first | refine callK_r (by first | assumption | exact ht | exact hf) (by first | exact .inl rfl | exact .inr rfl) ?_ | (refine callK_i (by assumption) ?_ ?_ ?_; (solve | (repeat (first | exact DLe.refl _ | exact DLe.nil _ | (refine DLe.tup ?_) | (refine DLe.agg ?_ rfl) | exact trivial | (refine And.intro ?_ ?_)))); (solve | exact .inl rfl | exact .inr rfl))) | fail | omega | exact decide_eq_true (by omega) | exact DLe.refl _)
  all_goals clear ht hf
  all_goals first
    | (rw [show fitE p size = (Pfx.zero, 7) from by unfold fitE; grind]; exact DLe.refl _)
    | (rw [show fitE p size = (Pfx.zero, 8) from by unfold fitE; grind]; exact DLe.refl _)
    | (rw [show fitE p size = ((fitS p.root (usedP p) size).1, 0) from by unfold fitE; grind]; exact DLe.refl _)
theorem zipR_get (pre : List Pol) (r : List PV) (post : List Pol) : (zipR pre r post)[pre.length]? = some r := by
  unfold zipR
  rw [List.getElem?_append_right (by simp [dRows_len])]
  simp [dRows_len]
theorem zipR_set (pre : List Pol) (r r' : List PV) (post : List Pol) : (zipR pre r post).set pre.length r' = zipR pre r' post := by
  unfold zipR
  rw [List.set_append_right _ _ (by simp [dRows_len])]
  simp [dRows_len]
/-- A lease at its place. -/
def insL (l : Lse) (ls : List Lse) : List Lse := ls.take (lbN (fun x => x.at_.at_) l.at_.at_ ls) ++ l :: ls.drop (lbN (fun x => x.at_.at_) l.at_.at_ ls)
theorem lbN_le {α : Type} (key : α → Int) (t : Int) (l : List α) : lbN key t l ≤ l.length := List.findIdx_le_length
theorem let1_p (x : Lse) (t : Int) : PSpec Try.prog 84 [.agg (encL x), .v (.int .i64 t)] (.v (.int .i64 (cmpI x.at_.at_ t))) := by
  have hc := compare_p x.at_.at_ t
  refine ps_i tab_ok mixed Try.func84 rfl Try.ntmps84 Try.results84 (by kernel_rfl) ?_
  repeat' (first | (with_reducible refine And.intro ?_ ?_) | (with_reducible refine gK_i (fun _ => ?_) (fun _ => ?_)) | (with_reducible refine condS_i (fun _ => ?_) (fun _ => ?_)) | (with_reducible refine drw_i (by kernel_rfl)) | simp -dsimp only [go_sem, ↓reduceIte, reduceCtorEq, Nat.reduceAdd, Nat.reduceMul, Nat.reduceSub, Nat.reduceLeDiff, Nat.reduceLT, Nat.reduceEqDiff, Int.reduceLE, Int.reduceLT, Int.reduceToNat, Int.reduceBEq, Int.reduceBNe, Int.reduceEq, Int.reduceAdd, Int.reduceSub, Int.reduceMul, Int.reduceNeg, Int.cast_ofNat_Int, *, encL] | ((with_reducible refine opK_c ?_); simp -dsimp only [go_sem, ↓reduceIte, reduceCtorEq, Nat.reduceAdd, Nat.reduceMul, Nat.reduceSub, Nat.reduceLeDiff, Nat.reduceLT, Nat.reduceEqDiff, Int.reduceLE, Int.reduceLT, Int.reduceToNat, Int.reduceBEq, Int.reduceBNe, Int.reduceEq, Int.reduceAdd, Int.reduceSub, Int.reduceMul, Int.reduceNeg, Int.cast_ofNat_Int, encL]; first | refine callK_r (by first | assumption | exact hc) (by first | exact .inl rfl | exact .inr rfl) ?_ | (refine callK_i (by assumption) ?_ ?_ ?_; (solve | (repeat (first | exact DLe.refl _ | exact DLe.nil _ | (refine DLe.tup ?_) | (refine DLe.agg ?_ rfl) | exact trivial | (refine And.intro ?_ ?_)))); (solve | exact .inl rfl | exact .inr rfl))) | fail | omega | exact decide_eq_true (by omega) | exact DLe.refl _)
theorem zipR_data (pre post : List Pol) (p : Pol) (ls : List Lse) : zipR pre (polRow p (.d (.sl 5 (ls.map encL)))) post = dRows ((pre ++ { p with leases := ls } :: post).map encPol) := by
  simp only [zipR, dRows, List.map_append, List.map_cons]; rfl
/-- The leases of one's own, given away. -/
theorem zip_freeze {P : Program} {m : Nat} (pre post : List Pol) (p : Pol) (g g2 : Nat) (ls : List Lse) : Weak P 1 m [(0, .d (.tup []))] [.row 46 9 g (zipR pre (polRow p (.own 1 g2)) post), .row 50 5 g2 (dRows (ls.map encL))] [(0, .d (.tup []))] [.row 46 9 g (dRows ((pre ++ { p with leases := ls } :: post).map encPol)), .gone] := by
  refine (weak_freeze 1 g2 50 5 (ls.map encL) rfl).trans ?_
  simp only [fzE, fz, fzL, fzH, fzC, fzR, fzR_app, fzR_d, fzL_d, List.map_cons, List.map_nil, Nat.reduceAdd, Nat.reduceEqDiff, reduceIte, and_true, true_and, and_self, and_false, false_and, Nat.zero_add, Nat.add_zero, reduceCtorEq, fzR_zip, polRow]
  rw [← zipR_data]
  exact weak_eq rfl rfl
set_option maxRecDepth 100000 in
theorem let_m (pre post : List Pol) (p : Pol) (l : Lse) (g g2 : Nat) (hl : p.leases.length ≤ 32) (hs : p.leases.Pairwise fun a b => a.at_.at_ < b.at_.at_) :
    MSpec Try.prog 40 [.rp 0 g 9 pre.length 0, .d (.agg (encL l))] [.row 46 9 g (zipR pre (polRow p (.own 1 g2)) post), .row 50 5 g2 (dRows (p.leases.map encL))] (.d (.tup [])) [.row 46 9 g (dRows ((pre ++ { p with leases := insL l p.leases } :: post).map encPol)), .gone] := by
  have hbs := bsrf_Lease encL_len (fun x => x.at_.at_) p.leases l.at_.at_ 84 [] (by omega) hs (fun x _ => let1_p x l.at_.at_)
  have hle := lbN_le (fun x : Lse => x.at_.at_) l.at_.at_ p.leases
  have hins := insert_Lease p.leases l (lbN (fun x : Lse => x.at_.at_) l.at_.at_ p.leases) g2 hle (by omega)
  refine ms_w tab_ok mixed Try.func40 rfl Try.ntmps40 Try.results40 (by kernel_rfl) (Nat.le_refl _) (by simp [belowL, belowP]) (by simp [belowH, belowC, belowR_zip, belowL, belowP, polRow, belowR_d]) ?_
  repeat' (first | (with_reducible refine And.intro ?_ ?_) | (with_reducible refine gK_i (fun _ => ?_) (fun _ => ?_)) | (with_reducible refine condS_i (fun _ => ?_) (fun _ => ?_)) | (with_reducible refine drw_i (by kernel_rfl)) | simp -dsimp only [go_sem, ↓reduceIte, reduceCtorEq, Nat.reduceAdd, Nat.reduceMul, Nat.reduceSub, Nat.reduceLeDiff, Nat.reduceLT, Nat.reduceEqDiff, Int.reduceLE, Int.reduceLT, Int.reduceToNat, Int.reduceBEq, Int.reduceBNe, Int.reduceEq, Int.reduceAdd, Int.reduceSub, Int.reduceMul, Int.reduceNeg, Int.cast_ofNat_Int, *, encL, polRow, zipR_get, zipR_set] | ((with_reducible refine opK_c ?_); simp -dsimp only [go_sem, ↓reduceIte, reduceCtorEq, Nat.reduceAdd, Nat.reduceMul, Nat.reduceSub, Nat.reduceLeDiff, Nat.reduceLT, Nat.reduceEqDiff, Int.reduceLE, Int.reduceLT, Int.reduceToNat, Int.reduceBEq, Int.reduceBNe, Int.reduceEq, Int.reduceAdd, Int.reduceSub, Int.reduceMul, Int.reduceNeg, Int.cast_ofNat_Int, encL, polRow, zipR_get, zipR_set]; first | refine callK_r (by first | assumption | exact hbs) (by first | exact .inl rfl | exact .inr rfl) ?_ | (refine callK_i (by assumption) ?_ ?_ ?_; (solve | (repeat (first | exact DLe.refl _ | exact DLe.nil _ | (refine DLe.tup ?_) | (refine DLe.agg ?_ rfl) | exact trivial | (refine And.intro ?_ ?_)))); (solve | exact .inl rfl | exact .inr rfl))) | (refine opK_M [1] (hins) ?_ ?_ ?_ ?_ ?_ ?_; (solve | rfl | simp only [go_sem, ↓reduceIte, reduceCtorEq, Nat.reduceAdd, Nat.reduceMul, Nat.reduceSub, Nat.reduceLeDiff, Nat.reduceLT, Nat.reduceEqDiff, Int.reduceLE, Int.reduceLT, Int.reduceToNat, Int.reduceBEq, Int.reduceBNe, Int.reduceEq, Int.reduceAdd, Int.reduceSub, Int.reduceMul, Int.reduceNeg, Int.cast_ofNat_Int, encL]); (solve | rfl); (solve | decide); (solve | simp); (solve | simp only [go_sem, ↓reduceIte, reduceCtorEq, Nat.reduceAdd, Nat.reduceMul, Nat.reduceSub, Nat.reduceLeDiff, Nat.reduceLT, Nat.reduceEqDiff, Int.reduceLE, Int.reduceLT, Int.reduceToNat, Int.reduceBEq, Int.reduceBNe, Int.reduceEq, Int.reduceAdd, Int.reduceSub, Int.reduceMul, Int.reduceNeg, Int.cast_ofNat_Int, lentOK, encL])) | omega | exact decide_eq_true (by omega) | exact DLe.refl _)
  refine Weak.trans ?_ (zip_freeze pre post p g (g2 + 1) (insL l p.leases))
  exact weak_forget _ (by simp) (by rfl) ⟨rfl, trivial⟩ (by first | rfl | simp only [belowH, belowE, belowC, belowL, belowR, belowP, belowL_d, belowR_d, belowR_zip, polRow, List.length_cons, List.length_nil, Nat.reduceAdd, Nat.reduceLT, decide_true, Bool.and_self, Bool.and_true]) (by first | rfl | simp only [belowH, belowE, belowC, belowL, belowR, belowP, belowL_d, belowR_d, belowR_zip, polRow, List.length_cons, List.length_nil, Nat.reduceAdd, Nat.reduceLT, decide_true, Bool.and_self, Bool.and_true])
/-- Leases, one of which comes back. -/
def coolL (p : Pol) (i : Nat) (tick : Int) : List Lse := if p.rule.cool = 0 then p.leases.eraseIdx i else match p.leases[i]? with | some l => p.leases.set i ⟨l.at_, 3, 0, tick + p.rule.cool⟩ | none => p.leases
set_option maxRecDepth 100000 in
theorem cool_m (pre post : List Pol) (p : Pol) (i g g2 : Nat) (tick : Int) (hi : i < p.leases.length) (hl : p.leases.length ≤ 32) (hc2 : 0 ≤ p.rule.cool ∧ p.rule.cool ≤ 1024) (ht : 0 ≤ tick ∧ tick ≤ 1073741824) :
    MSpec Try.prog 64 [.rp 0 g 9 pre.length 0, .d (.v (.int .i64 i)), .d (.v (.int .i64 tick))] [.row 46 9 g (zipR pre (polRow p (.own 1 g2)) post), .row 50 5 g2 (dRows (p.leases.map encL))] (.d (.tup [])) [.row 46 9 g (dRows ((pre ++ { p with leases := coolL p i tick } :: post).map encPol)), .gone] := by
  refine ms_w tab_ok mixed Try.func64 rfl Try.ntmps64 Try.results64 (by kernel_rfl) (Nat.le_refl _) (by simp [belowL, belowP]) (by simp [belowH, belowC, belowR_zip, belowL, belowP, polRow, belowR_d]) ?_
  by_cases hc : p.rule.cool = 0
  · have hcl : coolL p i tick = p.leases.eraseIdx i := by unfold coolL; rw [if_pos hc]
    have hwr : IntKind.i64.wrap ((i : Int) + 1) = ((i + 1 : Nat) : Int) := by rw [IntKind.wrap_i64]; omega
    have hd := delete_Lease (enc := encL) p.leases i (i + 1) g2 hi rfl
    have hc1 : (p.rule.cool == 0) = true := by simpa using hc
    rw [hcl]
    replace hcl := Lib.hid hcl
    replace hc := Lib.hid hc
    repeat' (first | (with_reducible refine And.intro ?_ ?_) | (with_reducible refine gK_i (fun _ => ?_) (fun _ => ?_)) | (with_reducible refine condS_i (fun _ => ?_) (fun _ => ?_)) | (with_reducible refine drw_i (by kernel_rfl)) | simp -dsimp only [go_sem, ↓reduceIte, reduceCtorEq, Nat.reduceAdd, Nat.reduceMul, Nat.reduceSub, Nat.reduceLeDiff, Nat.reduceLT, Nat.reduceEqDiff, Int.reduceLE, Int.reduceLT, Int.reduceToNat, Int.reduceBEq, Int.reduceBNe, Int.reduceEq, Int.reduceAdd, Int.reduceSub, Int.reduceMul, Int.reduceNeg, Int.cast_ofNat_Int, *, encL, polRow, zipR_get, zipR_set, hwr, hc1] | ((with_reducible refine opK_c ?_); simp -dsimp only [go_sem, ↓reduceIte, reduceCtorEq, Nat.reduceAdd, Nat.reduceMul, Nat.reduceSub, Nat.reduceLeDiff, Nat.reduceLT, Nat.reduceEqDiff, Int.reduceLE, Int.reduceLT, Int.reduceToNat, Int.reduceBEq, Int.reduceBNe, Int.reduceEq, Int.reduceAdd, Int.reduceSub, Int.reduceMul, Int.reduceNeg, Int.cast_ofNat_Int, encL, polRow, zipR_get, zipR_set, hwr, hc1]; first | refine callK_r (by first | assumption | fail) (by first | exact .inl rfl | exact .inr rfl) ?_ | (refine callK_i (by assumption) ?_ ?_ ?_; (solve | (repeat (first | exact DLe.refl _ | exact DLe.nil _ | (refine DLe.tup ?_) | (refine DLe.agg ?_ rfl) | exact trivial | (refine And.intro ?_ ?_)))); (solve | exact .inl rfl | exact .inr rfl))) | (refine opK_M [1] (hd) ?_ ?_ ?_ ?_ ?_ ?_; (solve | rfl | simp only [go_sem, ↓reduceIte, reduceCtorEq, Nat.reduceAdd, Nat.reduceMul, Nat.reduceSub, Nat.reduceLeDiff, Nat.reduceLT, Nat.reduceEqDiff, Int.reduceLE, Int.reduceLT, Int.reduceToNat, Int.reduceBEq, Int.reduceBNe, Int.reduceEq, Int.reduceAdd, Int.reduceSub, Int.reduceMul, Int.reduceNeg, Int.cast_ofNat_Int, encL]); (solve | rfl); (solve | decide); (solve | simp); (solve | simp only [go_sem, ↓reduceIte, reduceCtorEq, Nat.reduceAdd, Nat.reduceMul, Nat.reduceSub, Nat.reduceLeDiff, Nat.reduceLT, Nat.reduceEqDiff, Int.reduceLE, Int.reduceLT, Int.reduceToNat, Int.reduceBEq, Int.reduceBNe, Int.reduceEq, Int.reduceAdd, Int.reduceSub, Int.reduceMul, Int.reduceNeg, Int.cast_ofNat_Int, lentOK, encL])) | omega | exact decide_eq_true (by omega) | exact DLe.refl _)
    exact zip_freeze pre post p g (g2 + 1) (p.leases.eraseIdx i)
  · have hwr : IntKind.i64.wrap (tick + p.rule.cool) = tick + p.rule.cool := by rw [IntKind.wrap_i64]; omega
    have hc1 : (p.rule.cool == 0) = false := by simpa using hc
    obtain ⟨l, hl2⟩ : ∃ l, p.leases[i]? = some l := ⟨_, List.getElem?_eq_getElem hi⟩
    have hset := dRows_setrow encL p.leases i ⟨l.at_, 3, 0, tick + p.rule.cool⟩
    have hcl : coolL p i tick = p.leases.set i ⟨l.at_, 3, 0, tick + p.rule.cool⟩ := by unfold coolL; rw [if_neg hc, hl2]
    simp only [encL, List.map_cons, List.map_nil] at hset
    rw [hcl]
    replace hcl := Lib.hid hcl
    repeat' (first | (with_reducible refine And.intro ?_ ?_) | (with_reducible refine gK_i (fun _ => ?_) (fun _ => ?_)) | (with_reducible refine condS_i (fun _ => ?_) (fun _ => ?_)) | (with_reducible refine drw_i (by kernel_rfl)) | simp -dsimp only [go_sem, ↓reduceIte, reduceCtorEq, Nat.reduceAdd, Nat.reduceMul, Nat.reduceSub, Nat.reduceLeDiff, Nat.reduceLT, Nat.reduceEqDiff, Int.reduceLE, Int.reduceLT, Int.reduceToNat, Int.reduceBEq, Int.reduceBNe, Int.reduceEq, Int.reduceAdd, Int.reduceSub, Int.reduceMul, Int.reduceNeg, Int.cast_ofNat_Int, *, encL, polRow, zipR_get, zipR_set, hwr, hc1, hl2, hset] | ((with_reducible refine opK_c ?_); simp -dsimp only [go_sem, ↓reduceIte, reduceCtorEq, Nat.reduceAdd, Nat.reduceMul, Nat.reduceSub, Nat.reduceLeDiff, Nat.reduceLT, Nat.reduceEqDiff, Int.reduceLE, Int.reduceLT, Int.reduceToNat, Int.reduceBEq, Int.reduceBNe, Int.reduceEq, Int.reduceAdd, Int.reduceSub, Int.reduceMul, Int.reduceNeg, Int.cast_ofNat_Int, encL, polRow, zipR_get, zipR_set, hwr, hc1, hl2, hset]; first | refine callK_r (by first | assumption | fail) (by first | exact .inl rfl | exact .inr rfl) ?_ | (refine callK_i (by assumption) ?_ ?_ ?_; (solve | (repeat (first | exact DLe.refl _ | exact DLe.nil _ | (refine DLe.tup ?_) | (refine DLe.agg ?_ rfl) | exact trivial | (refine And.intro ?_ ?_)))); (solve | exact .inl rfl | exact .inr rfl))) | fail | omega | exact decide_eq_true (by omega) | exact DLe.refl _)
    exact zip_freeze pre post p g g2 (p.leases.set i ⟨l.at_, 3, 0, tick + p.rule.cool⟩)
/-- A pool at its place. -/
def insB (p : Pol) (ps : List Pol) : List Pol := ps.take (lbN (fun x => x.id) p.id ps) ++ p :: ps.drop (lbN (fun x => x.id) p.id ps)
set_option maxRecDepth 100000 in
theorem put_m (ps : List Pol) (p : Pol) (g : Nat) (tick : D) (h8 : ps.length ≤ 8) (hr : Rise ps) (ht : tick.one = true) :
    MSpec Try.prog 38 [.ptr 0 0, .d (.agg (encPol p))] [.box 24 [.d tick, .own 1 g], .row 46 9 g (dRows (ps.map encPol))] (.d (.tup [])) [.box 24 [.d tick, .own 1 (g + 1)], .row 46 9 (g + 1) (dRows ((insB p ps).map encPol))] := by
  have hbs := bsrf_Pool encPol_len (fun x => x.id) ps p.id 78 [] (by omega) hr (fun x _ => byId_p x p.id)
  have hle := lbN_le (fun x : Pol => x.id) p.id ps
  have hins := insert_Pool ps p (lbN (fun x : Pol => x.id) p.id ps) g hle (by omega)
  refine ms_w tab_ok mixed Try.func38 rfl Try.ntmps38 Try.results38 (by kernel_rfl) (Nat.le_refl _) (by simp [belowL, belowP]) (by simp [belowH, belowC, belowL, belowP, belowR_d]) ?_
  repeat' (first | (with_reducible refine And.intro ?_ ?_) | (with_reducible refine gK_i (fun _ => ?_) (fun _ => ?_)) | (with_reducible refine condS_i (fun _ => ?_) (fun _ => ?_)) | (with_reducible refine drw_i (by kernel_rfl)) | simp -dsimp only [go_sem, ↓reduceIte, reduceCtorEq, Nat.reduceAdd, Nat.reduceMul, Nat.reduceSub, Nat.reduceLeDiff, Nat.reduceLT, Nat.reduceEqDiff, Int.reduceLE, Int.reduceLT, Int.reduceToNat, Int.reduceBEq, Int.reduceBNe, Int.reduceEq, Int.reduceAdd, Int.reduceSub, Int.reduceMul, Int.reduceNeg, Int.cast_ofNat_Int, *, encPol] | ((with_reducible refine opK_c ?_); simp -dsimp only [go_sem, ↓reduceIte, reduceCtorEq, Nat.reduceAdd, Nat.reduceMul, Nat.reduceSub, Nat.reduceLeDiff, Nat.reduceLT, Nat.reduceEqDiff, Int.reduceLE, Int.reduceLT, Int.reduceToNat, Int.reduceBEq, Int.reduceBNe, Int.reduceEq, Int.reduceAdd, Int.reduceSub, Int.reduceMul, Int.reduceNeg, Int.cast_ofNat_Int, encPol]; first | refine callK_r (by first | assumption | exact hbs) (by first | exact .inl rfl | exact .inr rfl) ?_ | (refine callK_i (by assumption) ?_ ?_ ?_; (solve | (repeat (first | exact DLe.refl _ | exact DLe.nil _ | (refine DLe.tup ?_) | (refine DLe.agg ?_ rfl) | exact trivial | (refine And.intro ?_ ?_)))); (solve | exact .inl rfl | exact .inr rfl))) | (refine opK_M [1] (hins) ?_ ?_ ?_ ?_ ?_ ?_; (solve | rfl | simp only [go_sem, ↓reduceIte, reduceCtorEq, Nat.reduceAdd, Nat.reduceMul, Nat.reduceSub, Nat.reduceLeDiff, Nat.reduceLT, Nat.reduceEqDiff, Int.reduceLE, Int.reduceLT, Int.reduceToNat, Int.reduceBEq, Int.reduceBNe, Int.reduceEq, Int.reduceAdd, Int.reduceSub, Int.reduceMul, Int.reduceNeg, Int.cast_ofNat_Int, encPol]); (solve | rfl); (solve | decide); (solve | simp); (solve | simp only [go_sem, ↓reduceIte, reduceCtorEq, Nat.reduceAdd, Nat.reduceMul, Nat.reduceSub, Nat.reduceLeDiff, Nat.reduceLT, Nat.reduceEqDiff, Int.reduceLE, Int.reduceLT, Int.reduceToNat, Int.reduceBEq, Int.reduceBNe, Int.reduceEq, Int.reduceAdd, Int.reduceSub, Int.reduceMul, Int.reduceNeg, Int.cast_ofNat_Int, lentOK, encPol])) | omega | exact decide_eq_true (by omega) | exact DLe.refl _)
  exact weak_forget _ (by simp) (by rfl) ⟨rfl, trivial⟩ (by first | rfl | simp only [belowH, belowE, belowC, belowL, belowR, belowP, belowL_d, belowR_d, belowR_zip, polRow, List.length_cons, List.length_nil, Nat.reduceAdd, Nat.reduceLT, decide_true, Bool.and_self, Bool.and_true]) (by first | rfl | simp only [belowH, belowE, belowC, belowL, belowR, belowP, belowL_d, belowR_d, belowR_zip, polRow, List.length_cons, List.length_nil, Nat.reduceAdd, Nat.reduceLT, decide_true, Bool.and_self, Bool.and_true])
end Go.Proofs.Ytbeocackphfijaa
namespace Go.Proofs.Ytbeocackphfijaa
open Go Go.RowKit
def Bok.zero : Bok := ⟨0, []⟩
theorem poolOf_some {b : Bok} {id : Int} {q : Pol} (h : poolOf b id = some q) : ∃ i : Nat, b.pools[i]? = some q ∧ q.id = id := by
  have h1 := List.find?_some h
  have h2 := List.mem_of_find?_eq_some h
  obtain ⟨i, hi, rfl⟩ := List.mem_iff_getElem.1 h2
  exact ⟨i, List.getElem?_eq_getElem hi, by simpa using h1⟩
theorem poolOf_split {b : Bok} {id : Int} {q : Pol} (h : poolOf b id = some q) : ∃ pre post, b.pools = pre ++ q :: post ∧ q.id = id := by
  obtain ⟨i, hi, he⟩ := poolOf_some h
  obtain ⟨hlt, rfl⟩ := List.getElem?_eq_some_iff.1 hi
  exact ⟨b.pools.take i, b.pools.drop (i + 1), by rw [List.getElem_cons_drop, List.take_append_drop], he⟩
def openE (b : Bok) (id : Int) (root : Pfx) (r : Rul) : Int :=
  if idOK id = false ∨ chk root.at_ root.len ≠ 0 then 3 else
  if (poolOf b id).isSome = true ∨ (b.pools.any fun p => (p.up == 0) && p.root.meets root) = true then 6 else
  if ruleOK r root.len = false then 1 else if b.pools.length = 8 then 2 else 0
/-- Open's answer. -/
def openR (b : Bok) (id : Int) (root : Pfx) (r : Rul) : Bok × Int :=
  if chkBk b ≠ 0 then (Bok.zero, chkBk b) else if openE b id root r ≠ 0 then (Bok.zero, openE b id root r) else (⟨b.tick, insB ⟨id, 0, root, r, []⟩ b.pools⟩, 0)
theorem open1_p (p : Pol) (root : Pfx) : PSpec Try.prog 36 [.agg (encPol p), .ept (encP root)] (.v (.bool ((p.up == 0) && p.root.meets root))) := by
  have hm := meets_p p.root root
  refine ps_i tab_ok mixed Try.func36 rfl Try.ntmps36 Try.results36 (by kernel_rfl) ?_
  repeat' (first | (with_reducible refine And.intro ?_ ?_) | (with_reducible refine gK_i (fun _ => ?_) (fun _ => ?_)) | (with_reducible refine condS_i (fun _ => ?_) (fun _ => ?_)) | (with_reducible refine drw_i (by kernel_rfl)) | simp -dsimp only [go_sem, ↓reduceIte, reduceCtorEq, Nat.reduceAdd, Nat.reduceMul, Nat.reduceSub, Nat.reduceLeDiff, Nat.reduceLT, Nat.reduceEqDiff, Int.reduceLE, Int.reduceLT, Int.reduceToNat, Int.reduceBEq, Int.reduceBNe, Int.reduceEq, Int.reduceAdd, Int.reduceSub, Int.reduceMul, Int.reduceNeg, Int.cast_ofNat_Int, *, encPol, encP] | ((with_reducible refine opK_c ?_); simp -dsimp only [go_sem, ↓reduceIte, reduceCtorEq, Nat.reduceAdd, Nat.reduceMul, Nat.reduceSub, Nat.reduceLeDiff, Nat.reduceLT, Nat.reduceEqDiff, Int.reduceLE, Int.reduceLT, Int.reduceToNat, Int.reduceBEq, Int.reduceBNe, Int.reduceEq, Int.reduceAdd, Int.reduceSub, Int.reduceMul, Int.reduceNeg, Int.cast_ofNat_Int, encPol, encP]; first | refine callK_r (by first | assumption | exact hm) (by first | exact .inl rfl | exact .inr rfl) ?_ | (refine callK_i (by assumption) ?_ ?_ ?_; (solve | (repeat (first | exact DLe.refl _ | exact DLe.nil _ | (refine DLe.tup ?_) | (refine DLe.agg ?_ rfl) | exact trivial | (refine And.intro ?_ ?_)))); (solve | exact .inl rfl | exact .inr rfl))) | fail | omega | exact decide_eq_true (by omega) | exact DLe.refl _)
set_option maxRecDepth 100000 in
set_option maxHeartbeats 1000000 in
theorem open_p (b : Bok) (id : Int) (root : Pfx) (r : Rul) (hz : ∀ p ∈ b.pools, p.leases.length ≤ 3518437208882) : PSpec Try.prog 9 [.agg (encB b), .v (.int .i64 id), .agg (encP root), .agg (encR r)] (.tup [.agg (encB (openR b id root r).1), .v (.int .i64 (openR b id root r).2)]) := by
  by_cases hc : chkBk b = 0
  · have hbk := bookOK hc
    have hbg := beginD_m b hz hc
    have hid := ids_p id
    have hck := check_p root
    have hcn := cntf_Pool encPol_len (fun p => (p.up == 0) && p.root.meets root) b.pools 36 [.ept (encP root)] (by have := hbk.n8; omega) (fun p _ => open1_p p root)
    have hru := rule_p r root
    have hpt := (put_m b.pools ⟨id, 0, root, r, []⟩ b.pools.length (.v (.int .i64 b.tick)) hbk.n8 hbk.rise rfl).lep (args' := [.ptr 0 0, .d (.agg [.v (.int .i64 id), .v (.int .i64 0), .v (.int .i64 root.at_), .v (.int .i64 root.len), .v (.int .i64 r.min), .v (.int .i64 r.max), .v (.int .i64 r.usual), .v (.int .i64 r.cool), .v (.slice none 0 0)])]) ⟨.inl rfl, .inr ⟨_, _, rfl, rfl, (by repeat (first | exact DLe.refl _ | exact DLe.nil _ | (refine DLe.tup ?_) | (refine DLe.agg ?_ rfl) | exact trivial | (refine And.intro ?_ ?_)))⟩, trivial⟩ rfl
    obtain ⟨R, hR⟩ : ∃ R, R = openR b id root r := ⟨_, rfl⟩
    rw [← hR]
    replace hR := Lib.hid hR
    cases hq : poolOf b id with
    | none =>
      have hf := find_p b id (by have := hbk.n8; omega) hbk.rise
      unfold findR at hf
      rw [hq] at hf
      refine ps_i tab_ok mixed Try.func9 rfl Try.ntmps9 Try.results9 (by kernel_rfl) ?_
      repeat' (first | (with_reducible refine And.intro ?_ ?_) | (with_reducible refine gK_i (fun _ => ?_) (fun _ => ?_)) | (with_reducible refine condS_i (fun _ => ?_) (fun _ => ?_)) | (with_reducible refine drw_i (by kernel_rfl)) | simp -dsimp only [go_sem, ↓reduceIte, reduceCtorEq, Nat.reduceAdd, Nat.reduceMul, Nat.reduceSub, Nat.reduceLeDiff, Nat.reduceLT, Nat.reduceEqDiff, Int.reduceLE, Int.reduceLT, Int.reduceToNat, Int.reduceBEq, Int.reduceBNe, Int.reduceEq, Int.reduceAdd, Int.reduceSub, Int.reduceMul, Int.reduceNeg, Int.cast_ofNat_Int, *, encB, encP, encR] | ((with_reducible refine opK_c ?_); simp -dsimp only [go_sem, ↓reduceIte, reduceCtorEq, Nat.reduceAdd, Nat.reduceMul, Nat.reduceSub, Nat.reduceLeDiff, Nat.reduceLT, Nat.reduceEqDiff, Int.reduceLE, Int.reduceLT, Int.reduceToNat, Int.reduceBEq, Int.reduceBNe, Int.reduceEq, Int.reduceAdd, Int.reduceSub, Int.reduceMul, Int.reduceNeg, Int.cast_ofNat_Int, encB, encP, encR]; first | refine callK_r (by first | assumption | exact hf | exact hid | exact hck | exact hcn | exact hru) (by first | exact .inl rfl | exact .inr rfl) ?_ | (refine callK_i (by assumption) ?_ ?_ ?_; (solve | (repeat (first | exact DLe.refl _ | exact DLe.nil _ | (refine DLe.tup ?_) | (refine DLe.agg ?_ rfl) | exact trivial | (refine And.intro ?_ ?_)))); (solve | exact .inl rfl | exact .inr rfl))) | (refine opK_M [] (hbg) ?_ ?_ ?_ ?_ ?_ ?_; (solve | rfl | simp only [go_sem, ↓reduceIte, reduceCtorEq, Nat.reduceAdd, Nat.reduceMul, Nat.reduceSub, Nat.reduceLeDiff, Nat.reduceLT, Nat.reduceEqDiff, Int.reduceLE, Int.reduceLT, Int.reduceToNat, Int.reduceBEq, Int.reduceBNe, Int.reduceEq, Int.reduceAdd, Int.reduceSub, Int.reduceMul, Int.reduceNeg, Int.cast_ofNat_Int, encB]); (solve | rfl); (solve | decide); (solve | simp); (solve | simp only [go_sem, ↓reduceIte, reduceCtorEq, Nat.reduceAdd, Nat.reduceMul, Nat.reduceSub, Nat.reduceLeDiff, Nat.reduceLT, Nat.reduceEqDiff, Int.reduceLE, Int.reduceLT, Int.reduceToNat, Int.reduceBEq, Int.reduceBNe, Int.reduceEq, Int.reduceAdd, Int.reduceSub, Int.reduceMul, Int.reduceNeg, Int.cast_ofNat_Int, lentOK, encB])) | (refine opK_M [6, 7] (hpt) ?_ ?_ ?_ ?_ ?_ ?_; (solve | rfl | simp only [go_sem, ↓reduceIte, reduceCtorEq, Nat.reduceAdd, Nat.reduceMul, Nat.reduceSub, Nat.reduceLeDiff, Nat.reduceLT, Nat.reduceEqDiff, Int.reduceLE, Int.reduceLT, Int.reduceToNat, Int.reduceBEq, Int.reduceBNe, Int.reduceEq, Int.reduceAdd, Int.reduceSub, Int.reduceMul, Int.reduceNeg, Int.cast_ofNat_Int, encP]); (solve | rfl); (solve | decide); (solve | simp); (solve | simp only [go_sem, ↓reduceIte, reduceCtorEq, Nat.reduceAdd, Nat.reduceMul, Nat.reduceSub, Nat.reduceLeDiff, Nat.reduceLT, Nat.reduceEqDiff, Int.reduceLE, Int.reduceLT, Int.reduceToNat, Int.reduceBEq, Int.reduceBNe, Int.reduceEq, Int.reduceAdd, Int.reduceSub, Int.reduceMul, Int.reduceNeg, Int.cast_ofNat_Int, lentOK, encP])) | omega | exact decide_eq_true (by omega) | exact DLe.refl _)
      all_goals clear hf hid hck hcn hru hbg hpt hz
      all_goals first
        | (rw [show R = (Bok.zero, 3) from (by rw [hR.out]; unfold openR openE; grind)]; (try simp only [List.map_append, List.map_cons]); exact (by repeat (first | exact DLe.refl _ | exact DLe.nil _ | (refine DLe.tup ?_) | (refine DLe.agg ?_ rfl) | exact trivial | (refine And.intro ?_ ?_))))
        | (rw [show R = (Bok.zero, 6) from (by rw [hR.out]; unfold openR openE; grind)]; (try simp only [List.map_append, List.map_cons]); exact (by repeat (first | exact DLe.refl _ | exact DLe.nil _ | (refine DLe.tup ?_) | (refine DLe.agg ?_ rfl) | exact trivial | (refine And.intro ?_ ?_))))
        | (rw [show R = (Bok.zero, 1) from (by rw [hR.out]; unfold openR openE; grind)]; (try simp only [List.map_append, List.map_cons]); exact (by repeat (first | exact DLe.refl _ | exact DLe.nil _ | (refine DLe.tup ?_) | (refine DLe.agg ?_ rfl) | exact trivial | (refine And.intro ?_ ?_))))
        | (rw [show R = (Bok.zero, 2) from (by rw [hR.out]; unfold openR openE; grind)]; (try simp only [List.map_append, List.map_cons]); exact (by repeat (first | exact DLe.refl _ | exact DLe.nil _ | (refine DLe.tup ?_) | (refine DLe.agg ?_ rfl) | exact trivial | (refine And.intro ?_ ?_))))
        | (rw [show R = (⟨b.tick, insB ⟨id, 0, root, r, []⟩ b.pools⟩, 0) from (by rw [hR.out]; unfold openR openE; grind)]; (try simp only [List.map_append, List.map_cons]); exact (by repeat (first | exact DLe.refl _ | exact DLe.nil _ | (refine DLe.tup ?_) | (refine DLe.agg ?_ rfl) | exact trivial | (refine And.intro ?_ ?_))))
    | some q =>
      obtain ⟨i, hqi, rfl⟩ := poolOf_some hq
      have hf := find_m b i q b.pools.length (dRows (b.pools.map encPol)) [] (.d (.v (.int .i64 b.tick))) hqi hbk.rise hbk.n8 (by simp [dRows_len]) (viewR_d _ _ _) (belowR_d _ _) rfl rfl
      replace hqi := Lib.hid hqi
      refine ps_i tab_ok mixed Try.func9 rfl Try.ntmps9 Try.results9 (by kernel_rfl) ?_
      repeat' (first | (with_reducible refine And.intro ?_ ?_) | (with_reducible refine gK_i (fun _ => ?_) (fun _ => ?_)) | (with_reducible refine condS_i (fun _ => ?_) (fun _ => ?_)) | (with_reducible refine drw_i (by kernel_rfl)) | simp -dsimp only [go_sem, ↓reduceIte, reduceCtorEq, Nat.reduceAdd, Nat.reduceMul, Nat.reduceSub, Nat.reduceLeDiff, Nat.reduceLT, Nat.reduceEqDiff, Int.reduceLE, Int.reduceLT, Int.reduceToNat, Int.reduceBEq, Int.reduceBNe, Int.reduceEq, Int.reduceAdd, Int.reduceSub, Int.reduceMul, Int.reduceNeg, Int.cast_ofNat_Int, *, encB, encP, encR] | ((with_reducible refine opK_c ?_); simp -dsimp only [go_sem, ↓reduceIte, reduceCtorEq, Nat.reduceAdd, Nat.reduceMul, Nat.reduceSub, Nat.reduceLeDiff, Nat.reduceLT, Nat.reduceEqDiff, Int.reduceLE, Int.reduceLT, Int.reduceToNat, Int.reduceBEq, Int.reduceBNe, Int.reduceEq, Int.reduceAdd, Int.reduceSub, Int.reduceMul, Int.reduceNeg, Int.cast_ofNat_Int, encB, encP, encR]; first | refine callK_r (by first | assumption | exact hid | exact hck | exact hcn | exact hru) (by first | exact .inl rfl | exact .inr rfl) ?_ | (refine callK_i (by assumption) ?_ ?_ ?_; (solve | (repeat (first | exact DLe.refl _ | exact DLe.nil _ | (refine DLe.tup ?_) | (refine DLe.agg ?_ rfl) | exact trivial | (refine And.intro ?_ ?_)))); (solve | exact .inl rfl | exact .inr rfl))) | (refine opK_M [] (hbg) ?_ ?_ ?_ ?_ ?_ ?_; (solve | rfl | simp only [go_sem, ↓reduceIte, reduceCtorEq, Nat.reduceAdd, Nat.reduceMul, Nat.reduceSub, Nat.reduceLeDiff, Nat.reduceLT, Nat.reduceEqDiff, Int.reduceLE, Int.reduceLT, Int.reduceToNat, Int.reduceBEq, Int.reduceBNe, Int.reduceEq, Int.reduceAdd, Int.reduceSub, Int.reduceMul, Int.reduceNeg, Int.cast_ofNat_Int, encB]); (solve | rfl); (solve | decide); (solve | simp); (solve | simp only [go_sem, ↓reduceIte, reduceCtorEq, Nat.reduceAdd, Nat.reduceMul, Nat.reduceSub, Nat.reduceLeDiff, Nat.reduceLT, Nat.reduceEqDiff, Int.reduceLE, Int.reduceLT, Int.reduceToNat, Int.reduceBEq, Int.reduceBNe, Int.reduceEq, Int.reduceAdd, Int.reduceSub, Int.reduceMul, Int.reduceNeg, Int.cast_ofNat_Int, lentOK, encB])) | (refine opK_M [6, 7] (hf) ?_ ?_ ?_ ?_ ?_ ?_; (solve | rfl | simp only [go_sem, ↓reduceIte, reduceCtorEq, Nat.reduceAdd, Nat.reduceMul, Nat.reduceSub, Nat.reduceLeDiff, Nat.reduceLT, Nat.reduceEqDiff, Int.reduceLE, Int.reduceLT, Int.reduceToNat, Int.reduceBEq, Int.reduceBNe, Int.reduceEq, Int.reduceAdd, Int.reduceSub, Int.reduceMul, Int.reduceNeg, Int.cast_ofNat_Int, encP]); (solve | rfl); (solve | decide); (solve | simp); (solve | simp only [go_sem, ↓reduceIte, reduceCtorEq, Nat.reduceAdd, Nat.reduceMul, Nat.reduceSub, Nat.reduceLeDiff, Nat.reduceLT, Nat.reduceEqDiff, Int.reduceLE, Int.reduceLT, Int.reduceToNat, Int.reduceBEq, Int.reduceBNe, Int.reduceEq, Int.reduceAdd, Int.reduceSub, Int.reduceMul, Int.reduceNeg, Int.cast_ofNat_Int, lentOK, encP])) | omega | exact decide_eq_true (by omega) | exact DLe.refl _)
      all_goals clear hf hid hck hcn hru hbg hpt hz
      all_goals first
        | (rw [show R = (Bok.zero, 3) from (by rw [hR.out]; unfold openR openE; grind)]; (try simp only [List.map_append, List.map_cons]); exact (by repeat (first | exact DLe.refl _ | exact DLe.nil _ | (refine DLe.tup ?_) | (refine DLe.agg ?_ rfl) | exact trivial | (refine And.intro ?_ ?_))))
        | (rw [show R = (Bok.zero, 6) from (by rw [hR.out]; unfold openR openE; grind)]; (try simp only [List.map_append, List.map_cons]); exact (by repeat (first | exact DLe.refl _ | exact DLe.nil _ | (refine DLe.tup ?_) | (refine DLe.agg ?_ rfl) | exact trivial | (refine And.intro ?_ ?_))))
  · have hbg := beginE_p b hz hc
    have hr : openR b id root r = (Bok.zero, chkBk b) := by unfold openR; rw [if_pos hc]
    have h1 : (chkBk b != 0) = true := by simpa using hc
    rw [hr]
    replace hr := Lib.hid hr
    refine ps_i tab_ok mixed Try.func9 rfl Try.ntmps9 Try.results9 (by kernel_rfl) ?_
    repeat' (first | (with_reducible refine And.intro ?_ ?_) | (with_reducible refine gK_i (fun _ => ?_) (fun _ => ?_)) | (with_reducible refine condS_i (fun _ => ?_) (fun _ => ?_)) | (with_reducible refine drw_i (by kernel_rfl)) | simp -dsimp only [go_sem, ↓reduceIte, reduceCtorEq, Nat.reduceAdd, Nat.reduceMul, Nat.reduceSub, Nat.reduceLeDiff, Nat.reduceLT, Nat.reduceEqDiff, Int.reduceLE, Int.reduceLT, Int.reduceToNat, Int.reduceBEq, Int.reduceBNe, Int.reduceEq, Int.reduceAdd, Int.reduceSub, Int.reduceMul, Int.reduceNeg, Int.cast_ofNat_Int, *, encB, encP, encR, h1] | ((with_reducible refine opK_c ?_); simp -dsimp only [go_sem, ↓reduceIte, reduceCtorEq, Nat.reduceAdd, Nat.reduceMul, Nat.reduceSub, Nat.reduceLeDiff, Nat.reduceLT, Nat.reduceEqDiff, Int.reduceLE, Int.reduceLT, Int.reduceToNat, Int.reduceBEq, Int.reduceBNe, Int.reduceEq, Int.reduceAdd, Int.reduceSub, Int.reduceMul, Int.reduceNeg, Int.cast_ofNat_Int, encB, encP, encR, h1]; first | refine callK_r (by first | assumption | exact hbg) (by first | exact .inl rfl | exact .inr rfl) ?_ | (refine callK_i (by assumption) ?_ ?_ ?_; (solve | (repeat (first | exact DLe.refl _ | exact DLe.nil _ | (refine DLe.tup ?_) | (refine DLe.agg ?_ rfl) | exact trivial | (refine And.intro ?_ ?_)))); (solve | exact .inl rfl | exact .inr rfl))) | fail | omega | exact decide_eq_true (by omega) | exact DLe.refl _)
    exact (by repeat (first | exact DLe.refl _ | exact DLe.nil _ | (refine DLe.tup ?_) | (refine DLe.agg ?_ rfl) | exact trivial | (refine And.intro ?_ ?_)))
end Go.Proofs.Ytbeocackphfijaa
namespace Go.Proofs.Ytbeocackphfijaa
open Go Go.RowKit
theorem viewR_app (f : PV → Option D) : ∀ (l m : List (List PV)), viewR f (l ++ m) = match viewR f l, viewR f m with | some a, some b => some (a ++ b) | _, _ => none
  | [], m => by simp only [List.nil_append, viewR]; cases viewR f m <;> rfl
  | r :: l, m => by
    simp only [List.cons_append, viewR, viewR_app f l m]
    cases viewL f r <;> cases viewR f l <;> cases viewR f m <;> rfl
theorem viewR_zip (h : Nat → Chunk) (n : Nat) (pre : List Pol) (r : List PV) (post : List Pol) : viewR (viewF h n) (zipR pre r post) = match viewL (viewF h n) r with | some d => some (pre.map encPol ++ d :: post.map encPol) | none => none := by
  simp only [zipR, viewR_app, viewR, viewR_d]
  cases viewL (viewF h n) r <;> rfl
theorem lease_rise {p : Pol} (h : chkS p.root (usedP p) = 0) : p.leases.Pairwise fun a b => a.at_.at_ < b.at_.at_ := by
  obtain ⟨h1, h2, h3, h4⟩ := chkS_ok.1 h
  unfold usedP at h3 h4
  rw [List.pairwise_map] at h4
  refine h4.imp_of_mem fun {a b} ha hb hab => ?_
  have hr := (insQ_hi.1 (h3 a.at_ (List.mem_map.2 ⟨a, ha, rfl⟩))).1
  have := Pfx.hi_bd hr
  unfold Apart at hab
  omega
/-- A book with one pool turned. -/
def updB (b : Bok) (id : Int) (f : Pol → Pol) : Bok := ⟨b.tick, b.pools.map fun q => if q.id == id then f q else q⟩
theorem updB_split {b : Bok} {pre post : List Pol} {p : Pol} (hr : Rise b.pools) (h : b.pools = pre ++ p :: post) (f : Pol → Pol) : updB b p.id f = ⟨b.tick, pre ++ f p :: post⟩ := by
  unfold updB
  rw [h]
  have hr' := hr
  rw [h] at hr'
  obtain ⟨h1, h2, h3⟩ := List.pairwise_append.1 hr'
  rw [List.pairwise_cons] at h2
  have e1 : pre.map (fun q => if q.id == p.id then f q else q) = pre := by
    conv => rhs; rw [← List.map_id pre]
    refine List.map_congr_left fun q hq => ?_
    have := h3 q hq p (by simp)
    rw [if_neg (by simp; omega)]; rfl
  have e2 : post.map (fun q => if q.id == p.id then f q else q) = post := by
    conv => rhs; rw [← List.map_id post]
    refine List.map_congr_left fun q hq => ?_
    have := h2.1 q hq
    rw [if_neg (by simp; omega)]; rfl
  rw [List.map_append, List.map_cons, e1, e2]
  simp
/-- Take's answer. -/
def takeR (b : Bok) (id size owner : Int) : Bok × Pfx × Int :=
  if chkBk b ≠ 0 then (Bok.zero, Pfx.zero, chkBk b) else
  match poolOf b id with
  | none => (Bok.zero, Pfx.zero, 5)
  | some p =>
    if idOK owner = false then (Bok.zero, Pfx.zero, 3) else
    let f := fitE p (if size = 0 then p.rule.usual else size)
    if f.2 ≠ 0 then (Bok.zero, Pfx.zero, f.2) else (updB b id fun p => { p with leases := insL ⟨f.1, 1, owner, 0⟩ p.leases }, f.1, 0)
set_option maxRecDepth 100000 in
set_option maxHeartbeats 1000000 in
theorem take_p (b : Bok) (id size owner : Int) (hz : ∀ p ∈ b.pools, p.leases.length ≤ 3518437208882) : PSpec Try.prog 17 [.agg (encB b), .v (.int .i64 id), .v (.int .i64 size), .v (.int .i64 owner)] (.tup [.agg (encB (takeR b id size owner).1), .agg (encP (takeR b id size owner).2.1), .v (.int .i64 (takeR b id size owner).2.2)]) := by
  obtain ⟨R, hR⟩ : ∃ R, R = takeR b id size owner := ⟨_, rfl⟩
  rw [← hR]
  replace hR := Lib.hid hR
  by_cases hc : chkBk b = 0
  · have hbk := bookOK hc
    have hid := ids_p owner
    cases hq : poolOf b id with
    | none =>
      have hbg := beginD_m b hz hc
      have hf := find_p b id (by have := hbk.n8; omega) hbk.rise
      unfold findR at hf
      rw [hq] at hf
      replace hc := Lib.hid hc
      replace hq := Lib.hid hq
      refine ps_i tab_ok mixed Try.func17 rfl Try.ntmps17 Try.results17 (by kernel_rfl) ?_
      repeat' (first | (with_reducible refine And.intro ?_ ?_) | (with_reducible refine gK_i (fun _ => ?_) (fun _ => ?_)) | (with_reducible refine condS_i (fun _ => ?_) (fun _ => ?_)) | (with_reducible refine drw_i (by kernel_rfl)) | simp -dsimp only [go_sem, ↓reduceIte, reduceCtorEq, Nat.reduceAdd, Nat.reduceMul, Nat.reduceSub, Nat.reduceLeDiff, Nat.reduceLT, Nat.reduceEqDiff, Int.reduceLE, Int.reduceLT, Int.reduceToNat, Int.reduceBEq, Int.reduceBNe, Int.reduceEq, Int.reduceAdd, Int.reduceSub, Int.reduceMul, Int.reduceNeg, Int.cast_ofNat_Int, *, encB, encP] | ((with_reducible refine opK_c ?_); simp -dsimp only [go_sem, ↓reduceIte, reduceCtorEq, Nat.reduceAdd, Nat.reduceMul, Nat.reduceSub, Nat.reduceLeDiff, Nat.reduceLT, Nat.reduceEqDiff, Int.reduceLE, Int.reduceLT, Int.reduceToNat, Int.reduceBEq, Int.reduceBNe, Int.reduceEq, Int.reduceAdd, Int.reduceSub, Int.reduceMul, Int.reduceNeg, Int.cast_ofNat_Int, encB, encP]; first | refine callK_r (by first | assumption | exact hf) (by first | exact .inl rfl | exact .inr rfl) ?_ | (refine callK_i (by assumption) ?_ ?_ ?_; (solve | (repeat (first | exact DLe.refl _ | exact DLe.nil _ | (refine DLe.tup ?_) | (refine DLe.agg ?_ rfl) | exact trivial | (refine And.intro ?_ ?_)))); (solve | exact .inl rfl | exact .inr rfl))) | (refine opK_M [] (hbg) ?_ ?_ ?_ ?_ ?_ ?_; (solve | rfl | simp only [go_sem, ↓reduceIte, reduceCtorEq, Nat.reduceAdd, Nat.reduceMul, Nat.reduceSub, Nat.reduceLeDiff, Nat.reduceLT, Nat.reduceEqDiff, Int.reduceLE, Int.reduceLT, Int.reduceToNat, Int.reduceBEq, Int.reduceBNe, Int.reduceEq, Int.reduceAdd, Int.reduceSub, Int.reduceMul, Int.reduceNeg, Int.cast_ofNat_Int, encB]); (solve | rfl); (solve | decide); (solve | simp); (solve | simp only [go_sem, ↓reduceIte, reduceCtorEq, Nat.reduceAdd, Nat.reduceMul, Nat.reduceSub, Nat.reduceLeDiff, Nat.reduceLT, Nat.reduceEqDiff, Int.reduceLE, Int.reduceLT, Int.reduceToNat, Int.reduceBEq, Int.reduceBNe, Int.reduceEq, Int.reduceAdd, Int.reduceSub, Int.reduceMul, Int.reduceNeg, Int.cast_ofNat_Int, lentOK, encB])) | omega | exact decide_eq_true (by omega) | exact DLe.refl _)
      rw [show R = (Bok.zero, Pfx.zero, 5) from (by rw [hR.out]; unfold takeR; rw [if_neg (by simpa using hc.out), hq.out])]
      exact (by repeat (first | exact DLe.refl _ | exact DLe.nil _ | (refine DLe.tup ?_) | (refine DLe.agg ?_ rfl) | exact trivial | (refine And.intro ?_ ?_)))
    | some p =>
      obtain ⟨pre, post, hp, rfl⟩ := poolOf_split hq
      have hbg := beginZ_m b pre post p hp hz hc
      have hpm : p ∈ b.pools := by rw [hp]; simp
      have hpi : b.pools[pre.length]? = some p := by rw [hp, List.getElem?_append_right (Nat.le_refl _), Nat.sub_self]; rfl
      have hl32 := hbk.l32 p hpm
      have hvw : viewR (viewF (hatL [.box 24 [.d (.v (.int .i64 b.tick)), .own 1 b.pools.length], .row 46 9 b.pools.length (zipR pre (polRow p (.own 2 1)) post), .row 50 5 1 (dRows (p.leases.map encL))]) 5) (zipR pre (polRow p (.own 2 1)) post) = some (b.pools.map encPol) := by
        rw [hp]
        simp only [viewR_zip, polRow, viewL, viewF, hatL, viewR_d, if_true, Option.map_some, List.map_append, List.map_cons]; rfl
      have hf := find_m b pre.length p b.pools.length (zipR pre (polRow p (.own 2 1)) post) [.row 50 5 1 (dRows (p.leases.map encL))] (.d (.v (.int .i64 b.tick))) hpi hbk.rise hbk.n8 (by rw [zipR_len, hp]; simp; omega) hvw (by rw [belowR_zip]; rfl) (by simp only [belowH, belowC, belowR_d, Bool.and_self]) rfl
      have hft := fun s => fit_p p s hl32
      have hlet := fun l => let_m pre post p l b.pools.length 1 hl32 (lease_rise (hbk.mem p hpm).2.1)
      have hup := fun f => updB_split hbk.rise hp f
      have hR2 : R = if idOK owner = false then (Bok.zero, Pfx.zero, 3) else if (fitE p (if size = 0 then p.rule.usual else size)).2 ≠ 0 then (Bok.zero, Pfx.zero, (fitE p (if size = 0 then p.rule.usual else size)).2) else
          (⟨b.tick, pre ++ { p with leases := insL ⟨(fitE p (if size = 0 then p.rule.usual else size)).1, 1, owner, 0⟩ p.leases } :: post⟩, (fitE p (if size = 0 then p.rule.usual else size)).1, 0) := by
        rw [hR.out]
        unfold takeR
        rw [if_neg (by simpa using hc), hq]
        simp only
        rw [hup]
      replace hR2 := Lib.hid hR2
      replace hc := Lib.hid hc
      replace hq := Lib.hid hq
      replace hp := Lib.hid hp
      replace hpi := Lib.hid hpi
      replace hup := Lib.hid hup
      clear hvw hpm
      cases h0 : size == 0 with
      | true =>
        have e0 : size = 0 := by simpa using h0
        have hR2 := hR2.out
        rw [if_pos e0] at hR2
        replace hR2 := Lib.hid hR2
        replace e0 := Lib.hid e0
        have hlt1 := hlet ⟨(fitE p p.rule.usual).1, 1, owner, 0⟩
        have hft1 := hft p.rule.usual
        clear hlet hft
        refine ps_i tab_ok mixed Try.func17 rfl Try.ntmps17 Try.results17 (by kernel_rfl) ?_
        repeat' (first | (with_reducible refine And.intro ?_ ?_) | (with_reducible refine gK_i (fun _ => ?_) (fun _ => ?_)) | (with_reducible refine condS_i (fun _ => ?_) (fun _ => ?_)) | (with_reducible refine drw_i (by kernel_rfl)) | simp -dsimp only [go_sem, ↓reduceIte, reduceCtorEq, Nat.reduceAdd, Nat.reduceMul, Nat.reduceSub, Nat.reduceLeDiff, Nat.reduceLT, Nat.reduceEqDiff, Int.reduceLE, Int.reduceLT, Int.reduceToNat, Int.reduceBEq, Int.reduceBNe, Int.reduceEq, Int.reduceAdd, Int.reduceSub, Int.reduceMul, Int.reduceNeg, Int.cast_ofNat_Int, *, encB, encP, encL, polRow, renR_zip, zipR_get, viewR_zip, h0] | ((with_reducible refine opK_c ?_); simp -dsimp only [go_sem, ↓reduceIte, reduceCtorEq, Nat.reduceAdd, Nat.reduceMul, Nat.reduceSub, Nat.reduceLeDiff, Nat.reduceLT, Nat.reduceEqDiff, Int.reduceLE, Int.reduceLT, Int.reduceToNat, Int.reduceBEq, Int.reduceBNe, Int.reduceEq, Int.reduceAdd, Int.reduceSub, Int.reduceMul, Int.reduceNeg, Int.cast_ofNat_Int, encB, encP, encL, polRow, renR_zip, zipR_get, viewR_zip, h0]; first | refine callK_r (by first | assumption | exact hid | exact hft1) (by first | exact .inl rfl | exact .inr rfl) ?_ | (refine callK_i (by assumption) ?_ ?_ ?_; (solve | (repeat (first | exact DLe.refl _ | exact DLe.nil _ | (refine DLe.tup ?_) | (refine DLe.agg ?_ rfl) | exact trivial | (refine And.intro ?_ ?_)))); (solve | exact .inl rfl | exact .inr rfl))) | (refine opK_M [] (hbg) ?_ ?_ ?_ ?_ ?_ ?_; (solve | rfl | simp only [go_sem, ↓reduceIte, reduceCtorEq, Nat.reduceAdd, Nat.reduceMul, Nat.reduceSub, Nat.reduceLeDiff, Nat.reduceLT, Nat.reduceEqDiff, Int.reduceLE, Int.reduceLT, Int.reduceToNat, Int.reduceBEq, Int.reduceBNe, Int.reduceEq, Int.reduceAdd, Int.reduceSub, Int.reduceMul, Int.reduceNeg, Int.cast_ofNat_Int, encB, polRow, renR_zip]); (solve | rfl); (solve | decide); (solve | simp); (solve | simp only [go_sem, ↓reduceIte, reduceCtorEq, Nat.reduceAdd, Nat.reduceMul, Nat.reduceSub, Nat.reduceLeDiff, Nat.reduceLT, Nat.reduceEqDiff, Int.reduceLE, Int.reduceLT, Int.reduceToNat, Int.reduceBEq, Int.reduceBNe, Int.reduceEq, Int.reduceAdd, Int.reduceSub, Int.reduceMul, Int.reduceNeg, Int.cast_ofNat_Int, lentOK, encB, polRow, renR_zip])) | (refine opK_M [5, 6, 8] (hf) ?_ ?_ ?_ ?_ ?_ ?_; (solve | rfl | simp only [go_sem, ↓reduceIte, reduceCtorEq, Nat.reduceAdd, Nat.reduceMul, Nat.reduceSub, Nat.reduceLeDiff, Nat.reduceLT, Nat.reduceEqDiff, Int.reduceLE, Int.reduceLT, Int.reduceToNat, Int.reduceBEq, Int.reduceBNe, Int.reduceEq, Int.reduceAdd, Int.reduceSub, Int.reduceMul, Int.reduceNeg, Int.cast_ofNat_Int, encP, polRow, renR_zip]); (solve | rfl); (solve | decide); (solve | simp); (solve | simp only [go_sem, ↓reduceIte, reduceCtorEq, Nat.reduceAdd, Nat.reduceMul, Nat.reduceSub, Nat.reduceLeDiff, Nat.reduceLT, Nat.reduceEqDiff, Int.reduceLE, Int.reduceLT, Int.reduceToNat, Int.reduceBEq, Int.reduceBNe, Int.reduceEq, Int.reduceAdd, Int.reduceSub, Int.reduceMul, Int.reduceNeg, Int.cast_ofNat_Int, lentOK, encP, polRow, renR_zip])) | (refine opK_M [6, 8] (hlt1) ?_ ?_ ?_ ?_ ?_ ?_; (solve | rfl | simp only [go_sem, ↓reduceIte, reduceCtorEq, Nat.reduceAdd, Nat.reduceMul, Nat.reduceSub, Nat.reduceLeDiff, Nat.reduceLT, Nat.reduceEqDiff, Int.reduceLE, Int.reduceLT, Int.reduceToNat, Int.reduceBEq, Int.reduceBNe, Int.reduceEq, Int.reduceAdd, Int.reduceSub, Int.reduceMul, Int.reduceNeg, Int.cast_ofNat_Int, encP, encL, polRow, renR_zip]); (solve | rfl); (solve | decide); (solve | simp); (solve | simp only [go_sem, ↓reduceIte, reduceCtorEq, Nat.reduceAdd, Nat.reduceMul, Nat.reduceSub, Nat.reduceLeDiff, Nat.reduceLT, Nat.reduceEqDiff, Int.reduceLE, Int.reduceLT, Int.reduceToNat, Int.reduceBEq, Int.reduceBNe, Int.reduceEq, Int.reduceAdd, Int.reduceSub, Int.reduceMul, Int.reduceNeg, Int.cast_ofNat_Int, lentOK, encP, encL, polRow, renR_zip])) | omega | exact decide_eq_true (by omega) | exact DLe.refl _)
        all_goals clear hf hid hft1 hlt1 hbg hz
        all_goals first
          | (rw [show R = (Bok.zero, Pfx.zero, 3) from (by rw [hR2.out]; grind)]; (try simp only [List.map_append, List.map_cons]); exact (by repeat (first | exact DLe.refl _ | exact DLe.nil _ | (refine DLe.tup ?_) | (refine DLe.agg ?_ rfl) | exact trivial | (refine And.intro ?_ ?_))))
          | (rw [show R = (Bok.zero, Pfx.zero, (fitE p p.rule.usual).2) from (by rw [hR2.out]; grind)]; (try simp only [List.map_append, List.map_cons]); exact (by repeat (first | exact DLe.refl _ | exact DLe.nil _ | (refine DLe.tup ?_) | (refine DLe.agg ?_ rfl) | exact trivial | (refine And.intro ?_ ?_))))
          | (rw [show R = (⟨b.tick, pre ++ { p with leases := insL ⟨(fitE p p.rule.usual).1, 1, owner, 0⟩ p.leases } :: post⟩, (fitE p p.rule.usual).1, 0) from (by rw [hR2.out]; grind)]; (try simp only [List.map_append, List.map_cons]); exact (by repeat (first | exact DLe.refl _ | exact DLe.nil _ | (refine DLe.tup ?_) | (refine DLe.agg ?_ rfl) | exact trivial | (refine And.intro ?_ ?_))))
      | false =>
        have e0 : ¬ size = 0 := by simpa using h0
        have hR2 := hR2.out
        rw [if_neg e0] at hR2
        replace hR2 := Lib.hid hR2
        replace e0 := Lib.hid e0
        have hlt1 := hlet ⟨(fitE p size).1, 1, owner, 0⟩
        have hft1 := hft size
        clear hlet hft
        refine ps_i tab_ok mixed Try.func17 rfl Try.ntmps17 Try.results17 (by kernel_rfl) ?_
        repeat' (first | (with_reducible refine And.intro ?_ ?_) | (with_reducible refine gK_i (fun _ => ?_) (fun _ => ?_)) | (with_reducible refine condS_i (fun _ => ?_) (fun _ => ?_)) | (with_reducible refine drw_i (by kernel_rfl)) | simp -dsimp only [go_sem, ↓reduceIte, reduceCtorEq, Nat.reduceAdd, Nat.reduceMul, Nat.reduceSub, Nat.reduceLeDiff, Nat.reduceLT, Nat.reduceEqDiff, Int.reduceLE, Int.reduceLT, Int.reduceToNat, Int.reduceBEq, Int.reduceBNe, Int.reduceEq, Int.reduceAdd, Int.reduceSub, Int.reduceMul, Int.reduceNeg, Int.cast_ofNat_Int, *, encB, encP, encL, polRow, renR_zip, zipR_get, viewR_zip, h0] | ((with_reducible refine opK_c ?_); simp -dsimp only [go_sem, ↓reduceIte, reduceCtorEq, Nat.reduceAdd, Nat.reduceMul, Nat.reduceSub, Nat.reduceLeDiff, Nat.reduceLT, Nat.reduceEqDiff, Int.reduceLE, Int.reduceLT, Int.reduceToNat, Int.reduceBEq, Int.reduceBNe, Int.reduceEq, Int.reduceAdd, Int.reduceSub, Int.reduceMul, Int.reduceNeg, Int.cast_ofNat_Int, encB, encP, encL, polRow, renR_zip, zipR_get, viewR_zip, h0]; first | refine callK_r (by first | assumption | exact hid | exact hft1) (by first | exact .inl rfl | exact .inr rfl) ?_ | (refine callK_i (by assumption) ?_ ?_ ?_; (solve | (repeat (first | exact DLe.refl _ | exact DLe.nil _ | (refine DLe.tup ?_) | (refine DLe.agg ?_ rfl) | exact trivial | (refine And.intro ?_ ?_)))); (solve | exact .inl rfl | exact .inr rfl))) | (refine opK_M [] (hbg) ?_ ?_ ?_ ?_ ?_ ?_; (solve | rfl | simp only [go_sem, ↓reduceIte, reduceCtorEq, Nat.reduceAdd, Nat.reduceMul, Nat.reduceSub, Nat.reduceLeDiff, Nat.reduceLT, Nat.reduceEqDiff, Int.reduceLE, Int.reduceLT, Int.reduceToNat, Int.reduceBEq, Int.reduceBNe, Int.reduceEq, Int.reduceAdd, Int.reduceSub, Int.reduceMul, Int.reduceNeg, Int.cast_ofNat_Int, encB, polRow, renR_zip]); (solve | rfl); (solve | decide); (solve | simp); (solve | simp only [go_sem, ↓reduceIte, reduceCtorEq, Nat.reduceAdd, Nat.reduceMul, Nat.reduceSub, Nat.reduceLeDiff, Nat.reduceLT, Nat.reduceEqDiff, Int.reduceLE, Int.reduceLT, Int.reduceToNat, Int.reduceBEq, Int.reduceBNe, Int.reduceEq, Int.reduceAdd, Int.reduceSub, Int.reduceMul, Int.reduceNeg, Int.cast_ofNat_Int, lentOK, encB, polRow, renR_zip])) | (refine opK_M [5, 6, 8] (hf) ?_ ?_ ?_ ?_ ?_ ?_; (solve | rfl | simp only [go_sem, ↓reduceIte, reduceCtorEq, Nat.reduceAdd, Nat.reduceMul, Nat.reduceSub, Nat.reduceLeDiff, Nat.reduceLT, Nat.reduceEqDiff, Int.reduceLE, Int.reduceLT, Int.reduceToNat, Int.reduceBEq, Int.reduceBNe, Int.reduceEq, Int.reduceAdd, Int.reduceSub, Int.reduceMul, Int.reduceNeg, Int.cast_ofNat_Int, encP, polRow, renR_zip]); (solve | rfl); (solve | decide); (solve | simp); (solve | simp only [go_sem, ↓reduceIte, reduceCtorEq, Nat.reduceAdd, Nat.reduceMul, Nat.reduceSub, Nat.reduceLeDiff, Nat.reduceLT, Nat.reduceEqDiff, Int.reduceLE, Int.reduceLT, Int.reduceToNat, Int.reduceBEq, Int.reduceBNe, Int.reduceEq, Int.reduceAdd, Int.reduceSub, Int.reduceMul, Int.reduceNeg, Int.cast_ofNat_Int, lentOK, encP, polRow, renR_zip])) | (refine opK_M [6, 8] (hlt1) ?_ ?_ ?_ ?_ ?_ ?_; (solve | rfl | simp only [go_sem, ↓reduceIte, reduceCtorEq, Nat.reduceAdd, Nat.reduceMul, Nat.reduceSub, Nat.reduceLeDiff, Nat.reduceLT, Nat.reduceEqDiff, Int.reduceLE, Int.reduceLT, Int.reduceToNat, Int.reduceBEq, Int.reduceBNe, Int.reduceEq, Int.reduceAdd, Int.reduceSub, Int.reduceMul, Int.reduceNeg, Int.cast_ofNat_Int, encP, encL, polRow, renR_zip]); (solve | rfl); (solve | decide); (solve | simp); (solve | simp only [go_sem, ↓reduceIte, reduceCtorEq, Nat.reduceAdd, Nat.reduceMul, Nat.reduceSub, Nat.reduceLeDiff, Nat.reduceLT, Nat.reduceEqDiff, Int.reduceLE, Int.reduceLT, Int.reduceToNat, Int.reduceBEq, Int.reduceBNe, Int.reduceEq, Int.reduceAdd, Int.reduceSub, Int.reduceMul, Int.reduceNeg, Int.cast_ofNat_Int, lentOK, encP, encL, polRow, renR_zip])) | omega | exact decide_eq_true (by omega) | exact DLe.refl _)
        all_goals clear hf hid hft1 hlt1 hbg hz
        all_goals first
          | (rw [show R = (Bok.zero, Pfx.zero, 3) from (by rw [hR2.out]; grind)]; (try simp only [List.map_append, List.map_cons]); exact (by repeat (first | exact DLe.refl _ | exact DLe.nil _ | (refine DLe.tup ?_) | (refine DLe.agg ?_ rfl) | exact trivial | (refine And.intro ?_ ?_))))
          | (rw [show R = (Bok.zero, Pfx.zero, (fitE p size).2) from (by rw [hR2.out]; grind)]; (try simp only [List.map_append, List.map_cons]); exact (by repeat (first | exact DLe.refl _ | exact DLe.nil _ | (refine DLe.tup ?_) | (refine DLe.agg ?_ rfl) | exact trivial | (refine And.intro ?_ ?_))))
          | (rw [show R = (⟨b.tick, pre ++ { p with leases := insL ⟨(fitE p size).1, 1, owner, 0⟩ p.leases } :: post⟩, (fitE p size).1, 0) from (by rw [hR2.out]; grind)]; (try simp only [List.map_append, List.map_cons]); exact (by repeat (first | exact DLe.refl _ | exact DLe.nil _ | (refine DLe.tup ?_) | (refine DLe.agg ?_ rfl) | exact trivial | (refine And.intro ?_ ?_))))
  · have hbg := beginE_p b hz hc
    have h1 : (chkBk b != 0) = true := by simpa using hc
    have hr : R = (Bok.zero, Pfx.zero, chkBk b) := by rw [hR.out]; unfold takeR; rw [if_pos hc]
    rw [hr]
    replace hr := Lib.hid hr
    refine ps_i tab_ok mixed Try.func17 rfl Try.ntmps17 Try.results17 (by kernel_rfl) ?_
    repeat' (first | (with_reducible refine And.intro ?_ ?_) | (with_reducible refine gK_i (fun _ => ?_) (fun _ => ?_)) | (with_reducible refine condS_i (fun _ => ?_) (fun _ => ?_)) | (with_reducible refine drw_i (by kernel_rfl)) | simp -dsimp only [go_sem, ↓reduceIte, reduceCtorEq, Nat.reduceAdd, Nat.reduceMul, Nat.reduceSub, Nat.reduceLeDiff, Nat.reduceLT, Nat.reduceEqDiff, Int.reduceLE, Int.reduceLT, Int.reduceToNat, Int.reduceBEq, Int.reduceBNe, Int.reduceEq, Int.reduceAdd, Int.reduceSub, Int.reduceMul, Int.reduceNeg, Int.cast_ofNat_Int, *, encB, encP, h1] | ((with_reducible refine opK_c ?_); simp -dsimp only [go_sem, ↓reduceIte, reduceCtorEq, Nat.reduceAdd, Nat.reduceMul, Nat.reduceSub, Nat.reduceLeDiff, Nat.reduceLT, Nat.reduceEqDiff, Int.reduceLE, Int.reduceLT, Int.reduceToNat, Int.reduceBEq, Int.reduceBNe, Int.reduceEq, Int.reduceAdd, Int.reduceSub, Int.reduceMul, Int.reduceNeg, Int.cast_ofNat_Int, encB, encP, h1]; first | refine callK_r (by first | assumption | exact hbg) (by first | exact .inl rfl | exact .inr rfl) ?_ | (refine callK_i (by assumption) ?_ ?_ ?_; (solve | (repeat (first | exact DLe.refl _ | exact DLe.nil _ | (refine DLe.tup ?_) | (refine DLe.agg ?_ rfl) | exact trivial | (refine And.intro ?_ ?_)))); (solve | exact .inl rfl | exact .inr rfl))) | fail | omega | exact decide_eq_true (by omega) | exact DLe.refl _)
    exact (by repeat (first | exact DLe.refl _ | exact DLe.nil _ | (refine DLe.tup ?_) | (refine DLe.agg ?_ rfl) | exact trivial | (refine And.intro ?_ ?_)))
end Go.Proofs.Ytbeocackphfijaa
namespace Go.Proofs.Ytbeocackphfijaa
open Go Go.RowKit
/-- A lease for users, of just this part. -/
def giveB (at_ : Pfx) (l : Lse) : Bool := (l.kind == 1) && decide (l.at_ = at_)
theorem give1_p (l : Lse) (at_ : Pfx) : PSpec Try.prog 63 [.agg (encL l), .ept (encP at_)] (.v (.bool (giveB at_ l))) := by
  have he := eqP_list l.at_ at_
  unfold giveB
  rw [← he]
  replace he := Lib.hid he
  refine ps_i tab_ok mixed Try.func63 rfl Try.ntmps63 Try.results63 (by kernel_rfl) ?_
  repeat' (first | (with_reducible refine And.intro ?_ ?_) | (with_reducible refine gK_i (fun _ => ?_) (fun _ => ?_)) | (with_reducible refine condS_i (fun _ => ?_) (fun _ => ?_)) | (with_reducible refine drw_i (by kernel_rfl)) | simp -dsimp only [go_sem, ↓reduceIte, reduceCtorEq, Nat.reduceAdd, Nat.reduceMul, Nat.reduceSub, Nat.reduceLeDiff, Nat.reduceLT, Nat.reduceEqDiff, Int.reduceLE, Int.reduceLT, Int.reduceToNat, Int.reduceBEq, Int.reduceBNe, Int.reduceEq, Int.reduceAdd, Int.reduceSub, Int.reduceMul, Int.reduceNeg, Int.cast_ofNat_Int, *, encL, encP] | ((with_reducible refine opK_c ?_); simp -dsimp only [go_sem, ↓reduceIte, reduceCtorEq, Nat.reduceAdd, Nat.reduceMul, Nat.reduceSub, Nat.reduceLeDiff, Nat.reduceLT, Nat.reduceEqDiff, Int.reduceLE, Int.reduceLT, Int.reduceToNat, Int.reduceBEq, Int.reduceBNe, Int.reduceEq, Int.reduceAdd, Int.reduceSub, Int.reduceMul, Int.reduceNeg, Int.cast_ofNat_Int, encL, encP]; first | refine callK_r (by first | assumption | fail) (by first | exact .inl rfl | exact .inr rfl) ?_ | (refine callK_i (by assumption) ?_ ?_ ?_; (solve | (repeat (first | exact DLe.refl _ | exact DLe.nil _ | (refine DLe.tup ?_) | (refine DLe.agg ?_ rfl) | exact trivial | (refine And.intro ?_ ?_)))); (solve | exact .inl rfl | exact .inr rfl))) | fail | omega | exact decide_eq_true (by omega) | exact DLe.refl _)
/-- Give's answer. -/
def giveR (b : Bok) (id : Int) (at_ : Pfx) : Bok × Int :=
  if chkBk b ≠ 0 then (Bok.zero, chkBk b) else
  match poolOf b id with
  | none => (Bok.zero, 5)
  | some p => match p.leases.findIdx? (giveB at_) with
    | none => (Bok.zero, 5)
    | some i => (updB b id fun p => { p with leases := coolL p i b.tick }, 0)
theorem rule_cool {r : Rul} {len : Int} (h : ruleOK r len = true) : 0 ≤ r.cool ∧ r.cool ≤ 1024 := by
  simp only [ruleOK, Bool.and_eq_true, decide_eq_true_eq] at h
  exact h.2
/-- What is known of a book with one pool for itself. -/
structure ZipB (b : Bok) (pre post : List Pol) (p : Pol) : Prop where
  eq : b.pools = pre ++ p :: post
  at_ : b.pools[pre.length]? = some p
  mem : p ∈ b.pools
  view : viewR (viewF (hatL [.box 24 [.d (.v (.int .i64 b.tick)), .own 1 b.pools.length], .row 46 9 b.pools.length (zipR pre (polRow p (.own 2 1)) post), .row 50 5 1 (dRows (p.leases.map encL))]) 5) (zipR pre (polRow p (.own 2 1)) post) = some (b.pools.map encPol)
  len : (zipR pre (polRow p (.own 2 1)) post).length = b.pools.length
theorem zipB {b : Bok} {pre post : List Pol} {p : Pol} (hp : b.pools = pre ++ p :: post) : ZipB b pre post p := by
  refine ⟨hp, ?_, ?_, ?_, ?_⟩
  · rw [hp, List.getElem?_append_right (Nat.le_refl _), Nat.sub_self]; rfl
  · rw [hp]; simp
  · rw [hp]
    simp only [viewR_zip, polRow, viewL, viewF, hatL, viewR_d, if_true, Option.map_some, List.map_append, List.map_cons]; rfl
  · rw [zipR_len, hp]; simp; omega
/-- A pool is found, in a book with one pool for itself. -/
theorem findZ_m {b : Bok} (hb : BookOK b) {pre post : List Pol} {p : Pol} (hz : ZipB b pre post p) {i : Nat} {q : Pol} (hq : b.pools[i]? = some q) :
    MSpec Try.prog 32 [.ptr 0 0, .d (.v (.int .i64 q.id))] [.box 24 [.d (.v (.int .i64 b.tick)), .own 1 b.pools.length], .row 46 9 b.pools.length (zipR pre (polRow p (.own 2 1)) post), .row 50 5 1 (dRows (p.leases.map encL))]
      (.tup [.rp 1 b.pools.length 9 i 0, .d (.v (.bool true))]) [.box 24 [.d (.v (.int .i64 b.tick)), .own 1 b.pools.length], .row 46 9 b.pools.length (zipR pre (polRow p (.own 2 1)) post), .row 50 5 1 (dRows (p.leases.map encL))] :=
  find_m b i q b.pools.length _ [.row 50 5 1 (dRows (p.leases.map encL))] (.d (.v (.int .i64 b.tick))) hq hb.rise hb.n8 hz.len hz.view (by rw [belowR_zip]; rfl) (by simp only [belowH, belowC, belowR_d, Bool.and_self]) rfl
set_option maxRecDepth 100000 in
set_option maxHeartbeats 1000000 in
theorem give_p (b : Bok) (id : Int) (at_ : Pfx) (hz : ∀ p ∈ b.pools, p.leases.length ≤ 3518437208882) : PSpec Try.prog 18 [.agg (encB b), .v (.int .i64 id), .agg (encP at_)] (.tup [.agg (encB (giveR b id at_).1), .v (.int .i64 (giveR b id at_).2)]) := by
  obtain ⟨R, hR⟩ : ∃ R, R = giveR b id at_ := ⟨_, rfl⟩
  rw [← hR]
  replace hR := Lib.hid hR
  by_cases hc : chkBk b = 0
  · have hbk := bookOK hc
    cases hq : poolOf b id with
    | none =>
      have hbg := beginD_m b hz hc
      have hf := find_p b id (by have := hbk.n8; omega) hbk.rise
      unfold findR at hf
      rw [hq] at hf
      replace hc := Lib.hid hc
      replace hq := Lib.hid hq
      refine ps_i tab_ok mixed Try.func18 rfl Try.ntmps18 Try.results18 (by kernel_rfl) ?_
      repeat' (first | (with_reducible refine And.intro ?_ ?_) | (with_reducible refine gK_i (fun _ => ?_) (fun _ => ?_)) | (with_reducible refine condS_i (fun _ => ?_) (fun _ => ?_)) | (with_reducible refine drw_i (by kernel_rfl)) | simp -dsimp only [go_sem, ↓reduceIte, reduceCtorEq, Nat.reduceAdd, Nat.reduceMul, Nat.reduceSub, Nat.reduceLeDiff, Nat.reduceLT, Nat.reduceEqDiff, Int.reduceLE, Int.reduceLT, Int.reduceToNat, Int.reduceBEq, Int.reduceBNe, Int.reduceEq, Int.reduceAdd, Int.reduceSub, Int.reduceMul, Int.reduceNeg, Int.cast_ofNat_Int, *, encB, encP] | ((with_reducible refine opK_c ?_); simp -dsimp only [go_sem, ↓reduceIte, reduceCtorEq, Nat.reduceAdd, Nat.reduceMul, Nat.reduceSub, Nat.reduceLeDiff, Nat.reduceLT, Nat.reduceEqDiff, Int.reduceLE, Int.reduceLT, Int.reduceToNat, Int.reduceBEq, Int.reduceBNe, Int.reduceEq, Int.reduceAdd, Int.reduceSub, Int.reduceMul, Int.reduceNeg, Int.cast_ofNat_Int, encB, encP]; first | refine callK_r (by first | assumption | exact hf) (by first | exact .inl rfl | exact .inr rfl) ?_ | (refine callK_i (by assumption) ?_ ?_ ?_; (solve | (repeat (first | exact DLe.refl _ | exact DLe.nil _ | (refine DLe.tup ?_) | (refine DLe.agg ?_ rfl) | exact trivial | (refine And.intro ?_ ?_)))); (solve | exact .inl rfl | exact .inr rfl))) | (refine opK_M [] (hbg) ?_ ?_ ?_ ?_ ?_ ?_; (solve | rfl | simp only [go_sem, ↓reduceIte, reduceCtorEq, Nat.reduceAdd, Nat.reduceMul, Nat.reduceSub, Nat.reduceLeDiff, Nat.reduceLT, Nat.reduceEqDiff, Int.reduceLE, Int.reduceLT, Int.reduceToNat, Int.reduceBEq, Int.reduceBNe, Int.reduceEq, Int.reduceAdd, Int.reduceSub, Int.reduceMul, Int.reduceNeg, Int.cast_ofNat_Int, encB]); (solve | rfl); (solve | decide); (solve | simp); (solve | simp only [go_sem, ↓reduceIte, reduceCtorEq, Nat.reduceAdd, Nat.reduceMul, Nat.reduceSub, Nat.reduceLeDiff, Nat.reduceLT, Nat.reduceEqDiff, Int.reduceLE, Int.reduceLT, Int.reduceToNat, Int.reduceBEq, Int.reduceBNe, Int.reduceEq, Int.reduceAdd, Int.reduceSub, Int.reduceMul, Int.reduceNeg, Int.cast_ofNat_Int, lentOK, encB])) | omega | exact decide_eq_true (by omega) | exact DLe.refl _)
      rw [show R = (Bok.zero, 5) from (by rw [hR.out]; unfold giveR; rw [if_neg (by simpa using hc.out), hq.out])]
      exact (by repeat (first | exact DLe.refl _ | exact DLe.nil _ | (refine DLe.tup ?_) | (refine DLe.agg ?_ rfl) | exact trivial | (refine And.intro ?_ ?_)))
    | some p =>
      obtain ⟨pre, post, hp, rfl⟩ := poolOf_split hq
      have hbg := beginZ_m b pre post p hp hz hc
      have hzb := zipB hp
      have hf := findZ_m hbk hzb hzb.at_
      have hl32 := hbk.l32 p hzb.mem
      have hix := idxf_Lease encL_len (giveB at_) p.leases 63 [.ept (encP at_)] (by omega) (fun l _ => give1_p l at_)
      have hup := fun f => updB_split hbk.rise hp f
      unfold idxI at hix
      cases hfi : p.leases.findIdx? (giveB at_) with
      | none =>
        rw [hfi] at hix
        have hr : R = (Bok.zero, 5) := by rw [hR.out]; unfold giveR; rw [if_neg (by simpa using hc), hq]; simp only; rw [hfi]
        rw [hr]
        clear hr hup hq hp hc hfi hR hzb
        refine ps_i tab_ok mixed Try.func18 rfl Try.ntmps18 Try.results18 (by kernel_rfl) ?_
        repeat' (first | (with_reducible refine And.intro ?_ ?_) | (with_reducible refine gK_i (fun _ => ?_) (fun _ => ?_)) | (with_reducible refine condS_i (fun _ => ?_) (fun _ => ?_)) | (with_reducible refine drw_i (by kernel_rfl)) | simp -dsimp only [go_sem, ↓reduceIte, reduceCtorEq, Nat.reduceAdd, Nat.reduceMul, Nat.reduceSub, Nat.reduceLeDiff, Nat.reduceLT, Nat.reduceEqDiff, Int.reduceLE, Int.reduceLT, Int.reduceToNat, Int.reduceBEq, Int.reduceBNe, Int.reduceEq, Int.reduceAdd, Int.reduceSub, Int.reduceMul, Int.reduceNeg, Int.cast_ofNat_Int, *, encB, encP, polRow, renR_zip, zipR_get] | ((with_reducible refine opK_c ?_); simp -dsimp only [go_sem, ↓reduceIte, reduceCtorEq, Nat.reduceAdd, Nat.reduceMul, Nat.reduceSub, Nat.reduceLeDiff, Nat.reduceLT, Nat.reduceEqDiff, Int.reduceLE, Int.reduceLT, Int.reduceToNat, Int.reduceBEq, Int.reduceBNe, Int.reduceEq, Int.reduceAdd, Int.reduceSub, Int.reduceMul, Int.reduceNeg, Int.cast_ofNat_Int, encB, encP, polRow, renR_zip, zipR_get]; first | refine callK_r (by first | assumption | exact hix) (by first | exact .inl rfl | exact .inr rfl) ?_ | (refine callK_i (by assumption) ?_ ?_ ?_; (solve | (repeat (first | exact DLe.refl _ | exact DLe.nil _ | (refine DLe.tup ?_) | (refine DLe.agg ?_ rfl) | exact trivial | (refine And.intro ?_ ?_)))); (solve | exact .inl rfl | exact .inr rfl))) | (refine opK_M [] (hbg) ?_ ?_ ?_ ?_ ?_ ?_; (solve | rfl | simp only [go_sem, ↓reduceIte, reduceCtorEq, Nat.reduceAdd, Nat.reduceMul, Nat.reduceSub, Nat.reduceLeDiff, Nat.reduceLT, Nat.reduceEqDiff, Int.reduceLE, Int.reduceLT, Int.reduceToNat, Int.reduceBEq, Int.reduceBNe, Int.reduceEq, Int.reduceAdd, Int.reduceSub, Int.reduceMul, Int.reduceNeg, Int.cast_ofNat_Int, encB, polRow, renR_zip]); (solve | rfl); (solve | decide); (solve | simp); (solve | simp only [go_sem, ↓reduceIte, reduceCtorEq, Nat.reduceAdd, Nat.reduceMul, Nat.reduceSub, Nat.reduceLeDiff, Nat.reduceLT, Nat.reduceEqDiff, Int.reduceLE, Int.reduceLT, Int.reduceToNat, Int.reduceBEq, Int.reduceBNe, Int.reduceEq, Int.reduceAdd, Int.reduceSub, Int.reduceMul, Int.reduceNeg, Int.cast_ofNat_Int, lentOK, encB, polRow, renR_zip])) | (refine opK_M [5, 6, 8] (hf) ?_ ?_ ?_ ?_ ?_ ?_; (solve | rfl | simp only [go_sem, ↓reduceIte, reduceCtorEq, Nat.reduceAdd, Nat.reduceMul, Nat.reduceSub, Nat.reduceLeDiff, Nat.reduceLT, Nat.reduceEqDiff, Int.reduceLE, Int.reduceLT, Int.reduceToNat, Int.reduceBEq, Int.reduceBNe, Int.reduceEq, Int.reduceAdd, Int.reduceSub, Int.reduceMul, Int.reduceNeg, Int.cast_ofNat_Int, encP, polRow, renR_zip]); (solve | rfl); (solve | decide); (solve | simp); (solve | simp only [go_sem, ↓reduceIte, reduceCtorEq, Nat.reduceAdd, Nat.reduceMul, Nat.reduceSub, Nat.reduceLeDiff, Nat.reduceLT, Nat.reduceEqDiff, Int.reduceLE, Int.reduceLT, Int.reduceToNat, Int.reduceBEq, Int.reduceBNe, Int.reduceEq, Int.reduceAdd, Int.reduceSub, Int.reduceMul, Int.reduceNeg, Int.cast_ofNat_Int, lentOK, encP, polRow, renR_zip])) | omega | exact decide_eq_true (by omega) | exact DLe.refl _)
        exact (by repeat (first | exact DLe.refl _ | exact DLe.nil _ | (refine DLe.tup ?_) | (refine DLe.agg ?_ rfl) | exact trivial | (refine And.intro ?_ ?_)))
      | some i =>
        rw [hfi] at hix
        have hi : i < p.leases.length := (List.findIdx?_eq_some_iff_getElem.1 hfi).1
        have hcl := cool_m pre post p i b.pools.length 1 b.tick hi hl32 (rule_cool (hbk.mem p hzb.mem).2.2) hbk.tick
        have hr : R = (⟨b.tick, pre ++ { p with leases := coolL p i b.tick } :: post⟩, 0) := by rw [hR.out]; unfold giveR; rw [if_neg (by simpa using hc), hq]; simp only; rw [hfi]; simp only; rw [hup]
        have hi0 : decide ((i : Int) < 0) = false := by simp
        rw [hr]
        clear hr hup hq hp hc hfi hR hzb
        refine ps_i tab_ok mixed Try.func18 rfl Try.ntmps18 Try.results18 (by kernel_rfl) ?_
        repeat' (first | (with_reducible refine And.intro ?_ ?_) | (with_reducible refine gK_i (fun _ => ?_) (fun _ => ?_)) | (with_reducible refine condS_i (fun _ => ?_) (fun _ => ?_)) | (with_reducible refine drw_i (by kernel_rfl)) | simp -dsimp only [go_sem, ↓reduceIte, reduceCtorEq, Nat.reduceAdd, Nat.reduceMul, Nat.reduceSub, Nat.reduceLeDiff, Nat.reduceLT, Nat.reduceEqDiff, Int.reduceLE, Int.reduceLT, Int.reduceToNat, Int.reduceBEq, Int.reduceBNe, Int.reduceEq, Int.reduceAdd, Int.reduceSub, Int.reduceMul, Int.reduceNeg, Int.cast_ofNat_Int, *, encB, encP, polRow, renR_zip, zipR_get, hi0] | ((with_reducible refine opK_c ?_); simp -dsimp only [go_sem, ↓reduceIte, reduceCtorEq, Nat.reduceAdd, Nat.reduceMul, Nat.reduceSub, Nat.reduceLeDiff, Nat.reduceLT, Nat.reduceEqDiff, Int.reduceLE, Int.reduceLT, Int.reduceToNat, Int.reduceBEq, Int.reduceBNe, Int.reduceEq, Int.reduceAdd, Int.reduceSub, Int.reduceMul, Int.reduceNeg, Int.cast_ofNat_Int, encB, encP, polRow, renR_zip, zipR_get, hi0]; first | refine callK_r (by first | assumption | exact hix) (by first | exact .inl rfl | exact .inr rfl) ?_ | (refine callK_i (by assumption) ?_ ?_ ?_; (solve | (repeat (first | exact DLe.refl _ | exact DLe.nil _ | (refine DLe.tup ?_) | (refine DLe.agg ?_ rfl) | exact trivial | (refine And.intro ?_ ?_)))); (solve | exact .inl rfl | exact .inr rfl))) | (refine opK_M [] (hbg) ?_ ?_ ?_ ?_ ?_ ?_; (solve | rfl | simp only [go_sem, ↓reduceIte, reduceCtorEq, Nat.reduceAdd, Nat.reduceMul, Nat.reduceSub, Nat.reduceLeDiff, Nat.reduceLT, Nat.reduceEqDiff, Int.reduceLE, Int.reduceLT, Int.reduceToNat, Int.reduceBEq, Int.reduceBNe, Int.reduceEq, Int.reduceAdd, Int.reduceSub, Int.reduceMul, Int.reduceNeg, Int.cast_ofNat_Int, encB, polRow, renR_zip]); (solve | rfl); (solve | decide); (solve | simp); (solve | simp only [go_sem, ↓reduceIte, reduceCtorEq, Nat.reduceAdd, Nat.reduceMul, Nat.reduceSub, Nat.reduceLeDiff, Nat.reduceLT, Nat.reduceEqDiff, Int.reduceLE, Int.reduceLT, Int.reduceToNat, Int.reduceBEq, Int.reduceBNe, Int.reduceEq, Int.reduceAdd, Int.reduceSub, Int.reduceMul, Int.reduceNeg, Int.cast_ofNat_Int, lentOK, encB, polRow, renR_zip])) | (refine opK_M [5, 6, 8] (hf) ?_ ?_ ?_ ?_ ?_ ?_; (solve | rfl | simp only [go_sem, ↓reduceIte, reduceCtorEq, Nat.reduceAdd, Nat.reduceMul, Nat.reduceSub, Nat.reduceLeDiff, Nat.reduceLT, Nat.reduceEqDiff, Int.reduceLE, Int.reduceLT, Int.reduceToNat, Int.reduceBEq, Int.reduceBNe, Int.reduceEq, Int.reduceAdd, Int.reduceSub, Int.reduceMul, Int.reduceNeg, Int.cast_ofNat_Int, encP, polRow, renR_zip]); (solve | rfl); (solve | decide); (solve | simp); (solve | simp only [go_sem, ↓reduceIte, reduceCtorEq, Nat.reduceAdd, Nat.reduceMul, Nat.reduceSub, Nat.reduceLeDiff, Nat.reduceLT, Nat.reduceEqDiff, Int.reduceLE, Int.reduceLT, Int.reduceToNat, Int.reduceBEq, Int.reduceBNe, Int.reduceEq, Int.reduceAdd, Int.reduceSub, Int.reduceMul, Int.reduceNeg, Int.cast_ofNat_Int, lentOK, encP, polRow, renR_zip])) | (refine opK_M [6, 8] (hcl) ?_ ?_ ?_ ?_ ?_ ?_; (solve | rfl | simp only [go_sem, ↓reduceIte, reduceCtorEq, Nat.reduceAdd, Nat.reduceMul, Nat.reduceSub, Nat.reduceLeDiff, Nat.reduceLT, Nat.reduceEqDiff, Int.reduceLE, Int.reduceLT, Int.reduceToNat, Int.reduceBEq, Int.reduceBNe, Int.reduceEq, Int.reduceAdd, Int.reduceSub, Int.reduceMul, Int.reduceNeg, Int.cast_ofNat_Int, encP, encL, polRow, renR_zip]); (solve | rfl); (solve | decide); (solve | simp); (solve | simp only [go_sem, ↓reduceIte, reduceCtorEq, Nat.reduceAdd, Nat.reduceMul, Nat.reduceSub, Nat.reduceLeDiff, Nat.reduceLT, Nat.reduceEqDiff, Int.reduceLE, Int.reduceLT, Int.reduceToNat, Int.reduceBEq, Int.reduceBNe, Int.reduceEq, Int.reduceAdd, Int.reduceSub, Int.reduceMul, Int.reduceNeg, Int.cast_ofNat_Int, lentOK, encP, encL, polRow, renR_zip])) | omega | exact decide_eq_true (by omega) | exact DLe.refl _)
        all_goals exact (by repeat (first | exact DLe.refl _ | exact DLe.nil _ | (refine DLe.tup ?_) | (refine DLe.agg ?_ rfl) | exact trivial | (refine And.intro ?_ ?_)))
  · have hbg := beginE_p b hz hc
    have h1 : (chkBk b != 0) = true := by simpa using hc
    have hr : R = (Bok.zero, chkBk b) := by rw [hR.out]; unfold giveR; rw [if_pos hc]
    rw [hr]
    replace hr := Lib.hid hr
    refine ps_i tab_ok mixed Try.func18 rfl Try.ntmps18 Try.results18 (by kernel_rfl) ?_
    repeat' (first | (with_reducible refine And.intro ?_ ?_) | (with_reducible refine gK_i (fun _ => ?_) (fun _ => ?_)) | (with_reducible refine condS_i (fun _ => ?_) (fun _ => ?_)) | (with_reducible refine drw_i (by kernel_rfl)) | simp -dsimp only [go_sem, ↓reduceIte, reduceCtorEq, Nat.reduceAdd, Nat.reduceMul, Nat.reduceSub, Nat.reduceLeDiff, Nat.reduceLT, Nat.reduceEqDiff, Int.reduceLE, Int.reduceLT, Int.reduceToNat, Int.reduceBEq, Int.reduceBNe, Int.reduceEq, Int.reduceAdd, Int.reduceSub, Int.reduceMul, Int.reduceNeg, Int.cast_ofNat_Int, *, encB, encP, h1] | ((with_reducible refine opK_c ?_); simp -dsimp only [go_sem, ↓reduceIte, reduceCtorEq, Nat.reduceAdd, Nat.reduceMul, Nat.reduceSub, Nat.reduceLeDiff, Nat.reduceLT, Nat.reduceEqDiff, Int.reduceLE, Int.reduceLT, Int.reduceToNat, Int.reduceBEq, Int.reduceBNe, Int.reduceEq, Int.reduceAdd, Int.reduceSub, Int.reduceMul, Int.reduceNeg, Int.cast_ofNat_Int, encB, encP, h1]; first | refine callK_r (by first | assumption | exact hbg) (by first | exact .inl rfl | exact .inr rfl) ?_ | (refine callK_i (by assumption) ?_ ?_ ?_; (solve | (repeat (first | exact DLe.refl _ | exact DLe.nil _ | (refine DLe.tup ?_) | (refine DLe.agg ?_ rfl) | exact trivial | (refine And.intro ?_ ?_)))); (solve | exact .inl rfl | exact .inr rfl))) | fail | omega | exact decide_eq_true (by omega) | exact DLe.refl _)
    exact (by repeat (first | exact DLe.refl _ | exact DLe.nil _ | (refine DLe.tup ?_) | (refine DLe.agg ?_ rfl) | exact trivial | (refine And.intro ?_ ?_)))
/-- Nest's answer. -/
def nestR (b : Bok) (id up size : Int) (r : Rul) : Bok × Pfx × Int :=
  if chkBk b ≠ 0 then (Bok.zero, Pfx.zero, chkBk b) else
  if idOK id = false then (Bok.zero, Pfx.zero, 3) else
  match poolOf b up with
  | none => (Bok.zero, Pfx.zero, 5)
  | some p =>
    if (poolOf b id).isSome = true then (Bok.zero, Pfx.zero, 6) else
    if (fitE p size).2 ≠ 0 then (Bok.zero, Pfx.zero, (fitE p size).2) else
    if ruleOK r (fitE p size).1.len = false then (Bok.zero, Pfx.zero, 1) else
    if b.pools.length = 8 then (Bok.zero, Pfx.zero, 2) else
    (⟨b.tick, insB ⟨id, up, (fitE p size).1, r, []⟩ (updB b up fun p => { p with leases := insL ⟨(fitE p size).1, 2, id, 0⟩ p.leases }).pools⟩, (fitE p size).1, 0)
theorem rise_upd {pre post : List Pol} {p q : Pol} (h : Rise (pre ++ p :: post)) (hq : q.id = p.id) : Rise (pre ++ q :: post) := by
  unfold Rise at h ⊢
  rw [List.pairwise_append, List.pairwise_cons] at h ⊢
  obtain ⟨h1, ⟨h2, h3⟩, h4⟩ := h
  refine ⟨h1, ⟨fun a ha => by rw [hq]; exact h2 a ha, h3⟩, fun a ha c hc => ?_⟩
  rcases List.mem_cons.1 hc with rfl | hc
  · rw [hq]; exact h4 a ha p (by simp)
  · exact h4 a ha c (by simp [hc])
set_option maxRecDepth 100000 in
set_option maxHeartbeats 1000000 in
theorem nest_p (b : Bok) (id up size : Int) (r : Rul) (hz : ∀ p ∈ b.pools, p.leases.length ≤ 3518437208882) : PSpec Try.prog 10 [.agg (encB b), .v (.int .i64 id), .v (.int .i64 up), .v (.int .i64 size), .agg (encR r)] (.tup [.agg (encB (nestR b id up size r).1), .agg (encP (nestR b id up size r).2.1), .v (.int .i64 (nestR b id up size r).2.2)]) := by
  obtain ⟨R, hR⟩ : ∃ R, R = nestR b id up size r := ⟨_, rfl⟩
  rw [← hR]
  replace hR := Lib.hid hR
  by_cases hc : chkBk b = 0
  · have hbk := bookOK hc
    have hid := ids_p id
    cases hio : idOK id with
    | false =>
      rw [hio] at hid
      have hbg := beginD_m b hz hc
      have hr : R = (Bok.zero, Pfx.zero, 3) := by rw [hR.out]; unfold nestR; rw [if_neg (by simpa using hc), if_pos hio]
      rw [hr]
      clear hr hR hc hio
      refine ps_i tab_ok mixed Try.func10 rfl Try.ntmps10 Try.results10 (by kernel_rfl) ?_
      repeat' (first | (with_reducible refine And.intro ?_ ?_) | (with_reducible refine gK_i (fun _ => ?_) (fun _ => ?_)) | (with_reducible refine condS_i (fun _ => ?_) (fun _ => ?_)) | (with_reducible refine drw_i (by kernel_rfl)) | simp -dsimp only [go_sem, ↓reduceIte, reduceCtorEq, Nat.reduceAdd, Nat.reduceMul, Nat.reduceSub, Nat.reduceLeDiff, Nat.reduceLT, Nat.reduceEqDiff, Int.reduceLE, Int.reduceLT, Int.reduceToNat, Int.reduceBEq, Int.reduceBNe, Int.reduceEq, Int.reduceAdd, Int.reduceSub, Int.reduceMul, Int.reduceNeg, Int.cast_ofNat_Int, *, encB, encP, encR] | ((with_reducible refine opK_c ?_); simp -dsimp only [go_sem, ↓reduceIte, reduceCtorEq, Nat.reduceAdd, Nat.reduceMul, Nat.reduceSub, Nat.reduceLeDiff, Nat.reduceLT, Nat.reduceEqDiff, Int.reduceLE, Int.reduceLT, Int.reduceToNat, Int.reduceBEq, Int.reduceBNe, Int.reduceEq, Int.reduceAdd, Int.reduceSub, Int.reduceMul, Int.reduceNeg, Int.cast_ofNat_Int, encB, encP, encR]; first | refine callK_r (by first | assumption | exact hid) (by first | exact .inl rfl | exact .inr rfl) ?_ | (refine callK_i (by assumption) ?_ ?_ ?_; (solve | (repeat (first | exact DLe.refl _ | exact DLe.nil _ | (refine DLe.tup ?_) | (refine DLe.agg ?_ rfl) | exact trivial | (refine And.intro ?_ ?_)))); (solve | exact .inl rfl | exact .inr rfl))) | (refine opK_M [] (hbg) ?_ ?_ ?_ ?_ ?_ ?_; (solve | rfl | simp only [go_sem, ↓reduceIte, reduceCtorEq, Nat.reduceAdd, Nat.reduceMul, Nat.reduceSub, Nat.reduceLeDiff, Nat.reduceLT, Nat.reduceEqDiff, Int.reduceLE, Int.reduceLT, Int.reduceToNat, Int.reduceBEq, Int.reduceBNe, Int.reduceEq, Int.reduceAdd, Int.reduceSub, Int.reduceMul, Int.reduceNeg, Int.cast_ofNat_Int, encB]); (solve | rfl); (solve | decide); (solve | simp); (solve | simp only [go_sem, ↓reduceIte, reduceCtorEq, Nat.reduceAdd, Nat.reduceMul, Nat.reduceSub, Nat.reduceLeDiff, Nat.reduceLT, Nat.reduceEqDiff, Int.reduceLE, Int.reduceLT, Int.reduceToNat, Int.reduceBEq, Int.reduceBNe, Int.reduceEq, Int.reduceAdd, Int.reduceSub, Int.reduceMul, Int.reduceNeg, Int.cast_ofNat_Int, lentOK, encB])) | omega | exact decide_eq_true (by omega) | exact DLe.refl _)
      exact (by repeat (first | exact DLe.refl _ | exact DLe.nil _ | (refine DLe.tup ?_) | (refine DLe.agg ?_ rfl) | exact trivial | (refine And.intro ?_ ?_)))
    | true =>
      rw [hio] at hid
      cases hq : poolOf b up with
      | none =>
        have hbg := beginD_m b hz hc
        have hf := find_p b up (by have := hbk.n8; omega) hbk.rise
        unfold findR at hf
        rw [hq] at hf
        have hr : R = (Bok.zero, Pfx.zero, 5) := by rw [hR.out]; unfold nestR; rw [if_neg (by simpa using hc), if_neg (by simp [hio]), hq]
        rw [hr]
        clear hr hR hc hio hq
        refine ps_i tab_ok mixed Try.func10 rfl Try.ntmps10 Try.results10 (by kernel_rfl) ?_
        repeat' (first | (with_reducible refine And.intro ?_ ?_) | (with_reducible refine gK_i (fun _ => ?_) (fun _ => ?_)) | (with_reducible refine condS_i (fun _ => ?_) (fun _ => ?_)) | (with_reducible refine drw_i (by kernel_rfl)) | simp -dsimp only [go_sem, ↓reduceIte, reduceCtorEq, Nat.reduceAdd, Nat.reduceMul, Nat.reduceSub, Nat.reduceLeDiff, Nat.reduceLT, Nat.reduceEqDiff, Int.reduceLE, Int.reduceLT, Int.reduceToNat, Int.reduceBEq, Int.reduceBNe, Int.reduceEq, Int.reduceAdd, Int.reduceSub, Int.reduceMul, Int.reduceNeg, Int.cast_ofNat_Int, *, encB, encP, encR] | ((with_reducible refine opK_c ?_); simp -dsimp only [go_sem, ↓reduceIte, reduceCtorEq, Nat.reduceAdd, Nat.reduceMul, Nat.reduceSub, Nat.reduceLeDiff, Nat.reduceLT, Nat.reduceEqDiff, Int.reduceLE, Int.reduceLT, Int.reduceToNat, Int.reduceBEq, Int.reduceBNe, Int.reduceEq, Int.reduceAdd, Int.reduceSub, Int.reduceMul, Int.reduceNeg, Int.cast_ofNat_Int, encB, encP, encR]; first | refine callK_r (by first | assumption | exact hid | exact hf) (by first | exact .inl rfl | exact .inr rfl) ?_ | (refine callK_i (by assumption) ?_ ?_ ?_; (solve | (repeat (first | exact DLe.refl _ | exact DLe.nil _ | (refine DLe.tup ?_) | (refine DLe.agg ?_ rfl) | exact trivial | (refine And.intro ?_ ?_)))); (solve | exact .inl rfl | exact .inr rfl))) | (refine opK_M [] (hbg) ?_ ?_ ?_ ?_ ?_ ?_; (solve | rfl | simp only [go_sem, ↓reduceIte, reduceCtorEq, Nat.reduceAdd, Nat.reduceMul, Nat.reduceSub, Nat.reduceLeDiff, Nat.reduceLT, Nat.reduceEqDiff, Int.reduceLE, Int.reduceLT, Int.reduceToNat, Int.reduceBEq, Int.reduceBNe, Int.reduceEq, Int.reduceAdd, Int.reduceSub, Int.reduceMul, Int.reduceNeg, Int.cast_ofNat_Int, encB]); (solve | rfl); (solve | decide); (solve | simp); (solve | simp only [go_sem, ↓reduceIte, reduceCtorEq, Nat.reduceAdd, Nat.reduceMul, Nat.reduceSub, Nat.reduceLeDiff, Nat.reduceLT, Nat.reduceEqDiff, Int.reduceLE, Int.reduceLT, Int.reduceToNat, Int.reduceBEq, Int.reduceBNe, Int.reduceEq, Int.reduceAdd, Int.reduceSub, Int.reduceMul, Int.reduceNeg, Int.cast_ofNat_Int, lentOK, encB])) | omega | exact decide_eq_true (by omega) | exact DLe.refl _)
        exact (by repeat (first | exact DLe.refl _ | exact DLe.nil _ | (refine DLe.tup ?_) | (refine DLe.agg ?_ rfl) | exact trivial | (refine And.intro ?_ ?_)))
      | some p =>
        obtain ⟨pre, post, hp, rfl⟩ := poolOf_split hq
        have hbg := beginZ_m b pre post p hp hz hc
        have hzb := zipB hp
        have hf := findZ_m hbk hzb hzb.at_
        have hl32 := hbk.l32 p hzb.mem
        have hup := fun f => updB_split hbk.rise hp f
        have hR2 : R = if (poolOf b id).isSome = true then (Bok.zero, Pfx.zero, 6) else if (fitE p size).2 ≠ 0 then (Bok.zero, Pfx.zero, (fitE p size).2) else if ruleOK r (fitE p size).1.len = false then (Bok.zero, Pfx.zero, 1) else
            if b.pools.length = 8 then (Bok.zero, Pfx.zero, 2) else (⟨b.tick, insB ⟨id, p.id, (fitE p size).1, r, []⟩ (pre ++ { p with leases := insL ⟨(fitE p size).1, 2, id, 0⟩ p.leases } :: post)⟩, (fitE p size).1, 0) := by
          rw [hR.out]
          unfold nestR
          rw [if_neg (by simpa using hc), if_neg (by simp [hio]), hq]
          simp only
          rw [hup]
        cases hq2 : poolOf b id with
        | some q =>
          obtain ⟨i, hqi, he⟩ := poolOf_some hq2
          have hf2 := findZ_m hbk hzb hqi
          rw [he] at hf2
          have hr : R = (Bok.zero, Pfx.zero, 6) := by rw [hR2, hq2]; rfl
          rw [hr]
          clear hr hR hR2 hc hio hq hq2 hp hup hzb hqi he
          refine ps_i tab_ok mixed Try.func10 rfl Try.ntmps10 Try.results10 (by kernel_rfl) ?_
          repeat' (first | (with_reducible refine And.intro ?_ ?_) | (with_reducible refine gK_i (fun _ => ?_) (fun _ => ?_)) | (with_reducible refine condS_i (fun _ => ?_) (fun _ => ?_)) | (with_reducible refine drw_i (by kernel_rfl)) | simp -dsimp only [go_sem, ↓reduceIte, reduceCtorEq, Nat.reduceAdd, Nat.reduceMul, Nat.reduceSub, Nat.reduceLeDiff, Nat.reduceLT, Nat.reduceEqDiff, Int.reduceLE, Int.reduceLT, Int.reduceToNat, Int.reduceBEq, Int.reduceBNe, Int.reduceEq, Int.reduceAdd, Int.reduceSub, Int.reduceMul, Int.reduceNeg, Int.cast_ofNat_Int, *, encB, encP, encR, polRow, renR_zip, zipR_get] | ((with_reducible refine opK_c ?_); simp -dsimp only [go_sem, ↓reduceIte, reduceCtorEq, Nat.reduceAdd, Nat.reduceMul, Nat.reduceSub, Nat.reduceLeDiff, Nat.reduceLT, Nat.reduceEqDiff, Int.reduceLE, Int.reduceLT, Int.reduceToNat, Int.reduceBEq, Int.reduceBNe, Int.reduceEq, Int.reduceAdd, Int.reduceSub, Int.reduceMul, Int.reduceNeg, Int.cast_ofNat_Int, encB, encP, encR, polRow, renR_zip, zipR_get]; first | refine callK_r (by first | assumption | exact hid) (by first | exact .inl rfl | exact .inr rfl) ?_ | (refine callK_i (by assumption) ?_ ?_ ?_; (solve | (repeat (first | exact DLe.refl _ | exact DLe.nil _ | (refine DLe.tup ?_) | (refine DLe.agg ?_ rfl) | exact trivial | (refine And.intro ?_ ?_)))); (solve | exact .inl rfl | exact .inr rfl))) | (refine opK_M [] (hbg) ?_ ?_ ?_ ?_ ?_ ?_; (solve | rfl | simp only [go_sem, ↓reduceIte, reduceCtorEq, Nat.reduceAdd, Nat.reduceMul, Nat.reduceSub, Nat.reduceLeDiff, Nat.reduceLT, Nat.reduceEqDiff, Int.reduceLE, Int.reduceLT, Int.reduceToNat, Int.reduceBEq, Int.reduceBNe, Int.reduceEq, Int.reduceAdd, Int.reduceSub, Int.reduceMul, Int.reduceNeg, Int.cast_ofNat_Int, encB, polRow, renR_zip]); (solve | rfl); (solve | decide); (solve | simp); (solve | simp only [go_sem, ↓reduceIte, reduceCtorEq, Nat.reduceAdd, Nat.reduceMul, Nat.reduceSub, Nat.reduceLeDiff, Nat.reduceLT, Nat.reduceEqDiff, Int.reduceLE, Int.reduceLT, Int.reduceToNat, Int.reduceBEq, Int.reduceBNe, Int.reduceEq, Int.reduceAdd, Int.reduceSub, Int.reduceMul, Int.reduceNeg, Int.cast_ofNat_Int, lentOK, encB, polRow, renR_zip])) | (refine opK_M [6, 7, 9] (hf) ?_ ?_ ?_ ?_ ?_ ?_; (solve | rfl | simp only [go_sem, ↓reduceIte, reduceCtorEq, Nat.reduceAdd, Nat.reduceMul, Nat.reduceSub, Nat.reduceLeDiff, Nat.reduceLT, Nat.reduceEqDiff, Int.reduceLE, Int.reduceLT, Int.reduceToNat, Int.reduceBEq, Int.reduceBNe, Int.reduceEq, Int.reduceAdd, Int.reduceSub, Int.reduceMul, Int.reduceNeg, Int.cast_ofNat_Int, encP, polRow, renR_zip]); (solve | rfl); (solve | decide); (solve | simp); (solve | simp only [go_sem, ↓reduceIte, reduceCtorEq, Nat.reduceAdd, Nat.reduceMul, Nat.reduceSub, Nat.reduceLeDiff, Nat.reduceLT, Nat.reduceEqDiff, Int.reduceLE, Int.reduceLT, Int.reduceToNat, Int.reduceBEq, Int.reduceBNe, Int.reduceEq, Int.reduceAdd, Int.reduceSub, Int.reduceMul, Int.reduceNeg, Int.cast_ofNat_Int, lentOK, encP, polRow, renR_zip])) | (refine opK_M [6, 7, 9] (hf2) ?_ ?_ ?_ ?_ ?_ ?_; (solve | rfl | simp only [go_sem, ↓reduceIte, reduceCtorEq, Nat.reduceAdd, Nat.reduceMul, Nat.reduceSub, Nat.reduceLeDiff, Nat.reduceLT, Nat.reduceEqDiff, Int.reduceLE, Int.reduceLT, Int.reduceToNat, Int.reduceBEq, Int.reduceBNe, Int.reduceEq, Int.reduceAdd, Int.reduceSub, Int.reduceMul, Int.reduceNeg, Int.cast_ofNat_Int, encP, polRow, renR_zip]); (solve | rfl); (solve | decide); (solve | simp); (solve | simp only [go_sem, ↓reduceIte, reduceCtorEq, Nat.reduceAdd, Nat.reduceMul, Nat.reduceSub, Nat.reduceLeDiff, Nat.reduceLT, Nat.reduceEqDiff, Int.reduceLE, Int.reduceLT, Int.reduceToNat, Int.reduceBEq, Int.reduceBNe, Int.reduceEq, Int.reduceAdd, Int.reduceSub, Int.reduceMul, Int.reduceNeg, Int.cast_ofNat_Int, lentOK, encP, polRow, renR_zip])) | omega | exact decide_eq_true (by omega) | exact DLe.refl _)
          all_goals exact (by repeat (first | exact DLe.refl _ | exact DLe.nil _ | (refine DLe.tup ?_) | (refine DLe.agg ?_ rfl) | exact trivial | (refine And.intro ?_ ?_)))
        | none =>
          have hf2 := find_p b id (by have := hbk.n8; omega) hbk.rise
          unfold findR at hf2
          rw [hq2] at hf2
          have hft := fit_p p size hl32
          have hru := rule_p r (fitE p size).1
          have hlt := let_m pre post p ⟨(fitE p size).1, 2, id, 0⟩ b.pools.length 1 hl32 (lease_rise (hbk.mem p hzb.mem).2.1)
          have hb8 : (pre ++ { p with leases := insL ⟨(fitE p size).1, 2, id, 0⟩ p.leases } :: post).length ≤ 8 := by
            have := hbk.n8
            rw [hp] at this
            simpa using this
          have hlen : (pre ++ { p with leases := insL ⟨(fitE p size).1, 2, id, 0⟩ p.leases } :: post).length = b.pools.length := by rw [hp]; simp
          have hrs : Rise (pre ++ { p with leases := insL ⟨(fitE p size).1, 2, id, 0⟩ p.leases } :: post) := by
            have := hbk.rise
            rw [hp] at this
            exact rise_upd this rfl
          have hpt := (put_m _ ⟨id, p.id, (fitE p size).1, r, []⟩ b.pools.length (.v (.int .i64 b.tick)) hb8 hrs rfl).lep (args' := [.ptr 0 0, .d (.agg [.v (.int .i64 id), .v (.int .i64 p.id), .v (.int .i64 (fitE p size).1.at_), .v (.int .i64 (fitE p size).1.len), .v (.int .i64 r.min), .v (.int .i64 r.max), .v (.int .i64 r.usual), .v (.int .i64 r.cool), .v (.slice none 0 0)])]) ⟨.inl rfl, .inr ⟨_, _, rfl, rfl, (by repeat (first | exact DLe.refl _ | exact DLe.nil _ | (refine DLe.tup ?_) | (refine DLe.agg ?_ rfl) | exact trivial | (refine And.intro ?_ ?_)))⟩, trivial⟩ rfl
          have hR3 : Hid (R = if (fitE p size).2 ≠ 0 then (Bok.zero, Pfx.zero, (fitE p size).2) else if ruleOK r (fitE p size).1.len = false then (Bok.zero, Pfx.zero, 1) else
            if b.pools.length = 8 then (Bok.zero, Pfx.zero, 2) else (⟨b.tick, insB ⟨id, p.id, (fitE p size).1, r, []⟩ (pre ++ { p with leases := insL ⟨(fitE p size).1, 2, id, 0⟩ p.leases } :: post)⟩, (fitE p size).1, 0)) := by
            show R = _
            rw [hR2, hq2]; rfl
          have hvq : viewR (viewF (hatL [.gone]) 0) [] = some [] := rfl
          clear hR hR2 hc hio hq hq2 hup hb8 hrs hvq hlen
          have hR2 := hR3
          clear hR3
          have hpeq := Lib.hid hp
          have hvw := hzb.view
          simp only [viewR_zip, polRow, viewL, viewF, hatL, viewR_d, if_true, Option.map_some] at hvw
          clear hzb
          have he : encB b = [.v (.int .i64 b.tick), .sl 9 (List.map encPol pre ++ encPol p :: List.map encPol post)] := by unfold encB; rw [hp, List.map_append, List.map_cons]
          rw [he] at hf2
          have hzl : ∀ r, (zipR pre r post).length = b.pools.length := fun r => by rw [zipR_len, hp]; simp; omega
          clear hp hvw he
          refine ps_i tab_ok mixed Try.func10 rfl Try.ntmps10 Try.results10 (by kernel_rfl) ?_
          repeat' (first | (with_reducible refine And.intro ?_ ?_) | (with_reducible refine gK_i (fun _ => ?_) (fun _ => ?_)) | (with_reducible refine condS_i (fun _ => ?_) (fun _ => ?_)) | (with_reducible refine drw_i (by kernel_rfl)) | simp -dsimp only [go_sem, ↓reduceIte, reduceCtorEq, Nat.reduceAdd, Nat.reduceMul, Nat.reduceSub, Nat.reduceLeDiff, Nat.reduceLT, Nat.reduceEqDiff, Int.reduceLE, Int.reduceLT, Int.reduceToNat, Int.reduceBEq, Int.reduceBNe, Int.reduceEq, Int.reduceAdd, Int.reduceSub, Int.reduceMul, Int.reduceNeg, Int.cast_ofNat_Int, *, encB, encP, encR, encL, polRow, renR_zip, zipR_get, viewR_zip, hzl] | ((with_reducible refine opK_c ?_); simp -dsimp only [go_sem, ↓reduceIte, reduceCtorEq, Nat.reduceAdd, Nat.reduceMul, Nat.reduceSub, Nat.reduceLeDiff, Nat.reduceLT, Nat.reduceEqDiff, Int.reduceLE, Int.reduceLT, Int.reduceToNat, Int.reduceBEq, Int.reduceBNe, Int.reduceEq, Int.reduceAdd, Int.reduceSub, Int.reduceMul, Int.reduceNeg, Int.cast_ofNat_Int, encB, encP, encR, encL, polRow, renR_zip, zipR_get, viewR_zip, hzl]; first | refine callK_r (by first | assumption | exact hid | exact hf2 | exact hft | exact hru) (by first | exact .inl rfl | exact .inr rfl) ?_ | (refine callK_i (by assumption) ?_ ?_ ?_; (solve | (repeat (first | exact DLe.refl _ | exact DLe.nil _ | (refine DLe.tup ?_) | (refine DLe.agg ?_ rfl) | exact trivial | (refine And.intro ?_ ?_)))); (solve | exact .inl rfl | exact .inr rfl))) | (refine opK_M [] (hbg) ?_ ?_ ?_ ?_ ?_ ?_; (solve | rfl | simp only [go_sem, ↓reduceIte, reduceCtorEq, Nat.reduceAdd, Nat.reduceMul, Nat.reduceSub, Nat.reduceLeDiff, Nat.reduceLT, Nat.reduceEqDiff, Int.reduceLE, Int.reduceLT, Int.reduceToNat, Int.reduceBEq, Int.reduceBNe, Int.reduceEq, Int.reduceAdd, Int.reduceSub, Int.reduceMul, Int.reduceNeg, Int.cast_ofNat_Int, encB, polRow, renR_zip]); (solve | rfl); (solve | decide); (solve | simp); (solve | simp only [go_sem, ↓reduceIte, reduceCtorEq, Nat.reduceAdd, Nat.reduceMul, Nat.reduceSub, Nat.reduceLeDiff, Nat.reduceLT, Nat.reduceEqDiff, Int.reduceLE, Int.reduceLT, Int.reduceToNat, Int.reduceBEq, Int.reduceBNe, Int.reduceEq, Int.reduceAdd, Int.reduceSub, Int.reduceMul, Int.reduceNeg, Int.cast_ofNat_Int, lentOK, encB, polRow, renR_zip])) | (refine opK_M [6, 7, 9] (hf) ?_ ?_ ?_ ?_ ?_ ?_; (solve | rfl | simp only [go_sem, ↓reduceIte, reduceCtorEq, Nat.reduceAdd, Nat.reduceMul, Nat.reduceSub, Nat.reduceLeDiff, Nat.reduceLT, Nat.reduceEqDiff, Int.reduceLE, Int.reduceLT, Int.reduceToNat, Int.reduceBEq, Int.reduceBNe, Int.reduceEq, Int.reduceAdd, Int.reduceSub, Int.reduceMul, Int.reduceNeg, Int.cast_ofNat_Int, encP, polRow, renR_zip]); (solve | rfl); (solve | decide); (solve | simp); (solve | simp only [go_sem, ↓reduceIte, reduceCtorEq, Nat.reduceAdd, Nat.reduceMul, Nat.reduceSub, Nat.reduceLeDiff, Nat.reduceLT, Nat.reduceEqDiff, Int.reduceLE, Int.reduceLT, Int.reduceToNat, Int.reduceBEq, Int.reduceBNe, Int.reduceEq, Int.reduceAdd, Int.reduceSub, Int.reduceMul, Int.reduceNeg, Int.cast_ofNat_Int, lentOK, encP, polRow, renR_zip])) | (refine opK_M [7, 9] (hlt) ?_ ?_ ?_ ?_ ?_ ?_; (solve | rfl | simp only [go_sem, ↓reduceIte, reduceCtorEq, Nat.reduceAdd, Nat.reduceMul, Nat.reduceSub, Nat.reduceLeDiff, Nat.reduceLT, Nat.reduceEqDiff, Int.reduceLE, Int.reduceLT, Int.reduceToNat, Int.reduceBEq, Int.reduceBNe, Int.reduceEq, Int.reduceAdd, Int.reduceSub, Int.reduceMul, Int.reduceNeg, Int.cast_ofNat_Int, encP, encL, polRow, renR_zip]); (solve | rfl); (solve | decide); (solve | simp); (solve | simp only [go_sem, ↓reduceIte, reduceCtorEq, Nat.reduceAdd, Nat.reduceMul, Nat.reduceSub, Nat.reduceLeDiff, Nat.reduceLT, Nat.reduceEqDiff, Int.reduceLE, Int.reduceLT, Int.reduceToNat, Int.reduceBEq, Int.reduceBNe, Int.reduceEq, Int.reduceAdd, Int.reduceSub, Int.reduceMul, Int.reduceNeg, Int.cast_ofNat_Int, lentOK, encP, encL, polRow, renR_zip])) | (refine opK_M [6, 7] (hpt) ?_ ?_ ?_ ?_ ?_ ?_; (solve | rfl | simp only [go_sem, ↓reduceIte, reduceCtorEq, Nat.reduceAdd, Nat.reduceMul, Nat.reduceSub, Nat.reduceLeDiff, Nat.reduceLT, Nat.reduceEqDiff, Int.reduceLE, Int.reduceLT, Int.reduceToNat, Int.reduceBEq, Int.reduceBNe, Int.reduceEq, Int.reduceAdd, Int.reduceSub, Int.reduceMul, Int.reduceNeg, Int.cast_ofNat_Int, encP]); (solve | rfl); (solve | decide); (solve | simp); (solve | simp only [go_sem, ↓reduceIte, reduceCtorEq, Nat.reduceAdd, Nat.reduceMul, Nat.reduceSub, Nat.reduceLeDiff, Nat.reduceLT, Nat.reduceEqDiff, Int.reduceLE, Int.reduceLT, Int.reduceToNat, Int.reduceBEq, Int.reduceBNe, Int.reduceEq, Int.reduceAdd, Int.reduceSub, Int.reduceMul, Int.reduceNeg, Int.cast_ofNat_Int, lentOK, encP])) | omega | exact decide_eq_true (by omega) | exact DLe.refl _)
          all_goals clear hf hf2 hid hft hru hlt hpt hbg hz
          all_goals first
            | (rw [show R = (Bok.zero, Pfx.zero, (fitE p size).2) from (by rw [hR2.out]; grind)]; (try simp only [List.map_append, List.map_cons]); exact (by repeat (first | exact DLe.refl _ | exact DLe.nil _ | (refine DLe.tup ?_) | (refine DLe.agg ?_ rfl) | exact trivial | (refine And.intro ?_ ?_))))
            | (rw [show R = (Bok.zero, Pfx.zero, 1) from (by rw [hR2.out]; grind)]; (try simp only [List.map_append, List.map_cons]); exact (by repeat (first | exact DLe.refl _ | exact DLe.nil _ | (refine DLe.tup ?_) | (refine DLe.agg ?_ rfl) | exact trivial | (refine And.intro ?_ ?_))))
            | (rw [show R = (Bok.zero, Pfx.zero, 2) from (by rw [hR2.out]; grind)]; (try simp only [List.map_append, List.map_cons]); exact (by repeat (first | exact DLe.refl _ | exact DLe.nil _ | (refine DLe.tup ?_) | (refine DLe.agg ?_ rfl) | exact trivial | (refine And.intro ?_ ?_))))
            | (rw [show R = (⟨b.tick, insB ⟨id, p.id, (fitE p size).1, r, []⟩ (pre ++ { p with leases := insL ⟨(fitE p size).1, 2, id, 0⟩ p.leases } :: post)⟩, (fitE p size).1, 0) from (by rw [hR2.out]; grind)]; (try simp only [List.map_append, List.map_cons]); exact (by repeat (first | exact DLe.refl _ | exact DLe.nil _ | (refine DLe.tup ?_) | (refine DLe.agg ?_ rfl) | exact trivial | (refine And.intro ?_ ?_))))
  · have hbg := beginE_p b hz hc
    have h1 : (chkBk b != 0) = true := by simpa using hc
    have hr : R = (Bok.zero, Pfx.zero, chkBk b) := by rw [hR.out]; unfold nestR; rw [if_pos hc]
    rw [hr]
    replace hr := Lib.hid hr
    refine ps_i tab_ok mixed Try.func10 rfl Try.ntmps10 Try.results10 (by kernel_rfl) ?_
    repeat' (first | (with_reducible refine And.intro ?_ ?_) | (with_reducible refine gK_i (fun _ => ?_) (fun _ => ?_)) | (with_reducible refine condS_i (fun _ => ?_) (fun _ => ?_)) | (with_reducible refine drw_i (by kernel_rfl)) | simp -dsimp only [go_sem, ↓reduceIte, reduceCtorEq, Nat.reduceAdd, Nat.reduceMul, Nat.reduceSub, Nat.reduceLeDiff, Nat.reduceLT, Nat.reduceEqDiff, Int.reduceLE, Int.reduceLT, Int.reduceToNat, Int.reduceBEq, Int.reduceBNe, Int.reduceEq, Int.reduceAdd, Int.reduceSub, Int.reduceMul, Int.reduceNeg, Int.cast_ofNat_Int, *, encB, encP, encR, h1] | ((with_reducible refine opK_c ?_); simp -dsimp only [go_sem, ↓reduceIte, reduceCtorEq, Nat.reduceAdd, Nat.reduceMul, Nat.reduceSub, Nat.reduceLeDiff, Nat.reduceLT, Nat.reduceEqDiff, Int.reduceLE, Int.reduceLT, Int.reduceToNat, Int.reduceBEq, Int.reduceBNe, Int.reduceEq, Int.reduceAdd, Int.reduceSub, Int.reduceMul, Int.reduceNeg, Int.cast_ofNat_Int, encB, encP, encR, h1]; first | refine callK_r (by first | assumption | exact hbg) (by first | exact .inl rfl | exact .inr rfl) ?_ | (refine callK_i (by assumption) ?_ ?_ ?_; (solve | (repeat (first | exact DLe.refl _ | exact DLe.nil _ | (refine DLe.tup ?_) | (refine DLe.agg ?_ rfl) | exact trivial | (refine And.intro ?_ ?_)))); (solve | exact .inl rfl | exact .inr rfl))) | fail | omega | exact decide_eq_true (by omega) | exact DLe.refl _)
    exact (by repeat (first | exact DLe.refl _ | exact DLe.nil _ | (refine DLe.tup ?_) | (refine DLe.agg ?_ rfl) | exact trivial | (refine And.intro ?_ ?_)))
end Go.Proofs.Ytbeocackphfijaa
namespace Go.Proofs.Ytbeocackphfijaa
open Go Go.RowKit
theorem close1_p (l : Lse) : PSpec Try.prog 67 [.agg (encL l)] (.v (.bool (l.kind != 3))) := by
  refine ps_i tab_ok mixed Try.func67 rfl Try.ntmps67 Try.results67 (by kernel_rfl) ?_
  repeat' (first | (with_reducible refine And.intro ?_ ?_) | (with_reducible refine gK_i (fun _ => ?_) (fun _ => ?_)) | (with_reducible refine condS_i (fun _ => ?_) (fun _ => ?_)) | (with_reducible refine drw_i (by kernel_rfl)) | simp -dsimp only [go_sem, ↓reduceIte, reduceCtorEq, Nat.reduceAdd, Nat.reduceMul, Nat.reduceSub, Nat.reduceLeDiff, Nat.reduceLT, Nat.reduceEqDiff, Int.reduceLE, Int.reduceLT, Int.reduceToNat, Int.reduceBEq, Int.reduceBNe, Int.reduceEq, Int.reduceAdd, Int.reduceSub, Int.reduceMul, Int.reduceNeg, Int.cast_ofNat_Int, *, encL] | ((with_reducible refine opK_c ?_); simp -dsimp only [go_sem, ↓reduceIte, reduceCtorEq, Nat.reduceAdd, Nat.reduceMul, Nat.reduceSub, Nat.reduceLeDiff, Nat.reduceLT, Nat.reduceEqDiff, Int.reduceLE, Int.reduceLT, Int.reduceToNat, Int.reduceBEq, Int.reduceBNe, Int.reduceEq, Int.reduceAdd, Int.reduceSub, Int.reduceMul, Int.reduceNeg, Int.cast_ofNat_Int, encL]; first | refine callK_r (by first | assumption | fail) (by first | exact .inl rfl | exact .inr rfl) ?_ | (refine callK_i (by assumption) ?_ ?_ ?_; (solve | (repeat (first | exact DLe.refl _ | exact DLe.nil _ | (refine DLe.tup ?_) | (refine DLe.agg ?_ rfl) | exact trivial | (refine And.intro ?_ ?_)))); (solve | exact .inl rfl | exact .inr rfl))) | fail | omega | exact decide_eq_true (by omega) | exact DLe.refl _)
theorem close2_p (l : Lse) (id : Int) : PSpec Try.prog 68 [.agg (encL l), .ept [.v (.int .i64 id)]] (.v (.bool (forB id l))) := by
  unfold forB
  refine ps_i tab_ok mixed Try.func68 rfl Try.ntmps68 Try.results68 (by kernel_rfl) ?_
  repeat' (first | (with_reducible refine And.intro ?_ ?_) | (with_reducible refine gK_i (fun _ => ?_) (fun _ => ?_)) | (with_reducible refine condS_i (fun _ => ?_) (fun _ => ?_)) | (with_reducible refine drw_i (by kernel_rfl)) | simp -dsimp only [go_sem, ↓reduceIte, reduceCtorEq, Nat.reduceAdd, Nat.reduceMul, Nat.reduceSub, Nat.reduceLeDiff, Nat.reduceLT, Nat.reduceEqDiff, Int.reduceLE, Int.reduceLT, Int.reduceToNat, Int.reduceBEq, Int.reduceBNe, Int.reduceEq, Int.reduceAdd, Int.reduceSub, Int.reduceMul, Int.reduceNeg, Int.cast_ofNat_Int, *, encL] | ((with_reducible refine opK_c ?_); simp -dsimp only [go_sem, ↓reduceIte, reduceCtorEq, Nat.reduceAdd, Nat.reduceMul, Nat.reduceSub, Nat.reduceLeDiff, Nat.reduceLT, Nat.reduceEqDiff, Int.reduceLE, Int.reduceLT, Int.reduceToNat, Int.reduceBEq, Int.reduceBNe, Int.reduceEq, Int.reduceAdd, Int.reduceSub, Int.reduceMul, Int.reduceNeg, Int.cast_ofNat_Int, encL]; first | refine callK_r (by first | assumption | fail) (by first | exact .inl rfl | exact .inr rfl) ?_ | (refine callK_i (by assumption) ?_ ?_ ?_; (solve | (repeat (first | exact DLe.refl _ | exact DLe.nil _ | (refine DLe.tup ?_) | (refine DLe.agg ?_ rfl) | exact trivial | (refine And.intro ?_ ?_)))); (solve | exact .inl rfl | exact .inr rfl))) | fail | omega | exact decide_eq_true (by omega) | exact DLe.refl _)
theorem close3_p (p : Pol) (id : Int) : PSpec Try.prog 70 [.agg (encPol p), .ept [.v (.int .i64 id)]] (.v (.bool (p.id == id))) := by
  refine ps_i tab_ok mixed Try.func70 rfl Try.ntmps70 Try.results70 (by kernel_rfl) ?_
  repeat' (first | (with_reducible refine And.intro ?_ ?_) | (with_reducible refine gK_i (fun _ => ?_) (fun _ => ?_)) | (with_reducible refine condS_i (fun _ => ?_) (fun _ => ?_)) | (with_reducible refine drw_i (by kernel_rfl)) | simp -dsimp only [go_sem, ↓reduceIte, reduceCtorEq, Nat.reduceAdd, Nat.reduceMul, Nat.reduceSub, Nat.reduceLeDiff, Nat.reduceLT, Nat.reduceEqDiff, Int.reduceLE, Int.reduceLT, Int.reduceToNat, Int.reduceBEq, Int.reduceBNe, Int.reduceEq, Int.reduceAdd, Int.reduceSub, Int.reduceMul, Int.reduceNeg, Int.cast_ofNat_Int, *, encPol] | ((with_reducible refine opK_c ?_); simp -dsimp only [go_sem, ↓reduceIte, reduceCtorEq, Nat.reduceAdd, Nat.reduceMul, Nat.reduceSub, Nat.reduceLeDiff, Nat.reduceLT, Nat.reduceEqDiff, Int.reduceLE, Int.reduceLT, Int.reduceToNat, Int.reduceBEq, Int.reduceBNe, Int.reduceEq, Int.reduceAdd, Int.reduceSub, Int.reduceMul, Int.reduceNeg, Int.cast_ofNat_Int, encPol]; first | refine callK_r (by first | assumption | fail) (by first | exact .inl rfl | exact .inr rfl) ?_ | (refine callK_i (by assumption) ?_ ?_ ?_; (solve | (repeat (first | exact DLe.refl _ | exact DLe.nil _ | (refine DLe.tup ?_) | (refine DLe.agg ?_ rfl) | exact trivial | (refine And.intro ?_ ?_)))); (solve | exact .inl rfl | exact .inr rfl))) | fail | omega | exact decide_eq_true (by omega) | exact DLe.refl _)
/-- The pools, when one is closed. -/
def closeL (b : Bok) (p : Pol) : List Pol := match poolOf b p.up with
  | none => b.pools
  | some u => match u.leases.findIdx? (forB p.id) with
    | some i => (updB b u.id fun u => { u with leases := coolL u i b.tick }).pools
    | none => b.pools
/-- Close's answer. -/
def closeR (b : Bok) (id : Int) : Bok × Int :=
  if chkBk b ≠ 0 then (Bok.zero, chkBk b) else
  match poolOf b id with
  | none => (Bok.zero, 5)
  | some p => if (p.leases.any fun l => l.kind != 3) = true then (Bok.zero, 9) else (⟨b.tick, (closeL b p).filter fun q => !(q.id == id)⟩, 0)
theorem second_mem {b : Bok} : ∀ (l : List Pol) (roots : List Pfx), secondOK b l roots = true → ∀ p ∈ l, upOK b b.pools.length p = true ∧ ∀ l ∈ p.leases, leaseOK b p l = true
  | [], _, _, p, hp => by simp at hp
  | q :: l, roots, h, p, hp => by
    simp only [secondOK, Bool.and_eq_true] at h
    rcases List.mem_cons.1 hp with rfl | hp
    · exact ⟨h.1.1, fun l hl => List.all_eq_true.1 h.1.2 l hl⟩
    · have h2 := h.2
      split at h2
      · simp only [Bool.and_eq_true] at h2
        exact second_mem l _ h2.2 p hp
      · exact second_mem l _ h2 p hp
theorem up_self {b : Bok} {p : Pol} (hp : poolOf b p.id = some p) (h1 : p.id ≠ 0) (he : p.up = p.id) : ∀ n, upOK b n p = false
  | 0 => by simp [upOK, he, h1]
  | n + 1 => by simp [upOK, he, h1, hp, up_self hp h1 he n]
theorem upOK_up {b : Bok} {n : Nat} {p u : Pol} (h : upOK b n p = true) (h0 : p.up ≠ 0) (hu : poolOf b p.up = some u) : u.leases.any (forB p.id) = true := by
  cases n with
  | zero => simp [upOK, h0] at h
  | succ n =>
    simp only [upOK, hu, Bool.or_eq_true, Bool.and_eq_true, beq_iff_eq] at h
    rcases h with h | h
    · exact absurd h h0
    · exact h.1
theorem zipR_other {pre post : List Pol} {p q : Pol} {r : List PV} {i : Nat} (h : (pre ++ p :: post)[i]? = some q) (hne : i ≠ pre.length) : (zipR pre r post)[i]? = some ((encPol q).map .d) := by
  unfold zipR
  rcases Nat.lt_trichotomy i pre.length with hlt | he | hgt
  · rw [List.getElem?_append_left hlt] at h
    rw [List.getElem?_append_left (by rw [dRows_len, List.length_map]; exact hlt), dRows_get, List.getElem?_map, h]; rfl
  · exact absurd he hne
  · rw [List.getElem?_append_right (by omega)] at h
    rw [List.getElem?_append_right (by rw [dRows_len, List.length_map]; omega), dRows_len, List.length_map]
    obtain ⟨j, hj⟩ : ∃ j, i - pre.length = j + 1 := ⟨i - pre.length - 1, by omega⟩
    rw [hj, List.getElem?_cons_succ] at h ⊢
    rw [dRows_get, List.getElem?_map, h]; rfl
set_option maxRecDepth 100000 in
set_option maxHeartbeats 1000000 in
theorem close_p (b : Bok) (id : Int) (hz : ∀ p ∈ b.pools, p.leases.length ≤ 3518437208882) : PSpec Try.prog 21 [.agg (encB b), .v (.int .i64 id)] (.tup [.agg (encB (closeR b id).1), .v (.int .i64 (closeR b id).2)]) := by
  obtain ⟨R, hR⟩ : ∃ R, R = closeR b id := ⟨_, rfl⟩
  rw [← hR]
  replace hR := Lib.hid hR
  by_cases hc : chkBk b = 0
  · have hbk := bookOK hc
    cases hq : poolOf b id with
    | none =>
      have hbg := beginD_m b hz hc
      have hf := find_p b id (by have := hbk.n8; omega) hbk.rise
      unfold findR at hf
      rw [hq] at hf
      have hr : R = (Bok.zero, 5) := by rw [hR.out]; unfold closeR; rw [if_neg (by simpa using hc), hq]
      rw [hr]
      clear hr hR hc hq
      refine ps_i tab_ok mixed Try.func21 rfl Try.ntmps21 Try.results21 (by kernel_rfl) ?_
      repeat' (first | (with_reducible refine And.intro ?_ ?_) | (with_reducible refine gK_i (fun _ => ?_) (fun _ => ?_)) | (with_reducible refine condS_i (fun _ => ?_) (fun _ => ?_)) | (with_reducible refine drw_i (by kernel_rfl)) | simp -dsimp only [go_sem, ↓reduceIte, reduceCtorEq, Nat.reduceAdd, Nat.reduceMul, Nat.reduceSub, Nat.reduceLeDiff, Nat.reduceLT, Nat.reduceEqDiff, Int.reduceLE, Int.reduceLT, Int.reduceToNat, Int.reduceBEq, Int.reduceBNe, Int.reduceEq, Int.reduceAdd, Int.reduceSub, Int.reduceMul, Int.reduceNeg, Int.cast_ofNat_Int, *, encB, encP] | ((with_reducible refine opK_c ?_); simp -dsimp only [go_sem, ↓reduceIte, reduceCtorEq, Nat.reduceAdd, Nat.reduceMul, Nat.reduceSub, Nat.reduceLeDiff, Nat.reduceLT, Nat.reduceEqDiff, Int.reduceLE, Int.reduceLT, Int.reduceToNat, Int.reduceBEq, Int.reduceBNe, Int.reduceEq, Int.reduceAdd, Int.reduceSub, Int.reduceMul, Int.reduceNeg, Int.cast_ofNat_Int, encB, encP]; first | refine callK_r (by first | assumption | exact hf) (by first | exact .inl rfl | exact .inr rfl) ?_ | (refine callK_i (by assumption) ?_ ?_ ?_; (solve | (repeat (first | exact DLe.refl _ | exact DLe.nil _ | (refine DLe.tup ?_) | (refine DLe.agg ?_ rfl) | exact trivial | (refine And.intro ?_ ?_)))); (solve | exact .inl rfl | exact .inr rfl))) | (refine opK_M [] (hbg) ?_ ?_ ?_ ?_ ?_ ?_; (solve | rfl | simp only [go_sem, ↓reduceIte, reduceCtorEq, Nat.reduceAdd, Nat.reduceMul, Nat.reduceSub, Nat.reduceLeDiff, Nat.reduceLT, Nat.reduceEqDiff, Int.reduceLE, Int.reduceLT, Int.reduceToNat, Int.reduceBEq, Int.reduceBNe, Int.reduceEq, Int.reduceAdd, Int.reduceSub, Int.reduceMul, Int.reduceNeg, Int.cast_ofNat_Int, encB]); (solve | rfl); (solve | decide); (solve | simp); (solve | simp only [go_sem, ↓reduceIte, reduceCtorEq, Nat.reduceAdd, Nat.reduceMul, Nat.reduceSub, Nat.reduceLeDiff, Nat.reduceLT, Nat.reduceEqDiff, Int.reduceLE, Int.reduceLT, Int.reduceToNat, Int.reduceBEq, Int.reduceBNe, Int.reduceEq, Int.reduceAdd, Int.reduceSub, Int.reduceMul, Int.reduceNeg, Int.cast_ofNat_Int, lentOK, encB])) | omega | exact decide_eq_true (by omega) | exact DLe.refl _)
      exact (by repeat (first | exact DLe.refl _ | exact DLe.nil _ | (refine DLe.tup ?_) | (refine DLe.agg ?_ rfl) | exact trivial | (refine And.intro ?_ ?_)))
    | some p =>
      obtain ⟨i, hpi, rfl⟩ := poolOf_some hq
      have hpm : p ∈ b.pools := List.mem_of_getElem? hpi
      have hl32 := hbk.l32 p hpm
      have hcn := cntf_Lease encL_len (fun l => l.kind != 3) p.leases 67 [] (by omega) (fun l _ => close1_p l)
      have hR2 : R = if (p.leases.any fun l => l.kind != 3) = true then (Bok.zero, 9) else (⟨b.tick, (closeL b p).filter fun q => !(q.id == p.id)⟩, 0) := by
        rw [hR.out]; unfold closeR; rw [if_neg (by simpa using hc), hq]
      replace hR2 := Lib.hid hR2
      cases hu : poolOf b p.up with
      | none =>
        have hbg := beginD_m b hz hc
        have hf := find_m b i p b.pools.length (dRows (b.pools.map encPol)) [] (.d (.v (.int .i64 b.tick))) hpi hbk.rise hbk.n8 (by simp [dRows_len]) (viewR_d _ _ _) (belowR_d _ _) rfl rfl
        have hf2 := find_p b p.up (by have := hbk.n8; omega) hbk.rise
        unfold findR at hf2
        rw [hu] at hf2
        have hcl : closeL b p = b.pools := by unfold closeL; rw [hu]
        have hR2 := hR2.out
        rw [hcl] at hR2
        have h8 := hbk.n8
        replace hR2 := Lib.hid hR2
        clear hq hu hcl hR hc
        refine ps_i tab_ok mixed Try.func21 rfl Try.ntmps21 Try.results21 (by kernel_rfl) ?_
        repeat' (first | (with_reducible refine And.intro ?_ ?_) | (with_reducible refine gK_i (fun _ => ?_) (fun _ => ?_)) | (with_reducible refine condS_i (fun _ => ?_) (fun _ => ?_)) | (with_reducible refine drw_i (by kernel_rfl)) | simp -dsimp only [go_sem, ↓reduceIte, reduceCtorEq, Nat.reduceAdd, Nat.reduceMul, Nat.reduceSub, Nat.reduceLeDiff, Nat.reduceLT, Nat.reduceEqDiff, Int.reduceLE, Int.reduceLT, Int.reduceToNat, Int.reduceBEq, Int.reduceBNe, Int.reduceEq, Int.reduceAdd, Int.reduceSub, Int.reduceMul, Int.reduceNeg, Int.cast_ofNat_Int, *, encB, encP, encPol, hpi] | ((with_reducible refine opK_c ?_); simp -dsimp only [go_sem, ↓reduceIte, reduceCtorEq, Nat.reduceAdd, Nat.reduceMul, Nat.reduceSub, Nat.reduceLeDiff, Nat.reduceLT, Nat.reduceEqDiff, Int.reduceLE, Int.reduceLT, Int.reduceToNat, Int.reduceBEq, Int.reduceBNe, Int.reduceEq, Int.reduceAdd, Int.reduceSub, Int.reduceMul, Int.reduceNeg, Int.cast_ofNat_Int, encB, encP, encPol, hpi]; first | refine callK_r (by first | assumption | exact hcn | exact hf2) (by first | exact .inl rfl | exact .inr rfl) ?_ | (refine callK_i (by assumption) ?_ ?_ ?_; (solve | (repeat (first | exact DLe.refl _ | exact DLe.nil _ | (refine DLe.tup ?_) | (refine DLe.agg ?_ rfl) | exact trivial | (refine And.intro ?_ ?_)))); (solve | exact .inl rfl | exact .inr rfl))) | (refine opK_M [] (hbg) ?_ ?_ ?_ ?_ ?_ ?_; (solve | rfl | simp only [go_sem, ↓reduceIte, reduceCtorEq, Nat.reduceAdd, Nat.reduceMul, Nat.reduceSub, Nat.reduceLeDiff, Nat.reduceLT, Nat.reduceEqDiff, Int.reduceLE, Int.reduceLT, Int.reduceToNat, Int.reduceBEq, Int.reduceBNe, Int.reduceEq, Int.reduceAdd, Int.reduceSub, Int.reduceMul, Int.reduceNeg, Int.cast_ofNat_Int, encB]); (solve | rfl); (solve | decide); (solve | simp); (solve | simp only [go_sem, ↓reduceIte, reduceCtorEq, Nat.reduceAdd, Nat.reduceMul, Nat.reduceSub, Nat.reduceLeDiff, Nat.reduceLT, Nat.reduceEqDiff, Int.reduceLE, Int.reduceLT, Int.reduceToNat, Int.reduceBEq, Int.reduceBNe, Int.reduceEq, Int.reduceAdd, Int.reduceSub, Int.reduceMul, Int.reduceNeg, Int.cast_ofNat_Int, lentOK, encB])) | (refine opK_M [5, 6] (hf) ?_ ?_ ?_ ?_ ?_ ?_; (solve | rfl | simp only [go_sem, ↓reduceIte, reduceCtorEq, Nat.reduceAdd, Nat.reduceMul, Nat.reduceSub, Nat.reduceLeDiff, Nat.reduceLT, Nat.reduceEqDiff, Int.reduceLE, Int.reduceLT, Int.reduceToNat, Int.reduceBEq, Int.reduceBNe, Int.reduceEq, Int.reduceAdd, Int.reduceSub, Int.reduceMul, Int.reduceNeg, Int.cast_ofNat_Int, encB]); (solve | rfl); (solve | decide); (solve | simp); (solve | simp only [go_sem, ↓reduceIte, reduceCtorEq, Nat.reduceAdd, Nat.reduceMul, Nat.reduceSub, Nat.reduceLeDiff, Nat.reduceLT, Nat.reduceEqDiff, Int.reduceLE, Int.reduceLT, Int.reduceToNat, Int.reduceBEq, Int.reduceBNe, Int.reduceEq, Int.reduceAdd, Int.reduceSub, Int.reduceMul, Int.reduceNeg, Int.cast_ofNat_Int, lentOK, encB])) | (refine opK_W (delf_Pool (fun q => q.id == p.id) b.pools 6 _ _ _ _ rfl rfl ?_ ?_ ⟨[.ept [.v (.int .i64 p.id)]], rfl, fun x _ => close3_p x p.id⟩ (fun m c => ⟨[.ept [.v (.int .i64 p.id)]], rfl, fun x _ => close3_p x p.id⟩)) ?_) | omega | exact decide_eq_true (by omega) | exact DLe.refl _)
        all_goals first
          | first | rfl | simp only [belowH, belowE, belowC, belowL, belowR, belowP, belowL_d, belowR_d, belowR_zip, polRow, List.length_cons, List.length_nil, Nat.reduceAdd, Nat.reduceLT, decide_true, Bool.and_self, Bool.and_true]
          | omega
          | (rw [show R = (Bok.zero, 9) from (by rw [hR2.out]; grind)]; (try simp only [List.map_append, List.map_cons]); exact (by repeat (first | exact DLe.refl _ | exact DLe.nil _ | (refine DLe.tup ?_) | (refine DLe.agg ?_ rfl) | exact trivial | (refine And.intro ?_ ?_))))
          | (rw [show R = (⟨b.tick, b.pools.filter fun q => !(q.id == p.id)⟩, 0) from (by rw [hR2.out]; grind)]; (try simp only [List.map_append, List.map_cons]); exact (by repeat (first | exact DLe.refl _ | exact DLe.nil _ | (refine DLe.tup ?_) | (refine DLe.agg ?_ rfl) | exact trivial | (refine And.intro ?_ ?_))))
      | some u =>
        obtain ⟨pre, post, hp, hue⟩ := poolOf_split hu
        have hbg := beginZ_m b pre post u hp hz hc
        have hzb := zipB hp
        have hne : i ≠ pre.length := by
          rintro rfl
          have := hzb.at_
          rw [hpi] at this
          obtain rfl := Option.some.inj this
          have h1 := (second_mem _ _ hbk.second p hpm).1
          have h2 := up_self hq (by have := (hbk.mem p hpm).1; rintro h; rw [h] at this; simp [idOK] at this) hue.symm b.pools.length
          rw [h2] at h1; exact absurd h1 (by simp)
        have hf := findZ_m hbk hzb hpi
        have hf2 := findZ_m hbk hzb hzb.at_
        rw [hue] at hf2
        have hzo := fun r => zipR_other (r := r) (by rw [← hp]; exact hpi) hne
        have hu32 := hbk.l32 u hzb.mem
        have hany := upOK_up (second_mem _ _ hbk.second p hpm).1 (by have := (hbk.mem u hzb.mem).1; rintro h; rw [← hue] at h; rw [h] at this; simp [idOK] at this) hu
        have hix := idxf_Lease encL_len (forB p.id) u.leases 68 [.ept [.v (.int .i64 p.id)]] (by omega) (fun l _ => close2_p l p.id)
        obtain ⟨j, hj⟩ : ∃ j, u.leases.findIdx? (forB p.id) = some j := by
          cases hj : u.leases.findIdx? (forB p.id) with
          | some j => exact ⟨j, rfl⟩
          | none =>
            rw [List.findIdx?_eq_none_iff] at hj
            obtain ⟨x, hx, hx2⟩ := List.any_eq_true.1 hany
            rw [hj x hx] at hx2; exact absurd hx2 (by simp)
        unfold idxI at hix
        rw [hj] at hix
        have hji : j < u.leases.length := (List.findIdx?_eq_some_iff_getElem.1 hj).1
        have hcl := cool_m pre post u j b.pools.length 1 b.tick hji hu32 (rule_cool (hbk.mem u hzb.mem).2.2) hbk.tick
        have hcL : closeL b p = pre ++ { u with leases := coolL u j b.tick } :: post := by
          unfold closeL; rw [hu]; simp only; rw [hj]; simp only; rw [updB_split hbk.rise hp]
        have hR2 := hR2.out
        rw [hcL] at hR2
        replace hR2 := Lib.hid hR2
        have h8 := hbk.n8
        have hlen : (pre ++ { u with leases := coolL u j b.tick } :: post).length ≤ 1000000000 := by
          rw [hp] at h8
          simp at h8 ⊢; omega
        clear hq hu hue hR hc hcL hany hj hpi hp hzb h8 hbk hne hpm
        refine ps_i tab_ok mixed Try.func21 rfl Try.ntmps21 Try.results21 (by kernel_rfl) ?_
        repeat' (first | (with_reducible refine And.intro ?_ ?_) | (with_reducible refine gK_i (fun _ => ?_) (fun _ => ?_)) | (with_reducible refine condS_i (fun _ => ?_) (fun _ => ?_)) | (with_reducible refine drw_i (by kernel_rfl)) | simp -dsimp only [go_sem, ↓reduceIte, reduceCtorEq, Nat.reduceAdd, Nat.reduceMul, Nat.reduceSub, Nat.reduceLeDiff, Nat.reduceLT, Nat.reduceEqDiff, Int.reduceLE, Int.reduceLT, Int.reduceToNat, Int.reduceBEq, Int.reduceBNe, Int.reduceEq, Int.reduceAdd, Int.reduceSub, Int.reduceMul, Int.reduceNeg, Int.cast_ofNat_Int, *, encB, encP, encPol, polRow, renR_zip, zipR_get, hzo] | ((with_reducible refine opK_c ?_); simp -dsimp only [go_sem, ↓reduceIte, reduceCtorEq, Nat.reduceAdd, Nat.reduceMul, Nat.reduceSub, Nat.reduceLeDiff, Nat.reduceLT, Nat.reduceEqDiff, Int.reduceLE, Int.reduceLT, Int.reduceToNat, Int.reduceBEq, Int.reduceBNe, Int.reduceEq, Int.reduceAdd, Int.reduceSub, Int.reduceMul, Int.reduceNeg, Int.cast_ofNat_Int, encB, encP, encPol, polRow, renR_zip, zipR_get, hzo]; first | refine callK_r (by first | assumption | exact hcn | exact hix) (by first | exact .inl rfl | exact .inr rfl) ?_ | (refine callK_i (by assumption) ?_ ?_ ?_; (solve | (repeat (first | exact DLe.refl _ | exact DLe.nil _ | (refine DLe.tup ?_) | (refine DLe.agg ?_ rfl) | exact trivial | (refine And.intro ?_ ?_)))); (solve | exact .inl rfl | exact .inr rfl))) | (refine opK_M [] (hbg) ?_ ?_ ?_ ?_ ?_ ?_; (solve | rfl | simp only [go_sem, ↓reduceIte, reduceCtorEq, Nat.reduceAdd, Nat.reduceMul, Nat.reduceSub, Nat.reduceLeDiff, Nat.reduceLT, Nat.reduceEqDiff, Int.reduceLE, Int.reduceLT, Int.reduceToNat, Int.reduceBEq, Int.reduceBNe, Int.reduceEq, Int.reduceAdd, Int.reduceSub, Int.reduceMul, Int.reduceNeg, Int.cast_ofNat_Int, encB, polRow, renR_zip]); (solve | rfl); (solve | decide); (solve | simp); (solve | simp only [go_sem, ↓reduceIte, reduceCtorEq, Nat.reduceAdd, Nat.reduceMul, Nat.reduceSub, Nat.reduceLeDiff, Nat.reduceLT, Nat.reduceEqDiff, Int.reduceLE, Int.reduceLT, Int.reduceToNat, Int.reduceBEq, Int.reduceBNe, Int.reduceEq, Int.reduceAdd, Int.reduceSub, Int.reduceMul, Int.reduceNeg, Int.cast_ofNat_Int, lentOK, encB, polRow, renR_zip])) | (refine opK_M [5, 6, 8] (hf) ?_ ?_ ?_ ?_ ?_ ?_; (solve | rfl | simp only [go_sem, ↓reduceIte, reduceCtorEq, Nat.reduceAdd, Nat.reduceMul, Nat.reduceSub, Nat.reduceLeDiff, Nat.reduceLT, Nat.reduceEqDiff, Int.reduceLE, Int.reduceLT, Int.reduceToNat, Int.reduceBEq, Int.reduceBNe, Int.reduceEq, Int.reduceAdd, Int.reduceSub, Int.reduceMul, Int.reduceNeg, Int.cast_ofNat_Int, encP, polRow, renR_zip]); (solve | rfl); (solve | decide); (solve | simp); (solve | simp only [go_sem, ↓reduceIte, reduceCtorEq, Nat.reduceAdd, Nat.reduceMul, Nat.reduceSub, Nat.reduceLeDiff, Nat.reduceLT, Nat.reduceEqDiff, Int.reduceLE, Int.reduceLT, Int.reduceToNat, Int.reduceBEq, Int.reduceBNe, Int.reduceEq, Int.reduceAdd, Int.reduceSub, Int.reduceMul, Int.reduceNeg, Int.cast_ofNat_Int, lentOK, encP, polRow, renR_zip])) | (refine opK_M [5, 6, 8] (hf2) ?_ ?_ ?_ ?_ ?_ ?_; (solve | rfl | simp only [go_sem, ↓reduceIte, reduceCtorEq, Nat.reduceAdd, Nat.reduceMul, Nat.reduceSub, Nat.reduceLeDiff, Nat.reduceLT, Nat.reduceEqDiff, Int.reduceLE, Int.reduceLT, Int.reduceToNat, Int.reduceBEq, Int.reduceBNe, Int.reduceEq, Int.reduceAdd, Int.reduceSub, Int.reduceMul, Int.reduceNeg, Int.cast_ofNat_Int, encP, polRow, renR_zip]); (solve | rfl); (solve | decide); (solve | simp); (solve | simp only [go_sem, ↓reduceIte, reduceCtorEq, Nat.reduceAdd, Nat.reduceMul, Nat.reduceSub, Nat.reduceLeDiff, Nat.reduceLT, Nat.reduceEqDiff, Int.reduceLE, Int.reduceLT, Int.reduceToNat, Int.reduceBEq, Int.reduceBNe, Int.reduceEq, Int.reduceAdd, Int.reduceSub, Int.reduceMul, Int.reduceNeg, Int.cast_ofNat_Int, lentOK, encP, polRow, renR_zip])) | (refine opK_M [6, 8] (hcl) ?_ ?_ ?_ ?_ ?_ ?_; (solve | rfl | simp only [go_sem, ↓reduceIte, reduceCtorEq, Nat.reduceAdd, Nat.reduceMul, Nat.reduceSub, Nat.reduceLeDiff, Nat.reduceLT, Nat.reduceEqDiff, Int.reduceLE, Int.reduceLT, Int.reduceToNat, Int.reduceBEq, Int.reduceBNe, Int.reduceEq, Int.reduceAdd, Int.reduceSub, Int.reduceMul, Int.reduceNeg, Int.cast_ofNat_Int, encP, encL, polRow, renR_zip]); (solve | rfl); (solve | decide); (solve | simp); (solve | simp only [go_sem, ↓reduceIte, reduceCtorEq, Nat.reduceAdd, Nat.reduceMul, Nat.reduceSub, Nat.reduceLeDiff, Nat.reduceLT, Nat.reduceEqDiff, Int.reduceLE, Int.reduceLT, Int.reduceToNat, Int.reduceBEq, Int.reduceBNe, Int.reduceEq, Int.reduceAdd, Int.reduceSub, Int.reduceMul, Int.reduceNeg, Int.cast_ofNat_Int, lentOK, encP, encL, polRow, renR_zip])) | (refine opK_W (delf_Pool (fun q => q.id == p.id) (pre ++ { u with leases := coolL u j b.tick } :: post) 6 _ _ _ _ rfl rfl ?_ ?_ ⟨[.ept [.v (.int .i64 p.id)]], rfl, fun x _ => close3_p x p.id⟩ (fun m c => ⟨[.ept [.v (.int .i64 p.id)]], rfl, fun x _ => close3_p x p.id⟩)) ?_) | omega | exact decide_eq_true (by omega) | exact DLe.refl _)
        all_goals first
          | first | rfl | simp only [belowH, belowE, belowC, belowL, belowR, belowP, belowL_d, belowR_d, belowR_zip, polRow, List.length_cons, List.length_nil, Nat.reduceAdd, Nat.reduceLT, decide_true, Bool.and_self, Bool.and_true]
          | (simpa using hlen)
          | (rw [show R = (Bok.zero, 9) from (by rw [hR2.out]; grind)]; (try simp only [List.map_append, List.map_cons]); exact (by repeat (first | exact DLe.refl _ | exact DLe.nil _ | (refine DLe.tup ?_) | (refine DLe.agg ?_ rfl) | exact trivial | (refine And.intro ?_ ?_))))
          | (rw [show R = (⟨b.tick, (pre ++ { u with leases := coolL u j b.tick } :: post).filter fun q => !(q.id == p.id)⟩, 0) from (by rw [hR2.out]; grind)]; (try simp only [List.map_append, List.map_cons]); exact (by repeat (first | exact DLe.refl _ | exact DLe.nil _ | (refine DLe.tup ?_) | (refine DLe.agg ?_ rfl) | exact trivial | (refine And.intro ?_ ?_))))
  · have hbg := beginE_p b hz hc
    have h1 : (chkBk b != 0) = true := by simpa using hc
    have hr : R = (Bok.zero, chkBk b) := by rw [hR.out]; unfold closeR; rw [if_pos hc]
    rw [hr]
    replace hr := Lib.hid hr
    refine ps_i tab_ok mixed Try.func21 rfl Try.ntmps21 Try.results21 (by kernel_rfl) ?_
    repeat' (first | (with_reducible refine And.intro ?_ ?_) | (with_reducible refine gK_i (fun _ => ?_) (fun _ => ?_)) | (with_reducible refine condS_i (fun _ => ?_) (fun _ => ?_)) | (with_reducible refine drw_i (by kernel_rfl)) | simp -dsimp only [go_sem, ↓reduceIte, reduceCtorEq, Nat.reduceAdd, Nat.reduceMul, Nat.reduceSub, Nat.reduceLeDiff, Nat.reduceLT, Nat.reduceEqDiff, Int.reduceLE, Int.reduceLT, Int.reduceToNat, Int.reduceBEq, Int.reduceBNe, Int.reduceEq, Int.reduceAdd, Int.reduceSub, Int.reduceMul, Int.reduceNeg, Int.cast_ofNat_Int, *, encB, encP, h1] | ((with_reducible refine opK_c ?_); simp -dsimp only [go_sem, ↓reduceIte, reduceCtorEq, Nat.reduceAdd, Nat.reduceMul, Nat.reduceSub, Nat.reduceLeDiff, Nat.reduceLT, Nat.reduceEqDiff, Int.reduceLE, Int.reduceLT, Int.reduceToNat, Int.reduceBEq, Int.reduceBNe, Int.reduceEq, Int.reduceAdd, Int.reduceSub, Int.reduceMul, Int.reduceNeg, Int.cast_ofNat_Int, encB, encP, h1]; first | refine callK_r (by first | assumption | exact hbg) (by first | exact .inl rfl | exact .inr rfl) ?_ | (refine callK_i (by assumption) ?_ ?_ ?_; (solve | (repeat (first | exact DLe.refl _ | exact DLe.nil _ | (refine DLe.tup ?_) | (refine DLe.agg ?_ rfl) | exact trivial | (refine And.intro ?_ ?_)))); (solve | exact .inl rfl | exact .inr rfl))) | fail | omega | exact decide_eq_true (by omega) | exact DLe.refl _)
    exact (by repeat (first | exact DLe.refl _ | exact DLe.nil _ | (refine DLe.tup ?_) | (refine DLe.agg ?_ rfl) | exact trivial | (refine And.intro ?_ ?_)))
end Go.Proofs.Ytbeocackphfijaa
namespace Go.Proofs.Ytbeocackphfijaa
open Go Go.RowKit
set_option maxRecDepth 100000 in
theorem ownBook_m (b : Bok) (h8 : b.pools.length ≤ 8) (h32 : ∀ p ∈ b.pools, p.leases.length ≤ 32) :
    MSpec Try.prog 46 [.d (.agg (encB b))] [] (.agg [.d (.v (.int .i64 b.tick)), .own 3 b.pools.length]) [.gone, .gone, .gone, .row 46 9 b.pools.length (dRows (b.pools.map encPol))] := by
  refine ms_i tab_ok mixed Try.func46 rfl Try.ntmps46 Try.results46 (by kernel_rfl) (by simp) (by simp [belowL, belowP]) (by simp [belowH, belowC, belowL, belowP, belowL_d, belowR_d]) ?_
  repeat' (first | (with_reducible refine And.intro ?_ ?_) | (with_reducible refine gK_i (fun _ => ?_) (fun _ => ?_)) | (with_reducible refine condS_i (fun _ => ?_) (fun _ => ?_)) | (with_reducible refine drw_i (by kernel_rfl)) | simp -dsimp only [go_sem, ↓reduceIte, reduceCtorEq, Nat.reduceAdd, Nat.reduceMul, Nat.reduceSub, Nat.reduceLeDiff, Nat.reduceLT, Nat.reduceEqDiff, Int.reduceLE, Int.reduceLT, Int.reduceToNat, Int.reduceBEq, Int.reduceBNe, Int.reduceEq, Int.reduceAdd, Int.reduceSub, Int.reduceMul, Int.reduceNeg, Int.cast_ofNat_Int, *, encB] | ((with_reducible refine opK_c ?_); simp -dsimp only [go_sem, ↓reduceIte, reduceCtorEq, Nat.reduceAdd, Nat.reduceMul, Nat.reduceSub, Nat.reduceLeDiff, Nat.reduceLT, Nat.reduceEqDiff, Int.reduceLE, Int.reduceLT, Int.reduceToNat, Int.reduceBEq, Int.reduceBNe, Int.reduceEq, Int.reduceAdd, Int.reduceSub, Int.reduceMul, Int.reduceNeg, Int.cast_ofNat_Int, encB]; first | refine callK_r (by first | assumption | fail) (by first | exact .inl rfl | exact .inr rfl) ?_ | (refine callK_i (by assumption) ?_ ?_ ?_; (solve | (repeat (first | exact DLe.refl _ | exact DLe.nil _ | (refine DLe.tup ?_) | (refine DLe.agg ?_ rfl) | exact trivial | (refine And.intro ?_ ?_)))); (solve | exact .inl rfl | exact .inr rfl))) | fail | omega | exact decide_eq_true (by omega) | exact DLe.refl _)
  refine loopL tab_ok mixed b.pools (fun _ => True) (fun k => [(4, .d (.v (.int .i64 k))), (3, .ptr 2 0), (2, .ptr 1 0), (1, .ptr 0 0)])
    (fun k => [.box 24 ((encB b).map .d), .box 24 [.d (.v (.int .i64 0)), .d (.v (.slice none 0 0))], .box 24 [.d (.v (.int .i64 b.tick)), .own 3 k], .row 46 9 k (dRows ((b.pools.take k).map encPol))]) trivial ?_ ?_ ?_
  · refine (weak_adopt_box (by simp) 2 24 [.d (.v (.int .i64 b.tick)), .d (.v (.slice none 0 0))] 1 46 9 rfl rfl rfl).trans ?_
    exact weak_forget _ (by simp) (by (try simp only [encB]); rfl) (by (repeat' (first | exact trivial | (refine ⟨rfl, ?_⟩)))) (by first | rfl | simp only [belowH, belowE, belowC, belowL, belowR, belowP, belowL_d, belowR_d, List.length_cons, List.length_nil, Nat.reduceAdd, Nat.reduceLT, decide_true, Bool.and_self, Bool.and_true]) (by first | rfl | simp only [belowH, belowE, belowC, belowL, belowR, belowP, belowL_d, belowR_d, List.length_cons, List.length_nil, Nat.reduceAdd, Nat.reduceLT, decide_true, Bool.and_self, Bool.and_true])
  · intro k p hp hk _ C hC
    have hkI : (k : Int) < (b.pools.length : Int) := by omega
    have hwr : IntKind.i64.wrap ((k : Int) + 1) = ((k + 1 : Nat) : Int) := by rw [IntKind.wrap_i64]; omega
    have hpl := h32 p (List.mem_of_getElem? hp)
    have hb1 : k + 1 ≤ 100 := by omega
    have hlt : (List.take k b.pools).length = k := by rw [List.length_take]; omega
    repeat' (first | (with_reducible refine And.intro ?_ ?_) | (with_reducible refine gK_i (fun _ => ?_) (fun _ => ?_)) | (with_reducible refine condS_i (fun _ => ?_) (fun _ => ?_)) | (with_reducible refine drw_i (by kernel_rfl)) | simp -dsimp only [go_sem, ↓reduceIte, reduceCtorEq, Nat.reduceAdd, Nat.reduceMul, Nat.reduceSub, Nat.reduceLeDiff, Nat.reduceLT, Nat.reduceEqDiff, Int.reduceLE, Int.reduceLT, Int.reduceToNat, Int.reduceBEq, Int.reduceBNe, Int.reduceEq, Int.reduceAdd, Int.reduceSub, Int.reduceMul, Int.reduceNeg, Int.cast_ofNat_Int, *, encB, encPol, hkI, hwr, hp, hlt] | ((with_reducible refine opK_c ?_); simp -dsimp only [go_sem, ↓reduceIte, reduceCtorEq, Nat.reduceAdd, Nat.reduceMul, Nat.reduceSub, Nat.reduceLeDiff, Nat.reduceLT, Nat.reduceEqDiff, Int.reduceLE, Int.reduceLT, Int.reduceToNat, Int.reduceBEq, Int.reduceBNe, Int.reduceEq, Int.reduceAdd, Int.reduceSub, Int.reduceMul, Int.reduceNeg, Int.cast_ofNat_Int, encB, encPol, hkI, hwr, hp, hlt]; first | refine callK_r (by first | assumption | fail) (by first | exact .inl rfl | exact .inr rfl) ?_ | (refine callK_i (by assumption) ?_ ?_ ?_; (solve | (repeat (first | exact DLe.refl _ | exact DLe.nil _ | (refine DLe.tup ?_) | (refine DLe.agg ?_ rfl) | exact trivial | (refine And.intro ?_ ?_)))); (solve | exact .inl rfl | exact .inr rfl))) | fail | omega | exact decide_eq_true (by omega) | exact DLe.refl _)
    refine hC _ _ trivial ((weak_freeze 5 1 50 5 (p.leases.map encL) rfl).trans ?_)
    simp only [fzE, fz, fzL, fzH, fzC, fzR, fzR_app, fzR_d, fzL_d, List.map_cons, List.map_nil, Nat.reduceAdd, Nat.reduceEqDiff, reduceIte, and_true, true_and, and_self, and_false, false_and, Nat.zero_add, Nat.add_zero, reduceCtorEq]
    exact weak_forget _ (by simp) (by rw [take_snoc hp, List.map_append, List.map_cons, List.map_nil, ← dRows_app]; rfl) (by (repeat' (first | exact trivial | (refine ⟨rfl, ?_⟩)))) (by first | rfl | simp only [belowH, belowE, belowC, belowL, belowR, belowP, belowL_d, belowR_d, List.length_cons, List.length_nil, Nat.reduceAdd, Nat.reduceLT, decide_true, Bool.and_self, Bool.and_true]) (by first | rfl | simp only [belowH, belowE, belowC, belowL, belowR, belowP, belowL_d, belowR_d, List.length_cons, List.length_nil, Nat.reduceAdd, Nat.reduceLT, decide_true, Bool.and_self, Bool.and_true])
  · intro _ C
    repeat' (first | (with_reducible refine And.intro ?_ ?_) | (with_reducible refine gK_i (fun _ => ?_) (fun _ => ?_)) | (with_reducible refine condS_i (fun _ => ?_) (fun _ => ?_)) | (with_reducible refine drw_i (by kernel_rfl)) | simp -dsimp only [go_sem, ↓reduceIte, reduceCtorEq, Nat.reduceAdd, Nat.reduceMul, Nat.reduceSub, Nat.reduceLeDiff, Nat.reduceLT, Nat.reduceEqDiff, Int.reduceLE, Int.reduceLT, Int.reduceToNat, Int.reduceBEq, Int.reduceBNe, Int.reduceEq, Int.reduceAdd, Int.reduceSub, Int.reduceMul, Int.reduceNeg, Int.cast_ofNat_Int, *, encB, Int.lt_irrefl] | ((with_reducible refine opK_c ?_); simp -dsimp only [go_sem, ↓reduceIte, reduceCtorEq, Nat.reduceAdd, Nat.reduceMul, Nat.reduceSub, Nat.reduceLeDiff, Nat.reduceLT, Nat.reduceEqDiff, Int.reduceLE, Int.reduceLT, Int.reduceToNat, Int.reduceBEq, Int.reduceBNe, Int.reduceEq, Int.reduceAdd, Int.reduceSub, Int.reduceMul, Int.reduceNeg, Int.cast_ofNat_Int, encB, Int.lt_irrefl]; first | refine callK_r (by first | assumption | fail) (by first | exact .inl rfl | exact .inr rfl) ?_ | (refine callK_i (by assumption) ?_ ?_ ?_; (solve | (repeat (first | exact DLe.refl _ | exact DLe.nil _ | (refine DLe.tup ?_) | (refine DLe.agg ?_ rfl) | exact trivial | (refine And.intro ?_ ?_)))); (solve | exact .inl rfl | exact .inr rfl))) | fail | omega | exact decide_eq_true (by omega) | exact DLe.refl _)
    rw [List.take_length]
    refine (weak_gone 0 (by simp)).trans ?_
    refine (weak_gone 1 (by simp [setC])).trans ?_
    exact (weak_gone 2 (by simp [setC])).trans (weak_eq rfl rfl)
end Go.Proofs.Ytbeocackphfijaa
namespace Go.Proofs.Ytbeocackphfijaa
open Go Go.RowKit
theorem Bok.zero_le : DLe (.agg [.v (.int .i64 0), .v (.slice none 0 0)]) (.agg (encB Bok.zero)) := (by repeat (first | exact DLe.refl _ | exact DLe.nil _ | (refine DLe.tup ?_) | (refine DLe.agg ?_ rfl) | exact trivial | (refine And.intro ?_ ?_)))
end Go.Proofs.Ytbeocackphfijaa
namespace Go.Proofs.Ytbeocackphfijaa
open Go Go.RowKit
theorem updB_set {b : Bok} {i : Nat} {p : Pol} (hr : Rise b.pools) (hp : b.pools[i]? = some p) (f : Pol → Pol) : updB b p.id f = ⟨b.tick, b.pools.set i (f p)⟩ := by
  unfold updB
  congr 1
  obtain ⟨hi, he⟩ := List.getElem?_eq_some_iff.1 hp
  apply List.ext_getElem?
  intro j
  rw [List.getElem?_map, List.getElem?_set]
  by_cases hij : i = j
  · subst hij
    rw [hp]
    simp [hi]
  · rw [if_neg hij]
    cases hq : b.pools[j]? with
    | none => rfl
    | some q =>
      obtain ⟨hj, hq2⟩ := List.getElem?_eq_some_iff.1 hq
      have hne : q.id ≠ p.id := by
        rcases Nat.lt_or_gt_of_ne hij with h | h
        · have := List.pairwise_iff_getElem.1 hr i j hi hj h; rw [he, hq2] at this; omega
        · have := List.pairwise_iff_getElem.1 hr j i hj hi h; rw [he, hq2] at this; omega
      simp [hne]
end Go.Proofs.Ytbeocackphfijaa
namespace Go.Proofs.Ytbeocackphfijaa
open Go Go.RowKit
def Lse.zero : Lse := ⟨Pfx.zero, 0, 0, 0⟩
end Go.Proofs.Ytbeocackphfijaa
namespace Go.Proofs.Ytbeocackphfijaa
open Go Go.RowKit
/-- A lease that comes back. -/
def backF (p : Pol) (at_ : Pfx) (tick : Int) (l : Lse) : Option Lse := if l.at_ = at_ then (if p.rule.cool = 0 then none else some ⟨at_, 3, 0, tick + p.rule.cool⟩) else some l
theorem back_snoc {p : Pol} {at_ : Pfx} {tick : Int} {k : Nat} {l : Lse} (h : p.leases[k]? = some l) : (p.leases.take (k + 1)).filterMap (backF p at_ tick) = (p.leases.take k).filterMap (backF p at_ tick) ++ (backF p at_ tick l).toList := by
  rw [take_snoc h, List.filterMap_append]
  cases hb : backF p at_ tick l <;> simp [hb]
set_option maxRecDepth 100000 in
set_option maxHeartbeats 1000000 in
theorem back_m (ps : List Pol) (tick : Int) (i : Nat) (p : Pol) (at_ : Pfx) (g : Nat) (hp : ps[i]? = some p) (hl : p.leases.length ≤ 32) (hc2 : 0 ≤ p.rule.cool ∧ p.rule.cool ≤ 1024) (ht : 0 ≤ tick ∧ tick ≤ 1073741824) :
    MSpec Try.prog 66 [.ptr 0 0, .d (.v (.int .i64 i)), .d (.agg (encP at_))] [.box 24 [.d (.v (.int .i64 tick)), .own 1 g], .row 46 9 g (dRows (ps.map encPol))] (.d (.tup []))
      [.box 24 [.d (.v (.int .i64 tick)), .own 1 g], .row 46 9 g (dRows ((ps.set i { p with leases := p.leases.filterMap (backF p at_ tick) }).map encPol)), .gone, .gone] := by
  have hil : i < ps.length := (List.getElem?_eq_some_iff.1 hp).1
  refine ms_w tab_ok mixed Try.func66 rfl Try.ntmps66 Try.results66 (by kernel_rfl) (by simp) (by simp [belowL, belowP]) (by simp [belowH, belowC, belowR_d, belowL, belowP]) ?_
  repeat' (first | (with_reducible refine And.intro ?_ ?_) | (with_reducible refine gK_i (fun _ => ?_) (fun _ => ?_)) | (with_reducible refine condS_i (fun _ => ?_) (fun _ => ?_)) | (with_reducible refine drw_i (by kernel_rfl)) | simp -dsimp only [go_sem, ↓reduceIte, reduceCtorEq, Nat.reduceAdd, Nat.reduceMul, Nat.reduceSub, Nat.reduceLeDiff, Nat.reduceLT, Nat.reduceEqDiff, Int.reduceLE, Int.reduceLT, Int.reduceToNat, Int.reduceBEq, Int.reduceBNe, Int.reduceEq, Int.reduceAdd, Int.reduceSub, Int.reduceMul, Int.reduceNeg, Int.cast_ofNat_Int, *, encP] | ((with_reducible refine opK_c ?_); simp -dsimp only [go_sem, ↓reduceIte, reduceCtorEq, Nat.reduceAdd, Nat.reduceMul, Nat.reduceSub, Nat.reduceLeDiff, Nat.reduceLT, Nat.reduceEqDiff, Int.reduceLE, Int.reduceLT, Int.reduceToNat, Int.reduceBEq, Int.reduceBNe, Int.reduceEq, Int.reduceAdd, Int.reduceSub, Int.reduceMul, Int.reduceNeg, Int.cast_ofNat_Int, encP]; first | refine callK_r (by first | assumption | fail) (by first | exact .inl rfl | exact .inr rfl) ?_ | (refine callK_i (by assumption) ?_ ?_ ?_; (solve | (repeat (first | exact DLe.refl _ | exact DLe.nil _ | (refine DLe.tup ?_) | (refine DLe.agg ?_ rfl) | exact trivial | (refine And.intro ?_ ?_)))); (solve | exact .inl rfl | exact .inr rfl))) | fail | omega | exact decide_eq_true (by omega) | exact DLe.refl _)
  refine loopL tab_ok mixed p.leases (fun _ => True) (fun k => [(7, .d (.v (.int .i64 k))), (6, .own 3 ((p.leases.take k).filterMap (backF p at_ tick)).length), (5, .ptr 2 0), (1, .d (.v (.int .i64 i))), (0, .ptr 0 0)])
    (fun k => [.box 24 [.d (.v (.int .i64 tick)), .own 1 g], .row 46 9 g (dRows (ps.map encPol)), .box 26 ((encP at_).map .d), .row 50 5 ((p.leases.take k).filterMap (backF p at_ tick)).length (dRows (((p.leases.take k).filterMap (backF p at_ tick)).map encL))]) trivial ?_ ?_ ?_
  · refine (weak_adopt (by simp) 6 50 5 rfl).trans ?_
    exact weak_forget _ (by simp) (by simp only [encP]; rfl) (by (repeat' (first | exact trivial | (refine ⟨rfl, ?_⟩)))) (by first | rfl | simp only [belowH, belowE, belowC, belowL, belowR, belowP, belowL_d, belowR_d, List.length_cons, List.length_nil, Nat.reduceAdd, Nat.reduceLT, decide_true, Bool.and_self, Bool.and_true]) (by first | rfl | simp only [belowH, belowE, belowC, belowL, belowR, belowP, belowL_d, belowR_d, List.length_cons, List.length_nil, Nat.reduceAdd, Nat.reduceLT, decide_true, Bool.and_self, Bool.and_true])
  · intro k l hlk hk _ C hC
    have hkI : (k : Int) < (p.leases.length : Int) := by omega
    have hwr : IntKind.i64.wrap ((k : Int) + 1) = ((k + 1 : Nat) : Int) := by rw [IntKind.wrap_i64]; omega
    have hwc : IntKind.i64.wrap (tick + p.rule.cool) = tick + p.rule.cool := by rw [IntKind.wrap_i64]; omega
    have hsn := back_snoc (at_ := at_) (tick := tick) hlk
    have hln : ((p.leases.take k).filterMap (backF p at_ tick)).length ≤ k := Nat.le_trans (List.length_filterMap_le _ _) (by rw [List.length_take]; omega)
    generalize (p.leases.take k).filterMap (backF p at_ tick) = out at *
    have hb1 : out.length + 1 ≤ 100 := by omega
    rw [hsn] at hC
    have he := eqP_list l.at_ at_
    cases hd : decide (l.at_ = at_)
    · rw [hd] at he
      have hbf : backF p at_ tick l = some l := by unfold backF; rw [if_neg (by simpa using hd)]
      rw [hbf] at hC
      simp only [Option.toList_some] at hC
      clear hsn hbf
      repeat' (first | (with_reducible refine And.intro ?_ ?_) | (with_reducible refine gK_i (fun _ => ?_) (fun _ => ?_)) | (with_reducible refine condS_i (fun _ => ?_) (fun _ => ?_)) | (with_reducible refine drw_i (by kernel_rfl)) | simp -dsimp only [go_sem, ↓reduceIte, reduceCtorEq, Nat.reduceAdd, Nat.reduceMul, Nat.reduceSub, Nat.reduceLeDiff, Nat.reduceLT, Nat.reduceEqDiff, Int.reduceLE, Int.reduceLT, Int.reduceToNat, Int.reduceBEq, Int.reduceBNe, Int.reduceEq, Int.reduceAdd, Int.reduceSub, Int.reduceMul, Int.reduceNeg, Int.cast_ofNat_Int, *, encP, encL, encPol, hp, hkI, hwr, hlk, he] | ((with_reducible refine opK_c ?_); simp -dsimp only [go_sem, ↓reduceIte, reduceCtorEq, Nat.reduceAdd, Nat.reduceMul, Nat.reduceSub, Nat.reduceLeDiff, Nat.reduceLT, Nat.reduceEqDiff, Int.reduceLE, Int.reduceLT, Int.reduceToNat, Int.reduceBEq, Int.reduceBNe, Int.reduceEq, Int.reduceAdd, Int.reduceSub, Int.reduceMul, Int.reduceNeg, Int.cast_ofNat_Int, encP, encL, encPol, hp, hkI, hwr, hlk, he]; first | refine callK_r (by first | assumption | fail) (by first | exact .inl rfl | exact .inr rfl) ?_ | (refine callK_i (by assumption) ?_ ?_ ?_; (solve | (repeat (first | exact DLe.refl _ | exact DLe.nil _ | (refine DLe.tup ?_) | (refine DLe.agg ?_ rfl) | exact trivial | (refine And.intro ?_ ?_)))); (solve | exact .inl rfl | exact .inr rfl))) | fail | omega | exact decide_eq_true (by omega) | exact DLe.refl _)
      exact hC _ _ trivial (weak_forget _ (by simp) (by simp only [encP, encL, List.map_append, List.map_cons, List.map_nil, List.length_append, List.length_cons, List.length_nil]; rfl) (by (repeat' (first | exact trivial | (refine ⟨?_, ?_⟩) | rfl | (simp only [List.length_append, List.length_cons, List.length_nil]; rfl)))) (by first | rfl | simp only [belowH, belowE, belowC, belowL, belowR, belowP, belowL_d, belowR_d, List.length_cons, List.length_nil, Nat.reduceAdd, Nat.reduceLT, decide_true, Bool.and_self, Bool.and_true]) (by first | rfl | simp only [belowH, belowE, belowC, belowL, belowR, belowP, belowL_d, belowR_d, List.length_cons, List.length_nil, Nat.reduceAdd, Nat.reduceLT, decide_true, Bool.and_self, Bool.and_true]))
    · rw [hd] at he
      cases hc0 : p.rule.cool == 0
      · have hbf : backF p at_ tick l = some ⟨at_, 3, 0, tick + p.rule.cool⟩ := by unfold backF; rw [if_pos (by simpa using hd), if_neg (by simpa using hc0)]
        rw [hbf] at hC
        simp only [Option.toList_some] at hC
        clear hsn hbf
        repeat' (first | (with_reducible refine And.intro ?_ ?_) | (with_reducible refine gK_i (fun _ => ?_) (fun _ => ?_)) | (with_reducible refine condS_i (fun _ => ?_) (fun _ => ?_)) | (with_reducible refine drw_i (by kernel_rfl)) | simp -dsimp only [go_sem, ↓reduceIte, reduceCtorEq, Nat.reduceAdd, Nat.reduceMul, Nat.reduceSub, Nat.reduceLeDiff, Nat.reduceLT, Nat.reduceEqDiff, Int.reduceLE, Int.reduceLT, Int.reduceToNat, Int.reduceBEq, Int.reduceBNe, Int.reduceEq, Int.reduceAdd, Int.reduceSub, Int.reduceMul, Int.reduceNeg, Int.cast_ofNat_Int, *, encP, encL, encPol, hp, hkI, hwr, hlk, he, hc0, hwc] | ((with_reducible refine opK_c ?_); simp -dsimp only [go_sem, ↓reduceIte, reduceCtorEq, Nat.reduceAdd, Nat.reduceMul, Nat.reduceSub, Nat.reduceLeDiff, Nat.reduceLT, Nat.reduceEqDiff, Int.reduceLE, Int.reduceLT, Int.reduceToNat, Int.reduceBEq, Int.reduceBNe, Int.reduceEq, Int.reduceAdd, Int.reduceSub, Int.reduceMul, Int.reduceNeg, Int.cast_ofNat_Int, encP, encL, encPol, hp, hkI, hwr, hlk, he, hc0, hwc]; first | refine callK_r (by first | assumption | fail) (by first | exact .inl rfl | exact .inr rfl) ?_ | (refine callK_i (by assumption) ?_ ?_ ?_; (solve | (repeat (first | exact DLe.refl _ | exact DLe.nil _ | (refine DLe.tup ?_) | (refine DLe.agg ?_ rfl) | exact trivial | (refine And.intro ?_ ?_)))); (solve | exact .inl rfl | exact .inr rfl))) | fail | omega | exact decide_eq_true (by omega) | exact DLe.refl _)
        exact hC _ _ trivial (weak_forget _ (by simp) (by simp only [encP, encL, List.map_append, List.map_cons, List.map_nil, List.length_append, List.length_cons, List.length_nil]; rfl) (by (repeat' (first | exact trivial | (refine ⟨?_, ?_⟩) | rfl | (simp only [List.length_append, List.length_cons, List.length_nil]; rfl)))) (by first | rfl | simp only [belowH, belowE, belowC, belowL, belowR, belowP, belowL_d, belowR_d, List.length_cons, List.length_nil, Nat.reduceAdd, Nat.reduceLT, decide_true, Bool.and_self, Bool.and_true]) (by first | rfl | simp only [belowH, belowE, belowC, belowL, belowR, belowP, belowL_d, belowR_d, List.length_cons, List.length_nil, Nat.reduceAdd, Nat.reduceLT, decide_true, Bool.and_self, Bool.and_true]))
      · have hbf : backF p at_ tick l = none := by unfold backF; rw [if_pos (by simpa using hd), if_pos (by simpa using hc0)]
        rw [hbf] at hC
        simp only [Option.toList_none, List.append_nil] at hC
        clear hsn hbf
        repeat' (first | (with_reducible refine And.intro ?_ ?_) | (with_reducible refine gK_i (fun _ => ?_) (fun _ => ?_)) | (with_reducible refine condS_i (fun _ => ?_) (fun _ => ?_)) | (with_reducible refine drw_i (by kernel_rfl)) | simp -dsimp only [go_sem, ↓reduceIte, reduceCtorEq, Nat.reduceAdd, Nat.reduceMul, Nat.reduceSub, Nat.reduceLeDiff, Nat.reduceLT, Nat.reduceEqDiff, Int.reduceLE, Int.reduceLT, Int.reduceToNat, Int.reduceBEq, Int.reduceBNe, Int.reduceEq, Int.reduceAdd, Int.reduceSub, Int.reduceMul, Int.reduceNeg, Int.cast_ofNat_Int, *, encP, encL, encPol, hp, hkI, hwr, hlk, he, hc0] | ((with_reducible refine opK_c ?_); simp -dsimp only [go_sem, ↓reduceIte, reduceCtorEq, Nat.reduceAdd, Nat.reduceMul, Nat.reduceSub, Nat.reduceLeDiff, Nat.reduceLT, Nat.reduceEqDiff, Int.reduceLE, Int.reduceLT, Int.reduceToNat, Int.reduceBEq, Int.reduceBNe, Int.reduceEq, Int.reduceAdd, Int.reduceSub, Int.reduceMul, Int.reduceNeg, Int.cast_ofNat_Int, encP, encL, encPol, hp, hkI, hwr, hlk, he, hc0]; first | refine callK_r (by first | assumption | fail) (by first | exact .inl rfl | exact .inr rfl) ?_ | (refine callK_i (by assumption) ?_ ?_ ?_; (solve | (repeat (first | exact DLe.refl _ | exact DLe.nil _ | (refine DLe.tup ?_) | (refine DLe.agg ?_ rfl) | exact trivial | (refine And.intro ?_ ?_)))); (solve | exact .inl rfl | exact .inr rfl))) | fail | omega | exact decide_eq_true (by omega) | exact DLe.refl _)
        exact hC _ _ trivial (weak_forget _ (by simp) (by simp only [encP, encL, List.map_append, List.map_cons, List.map_nil, List.length_append, List.length_cons, List.length_nil]; rfl) (by (repeat' (first | exact trivial | (refine ⟨?_, ?_⟩) | rfl | (simp only [List.length_append, List.length_cons, List.length_nil]; rfl)))) (by first | rfl | simp only [belowH, belowE, belowC, belowL, belowR, belowP, belowL_d, belowR_d, List.length_cons, List.length_nil, Nat.reduceAdd, Nat.reduceLT, decide_true, Bool.and_self, Bool.and_true]) (by first | rfl | simp only [belowH, belowE, belowC, belowL, belowR, belowP, belowL_d, belowR_d, List.length_cons, List.length_nil, Nat.reduceAdd, Nat.reduceLT, decide_true, Bool.and_self, Bool.and_true]))
  · intro _ C
    rw [List.take_length]
    repeat' (first | (with_reducible refine And.intro ?_ ?_) | (with_reducible refine gK_i (fun _ => ?_) (fun _ => ?_)) | (with_reducible refine condS_i (fun _ => ?_) (fun _ => ?_)) | (with_reducible refine drw_i (by kernel_rfl)) | simp -dsimp only [go_sem, ↓reduceIte, reduceCtorEq, Nat.reduceAdd, Nat.reduceMul, Nat.reduceSub, Nat.reduceLeDiff, Nat.reduceLT, Nat.reduceEqDiff, Int.reduceLE, Int.reduceLT, Int.reduceToNat, Int.reduceBEq, Int.reduceBNe, Int.reduceEq, Int.reduceAdd, Int.reduceSub, Int.reduceMul, Int.reduceNeg, Int.cast_ofNat_Int, *, encP, encPol, hp, Int.lt_irrefl] | ((with_reducible refine opK_c ?_); simp -dsimp only [go_sem, ↓reduceIte, reduceCtorEq, Nat.reduceAdd, Nat.reduceMul, Nat.reduceSub, Nat.reduceLeDiff, Nat.reduceLT, Nat.reduceEqDiff, Int.reduceLE, Int.reduceLT, Int.reduceToNat, Int.reduceBEq, Int.reduceBNe, Int.reduceEq, Int.reduceAdd, Int.reduceSub, Int.reduceMul, Int.reduceNeg, Int.cast_ofNat_Int, encP, encPol, hp, Int.lt_irrefl]; first | refine callK_r (by first | assumption | fail) (by first | exact .inl rfl | exact .inr rfl) ?_ | (refine callK_i (by assumption) ?_ ?_ ?_; (solve | (repeat (first | exact DLe.refl _ | exact DLe.nil _ | (refine DLe.tup ?_) | (refine DLe.agg ?_ rfl) | exact trivial | (refine And.intro ?_ ?_)))); (solve | exact .inl rfl | exact .inr rfl))) | fail | omega | exact decide_eq_true (by omega) | exact DLe.refl _)
    refine (weak_freeze 3 _ 50 5 _ rfl).trans ?_
    simp only [fzE, fz, fzL, fzH, fzC, fzR, fzR_app, fzR_d, fzL_d, List.map_cons, List.map_nil, Nat.reduceAdd, Nat.reduceEqDiff, reduceIte, and_true, true_and, and_self, and_false, false_and, Nat.zero_add, Nat.add_zero, reduceCtorEq, fzR_set]
    refine (weak_gone 2 (by simp)).trans (weak_eq rfl ?_)
    rw [← dRows_setrow]; rfl
end Go.Proofs.Ytbeocackphfijaa
namespace Go.Proofs.Ytbeocackphfijaa
open Go Go.RowKit
theorem back_cool {p : Pol} {at_ : Pfx} {tick : Int} {j : Nat} {l : Lse} (hs : p.leases.Pairwise fun a b => a.at_.at_ < b.at_.at_) (hj : p.leases[j]? = some l) (hl : l.at_ = at_) : p.leases.filterMap (backF p at_ tick) = coolL p j tick := by
  obtain ⟨hlt, he⟩ := List.getElem?_eq_some_iff.1 hj
  have hsp : p.leases = p.leases.take j ++ l :: p.leases.drop (j + 1) := by rw [← he, List.getElem_cons_drop, List.take_append_drop]
  have hid : ∀ (ls : List Lse), (∀ x ∈ ls, x.at_ ≠ at_) → ls.filterMap (backF p at_ tick) = ls := by
    intro ls h
    induction ls with
    | nil => rfl
    | cons a ls ih =>
      have ha : backF p at_ tick a = some a := by unfold backF; rw [if_neg (h a (by simp))]
      rw [List.filterMap_cons, ha]
      simp only
      rw [ih fun x hx => h x (by simp [hx])]
  have hs2 := hs
  rw [hsp, List.pairwise_append, List.pairwise_cons] at hs2
  have h1 := hid (p.leases.take j) (fun x hx e => by have := hs2.2.2 x hx l (by simp); rw [e, hl] at this; omega)
  have h2 := hid (p.leases.drop (j + 1)) (fun x hx e => by have := hs2.2.1.1 x hx; rw [e, hl] at this; omega)
  have h3 : p.leases.filterMap (backF p at_ tick) = p.leases.take j ++ ((backF p at_ tick l).toList ++ p.leases.drop (j + 1)) := by
    conv => lhs; rw [hsp]
    rw [List.filterMap_append, h1, List.filterMap_cons, h2]
    cases backF p at_ tick l <;> rfl
  rw [h3]
  unfold backF coolL
  rw [if_pos hl, hj]
  split
  · rw [List.eraseIdx_eq_take_drop_succ]; rfl
  · simp only [hl, Option.toList_some, List.singleton_append]
    rw [List.set_eq_take_append_cons_drop, if_pos hlt]
end Go.Proofs.Ytbeocackphfijaa
namespace Go.Proofs.Ytbeocackphfijaa
open Go Go.RowKit
theorem rise_ne {l : List Pol} (hr : Rise l) {i j : Nat} {p q : Pol} (hp : l[i]? = some p) (hq : l[j]? = some q) (h : i ≠ j) : p.id ≠ q.id := by
  obtain ⟨hi, rfl⟩ := List.getElem?_eq_some_iff.1 hp
  obtain ⟨hj, rfl⟩ := List.getElem?_eq_some_iff.1 hq
  rcases Nat.lt_or_gt_of_ne h with h | h
  · have := List.pairwise_iff_getElem.1 hr i j hi hj h; omega
  · have := List.pairwise_iff_getElem.1 hr j i hj hi h; omega
theorem filter_erase {l : List Pol} (hr : Rise l) {i : Nat} {p : Pol} (hp : l[i]? = some p) : l.filter (fun q => !(q.id == p.id)) = l.eraseIdx i := by
  obtain ⟨hi, he⟩ := List.getElem?_eq_some_iff.1 hp
  have hsp : l = l.take i ++ p :: l.drop (i + 1) := by rw [← he, List.getElem_cons_drop, List.take_append_drop]
  have h1 : (l.take i).filter (fun q => !(q.id == p.id)) = l.take i := List.filter_eq_self.2 fun q hq => by
    obtain ⟨j, hj, rfl⟩ := List.mem_iff_getElem.1 hq
    rw [List.length_take] at hj
    have := rise_ne hr (List.getElem?_eq_getElem (show j < l.length by omega)) hp (by omega)
    simpa using this
  have h2 : (l.drop (i + 1)).filter (fun q => !(q.id == p.id)) = l.drop (i + 1) := List.filter_eq_self.2 fun q hq => by
    obtain ⟨j, hj, rfl⟩ := List.mem_iff_getElem.1 hq
    rw [List.length_drop] at hj
    have := rise_ne hr (List.getElem?_eq_getElem (show i + 1 + j < l.length by omega)) hp (by omega)
    simpa using this
  rw [List.eraseIdx_eq_take_drop_succ]
  conv => lhs; rw [hsp]
  rw [List.filter_append, h1, List.filter_cons, h2]
  simp
theorem rise_set {l : List Pol} (hr : Rise l) {i : Nat} {p q : Pol} (hp : l[i]? = some p) (h : q.id = p.id) : Rise (l.set i q) := by
  unfold Rise at hr ⊢
  rw [List.pairwise_iff_getElem] at hr ⊢
  intro a c ha hc hac
  simp only [List.length_set] at ha hc
  have h1 := hr a c ha hc hac
  obtain ⟨hi, he⟩ := List.getElem?_eq_some_iff.1 hp
  simp only [List.getElem_set]
  split <;> split
  · omega
  · rename_i e1 e2; subst e1; rw [h, ← he]; exact h1
  · rename_i e1 e2; subst e2; rw [h, ← he]; exact h1
  · exact h1
theorem erase_cut2 {α : Type} (l : List α) (i n : Nat) (hi : i < l.length) (hn : n = l.length) : (setAt l i ((l.drop (i + 1)).take (n - (i + 1)))).take (i + min (n - (i + 1)) (n - (i + 1))) = l.eraseIdx i := by
  subst hn
  have h1 : (l.drop (i + 1)).take (l.length - (i + 1)) = l.drop (i + 1) := List.take_of_length_le (by rw [List.length_drop]; omega)
  rw [h1, Nat.min_self, List.eraseIdx_eq_take_drop_succ]
  unfold setAt
  rw [List.take_append_of_le_length (by simp; omega), List.take_of_length_le (by simp; omega)]
/-- What is known of a book's pools, one of which is cut out. -/
structure CutB (ps : List Pol) (i n : Nat) : Prop where
  ne : ¬ dRows (ps.map encPol) = []
  ne2 : ¬ setAt (dRows (ps.map encPol)) i (((dRows (ps.map encPol)).drop (i + 1)).take (n - (i + 1))) = []
  len : (setAt (dRows (ps.map encPol)) i (((dRows (ps.map encPol)).drop (i + 1)).take (n - (i + 1)))).length = n
  cut : (setAt (dRows (ps.map encPol)) i (((dRows (ps.map encPol)).drop (i + 1)).take (n - (i + 1)))).take (i + min (n - (i + 1)) (n - (i + 1))) = dRows ((ps.eraseIdx i).map encPol)
theorem cutB {ps : List Pol} {i n : Nat} (hi : i < n) (hn : n = ps.length) : CutB ps i n := by
  have hl : (dRows (ps.map encPol)).length = ps.length := by simp [dRows_len]
  have h2 := del_len (dRows (ps.map encPol)) i (i + 1) n (by omega) rfl (by omega)
  refine ⟨fun h => ?_, fun h => ?_, by omega, ?_⟩
  · rw [h] at hl; simp at hl; omega
  · rw [h] at h2; simp at h2; omega
  · rw [erase_cut2 _ i n (by omega) (by omega)]
    unfold dRows
    rw [map_erase, map_erase]
/-- Close's answer, as the reference has it. -/
theorem closeL_back {b : Bok} (hbk : BookOK b) {p u : Pol} {i j : Nat} (hq : poolOf b p.id = some p) (hi : b.pools[i]? = some p) (hu : poolOf b p.up = some u) (hj : b.pools[j]? = some u) (huid : u.id = p.up) :
    i ≠ j ∧ closeL b p = b.pools.set j { u with leases := u.leases.filterMap (backF u p.root b.tick) } := by
  have hpm : p ∈ b.pools := List.mem_of_getElem? hi
  have hum : u ∈ b.pools := List.mem_of_getElem? hj
  have h0 : ∀ q ∈ b.pools, q.id ≠ 0 := fun q hq e => by have := (hbk.mem q hq).1; rw [e] at this; simp [idOK] at this
  have hup := (second_mem _ _ hbk.second p hpm).1
  refine ⟨?_, ?_⟩
  · rintro rfl
    rw [hi] at hj
    obtain rfl := Option.some.inj hj
    rw [up_self hq (h0 p hpm) huid.symm b.pools.length] at hup
    exact absurd hup (by simp)
  · have hany := upOK_up hup (by rw [← huid]; exact h0 u hum) hu
    unfold closeL
    rw [hu]
    simp only
    cases hf : u.leases.findIdx? (forB p.id) with
    | none =>
      rw [List.findIdx?_eq_none_iff] at hf
      obtain ⟨x, hx, hx2⟩ := List.any_eq_true.1 hany
      rw [hf x hx] at hx2; exact absurd hx2 (by simp)
    | some k =>
      simp only
      obtain ⟨hk, h1, -⟩ := List.findIdx?_eq_some_iff_getElem.1 hf
      have hok := (second_mem _ _ hbk.second u hum).2 _ (List.getElem_mem hk)
      unfold forB at h1
      simp only [Bool.and_eq_true, beq_iff_eq] at h1
      have hat : u.leases[k].at_ = p.root := by
        unfold leaseOK at hok
        rw [if_neg (by simp [h1.1]), if_pos (by simp [h1.1]), h1.2, hq] at hok
        simp only [Bool.and_eq_true, decide_eq_true_eq] at hok
        exact hok.2.1.symm
      rw [updB_set hbk.rise hj, back_cool (lease_rise (hbk.mem u hum).2.1) (List.getElem?_eq_getElem hk) hat]
set_option maxRecDepth 100000 in
set_option maxHeartbeats 1000000 in
theorem closeOf_p (b : Bok) (id : Int) (hz : ∀ p ∈ b.pools, p.leases.length ≤ 3518437208882) : PSpec Try.prog 23 [.agg (encB b), .v (.int .i64 id)] (.tup [.agg (encB (closeR b id).1), .v (.int .i64 (closeR b id).2)]) := by
  obtain ⟨R, hR⟩ : ∃ R, R = closeR b id := ⟨_, rfl⟩
  rw [← hR]
  replace hR := Lib.hid hR
  have hck := checkBook_p b hz
  by_cases hc : chkBk b = 0
  · have hbk := bookOK hc
    have h8 := hbk.n8
    have hat := poolAt_p b id (by omega)
    rw [hc] at hck
    cases hq : poolOf b id with
    | none =>
      have hr : R = (Bok.zero, 5) := by rw [hR.out]; unfold closeR; rw [if_neg (by simpa using hc), hq]
      rw [hr]
      rw [atI_no hq] at hat
      have hm1 : decide ((-1 : Int) < 0) = true := rfl
      clear hr hR hq hbk hc
      refine ps_i tab_ok mixed Try.func23 rfl Try.ntmps23 Try.results23 (by kernel_rfl) ?_
      repeat' (first | (with_reducible refine And.intro ?_ ?_) | (with_reducible refine gK_i (fun _ => ?_) (fun _ => ?_)) | (with_reducible refine condS_i (fun _ => ?_) (fun _ => ?_)) | (with_reducible refine drw_i (by kernel_rfl)) | simp -dsimp only [go_sem, ↓reduceIte, reduceCtorEq, Nat.reduceAdd, Nat.reduceMul, Nat.reduceSub, Nat.reduceLeDiff, Nat.reduceLT, Nat.reduceEqDiff, Int.reduceLE, Int.reduceLT, Int.reduceToNat, Int.reduceBEq, Int.reduceBNe, Int.reduceEq, Int.reduceAdd, Int.reduceSub, Int.reduceMul, Int.reduceNeg, Int.cast_ofNat_Int, *, encB, encP, hm1] | ((with_reducible refine opK_c ?_); simp -dsimp only [go_sem, ↓reduceIte, reduceCtorEq, Nat.reduceAdd, Nat.reduceMul, Nat.reduceSub, Nat.reduceLeDiff, Nat.reduceLT, Nat.reduceEqDiff, Int.reduceLE, Int.reduceLT, Int.reduceToNat, Int.reduceBEq, Int.reduceBNe, Int.reduceEq, Int.reduceAdd, Int.reduceSub, Int.reduceMul, Int.reduceNeg, Int.cast_ofNat_Int, encB, encP, hm1]; first | refine callK_r (by first | assumption | exact hck | exact hat) (by first | exact .inl rfl | exact .inr rfl) ?_ | (refine callK_i (by assumption) ?_ ?_ ?_; (solve | (repeat (first | exact DLe.refl _ | exact DLe.nil _ | (refine DLe.tup ?_) | (refine DLe.agg ?_ rfl) | exact trivial | (refine And.intro ?_ ?_)))); (solve | exact .inl rfl | exact .inr rfl))) | fail | omega | exact decide_eq_true (by omega) | exact DLe.refl _)
      exact (by repeat (first | exact DLe.refl _ | exact DLe.nil _ | (refine DLe.tup ?_) | (refine DLe.agg ?_ rfl) | exact trivial | (refine And.intro ?_ ?_)))
    | some p =>
      obtain ⟨i, e1, e2, e3⟩ := atI_some hq
      subst e3
      have hpm : p ∈ b.pools := List.mem_of_getElem? e2
      have hilt : i < b.pools.length := (List.getElem?_eq_some_iff.1 e2).1
      have hob := ownBook_m b hbk.n8 hbk.l32
      have hat2 := poolAt_p b p.up (by omega)
      have hi0 : decide ((i : Int) < 0) = false := by simp
      have hpl := hbk.l32 p hpm
      rw [e1] at hat
      have hR2 : R = if (p.leases.any fun l => l.kind != 3) = true then (Bok.zero, 9) else (⟨b.tick, (closeL b p).filter fun q => !(q.id == p.id)⟩, 0) := by
        rw [hR.out]; unfold closeR; rw [if_neg (by simpa using hc), hq]
      replace hR2 := Lib.hid hR2
      clear hR
      refine ps_i tab_ok mixed Try.func23 rfl Try.ntmps23 Try.results23 (by kernel_rfl) ?_
      repeat' (first | (with_reducible refine And.intro ?_ ?_) | (with_reducible refine gK_i (fun _ => ?_) (fun _ => ?_)) | (with_reducible refine condS_i (fun _ => ?_) (fun _ => ?_)) | (with_reducible refine drw_i (by kernel_rfl)) | simp -dsimp only [go_sem, ↓reduceIte, reduceCtorEq, Nat.reduceAdd, Nat.reduceMul, Nat.reduceSub, Nat.reduceLeDiff, Nat.reduceLT, Nat.reduceEqDiff, Int.reduceLE, Int.reduceLT, Int.reduceToNat, Int.reduceBEq, Int.reduceBNe, Int.reduceEq, Int.reduceAdd, Int.reduceSub, Int.reduceMul, Int.reduceNeg, Int.cast_ofNat_Int, *, encB, encP, hi0] | ((with_reducible refine opK_c ?_); simp -dsimp only [go_sem, ↓reduceIte, reduceCtorEq, Nat.reduceAdd, Nat.reduceMul, Nat.reduceSub, Nat.reduceLeDiff, Nat.reduceLT, Nat.reduceEqDiff, Int.reduceLE, Int.reduceLT, Int.reduceToNat, Int.reduceBEq, Int.reduceBNe, Int.reduceEq, Int.reduceAdd, Int.reduceSub, Int.reduceMul, Int.reduceNeg, Int.cast_ofNat_Int, encB, encP, hi0]; first | refine callK_r (by first | assumption | exact hck | exact hat) (by first | exact .inl rfl | exact .inr rfl) ?_ | (refine callK_i (by assumption) ?_ ?_ ?_; (solve | (repeat (first | exact DLe.refl _ | exact DLe.nil _ | (refine DLe.tup ?_) | (refine DLe.agg ?_ rfl) | exact trivial | (refine And.intro ?_ ?_)))); (solve | exact .inl rfl | exact .inr rfl))) | fail | omega | exact decide_eq_true (by omega) | exact DLe.refl _)
      refine loopL tab_ok mixed p.leases (fun k => ∀ j (l : Lse), j < k → p.leases[j]? = some l → (l.kind != 3) = false) (fun k => [(8, .d (.v (.int .i64 k))), (7, .d (.v (.int .i64 i))), (5, .d (.v (.int .i64 0))), (4, .ptr 1 0), (2, .ptr 0 0), (1, .d (.v (.int .i64 p.id)))])
        (fun _ => [.box 24 ((encB b).map .d), .box 24 [.d (.v (.int .i64 0)), .d (.v (.slice none 0 0))]]) (fun j q h => absurd h (Nat.not_lt_zero _)) (weak_forget _ (by simp) (by (try simp only [encB]); rfl) (by (repeat' (first | exact trivial | (refine ⟨rfl, ?_⟩)))) (by first | rfl | simp only [belowH, belowE, belowC, belowL, belowR, belowP, belowL_d, belowR_d, List.length_cons, List.length_nil, Nat.reduceAdd, Nat.reduceLT, decide_true, Bool.and_self, Bool.and_true]) (by first | rfl | simp only [belowH, belowE, belowC, belowL, belowR, belowP, belowL_d, belowR_d, List.length_cons, List.length_nil, Nat.reduceAdd, Nat.reduceLT, decide_true, Bool.and_self, Bool.and_true])) ?_ ?_
      · intro k l hlk hk hI C hC
        have hkI : (k : Int) < (p.leases.length : Int) := by omega
        have hwr : IntKind.i64.wrap ((k : Int) + 1) = ((k + 1 : Nat) : Int) := by rw [IntKind.wrap_i64]; omega
        replace hI := Lib.hid hI
        repeat' (first | (with_reducible refine And.intro ?_ ?_) | (with_reducible refine gK_i (fun _ => ?_) (fun _ => ?_)) | (with_reducible refine condS_i (fun _ => ?_) (fun _ => ?_)) | (with_reducible refine drw_i (by kernel_rfl)) | simp -dsimp only [go_sem, ↓reduceIte, reduceCtorEq, Nat.reduceAdd, Nat.reduceMul, Nat.reduceSub, Nat.reduceLeDiff, Nat.reduceLT, Nat.reduceEqDiff, Int.reduceLE, Int.reduceLT, Int.reduceToNat, Int.reduceBEq, Int.reduceBNe, Int.reduceEq, Int.reduceAdd, Int.reduceSub, Int.reduceMul, Int.reduceNeg, Int.cast_ofNat_Int, *, encB, encPol, encL, e2, hkI, hwr, hlk] | ((with_reducible refine opK_c ?_); simp -dsimp only [go_sem, ↓reduceIte, reduceCtorEq, Nat.reduceAdd, Nat.reduceMul, Nat.reduceSub, Nat.reduceLeDiff, Nat.reduceLT, Nat.reduceEqDiff, Int.reduceLE, Int.reduceLT, Int.reduceToNat, Int.reduceBEq, Int.reduceBNe, Int.reduceEq, Int.reduceAdd, Int.reduceSub, Int.reduceMul, Int.reduceNeg, Int.cast_ofNat_Int, encB, encPol, encL, e2, hkI, hwr, hlk]; first | refine callK_r (by first | assumption | fail) (by first | exact .inl rfl | exact .inr rfl) ?_ | (refine callK_i (by assumption) ?_ ?_ ?_; (solve | (repeat (first | exact DLe.refl _ | exact DLe.nil _ | (refine DLe.tup ?_) | (refine DLe.agg ?_ rfl) | exact trivial | (refine And.intro ?_ ?_)))); (solve | exact .inl rfl | exact .inr rfl))) | fail | omega | exact decide_eq_true (by omega) | exact DLe.refl _)
        · rename_i h1
          have hany : (p.leases.any fun l => l.kind != 3) = true := List.any_eq_true.2 ⟨l, List.mem_of_getElem? hlk, h1⟩
          clear hC hI hz hck hat hat2 hob hbk
          (rw [show R = (Bok.zero, 9) from (by rw [hR2.out]; grind)]; (try simp only [List.map_append, List.map_cons]); exact (by repeat (first | exact DLe.refl _ | exact DLe.nil _ | (refine DLe.tup ?_) | (refine DLe.agg ?_ rfl) | exact trivial | (refine And.intro ?_ ?_))))
        · rename_i h1
          refine hC _ _ (fun j l' hj hl' => ?_) (weak_forget _ (by simp) (by (try simp only [encB]); rfl) (by (repeat' (first | exact trivial | (refine ⟨rfl, ?_⟩)))) (by first | rfl | simp only [belowH, belowE, belowC, belowL, belowR, belowP, belowL_d, belowR_d, List.length_cons, List.length_nil, Nat.reduceAdd, Nat.reduceLT, decide_true, Bool.and_self, Bool.and_true]) (by first | rfl | simp only [belowH, belowE, belowC, belowL, belowR, belowP, belowL_d, belowR_d, List.length_cons, List.length_nil, Nat.reduceAdd, Nat.reduceLT, decide_true, Bool.and_self, Bool.and_true]))
          rcases Nat.lt_or_ge j k with h | h
          · exact hI.out j l' h hl'
          · obtain rfl : j = k := by omega
            rw [hlk] at hl'
            obtain rfl := Option.some.inj hl'
            exact h1
      · intro hI C
        have hany : (p.leases.any fun l => l.kind != 3) = false := by
          rw [List.any_eq_false]
          intro l hl
          obtain ⟨j, hj, rfl⟩ := List.mem_iff_getElem.1 hl
          rw [hI j _ hj (List.getElem?_eq_getElem hj)]; simp
        have hR3 := hR2.out
        rw [hany] at hR3
        simp only [Bool.false_eq_true, if_false] at hR3
        replace hI := Lib.hid hI
        replace hany := Lib.hid hany
        have hwi : IntKind.i64.wrap ((i : Int) + 1) = ((i + 1 : Nat) : Int) := by rw [IntKind.wrap_i64]; omega
        cases hu : poolOf b p.up with
        | none =>
          rw [atI_no hu] at hat2
          have hm1 : decide ((-1 : Int) ≥ 0) = false := rfl
          have hcl : closeL b p = b.pools := by unfold closeL; rw [hu]
          rw [hcl, filter_erase hbk.rise e2] at hR3
          replace hR2 := Lib.hid hR3
          clear hR3 hcl hu hbk hq hc
          have hle1 : i ≤ b.pools.length := by omega
          have hle2 : i + 1 ≤ b.pools.length := by omega
          have hle3 : i + (b.pools.length - (i + 1)) ≤ b.pools.length := by omega
          have hle4 : i + min (b.pools.length - (i + 1)) (b.pools.length - (i + 1)) ≤ b.pools.length := by rw [Nat.min_self]; exact hle3
          obtain ⟨hne, hne2, hsl, hcut⟩ := cutB (ps := b.pools) hilt rfl
          have hpos : 0 < b.pools.length := by omega
          repeat' (first | (with_reducible refine And.intro ?_ ?_) | (with_reducible refine gK_i (fun _ => ?_) (fun _ => ?_)) | (with_reducible refine condS_i (fun _ => ?_) (fun _ => ?_)) | (with_reducible refine drw_i (by kernel_rfl)) | simp -dsimp only [go_sem, ↓reduceIte, reduceCtorEq, Nat.reduceAdd, Nat.reduceMul, Nat.reduceSub, Nat.reduceLeDiff, Nat.reduceLT, Nat.reduceEqDiff, Int.reduceLE, Int.reduceLT, Int.reduceToNat, Int.reduceBEq, Int.reduceBNe, Int.reduceEq, Int.reduceAdd, Int.reduceSub, Int.reduceMul, Int.reduceNeg, Int.cast_ofNat_Int, *, encB, encPol, e2, Int.lt_irrefl, hm1, hwi, hne, hne2, hsl, hcut, Nat.sub_zero, List.length_take, List.length_drop] | ((with_reducible refine opK_c ?_); simp -dsimp only [go_sem, ↓reduceIte, reduceCtorEq, Nat.reduceAdd, Nat.reduceMul, Nat.reduceSub, Nat.reduceLeDiff, Nat.reduceLT, Nat.reduceEqDiff, Int.reduceLE, Int.reduceLT, Int.reduceToNat, Int.reduceBEq, Int.reduceBNe, Int.reduceEq, Int.reduceAdd, Int.reduceSub, Int.reduceMul, Int.reduceNeg, Int.cast_ofNat_Int, encB, encPol, e2, Int.lt_irrefl, hm1, hwi, hne, hne2, hsl, hcut, Nat.sub_zero, List.length_take, List.length_drop]; first | refine callK_r (by first | assumption | exact hat2) (by first | exact .inl rfl | exact .inr rfl) ?_ | (refine callK_i (by assumption) ?_ ?_ ?_; (solve | (repeat (first | exact DLe.refl _ | exact DLe.nil _ | (refine DLe.tup ?_) | (refine DLe.agg ?_ rfl) | exact trivial | (refine And.intro ?_ ?_)))); (solve | exact .inl rfl | exact .inr rfl))) | (refine opK_M [] (hob) ?_ ?_ ?_ ?_ ?_ ?_; (solve | rfl | simp only [go_sem, ↓reduceIte, reduceCtorEq, Nat.reduceAdd, Nat.reduceMul, Nat.reduceSub, Nat.reduceLeDiff, Nat.reduceLT, Nat.reduceEqDiff, Int.reduceLE, Int.reduceLT, Int.reduceToNat, Int.reduceBEq, Int.reduceBNe, Int.reduceEq, Int.reduceAdd, Int.reduceSub, Int.reduceMul, Int.reduceNeg, Int.cast_ofNat_Int, encB]); (solve | rfl); (solve | decide); (solve | simp); (solve | simp only [go_sem, ↓reduceIte, reduceCtorEq, Nat.reduceAdd, Nat.reduceMul, Nat.reduceSub, Nat.reduceLeDiff, Nat.reduceLT, Nat.reduceEqDiff, Int.reduceLE, Int.reduceLT, Int.reduceToNat, Int.reduceBEq, Int.reduceBNe, Int.reduceEq, Int.reduceAdd, Int.reduceSub, Int.reduceMul, Int.reduceNeg, Int.cast_ofNat_Int, lentOK, encB])) | omega | exact decide_eq_true (by omega) | exact DLe.refl _)
          all_goals clear hz hck hat hat2 hob hne hne2 hcut hsl
          rw [hR2.out]; first | done | exact DLe.refl _
        | some u =>
          obtain ⟨j, f1, f2, f3⟩ := atI_some hu
          obtain ⟨hij, hcl⟩ := closeL_back hbk hq e2 hu f2 f3
          have hum : u ∈ b.pools := List.mem_of_getElem? f2
          have hbm := back_m b.pools b.tick j u p.root b.pools.length f2 (hbk.l32 u hum) (rule_cool (hbk.mem u hum).2.2) hbk.tick
          have hpi : (b.pools.set j { u with leases := u.leases.filterMap (backF u p.root b.tick) })[i]? = some p := by rw [List.getElem?_set_ne (Ne.symm hij)]; exact e2
          rw [f1] at hat2
          have hj0 : decide ((j : Int) ≥ 0) = true := by simp
          rw [hcl, filter_erase (rise_set hbk.rise f2 (by rfl)) hpi] at hR3
          replace hR2 := Lib.hid hR3
          clear hR3 hcl hu hbk hq hc hpi f1 f2 f3 hij
          have hle1 : i ≤ b.pools.length := by omega
          have hle2 : i + 1 ≤ b.pools.length := by omega
          have hle3 : i + (b.pools.length - (i + 1)) ≤ b.pools.length := by omega
          have hle4 : i + min (b.pools.length - (i + 1)) (b.pools.length - (i + 1)) ≤ b.pools.length := by rw [Nat.min_self]; exact hle3
          obtain ⟨hne, hne2, hsl, hcut⟩ := cutB (ps := b.pools.set j { u with leases := u.leases.filterMap (backF u p.root b.tick) }) hilt (by simp)
          have hpos : 0 < b.pools.length := by omega
          repeat' (first | (with_reducible refine And.intro ?_ ?_) | (with_reducible refine gK_i (fun _ => ?_) (fun _ => ?_)) | (with_reducible refine condS_i (fun _ => ?_) (fun _ => ?_)) | (with_reducible refine drw_i (by kernel_rfl)) | simp -dsimp only [go_sem, ↓reduceIte, reduceCtorEq, Nat.reduceAdd, Nat.reduceMul, Nat.reduceSub, Nat.reduceLeDiff, Nat.reduceLT, Nat.reduceEqDiff, Int.reduceLE, Int.reduceLT, Int.reduceToNat, Int.reduceBEq, Int.reduceBNe, Int.reduceEq, Int.reduceAdd, Int.reduceSub, Int.reduceMul, Int.reduceNeg, Int.cast_ofNat_Int, *, encB, encPol, e2, Int.lt_irrefl, hj0, hwi, hne, hne2, hsl, hcut, Nat.sub_zero, List.length_take, List.length_drop] | ((with_reducible refine opK_c ?_); simp -dsimp only [go_sem, ↓reduceIte, reduceCtorEq, Nat.reduceAdd, Nat.reduceMul, Nat.reduceSub, Nat.reduceLeDiff, Nat.reduceLT, Nat.reduceEqDiff, Int.reduceLE, Int.reduceLT, Int.reduceToNat, Int.reduceBEq, Int.reduceBNe, Int.reduceEq, Int.reduceAdd, Int.reduceSub, Int.reduceMul, Int.reduceNeg, Int.cast_ofNat_Int, encB, encPol, e2, Int.lt_irrefl, hj0, hwi, hne, hne2, hsl, hcut, Nat.sub_zero, List.length_take, List.length_drop]; first | refine callK_r (by first | assumption | exact hat2) (by first | exact .inl rfl | exact .inr rfl) ?_ | (refine callK_i (by assumption) ?_ ?_ ?_; (solve | (repeat (first | exact DLe.refl _ | exact DLe.nil _ | (refine DLe.tup ?_) | (refine DLe.agg ?_ rfl) | exact trivial | (refine And.intro ?_ ?_)))); (solve | exact .inl rfl | exact .inr rfl))) | (refine opK_M [] (hob) ?_ ?_ ?_ ?_ ?_ ?_; (solve | rfl | simp only [go_sem, ↓reduceIte, reduceCtorEq, Nat.reduceAdd, Nat.reduceMul, Nat.reduceSub, Nat.reduceLeDiff, Nat.reduceLT, Nat.reduceEqDiff, Int.reduceLE, Int.reduceLT, Int.reduceToNat, Int.reduceBEq, Int.reduceBNe, Int.reduceEq, Int.reduceAdd, Int.reduceSub, Int.reduceMul, Int.reduceNeg, Int.cast_ofNat_Int, encB]); (solve | rfl); (solve | decide); (solve | simp); (solve | simp only [go_sem, ↓reduceIte, reduceCtorEq, Nat.reduceAdd, Nat.reduceMul, Nat.reduceSub, Nat.reduceLeDiff, Nat.reduceLT, Nat.reduceEqDiff, Int.reduceLE, Int.reduceLT, Int.reduceToNat, Int.reduceBEq, Int.reduceBNe, Int.reduceEq, Int.reduceAdd, Int.reduceSub, Int.reduceMul, Int.reduceNeg, Int.cast_ofNat_Int, lentOK, encB])) | (refine opK_M [6, 5] (hbm) ?_ ?_ ?_ ?_ ?_ ?_; (solve | rfl | simp only [go_sem, ↓reduceIte, reduceCtorEq, Nat.reduceAdd, Nat.reduceMul, Nat.reduceSub, Nat.reduceLeDiff, Nat.reduceLT, Nat.reduceEqDiff, Int.reduceLE, Int.reduceLT, Int.reduceToNat, Int.reduceBEq, Int.reduceBNe, Int.reduceEq, Int.reduceAdd, Int.reduceSub, Int.reduceMul, Int.reduceNeg, Int.cast_ofNat_Int, encP]); (solve | rfl); (solve | decide); (solve | simp); (solve | simp only [go_sem, ↓reduceIte, reduceCtorEq, Nat.reduceAdd, Nat.reduceMul, Nat.reduceSub, Nat.reduceLeDiff, Nat.reduceLT, Nat.reduceEqDiff, Int.reduceLE, Int.reduceLT, Int.reduceToNat, Int.reduceBEq, Int.reduceBNe, Int.reduceEq, Int.reduceAdd, Int.reduceSub, Int.reduceMul, Int.reduceNeg, Int.cast_ofNat_Int, lentOK, encP])) | omega | exact decide_eq_true (by omega) | exact DLe.refl _)
          all_goals clear hz hck hat hat2 hob hne hne2 hcut hsl hbm
          rw [hR2.out]; first | done | exact DLe.refl _
  · have h1 : (chkBk b != 0) = true := by simpa using hc
    have hr : R = (Bok.zero, chkBk b) := by rw [hR.out]; unfold closeR; rw [if_pos hc]
    rw [hr]
    replace hr := Lib.hid hr
    clear hR
    refine ps_i tab_ok mixed Try.func23 rfl Try.ntmps23 Try.results23 (by kernel_rfl) ?_
    repeat' (first | (with_reducible refine And.intro ?_ ?_) | (with_reducible refine gK_i (fun _ => ?_) (fun _ => ?_)) | (with_reducible refine condS_i (fun _ => ?_) (fun _ => ?_)) | (with_reducible refine drw_i (by kernel_rfl)) | simp -dsimp only [go_sem, ↓reduceIte, reduceCtorEq, Nat.reduceAdd, Nat.reduceMul, Nat.reduceSub, Nat.reduceLeDiff, Nat.reduceLT, Nat.reduceEqDiff, Int.reduceLE, Int.reduceLT, Int.reduceToNat, Int.reduceBEq, Int.reduceBNe, Int.reduceEq, Int.reduceAdd, Int.reduceSub, Int.reduceMul, Int.reduceNeg, Int.cast_ofNat_Int, *, encB, encP, h1] | ((with_reducible refine opK_c ?_); simp -dsimp only [go_sem, ↓reduceIte, reduceCtorEq, Nat.reduceAdd, Nat.reduceMul, Nat.reduceSub, Nat.reduceLeDiff, Nat.reduceLT, Nat.reduceEqDiff, Int.reduceLE, Int.reduceLT, Int.reduceToNat, Int.reduceBEq, Int.reduceBNe, Int.reduceEq, Int.reduceAdd, Int.reduceSub, Int.reduceMul, Int.reduceNeg, Int.cast_ofNat_Int, encB, encP, h1]; first | refine callK_r (by first | assumption | exact hck) (by first | exact .inl rfl | exact .inr rfl) ?_ | (refine callK_i (by assumption) ?_ ?_ ?_; (solve | (repeat (first | exact DLe.refl _ | exact DLe.nil _ | (refine DLe.tup ?_) | (refine DLe.agg ?_ rfl) | exact trivial | (refine And.intro ?_ ?_)))); (solve | exact .inl rfl | exact .inr rfl))) | fail | omega | exact decide_eq_true (by omega) | exact DLe.refl _)
    exact (by repeat (first | exact DLe.refl _ | exact DLe.nil _ | (refine DLe.tup ?_) | (refine DLe.agg ?_ rfl) | exact trivial | (refine And.intro ?_ ?_)))
end Go.Proofs.Ytbeocackphfijaa
namespace Go.Proofs.Ytbeocackphfijaa
open Go Go.RowKit
/-- Pools' rows, the leases of each in a chunk for itself. -/
def rowsF : Nat → List Pol → List (List PV)
  | _, [] => []
  | k, p :: ps => polRow p (.own k 1) :: rowsF (k + 2) ps
def chF : List Pol → List Chunk
  | [] => []
  | p :: ps => .gone :: .row 50 5 1 (dRows (p.leases.map encL)) :: chF ps
theorem rowsF_len : ∀ (ps : List Pol) (k : Nat), (rowsF k ps).length = ps.length
  | [], _ => rfl
  | p :: ps, k => by simp only [rowsF, List.length_cons, rowsF_len ps]
theorem chF_len : ∀ ps : List Pol, (chF ps).length = 2 * ps.length
  | [] => rfl
  | p :: ps => by simp only [chF, List.length_cons, chF_len ps]; omega
theorem rowsF_snoc (p : Pol) : ∀ (ps : List Pol) (k : Nat), rowsF k (ps ++ [p]) = rowsF k ps ++ [polRow p (.own (k + 2 * ps.length) 1)]
  | [], k => rfl
  | q :: ps, k => by
    simp only [List.cons_append, rowsF, rowsF_snoc p ps, List.length_cons]
    rw [show k + 2 + 2 * ps.length = k + 2 * (ps.length + 1) by omega]
theorem chF_snoc (p : Pol) : ∀ ps : List Pol, chF (ps ++ [p]) = chF ps ++ [.gone, .row 50 5 1 (dRows (p.leases.map encL))]
  | [] => rfl
  | q :: ps => by simp only [List.cons_append, chF, chF_snoc p ps]
theorem belowR_rowsF (n : Nat) : ∀ (ps : List Pol) (k : Nat), k + 2 * ps.length < n + 2 → belowR n (rowsF k ps) = true
  | [], _, _ => rfl
  | p :: ps, k, h => by
    simp only [List.length_cons] at h
    simp only [rowsF, belowR, polRow, belowL, belowP, belowR_rowsF n ps (k + 2) (by omega), Bool.and_true, Bool.true_and, decide_eq_true_eq]
    omega
theorem belowH_chF (n : Nat) : ∀ ps : List Pol, belowH n (chF ps) = true
  | [] => rfl
  | p :: ps => by simp only [chF, belowH, belowC, belowR_d, belowH_chF n ps, Bool.and_self]
theorem setC_last1 (a : List Chunk) (c d : Chunk) : setC (a ++ [c]) a.length d = a ++ [d] := by
  have := setC_app a c d []
  simpa using this
theorem setC_last2 (a : List Chunk) (c e d : Chunk) : setC (a ++ [c, e]) a.length d = a ++ [d, e] := setC_app a c d [e]
theorem setC_end1 (a : List Chunk) (c d : Chunk) : setC (a ++ [c]) (a.length + 1) d = a ++ [c, d] := by
  have := setC_last (a ++ [c]) d
  rw [List.length_append] at this
  simpa using this
theorem hat_end (a : List Chunk) (c : Chunk) (l : List Chunk) : hatL (a ++ c :: l) a.length = c := by
  induction a with
  | nil => rfl
  | cons x a ih => exact ih
theorem hat_end1 (a : List Chunk) (c d : Chunk) (l : List Chunk) : hatL (a ++ c :: d :: l) (a.length + 1) = d := by
  induction a with
  | nil => rfl
  | cons x a ih => exact ih
theorem hat_end2 (a : List Chunk) (c d e : Chunk) (l : List Chunk) : hatL (a ++ c :: d :: e :: l) (a.length + 2) = e := by
  induction a with
  | nil => rfl
  | cons x a ih => exact ih
theorem setC_end2 (a : List Chunk) (c e d : Chunk) : setC (a ++ [c, e]) (a.length + 2) d = a ++ [c, e, d] := by
  have := setC_last (a ++ [c, e]) d
  rw [List.length_append] at this
  simpa using this
theorem belowH_app (n : Nat) : ∀ (l m : List Chunk), belowH n (l ++ m) = (belowH n l && belowH n m)
  | [], m => rfl
  | c :: l, m => by simp only [List.cons_append, belowH, belowH_app n l m, Bool.and_assoc]
set_option maxRecDepth 100000 in
set_option maxHeartbeats 1000000 in
theorem ownA_m (b : Bok) (h8 : b.pools.length ≤ 8) (h32 : ∀ p ∈ b.pools, p.leases.length ≤ 32) :
    MSpec Try.prog 76 [.d (.agg (encB b))] [] (.ptr 1 0) (.gone :: .box 24 [.d (.v (.int .i64 b.tick)), .own 2 b.pools.length] :: .row 46 9 b.pools.length (rowsF 4 b.pools) :: chF b.pools) := by
  refine ms_i tab_ok mixed Try.func76 rfl Try.ntmps76 Try.results76 (by kernel_rfl) (by simp) (by simp [belowL, belowP]) (by simp [belowH, belowC, belowL, belowP, belowL_d, belowR_d]) ?_
  repeat' (first | (with_reducible refine And.intro ?_ ?_) | (with_reducible refine gK_i (fun _ => ?_) (fun _ => ?_)) | (with_reducible refine condS_i (fun _ => ?_) (fun _ => ?_)) | (with_reducible refine drw_i (by kernel_rfl)) | simp -dsimp only [go_sem, ↓reduceIte, reduceCtorEq, Nat.reduceAdd, Nat.reduceMul, Nat.reduceSub, Nat.reduceLeDiff, Nat.reduceLT, Nat.reduceEqDiff, Int.reduceLE, Int.reduceLT, Int.reduceToNat, Int.reduceBEq, Int.reduceBNe, Int.reduceEq, Int.reduceAdd, Int.reduceSub, Int.reduceMul, Int.reduceNeg, Int.cast_ofNat_Int, *, encB] | ((with_reducible refine opK_c ?_); simp -dsimp only [go_sem, ↓reduceIte, reduceCtorEq, Nat.reduceAdd, Nat.reduceMul, Nat.reduceSub, Nat.reduceLeDiff, Nat.reduceLT, Nat.reduceEqDiff, Int.reduceLE, Int.reduceLT, Int.reduceToNat, Int.reduceBEq, Int.reduceBNe, Int.reduceEq, Int.reduceAdd, Int.reduceSub, Int.reduceMul, Int.reduceNeg, Int.cast_ofNat_Int, encB]; first | refine callK_r (by first | assumption | fail) (by first | exact .inl rfl | exact .inr rfl) ?_ | refine callK_i (by assumption) (by repeat (first | exact DLe.refl _ | exact DLe.nil _ | (refine DLe.tup ?_) | (refine DLe.agg ?_ rfl) | exact trivial | (refine And.intro ?_ ?_))) (by first | exact .inl rfl | exact .inr rfl) ?_) | omega | exact decide_eq_true (by omega) | exact DLe.refl _)
  refine loopL tab_ok mixed b.pools (fun _ => True) (fun k => [(13, .d (.v (.int .i64 k))), (12, .d (.v (.int .i64 b.pools.length))), (11, .d (.sl 9 (b.pools.map encPol))), (3, .ptr 1 0), (2, .d (.v (.pointer none)))])
    (fun k => .gone :: .box 24 [.d (.v (.int .i64 b.tick)), .own 2 k] :: .row 46 9 k (rowsF 4 (b.pools.take k)) :: chF (b.pools.take k)) trivial ?_ ?_ ?_
  · refine (weak_gone 0 (by simp)).trans ((weak_adopt_box (by simp) 1 24 [.d (.v (.int .i64 b.tick)), .d (.v (.slice none 0 0))] 1 46 9 rfl rfl rfl).trans ?_)
    exact weak_forget _ (by simp) (by (try simp only [encB]); rfl) (by (repeat' (first | exact trivial | (refine ⟨rfl, ?_⟩)))) (by first | rfl | simp only [belowH, belowE, belowC, belowL, belowR, belowP, belowL_d, belowR_d, List.length_cons, List.length_nil, Nat.reduceAdd, Nat.reduceLT, decide_true, Bool.and_self, Bool.and_true]) (by first | rfl | simp only [belowH, belowE, belowC, belowL, belowR, belowP, belowL_d, belowR_d, List.length_cons, List.length_nil, Nat.reduceAdd, Nat.reduceLT, decide_true, Bool.and_self, Bool.and_true])
  · intro k p hp hk _ C hC
    have hkI : (k : Int) < (b.pools.length : Int) := by omega
    have hwr : IntKind.i64.wrap ((k : Int) + 1) = ((k + 1 : Nat) : Int) := by rw [IntKind.wrap_i64]; omega
    have hpl := h32 p (List.mem_of_getElem? hp)
    have hb1 : k + 1 ≤ 100 := by omega
    have hlt : (List.take k b.pools).length = k := by rw [List.length_take]; omega
    have hst := take_snoc hp
    have hrl := rowsF_len (b.pools.take k) 4
    have hcl := chF_len (b.pools.take k)
    rw [hlt] at hrl hcl
    rw [hst, rowsF_snoc, chF_snoc, hlt] at hC
    have hbr := fun n h => belowR_rowsF n (b.pools.take k) 4 h
    have hbh := fun n => belowH_chF n (b.pools.take k)
    clear hst
    generalize chF (b.pools.take k) = T at *
    generalize rowsF 4 (b.pools.take k) = rows at *
    replace hcl := Lib.hid hcl
    replace hbr := Lib.hid hbr
    replace hbh := Lib.hid hbh
    repeat' (first | (with_reducible refine And.intro ?_ ?_) | (with_reducible refine gK_i (fun _ => ?_) (fun _ => ?_)) | (with_reducible refine condS_i (fun _ => ?_) (fun _ => ?_)) | (with_reducible refine drw_i (by kernel_rfl)) | simp -dsimp only [go_sem, ↓reduceIte, reduceCtorEq, Nat.reduceAdd, Nat.reduceMul, Nat.reduceSub, Nat.reduceLeDiff, Nat.reduceLT, Nat.reduceEqDiff, Int.reduceLE, Int.reduceLT, Int.reduceToNat, Int.reduceBEq, Int.reduceBNe, Int.reduceEq, Int.reduceAdd, Int.reduceSub, Int.reduceMul, Int.reduceNeg, Int.cast_ofNat_Int, *, encB, encPol, hkI, hwr, hp, hrl, setC_last, setC_last1, setC_last2, setC_end1, setC_end2, hat_end, hat_end1, hat_end2] | ((with_reducible refine opK_c ?_); simp -dsimp only [go_sem, ↓reduceIte, reduceCtorEq, Nat.reduceAdd, Nat.reduceMul, Nat.reduceSub, Nat.reduceLeDiff, Nat.reduceLT, Nat.reduceEqDiff, Int.reduceLE, Int.reduceLT, Int.reduceToNat, Int.reduceBEq, Int.reduceBNe, Int.reduceEq, Int.reduceAdd, Int.reduceSub, Int.reduceMul, Int.reduceNeg, Int.cast_ofNat_Int, encB, encPol, hkI, hwr, hp, hrl, setC_last, setC_last1, setC_last2, setC_end1, setC_end2, hat_end, hat_end1, hat_end2]; first | refine callK_r (by first | assumption | fail) (by first | exact .inl rfl | exact .inr rfl) ?_ | (refine callK_i (by assumption) ?_ ?_ ?_; (solve | (repeat (first | exact DLe.refl _ | exact DLe.nil _ | (refine DLe.tup ?_) | (refine DLe.agg ?_ rfl) | exact trivial | (refine And.intro ?_ ?_)))); (solve | exact .inl rfl | exact .inr rfl))) | (refine opK_M [] (clone_Lease encL p.leases (by omega)) ?_ ?_ ?_ ?_ ?_ ?_; (solve | rfl | simp only [go_sem, ↓reduceIte, reduceCtorEq, Nat.reduceAdd, Nat.reduceMul, Nat.reduceSub, Nat.reduceLeDiff, Nat.reduceLT, Nat.reduceEqDiff, Int.reduceLE, Int.reduceLT, Int.reduceToNat, Int.reduceBEq, Int.reduceBNe, Int.reduceEq, Int.reduceAdd, Int.reduceSub, Int.reduceMul, Int.reduceNeg, Int.cast_ofNat_Int, encPol]); (solve | rfl); (solve | decide); (solve | simp); (solve | simp only [go_sem, ↓reduceIte, reduceCtorEq, Nat.reduceAdd, Nat.reduceMul, Nat.reduceSub, Nat.reduceLeDiff, Nat.reduceLT, Nat.reduceEqDiff, Int.reduceLE, Int.reduceLT, Int.reduceToNat, Int.reduceBEq, Int.reduceBNe, Int.reduceEq, Int.reduceAdd, Int.reduceSub, Int.reduceMul, Int.reduceNeg, Int.cast_ofNat_Int, lentOK, encPol])) | omega | exact decide_eq_true (by omega) | exact DLe.refl _)
    refine hC _ _ trivial ((weak_gone (T.length + 3) (by simp)).trans (weak_forget [.row 46 9 0 [polRow p (.own (T.length + 4) 1)]] (by simp) (h' := .gone :: .box 24 [.d (.v (.int .i64 b.tick)), .own 2 (k + 1)] :: .row 46 9 (k + 1) (rows ++ [polRow p (.own (4 + 2 * k) 1)]) :: (T ++ [.gone, .row 50 5 1 (dRows (p.leases.map encL))])) ?_ (by (repeat' (first | exact trivial | (refine ⟨rfl, ?_⟩)))) ?_ ?_))
    · simp only [setC]
      rw [setC_app, show T.length + 4 = 4 + 2 * k from by have := hcl.out; omega]
      simp only [List.cons_append, List.append_assoc, List.nil_append]
      rfl
    · have := hcl.out
      simp [belowE, belowP]
    · have := hcl.out
      have h1 := hbh.out (T.length + 5)
      have h2 := hbr.out (T.length + 5) (by rw [hlt]; omega)
      simp [belowH, belowC, belowL, belowP, belowR_app, belowR, belowR_d, polRow, belowH_app, h1, h2]
      omega
  · intro _ C
    repeat' (first | (with_reducible refine And.intro ?_ ?_) | (with_reducible refine gK_i (fun _ => ?_) (fun _ => ?_)) | (with_reducible refine condS_i (fun _ => ?_) (fun _ => ?_)) | (with_reducible refine drw_i (by kernel_rfl)) | simp -dsimp only [go_sem, ↓reduceIte, reduceCtorEq, Nat.reduceAdd, Nat.reduceMul, Nat.reduceSub, Nat.reduceLeDiff, Nat.reduceLT, Nat.reduceEqDiff, Int.reduceLE, Int.reduceLT, Int.reduceToNat, Int.reduceBEq, Int.reduceBNe, Int.reduceEq, Int.reduceAdd, Int.reduceSub, Int.reduceMul, Int.reduceNeg, Int.cast_ofNat_Int, *, encB, Int.lt_irrefl] | ((with_reducible refine opK_c ?_); simp -dsimp only [go_sem, ↓reduceIte, reduceCtorEq, Nat.reduceAdd, Nat.reduceMul, Nat.reduceSub, Nat.reduceLeDiff, Nat.reduceLT, Nat.reduceEqDiff, Int.reduceLE, Int.reduceLT, Int.reduceToNat, Int.reduceBEq, Int.reduceBNe, Int.reduceEq, Int.reduceAdd, Int.reduceSub, Int.reduceMul, Int.reduceNeg, Int.cast_ofNat_Int, encB, Int.lt_irrefl]; first | refine callK_r (by first | assumption | fail) (by first | exact .inl rfl | exact .inr rfl) ?_ | (refine callK_i (by assumption) ?_ ?_ ?_; (solve | (repeat (first | exact DLe.refl _ | exact DLe.nil _ | (refine DLe.tup ?_) | (refine DLe.agg ?_ rfl) | exact trivial | (refine And.intro ?_ ?_)))); (solve | exact .inl rfl | exact .inr rfl))) | fail | omega | exact decide_eq_true (by omega) | exact DLe.refl _)
    rw [List.take_length]
    exact weak_eq rfl rfl
end Go.Proofs.Ytbeocackphfijaa
namespace Go.Proofs.Ytbeocackphfijaa
open Go Go.RowKit
theorem heapM_chF (n : Nat) : ∀ (ps : List Pol) (j : Nat) (a : List Chunk), a.length = n + j → heapM (fun x => n + x) j (chF ps) a = a ++ chF ps
  | [], j, a, _ => by simp [chF, heapM]
  | p :: ps, j, a, h => by
    have h1 : n + j = a.length := h.symm
    have h2 : n + (j + 1) = (a ++ [Chunk.gone]).length := by simp only [List.length_append, List.length_cons, List.length_nil]; omega
    simp only [chF, heapM, renC]
    rw [h1, setC_last, h2, setC_last, heapM_chF n ps (j + 1 + 1) _ (by simp; omega)]
    have hd : renR (fun x => n + x) (dRows (p.leases.map encL)) = dRows (p.leases.map encL) := renR_d _ _
    rw [hd]
    simp
theorem renR_rowsF (n : Nat) : ∀ (ps : List Pol) (k : Nat), renR (fun x => n + x) (rowsF k ps) = rowsF (n + k) ps
  | [], _ => rfl
  | p :: ps, k => by
    simp only [rowsF, renR, renR_rowsF n ps (k + 2), polRow, renL, ren]
    rw [show n + (k + 2) = n + k + 2 by omega]
set_option maxRecDepth 100000 in
theorem beginA_m (b : Bok) (hz : ∀ p ∈ b.pools, p.leases.length ≤ 3518437208882) (h : chkBk b = 0) :
    MSpec Try.prog 31 [.d (.agg (encB b))] [] (.tup [.ptr 2 0, .d (.v (.int .i64 0))]) (.gone :: .gone :: .box 24 [.d (.v (.int .i64 b.tick)), .own 3 b.pools.length] :: .row 46 9 b.pools.length (rowsF 5 b.pools) :: chF b.pools) := by
  have hc := bkCheck_p b hz
  have hb := bookOK h
  have ho := ownA_m b hb.n8 hb.l32
  rw [h] at hc
  replace h := Lib.hid h
  refine ms_i tab_ok mixed Try.func31 rfl Try.ntmps31 Try.results31 (by kernel_rfl) (by simp) (by simp [belowL, belowP]) (by simp [belowH, belowC, belowL, belowP, belowL_d, belowR_d]) ?_
  repeat' (first | (with_reducible refine And.intro ?_ ?_) | (with_reducible refine gK_i (fun _ => ?_) (fun _ => ?_)) | (with_reducible refine condS_i (fun _ => ?_) (fun _ => ?_)) | (with_reducible refine drw_i (by kernel_rfl)) | simp -dsimp only [go_sem, ↓reduceIte, reduceCtorEq, Nat.reduceAdd, Nat.reduceMul, Nat.reduceSub, Nat.reduceLeDiff, Nat.reduceLT, Nat.reduceEqDiff, Int.reduceLE, Int.reduceLT, Int.reduceToNat, Int.reduceBEq, Int.reduceBNe, Int.reduceEq, Int.reduceAdd, Int.reduceSub, Int.reduceMul, Int.reduceNeg, Int.cast_ofNat_Int, *, encB, renR_rowsF, heapM_chF] | ((with_reducible refine opK_c ?_); simp -dsimp only [go_sem, ↓reduceIte, reduceCtorEq, Nat.reduceAdd, Nat.reduceMul, Nat.reduceSub, Nat.reduceLeDiff, Nat.reduceLT, Nat.reduceEqDiff, Int.reduceLE, Int.reduceLT, Int.reduceToNat, Int.reduceBEq, Int.reduceBNe, Int.reduceEq, Int.reduceAdd, Int.reduceSub, Int.reduceMul, Int.reduceNeg, Int.cast_ofNat_Int, encB, renR_rowsF, heapM_chF]; first | refine callK_r (by first | assumption | exact hc) (by first | exact .inl rfl | exact .inr rfl) ?_ | (refine callK_i (by assumption) ?_ ?_ ?_; (solve | (repeat (first | exact DLe.refl _ | exact DLe.nil _ | (refine DLe.tup ?_) | (refine DLe.agg ?_ rfl) | exact trivial | (refine And.intro ?_ ?_)))); (solve | exact .inl rfl | exact .inr rfl))) | (refine opK_M [] (ho) ?_ ?_ ?_ ?_ ?_ ?_; (solve | rfl | simp only [go_sem, ↓reduceIte, reduceCtorEq, Nat.reduceAdd, Nat.reduceMul, Nat.reduceSub, Nat.reduceLeDiff, Nat.reduceLT, Nat.reduceEqDiff, Int.reduceLE, Int.reduceLT, Int.reduceToNat, Int.reduceBEq, Int.reduceBNe, Int.reduceEq, Int.reduceAdd, Int.reduceSub, Int.reduceMul, Int.reduceNeg, Int.cast_ofNat_Int, encB, renR_rowsF, heapM_chF]); (solve | rfl); (solve | decide); (solve | simp); (solve | simp only [go_sem, ↓reduceIte, reduceCtorEq, Nat.reduceAdd, Nat.reduceMul, Nat.reduceSub, Nat.reduceLeDiff, Nat.reduceLT, Nat.reduceEqDiff, Int.reduceLE, Int.reduceLT, Int.reduceToNat, Int.reduceBEq, Int.reduceBNe, Int.reduceEq, Int.reduceAdd, Int.reduceSub, Int.reduceMul, Int.reduceNeg, Int.cast_ofNat_Int, lentOK, encB, renR_rowsF, heapM_chF])) | omega | exact decide_eq_true (by omega) | exact DLe.refl _)
  exact (weak_gone 0 (by simp)).trans (weak_eq rfl rfl)
end Go.Proofs.Ytbeocackphfijaa
namespace Go.Proofs.Ytbeocackphfijaa
open Go Go.RowKit
def zipF (D : List Pol) (r : List PV) (k : Nat) (ps : List Pol) : List (List PV) := dRows (D.map encPol) ++ r :: rowsF k ps
theorem zipF_len (D : List Pol) (r : List PV) (k : Nat) (ps : List Pol) : (zipF D r k ps).length = D.length + 1 + ps.length := by
  unfold zipF; rw [List.length_append, List.length_cons, rowsF_len, dRows_len, List.length_map]; omega
theorem zipF_get (D : List Pol) (r : List PV) (k : Nat) (ps : List Pol) : (zipF D r k ps)[D.length]? = some r := by
  unfold zipF
  rw [List.getElem?_append_right (by simp [dRows_len])]
  simp [dRows_len]
theorem zipF_set (D : List Pol) (r r' : List PV) (k : Nat) (ps : List Pol) : (zipF D r k ps).set D.length r' = zipF D r' k ps := by
  unfold zipF
  rw [List.set_append_right _ _ (by simp [dRows_len])]
  simp [dRows_len]
theorem fzR_rowsF (k g : Nat) (d : D) : ∀ (ps : List Pol) (k0 : Nat), k < k0 → fzR k g d (rowsF k0 ps) = rowsF k0 ps
  | [], _, _ => rfl
  | p :: ps, k0, h => by
    simp only [rowsF, fzR, fzR_rowsF k g d ps (k0 + 2) (by omega), polRow, fzL, fz]
    rw [if_neg (by omega)]
theorem fzH_app (k g : Nat) (d : D) : ∀ (l m : List Chunk) (i : Nat), fzH k g d i (l ++ m) = fzH k g d i l ++ fzH k g d (i + l.length) m
  | [], m, i => rfl
  | c :: l, m, i => by
    simp only [List.cons_append, fzH, fzH_app k g d l m (i + 1), List.length_cons]
    rw [show i + 1 + l.length = i + (l.length + 1) by omega]
theorem fzH_same (k g : Nat) (d : D) : ∀ (l : List Chunk) (i : Nat), (∀ c ∈ l, fzC k g d c = c) → (∀ x, i ≤ x → x < i + l.length → x ≠ k) → fzH k g d i l = l
  | [], _, _, _ => rfl
  | c :: l, i, h, hx => by
    simp only [fzH]
    rw [if_neg (hx i (Nat.le_refl _) (by simp)), h c (by simp), fzH_same k g d l (i + 1) (fun c hc => h c (by simp [hc])) (fun x h1 h2 => hx x (by omega) (by simp; omega))]
theorem chF_mem {c : Chunk} : ∀ {ps : List Pol}, c ∈ chF ps → c = .gone ∨ ∃ ls, c = .row 50 5 1 (dRows ls)
  | p :: ps, h => by
    simp only [chF, List.mem_cons] at h
    rcases h with h | h | h
    · exact .inl h
    · exact .inr ⟨_, h⟩
    · exact chF_mem h
theorem chF_at : ∀ (ps : List Pol) (x : List Chunk) (i : Nat) (p : Pol), ps[i]? = some p → hatL (chF ps ++ x) (2 * i + 1) = .row 50 5 1 (dRows (p.leases.map encL))
  | q :: ps, x, 0, p, h => by simp at h; subst h; rfl
  | q :: ps, x, i + 1, p, h => by
    simp only [List.getElem?_cons_succ] at h
    have := chF_at ps x i p h
    simp only [chF, List.cons_append]
    rw [show 2 * (i + 1) + 1 = (2 * i + 1) + 1 + 1 by omega]
    exact this
theorem hat_right : ∀ (a b : List Chunk) (i : Nat), hatL (a ++ b) (a.length + i) = hatL b i
  | [], b, i => by simp
  | c :: a, b, i => by
    simp only [List.cons_append, List.length_cons]
    rw [show a.length + 1 + i = (a.length + i) + 1 by omega]
    exact hat_right a b i
/-- The last chunks, one of which may be turned. -/
def tailF (j : Nat) (c : Chunk) (ps : List Pol) (e : Chunk) : List Chunk := List.replicate (2 * j) .gone ++ (.gone :: c :: (chF ps ++ [e]))
structure TailOK (T : Chunk → List Chunk) (j q : Nat) (ps : List Pol) (e : Chunk) : Prop where
  a : ∀ c x, hatL (T c ++ x) (2 * j + 1) = c
  a0 : ∀ c, hatL (T c) (2 * j + 1) = c
  b : ∀ c x, hatL (T c ++ x) q = e
  b0 : ∀ c, hatL (T c) q = e
  c : ∀ c d, setC (T c) (2 * j + 1) d = T d
  len : ∀ c, (T c).length = q + 1
  h : ∀ n c, belowC n c = true → belowC n e = true → belowH n (T c) = true
  r : ∀ c x i p, ps[i]? = some p → hatL (T c ++ x) (2 * j + 1 + 2 * (i + 1)) = .row 50 5 1 (dRows (p.leases.map encL))
  f : ∀ c g d, fzC (2 * j + 7) g d e = e → fzH (2 * j + 7) g d 6 (T c) = T .gone
theorem tail_split (j : Nat) (c : Chunk) (ps : List Pol) (e : Chunk) : tailF j c ps e = (List.replicate (2 * j) Chunk.gone ++ [.gone]) ++ c :: (chF ps ++ [e]) := by
  unfold tailF; simp
theorem tailOK (j q : Nat) (ps : List Pol) (e : Chunk) (hq : q = 2 * j + 2 + 2 * ps.length) : TailOK (fun c => tailF j c ps e) j q ps e := by
  have hA : (List.replicate (2 * j) Chunk.gone ++ [Chunk.gone]).length = 2 * j + 1 := by simp
  have a0 : ∀ c, hatL (tailF j c ps e) (2 * j + 1) = c := fun c => by rw [tail_split, ← hA]; exact hat_end _ _ _
  have hl : ∀ c, (tailF j c ps e).length = q + 1 := fun c => by unfold tailF; simp [chF_len]; omega
  have b0 : ∀ c, hatL (tailF j c ps e) q = e := fun c => by
    have : tailF j c ps e = (List.replicate (2 * j) Chunk.gone ++ (.gone :: c :: chF ps)) ++ [e] := by unfold tailF; simp
    rw [this, hat_snoc, if_pos]
    simp [chF_len]; omega
  refine ⟨fun c x => ?_, a0, fun c x => ?_, b0, fun c d => ?_, hl, fun n c h1 h2 => ?_, fun c x i p hp => ?_, fun c g d he => ?_⟩
  · rw [hat_app _ _ _ (by rw [hl]; omega), a0]
  · rw [hat_app _ _ _ (by rw [hl]; omega), b0]
  · show setC (tailF j c ps e) (2 * j + 1) d = tailF j d ps e
    rw [tail_split, tail_split, ← hA]; exact setC_app _ _ _ _
  · have : belowH n (List.replicate (2 * j) Chunk.gone) = true := by
      generalize 2 * j = m
      induction m with
      | zero => rfl
      | succ m ih => rw [List.replicate_succ]; simp only [belowH, belowC, ih, Bool.and_self]
    show belowH n (tailF j c ps e) = true
    unfold tailF
    simp only [belowH_app, belowH, this, h1, h2, belowH_chF, Bool.and_true, Bool.true_and]; rfl
  · show hatL (tailF j c ps e ++ x) _ = _
    have : tailF j c ps e ++ x = (List.replicate (2 * j) Chunk.gone ++ [.gone, c]) ++ (chF ps ++ ([e] ++ x)) := by unfold tailF; simp
    rw [this]
    have hlen : (List.replicate (2 * j) Chunk.gone ++ [.gone, c]).length = 2 * j + 2 := by simp
    rw [show 2 * j + 1 + 2 * (i + 1) = (List.replicate (2 * j) Chunk.gone ++ [.gone, c]).length + (2 * i + 1) by rw [hlen]; omega, hat_right]
    exact chF_at ps _ i p hp
  · show fzH (2 * j + 7) g d 6 (tailF j c ps e) = tailF j .gone ps e
    rw [tail_split, tail_split, fzH_app, hA]
    have h1 : fzH (2 * j + 7) g d 6 (List.replicate (2 * j) Chunk.gone ++ [Chunk.gone]) = List.replicate (2 * j) Chunk.gone ++ [Chunk.gone] := by
      refine fzH_same _ _ _ _ _ (fun c hc => ?_) (fun x h1 h2 => by rw [hA] at h2; omega)
      have : c = .gone := by simp at hc; rcases hc with h | h <;> first | exact h.2 | exact h
      subst this; rfl
    rw [h1, show 6 + (2 * j + 1) = 2 * j + 7 by omega]
    simp only [fzH, if_true]
    rw [fzH_same _ _ _ _ _ (fun c hc => ?_) (fun x h1 h2 => by omega)]
    simp only [List.mem_append, List.mem_singleton] at hc
    rcases hc with hc | rfl
    · rcases chF_mem hc with rfl | ⟨ls, rfl⟩
      · rfl
      · simp only [fzC, fzR_d]
    · exact he
theorem viewR_rowsF {h : Nat → Chunk} {n : Nat} : ∀ (ps : List Pol) (k : Nat), (∀ i p, ps[i]? = some p → ∃ ls, h (k + 2 * i) = .row 50 5 1 (dRows ls)) → ∃ ds, viewR (viewF h (n + 1)) (rowsF k ps) = some ds
  | [], _, _ => ⟨[], rfl⟩
  | p :: ps, k, hk => by
    obtain ⟨ls, h1⟩ := hk 0 p rfl
    obtain ⟨ds, h2⟩ := viewR_rowsF (n := n) ps (k + 2) (fun i q hq => by
      obtain ⟨ls, h3⟩ := hk (i + 1) q (by simpa using hq)
      exact ⟨ls, by rw [← h3]; congr 1; omega⟩)
    rw [Nat.mul_zero, Nat.add_zero] at h1
    simp only [rowsF, viewR, h2, polRow, viewL, viewF, viewF_d, h1, if_true, viewR_d, Option.map_some]
    exact ⟨_, rfl⟩
end Go.Proofs.Ytbeocackphfijaa
namespace Go.Proofs.Ytbeocackphfijaa
open Go Go.RowKit
/-- A lease that is over. -/
def overB (t : Int) (l : Lse) : Bool := (l.kind == 3) && decide (l.till ≤ t)
theorem pass1_p (l : Lse) (t : Int) (x : D) : PSpec Try.prog 72 [.agg (encL l), .ept [.ept [.v (.int .i64 t), x]]] (.v (.bool (overB t l))) := by
  unfold overB
  refine ps_i tab_ok mixed Try.func72 rfl Try.ntmps72 Try.results72 (by kernel_rfl) ?_
  repeat' (first | (with_reducible refine And.intro ?_ ?_) | (with_reducible refine gK_i (fun _ => ?_) (fun _ => ?_)) | (with_reducible refine condS_i (fun _ => ?_) (fun _ => ?_)) | (with_reducible refine drw_i (by kernel_rfl)) | simp -dsimp only [go_sem, ↓reduceIte, reduceCtorEq, Nat.reduceAdd, Nat.reduceMul, Nat.reduceSub, Nat.reduceLeDiff, Nat.reduceLT, Nat.reduceEqDiff, Int.reduceLE, Int.reduceLT, Int.reduceToNat, Int.reduceBEq, Int.reduceBNe, Int.reduceEq, Int.reduceAdd, Int.reduceSub, Int.reduceMul, Int.reduceNeg, Int.cast_ofNat_Int, *, encL, undef] | ((with_reducible refine opK_c ?_); simp -dsimp only [go_sem, ↓reduceIte, reduceCtorEq, Nat.reduceAdd, Nat.reduceMul, Nat.reduceSub, Nat.reduceLeDiff, Nat.reduceLT, Nat.reduceEqDiff, Int.reduceLE, Int.reduceLT, Int.reduceToNat, Int.reduceBEq, Int.reduceBNe, Int.reduceEq, Int.reduceAdd, Int.reduceSub, Int.reduceMul, Int.reduceNeg, Int.cast_ofNat_Int, encL, undef]; first | refine callK_r (by first | assumption | fail) (by first | exact .inl rfl | exact .inr rfl) ?_ | (refine callK_i (by assumption) ?_ ?_ ?_; (solve | (repeat (first | exact DLe.refl _ | exact DLe.nil _ | (refine DLe.tup ?_) | (refine DLe.agg ?_ rfl) | exact trivial | (refine And.intro ?_ ?_)))); (solve | exact .inl rfl | exact .inr rfl))) | fail | omega | exact decide_eq_true (by omega) | exact DLe.refl _)
/-- Pass's answer. -/
def passP (t : Int) (p : Pol) : Pol := { p with leases := p.leases.filter fun l => !overB t l }
def passR (b : Bok) (n : Int) : Bok × Int :=
  if chkBk b ≠ 0 then (Bok.zero, chkBk b) else
  if n < 1 ∨ n > 1073741824 - b.tick then (Bok.zero, 3) else (⟨b.tick + n, b.pools.map (passP (b.tick + n))⟩, 0)
/-- The heap, while a book passes. -/
def passH (b : Bok) (t : Int) (rows : List (List PV)) (T : List Chunk) : List Chunk :=
  .box 24 [.d (.v (.int .i64 b.tick)), .d (.sl 9 (b.pools.map encPol))] :: .box 24 [.d (.v (.int .i64 0)), .d (.v (.slice none 0 0))] :: .gone :: .gone :: .box 24 [.d (.v (.int .i64 t)), .own 5 b.pools.length] :: .row 46 9 b.pools.length rows :: T
theorem passH_below {b : Bok} {t : Int} {rows : List (List PV)} {T : List Chunk} {n : Nat} (h1 : belowR n rows = true) (h2 : belowH n T = true) (h3 : 6 ≤ n) : belowH n (passH b t rows T) = true := by
  simp only [passH, belowH, belowC, belowL, belowP, h1, h2, Bool.and_true, Bool.true_and, decide_eq_true_eq]
  omega
set_option maxRecDepth 100000 in
set_option maxHeartbeats 1000000 in
theorem pass_p (b : Bok) (n : Int) (hz : ∀ p ∈ b.pools, p.leases.length ≤ 3518437208882) : PSpec Try.prog 22 [.agg (encB b), .v (.int .i64 n)] (.tup [.agg (encB (passR b n).1), .v (.int .i64 (passR b n).2)]) := by
  obtain ⟨R, hR⟩ : ∃ R, R = passR b n := ⟨_, rfl⟩
  rw [← hR]
  replace hR := Lib.hid hR
  by_cases hc : chkBk b = 0
  · have hbk := bookOK hc
    have hbg := beginA_m b hz hc
    have ht := hbk.tick
    have hws : IntKind.i64.wrap (1073741824 - b.tick) = 1073741824 - b.tick := by rw [IntKind.wrap_i64]; omega
    have hR2 : R = if n < 1 ∨ n > 1073741824 - b.tick then (Bok.zero, 3) else (⟨b.tick + n, b.pools.map (passP (b.tick + n))⟩, 0) := by rw [hR.out]; unfold passR; rw [if_neg (by simpa using hc)]
    replace hR2 := Lib.hid hR2
    clear hR hc
    by_cases hn : n < 1 ∨ n > 1073741824 - b.tick
    · clear hbk
      refine ps_i tab_ok mixed Try.func22 rfl Try.ntmps22 Try.results22 (by kernel_rfl) ?_
      repeat' (first | (with_reducible refine And.intro ?_ ?_) | (with_reducible refine gK_i (fun _ => ?_) (fun _ => ?_)) | (with_reducible refine condS_i (fun _ => ?_) (fun _ => ?_)) | (with_reducible refine drw_i (by kernel_rfl)) | simp -dsimp only [go_sem, ↓reduceIte, reduceCtorEq, Nat.reduceAdd, Nat.reduceMul, Nat.reduceSub, Nat.reduceLeDiff, Nat.reduceLT, Nat.reduceEqDiff, Int.reduceLE, Int.reduceLT, Int.reduceToNat, Int.reduceBEq, Int.reduceBNe, Int.reduceEq, Int.reduceAdd, Int.reduceSub, Int.reduceMul, Int.reduceNeg, Int.cast_ofNat_Int, *, encB, renR_rowsF, heapM_chF, hws, setC_last, setC_last1, hat_end, undef] | ((with_reducible refine opK_c ?_); simp -dsimp only [go_sem, ↓reduceIte, reduceCtorEq, Nat.reduceAdd, Nat.reduceMul, Nat.reduceSub, Nat.reduceLeDiff, Nat.reduceLT, Nat.reduceEqDiff, Int.reduceLE, Int.reduceLT, Int.reduceToNat, Int.reduceBEq, Int.reduceBNe, Int.reduceEq, Int.reduceAdd, Int.reduceSub, Int.reduceMul, Int.reduceNeg, Int.cast_ofNat_Int, encB, renR_rowsF, heapM_chF, hws, setC_last, setC_last1, hat_end, undef]; first | refine callK_r (by first | assumption | fail) (by first | exact .inl rfl | exact .inr rfl) ?_ | (refine callK_i (by assumption) ?_ ?_ ?_; (solve | (repeat (first | exact DLe.refl _ | exact DLe.nil _ | (refine DLe.tup ?_) | (refine DLe.agg ?_ rfl) | exact trivial | (refine And.intro ?_ ?_)))); (solve | exact .inl rfl | exact .inr rfl))) | (refine opK_M [] (hbg) ?_ ?_ ?_ ?_ ?_ ?_; (solve | rfl | simp only [go_sem, ↓reduceIte, reduceCtorEq, Nat.reduceAdd, Nat.reduceMul, Nat.reduceSub, Nat.reduceLeDiff, Nat.reduceLT, Nat.reduceEqDiff, Int.reduceLE, Int.reduceLT, Int.reduceToNat, Int.reduceBEq, Int.reduceBNe, Int.reduceEq, Int.reduceAdd, Int.reduceSub, Int.reduceMul, Int.reduceNeg, Int.cast_ofNat_Int, encB, renR_rowsF, heapM_chF]); (solve | rfl); (solve | decide); (solve | simp); (solve | simp only [go_sem, ↓reduceIte, reduceCtorEq, Nat.reduceAdd, Nat.reduceMul, Nat.reduceSub, Nat.reduceLeDiff, Nat.reduceLT, Nat.reduceEqDiff, Int.reduceLE, Int.reduceLT, Int.reduceToNat, Int.reduceBEq, Int.reduceBNe, Int.reduceEq, Int.reduceAdd, Int.reduceSub, Int.reduceMul, Int.reduceNeg, Int.cast_ofNat_Int, lentOK, encB, renR_rowsF, heapM_chF])) | omega | exact decide_eq_true (by omega) | exact DLe.refl _)
      all_goals first
        | (exfalso; rename_i q1 q2; simp only [decide_eq_false_iff_not] at q1 q2; omega)
        | (clear hz hbg; (rw [show R = (Bok.zero, 3) from (by rw [hR2.out]; grind)]; (try simp only [List.map_append, List.map_cons]); exact (by repeat (first | exact DLe.refl _ | exact DLe.nil _ | (refine DLe.tup ?_) | (refine DLe.agg ?_ rfl) | exact trivial | (refine And.intro ?_ ?_)))))
    · have h1 : decide (n < 1) = false := by simp; omega
      have h2 : decide (n > 1073741824 - b.tick) = false := by simp; omega
      have hwt : IntKind.i64.wrap (b.tick + n) = b.tick + n := by rw [IntKind.wrap_i64]; omega
      replace hn := Lib.hid hn
      refine ps_i tab_ok mixed Try.func22 rfl Try.ntmps22 Try.results22 (by kernel_rfl) ?_
      repeat' (first | (with_reducible refine And.intro ?_ ?_) | (with_reducible refine gK_i (fun _ => ?_) (fun _ => ?_)) | (with_reducible refine condS_i (fun _ => ?_) (fun _ => ?_)) | (with_reducible refine drw_i (by kernel_rfl)) | simp -dsimp only [go_sem, ↓reduceIte, reduceCtorEq, Nat.reduceAdd, Nat.reduceMul, Nat.reduceSub, Nat.reduceLeDiff, Nat.reduceLT, Nat.reduceEqDiff, Int.reduceLE, Int.reduceLT, Int.reduceToNat, Int.reduceBEq, Int.reduceBNe, Int.reduceEq, Int.reduceAdd, Int.reduceSub, Int.reduceMul, Int.reduceNeg, Int.cast_ofNat_Int, *, encB, renR_rowsF, heapM_chF, hws, h1, h2, hwt, setC_last, setC_last1, hat_end, rowsF_len, undef] | ((with_reducible refine opK_c ?_); simp -dsimp only [go_sem, ↓reduceIte, reduceCtorEq, Nat.reduceAdd, Nat.reduceMul, Nat.reduceSub, Nat.reduceLeDiff, Nat.reduceLT, Nat.reduceEqDiff, Int.reduceLE, Int.reduceLT, Int.reduceToNat, Int.reduceBEq, Int.reduceBNe, Int.reduceEq, Int.reduceAdd, Int.reduceSub, Int.reduceMul, Int.reduceNeg, Int.cast_ofNat_Int, encB, renR_rowsF, heapM_chF, hws, h1, h2, hwt, setC_last, setC_last1, hat_end, rowsF_len, undef]; first | refine callK_r (by first | assumption | fail) (by first | exact .inl rfl | exact .inr rfl) ?_ | (refine callK_i (by assumption) ?_ ?_ ?_; (solve | (repeat (first | exact DLe.refl _ | exact DLe.nil _ | (refine DLe.tup ?_) | (refine DLe.agg ?_ rfl) | exact trivial | (refine And.intro ?_ ?_)))); (solve | exact .inl rfl | exact .inr rfl))) | (refine opK_M [] (hbg) ?_ ?_ ?_ ?_ ?_ ?_; (solve | rfl | simp only [go_sem, ↓reduceIte, reduceCtorEq, Nat.reduceAdd, Nat.reduceMul, Nat.reduceSub, Nat.reduceLeDiff, Nat.reduceLT, Nat.reduceEqDiff, Int.reduceLE, Int.reduceLT, Int.reduceToNat, Int.reduceBEq, Int.reduceBNe, Int.reduceEq, Int.reduceAdd, Int.reduceSub, Int.reduceMul, Int.reduceNeg, Int.cast_ofNat_Int, encB, renR_rowsF, heapM_chF]); (solve | rfl); (solve | decide); (solve | simp); (solve | simp only [go_sem, ↓reduceIte, reduceCtorEq, Nat.reduceAdd, Nat.reduceMul, Nat.reduceSub, Nat.reduceLeDiff, Nat.reduceLT, Nat.reduceEqDiff, Int.reduceLE, Int.reduceLT, Int.reduceToNat, Int.reduceBEq, Int.reduceBNe, Int.reduceEq, Int.reduceAdd, Int.reduceSub, Int.reduceMul, Int.reduceNeg, Int.cast_ofNat_Int, lentOK, encB, renR_rowsF, heapM_chF])) | omega | exact decide_eq_true (by omega) | exact DLe.refl _)
      have hqn := chF_len b.pools
      rw [hqn]
      refine loopG tab_ok mixed (fun m e h => ∃ (pre rest : List Pol), b.pools = pre ++ rest ∧ m = rest.length ∧ e = [(44, .d (.v (.int .i64 pre.length))), (43, .d (.v (.int .i64 b.pools.length))), (6, .ptr (2 * b.pools.length + 6) 0), (5, .d (.v (.int .i64 0))), (4, .ptr 1 0)] ∧
        h = passH b (b.tick + n) (dRows ((pre.map (passP (b.tick + n))).map encPol) ++ rowsF (2 * pre.length + 7) rest) (List.replicate (2 * pre.length) .gone ++ (chF rest ++ [.box 54 [.ptr 4 0]]))) _ _ _ ⟨[], b.pools, rfl, rfl, rfl, rfl⟩ ?_ ?_
      · refine weak_forget [] (by simp) (by simp only [passH, List.map_nil, List.append_nil, List.length_nil, Nat.mul_zero, List.replicate_zero, List.nil_append]; rfl) (by (repeat' (first | exact trivial | (refine ⟨rfl, ?_⟩)))) (by simp [passH, belowE, belowP, chF_len]) ?_
        refine passH_below (by simp only [List.map_nil, List.length_nil]; exact belowR_rowsF _ b.pools 7 (by simp [passH, chF_len]; omega)) ?_ (by simp [passH])
        simp [belowH_app, belowH_chF, belowH, belowC, belowL, belowP, passH]
      · rintro m e h ⟨pre, rest, hpr, hm, rfl, rfl⟩ C hC
        cases rest with
        | nil =>
          have hN : b.pools.length = pre.length := by rw [hpr]; simp
          have hq : hatL (List.replicate (2 * pre.length) Chunk.gone ++ [.box 54 [.ptr 4 0]]) (2 * b.pools.length) = .box 54 [.ptr 4 0] := by rw [hat_snoc, if_pos (by simp; omega)]
          have hjI : ¬ (pre.length : Int) < (b.pools.length : Int) := by omega
          have hpr2 : b.pools = pre := by rw [hpr]; simp
          have hR3 := hR2.out
          rw [if_neg hn.out, hpr2] at hR3
          clear hC hm hpr hpr2 hN
          replace hjI : decide ((pre.length : Int) < (b.pools.length : Int)) = false := by simpa using hjI
          simp only [passH, rowsF, chF, List.append_nil, List.nil_append]
          generalize List.replicate (2 * pre.length) Chunk.gone ++ [Chunk.box 54 [.ptr 4 0]] = T at *
          replace hR3 := Lib.hid hR3
          repeat' (first | (with_reducible refine And.intro ?_ ?_) | (with_reducible refine gK_i (fun _ => ?_) (fun _ => ?_)) | (with_reducible refine condS_i (fun _ => ?_) (fun _ => ?_)) | (with_reducible refine drw_i (by kernel_rfl)) | simp -dsimp only [go_sem, ↓reduceIte, reduceCtorEq, Nat.reduceAdd, Nat.reduceMul, Nat.reduceSub, Nat.reduceLeDiff, Nat.reduceLT, Nat.reduceEqDiff, Int.reduceLE, Int.reduceLT, Int.reduceToNat, Int.reduceBEq, Int.reduceBNe, Int.reduceEq, Int.reduceAdd, Int.reduceSub, Int.reduceMul, Int.reduceNeg, Int.cast_ofNat_Int, *, encB, hjI, hq] | ((with_reducible refine opK_c ?_); simp -dsimp only [go_sem, ↓reduceIte, reduceCtorEq, Nat.reduceAdd, Nat.reduceMul, Nat.reduceSub, Nat.reduceLeDiff, Nat.reduceLT, Nat.reduceEqDiff, Int.reduceLE, Int.reduceLT, Int.reduceToNat, Int.reduceBEq, Int.reduceBNe, Int.reduceEq, Int.reduceAdd, Int.reduceSub, Int.reduceMul, Int.reduceNeg, Int.cast_ofNat_Int, encB, hjI, hq]; first | refine callK_r (by first | assumption | fail) (by first | exact .inl rfl | exact .inr rfl) ?_ | (refine callK_i (by assumption) ?_ ?_ ?_; (solve | (repeat (first | exact DLe.refl _ | exact DLe.nil _ | (refine DLe.tup ?_) | (refine DLe.agg ?_ rfl) | exact trivial | (refine And.intro ?_ ?_)))); (solve | exact .inl rfl | exact .inr rfl))) | fail | omega | exact decide_eq_true (by omega) | exact DLe.refl _)
          rw [hR3.out]
          exact (by repeat (first | exact DLe.refl _ | exact DLe.nil _ | (refine DLe.tup ?_) | (refine DLe.agg ?_ rfl) | exact trivial | (refine And.intro ?_ ?_)))
        | cons p rest =>
          have hN : b.pools.length = pre.length + 1 + rest.length := by rw [hpr]; simp; omega
          have hjI : (pre.length : Int) < (b.pools.length : Int) := by omega
          have hwr : IntKind.i64.wrap ((pre.length : Int) + 1) = ((pre.length + 1 : Nat) : Int) := by rw [IntKind.wrap_i64]; have := hbk.n8; omega
          have hpl := hbk.l32 p (by rw [hpr]; simp)
          have hzl := fun r => zipF_len (pre.map (passP (b.tick + n))) r (2 * pre.length + 7 + 2) rest
          have hzg := fun r => zipF_get (pre.map (passP (b.tick + n))) r (2 * pre.length + 7 + 2) rest
          have hzs := fun r r' => zipF_set (pre.map (passP (b.tick + n))) r r' (2 * pre.length + 7 + 2) rest
          rw [List.length_map] at hzl
          simp only [List.length_map] at hzg hzs
          obtain ⟨T, hT, hTe⟩ : ∃ T : Chunk → List Chunk, TailOK T pre.length (2 * b.pools.length) rest (.box 54 [.ptr 4 0]) ∧ T = fun c => tailF pre.length c rest (.box 54 [.ptr 4 0]) := ⟨_, tailOK pre.length (2 * b.pools.length) rest (.box 54 [.ptr 4 0]) (by omega), rfl⟩
          have hTg : T .gone = List.replicate (2 * (pre ++ [p]).length) .gone ++ (chF rest ++ [.box 54 [.ptr 4 0]]) := by
            rw [hTe]
            show tailF _ _ _ _ = _
            unfold tailF
            rw [List.length_append, List.length_cons, List.length_nil, show 2 * (pre.length + (0 + 1)) = 2 * pre.length + 1 + 1 by omega, List.replicate_succ', List.replicate_succ']
            simp
          have hTc : T (.row 50 5 1 (dRows (p.leases.map encL))) = List.replicate (2 * pre.length) .gone ++ (chF (p :: rest) ++ [.box 54 [.ptr 4 0]]) := by rw [hTe]; rfl
          rw [← hTc]
          clear hTe hTc
          have hzc : dRows ((pre.map (passP (b.tick + n))).map encPol) ++ rowsF (2 * pre.length + 7) (p :: rest) = zipF (pre.map (passP (b.tick + n))) (polRow p (.own (2 * pre.length + 7) 1)) (2 * pre.length + 7 + 2) rest := rfl
          rw [hzc]
          clear hzc
          have hview : ∀ (m : List Lse) (x : List Chunk) (v : Nat), ∃ d, viewL (viewF (hatL (passH b (b.tick + n) (zipF (pre.map (passP (b.tick + n))) (polRow p (.own (2 * pre.length + 7) 1)) (2 * pre.length + 7 + 2) rest) (T (.row 50 5 1 (dRows (m.map encL))) ++ x))) (v + 5)) [.ptr (2 * b.pools.length + 6) 0] = some [.ept [.ept [.v (.int .i64 (b.tick + n)), d]]] := by
            intro m x v
            obtain ⟨ds, hds⟩ := viewR_rowsF (h := hatL (passH b (b.tick + n) (zipF (pre.map (passP (b.tick + n))) (polRow p (.own (2 * pre.length + 7) 1)) (2 * pre.length + 7 + 2) rest) (T (.row 50 5 1 (dRows (m.map encL))) ++ x))) (n := v + 1) rest (2 * pre.length + 7 + 2) (fun i q hq => ⟨q.leases.map encL, by
              rw [show 2 * pre.length + 7 + 2 + 2 * i = 2 * pre.length + 1 + 2 * (i + 1) + 6 by omega]
              exact hT.r _ x i q hq⟩)
            have h1 : hatL (passH b (b.tick + n) (zipF (pre.map (passP (b.tick + n))) (polRow p (.own (2 * pre.length + 7) 1)) (2 * pre.length + 7 + 2) rest) (T (.row 50 5 1 (dRows (m.map encL))) ++ x)) (2 * b.pools.length + 6) = .box 54 [.ptr 4 0] := hT.b _ x
            have h2 : hatL (passH b (b.tick + n) (zipF (pre.map (passP (b.tick + n))) (polRow p (.own (2 * pre.length + 7) 1)) (2 * pre.length + 7 + 2) rest) (T (.row 50 5 1 (dRows (m.map encL))) ++ x)) (2 * pre.length + 7) = .row 50 5 1 (dRows (m.map encL)) := hT.a _ x
            have h3 : ∀ r T', hatL (passH b (b.tick + n) r T') 4 = .box 24 [.d (.v (.int .i64 (b.tick + n))), .own 5 b.pools.length] := fun _ _ => rfl
            have h4 : ∀ r T', hatL (passH b (b.tick + n) r T') 5 = .row 46 9 b.pools.length r := fun _ _ => rfl
            have h5 : ∃ e, viewR (viewF (hatL (passH b (b.tick + n) (zipF (pre.map (passP (b.tick + n))) (polRow p (.own (2 * pre.length + 7) 1)) (2 * pre.length + 7 + 2) rest) (T (.row 50 5 1 (dRows (m.map encL))) ++ x))) (v + 2)) (zipF (pre.map (passP (b.tick + n))) (polRow p (.own (2 * pre.length + 7) 1)) (2 * pre.length + 7 + 2) rest) = some e := by
              generalize hH : hatL (passH b (b.tick + n) (zipF (pre.map (passP (b.tick + n))) (polRow p (.own (2 * pre.length + 7) 1)) (2 * pre.length + 7 + 2) rest) (T (.row 50 5 1 (dRows (m.map encL))) ++ x)) = H at *
              simp only [zipF, viewR_app, viewR_d, viewR, hds, polRow, viewL, viewF, viewF_d, h2, if_true, Option.map_some]
              exact ⟨_, rfl⟩
            obtain ⟨e, he⟩ := h5
            refine ⟨.sl 9 e, ?_⟩
            simp only [viewL, viewF, h1, h3, h4, List.drop_zero, if_true, he, viewF_d, Option.map_some]
          have hset : ∀ r c c', setC (passH b (b.tick + n) r (T c)) (2 * pre.length + 7) c' = passH b (b.tick + n) r (T c') := by
            intro r c c'
            show _ :: _ :: _ :: _ :: _ :: _ :: setC (T c) (2 * pre.length + 1) c' = _
            rw [hT.c]; rfl
          have hbel : ∀ m : List Lse, belowH (passH b (b.tick + n) (zipF (pre.map (passP (b.tick + n))) (polRow p (.own (2 * pre.length + 7) 1)) (2 * pre.length + 7 + 2) rest) (T (.row 50 5 1 (dRows (m.map encL))))).length (passH b (b.tick + n) (zipF (pre.map (passP (b.tick + n))) (polRow p (.own (2 * pre.length + 7) 1)) (2 * pre.length + 7 + 2) rest) (T (.row 50 5 1 (dRows (m.map encL))))) = true := by
            intro m
            have hl : (passH b (b.tick + n) (zipF (pre.map (passP (b.tick + n))) (polRow p (.own (2 * pre.length + 7) 1)) (2 * pre.length + 7 + 2) rest) (T (.row 50 5 1 (dRows (m.map encL))))).length = 2 * b.pools.length + 7 := by simp [passH, hT.len]
            rw [hl]
            refine passH_below ?_ (hT.h _ _ (belowR_d _ _) (by simp [belowC, belowL, belowP])) (by omega)
            unfold zipF
            rw [belowR_app, belowR_d]
            simp only [belowR, polRow, belowL, belowP, belowR_rowsF (2 * b.pools.length + 7) rest (2 * pre.length + 7 + 2) (by omega), Bool.and_true, Bool.true_and, decide_eq_true_eq]
            first | done | omega
          have hdl := delf_Lease (overB (b.tick + n)) p.leases (2 * pre.length + 7) 1 72 [.ptr (2 * b.pools.length + 6) 0] (passH b (b.tick + n) (zipF (pre.map (passP (b.tick + n))) (polRow p (.own (2 * pre.length + 7) 1)) (2 * pre.length + 7 + 2) rest) (T (.row 50 5 1 (dRows (p.leases.map encL))))) (hT.a0 _)
            (by simp [passH, hT.len, belowL, belowP]) (hbel p.leases) (by omega)
            (by
              obtain ⟨d, hd⟩ := hview p.leases [] 0
              rw [List.append_nil] at hd
              exact ⟨_, hd, fun x _ => pass1_p x (b.tick + n) d⟩)
            (fun m c => by
              obtain ⟨d, hd⟩ := hview m [c] 1
              rw [hset]
              exact ⟨_, hd, fun x _ => pass1_p x (b.tick + n) d⟩)
          rw [hset] at hdl
          have hTa := hT.a0
          have hTb := hT.b0
          have hTc2 := hT.c
          have hTl := hT.len
          have hTf := hT.f
          have hTh := hT.h
          clear hview hset hbel hT hbg hR2
          simp only [passH, polRow] at hdl ⊢
          replace hN := Lib.hid hN
          replace hm := Lib.hid hm
          replace hpr := Lib.hid hpr
          replace hTg := Lib.hid hTg
          replace hTf := Lib.hid hTf
          replace hTh := Lib.hid hTh
          replace hn := Lib.hid hn
          clear hbk hpl ht
          repeat' (first | (with_reducible refine And.intro ?_ ?_) | (with_reducible refine gK_i (fun _ => ?_) (fun _ => ?_)) | (with_reducible refine condS_i (fun _ => ?_) (fun _ => ?_)) | (with_reducible refine drw_i (by kernel_rfl)) | simp -dsimp only [go_sem, ↓reduceIte, reduceCtorEq, Nat.reduceAdd, Nat.reduceMul, Nat.reduceSub, Nat.reduceLeDiff, Nat.reduceLT, Nat.reduceEqDiff, Int.reduceLE, Int.reduceLT, Int.reduceToNat, Int.reduceBEq, Int.reduceBNe, Int.reduceEq, Int.reduceAdd, Int.reduceSub, Int.reduceMul, Int.reduceNeg, Int.cast_ofNat_Int, *, encB, encPol, hjI, hwr, hTa, hTb, hTc2, hTl, hzg, hzl, hzs] | ((with_reducible refine opK_c ?_); simp -dsimp only [go_sem, ↓reduceIte, reduceCtorEq, Nat.reduceAdd, Nat.reduceMul, Nat.reduceSub, Nat.reduceLeDiff, Nat.reduceLT, Nat.reduceEqDiff, Int.reduceLE, Int.reduceLT, Int.reduceToNat, Int.reduceBEq, Int.reduceBNe, Int.reduceEq, Int.reduceAdd, Int.reduceSub, Int.reduceMul, Int.reduceNeg, Int.cast_ofNat_Int, encB, encPol, hjI, hwr, hTa, hTb, hTc2, hTl, hzg, hzl, hzs]; first | refine callK_r (by first | assumption | fail) (by first | exact .inl rfl | exact .inr rfl) ?_ | (refine callK_i (by assumption) ?_ ?_ ?_; (solve | (repeat (first | exact DLe.refl _ | exact DLe.nil _ | (refine DLe.tup ?_) | (refine DLe.agg ?_ rfl) | exact trivial | (refine And.intro ?_ ?_)))); (solve | exact .inl rfl | exact .inr rfl))) | (refine opK_W hdl ?_) | omega | exact decide_eq_true (by omega) | exact DLe.refl _)
          refine hC _ _ _ _ _ (by have := hm.out; simp at this; omega) ⟨pre ++ [p], rest, by rw [hpr.out]; simp, rfl, rfl, rfl⟩ ?_
          refine (weak_freeze (2 * pre.length + 7) 2 50 5 ((p.leases.filter fun x => !overB (b.tick + n) x).map encL) (hTa _)).trans ?_
          have n0 := eq_false (show ¬ (0 = 2 * pre.length + 7) by omega)
          have n1 := eq_false (show ¬ (1 = 2 * pre.length + 7) by omega)
          have n2 := eq_false (show ¬ (2 = 2 * pre.length + 7) by omega)
          have n3 := eq_false (show ¬ (3 = 2 * pre.length + 7) by omega)
          have n4 := eq_false (show ¬ (4 = 2 * pre.length + 7) by omega)
          have n5 := eq_false (show ¬ (5 = 2 * pre.length + 7) by omega)
          have hfr := fun d => fzR_rowsF (2 * pre.length + 7) 2 d rest (2 * pre.length + 7 + 2) (by omega)
          have hft := fun d => hTf.out (.row 50 5 2 (dRows ((p.leases.filter fun x => !overB (b.tick + n) x).map encL))) 2 d rfl
          simp only [fzE, fz, fzL, fzH, fzC, fzR, fzR_app, fzR_d, fzL_d, List.map_cons, List.map_nil, Nat.reduceAdd, Nat.reduceEqDiff, reduceIte, and_true, true_and, and_self, and_false, false_and, Nat.zero_add, Nat.add_zero, reduceCtorEq, zipF, hfr, hft, n0, n1, n2, n3, n4, n5, if_false]
          have hlp : (pre ++ [p]).length = pre.length + 1 := by simp
          have e1 : dRows (((pre ++ [p]).map (passP (b.tick + n))).map encPol) ++ rowsF (2 * (pre ++ [p]).length + 7) rest = dRows ((pre.map (passP (b.tick + n))).map encPol) ++ polRow p (.d (.sl 5 ((p.leases.filter fun x => !overB (b.tick + n) x).map encL))) :: rowsF (2 * pre.length + 7 + 2) rest := by
            rw [hlp, show 2 * (pre.length + 1) + 7 = 2 * pre.length + 7 + 2 by omega]
            simp [dRows, passP, encPol, polRow]
          rw [e1, ← hTg.out, hlp]
          have hle : (passH b (b.tick + n) (dRows ((pre.map (passP (b.tick + n))).map encPol) ++ polRow p (.d (.sl 5 ((p.leases.filter fun x => !overB (b.tick + n) x).map encL))) :: rowsF (2 * pre.length + 7 + 2) rest) (T .gone)).length = 2 * b.pools.length + 7 := by simp [passH, hTl]
          refine weak_forget [] (by simp) (by rw [List.append_nil]; rfl) (by (repeat' (first | exact trivial | (refine ⟨rfl, ?_⟩)))) (by rw [hle]; simp [belowE, belowP]) ?_
          rw [hle]
          refine passH_below ?_ (hTh.out _ _ rfl (by simp [belowC, belowL, belowP])) (by omega)
          have := hN.out
          rw [belowR_app, belowR_d]
          simp only [belowR, polRow, belowL, belowP, belowR_rowsF (2 * b.pools.length + 7) rest (2 * pre.length + 7 + 2) (by omega), Bool.and_true]
  · have hbg := beginE_p b hz hc
    have h1 : (chkBk b != 0) = true := by simpa using hc
    have hr : R = (Bok.zero, chkBk b) := by rw [hR.out]; unfold passR; rw [if_pos hc]
    rw [hr]
    replace hr := Lib.hid hr
    refine ps_i tab_ok mixed Try.func22 rfl Try.ntmps22 Try.results22 (by kernel_rfl) ?_
    repeat' (first | (with_reducible refine And.intro ?_ ?_) | (with_reducible refine gK_i (fun _ => ?_) (fun _ => ?_)) | (with_reducible refine condS_i (fun _ => ?_) (fun _ => ?_)) | (with_reducible refine drw_i (by kernel_rfl)) | simp -dsimp only [go_sem, ↓reduceIte, reduceCtorEq, Nat.reduceAdd, Nat.reduceMul, Nat.reduceSub, Nat.reduceLeDiff, Nat.reduceLT, Nat.reduceEqDiff, Int.reduceLE, Int.reduceLT, Int.reduceToNat, Int.reduceBEq, Int.reduceBNe, Int.reduceEq, Int.reduceAdd, Int.reduceSub, Int.reduceMul, Int.reduceNeg, Int.cast_ofNat_Int, *, encB, encP, h1] | ((with_reducible refine opK_c ?_); simp -dsimp only [go_sem, ↓reduceIte, reduceCtorEq, Nat.reduceAdd, Nat.reduceMul, Nat.reduceSub, Nat.reduceLeDiff, Nat.reduceLT, Nat.reduceEqDiff, Int.reduceLE, Int.reduceLT, Int.reduceToNat, Int.reduceBEq, Int.reduceBNe, Int.reduceEq, Int.reduceAdd, Int.reduceSub, Int.reduceMul, Int.reduceNeg, Int.cast_ofNat_Int, encB, encP, h1]; first | refine callK_r (by first | assumption | exact hbg) (by first | exact .inl rfl | exact .inr rfl) ?_ | (refine callK_i (by assumption) ?_ ?_ ?_; (solve | (repeat (first | exact DLe.refl _ | exact DLe.nil _ | (refine DLe.tup ?_) | (refine DLe.agg ?_ rfl) | exact trivial | (refine And.intro ?_ ?_)))); (solve | exact .inl rfl | exact .inr rfl))) | fail | omega | exact decide_eq_true (by omega) | exact DLe.refl _)
    exact (by repeat (first | exact DLe.refl _ | exact DLe.nil _ | (refine DLe.tup ?_) | (refine DLe.agg ?_ rfl) | exact trivial | (refine And.intro ?_ ?_)))
end Go.Proofs.Ytbeocackphfijaa
