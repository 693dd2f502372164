/- VpcFaces: its statement, for every input, out of its walk. (texts of this work, joined) -/
import Derived.Test.YtdcjeacphbfmjaaGreatZHVpcFaces5
import Derived.SizedLaws
import Derived.Test.YtdcjeacphbfmjaaGreatRows
import Derived.WalkKit
import Derived.ProofKit
import Derived.OpenShut
import Derived.ShutString
import Derived.ChangeOld
import Derived.Below
set_option linter.unusedSimpArgs false
set_option linter.unusedVariables false
namespace Go.Proofs.YtdcjeacphbfmjaaGreat
open Go Go.RowKit
set_option maxRecDepth 100000 in
set_option maxHeartbeats 4000000 in
theorem ownF_m (v : Vpc) (pre post : List Sbn) (s0 : Sbn) (hv : v.subs = pre ++ s0 :: post) (h4 : v.ranges.length ≤ 4) (h6 : v.subs.length ≤ 6) (h8 : ∀ s ∈ v.subs, s.faces.length ≤ 8 ∧ ∀ f ∈ s.faces, f.addrs.length ≤ 4) :
    MSpec Tryz.prog 43 [.d (.agg (encV v))] [] (.agg [.d (.v (.int .i64 v.id)), .own 2 1, .own 4 v.subs.length]) [.gone, .gone, .row 29 3 1 (dRows (v.ranges.map encG)), .gone, .row 62 4 v.subs.length (zipG encN pre (subRow s0 (.own 6 s0.faces.length)) post), .gone, .row 79 2 s0.faces.length (dRows (s0.faces.map encF))] := by
  replace h8 := Lib.hid h8
  have hlen : v.subs.length = pre.length + 1 + post.length := by rw [hv]; simp; omega
  have hL := Lib.hid hv
  have hlen2 := Lib.hid hlen
  clear hv hlen
  refine ms_i tab_ok mixed Tryz.func43 rfl Tryz.ntmps43 Tryz.results43 (by kernel_rfl) (by simp) (by simp [belowL, belowP]) (by simp [belowH, belowC, belowL, belowP, belowL_d, belowR_d]) ?_
  repeat' (first | (with_reducible refine And.intro ?_ ?_) | (with_reducible refine gK_i (fun _ => ?_) (fun _ => ?_)) | (with_reducible refine condS_i (fun _ => ?_) (fun _ => ?_)) | (with_reducible refine drw_i (by kernel_rfl)) | simp -dsimp only [go_sem, ↓reduceIte, reduceCtorEq, Nat.reduceAdd, Nat.reduceMul, Nat.reduceSub, Nat.reduceLeDiff, Nat.reduceLT, Nat.reduceEqDiff, Int.reduceLE, Int.reduceLT, Int.reduceToNat, Int.reduceBEq, Int.reduceBNe, Int.reduceEq, Int.reduceAdd, Int.reduceSub, Int.reduceMul, Int.reduceNeg, Int.cast_ofNat_Int, *, encV] | ((with_reducible refine opK_c ?_); simp -dsimp only [go_sem, ↓reduceIte, reduceCtorEq, Nat.reduceAdd, Nat.reduceMul, Nat.reduceSub, Nat.reduceLeDiff, Nat.reduceLT, Nat.reduceEqDiff, Int.reduceLE, Int.reduceLT, Int.reduceToNat, Int.reduceBEq, Int.reduceBNe, Int.reduceEq, Int.reduceAdd, Int.reduceSub, Int.reduceMul, Int.reduceNeg, Int.cast_ofNat_Int, encV]; first | refine callK_r (by first | assumption | fail) (by first | exact .inl rfl | exact .inr rfl) ?_ | (refine callK_i (by assumption) ?_ ?_ ?_; (solve | (repeat (first | exact DLe.refl _ | exact DLe.nil _ | (refine DLe.tup ?_) | (refine DLe.agg ?_ rfl) | exact trivial | (refine And.intro ?_ ?_)))); (solve | exact .inl rfl | exact .inr rfl))) | fail | omega | exact decide_eq_true (by omega) | exact DLe.refl _)
  refine loopG tab_ok mixed (fun m e h => (∃ k, k ≤ pre.length ∧ m = v.subs.length - k ∧ e = [(4, .d (.v (.int .i64 k))), (3, .ptr 3 0), (2, .ptr 1 0), (1, .ptr 0 0)] ∧ h = [.box 25 ((encV v).map .d), .box 25 [.d (.v (.int .i64 0)), .d (.v (.slice none 0 0)), .d (.v (.slice none 0 0))], .row 29 3 1 (dRows (v.ranges.map encG)), .box 25 [.d (.v (.int .i64 v.id)), .own 2 1, .own 4 k], .row 62 4 k (dRows ((pre.take k).map encN))]) ∨
    ∃ k j, k = pre.length + 1 + j ∧ j ≤ post.length ∧ m = v.subs.length - k ∧ e = [(4, .d (.v (.int .i64 k))), (3, .ptr 3 0), (2, .ptr 1 0), (1, .ptr 0 0)] ∧ h = [.box 25 ((encV v).map .d), .box 25 [.d (.v (.int .i64 0)), .d (.v (.slice none 0 0)), .d (.v (.slice none 0 0))], .row 29 3 1 (dRows (v.ranges.map encG)), .box 25 [.d (.v (.int .i64 v.id)), .own 2 1, .own 4 k], .row 62 4 k (zipG encN pre (subRow s0 (.own 6 s0.faces.length)) (post.take j)), .gone, .row 79 2 s0.faces.length (dRows (s0.faces.map encF))]) _ _ _ (.inl ⟨0, Nat.zero_le _, rfl, rfl, rfl⟩) ?_ ?_
  · refine (weak_adopt_box (by simp) 3 25 [.d (.v (.int .i64 v.id)), .own 2 1, .d (.v (.slice none 0 0))] 2 62 4 rfl rfl rfl).trans ?_
    exact weak_forget _ (by simp) (by rfl) (by (repeat' (first | exact trivial | (refine ⟨rfl, ?_⟩)))) (by first | rfl | simp only [belowH, belowE, belowC, belowL, belowR, belowP, belowL_d, belowR_d, belowR_zipG, subRow, faceRow, List.length_cons, List.length_nil, Nat.reduceAdd, Nat.reduceLT, decide_true, Bool.and_self, Bool.and_true]) (by first | rfl | simp only [belowH, belowE, belowC, belowL, belowR, belowP, belowL_d, belowR_d, belowR_zipG, subRow, faceRow, List.length_cons, List.length_nil, Nat.reduceAdd, Nat.reduceLT, decide_true, Bool.and_self, Bool.and_true])
  · rintro m e h (⟨k, hk, hm, rfl, rfl⟩ | ⟨k, q, hkj, hj, hm, rfl, rfl⟩) CO hCO
    · have hkI : (k : Int) < (v.subs.length : Int) := by have := hlen2.out; omega
      have hwr : IntKind.i64.wrap ((k : Int) + 1) = ((k + 1 : Nat) : Int) := by rw [IntKind.wrap_i64]; omega
      have hb1 : k + 1 ≤ 100 := by have := hlen2.out; omega
      have hlk : (List.take k pre).length = k := by rw [List.length_take]; omega
      have hm := Lib.hid hm
      by_cases hkp : k < pre.length
      · obtain ⟨s, hq⟩ : ∃ s, pre[k]? = some s := ⟨_, List.getElem?_eq_getElem hkp⟩
        have hs : v.subs[k]? = some s := by rw [hL.out, List.getElem?_append_left hkp]; exact hq
        have h8s := h8.out s (List.mem_of_getElem? hs)
        replace hs := Lib.hid hs
        replace hq := Lib.hid hq
        have hs1 := hs.out
        repeat' (first | (with_reducible refine And.intro ?_ ?_) | (with_reducible refine gK_i (fun _ => ?_) (fun _ => ?_)) | (with_reducible refine condS_i (fun _ => ?_) (fun _ => ?_)) | (with_reducible refine drw_i (by kernel_rfl)) | simp -dsimp only [go_sem, ↓reduceIte, reduceCtorEq, Nat.reduceAdd, Nat.reduceMul, Nat.reduceSub, Nat.reduceLeDiff, Nat.reduceLT, Nat.reduceEqDiff, Int.reduceLE, Int.reduceLT, Int.reduceToNat, Int.reduceBEq, Int.reduceBNe, Int.reduceEq, Int.reduceAdd, Int.reduceSub, Int.reduceMul, Int.reduceNeg, Int.cast_ofNat_Int, *, encV, encN, hkI, hs1] | ((with_reducible refine opK_c ?_); simp -dsimp only [go_sem, ↓reduceIte, reduceCtorEq, Nat.reduceAdd, Nat.reduceMul, Nat.reduceSub, Nat.reduceLeDiff, Nat.reduceLT, Nat.reduceEqDiff, Int.reduceLE, Int.reduceLT, Int.reduceToNat, Int.reduceBEq, Int.reduceBNe, Int.reduceEq, Int.reduceAdd, Int.reduceSub, Int.reduceMul, Int.reduceNeg, Int.cast_ofNat_Int, encV, encN, hkI, hs1]; first | refine callK_r (by first | assumption | fail) (by first | exact .inl rfl | exact .inr rfl) ?_ | (refine callK_i (by assumption) ?_ ?_ ?_; (solve | (repeat (first | exact DLe.refl _ | exact DLe.nil _ | (refine DLe.tup ?_) | (refine DLe.agg ?_ rfl) | exact trivial | (refine And.intro ?_ ?_)))); (solve | exact .inl rfl | exact .inr rfl))) | fail | omega | exact decide_eq_true (by omega) | exact DLe.refl _)
        refine loopL tab_ok mixed s.faces (fun _ => True) (fun j => [(6, .d (.v (.int .i64 j))), (5, .ptr 5 0), (4, .d (.v (.int .i64 k))), (3, .ptr 3 0), (2, .ptr 1 0), (1, .ptr 0 0)])
          (fun j => [.box 25 ((encV v).map .d), .box 25 [.d (.v (.int .i64 0)), .d (.v (.slice none 0 0)), .d (.v (.slice none 0 0))], .row 29 3 1 (dRows (v.ranges.map encG)), .box 25 [.d (.v (.int .i64 v.id)), .own 2 1, .own 4 k], .row 62 4 k (dRows ((pre.take k).map encN)), .box 62 [.d (.v (.int .i64 s.id)), .d (.v (.int .i64 s.at_.at_)), .d (.v (.int .i64 s.at_.len)), .own 6 j], .row 79 2 j (dRows ((s.faces.take j).map encF))]) trivial ?_ ?_ ?_
        · refine (weak_adopt_box (by simp) 5 62 [.d (.v (.int .i64 s.id)), .d (.v (.int .i64 s.at_.at_)), .d (.v (.int .i64 s.at_.len)), .d (.v (.slice none 0 0))] 3 79 2 rfl rfl rfl).trans ?_
          exact weak_forget _ (by simp) (by rfl) (by (repeat' (first | exact trivial | (refine ⟨rfl, ?_⟩)))) (by first | rfl | simp only [belowH, belowE, belowC, belowL, belowR, belowP, belowL_d, belowR_d, belowR_zipG, subRow, faceRow, List.length_cons, List.length_nil, Nat.reduceAdd, Nat.reduceLT, decide_true, Bool.and_self, Bool.and_true]) (by first | rfl | simp only [belowH, belowE, belowC, belowL, belowR, belowP, belowL_d, belowR_d, belowR_zipG, subRow, faceRow, List.length_cons, List.length_nil, Nat.reduceAdd, Nat.reduceLT, decide_true, Bool.and_self, Bool.and_true])
        · intro j f hf hj _ C hC
          have hjI : (j : Int) < (s.faces.length : Int) := by omega
          have hwj : IntKind.i64.wrap ((j : Int) + 1) = ((j + 1 : Nat) : Int) := by rw [IntKind.wrap_i64]; omega
          have hfl := h8s.2 f (List.mem_of_getElem? hf)
          have hb2 : j + 1 ≤ 100 := by omega
          have hlj : (List.take j s.faces).length = j := by rw [List.length_take]; omega
          replace hf := Lib.hid hf
          have hf1 := hf.out
          repeat' (first | (with_reducible refine And.intro ?_ ?_) | (with_reducible refine gK_i (fun _ => ?_) (fun _ => ?_)) | (with_reducible refine condS_i (fun _ => ?_) (fun _ => ?_)) | (with_reducible refine drw_i (by kernel_rfl)) | simp -dsimp only [go_sem, ↓reduceIte, reduceCtorEq, Nat.reduceAdd, Nat.reduceMul, Nat.reduceSub, Nat.reduceLeDiff, Nat.reduceLT, Nat.reduceEqDiff, Int.reduceLE, Int.reduceLT, Int.reduceToNat, Int.reduceBEq, Int.reduceBNe, Int.reduceEq, Int.reduceAdd, Int.reduceSub, Int.reduceMul, Int.reduceNeg, Int.cast_ofNat_Int, *, encV, encN, encF, hkI, hs1, hjI, hwj, hf1, hb2, hlj, renR_zipG, zipG_len] | ((with_reducible refine opK_c ?_); simp -dsimp only [go_sem, ↓reduceIte, reduceCtorEq, Nat.reduceAdd, Nat.reduceMul, Nat.reduceSub, Nat.reduceLeDiff, Nat.reduceLT, Nat.reduceEqDiff, Int.reduceLE, Int.reduceLT, Int.reduceToNat, Int.reduceBEq, Int.reduceBNe, Int.reduceEq, Int.reduceAdd, Int.reduceSub, Int.reduceMul, Int.reduceNeg, Int.cast_ofNat_Int, encV, encN, encF, hkI, hs1, hjI, hwj, hf1, hb2, hlj, renR_zipG, zipG_len]; first | refine callK_r (by first | assumption | fail) (by first | exact .inl rfl | exact .inr rfl) ?_ | (refine callK_i (by assumption) ?_ ?_ ?_; (solve | (repeat (first | exact DLe.refl _ | exact DLe.nil _ | (refine DLe.tup ?_) | (refine DLe.agg ?_ rfl) | exact trivial | (refine And.intro ?_ ?_)))); (solve | exact .inl rfl | exact .inr rfl))) | fail | omega | exact decide_eq_true (by omega) | exact DLe.refl _)
          refine hC _ _ trivial ((weak_freeze 8 1 3 1 (f.addrs.map encA) rfl).trans ?_)
          simp only [fzE, fz, fzL, fzH, fzC, fzR, fzR_app, fzR_d, fzL_d, List.map_cons, List.map_nil, Nat.reduceAdd, Nat.reduceEqDiff, reduceIte, and_true, true_and, and_self, and_false, false_and, Nat.zero_add, Nat.add_zero, reduceCtorEq, fzR_zipG]
          exact weak_forget _ (by simp) (by rw [take_snoc hf.out, List.map_append, List.map_cons, List.map_nil, ← dRows_app]; rfl) (by (repeat' (first | exact trivial | (refine ⟨rfl, ?_⟩)))) (by first | rfl | simp only [belowH, belowE, belowC, belowL, belowR, belowP, belowL_d, belowR_d, belowR_zipG, subRow, faceRow, List.length_cons, List.length_nil, Nat.reduceAdd, Nat.reduceLT, decide_true, Bool.and_self, Bool.and_true]) (by first | rfl | simp only [belowH, belowE, belowC, belowL, belowR, belowP, belowL_d, belowR_d, belowR_zipG, subRow, faceRow, List.length_cons, List.length_nil, Nat.reduceAdd, Nat.reduceLT, decide_true, Bool.and_self, Bool.and_true])
        · intro _ C
          repeat' (first | (with_reducible refine And.intro ?_ ?_) | (with_reducible refine gK_i (fun _ => ?_) (fun _ => ?_)) | (with_reducible refine condS_i (fun _ => ?_) (fun _ => ?_)) | (with_reducible refine drw_i (by kernel_rfl)) | simp -dsimp only [go_sem, ↓reduceIte, reduceCtorEq, Nat.reduceAdd, Nat.reduceMul, Nat.reduceSub, Nat.reduceLeDiff, Nat.reduceLT, Nat.reduceEqDiff, Int.reduceLE, Int.reduceLT, Int.reduceToNat, Int.reduceBEq, Int.reduceBNe, Int.reduceEq, Int.reduceAdd, Int.reduceSub, Int.reduceMul, Int.reduceNeg, Int.cast_ofNat_Int, *, encV, encN, hkI, hs1, hwr, hb1, hlk, Int.lt_irrefl, List.take_length] | ((with_reducible refine opK_c ?_); simp -dsimp only [go_sem, ↓reduceIte, reduceCtorEq, Nat.reduceAdd, Nat.reduceMul, Nat.reduceSub, Nat.reduceLeDiff, Nat.reduceLT, Nat.reduceEqDiff, Int.reduceLE, Int.reduceLT, Int.reduceToNat, Int.reduceBEq, Int.reduceBNe, Int.reduceEq, Int.reduceAdd, Int.reduceSub, Int.reduceMul, Int.reduceNeg, Int.cast_ofNat_Int, encV, encN, hkI, hs1, hwr, hb1, hlk, Int.lt_irrefl, List.take_length]; first | refine callK_r (by first | assumption | fail) (by first | exact .inl rfl | exact .inr rfl) ?_ | (refine callK_i (by assumption) ?_ ?_ ?_; (solve | (repeat (first | exact DLe.refl _ | exact DLe.nil _ | (refine DLe.tup ?_) | (refine DLe.agg ?_ rfl) | exact trivial | (refine And.intro ?_ ?_)))); (solve | exact .inl rfl | exact .inr rfl))) | fail | omega | exact decide_eq_true (by omega) | exact DLe.refl _)
          refine hCO _ _ _ _ _ ?_ (.inl ⟨k + 1, hkp, rfl, rfl, rfl⟩) ((weak_freeze 6 s.faces.length 79 2 (s.faces.map encF) rfl).trans ?_)
          · have := hm.out; have := hlen2.out; omega
          simp only [fzE, fz, fzL, fzH, fzC, fzR, fzR_app, fzR_d, fzL_d, List.map_cons, List.map_nil, Nat.reduceAdd, Nat.reduceEqDiff, reduceIte, and_true, true_and, and_self, and_false, false_and, Nat.zero_add, Nat.add_zero, reduceCtorEq]
          exact weak_forget _ (by simp) (by rw [take_snoc hq.out, List.map_append, List.map_cons, List.map_nil, ← dRows_app]; rfl) (by (repeat' (first | exact trivial | (refine ⟨rfl, ?_⟩)))) (by first | rfl | simp only [belowH, belowE, belowC, belowL, belowR, belowP, belowL_d, belowR_d, belowR_zipG, subRow, faceRow, List.length_cons, List.length_nil, Nat.reduceAdd, Nat.reduceLT, decide_true, Bool.and_self, Bool.and_true]) (by first | rfl | simp only [belowH, belowE, belowC, belowL, belowR, belowP, belowL_d, belowR_d, belowR_zipG, subRow, faceRow, List.length_cons, List.length_nil, Nat.reduceAdd, Nat.reduceLT, decide_true, Bool.and_self, Bool.and_true])
      · obtain rfl : k = pre.length := by omega
        have hs : v.subs[pre.length]? = some s0 := by rw [hL.out, List.getElem?_append_right (Nat.le_refl _), Nat.sub_self]; rfl
        have h8s := h8.out s0 (List.mem_of_getElem? hs)
        replace hs := Lib.hid hs
        have hs1 := hs.out
        obtain ⟨k, hk2⟩ : ∃ k, k = pre.length := ⟨_, rfl⟩
        obtain ⟨s, hs2⟩ : ∃ s, s = s0 := ⟨_, rfl⟩
        rw [← hs2] at h8s hs1 hCO ⊢
        rw [← hk2] at hs1 hkI hwr hb1 hlk hCO ⊢
        rw [hk2, List.take_length] at hlk
        replace hs2 := Lib.hid hs2
        replace hk2 := Lib.hid hk2
        repeat' (first | (with_reducible refine And.intro ?_ ?_) | (with_reducible refine gK_i (fun _ => ?_) (fun _ => ?_)) | (with_reducible refine condS_i (fun _ => ?_) (fun _ => ?_)) | (with_reducible refine drw_i (by kernel_rfl)) | simp -dsimp only [go_sem, ↓reduceIte, reduceCtorEq, Nat.reduceAdd, Nat.reduceMul, Nat.reduceSub, Nat.reduceLeDiff, Nat.reduceLT, Nat.reduceEqDiff, Int.reduceLE, Int.reduceLT, Int.reduceToNat, Int.reduceBEq, Int.reduceBNe, Int.reduceEq, Int.reduceAdd, Int.reduceSub, Int.reduceMul, Int.reduceNeg, Int.cast_ofNat_Int, *, encV, encN, hkI, hs1] | ((with_reducible refine opK_c ?_); simp -dsimp only [go_sem, ↓reduceIte, reduceCtorEq, Nat.reduceAdd, Nat.reduceMul, Nat.reduceSub, Nat.reduceLeDiff, Nat.reduceLT, Nat.reduceEqDiff, Int.reduceLE, Int.reduceLT, Int.reduceToNat, Int.reduceBEq, Int.reduceBNe, Int.reduceEq, Int.reduceAdd, Int.reduceSub, Int.reduceMul, Int.reduceNeg, Int.cast_ofNat_Int, encV, encN, hkI, hs1]; first | refine callK_r (by first | assumption | fail) (by first | exact .inl rfl | exact .inr rfl) ?_ | (refine callK_i (by assumption) ?_ ?_ ?_; (solve | (repeat (first | exact DLe.refl _ | exact DLe.nil _ | (refine DLe.tup ?_) | (refine DLe.agg ?_ rfl) | exact trivial | (refine And.intro ?_ ?_)))); (solve | exact .inl rfl | exact .inr rfl))) | fail | omega | exact decide_eq_true (by omega) | exact DLe.refl _)
        refine loopL tab_ok mixed s.faces (fun _ => True) (fun j => [(6, .d (.v (.int .i64 j))), (5, .ptr 5 0), (4, .d (.v (.int .i64 k))), (3, .ptr 3 0), (2, .ptr 1 0), (1, .ptr 0 0)])
          (fun j => [.box 25 ((encV v).map .d), .box 25 [.d (.v (.int .i64 0)), .d (.v (.slice none 0 0)), .d (.v (.slice none 0 0))], .row 29 3 1 (dRows (v.ranges.map encG)), .box 25 [.d (.v (.int .i64 v.id)), .own 2 1, .own 4 k], .row 62 4 k (dRows ((pre.take k).map encN)), .box 62 [.d (.v (.int .i64 s.id)), .d (.v (.int .i64 s.at_.at_)), .d (.v (.int .i64 s.at_.len)), .own 6 j], .row 79 2 j (dRows ((s.faces.take j).map encF))]) trivial ?_ ?_ ?_
        · refine (weak_adopt_box (by simp) 5 62 [.d (.v (.int .i64 s.id)), .d (.v (.int .i64 s.at_.at_)), .d (.v (.int .i64 s.at_.len)), .d (.v (.slice none 0 0))] 3 79 2 rfl rfl rfl).trans ?_
          exact weak_forget _ (by simp) (by rfl) (by (repeat' (first | exact trivial | (refine ⟨rfl, ?_⟩)))) (by first | rfl | simp only [belowH, belowE, belowC, belowL, belowR, belowP, belowL_d, belowR_d, belowR_zipG, subRow, faceRow, List.length_cons, List.length_nil, Nat.reduceAdd, Nat.reduceLT, decide_true, Bool.and_self, Bool.and_true]) (by first | rfl | simp only [belowH, belowE, belowC, belowL, belowR, belowP, belowL_d, belowR_d, belowR_zipG, subRow, faceRow, List.length_cons, List.length_nil, Nat.reduceAdd, Nat.reduceLT, decide_true, Bool.and_self, Bool.and_true])
        · intro j f hf hj _ C hC
          have hjI : (j : Int) < (s.faces.length : Int) := by omega
          have hwj : IntKind.i64.wrap ((j : Int) + 1) = ((j + 1 : Nat) : Int) := by rw [IntKind.wrap_i64]; omega
          have hfl := h8s.2 f (List.mem_of_getElem? hf)
          have hb2 : j + 1 ≤ 100 := by omega
          have hlj : (List.take j s.faces).length = j := by rw [List.length_take]; omega
          replace hf := Lib.hid hf
          have hf1 := hf.out
          repeat' (first | (with_reducible refine And.intro ?_ ?_) | (with_reducible refine gK_i (fun _ => ?_) (fun _ => ?_)) | (with_reducible refine condS_i (fun _ => ?_) (fun _ => ?_)) | (with_reducible refine drw_i (by kernel_rfl)) | simp -dsimp only [go_sem, ↓reduceIte, reduceCtorEq, Nat.reduceAdd, Nat.reduceMul, Nat.reduceSub, Nat.reduceLeDiff, Nat.reduceLT, Nat.reduceEqDiff, Int.reduceLE, Int.reduceLT, Int.reduceToNat, Int.reduceBEq, Int.reduceBNe, Int.reduceEq, Int.reduceAdd, Int.reduceSub, Int.reduceMul, Int.reduceNeg, Int.cast_ofNat_Int, *, encV, encN, encF, hkI, hs1, hjI, hwj, hf1, hb2, hlj, renR_zipG, zipG_len] | ((with_reducible refine opK_c ?_); simp -dsimp only [go_sem, ↓reduceIte, reduceCtorEq, Nat.reduceAdd, Nat.reduceMul, Nat.reduceSub, Nat.reduceLeDiff, Nat.reduceLT, Nat.reduceEqDiff, Int.reduceLE, Int.reduceLT, Int.reduceToNat, Int.reduceBEq, Int.reduceBNe, Int.reduceEq, Int.reduceAdd, Int.reduceSub, Int.reduceMul, Int.reduceNeg, Int.cast_ofNat_Int, encV, encN, encF, hkI, hs1, hjI, hwj, hf1, hb2, hlj, renR_zipG, zipG_len]; first | refine callK_r (by first | assumption | fail) (by first | exact .inl rfl | exact .inr rfl) ?_ | (refine callK_i (by assumption) ?_ ?_ ?_; (solve | (repeat (first | exact DLe.refl _ | exact DLe.nil _ | (refine DLe.tup ?_) | (refine DLe.agg ?_ rfl) | exact trivial | (refine And.intro ?_ ?_)))); (solve | exact .inl rfl | exact .inr rfl))) | fail | omega | exact decide_eq_true (by omega) | exact DLe.refl _)
          refine hC _ _ trivial ((weak_freeze 8 1 3 1 (f.addrs.map encA) rfl).trans ?_)
          simp only [fzE, fz, fzL, fzH, fzC, fzR, fzR_app, fzR_d, fzL_d, List.map_cons, List.map_nil, Nat.reduceAdd, Nat.reduceEqDiff, reduceIte, and_true, true_and, and_self, and_false, false_and, Nat.zero_add, Nat.add_zero, reduceCtorEq, fzR_zipG]
          exact weak_forget _ (by simp) (by rw [take_snoc hf.out, List.map_append, List.map_cons, List.map_nil, ← dRows_app]; rfl) (by (repeat' (first | exact trivial | (refine ⟨rfl, ?_⟩)))) (by first | rfl | simp only [belowH, belowE, belowC, belowL, belowR, belowP, belowL_d, belowR_d, belowR_zipG, subRow, faceRow, List.length_cons, List.length_nil, Nat.reduceAdd, Nat.reduceLT, decide_true, Bool.and_self, Bool.and_true]) (by first | rfl | simp only [belowH, belowE, belowC, belowL, belowR, belowP, belowL_d, belowR_d, belowR_zipG, subRow, faceRow, List.length_cons, List.length_nil, Nat.reduceAdd, Nat.reduceLT, decide_true, Bool.and_self, Bool.and_true])
        · intro _ C
          have hlk2 : (List.take k pre).length = k := by rw [hk2.out, List.take_length]
          repeat' (first | (with_reducible refine And.intro ?_ ?_) | (with_reducible refine gK_i (fun _ => ?_) (fun _ => ?_)) | (with_reducible refine condS_i (fun _ => ?_) (fun _ => ?_)) | (with_reducible refine drw_i (by kernel_rfl)) | simp -dsimp only [go_sem, ↓reduceIte, reduceCtorEq, Nat.reduceAdd, Nat.reduceMul, Nat.reduceSub, Nat.reduceLeDiff, Nat.reduceLT, Nat.reduceEqDiff, Int.reduceLE, Int.reduceLT, Int.reduceToNat, Int.reduceBEq, Int.reduceBNe, Int.reduceEq, Int.reduceAdd, Int.reduceSub, Int.reduceMul, Int.reduceNeg, Int.cast_ofNat_Int, *, encV, encN, hkI, hs1, hwr, hb1, hlk2, Int.lt_irrefl, List.take_length] | ((with_reducible refine opK_c ?_); simp -dsimp only [go_sem, ↓reduceIte, reduceCtorEq, Nat.reduceAdd, Nat.reduceMul, Nat.reduceSub, Nat.reduceLeDiff, Nat.reduceLT, Nat.reduceEqDiff, Int.reduceLE, Int.reduceLT, Int.reduceToNat, Int.reduceBEq, Int.reduceBNe, Int.reduceEq, Int.reduceAdd, Int.reduceSub, Int.reduceMul, Int.reduceNeg, Int.cast_ofNat_Int, encV, encN, hkI, hs1, hwr, hb1, hlk2, Int.lt_irrefl, List.take_length]; first | refine callK_r (by first | assumption | fail) (by first | exact .inl rfl | exact .inr rfl) ?_ | (refine callK_i (by assumption) ?_ ?_ ?_; (solve | (repeat (first | exact DLe.refl _ | exact DLe.nil _ | (refine DLe.tup ?_) | (refine DLe.agg ?_ rfl) | exact trivial | (refine And.intro ?_ ?_)))); (solve | exact .inl rfl | exact .inr rfl))) | fail | omega | exact decide_eq_true (by omega) | exact DLe.refl _)
          refine hCO _ _ _ _ _ ?_ (.inr ⟨k + 1, 0, by rw [hk2.out], Nat.zero_le _, rfl, rfl, rfl⟩) ((weak_gone 5 (by simp)).trans ?_)
          · have := hm.out; have := hlen2.out; have := hk2.out; omega
          exact weak_forget _ (by simp) (by rw [hk2.out, List.take_length]; rfl) (by (repeat' (first | exact trivial | (refine ⟨rfl, ?_⟩)))) (by first | rfl | simp only [belowH, belowE, belowC, belowL, belowR, belowP, belowL_d, belowR_d, belowR_zipG, subRow, faceRow, List.length_cons, List.length_nil, Nat.reduceAdd, Nat.reduceLT, decide_true, Bool.and_self, Bool.and_true]) (by first | rfl | simp only [belowH, belowE, belowC, belowL, belowR, belowP, belowL_d, belowR_d, belowR_zipG, subRow, faceRow, List.length_cons, List.length_nil, Nat.reduceAdd, Nat.reduceLT, decide_true, Bool.and_self, Bool.and_true])
    · have hm := Lib.hid hm
      have hkj2 := Lib.hid hkj
      have hb1 : pre.length + 1 + q + 1 ≤ 100 := by have := hlen2.out; omega
      have hlk : (List.take q post).length = q := by rw [List.length_take]; omega
      have hkl : k ≤ v.subs.length := by have := hlen2.out; omega
      by_cases hjp : q < post.length
      · obtain ⟨s, hq⟩ : ∃ s, post[q]? = some s := ⟨_, List.getElem?_eq_getElem hjp⟩
        have hs : v.subs[k]? = some s := by
          rw [hL.out, List.getElem?_append_right (by omega), show k - pre.length = q + 1 by omega, List.getElem?_cons_succ]; exact hq
        have h8s := h8.out s (List.mem_of_getElem? hs)
        have hkI : (k : Int) < (v.subs.length : Int) := by have := hlen2.out; omega
        have hwr : IntKind.i64.wrap ((k : Int) + 1) = ((k + 1 : Nat) : Int) := by rw [IntKind.wrap_i64]; omega
        replace hq := Lib.hid hq
        replace hs := Lib.hid hs
        have hs1 := hs.out
        clear hkj
        repeat' (first | (with_reducible refine And.intro ?_ ?_) | (with_reducible refine gK_i (fun _ => ?_) (fun _ => ?_)) | (with_reducible refine condS_i (fun _ => ?_) (fun _ => ?_)) | (with_reducible refine drw_i (by kernel_rfl)) | simp -dsimp only [go_sem, ↓reduceIte, reduceCtorEq, Nat.reduceAdd, Nat.reduceMul, Nat.reduceSub, Nat.reduceLeDiff, Nat.reduceLT, Nat.reduceEqDiff, Int.reduceLE, Int.reduceLT, Int.reduceToNat, Int.reduceBEq, Int.reduceBNe, Int.reduceEq, Int.reduceAdd, Int.reduceSub, Int.reduceMul, Int.reduceNeg, Int.cast_ofNat_Int, *, encV, encN, hkI, hs1] | ((with_reducible refine opK_c ?_); simp -dsimp only [go_sem, ↓reduceIte, reduceCtorEq, Nat.reduceAdd, Nat.reduceMul, Nat.reduceSub, Nat.reduceLeDiff, Nat.reduceLT, Nat.reduceEqDiff, Int.reduceLE, Int.reduceLT, Int.reduceToNat, Int.reduceBEq, Int.reduceBNe, Int.reduceEq, Int.reduceAdd, Int.reduceSub, Int.reduceMul, Int.reduceNeg, Int.cast_ofNat_Int, encV, encN, hkI, hs1]; first | refine callK_r (by first | assumption | fail) (by first | exact .inl rfl | exact .inr rfl) ?_ | (refine callK_i (by assumption) ?_ ?_ ?_; (solve | (repeat (first | exact DLe.refl _ | exact DLe.nil _ | (refine DLe.tup ?_) | (refine DLe.agg ?_ rfl) | exact trivial | (refine And.intro ?_ ?_)))); (solve | exact .inl rfl | exact .inr rfl))) | fail | omega | exact decide_eq_true (by omega) | exact DLe.refl _)
        refine loopL tab_ok mixed s.faces (fun _ => True) (fun j => [(6, .d (.v (.int .i64 j))), (5, .ptr 7 0), (4, .d (.v (.int .i64 k))), (3, .ptr 3 0), (2, .ptr 1 0), (1, .ptr 0 0)])
          (fun j => [.box 25 ((encV v).map .d), .box 25 [.d (.v (.int .i64 0)), .d (.v (.slice none 0 0)), .d (.v (.slice none 0 0))], .row 29 3 1 (dRows (v.ranges.map encG)), .box 25 [.d (.v (.int .i64 v.id)), .own 2 1, .own 4 k], .row 62 4 k (zipG encN pre (subRow s0 (.own 6 s0.faces.length)) (post.take q)), .gone, .row 79 2 s0.faces.length (dRows (s0.faces.map encF)), .box 62 [.d (.v (.int .i64 s.id)), .d (.v (.int .i64 s.at_.at_)), .d (.v (.int .i64 s.at_.len)), .own 8 j], .row 79 2 j (dRows ((s.faces.take j).map encF))]) trivial ?_ ?_ ?_
        · refine (weak_adopt_box (by simp) 7 62 [.d (.v (.int .i64 s.id)), .d (.v (.int .i64 s.at_.at_)), .d (.v (.int .i64 s.at_.len)), .d (.v (.slice none 0 0))] 3 79 2 rfl rfl rfl).trans ?_
          exact weak_forget _ (by simp) (by rfl) (by (repeat' (first | exact trivial | (refine ⟨rfl, ?_⟩)))) (by first | rfl | simp only [belowH, belowE, belowC, belowL, belowR, belowP, belowL_d, belowR_d, belowR_zipG, subRow, faceRow, List.length_cons, List.length_nil, Nat.reduceAdd, Nat.reduceLT, decide_true, Bool.and_self, Bool.and_true]) (by first | rfl | simp only [belowH, belowE, belowC, belowL, belowR, belowP, belowL_d, belowR_d, belowR_zipG, subRow, faceRow, List.length_cons, List.length_nil, Nat.reduceAdd, Nat.reduceLT, decide_true, Bool.and_self, Bool.and_true])
        · intro j f hf hj _ C hC
          have hjI : (j : Int) < (s.faces.length : Int) := by omega
          have hwj : IntKind.i64.wrap ((j : Int) + 1) = ((j + 1 : Nat) : Int) := by rw [IntKind.wrap_i64]; omega
          have hfl := h8s.2 f (List.mem_of_getElem? hf)
          have hb2 : j + 1 ≤ 100 := by omega
          have hlj : (List.take j s.faces).length = j := by rw [List.length_take]; omega
          replace hf := Lib.hid hf
          have hf1 := hf.out
          repeat' (first | (with_reducible refine And.intro ?_ ?_) | (with_reducible refine gK_i (fun _ => ?_) (fun _ => ?_)) | (with_reducible refine condS_i (fun _ => ?_) (fun _ => ?_)) | (with_reducible refine drw_i (by kernel_rfl)) | simp -dsimp only [go_sem, ↓reduceIte, reduceCtorEq, Nat.reduceAdd, Nat.reduceMul, Nat.reduceSub, Nat.reduceLeDiff, Nat.reduceLT, Nat.reduceEqDiff, Int.reduceLE, Int.reduceLT, Int.reduceToNat, Int.reduceBEq, Int.reduceBNe, Int.reduceEq, Int.reduceAdd, Int.reduceSub, Int.reduceMul, Int.reduceNeg, Int.cast_ofNat_Int, *, encV, encN, encF, hkI, hs1, hjI, hwj, hf1, hb2, hlj, renR_zipG, zipG_len] | ((with_reducible refine opK_c ?_); simp -dsimp only [go_sem, ↓reduceIte, reduceCtorEq, Nat.reduceAdd, Nat.reduceMul, Nat.reduceSub, Nat.reduceLeDiff, Nat.reduceLT, Nat.reduceEqDiff, Int.reduceLE, Int.reduceLT, Int.reduceToNat, Int.reduceBEq, Int.reduceBNe, Int.reduceEq, Int.reduceAdd, Int.reduceSub, Int.reduceMul, Int.reduceNeg, Int.cast_ofNat_Int, encV, encN, encF, hkI, hs1, hjI, hwj, hf1, hb2, hlj, renR_zipG, zipG_len]; first | refine callK_r (by first | assumption | fail) (by first | exact .inl rfl | exact .inr rfl) ?_ | (refine callK_i (by assumption) ?_ ?_ ?_; (solve | (repeat (first | exact DLe.refl _ | exact DLe.nil _ | (refine DLe.tup ?_) | (refine DLe.agg ?_ rfl) | exact trivial | (refine And.intro ?_ ?_)))); (solve | exact .inl rfl | exact .inr rfl))) | fail | omega | exact decide_eq_true (by omega) | exact DLe.refl _)
          refine hC _ _ trivial ((weak_freeze 10 1 3 1 (f.addrs.map encA) rfl).trans ?_)
          simp only [fzE, fz, fzL, fzH, fzC, fzR, fzR_app, fzR_d, fzL_d, List.map_cons, List.map_nil, Nat.reduceAdd, Nat.reduceEqDiff, reduceIte, and_true, true_and, and_self, and_false, false_and, Nat.zero_add, Nat.add_zero, reduceCtorEq, fzR_zipG]
          exact weak_forget _ (by simp) (by rw [take_snoc hf.out, List.map_append, List.map_cons, List.map_nil, ← dRows_app]; rfl) (by (repeat' (first | exact trivial | (refine ⟨rfl, ?_⟩)))) (by first | rfl | simp only [belowH, belowE, belowC, belowL, belowR, belowP, belowL_d, belowR_d, belowR_zipG, subRow, faceRow, List.length_cons, List.length_nil, Nat.reduceAdd, Nat.reduceLT, decide_true, Bool.and_self, Bool.and_true]) (by first | rfl | simp only [belowH, belowE, belowC, belowL, belowR, belowP, belowL_d, belowR_d, belowR_zipG, subRow, faceRow, List.length_cons, List.length_nil, Nat.reduceAdd, Nat.reduceLT, decide_true, Bool.and_self, Bool.and_true])
        · intro _ C
          repeat' (first | (with_reducible refine And.intro ?_ ?_) | (with_reducible refine gK_i (fun _ => ?_) (fun _ => ?_)) | (with_reducible refine condS_i (fun _ => ?_) (fun _ => ?_)) | (with_reducible refine drw_i (by kernel_rfl)) | simp -dsimp only [go_sem, ↓reduceIte, reduceCtorEq, Nat.reduceAdd, Nat.reduceMul, Nat.reduceSub, Nat.reduceLeDiff, Nat.reduceLT, Nat.reduceEqDiff, Int.reduceLE, Int.reduceLT, Int.reduceToNat, Int.reduceBEq, Int.reduceBNe, Int.reduceEq, Int.reduceAdd, Int.reduceSub, Int.reduceMul, Int.reduceNeg, Int.cast_ofNat_Int, *, encV, encN, hkI, hs1, hwr, hb1, hlk, zipG_len, Int.lt_irrefl, List.take_length] | ((with_reducible refine opK_c ?_); simp -dsimp only [go_sem, ↓reduceIte, reduceCtorEq, Nat.reduceAdd, Nat.reduceMul, Nat.reduceSub, Nat.reduceLeDiff, Nat.reduceLT, Nat.reduceEqDiff, Int.reduceLE, Int.reduceLT, Int.reduceToNat, Int.reduceBEq, Int.reduceBNe, Int.reduceEq, Int.reduceAdd, Int.reduceSub, Int.reduceMul, Int.reduceNeg, Int.cast_ofNat_Int, encV, encN, hkI, hs1, hwr, hb1, hlk, zipG_len, Int.lt_irrefl, List.take_length]; first | refine callK_r (by first | assumption | fail) (by first | exact .inl rfl | exact .inr rfl) ?_ | (refine callK_i (by assumption) ?_ ?_ ?_; (solve | (repeat (first | exact DLe.refl _ | exact DLe.nil _ | (refine DLe.tup ?_) | (refine DLe.agg ?_ rfl) | exact trivial | (refine And.intro ?_ ?_)))); (solve | exact .inl rfl | exact .inr rfl))) | fail | omega | exact decide_eq_true (by omega) | exact DLe.refl _)
          refine hCO _ _ _ _ _ ?_ (.inr ⟨k + 1, q + 1, by have := hkj2.out; omega, hjp, rfl, rfl, rfl⟩) ((weak_freeze 8 s.faces.length 79 2 (s.faces.map encF) rfl).trans ?_)
          · have := hm.out; have := hlen2.out; have := hkj2.out; omega
          simp only [fzE, fz, fzL, fzH, fzC, fzR, fzR_app, fzR_d, fzL_d, List.map_cons, List.map_nil, Nat.reduceAdd, Nat.reduceEqDiff, reduceIte, and_true, true_and, and_self, and_false, false_and, Nat.zero_add, Nat.add_zero, reduceCtorEq, fzR_zipG, subRow]
          exact weak_forget _ (by simp) (by rw [take_snoc hq.out, ← zipG_snoc]; rfl) (by (repeat' (first | exact trivial | (refine ⟨rfl, ?_⟩)))) (by first | rfl | simp only [belowH, belowE, belowC, belowL, belowR, belowP, belowL_d, belowR_d, belowR_zipG, subRow, faceRow, List.length_cons, List.length_nil, Nat.reduceAdd, Nat.reduceLT, decide_true, Bool.and_self, Bool.and_true]) (by first | rfl | simp only [belowH, belowE, belowC, belowL, belowR, belowP, belowL_d, belowR_d, belowR_zipG, subRow, faceRow, List.length_cons, List.length_nil, Nat.reduceAdd, Nat.reduceLT, decide_true, Bool.and_self, Bool.and_true])
      · obtain rfl : q = post.length := by omega
        obtain rfl : k = v.subs.length := by have := hlen2.out; omega
        clear hkj
        repeat' (first | (with_reducible refine And.intro ?_ ?_) | (with_reducible refine gK_i (fun _ => ?_) (fun _ => ?_)) | (with_reducible refine condS_i (fun _ => ?_) (fun _ => ?_)) | (with_reducible refine drw_i (by kernel_rfl)) | simp -dsimp only [go_sem, ↓reduceIte, reduceCtorEq, Nat.reduceAdd, Nat.reduceMul, Nat.reduceSub, Nat.reduceLeDiff, Nat.reduceLT, Nat.reduceEqDiff, Int.reduceLE, Int.reduceLT, Int.reduceToNat, Int.reduceBEq, Int.reduceBNe, Int.reduceEq, Int.reduceAdd, Int.reduceSub, Int.reduceMul, Int.reduceNeg, Int.cast_ofNat_Int, *, encV, Int.lt_irrefl] | ((with_reducible refine opK_c ?_); simp -dsimp only [go_sem, ↓reduceIte, reduceCtorEq, Nat.reduceAdd, Nat.reduceMul, Nat.reduceSub, Nat.reduceLeDiff, Nat.reduceLT, Nat.reduceEqDiff, Int.reduceLE, Int.reduceLT, Int.reduceToNat, Int.reduceBEq, Int.reduceBNe, Int.reduceEq, Int.reduceAdd, Int.reduceSub, Int.reduceMul, Int.reduceNeg, Int.cast_ofNat_Int, encV, Int.lt_irrefl]; first | refine callK_r (by first | assumption | fail) (by first | exact .inl rfl | exact .inr rfl) ?_ | (refine callK_i (by assumption) ?_ ?_ ?_; (solve | (repeat (first | exact DLe.refl _ | exact DLe.nil _ | (refine DLe.tup ?_) | (refine DLe.agg ?_ rfl) | exact trivial | (refine And.intro ?_ ?_)))); (solve | exact .inl rfl | exact .inr rfl))) | fail | omega | exact decide_eq_true (by omega) | exact DLe.refl _)
        rw [List.take_length]
        refine (weak_gone 0 (by simp)).trans ?_
        refine (weak_gone 1 (by simp [setC])).trans ?_
        exact (weak_gone 3 (by simp [setC])).trans (weak_eq rfl rfl)
end Go.Proofs.YtdcjeacphbfmjaaGreat
namespace Go.Proofs.YtdcjeacphbfmjaaGreat
open Go Go.RowKit
theorem leastF_no {used : List Int} {p : Pfx} {n : Nat} {a : Int} (h : innB p a = false) : leastF used p n a = none := by
  cases n with
  | zero => rfl
  | succ n => rw [leastF, if_neg (by simp [h])]
theorem innB_iff {p : Pfx} {a : Int} (hr : p.right = true) : innB p a = true ↔ p.at_ < a ∧ a < p.hi - 1 := by
  unfold innB
  have hb := p.hi_bd hr
  have he : p.hi = p.at_ + szI p.len := rfl
  simp only [Bool.and_eq_true, decide_eq_true_eq, holdP_eq, holdB_iff]
  constructor
  · rintro ⟨-, h1, h2⟩; omega
  · rintro ⟨h1, h2⟩; exact ⟨⟨hr, by omega, by omega⟩, by omega, by omega⟩
set_option maxRecDepth 100000 in
set_option maxHeartbeats 2000000 in
theorem leastR_p (s : Sbn) (h8 : s.faces.length ≤ 8) (h4 : ∀ f ∈ s.faces, f.addrs.length ≤ 4) (hr : s.at_.right = true) : PSpec Tryz.prog 70 [.agg (encN s)] (.v (.int .i64 ((leastS s).getD (-1)))) := by
  have hla : PSpec Tryz.prog 81 [.agg (encP s.at_)] (.v (.int .i64 (s.at_.hi - 1))) := last_p s.at_ (by rw [← Pfx.right]; exact hr)
  have hbd := s.at_.hi_bd hr
  obtain ⟨r1, r2, r3, r4, -⟩ := s.at_.bd hr
  obtain ⟨R, hR⟩ : ∃ R, R = (leastS s).getD (-1) := ⟨_, rfl⟩
  rw [← hR]
  replace hR := Lib.hid hR
  refine ps_i tab_ok mixed Tryz.func70 rfl Tryz.ntmps70 Tryz.results70 (by kernel_rfl) ?_
  repeat' (first | (with_reducible refine And.intro ?_ ?_) | (with_reducible refine gK_i (fun _ => ?_) (fun _ => ?_)) | (with_reducible refine condS_i (fun _ => ?_) (fun _ => ?_)) | (with_reducible refine drw_i (by kernel_rfl)) | simp -dsimp only [go_sem, ↓reduceIte, reduceCtorEq, Nat.reduceAdd, Nat.reduceMul, Nat.reduceSub, Nat.reduceLeDiff, Nat.reduceLT, Nat.reduceEqDiff, Int.reduceLE, Int.reduceLT, Int.reduceToNat, Int.reduceBEq, Int.reduceBNe, Int.reduceEq, Int.reduceAdd, Int.reduceSub, Int.reduceMul, Int.reduceNeg, Int.cast_ofNat_Int, *, encN] | ((with_reducible refine opK_c ?_); simp -dsimp only [go_sem, ↓reduceIte, reduceCtorEq, Nat.reduceAdd, Nat.reduceMul, Nat.reduceSub, Nat.reduceLeDiff, Nat.reduceLT, Nat.reduceEqDiff, Int.reduceLE, Int.reduceLT, Int.reduceToNat, Int.reduceBEq, Int.reduceBNe, Int.reduceEq, Int.reduceAdd, Int.reduceSub, Int.reduceMul, Int.reduceNeg, Int.cast_ofNat_Int, encN]; first | refine callK_r (by first | assumption | fail) (by first | exact .inl rfl | exact .inr rfl) ?_ | (refine callK_i (by assumption) ?_ ?_ ?_; (solve | (repeat (first | exact DLe.refl _ | exact DLe.nil _ | (refine DLe.tup ?_) | (refine DLe.agg ?_ rfl) | exact trivial | (refine And.intro ?_ ?_)))); (solve | exact .inl rfl | exact .inr rfl))) | fail | omega | exact decide_eq_true (by omega) | exact DLe.refl _)
  refine loopG tab_ok mixed (fun m e h => ∃ (i : Nat) (a : Int), a = s.at_.at_ + i ∧ a ≤ s.at_.hi ∧ (0 < i → leastS s = leastF (s.faces.flatMap (·.addrs)) s.at_ (65537 - i) a) ∧ m = 65537 - i ∧
    e = [(3, .d (.v (.int .i64 a))), (2, .d (.v (.int .i64 0))), (1, .ptr 0 0)] ∧ h = [.box 62 ((encN s).map .d)]) 65537 _ _ ⟨0, s.at_.at_, by simp, by omega, fun h => absurd h (Nat.lt_irrefl _), rfl, rfl, rfl⟩ (weak_forget _ (by simp) (by (try simp only [encN]); rfl) (by (repeat' (first | exact trivial | (refine ⟨rfl, ?_⟩)))) (by first | rfl | simp only [belowH, belowE, belowC, belowL, belowR, belowP, belowL_d, belowR_d, List.length_cons, List.length_nil, Nat.reduceAdd, Nat.reduceLT, decide_true, Bool.and_self, Bool.and_true]) (by first | rfl | simp only [belowH, belowE, belowC, belowL, belowR, belowP, belowL_d, belowR_d, List.length_cons, List.length_nil, Nat.reduceAdd, Nat.reduceLT, decide_true, Bool.and_self, Bool.and_true])) ?_
  rintro m e h ⟨i, a, ha, hah, hle, hm, rfl, rfl⟩ C hC
  have hil : i ≤ 65536 := by omega
  replace hm := Lib.hid hm
  replace hle := Lib.hid hle
  replace ha := Lib.hid ha
  by_cases hal : a ≤ s.at_.hi - 1
  · have hlI : decide (a ≤ s.at_.hi - 1) = true := by simpa using hal
    have hwa : IntKind.i64.wrap (a + 1) = a + 1 := by rw [IntKind.wrap_i64]; have := ha.out; omega
    have hin := innerR_p s a
    obtain ⟨Z, hZ⟩ : ∃ Z, Z = s.at_.hi - 1 := ⟨_, rfl⟩
    rw [← hZ] at hlI hla
    replace hZ := Lib.hid hZ
    replace hal := Lib.hid hal
    replace hah := Lib.hid hah
    replace hbd := Lib.hid hbd
    obtain ⟨B, hB⟩ : ∃ B, B = innB s.at_ a := ⟨_, rfl⟩
    rw [← hB] at hin
    replace hB := Lib.hid hB
    repeat' (first | (with_reducible refine And.intro ?_ ?_) | (with_reducible refine gK_i (fun _ => ?_) (fun _ => ?_)) | (with_reducible refine condS_i (fun _ => ?_) (fun _ => ?_)) | (with_reducible refine drw_i (by kernel_rfl)) | simp -dsimp only [go_sem, ↓reduceIte, reduceCtorEq, Nat.reduceAdd, Nat.reduceMul, Nat.reduceSub, Nat.reduceLeDiff, Nat.reduceLT, Nat.reduceEqDiff, Int.reduceLE, Int.reduceLT, Int.reduceToNat, Int.reduceBEq, Int.reduceBNe, Int.reduceEq, Int.reduceAdd, Int.reduceSub, Int.reduceMul, Int.reduceNeg, Int.cast_ofNat_Int, *, encN, encP, hlI, undef] | ((with_reducible refine opK_c ?_); simp -dsimp only [go_sem, ↓reduceIte, reduceCtorEq, Nat.reduceAdd, Nat.reduceMul, Nat.reduceSub, Nat.reduceLeDiff, Nat.reduceLT, Nat.reduceEqDiff, Int.reduceLE, Int.reduceLT, Int.reduceToNat, Int.reduceBEq, Int.reduceBNe, Int.reduceEq, Int.reduceAdd, Int.reduceSub, Int.reduceMul, Int.reduceNeg, Int.cast_ofNat_Int, encN, encP, hlI, undef]; first | refine callK_r (by first | assumption | exact hla | exact hin) (by first | exact .inl rfl | exact .inr rfl) ?_ | (refine callK_i (by assumption) ?_ ?_ ?_; (solve | (repeat (first | exact DLe.refl _ | exact DLe.nil _ | (refine DLe.tup ?_) | (refine DLe.agg ?_ rfl) | exact trivial | (refine And.intro ?_ ?_)))); (solve | exact .inl rfl | exact .inr rfl))) | fail | omega | exact decide_eq_true (by omega) | exact DLe.refl _)
    refine loopG tab_ok mixed (fun m e h => ∃ (k : Nat) (F : Bool), k ≤ s.faces.length ∧ F = (B && !((s.faces.take k).flatMap (·.addrs)).contains a) ∧ m = s.faces.length - k ∧
      e = [(5, .d (.v (.int .i64 k))), (4, .d (.v (.bool F))), (3, .d (.v (.int .i64 a))), (2, .d (.v (.int .i64 0))), (1, .ptr 0 0)] ∧ h = [.box 62 ((encN s).map .d)]) _ _ _ ⟨0, B, Nat.zero_le _, by simp, rfl, rfl, rfl⟩ (weak_forget _ (by simp) (by (try simp only [encN]); rfl) (by (repeat' (first | exact trivial | (refine ⟨rfl, ?_⟩)))) (by first | rfl | simp only [belowH, belowE, belowC, belowL, belowR, belowP, belowL_d, belowR_d, List.length_cons, List.length_nil, Nat.reduceAdd, Nat.reduceLT, decide_true, Bool.and_self, Bool.and_true]) (by first | rfl | simp only [belowH, belowE, belowC, belowL, belowR, belowP, belowL_d, belowR_d, List.length_cons, List.length_nil, Nat.reduceAdd, Nat.reduceLT, decide_true, Bool.and_self, Bool.and_true])) ?_
    rintro m2 e h ⟨k, F, hk, hF, hm2, rfl, rfl⟩ C2 hC2
    replace hm2 := Lib.hid hm2
    replace hF := Lib.hid hF
    by_cases hlt : k < s.faces.length
    · have hkI : (k : Int) < (s.faces.length : Int) := by omega
      have hwr : IntKind.i64.wrap ((k : Int) + 1) = ((k + 1 : Nat) : Int) := by rw [IntKind.wrap_i64]; omega
      obtain ⟨f, hf⟩ : ∃ f, s.faces[k]? = some f := ⟨_, List.getElem?_eq_getElem hlt⟩
      have hfl := h4 f (List.mem_of_getElem? hf)
      repeat' (first | (with_reducible refine And.intro ?_ ?_) | (with_reducible refine gK_i (fun _ => ?_) (fun _ => ?_)) | (with_reducible refine condS_i (fun _ => ?_) (fun _ => ?_)) | (with_reducible refine drw_i (by kernel_rfl)) | simp -dsimp only [go_sem, ↓reduceIte, reduceCtorEq, Nat.reduceAdd, Nat.reduceMul, Nat.reduceSub, Nat.reduceLeDiff, Nat.reduceLT, Nat.reduceEqDiff, Int.reduceLE, Int.reduceLT, Int.reduceToNat, Int.reduceBEq, Int.reduceBNe, Int.reduceEq, Int.reduceAdd, Int.reduceSub, Int.reduceMul, Int.reduceNeg, Int.cast_ofNat_Int, *, encN, encF, hkI, hf, undef] | ((with_reducible refine opK_c ?_); simp -dsimp only [go_sem, ↓reduceIte, reduceCtorEq, Nat.reduceAdd, Nat.reduceMul, Nat.reduceSub, Nat.reduceLeDiff, Nat.reduceLT, Nat.reduceEqDiff, Int.reduceLE, Int.reduceLT, Int.reduceToNat, Int.reduceBEq, Int.reduceBNe, Int.reduceEq, Int.reduceAdd, Int.reduceSub, Int.reduceMul, Int.reduceNeg, Int.cast_ofNat_Int, encN, encF, hkI, hf, undef]; first | refine callK_r (by first | assumption | fail) (by first | exact .inl rfl | exact .inr rfl) ?_ | (refine callK_i (by assumption) ?_ ?_ ?_; (solve | (repeat (first | exact DLe.refl _ | exact DLe.nil _ | (refine DLe.tup ?_) | (refine DLe.agg ?_ rfl) | exact trivial | (refine And.intro ?_ ?_)))); (solve | exact .inl rfl | exact .inr rfl))) | fail | omega | exact decide_eq_true (by omega) | exact DLe.refl _)
      refine loopG tab_ok mixed (fun m e h => ∃ (j : Nat) (F2 : Bool), j ≤ f.addrs.length ∧ F2 = (B && !((s.faces.take k).flatMap (·.addrs) ++ f.addrs.take j).contains a) ∧ m = f.addrs.length - j ∧
        e = [(6, .d (.v (.int .i64 j))), (5, .d (.v (.int .i64 k))), (4, .d (.v (.bool F2))), (3, .d (.v (.int .i64 a))), (2, .d (.v (.int .i64 0))), (1, .ptr 0 0)] ∧ h = [.box 62 ((encN s).map .d)]) _ _ _ ⟨0, F, Nat.zero_le _, by rw [hF.out]; simp, rfl, rfl, rfl⟩ (weak_forget _ (by simp) (by (try simp only [encN]); rfl) (by (repeat' (first | exact trivial | (refine ⟨rfl, ?_⟩)))) (by first | rfl | simp only [belowH, belowE, belowC, belowL, belowR, belowP, belowL_d, belowR_d, List.length_cons, List.length_nil, Nat.reduceAdd, Nat.reduceLT, decide_true, Bool.and_self, Bool.and_true]) (by first | rfl | simp only [belowH, belowE, belowC, belowL, belowR, belowP, belowL_d, belowR_d, List.length_cons, List.length_nil, Nat.reduceAdd, Nat.reduceLT, decide_true, Bool.and_self, Bool.and_true])) ?_
      rintro m3 e h ⟨j, F2, hj, hF2, hm3, rfl, rfl⟩ C3 hC3
      replace hm3 := Lib.hid hm3
      replace hF2 := Lib.hid hF2
      by_cases hlj : j < f.addrs.length
      · have hjI : (j : Int) < (f.addrs.length : Int) := by omega
        have hwj : IntKind.i64.wrap ((j : Int) + 1) = ((j + 1 : Nat) : Int) := by rw [IntKind.wrap_i64]; omega
        obtain ⟨x, hx⟩ : ∃ x, f.addrs[j]? = some x := ⟨_, List.getElem?_eq_getElem hlj⟩
        have hst : (B && !((s.faces.take k).flatMap (·.addrs) ++ f.addrs.take (j + 1)).contains a) = (F2 && (x != a)) := by
          rw [hF2.out, take_snoc hx, ← List.append_assoc]
          generalize (s.faces.take k).flatMap (·.addrs) ++ f.addrs.take j = L
          cases B
          · rfl
          · rw [Bool.true_and, Bool.true_and, Bool.eq_iff_iff]
            simp [List.contains_iff_mem, List.mem_append]
            intro _
            exact ⟨fun h e => h e.symm, fun h e => h e.symm⟩
        replace hst := Lib.hid hst
        cases F2 with
        | true =>
          repeat' (first | (with_reducible refine And.intro ?_ ?_) | (with_reducible refine gK_i (fun _ => ?_) (fun _ => ?_)) | (with_reducible refine condS_i (fun _ => ?_) (fun _ => ?_)) | (with_reducible refine drw_i (by kernel_rfl)) | simp -dsimp only [go_sem, ↓reduceIte, reduceCtorEq, Nat.reduceAdd, Nat.reduceMul, Nat.reduceSub, Nat.reduceLeDiff, Nat.reduceLT, Nat.reduceEqDiff, Int.reduceLE, Int.reduceLT, Int.reduceToNat, Int.reduceBEq, Int.reduceBNe, Int.reduceEq, Int.reduceAdd, Int.reduceSub, Int.reduceMul, Int.reduceNeg, Int.cast_ofNat_Int, *, encN, encF, encA, hkI, hf, hjI, hwj, hx, undef] | ((with_reducible refine opK_c ?_); simp -dsimp only [go_sem, ↓reduceIte, reduceCtorEq, Nat.reduceAdd, Nat.reduceMul, Nat.reduceSub, Nat.reduceLeDiff, Nat.reduceLT, Nat.reduceEqDiff, Int.reduceLE, Int.reduceLT, Int.reduceToNat, Int.reduceBEq, Int.reduceBNe, Int.reduceEq, Int.reduceAdd, Int.reduceSub, Int.reduceMul, Int.reduceNeg, Int.cast_ofNat_Int, encN, encF, encA, hkI, hf, hjI, hwj, hx, undef]; first | refine callK_r (by first | assumption | fail) (by first | exact .inl rfl | exact .inr rfl) ?_ | (refine callK_i (by assumption) ?_ ?_ ?_; (solve | (repeat (first | exact DLe.refl _ | exact DLe.nil _ | (refine DLe.tup ?_) | (refine DLe.agg ?_ rfl) | exact trivial | (refine And.intro ?_ ?_)))); (solve | exact .inl rfl | exact .inr rfl))) | fail | omega | exact decide_eq_true (by omega) | exact DLe.refl _)
          refine hC3 _ _ _ _ _ ?_ ⟨j + 1, (x != a), hlj, by rw [hst.out]; rfl, rfl, rfl, rfl⟩ (weak_forget _ (by simp) (by (try simp only [encN]); rfl) (by (repeat' (first | exact trivial | (refine ⟨rfl, ?_⟩)))) (by first | rfl | simp only [belowH, belowE, belowC, belowL, belowR, belowP, belowL_d, belowR_d, List.length_cons, List.length_nil, Nat.reduceAdd, Nat.reduceLT, decide_true, Bool.and_self, Bool.and_true]) (by first | rfl | simp only [belowH, belowE, belowC, belowL, belowR, belowP, belowL_d, belowR_d, List.length_cons, List.length_nil, Nat.reduceAdd, Nat.reduceLT, decide_true, Bool.and_self, Bool.and_true]))
          have := hm3.out; omega
        | false =>
          repeat' (first | (with_reducible refine And.intro ?_ ?_) | (with_reducible refine gK_i (fun _ => ?_) (fun _ => ?_)) | (with_reducible refine condS_i (fun _ => ?_) (fun _ => ?_)) | (with_reducible refine drw_i (by kernel_rfl)) | simp -dsimp only [go_sem, ↓reduceIte, reduceCtorEq, Nat.reduceAdd, Nat.reduceMul, Nat.reduceSub, Nat.reduceLeDiff, Nat.reduceLT, Nat.reduceEqDiff, Int.reduceLE, Int.reduceLT, Int.reduceToNat, Int.reduceBEq, Int.reduceBNe, Int.reduceEq, Int.reduceAdd, Int.reduceSub, Int.reduceMul, Int.reduceNeg, Int.cast_ofNat_Int, *, encN, encF, encA, hkI, hf, hjI, hwj, hx, undef] | ((with_reducible refine opK_c ?_); simp -dsimp only [go_sem, ↓reduceIte, reduceCtorEq, Nat.reduceAdd, Nat.reduceMul, Nat.reduceSub, Nat.reduceLeDiff, Nat.reduceLT, Nat.reduceEqDiff, Int.reduceLE, Int.reduceLT, Int.reduceToNat, Int.reduceBEq, Int.reduceBNe, Int.reduceEq, Int.reduceAdd, Int.reduceSub, Int.reduceMul, Int.reduceNeg, Int.cast_ofNat_Int, encN, encF, encA, hkI, hf, hjI, hwj, hx, undef]; first | refine callK_r (by first | assumption | fail) (by first | exact .inl rfl | exact .inr rfl) ?_ | (refine callK_i (by assumption) ?_ ?_ ?_; (solve | (repeat (first | exact DLe.refl _ | exact DLe.nil _ | (refine DLe.tup ?_) | (refine DLe.agg ?_ rfl) | exact trivial | (refine And.intro ?_ ?_)))); (solve | exact .inl rfl | exact .inr rfl))) | fail | omega | exact decide_eq_true (by omega) | exact DLe.refl _)
          refine hC3 _ _ _ _ _ ?_ ⟨j + 1, false, hlj, by rw [hst.out]; rfl, rfl, rfl, rfl⟩ (weak_forget _ (by simp) (by (try simp only [encN]); rfl) (by (repeat' (first | exact trivial | (refine ⟨rfl, ?_⟩)))) (by first | rfl | simp only [belowH, belowE, belowC, belowL, belowR, belowP, belowL_d, belowR_d, List.length_cons, List.length_nil, Nat.reduceAdd, Nat.reduceLT, decide_true, Bool.and_self, Bool.and_true]) (by first | rfl | simp only [belowH, belowE, belowC, belowL, belowR, belowP, belowL_d, belowR_d, List.length_cons, List.length_nil, Nat.reduceAdd, Nat.reduceLT, decide_true, Bool.and_self, Bool.and_true]))
          have := hm3.out; omega
      · obtain rfl : j = f.addrs.length := by omega
        have hst : F2 = (B && !((s.faces.take (k + 1)).flatMap (·.addrs)).contains a) := by
          rw [hF2.out, List.take_length, take_snoc hf, List.flatMap_append]; simp
        replace hst := Lib.hid hst
        repeat' (first | (with_reducible refine And.intro ?_ ?_) | (with_reducible refine gK_i (fun _ => ?_) (fun _ => ?_)) | (with_reducible refine condS_i (fun _ => ?_) (fun _ => ?_)) | (with_reducible refine drw_i (by kernel_rfl)) | simp -dsimp only [go_sem, ↓reduceIte, reduceCtorEq, Nat.reduceAdd, Nat.reduceMul, Nat.reduceSub, Nat.reduceLeDiff, Nat.reduceLT, Nat.reduceEqDiff, Int.reduceLE, Int.reduceLT, Int.reduceToNat, Int.reduceBEq, Int.reduceBNe, Int.reduceEq, Int.reduceAdd, Int.reduceSub, Int.reduceMul, Int.reduceNeg, Int.cast_ofNat_Int, *, encN, encF, hkI, hwr, hf, Int.lt_irrefl, undef] | ((with_reducible refine opK_c ?_); simp -dsimp only [go_sem, ↓reduceIte, reduceCtorEq, Nat.reduceAdd, Nat.reduceMul, Nat.reduceSub, Nat.reduceLeDiff, Nat.reduceLT, Nat.reduceEqDiff, Int.reduceLE, Int.reduceLT, Int.reduceToNat, Int.reduceBEq, Int.reduceBNe, Int.reduceEq, Int.reduceAdd, Int.reduceSub, Int.reduceMul, Int.reduceNeg, Int.cast_ofNat_Int, encN, encF, hkI, hwr, hf, Int.lt_irrefl, undef]; first | refine callK_r (by first | assumption | fail) (by first | exact .inl rfl | exact .inr rfl) ?_ | (refine callK_i (by assumption) ?_ ?_ ?_; (solve | (repeat (first | exact DLe.refl _ | exact DLe.nil _ | (refine DLe.tup ?_) | (refine DLe.agg ?_ rfl) | exact trivial | (refine And.intro ?_ ?_)))); (solve | exact .inl rfl | exact .inr rfl))) | fail | omega | exact decide_eq_true (by omega) | exact DLe.refl _)
        refine hC2 _ _ _ _ _ ?_ ⟨k + 1, F2, hlt, hst.out, rfl, rfl, rfl⟩ (weak_forget _ (by simp) (by (try simp only [encN]); rfl) (by (repeat' (first | exact trivial | (refine ⟨rfl, ?_⟩)))) (by first | rfl | simp only [belowH, belowE, belowC, belowL, belowR, belowP, belowL_d, belowR_d, List.length_cons, List.length_nil, Nat.reduceAdd, Nat.reduceLT, decide_true, Bool.and_self, Bool.and_true]) (by first | rfl | simp only [belowH, belowE, belowC, belowL, belowR, belowP, belowL_d, belowR_d, List.length_cons, List.length_nil, Nat.reduceAdd, Nat.reduceLT, decide_true, Bool.and_self, Bool.and_true]))
        have := hm2.out; omega
    · obtain rfl : k = s.faces.length := by omega
      have hF2 := hF.out
      rw [List.take_length] at hF2
      replace hF2 := Lib.hid hF2
      clear hF
      have hi1 : ∀ n, leastF (s.faces.flatMap (·.addrs)) s.at_ (n + 1) a = if B = true then (if a ∈ s.faces.flatMap (·.addrs) then leastF (s.faces.flatMap (·.addrs)) s.at_ n (a + 1) else some a) else none := fun n => by rw [leastF, ← hB.out]
      have hnn : 65537 - i = (65536 - i) + 1 := by omega
      replace hi1 := Lib.hid hi1
      cases F with
      | true =>
        have hb : R = a := by
          have h1 := hF2.out
          have hBt : B = true := by cases B <;> simp at h1 ⊢
          have hau : a ∉ s.faces.flatMap (·.addrs) := by
            rw [hBt, Bool.true_and] at h1
            intro hm
            rw [List.contains_iff_mem.2 hm] at h1; simp at h1
          have hi0 : 0 < i := by
            have h2 := (innB_iff hr).1 (by rw [← hB.out]; exact hBt)
            have := ha.out; omega
          rw [hR.out, hle.out hi0, hnn, hi1.out, if_pos hBt, if_neg hau]; rfl
        rw [hb]
        replace hb := Lib.hid hb
        repeat' (first | (with_reducible refine And.intro ?_ ?_) | (with_reducible refine gK_i (fun _ => ?_) (fun _ => ?_)) | (with_reducible refine condS_i (fun _ => ?_) (fun _ => ?_)) | (with_reducible refine drw_i (by kernel_rfl)) | simp -dsimp only [go_sem, ↓reduceIte, reduceCtorEq, Nat.reduceAdd, Nat.reduceMul, Nat.reduceSub, Nat.reduceLeDiff, Nat.reduceLT, Nat.reduceEqDiff, Int.reduceLE, Int.reduceLT, Int.reduceToNat, Int.reduceBEq, Int.reduceBNe, Int.reduceEq, Int.reduceAdd, Int.reduceSub, Int.reduceMul, Int.reduceNeg, Int.cast_ofNat_Int, *, encN, Int.lt_irrefl, undef] | ((with_reducible refine opK_c ?_); simp -dsimp only [go_sem, ↓reduceIte, reduceCtorEq, Nat.reduceAdd, Nat.reduceMul, Nat.reduceSub, Nat.reduceLeDiff, Nat.reduceLT, Nat.reduceEqDiff, Int.reduceLE, Int.reduceLT, Int.reduceToNat, Int.reduceBEq, Int.reduceBNe, Int.reduceEq, Int.reduceAdd, Int.reduceSub, Int.reduceMul, Int.reduceNeg, Int.cast_ofNat_Int, encN, Int.lt_irrefl, undef]; first | refine callK_r (by first | assumption | fail) (by first | exact .inl rfl | exact .inr rfl) ?_ | (refine callK_i (by assumption) ?_ ?_ ?_; (solve | (repeat (first | exact DLe.refl _ | exact DLe.nil _ | (refine DLe.tup ?_) | (refine DLe.agg ?_ rfl) | exact trivial | (refine And.intro ?_ ?_)))); (solve | exact .inl rfl | exact .inr rfl))) | fail | omega | exact decide_eq_true (by omega) | exact DLe.refl _)
        all_goals exact DLe.refl _
      | false =>
        have hnx : leastS s = leastF (s.faces.flatMap (·.addrs)) s.at_ (65537 - (i + 1)) (a + 1) := by
          rw [show 65537 - (i + 1) = 65536 - i by omega]
          have h1 := hF2.out
          by_cases hi0 : 0 < i
          · rw [hle.out hi0, hnn, hi1.out]
            by_cases hBt : B = true
            · rw [if_pos hBt, if_pos]
              rw [hBt, Bool.true_and] at h1
              rw [← List.contains_iff_mem]
              revert h1
              cases (s.faces.flatMap (·.addrs)).contains a <;> simp
            · rw [if_neg hBt]
              have h2 : innB s.at_ (a + 1) = false := by
                rw [Bool.eq_false_iff, ne_eq, innB_iff hr]
                intro h3
                have h4 : innB s.at_ a = true := (innB_iff hr).2 ⟨by have := ha.out; omega, by omega⟩
                rw [← hB.out] at h4; exact hBt h4
              rw [leastF_no h2]
          · obtain rfl : i = 0 := by omega
            have := ha.out
            rw [show a + 1 = s.at_.at_ + 1 by omega]
            rfl
        replace hnx := Lib.hid hnx
        repeat' (first | (with_reducible refine And.intro ?_ ?_) | (with_reducible refine gK_i (fun _ => ?_) (fun _ => ?_)) | (with_reducible refine condS_i (fun _ => ?_) (fun _ => ?_)) | (with_reducible refine drw_i (by kernel_rfl)) | simp -dsimp only [go_sem, ↓reduceIte, reduceCtorEq, Nat.reduceAdd, Nat.reduceMul, Nat.reduceSub, Nat.reduceLeDiff, Nat.reduceLT, Nat.reduceEqDiff, Int.reduceLE, Int.reduceLT, Int.reduceToNat, Int.reduceBEq, Int.reduceBNe, Int.reduceEq, Int.reduceAdd, Int.reduceSub, Int.reduceMul, Int.reduceNeg, Int.cast_ofNat_Int, *, encN, hwa, Int.lt_irrefl, undef] | ((with_reducible refine opK_c ?_); simp -dsimp only [go_sem, ↓reduceIte, reduceCtorEq, Nat.reduceAdd, Nat.reduceMul, Nat.reduceSub, Nat.reduceLeDiff, Nat.reduceLT, Nat.reduceEqDiff, Int.reduceLE, Int.reduceLT, Int.reduceToNat, Int.reduceBEq, Int.reduceBNe, Int.reduceEq, Int.reduceAdd, Int.reduceSub, Int.reduceMul, Int.reduceNeg, Int.cast_ofNat_Int, encN, hwa, Int.lt_irrefl, undef]; first | refine callK_r (by first | assumption | fail) (by first | exact .inl rfl | exact .inr rfl) ?_ | (refine callK_i (by assumption) ?_ ?_ ?_; (solve | (repeat (first | exact DLe.refl _ | exact DLe.nil _ | (refine DLe.tup ?_) | (refine DLe.agg ?_ rfl) | exact trivial | (refine And.intro ?_ ?_)))); (solve | exact .inl rfl | exact .inr rfl))) | fail | omega | exact decide_eq_true (by omega) | exact DLe.refl _)
        refine hC _ _ _ _ _ ?_ ⟨i + 1, a + 1, by rw [ha.out]; omega, by have := hal.out; omega, fun _ => hnx.out, rfl, rfl, rfl⟩ (weak_forget _ (by simp) (by (try simp only [encN]); rfl) (by (repeat' (first | exact trivial | (refine ⟨rfl, ?_⟩)))) (by first | rfl | simp only [belowH, belowE, belowC, belowL, belowR, belowP, belowL_d, belowR_d, List.length_cons, List.length_nil, Nat.reduceAdd, Nat.reduceLT, decide_true, Bool.and_self, Bool.and_true]) (by first | rfl | simp only [belowH, belowE, belowC, belowL, belowR, belowP, belowL_d, belowR_d, List.length_cons, List.length_nil, Nat.reduceAdd, Nat.reduceLT, decide_true, Bool.and_self, Bool.and_true]))
        have := hm.out; omega
  · have hlI : decide (a ≤ s.at_.hi - 1) = false := by simpa using hal
    have hb : R = -1 := by
      have h2 : innB s.at_ a = false := by
        rw [Bool.eq_false_iff, ne_eq, innB_iff hr]; omega
      rw [hR.out, hle.out (by have := ha.out; omega), leastF_no h2]; rfl
    rw [hb]
    replace hb := Lib.hid hb
    replace hal := Lib.hid hal
    repeat' (first | (with_reducible refine And.intro ?_ ?_) | (with_reducible refine gK_i (fun _ => ?_) (fun _ => ?_)) | (with_reducible refine condS_i (fun _ => ?_) (fun _ => ?_)) | (with_reducible refine drw_i (by kernel_rfl)) | simp -dsimp only [go_sem, ↓reduceIte, reduceCtorEq, Nat.reduceAdd, Nat.reduceMul, Nat.reduceSub, Nat.reduceLeDiff, Nat.reduceLT, Nat.reduceEqDiff, Int.reduceLE, Int.reduceLT, Int.reduceToNat, Int.reduceBEq, Int.reduceBNe, Int.reduceEq, Int.reduceAdd, Int.reduceSub, Int.reduceMul, Int.reduceNeg, Int.cast_ofNat_Int, *, encN, encP, hlI, undef] | ((with_reducible refine opK_c ?_); simp -dsimp only [go_sem, ↓reduceIte, reduceCtorEq, Nat.reduceAdd, Nat.reduceMul, Nat.reduceSub, Nat.reduceLeDiff, Nat.reduceLT, Nat.reduceEqDiff, Int.reduceLE, Int.reduceLT, Int.reduceToNat, Int.reduceBEq, Int.reduceBNe, Int.reduceEq, Int.reduceAdd, Int.reduceSub, Int.reduceMul, Int.reduceNeg, Int.cast_ofNat_Int, encN, encP, hlI, undef]; first | refine callK_r (by first | assumption | exact hla) (by first | exact .inl rfl | exact .inr rfl) ?_ | (refine callK_i (by assumption) ?_ ?_ ?_; (solve | (repeat (first | exact DLe.refl _ | exact DLe.nil _ | (refine DLe.tup ?_) | (refine DLe.agg ?_ rfl) | exact trivial | (refine And.intro ?_ ?_)))); (solve | exact .inl rfl | exact .inr rfl))) | fail | omega | exact decide_eq_true (by omega) | exact DLe.refl _)
    all_goals exact DLe.refl _
end Go.Proofs.YtdcjeacphbfmjaaGreat
namespace Go.Proofs.YtdcjeacphbfmjaaGreat
open Go Go.RowKit
theorem leastF_inn {u : List Int} {p : Pfx} {a : Int} : ∀ {n : Nat} {b : Int}, leastF u p n b = some a → innB p a = true
  | 0, _, h => by simp [leastF] at h
  | n + 1, b, h => by
    rw [leastF] at h
    split at h
    · rename_i hb
      split at h
      · exact leastF_inn h
      · rw [← Option.some.inj h]; exact hb
    · cases h
/-- One more from behind: so far. -/
def BubI {α : Type} (key : α → Int) (x : α) (l : List α) (q : Nat) (out : List α) : Prop := q ≤ l.length ∧ out = l.take q ++ x :: l.drop q ∧ ∀ y ∈ l.drop q, key x < key y
section
variable {α : Type} {key : α → Int} {x y : α} {l out : List α} {q : Nat}
theorem bub_0 : BubI key x l l.length (l ++ [x]) := ⟨Nat.le_refl _, by simp, by simp⟩
theorem bub_x (h : BubI key x l q out) : out[q]? = some x := by
  rw [h.2.1, List.getElem?_append_right (by rw [List.length_take]; omega), List.length_take, show q - min q l.length = 0 by have := h.1; omega]; rfl
theorem bub_y (h : BubI key x l q out) (h0 : 0 < q) (hy : l[q - 1]? = some y) : out[q - 1]? = some y := by
  rw [h.2.1, List.getElem?_append_left (by rw [List.length_take]; have := h.1; omega), List.getElem?_take_of_lt (by omega), hy]
theorem bub_s (h : BubI key x l q out) (h0 : 0 < q) (hy : l[q - 1]? = some y) (hg : key y > key x) : BubI key x l (q - 1) ((out.set (q - 1) x).set q y) := by
  obtain ⟨h1, h2, h3⟩ := h
  obtain ⟨hlt, he⟩ := List.getElem?_eq_some_iff.1 hy
  obtain ⟨n, rfl⟩ : ∃ n, q = n + 1 := ⟨q - 1, by omega⟩
  simp only [Nat.add_sub_cancel] at hy hlt he ⊢
  have hd := drop_get hy
  have ht := take_snoc hy
  refine ⟨by omega, ?_, fun z hz => ?_⟩
  · rw [h2, ht, hd]
    have hl : (l.take n).length = n := by rw [List.length_take]; omega
    rw [List.append_assoc, List.set_append_right _ _ (by omega), hl, Nat.sub_self, List.set_append_right _ _ (by omega), hl]
    simp
  · rw [hd] at hz
    rcases List.mem_cons.1 hz with rfl | hz
    · exact hg
    · exact h3 z hz
theorem bub_e (h : BubI key x l q out) (hs : l.Pairwise fun a b => key a < key b) (hl : ∀ y, 0 < q → l[q - 1]? = some y → key y < key x) : out = insK key x l := by
  obtain ⟨h1, h2, h3⟩ := h
  have : lbN key (key x) l = q := by
    refine lbN_eq h1 (fun j hj hjq => ?_) (fun j hj hqj => ?_)
    · have e1 := hl l[q - 1] (by omega) (List.getElem?_eq_getElem (by omega))
      rcases Nat.lt_or_ge j (q - 1) with h | h
      · have := List.pairwise_iff_getElem.1 hs j (q - 1) hj (by omega) h; omega
      · obtain rfl : j = q - 1 := by omega
        exact e1
    · have := h3 l[j] (List.mem_iff_getElem.2 ⟨j - q, by rw [List.length_drop]; omega, by rw [List.getElem_drop]; congr 1; omega⟩)
      omega
  unfold insK
  rw [this, h2]
end
set_option maxRecDepth 100000 in
set_option maxHeartbeats 2000000 in
theorem faceVpc_p (v : Vpc) (sub id : Int) (hl : v.subs.length ≤ 9223372036854775807) (hf : ∀ s ∈ v.subs, s.faces.length ≤ 9223372036854775807) : PSpec Tryz.prog 22 [.agg (encV v), .v (.int .i64 sub), .v (.int .i64 id)] (.tup [.agg (encV (faceV v sub id).1), .v (.int .i64 (faceV v sub id).2.1), .v (.int .i64 (faceV v sub id).2.2)]) := by
  obtain ⟨R, hR⟩ : ∃ R, R = faceV v sub id := ⟨_, rfl⟩
  rw [← hR]
  replace hR := Lib.hid hR
  have hck := checkVpc_p v hl hf
  clear hl hf
  by_cases hc : chkV v = 0
  · have hk := vpcOK_of hc
    have hn4 := hk.n4
    have hn6 := hk.n6
    have hat := subAt_p v sub (by omega)
    unfold idxI at hat
    have hR2 := hR.out
    unfold faceV at hR2
    rw [if_neg (by simpa using hc)] at hR2
    rw [hc] at hck
    clear hR hc
    have hm1 : decide ((-1 : Int) < 0) = true := rfl
    cases hf : v.subs.findIdx? (fun s => s.id == sub) with
    | none =>
      rw [hf] at hat hR2
      simp only at hat hR2
      rw [hR2]
      replace hR2 := Lib.hid hR2
      clear hk hf
      refine ps_i tab_ok mixed Tryz.func22 rfl Tryz.ntmps22 Tryz.results22 (by kernel_rfl) ?_
      repeat' (first | (with_reducible refine And.intro ?_ ?_) | (with_reducible refine gK_i (fun _ => ?_) (fun _ => ?_)) | (with_reducible refine condS_i (fun _ => ?_) (fun _ => ?_)) | (with_reducible refine drw_i (by kernel_rfl)) | simp -dsimp only [go_sem, ↓reduceIte, reduceCtorEq, Nat.reduceAdd, Nat.reduceMul, Nat.reduceSub, Nat.reduceLeDiff, Nat.reduceLT, Nat.reduceEqDiff, Int.reduceLE, Int.reduceLT, Int.reduceToNat, Int.reduceBEq, Int.reduceBNe, Int.reduceEq, Int.reduceAdd, Int.reduceSub, Int.reduceMul, Int.reduceNeg, Int.cast_ofNat_Int, *, encV, hm1, undef] | ((with_reducible refine opK_c ?_); simp -dsimp only [go_sem, ↓reduceIte, reduceCtorEq, Nat.reduceAdd, Nat.reduceMul, Nat.reduceSub, Nat.reduceLeDiff, Nat.reduceLT, Nat.reduceEqDiff, Int.reduceLE, Int.reduceLT, Int.reduceToNat, Int.reduceBEq, Int.reduceBNe, Int.reduceEq, Int.reduceAdd, Int.reduceSub, Int.reduceMul, Int.reduceNeg, Int.cast_ofNat_Int, encV, hm1, undef]; first | refine callK_r (by first | assumption | exact hck | exact hat) (by first | exact .inl rfl | exact .inr rfl) ?_ | (refine callK_i (by assumption) ?_ ?_ ?_; (solve | (repeat (first | exact DLe.refl _ | exact DLe.nil _ | (refine DLe.tup ?_) | (refine DLe.agg ?_ rfl) | exact trivial | (refine And.intro ?_ ?_)))); (solve | exact .inl rfl | exact .inr rfl))) | fail | omega | exact decide_eq_true (by omega) | exact DLe.refl _)
      all_goals exact (by repeat (first | exact DLe.refl _ | exact DLe.nil _ | (refine DLe.tup ?_) | (refine DLe.agg ?_ rfl) | exact trivial | (refine And.intro ?_ ?_)))
    | some i =>
      obtain ⟨pre, s, post, hv, hpl, -, hs⟩ := find_split hf
      have hsm := List.mem_of_getElem? hs
      have h8s := hk.n8 s hsm
      have hob := ownF_m v pre post s hv hk.n4 hk.n6 hk.n8
      have hsr := sub_right hk hsm
      have hle := leastR_p s h8s.1 h8s.2 hsr.1
      have hw : PSpec Tryz.prog 42 [.v (.int .i64 id), .v (.int .i64 1), .v (.int .i64 65536)] (.v (.bool (idOK id))) := withinR_p _ _ _
      have hfa := faceAt_p s id (by omega)
      have hi0 : decide ((i : Int) < 0) = false := by simp
      have hsl : v.subs.length = pre.length + 1 + post.length := by rw [hv]; simp; omega
      rw [hf] at hat hR2
      simp only [hs] at hat hR2
      have hst := Lib.hid hsr.2.2.1
      clear hk hf hsr
      have hf0 := idxI_any (fun f : Fce => f.id == id) s.faces
      obtain ⟨J, hJ⟩ : ∃ J, J = idxI (fun f : Fce => f.id == id) s.faces := ⟨_, rfl⟩
      rw [← hJ] at hfa hf0
      clear hJ
      unfold faceErr at hR2
      by_cases hbad : idOK id = false ∨ (s.faces.any fun f => f.id == id) = true ∨ s.faces.length = 8 ∨ (leastS s).isSome = false
      · replace hv := Lib.hid hv
        clear hob hpl hsl
        cases b1 : idOK id with
        | false =>
          rw [b1] at hR2 hw
          have hr : R = (Vpc.zero, 0, 3) := by rw [hR2]; rfl
          rw [hr]
          replace hr := Lib.hid hr
          clear hR2 hbad
          refine ps_i tab_ok mixed Tryz.func22 rfl Tryz.ntmps22 Tryz.results22 (by kernel_rfl) ?_
          repeat' (first | (with_reducible refine And.intro ?_ ?_) | (with_reducible refine gK_i (fun _ => ?_) (fun _ => ?_)) | (with_reducible refine condS_i (fun _ => ?_) (fun _ => ?_)) | (with_reducible refine drw_i (by kernel_rfl)) | simp -dsimp only [go_sem, ↓reduceIte, reduceCtorEq, Nat.reduceAdd, Nat.reduceMul, Nat.reduceSub, Nat.reduceLeDiff, Nat.reduceLT, Nat.reduceEqDiff, Int.reduceLE, Int.reduceLT, Int.reduceToNat, Int.reduceBEq, Int.reduceBNe, Int.reduceEq, Int.reduceAdd, Int.reduceSub, Int.reduceMul, Int.reduceNeg, Int.cast_ofNat_Int, *, encV, encN, hi0, hs, undef] | ((with_reducible refine opK_c ?_); simp -dsimp only [go_sem, ↓reduceIte, reduceCtorEq, Nat.reduceAdd, Nat.reduceMul, Nat.reduceSub, Nat.reduceLeDiff, Nat.reduceLT, Nat.reduceEqDiff, Int.reduceLE, Int.reduceLT, Int.reduceToNat, Int.reduceBEq, Int.reduceBNe, Int.reduceEq, Int.reduceAdd, Int.reduceSub, Int.reduceMul, Int.reduceNeg, Int.cast_ofNat_Int, encV, encN, hi0, hs, undef]; first | refine callK_r (by first | assumption | exact hck | exact hat | exact hle | exact hw) (by first | exact .inl rfl | exact .inr rfl) ?_ | (refine callK_i (by assumption) ?_ ?_ ?_; (solve | (repeat (first | exact DLe.refl _ | exact DLe.nil _ | (refine DLe.tup ?_) | (refine DLe.agg ?_ rfl) | exact trivial | (refine And.intro ?_ ?_)))); (solve | exact .inl rfl | exact .inr rfl))) | fail | omega | exact decide_eq_true (by omega) | exact DLe.refl _)
          all_goals exact (by repeat (first | exact DLe.refl _ | exact DLe.nil _ | (refine DLe.tup ?_) | (refine DLe.agg ?_ rfl) | exact trivial | (refine And.intro ?_ ?_)))
        | true =>
        rw [b1] at hR2 hw
        cases b2 : s.faces.any fun f => f.id == id with
        | true =>
          rw [b2] at hR2 hf0
          have hr : R = (Vpc.zero, 0, 6) := by rw [hR2]; simp
          rw [hr]
          replace hr := Lib.hid hr
          clear hR2 hbad
          refine ps_i tab_ok mixed Tryz.func22 rfl Tryz.ntmps22 Tryz.results22 (by kernel_rfl) ?_
          repeat' (first | (with_reducible refine And.intro ?_ ?_) | (with_reducible refine gK_i (fun _ => ?_) (fun _ => ?_)) | (with_reducible refine condS_i (fun _ => ?_) (fun _ => ?_)) | (with_reducible refine drw_i (by kernel_rfl)) | simp -dsimp only [go_sem, ↓reduceIte, reduceCtorEq, Nat.reduceAdd, Nat.reduceMul, Nat.reduceSub, Nat.reduceLeDiff, Nat.reduceLT, Nat.reduceEqDiff, Int.reduceLE, Int.reduceLT, Int.reduceToNat, Int.reduceBEq, Int.reduceBNe, Int.reduceEq, Int.reduceAdd, Int.reduceSub, Int.reduceMul, Int.reduceNeg, Int.cast_ofNat_Int, *, encV, encN, hi0, hs, hf0, undef] | ((with_reducible refine opK_c ?_); simp -dsimp only [go_sem, ↓reduceIte, reduceCtorEq, Nat.reduceAdd, Nat.reduceMul, Nat.reduceSub, Nat.reduceLeDiff, Nat.reduceLT, Nat.reduceEqDiff, Int.reduceLE, Int.reduceLT, Int.reduceToNat, Int.reduceBEq, Int.reduceBNe, Int.reduceEq, Int.reduceAdd, Int.reduceSub, Int.reduceMul, Int.reduceNeg, Int.cast_ofNat_Int, encV, encN, hi0, hs, hf0, undef]; first | refine callK_r (by first | assumption | exact hck | exact hat | exact hle | exact hw | exact hfa) (by first | exact .inl rfl | exact .inr rfl) ?_ | (refine callK_i (by assumption) ?_ ?_ ?_; (solve | (repeat (first | exact DLe.refl _ | exact DLe.nil _ | (refine DLe.tup ?_) | (refine DLe.agg ?_ rfl) | exact trivial | (refine And.intro ?_ ?_)))); (solve | exact .inl rfl | exact .inr rfl))) | fail | omega | exact decide_eq_true (by omega) | exact DLe.refl _)
          all_goals exact (by repeat (first | exact DLe.refl _ | exact DLe.nil _ | (refine DLe.tup ?_) | (refine DLe.agg ?_ rfl) | exact trivial | (refine And.intro ?_ ?_)))
        | false =>
        rw [b2] at hR2 hf0
        by_cases b3 : s.faces.length = 8
        · have hr : R = (Vpc.zero, 0, 2) := by rw [hR2]; simp [b3]
          have hd : decide ((s.faces.length : Int) ≥ 8) = true := by simp; omega
          rw [hr]
          replace hr := Lib.hid hr
          replace b3 := Lib.hid b3
          clear hR2 hbad
          refine ps_i tab_ok mixed Tryz.func22 rfl Tryz.ntmps22 Tryz.results22 (by kernel_rfl) ?_
          repeat' (first | (with_reducible refine And.intro ?_ ?_) | (with_reducible refine gK_i (fun _ => ?_) (fun _ => ?_)) | (with_reducible refine condS_i (fun _ => ?_) (fun _ => ?_)) | (with_reducible refine drw_i (by kernel_rfl)) | simp -dsimp only [go_sem, ↓reduceIte, reduceCtorEq, Nat.reduceAdd, Nat.reduceMul, Nat.reduceSub, Nat.reduceLeDiff, Nat.reduceLT, Nat.reduceEqDiff, Int.reduceLE, Int.reduceLT, Int.reduceToNat, Int.reduceBEq, Int.reduceBNe, Int.reduceEq, Int.reduceAdd, Int.reduceSub, Int.reduceMul, Int.reduceNeg, Int.cast_ofNat_Int, *, encV, encN, hi0, hs, hf0, hd, undef] | ((with_reducible refine opK_c ?_); simp -dsimp only [go_sem, ↓reduceIte, reduceCtorEq, Nat.reduceAdd, Nat.reduceMul, Nat.reduceSub, Nat.reduceLeDiff, Nat.reduceLT, Nat.reduceEqDiff, Int.reduceLE, Int.reduceLT, Int.reduceToNat, Int.reduceBEq, Int.reduceBNe, Int.reduceEq, Int.reduceAdd, Int.reduceSub, Int.reduceMul, Int.reduceNeg, Int.cast_ofNat_Int, encV, encN, hi0, hs, hf0, hd, undef]; first | refine callK_r (by first | assumption | exact hck | exact hat | exact hle | exact hw | exact hfa) (by first | exact .inl rfl | exact .inr rfl) ?_ | (refine callK_i (by assumption) ?_ ?_ ?_; (solve | (repeat (first | exact DLe.refl _ | exact DLe.nil _ | (refine DLe.tup ?_) | (refine DLe.agg ?_ rfl) | exact trivial | (refine And.intro ?_ ?_)))); (solve | exact .inl rfl | exact .inr rfl))) | fail | omega | exact decide_eq_true (by omega) | exact DLe.refl _)
          all_goals exact (by repeat (first | exact DLe.refl _ | exact DLe.nil _ | (refine DLe.tup ?_) | (refine DLe.agg ?_ rfl) | exact trivial | (refine And.intro ?_ ?_)))
        · have hd : decide ((s.faces.length : Int) ≥ 8) = false := by simp; omega
          have b4 : leastS s = none := by
            rcases hbad with h | h | h | h
            · rw [b1] at h; cases h
            · rw [b2] at h; cases h
            · exact absurd h b3
            · simpa using h
          have hr : R = (Vpc.zero, 0, 8) := by rw [hR2]; simp [b3, b4]
          rw [b4, Option.getD_none] at hle
          have hm1 : decide ((-1 : Int) < 0) = true := rfl
          rw [hr]
          replace hr := Lib.hid hr
          clear hR2 hbad b4
          refine ps_i tab_ok mixed Tryz.func22 rfl Tryz.ntmps22 Tryz.results22 (by kernel_rfl) ?_
          repeat' (first | (with_reducible refine And.intro ?_ ?_) | (with_reducible refine gK_i (fun _ => ?_) (fun _ => ?_)) | (with_reducible refine condS_i (fun _ => ?_) (fun _ => ?_)) | (with_reducible refine drw_i (by kernel_rfl)) | simp -dsimp only [go_sem, ↓reduceIte, reduceCtorEq, Nat.reduceAdd, Nat.reduceMul, Nat.reduceSub, Nat.reduceLeDiff, Nat.reduceLT, Nat.reduceEqDiff, Int.reduceLE, Int.reduceLT, Int.reduceToNat, Int.reduceBEq, Int.reduceBNe, Int.reduceEq, Int.reduceAdd, Int.reduceSub, Int.reduceMul, Int.reduceNeg, Int.cast_ofNat_Int, *, encV, encN, hi0, hs, hf0, hd, hm1, undef] | ((with_reducible refine opK_c ?_); simp -dsimp only [go_sem, ↓reduceIte, reduceCtorEq, Nat.reduceAdd, Nat.reduceMul, Nat.reduceSub, Nat.reduceLeDiff, Nat.reduceLT, Nat.reduceEqDiff, Int.reduceLE, Int.reduceLT, Int.reduceToNat, Int.reduceBEq, Int.reduceBNe, Int.reduceEq, Int.reduceAdd, Int.reduceSub, Int.reduceMul, Int.reduceNeg, Int.cast_ofNat_Int, encV, encN, hi0, hs, hf0, hd, hm1, undef]; first | refine callK_r (by first | assumption | exact hck | exact hat | exact hle | exact hw | exact hfa) (by first | exact .inl rfl | exact .inr rfl) ?_ | (refine callK_i (by assumption) ?_ ?_ ?_; (solve | (repeat (first | exact DLe.refl _ | exact DLe.nil _ | (refine DLe.tup ?_) | (refine DLe.agg ?_ rfl) | exact trivial | (refine And.intro ?_ ?_)))); (solve | exact .inl rfl | exact .inr rfl))) | fail | omega | exact decide_eq_true (by omega) | exact DLe.refl _)
          all_goals exact (by repeat (first | exact DLe.refl _ | exact DLe.nil _ | (refine DLe.tup ?_) | (refine DLe.agg ?_ rfl) | exact trivial | (refine And.intro ?_ ?_)))
      · obtain ⟨b1, hbad⟩ := not_or.1 hbad
        obtain ⟨b2, hbad⟩ := not_or.1 hbad
        obtain ⟨b3, b4⟩ := not_or.1 hbad
        simp only [Bool.not_eq_false, Bool.not_eq_true] at b1 b2 b4
        obtain ⟨a, ha⟩ := Option.isSome_iff_exists.1 b4
        have hae : 0 ≤ a := by
          have h1 := innB_lt (leastF_inn (show leastF _ _ _ _ = some a from ha))
          obtain ⟨-, -, r3, -, -⟩ := s.at_.bd h1.1
          omega
        rw [b1] at hw
        rw [b2] at hf0
        rw [ha, Option.getD_some] at hle
        have ha0 : decide (a < 0) = false := by simpa using hae
        have hd : decide ((s.faces.length : Int) ≥ 8) = false := by simp; omega
        have hb1 : (s.faces.length + 1) * 32 ≤ 140737488355328 := by omega
        have hR3 : R = ({ v with subs := pre ++ { s with faces := insK (·.id) ⟨id, [a]⟩ s.faces } :: post }, a, 0) := by
          rw [hR2, if_neg (by simp [b1, b2, b3, ha]), ha, Option.getD_some]
          rw [hv, ← hpl, List.set_append_right _ _ (Nat.le_refl _), Nat.sub_self, List.set_cons_zero]
        clear hR2
        replace hv := Lib.hid hv
        replace hR3 := Lib.hid hR3
        replace b2 := Lib.hid b2
        clear b4
        have hwl : IntKind.i64.wrap (((s.faces.length + 1 : Nat) : Int) - 1) = (s.faces.length : Int) := by rw [IntKind.wrap_i64]; omega
        subst hpl
        refine ps_i tab_ok mixed Tryz.func22 rfl Tryz.ntmps22 Tryz.results22 (by kernel_rfl) ?_
        repeat' (first | (with_reducible refine And.intro ?_ ?_) | (with_reducible refine gK_i (fun _ => ?_) (fun _ => ?_)) | (with_reducible refine condS_i (fun _ => ?_) (fun _ => ?_)) | (with_reducible refine drw_i (by kernel_rfl)) | simp -dsimp only [go_sem, ↓reduceIte, reduceCtorEq, Nat.reduceAdd, Nat.reduceMul, Nat.reduceSub, Nat.reduceLeDiff, Nat.reduceLT, Nat.reduceEqDiff, Int.reduceLE, Int.reduceLT, Int.reduceToNat, Int.reduceBEq, Int.reduceBNe, Int.reduceEq, Int.reduceAdd, Int.reduceSub, Int.reduceMul, Int.reduceNeg, Int.cast_ofNat_Int, *, encV, encN, subRow, renR_zipG, zipG_get, zipG_set, zipG_len, viewR_zipG, hi0, hs, hf0, hd, ha0, hb1, hwl, undef] | ((with_reducible refine opK_c ?_); simp -dsimp only [go_sem, ↓reduceIte, reduceCtorEq, Nat.reduceAdd, Nat.reduceMul, Nat.reduceSub, Nat.reduceLeDiff, Nat.reduceLT, Nat.reduceEqDiff, Int.reduceLE, Int.reduceLT, Int.reduceToNat, Int.reduceBEq, Int.reduceBNe, Int.reduceEq, Int.reduceAdd, Int.reduceSub, Int.reduceMul, Int.reduceNeg, Int.cast_ofNat_Int, encV, encN, subRow, renR_zipG, zipG_get, zipG_set, zipG_len, viewR_zipG, hi0, hs, hf0, hd, ha0, hb1, hwl, undef]; first | refine callK_r (by first | assumption | exact hck | exact hat | exact hle | exact hw | exact hfa) (by first | exact .inl rfl | exact .inr rfl) ?_ | (refine callK_i (by assumption) ?_ ?_ ?_; (solve | (repeat (first | exact DLe.refl _ | exact DLe.nil _ | (refine DLe.tup ?_) | (refine DLe.agg ?_ rfl) | exact trivial | (refine And.intro ?_ ?_)))); (solve | exact .inl rfl | exact .inr rfl))) | (refine opK_M [] (hob) ?_ ?_ ?_ ?_ ?_ ?_; (solve | rfl | simp only [go_sem, ↓reduceIte, reduceCtorEq, Nat.reduceAdd, Nat.reduceMul, Nat.reduceSub, Nat.reduceLeDiff, Nat.reduceLT, Nat.reduceEqDiff, Int.reduceLE, Int.reduceLT, Int.reduceToNat, Int.reduceBEq, Int.reduceBNe, Int.reduceEq, Int.reduceAdd, Int.reduceSub, Int.reduceMul, Int.reduceNeg, Int.cast_ofNat_Int, encV, subRow, renR_zipG]); (solve | rfl); (solve | decide); (solve | simp); (solve | simp only [go_sem, ↓reduceIte, reduceCtorEq, Nat.reduceAdd, Nat.reduceMul, Nat.reduceSub, Nat.reduceLeDiff, Nat.reduceLT, Nat.reduceEqDiff, Int.reduceLE, Int.reduceLT, Int.reduceToNat, Int.reduceBEq, Int.reduceBNe, Int.reduceEq, Int.reduceAdd, Int.reduceSub, Int.reduceMul, Int.reduceNeg, Int.cast_ofNat_Int, lentOK, encV, subRow, renR_zipG])) | omega | exact decide_eq_true (by omega) | exact DLe.refl _)
        clear hck hat hle hw hfa hob
        have hnid : ∀ f ∈ s.faces, f.id ≠ id := fun f hf he => by
          have := List.any_eq_false.1 b2.out f hf
          simp at this; exact this he
        replace hnid := Lib.hid hnid
        refine loopG tab_ok mixed (fun m e h => ∃ (q : Nat) (out : List Fce), BubI (fun f : Fce => f.id) ⟨id, [a]⟩ s.faces q out ∧ out.length = s.faces.length + 1 ∧ m = q ∧ e = [(14, .d (.v (.int .i64 q))), (13, .rp 6 (pre.length + 1 + post.length) 4 pre.length 0), (12, .ptr 9 0), (11, .d (.v (.int .i64 a))), (6, .ptr 1 0)] ∧ h = [.box 25 ((encV v).map .d), .box 25 [.d (.v (.int .i64 0)), .d (.v (.slice none 0 0)), .d (.v (.slice none 0 0))], .gone, .gone, .row 29 3 1 (dRows (v.ranges.map encG)), .gone, .row 62 4 (pre.length + 1 + post.length) (zipG encN pre (subRow s (.own 8 (s.faces.length + 1))) post), .gone, .row 79 2 (s.faces.length + 1) (dRows (out.map encF)), .box 25 [.d (.v (.int .i64 v.id)), .own 4 1, .own 6 (pre.length + 1 + post.length)]]) _ _ _ ⟨s.faces.length, s.faces ++ [⟨id, [a]⟩], bub_0, by simp, rfl, rfl, rfl⟩ (weak_forget _ (by simp) (by rw [List.map_append]; rfl) (by (repeat' (first | exact trivial | (refine ⟨rfl, ?_⟩)))) (by first | rfl | simp only [belowH, belowE, belowC, belowL, belowR, belowP, belowL_d, belowR_d, belowR_zipG, subRow, faceRow, List.length_cons, List.length_nil, Nat.reduceAdd, Nat.reduceLT, decide_true, Bool.and_self, Bool.and_true]) (by first | rfl | simp only [belowH, belowE, belowC, belowL, belowR, belowP, belowL_d, belowR_d, belowR_zipG, subRow, faceRow, List.length_cons, List.length_nil, Nat.reduceAdd, Nat.reduceLT, decide_true, Bool.and_self, Bool.and_true])) ?_
        rintro m e h ⟨q, out, hbu, hol, hm, rfl, rfl⟩ C hC
        have hql := hbu.1
        have hx := bub_x hbu
        replace hbu := Lib.hid hbu
        replace hm := Lib.hid hm
        by_cases h0 : 0 < q
        · have hq0 : decide ((q : Int) > 0) = true := by simp; omega
          obtain ⟨y, hy⟩ : ∃ y, s.faces[q - 1]? = some y := ⟨_, List.getElem?_eq_getElem (by omega)⟩
          have hy2 := bub_y hbu.out h0 hy
          have hwm : IntKind.i64.wrap ((q : Int) - 1) = ((q - 1 : Nat) : Int) := by rw [IntKind.wrap_i64]; omega
          have hq2 : q < out.length := by omega
          have hq3 : q - 1 < out.length := by omega
          replace hol := Lib.hid hol
          replace h0 := Lib.hid h0
          replace hy := Lib.hid hy
          cases b5 : decide (y.id > id) with
          | true =>
            have hb2 := bub_s hbu.out h0.out hy.out (of_decide_eq_true b5)
            replace hb2 := Lib.hid hb2
            have hsn : ∀ X : List PV, ((dRows (out.map encF)).set (q - 1) X)[q]? = some [.d (.v (.int .i64 id)), .d (.sl 1 [encA a])] := fun X => by
              rw [List.getElem?_set_ne (by have := h0.out; omega), dRows_get, List.getElem?_map, hx]; rfl
            repeat' (first | (with_reducible refine And.intro ?_ ?_) | (with_reducible refine gK_i (fun _ => ?_) (fun _ => ?_)) | (with_reducible refine condS_i (fun _ => ?_) (fun _ => ?_)) | (with_reducible refine drw_i (by kernel_rfl)) | simp -dsimp only [go_sem, ↓reduceIte, reduceCtorEq, Nat.reduceAdd, Nat.reduceMul, Nat.reduceSub, Nat.reduceLeDiff, Nat.reduceLT, Nat.reduceEqDiff, Int.reduceLE, Int.reduceLT, Int.reduceToNat, Int.reduceBEq, Int.reduceBNe, Int.reduceEq, Int.reduceAdd, Int.reduceSub, Int.reduceMul, Int.reduceNeg, Int.cast_ofNat_Int, *, encV, encF, subRow, renR_zipG, zipG_get, zipG_set, zipG_len, viewR_zipG, hq0, hx, hy2, hwm, b5, hsn, undef] | ((with_reducible refine opK_c ?_); simp -dsimp only [go_sem, ↓reduceIte, reduceCtorEq, Nat.reduceAdd, Nat.reduceMul, Nat.reduceSub, Nat.reduceLeDiff, Nat.reduceLT, Nat.reduceEqDiff, Int.reduceLE, Int.reduceLT, Int.reduceToNat, Int.reduceBEq, Int.reduceBNe, Int.reduceEq, Int.reduceAdd, Int.reduceSub, Int.reduceMul, Int.reduceNeg, Int.cast_ofNat_Int, encV, encF, subRow, renR_zipG, zipG_get, zipG_set, zipG_len, viewR_zipG, hq0, hx, hy2, hwm, b5, hsn, undef]; first | refine callK_r (by first | assumption | fail) (by first | exact .inl rfl | exact .inr rfl) ?_ | (refine callK_i (by assumption) ?_ ?_ ?_; (solve | (repeat (first | exact DLe.refl _ | exact DLe.nil _ | (refine DLe.tup ?_) | (refine DLe.agg ?_ rfl) | exact trivial | (refine And.intro ?_ ?_)))); (solve | exact .inl rfl | exact .inr rfl))) | fail | omega | exact decide_eq_true (by omega) | exact DLe.refl _)
            refine hC _ _ _ _ _ ?_ ⟨q - 1, (out.set (q - 1) ⟨id, [a]⟩).set q y, hb2.out, by rw [List.length_set, List.length_set]; exact hol.out, rfl, rfl, rfl⟩ (weak_forget _ (by simp) (by simp only [List.map_set, dRows]; rfl) (by (repeat' (first | exact trivial | (refine ⟨rfl, ?_⟩)))) (by first | rfl | simp only [belowH, belowE, belowC, belowL, belowR, belowP, belowL_d, belowR_d, belowR_zipG, subRow, faceRow, List.length_cons, List.length_nil, Nat.reduceAdd, Nat.reduceLT, decide_true, Bool.and_self, Bool.and_true]) (by first | rfl | simp only [belowH, belowE, belowC, belowL, belowR, belowP, belowL_d, belowR_d, belowR_zipG, subRow, faceRow, List.length_cons, List.length_nil, Nat.reduceAdd, Nat.reduceLT, decide_true, Bool.and_self, Bool.and_true]))
            have := hm.out; have := h0.out; omega
          | false =>
            have he := bub_e hbu.out hst.out (fun z _ hz => by
              rw [hy.out] at hz
              rw [← Option.some.inj hz]
              have h1 := hnid.out y (List.mem_of_getElem? hy.out)
              have h2 := of_decide_eq_false b5
              show y.id < id; omega)
            rw [← he] at hR3
            have hR4 := hR3.out
            rw [hR4]
            replace hR4 := Lib.hid hR4
            replace he := Lib.hid he
            repeat' (first | (with_reducible refine And.intro ?_ ?_) | (with_reducible refine gK_i (fun _ => ?_) (fun _ => ?_)) | (with_reducible refine condS_i (fun _ => ?_) (fun _ => ?_)) | (with_reducible refine drw_i (by kernel_rfl)) | simp -dsimp only [go_sem, ↓reduceIte, reduceCtorEq, Nat.reduceAdd, Nat.reduceMul, Nat.reduceSub, Nat.reduceLeDiff, Nat.reduceLT, Nat.reduceEqDiff, Int.reduceLE, Int.reduceLT, Int.reduceToNat, Int.reduceBEq, Int.reduceBNe, Int.reduceEq, Int.reduceAdd, Int.reduceSub, Int.reduceMul, Int.reduceNeg, Int.cast_ofNat_Int, *, encV, encN, encF, subRow, renR_zipG, zipG_get, zipG_set, zipG_len, viewR_zipG, hq0, hx, hy2, hwm, b5, undef] | ((with_reducible refine opK_c ?_); simp -dsimp only [go_sem, ↓reduceIte, reduceCtorEq, Nat.reduceAdd, Nat.reduceMul, Nat.reduceSub, Nat.reduceLeDiff, Nat.reduceLT, Nat.reduceEqDiff, Int.reduceLE, Int.reduceLT, Int.reduceToNat, Int.reduceBEq, Int.reduceBNe, Int.reduceEq, Int.reduceAdd, Int.reduceSub, Int.reduceMul, Int.reduceNeg, Int.cast_ofNat_Int, encV, encN, encF, subRow, renR_zipG, zipG_get, zipG_set, zipG_len, viewR_zipG, hq0, hx, hy2, hwm, b5, undef]; first | refine callK_r (by first | assumption | fail) (by first | exact .inl rfl | exact .inr rfl) ?_ | (refine callK_i (by assumption) ?_ ?_ ?_; (solve | (repeat (first | exact DLe.refl _ | exact DLe.nil _ | (refine DLe.tup ?_) | (refine DLe.agg ?_ rfl) | exact trivial | (refine And.intro ?_ ?_)))); (solve | exact .inl rfl | exact .inr rfl))) | fail | omega | exact decide_eq_true (by omega) | exact DLe.refl _)
            all_goals (simp only [encV, encN, List.map_append, List.map_cons]; exact (by repeat (first | exact DLe.refl _ | exact DLe.nil _ | (refine DLe.tup ?_) | (refine DLe.agg ?_ rfl) | exact trivial | (refine And.intro ?_ ?_))))
        · have hq0 : decide ((q : Int) > 0) = false := by simp; omega
          have he := bub_e hbu.out hst.out (fun z h _ => absurd h h0)
          rw [← he] at hR3
          have hR4 := hR3.out
          rw [hR4]
          replace hR4 := Lib.hid hR4
          replace he := Lib.hid he
          replace h0 := Lib.hid h0
          have hq2 : q < out.length := by omega
          replace hol := Lib.hid hol
          repeat' (first | (with_reducible refine And.intro ?_ ?_) | (with_reducible refine gK_i (fun _ => ?_) (fun _ => ?_)) | (with_reducible refine condS_i (fun _ => ?_) (fun _ => ?_)) | (with_reducible refine drw_i (by kernel_rfl)) | simp -dsimp only [go_sem, ↓reduceIte, reduceCtorEq, Nat.reduceAdd, Nat.reduceMul, Nat.reduceSub, Nat.reduceLeDiff, Nat.reduceLT, Nat.reduceEqDiff, Int.reduceLE, Int.reduceLT, Int.reduceToNat, Int.reduceBEq, Int.reduceBNe, Int.reduceEq, Int.reduceAdd, Int.reduceSub, Int.reduceMul, Int.reduceNeg, Int.cast_ofNat_Int, *, encV, encN, encF, subRow, renR_zipG, zipG_get, zipG_set, zipG_len, viewR_zipG, hq0, hx, undef] | ((with_reducible refine opK_c ?_); simp -dsimp only [go_sem, ↓reduceIte, reduceCtorEq, Nat.reduceAdd, Nat.reduceMul, Nat.reduceSub, Nat.reduceLeDiff, Nat.reduceLT, Nat.reduceEqDiff, Int.reduceLE, Int.reduceLT, Int.reduceToNat, Int.reduceBEq, Int.reduceBNe, Int.reduceEq, Int.reduceAdd, Int.reduceSub, Int.reduceMul, Int.reduceNeg, Int.cast_ofNat_Int, encV, encN, encF, subRow, renR_zipG, zipG_get, zipG_set, zipG_len, viewR_zipG, hq0, hx, undef]; first | refine callK_r (by first | assumption | fail) (by first | exact .inl rfl | exact .inr rfl) ?_ | (refine callK_i (by assumption) ?_ ?_ ?_; (solve | (repeat (first | exact DLe.refl _ | exact DLe.nil _ | (refine DLe.tup ?_) | (refine DLe.agg ?_ rfl) | exact trivial | (refine And.intro ?_ ?_)))); (solve | exact .inl rfl | exact .inr rfl))) | fail | omega | exact decide_eq_true (by omega) | exact DLe.refl _)
          all_goals (simp only [encV, encN, List.map_append, List.map_cons]; exact (by repeat (first | exact DLe.refl _ | exact DLe.nil _ | (refine DLe.tup ?_) | (refine DLe.agg ?_ rfl) | exact trivial | (refine And.intro ?_ ?_))))
  · have h1 : (chkV v != 0) = true := by simpa using hc
    have hr : R = (Vpc.zero, 0, chkV v) := by rw [hR.out]; unfold faceV; rw [if_pos hc]
    rw [hr]
    replace hr := Lib.hid hr
    clear hR
    refine ps_i tab_ok mixed Tryz.func22 rfl Tryz.ntmps22 Tryz.results22 (by kernel_rfl) ?_
    repeat' (first | (with_reducible refine And.intro ?_ ?_) | (with_reducible refine gK_i (fun _ => ?_) (fun _ => ?_)) | (with_reducible refine condS_i (fun _ => ?_) (fun _ => ?_)) | (with_reducible refine drw_i (by kernel_rfl)) | simp -dsimp only [go_sem, ↓reduceIte, reduceCtorEq, Nat.reduceAdd, Nat.reduceMul, Nat.reduceSub, Nat.reduceLeDiff, Nat.reduceLT, Nat.reduceEqDiff, Int.reduceLE, Int.reduceLT, Int.reduceToNat, Int.reduceBEq, Int.reduceBNe, Int.reduceEq, Int.reduceAdd, Int.reduceSub, Int.reduceMul, Int.reduceNeg, Int.cast_ofNat_Int, *, encV, h1] | ((with_reducible refine opK_c ?_); simp -dsimp only [go_sem, ↓reduceIte, reduceCtorEq, Nat.reduceAdd, Nat.reduceMul, Nat.reduceSub, Nat.reduceLeDiff, Nat.reduceLT, Nat.reduceEqDiff, Int.reduceLE, Int.reduceLT, Int.reduceToNat, Int.reduceBEq, Int.reduceBNe, Int.reduceEq, Int.reduceAdd, Int.reduceSub, Int.reduceMul, Int.reduceNeg, Int.cast_ofNat_Int, encV, h1]; first | refine callK_r (by first | assumption | exact hck) (by first | exact .inl rfl | exact .inr rfl) ?_ | (refine callK_i (by assumption) ?_ ?_ ?_; (solve | (repeat (first | exact DLe.refl _ | exact DLe.nil _ | (refine DLe.tup ?_) | (refine DLe.agg ?_ rfl) | exact trivial | (refine And.intro ?_ ?_)))); (solve | exact .inl rfl | exact .inr rfl))) | fail | omega | exact decide_eq_true (by omega) | exact DLe.refl _)
    exact (by repeat (first | exact DLe.refl _ | exact DLe.nil _ | (refine DLe.tup ?_) | (refine DLe.agg ?_ rfl) | exact trivial | (refine And.intro ?_ ?_)))
end Go.Proofs.YtdcjeacphbfmjaaGreat
namespace Go.Proofs.YtdcjeacphbfmjaaGreat
open Go Go.RowKit
set_option maxRecDepth 100000 in
set_option maxHeartbeats 4000000 in
theorem ownA_m (v : Vpc) (pre post : List Sbn) (s0 : Sbn) (preF postF : List Fce) (f0 : Fce) (hv : v.subs = pre ++ s0 :: post) (hfv : s0.faces = preF ++ f0 :: postF) (h4 : v.ranges.length ≤ 4) (h6 : v.subs.length ≤ 6) (h8 : ∀ s ∈ v.subs, s.faces.length ≤ 8 ∧ ∀ f ∈ s.faces, f.addrs.length ≤ 4) :
    MSpec Tryz.prog 43 [.d (.agg (encV v))] [] (.agg [.d (.v (.int .i64 v.id)), .own 2 1, .own 4 v.subs.length]) [.gone, .gone, .row 29 3 1 (dRows (v.ranges.map encG)), .gone, .row 62 4 v.subs.length (zipG encN pre (subRow s0 (.own 6 s0.faces.length)) post), .gone, .row 79 2 s0.faces.length (zipG encF preF (faceRow f0 (.own 8 1)) postF), .gone, .row 3 1 1 (dRows (f0.addrs.map encA))] := by
  replace h8 := Lib.hid h8
  have hlen : v.subs.length = pre.length + 1 + post.length := by rw [hv]; simp; omega
  have hL := Lib.hid hv
  have hlen2 := Lib.hid hlen
  clear hv hlen
  have hlenF : s0.faces.length = preF.length + 1 + postF.length := by rw [hfv]; simp; omega
  have hLF := Lib.hid hfv
  have hlenF2 := Lib.hid hlenF
  clear hfv hlenF
  refine ms_i tab_ok mixed Tryz.func43 rfl Tryz.ntmps43 Tryz.results43 (by kernel_rfl) (by simp) (by simp [belowL, belowP]) (by simp [belowH, belowC, belowL, belowP, belowL_d, belowR_d]) ?_
  repeat' (first | (with_reducible refine And.intro ?_ ?_) | (with_reducible refine gK_i (fun _ => ?_) (fun _ => ?_)) | (with_reducible refine condS_i (fun _ => ?_) (fun _ => ?_)) | (with_reducible refine drw_i (by kernel_rfl)) | simp -dsimp only [go_sem, ↓reduceIte, reduceCtorEq, Nat.reduceAdd, Nat.reduceMul, Nat.reduceSub, Nat.reduceLeDiff, Nat.reduceLT, Nat.reduceEqDiff, Int.reduceLE, Int.reduceLT, Int.reduceToNat, Int.reduceBEq, Int.reduceBNe, Int.reduceEq, Int.reduceAdd, Int.reduceSub, Int.reduceMul, Int.reduceNeg, Int.cast_ofNat_Int, *, encV] | ((with_reducible refine opK_c ?_); simp -dsimp only [go_sem, ↓reduceIte, reduceCtorEq, Nat.reduceAdd, Nat.reduceMul, Nat.reduceSub, Nat.reduceLeDiff, Nat.reduceLT, Nat.reduceEqDiff, Int.reduceLE, Int.reduceLT, Int.reduceToNat, Int.reduceBEq, Int.reduceBNe, Int.reduceEq, Int.reduceAdd, Int.reduceSub, Int.reduceMul, Int.reduceNeg, Int.cast_ofNat_Int, encV]; first | refine callK_r (by first | assumption | fail) (by first | exact .inl rfl | exact .inr rfl) ?_ | (refine callK_i (by assumption) ?_ ?_ ?_; (solve | (repeat (first | exact DLe.refl _ | exact DLe.nil _ | (refine DLe.tup ?_) | (refine DLe.agg ?_ rfl) | exact trivial | (refine And.intro ?_ ?_)))); (solve | exact .inl rfl | exact .inr rfl))) | fail | omega | exact decide_eq_true (by omega) | exact DLe.refl _)
  refine loopG tab_ok mixed (fun m e h => (∃ k, k ≤ pre.length ∧ m = v.subs.length - k ∧ e = [(4, .d (.v (.int .i64 k))), (3, .ptr 3 0), (2, .ptr 1 0), (1, .ptr 0 0)] ∧ h = [.box 25 ((encV v).map .d), .box 25 [.d (.v (.int .i64 0)), .d (.v (.slice none 0 0)), .d (.v (.slice none 0 0))], .row 29 3 1 (dRows (v.ranges.map encG)), .box 25 [.d (.v (.int .i64 v.id)), .own 2 1, .own 4 k], .row 62 4 k (dRows ((pre.take k).map encN))]) ∨
    ∃ k j, k = pre.length + 1 + j ∧ j ≤ post.length ∧ m = v.subs.length - k ∧ e = [(4, .d (.v (.int .i64 k))), (3, .ptr 3 0), (2, .ptr 1 0), (1, .ptr 0 0)] ∧ h = [.box 25 ((encV v).map .d), .box 25 [.d (.v (.int .i64 0)), .d (.v (.slice none 0 0)), .d (.v (.slice none 0 0))], .row 29 3 1 (dRows (v.ranges.map encG)), .box 25 [.d (.v (.int .i64 v.id)), .own 2 1, .own 4 k], .row 62 4 k (zipG encN pre (subRow s0 (.own 6 s0.faces.length)) (post.take j)), .gone, .row 79 2 s0.faces.length (zipG encF preF (faceRow f0 (.own 8 1)) postF), .gone, .row 3 1 1 (dRows (f0.addrs.map encA))]) _ _ _ (.inl ⟨0, Nat.zero_le _, rfl, rfl, rfl⟩) ?_ ?_
  · refine (weak_adopt_box (by simp) 3 25 [.d (.v (.int .i64 v.id)), .own 2 1, .d (.v (.slice none 0 0))] 2 62 4 rfl rfl rfl).trans ?_
    exact weak_forget _ (by simp) (by rfl) (by (repeat' (first | exact trivial | (refine ⟨rfl, ?_⟩)))) (by first | rfl | simp only [belowH, belowE, belowC, belowL, belowR, belowP, belowL_d, belowR_d, belowR_zipG, subRow, faceRow, List.length_cons, List.length_nil, Nat.reduceAdd, Nat.reduceLT, decide_true, Bool.and_self, Bool.and_true]) (by first | rfl | simp only [belowH, belowE, belowC, belowL, belowR, belowP, belowL_d, belowR_d, belowR_zipG, subRow, faceRow, List.length_cons, List.length_nil, Nat.reduceAdd, Nat.reduceLT, decide_true, Bool.and_self, Bool.and_true])
  · rintro m e h (⟨k, hk, hm, rfl, rfl⟩ | ⟨k, q, hkj, hj, hm, rfl, rfl⟩) CO hCO
    · have hkI : (k : Int) < (v.subs.length : Int) := by have := hlen2.out; omega
      have hwr : IntKind.i64.wrap ((k : Int) + 1) = ((k + 1 : Nat) : Int) := by rw [IntKind.wrap_i64]; omega
      have hb1 : k + 1 ≤ 100 := by have := hlen2.out; omega
      have hlk : (List.take k pre).length = k := by rw [List.length_take]; omega
      have hm := Lib.hid hm
      by_cases hkp : k < pre.length
      · obtain ⟨s, hq⟩ : ∃ s, pre[k]? = some s := ⟨_, List.getElem?_eq_getElem hkp⟩
        have hs : v.subs[k]? = some s := by rw [hL.out, List.getElem?_append_left hkp]; exact hq
        have h8s := h8.out s (List.mem_of_getElem? hs)
        replace hs := Lib.hid hs
        replace hq := Lib.hid hq
        have hs1 := hs.out
        repeat' (first | (with_reducible refine And.intro ?_ ?_) | (with_reducible refine gK_i (fun _ => ?_) (fun _ => ?_)) | (with_reducible refine condS_i (fun _ => ?_) (fun _ => ?_)) | (with_reducible refine drw_i (by kernel_rfl)) | simp -dsimp only [go_sem, ↓reduceIte, reduceCtorEq, Nat.reduceAdd, Nat.reduceMul, Nat.reduceSub, Nat.reduceLeDiff, Nat.reduceLT, Nat.reduceEqDiff, Int.reduceLE, Int.reduceLT, Int.reduceToNat, Int.reduceBEq, Int.reduceBNe, Int.reduceEq, Int.reduceAdd, Int.reduceSub, Int.reduceMul, Int.reduceNeg, Int.cast_ofNat_Int, *, encV, encN, hkI, hs1] | ((with_reducible refine opK_c ?_); simp -dsimp only [go_sem, ↓reduceIte, reduceCtorEq, Nat.reduceAdd, Nat.reduceMul, Nat.reduceSub, Nat.reduceLeDiff, Nat.reduceLT, Nat.reduceEqDiff, Int.reduceLE, Int.reduceLT, Int.reduceToNat, Int.reduceBEq, Int.reduceBNe, Int.reduceEq, Int.reduceAdd, Int.reduceSub, Int.reduceMul, Int.reduceNeg, Int.cast_ofNat_Int, encV, encN, hkI, hs1]; first | refine callK_r (by first | assumption | fail) (by first | exact .inl rfl | exact .inr rfl) ?_ | (refine callK_i (by assumption) ?_ ?_ ?_; (solve | (repeat (first | exact DLe.refl _ | exact DLe.nil _ | (refine DLe.tup ?_) | (refine DLe.agg ?_ rfl) | exact trivial | (refine And.intro ?_ ?_)))); (solve | exact .inl rfl | exact .inr rfl))) | fail | omega | exact decide_eq_true (by omega) | exact DLe.refl _)
        refine loopL tab_ok mixed s.faces (fun _ => True) (fun j => [(6, .d (.v (.int .i64 j))), (5, .ptr 5 0), (4, .d (.v (.int .i64 k))), (3, .ptr 3 0), (2, .ptr 1 0), (1, .ptr 0 0)])
          (fun j => [.box 25 ((encV v).map .d), .box 25 [.d (.v (.int .i64 0)), .d (.v (.slice none 0 0)), .d (.v (.slice none 0 0))], .row 29 3 1 (dRows (v.ranges.map encG)), .box 25 [.d (.v (.int .i64 v.id)), .own 2 1, .own 4 k], .row 62 4 k (dRows ((pre.take k).map encN)), .box 62 [.d (.v (.int .i64 s.id)), .d (.v (.int .i64 s.at_.at_)), .d (.v (.int .i64 s.at_.len)), .own 6 j], .row 79 2 j (dRows ((s.faces.take j).map encF))]) trivial ?_ ?_ ?_
        · refine (weak_adopt_box (by simp) 5 62 [.d (.v (.int .i64 s.id)), .d (.v (.int .i64 s.at_.at_)), .d (.v (.int .i64 s.at_.len)), .d (.v (.slice none 0 0))] 3 79 2 rfl rfl rfl).trans ?_
          exact weak_forget _ (by simp) (by rfl) (by (repeat' (first | exact trivial | (refine ⟨rfl, ?_⟩)))) (by first | rfl | simp only [belowH, belowE, belowC, belowL, belowR, belowP, belowL_d, belowR_d, belowR_zipG, subRow, faceRow, List.length_cons, List.length_nil, Nat.reduceAdd, Nat.reduceLT, decide_true, Bool.and_self, Bool.and_true]) (by first | rfl | simp only [belowH, belowE, belowC, belowL, belowR, belowP, belowL_d, belowR_d, belowR_zipG, subRow, faceRow, List.length_cons, List.length_nil, Nat.reduceAdd, Nat.reduceLT, decide_true, Bool.and_self, Bool.and_true])
        · intro j f hf hj _ C hC
          have hjI : (j : Int) < (s.faces.length : Int) := by omega
          have hwj : IntKind.i64.wrap ((j : Int) + 1) = ((j + 1 : Nat) : Int) := by rw [IntKind.wrap_i64]; omega
          have hfl := h8s.2 f (List.mem_of_getElem? hf)
          have hb2 : j + 1 ≤ 100 := by omega
          have hlj : (List.take j s.faces).length = j := by rw [List.length_take]; omega
          replace hf := Lib.hid hf
          have hf1 := hf.out
          repeat' (first | (with_reducible refine And.intro ?_ ?_) | (with_reducible refine gK_i (fun _ => ?_) (fun _ => ?_)) | (with_reducible refine condS_i (fun _ => ?_) (fun _ => ?_)) | (with_reducible refine drw_i (by kernel_rfl)) | simp -dsimp only [go_sem, ↓reduceIte, reduceCtorEq, Nat.reduceAdd, Nat.reduceMul, Nat.reduceSub, Nat.reduceLeDiff, Nat.reduceLT, Nat.reduceEqDiff, Int.reduceLE, Int.reduceLT, Int.reduceToNat, Int.reduceBEq, Int.reduceBNe, Int.reduceEq, Int.reduceAdd, Int.reduceSub, Int.reduceMul, Int.reduceNeg, Int.cast_ofNat_Int, *, encV, encN, encF, hkI, hs1, hjI, hwj, hf1, hb2, hlj, renR_zipG, zipG_len] | ((with_reducible refine opK_c ?_); simp -dsimp only [go_sem, ↓reduceIte, reduceCtorEq, Nat.reduceAdd, Nat.reduceMul, Nat.reduceSub, Nat.reduceLeDiff, Nat.reduceLT, Nat.reduceEqDiff, Int.reduceLE, Int.reduceLT, Int.reduceToNat, Int.reduceBEq, Int.reduceBNe, Int.reduceEq, Int.reduceAdd, Int.reduceSub, Int.reduceMul, Int.reduceNeg, Int.cast_ofNat_Int, encV, encN, encF, hkI, hs1, hjI, hwj, hf1, hb2, hlj, renR_zipG, zipG_len]; first | refine callK_r (by first | assumption | fail) (by first | exact .inl rfl | exact .inr rfl) ?_ | (refine callK_i (by assumption) ?_ ?_ ?_; (solve | (repeat (first | exact DLe.refl _ | exact DLe.nil _ | (refine DLe.tup ?_) | (refine DLe.agg ?_ rfl) | exact trivial | (refine And.intro ?_ ?_)))); (solve | exact .inl rfl | exact .inr rfl))) | fail | omega | exact decide_eq_true (by omega) | exact DLe.refl _)
          refine hC _ _ trivial ((weak_freeze 8 1 3 1 (f.addrs.map encA) rfl).trans ?_)
          simp only [fzE, fz, fzL, fzH, fzC, fzR, fzR_app, fzR_d, fzL_d, List.map_cons, List.map_nil, Nat.reduceAdd, Nat.reduceEqDiff, reduceIte, and_true, true_and, and_self, and_false, false_and, Nat.zero_add, Nat.add_zero, reduceCtorEq, fzR_zipG]
          exact weak_forget _ (by simp) (by rw [take_snoc hf.out, List.map_append, List.map_cons, List.map_nil, ← dRows_app]; rfl) (by (repeat' (first | exact trivial | (refine ⟨rfl, ?_⟩)))) (by first | rfl | simp only [belowH, belowE, belowC, belowL, belowR, belowP, belowL_d, belowR_d, belowR_zipG, subRow, faceRow, List.length_cons, List.length_nil, Nat.reduceAdd, Nat.reduceLT, decide_true, Bool.and_self, Bool.and_true]) (by first | rfl | simp only [belowH, belowE, belowC, belowL, belowR, belowP, belowL_d, belowR_d, belowR_zipG, subRow, faceRow, List.length_cons, List.length_nil, Nat.reduceAdd, Nat.reduceLT, decide_true, Bool.and_self, Bool.and_true])
        · intro _ C
          repeat' (first | (with_reducible refine And.intro ?_ ?_) | (with_reducible refine gK_i (fun _ => ?_) (fun _ => ?_)) | (with_reducible refine condS_i (fun _ => ?_) (fun _ => ?_)) | (with_reducible refine drw_i (by kernel_rfl)) | simp -dsimp only [go_sem, ↓reduceIte, reduceCtorEq, Nat.reduceAdd, Nat.reduceMul, Nat.reduceSub, Nat.reduceLeDiff, Nat.reduceLT, Nat.reduceEqDiff, Int.reduceLE, Int.reduceLT, Int.reduceToNat, Int.reduceBEq, Int.reduceBNe, Int.reduceEq, Int.reduceAdd, Int.reduceSub, Int.reduceMul, Int.reduceNeg, Int.cast_ofNat_Int, *, encV, encN, hkI, hs1, hwr, hb1, hlk, Int.lt_irrefl, List.take_length] | ((with_reducible refine opK_c ?_); simp -dsimp only [go_sem, ↓reduceIte, reduceCtorEq, Nat.reduceAdd, Nat.reduceMul, Nat.reduceSub, Nat.reduceLeDiff, Nat.reduceLT, Nat.reduceEqDiff, Int.reduceLE, Int.reduceLT, Int.reduceToNat, Int.reduceBEq, Int.reduceBNe, Int.reduceEq, Int.reduceAdd, Int.reduceSub, Int.reduceMul, Int.reduceNeg, Int.cast_ofNat_Int, encV, encN, hkI, hs1, hwr, hb1, hlk, Int.lt_irrefl, List.take_length]; first | refine callK_r (by first | assumption | fail) (by first | exact .inl rfl | exact .inr rfl) ?_ | (refine callK_i (by assumption) ?_ ?_ ?_; (solve | (repeat (first | exact DLe.refl _ | exact DLe.nil _ | (refine DLe.tup ?_) | (refine DLe.agg ?_ rfl) | exact trivial | (refine And.intro ?_ ?_)))); (solve | exact .inl rfl | exact .inr rfl))) | fail | omega | exact decide_eq_true (by omega) | exact DLe.refl _)
          refine hCO _ _ _ _ _ ?_ (.inl ⟨k + 1, hkp, rfl, rfl, rfl⟩) ((weak_freeze 6 s.faces.length 79 2 (s.faces.map encF) rfl).trans ?_)
          · have := hm.out; have := hlen2.out; omega
          simp only [fzE, fz, fzL, fzH, fzC, fzR, fzR_app, fzR_d, fzL_d, List.map_cons, List.map_nil, Nat.reduceAdd, Nat.reduceEqDiff, reduceIte, and_true, true_and, and_self, and_false, false_and, Nat.zero_add, Nat.add_zero, reduceCtorEq]
          exact weak_forget _ (by simp) (by rw [take_snoc hq.out, List.map_append, List.map_cons, List.map_nil, ← dRows_app]; rfl) (by (repeat' (first | exact trivial | (refine ⟨rfl, ?_⟩)))) (by first | rfl | simp only [belowH, belowE, belowC, belowL, belowR, belowP, belowL_d, belowR_d, belowR_zipG, subRow, faceRow, List.length_cons, List.length_nil, Nat.reduceAdd, Nat.reduceLT, decide_true, Bool.and_self, Bool.and_true]) (by first | rfl | simp only [belowH, belowE, belowC, belowL, belowR, belowP, belowL_d, belowR_d, belowR_zipG, subRow, faceRow, List.length_cons, List.length_nil, Nat.reduceAdd, Nat.reduceLT, decide_true, Bool.and_self, Bool.and_true])
      · obtain rfl : k = pre.length := by omega
        have hs : v.subs[pre.length]? = some s0 := by rw [hL.out, List.getElem?_append_right (Nat.le_refl _), Nat.sub_self]; rfl
        have h8s := h8.out s0 (List.mem_of_getElem? hs)
        replace hs := Lib.hid hs
        have hs1 := hs.out
        obtain ⟨k, hk2⟩ : ∃ k, k = pre.length := ⟨_, rfl⟩
        rw [← hk2] at hs1 hkI hwr hb1 hlk hCO ⊢
        rw [hk2, List.take_length] at hlk
        replace hk2 := Lib.hid hk2
        repeat' (first | (with_reducible refine And.intro ?_ ?_) | (with_reducible refine gK_i (fun _ => ?_) (fun _ => ?_)) | (with_reducible refine condS_i (fun _ => ?_) (fun _ => ?_)) | (with_reducible refine drw_i (by kernel_rfl)) | simp -dsimp only [go_sem, ↓reduceIte, reduceCtorEq, Nat.reduceAdd, Nat.reduceMul, Nat.reduceSub, Nat.reduceLeDiff, Nat.reduceLT, Nat.reduceEqDiff, Int.reduceLE, Int.reduceLT, Int.reduceToNat, Int.reduceBEq, Int.reduceBNe, Int.reduceEq, Int.reduceAdd, Int.reduceSub, Int.reduceMul, Int.reduceNeg, Int.cast_ofNat_Int, *, encV, encN, hkI, hs1] | ((with_reducible refine opK_c ?_); simp -dsimp only [go_sem, ↓reduceIte, reduceCtorEq, Nat.reduceAdd, Nat.reduceMul, Nat.reduceSub, Nat.reduceLeDiff, Nat.reduceLT, Nat.reduceEqDiff, Int.reduceLE, Int.reduceLT, Int.reduceToNat, Int.reduceBEq, Int.reduceBNe, Int.reduceEq, Int.reduceAdd, Int.reduceSub, Int.reduceMul, Int.reduceNeg, Int.cast_ofNat_Int, encV, encN, hkI, hs1]; first | refine callK_r (by first | assumption | fail) (by first | exact .inl rfl | exact .inr rfl) ?_ | (refine callK_i (by assumption) ?_ ?_ ?_; (solve | (repeat (first | exact DLe.refl _ | exact DLe.nil _ | (refine DLe.tup ?_) | (refine DLe.agg ?_ rfl) | exact trivial | (refine And.intro ?_ ?_)))); (solve | exact .inl rfl | exact .inr rfl))) | fail | omega | exact decide_eq_true (by omega) | exact DLe.refl _)
        refine loopG tab_ok mixed (fun m e h => (∃ j, j ≤ preF.length ∧ m = s0.faces.length - j ∧ e = [(6, .d (.v (.int .i64 j))), (5, .ptr 5 0), (4, .d (.v (.int .i64 k))), (3, .ptr 3 0), (2, .ptr 1 0), (1, .ptr 0 0)] ∧
            h = [.box 25 ((encV v).map .d), .box 25 [.d (.v (.int .i64 0)), .d (.v (.slice none 0 0)), .d (.v (.slice none 0 0))], .row 29 3 1 (dRows (v.ranges.map encG)), .box 25 [.d (.v (.int .i64 v.id)), .own 2 1, .own 4 k], .row 62 4 k (dRows ((pre.take k).map encN)), .box 62 [.d (.v (.int .i64 s0.id)), .d (.v (.int .i64 s0.at_.at_)), .d (.v (.int .i64 s0.at_.len)), .own 6 j], .row 79 2 j (dRows ((preF.take j).map encF))]) ∨
          ∃ j i, j = preF.length + 1 + i ∧ i ≤ postF.length ∧ m = s0.faces.length - j ∧ e = [(6, .d (.v (.int .i64 j))), (5, .ptr 5 0), (4, .d (.v (.int .i64 k))), (3, .ptr 3 0), (2, .ptr 1 0), (1, .ptr 0 0)] ∧
            h = [.box 25 ((encV v).map .d), .box 25 [.d (.v (.int .i64 0)), .d (.v (.slice none 0 0)), .d (.v (.slice none 0 0))], .row 29 3 1 (dRows (v.ranges.map encG)), .box 25 [.d (.v (.int .i64 v.id)), .own 2 1, .own 4 k], .row 62 4 k (dRows ((pre.take k).map encN)), .box 62 [.d (.v (.int .i64 s0.id)), .d (.v (.int .i64 s0.at_.at_)), .d (.v (.int .i64 s0.at_.len)), .own 6 j], .row 79 2 j (zipG encF preF (faceRow f0 (.own 8 1)) (postF.take i)), .gone, .row 3 1 1 (dRows (f0.addrs.map encA))]) _ _ _ (.inl ⟨0, Nat.zero_le _, rfl, rfl, rfl⟩) ?_ ?_
        · refine (weak_adopt_box (by simp) 5 62 [.d (.v (.int .i64 s0.id)), .d (.v (.int .i64 s0.at_.at_)), .d (.v (.int .i64 s0.at_.len)), .d (.v (.slice none 0 0))] 3 79 2 rfl rfl rfl).trans ?_
          exact weak_forget _ (by simp) (by rfl) (by (repeat' (first | exact trivial | (refine ⟨rfl, ?_⟩)))) (by first | rfl | simp only [belowH, belowE, belowC, belowL, belowR, belowP, belowL_d, belowR_d, belowR_zipG, subRow, faceRow, List.length_cons, List.length_nil, Nat.reduceAdd, Nat.reduceLT, decide_true, Bool.and_self, Bool.and_true]) (by first | rfl | simp only [belowH, belowE, belowC, belowL, belowR, belowP, belowL_d, belowR_d, belowR_zipG, subRow, faceRow, List.length_cons, List.length_nil, Nat.reduceAdd, Nat.reduceLT, decide_true, Bool.and_self, Bool.and_true])
        · rintro m2 e h (⟨j, hj, hm2, rfl, rfl⟩ | ⟨j, i, hji, hi, hm2, rfl, rfl⟩) C hC
          · have hjI : (j : Int) < (s0.faces.length : Int) := by have := hlenF2.out; omega
            have hwj : IntKind.i64.wrap ((j : Int) + 1) = ((j + 1 : Nat) : Int) := by rw [IntKind.wrap_i64]; have := h8s.1; omega
            have hb2 : j + 1 ≤ 100 := by have := h8s.1; omega
            have hlj : (List.take j preF).length = j := by rw [List.length_take]; omega
            have hm2 := Lib.hid hm2
            by_cases hjp : j < preF.length
            · obtain ⟨f, hq⟩ : ∃ f, preF[j]? = some f := ⟨_, List.getElem?_eq_getElem hjp⟩
              have hf : s0.faces[j]? = some f := by rw [hLF.out, List.getElem?_append_left hjp]; exact hq
              have hfl := h8s.2 f (List.mem_of_getElem? hf)
              replace hf := Lib.hid hf
              replace hq := Lib.hid hq
              have hf1 := hf.out
              repeat' (first | (with_reducible refine And.intro ?_ ?_) | (with_reducible refine gK_i (fun _ => ?_) (fun _ => ?_)) | (with_reducible refine condS_i (fun _ => ?_) (fun _ => ?_)) | (with_reducible refine drw_i (by kernel_rfl)) | simp -dsimp only [go_sem, ↓reduceIte, reduceCtorEq, Nat.reduceAdd, Nat.reduceMul, Nat.reduceSub, Nat.reduceLeDiff, Nat.reduceLT, Nat.reduceEqDiff, Int.reduceLE, Int.reduceLT, Int.reduceToNat, Int.reduceBEq, Int.reduceBNe, Int.reduceEq, Int.reduceAdd, Int.reduceSub, Int.reduceMul, Int.reduceNeg, Int.cast_ofNat_Int, *, encV, encN, encF, hkI, hs1, hjI, hwj, hf1, hb2, hlj] | ((with_reducible refine opK_c ?_); simp -dsimp only [go_sem, ↓reduceIte, reduceCtorEq, Nat.reduceAdd, Nat.reduceMul, Nat.reduceSub, Nat.reduceLeDiff, Nat.reduceLT, Nat.reduceEqDiff, Int.reduceLE, Int.reduceLT, Int.reduceToNat, Int.reduceBEq, Int.reduceBNe, Int.reduceEq, Int.reduceAdd, Int.reduceSub, Int.reduceMul, Int.reduceNeg, Int.cast_ofNat_Int, encV, encN, encF, hkI, hs1, hjI, hwj, hf1, hb2, hlj]; first | refine callK_r (by first | assumption | fail) (by first | exact .inl rfl | exact .inr rfl) ?_ | (refine callK_i (by assumption) ?_ ?_ ?_; (solve | (repeat (first | exact DLe.refl _ | exact DLe.nil _ | (refine DLe.tup ?_) | (refine DLe.agg ?_ rfl) | exact trivial | (refine And.intro ?_ ?_)))); (solve | exact .inl rfl | exact .inr rfl))) | fail | omega | exact decide_eq_true (by omega) | exact DLe.refl _)
              refine hC _ _ _ _ _ ?_ (.inl ⟨j + 1, hjp, rfl, rfl, rfl⟩) ((weak_freeze 8 1 3 1 (f.addrs.map encA) rfl).trans ?_)
              · have := hm2.out; have := hlenF2.out; omega
              simp only [fzE, fz, fzL, fzH, fzC, fzR, fzR_app, fzR_d, fzL_d, List.map_cons, List.map_nil, Nat.reduceAdd, Nat.reduceEqDiff, reduceIte, and_true, true_and, and_self, and_false, false_and, Nat.zero_add, Nat.add_zero, reduceCtorEq, fzR_zipG]
              exact weak_forget _ (by simp) (by rw [take_snoc hq.out, List.map_append, List.map_cons, List.map_nil, ← dRows_app]; rfl) (by (repeat' (first | exact trivial | (refine ⟨rfl, ?_⟩)))) (by first | rfl | simp only [belowH, belowE, belowC, belowL, belowR, belowP, belowL_d, belowR_d, belowR_zipG, subRow, faceRow, List.length_cons, List.length_nil, Nat.reduceAdd, Nat.reduceLT, decide_true, Bool.and_self, Bool.and_true]) (by first | rfl | simp only [belowH, belowE, belowC, belowL, belowR, belowP, belowL_d, belowR_d, belowR_zipG, subRow, faceRow, List.length_cons, List.length_nil, Nat.reduceAdd, Nat.reduceLT, decide_true, Bool.and_self, Bool.and_true])
            · obtain rfl : j = preF.length := by omega
              have hf : s0.faces[preF.length]? = some f0 := by rw [hLF.out, List.getElem?_append_right (Nat.le_refl _), Nat.sub_self]; rfl
              have hfl := h8s.2 f0 (List.mem_of_getElem? hf)
              replace hf := Lib.hid hf
              have hf1 := hf.out
              repeat' (first | (with_reducible refine And.intro ?_ ?_) | (with_reducible refine gK_i (fun _ => ?_) (fun _ => ?_)) | (with_reducible refine condS_i (fun _ => ?_) (fun _ => ?_)) | (with_reducible refine drw_i (by kernel_rfl)) | simp -dsimp only [go_sem, ↓reduceIte, reduceCtorEq, Nat.reduceAdd, Nat.reduceMul, Nat.reduceSub, Nat.reduceLeDiff, Nat.reduceLT, Nat.reduceEqDiff, Int.reduceLE, Int.reduceLT, Int.reduceToNat, Int.reduceBEq, Int.reduceBNe, Int.reduceEq, Int.reduceAdd, Int.reduceSub, Int.reduceMul, Int.reduceNeg, Int.cast_ofNat_Int, *, encV, encN, encF, hkI, hs1, hjI, hwj, hf1, hb2, hlj, List.take_length] | ((with_reducible refine opK_c ?_); simp -dsimp only [go_sem, ↓reduceIte, reduceCtorEq, Nat.reduceAdd, Nat.reduceMul, Nat.reduceSub, Nat.reduceLeDiff, Nat.reduceLT, Nat.reduceEqDiff, Int.reduceLE, Int.reduceLT, Int.reduceToNat, Int.reduceBEq, Int.reduceBNe, Int.reduceEq, Int.reduceAdd, Int.reduceSub, Int.reduceMul, Int.reduceNeg, Int.cast_ofNat_Int, encV, encN, encF, hkI, hs1, hjI, hwj, hf1, hb2, hlj, List.take_length]; first | refine callK_r (by first | assumption | fail) (by first | exact .inl rfl | exact .inr rfl) ?_ | (refine callK_i (by assumption) ?_ ?_ ?_; (solve | (repeat (first | exact DLe.refl _ | exact DLe.nil _ | (refine DLe.tup ?_) | (refine DLe.agg ?_ rfl) | exact trivial | (refine And.intro ?_ ?_)))); (solve | exact .inl rfl | exact .inr rfl))) | fail | omega | exact decide_eq_true (by omega) | exact DLe.refl _)
              refine hC _ _ _ _ _ ?_ (.inr ⟨preF.length + 1, 0, rfl, Nat.zero_le _, rfl, rfl, rfl⟩) ((weak_gone 7 (by simp)).trans ?_)
              · have := hm2.out; have := hlenF2.out; omega
              exact weak_forget _ (by simp) (by rfl) (by (repeat' (first | exact trivial | (refine ⟨rfl, ?_⟩)))) (by first | rfl | simp only [belowH, belowE, belowC, belowL, belowR, belowP, belowL_d, belowR_d, belowR_zipG, subRow, faceRow, List.length_cons, List.length_nil, Nat.reduceAdd, Nat.reduceLT, decide_true, Bool.and_self, Bool.and_true]) (by first | rfl | simp only [belowH, belowE, belowC, belowL, belowR, belowP, belowL_d, belowR_d, belowR_zipG, subRow, faceRow, List.length_cons, List.length_nil, Nat.reduceAdd, Nat.reduceLT, decide_true, Bool.and_self, Bool.and_true])
          · have hm2 := Lib.hid hm2
            have hji2 := Lib.hid hji
            have hb2 : preF.length + 1 + i + 1 ≤ 100 := by have := hlenF2.out; have := h8s.1; omega
            have hli : (List.take i postF).length = i := by rw [List.length_take]; omega
            have hjl : j ≤ s0.faces.length := by have := hlenF2.out; omega
            by_cases hip : i < postF.length
            · obtain ⟨f, hq⟩ : ∃ f, postF[i]? = some f := ⟨_, List.getElem?_eq_getElem hip⟩
              have hf : s0.faces[j]? = some f := by
                rw [hLF.out, List.getElem?_append_right (by omega), show j - preF.length = i + 1 by omega, List.getElem?_cons_succ]; exact hq
              have hfl := h8s.2 f (List.mem_of_getElem? hf)
              have hjI : (j : Int) < (s0.faces.length : Int) := by have := hlenF2.out; omega
              have hwj : IntKind.i64.wrap ((j : Int) + 1) = ((j + 1 : Nat) : Int) := by rw [IntKind.wrap_i64]; have := h8s.1; omega
              replace hf := Lib.hid hf
              replace hq := Lib.hid hq
              have hf1 := hf.out
              clear hji
              repeat' (first | (with_reducible refine And.intro ?_ ?_) | (with_reducible refine gK_i (fun _ => ?_) (fun _ => ?_)) | (with_reducible refine condS_i (fun _ => ?_) (fun _ => ?_)) | (with_reducible refine drw_i (by kernel_rfl)) | simp -dsimp only [go_sem, ↓reduceIte, reduceCtorEq, Nat.reduceAdd, Nat.reduceMul, Nat.reduceSub, Nat.reduceLeDiff, Nat.reduceLT, Nat.reduceEqDiff, Int.reduceLE, Int.reduceLT, Int.reduceToNat, Int.reduceBEq, Int.reduceBNe, Int.reduceEq, Int.reduceAdd, Int.reduceSub, Int.reduceMul, Int.reduceNeg, Int.cast_ofNat_Int, *, encV, encN, encF, hkI, hs1, hjI, hwj, hf1, hb2, hli, zipG_len] | ((with_reducible refine opK_c ?_); simp -dsimp only [go_sem, ↓reduceIte, reduceCtorEq, Nat.reduceAdd, Nat.reduceMul, Nat.reduceSub, Nat.reduceLeDiff, Nat.reduceLT, Nat.reduceEqDiff, Int.reduceLE, Int.reduceLT, Int.reduceToNat, Int.reduceBEq, Int.reduceBNe, Int.reduceEq, Int.reduceAdd, Int.reduceSub, Int.reduceMul, Int.reduceNeg, Int.cast_ofNat_Int, encV, encN, encF, hkI, hs1, hjI, hwj, hf1, hb2, hli, zipG_len]; first | refine callK_r (by first | assumption | fail) (by first | exact .inl rfl | exact .inr rfl) ?_ | (refine callK_i (by assumption) ?_ ?_ ?_; (solve | (repeat (first | exact DLe.refl _ | exact DLe.nil _ | (refine DLe.tup ?_) | (refine DLe.agg ?_ rfl) | exact trivial | (refine And.intro ?_ ?_)))); (solve | exact .inl rfl | exact .inr rfl))) | fail | omega | exact decide_eq_true (by omega) | exact DLe.refl _)
              refine hC _ _ _ _ _ ?_ (.inr ⟨j + 1, i + 1, by have := hji2.out; omega, hip, rfl, rfl, rfl⟩) ((weak_freeze 10 1 3 1 (f.addrs.map encA) rfl).trans ?_)
              · have := hm2.out; have := hlenF2.out; have := hji2.out; omega
              simp only [fzE, fz, fzL, fzH, fzC, fzR, fzR_app, fzR_d, fzL_d, List.map_cons, List.map_nil, Nat.reduceAdd, Nat.reduceEqDiff, reduceIte, and_true, true_and, and_self, and_false, false_and, Nat.zero_add, Nat.add_zero, reduceCtorEq, fzR_zipG, faceRow]
              exact weak_forget _ (by simp) (by rw [take_snoc hq.out, ← zipG_snoc]; rfl) (by (repeat' (first | exact trivial | (refine ⟨rfl, ?_⟩)))) (by first | rfl | simp only [belowH, belowE, belowC, belowL, belowR, belowP, belowL_d, belowR_d, belowR_zipG, subRow, faceRow, List.length_cons, List.length_nil, Nat.reduceAdd, Nat.reduceLT, decide_true, Bool.and_self, Bool.and_true]) (by first | rfl | simp only [belowH, belowE, belowC, belowL, belowR, belowP, belowL_d, belowR_d, belowR_zipG, subRow, faceRow, List.length_cons, List.length_nil, Nat.reduceAdd, Nat.reduceLT, decide_true, Bool.and_self, Bool.and_true])
            · obtain rfl : i = postF.length := by omega
              obtain rfl : j = s0.faces.length := by have := hlenF2.out; omega
              clear hji
              have hlk2 : (List.take k pre).length = k := by rw [hk2.out, List.take_length]
              repeat' (first | (with_reducible refine And.intro ?_ ?_) | (with_reducible refine gK_i (fun _ => ?_) (fun _ => ?_)) | (with_reducible refine condS_i (fun _ => ?_) (fun _ => ?_)) | (with_reducible refine drw_i (by kernel_rfl)) | simp -dsimp only [go_sem, ↓reduceIte, reduceCtorEq, Nat.reduceAdd, Nat.reduceMul, Nat.reduceSub, Nat.reduceLeDiff, Nat.reduceLT, Nat.reduceEqDiff, Int.reduceLE, Int.reduceLT, Int.reduceToNat, Int.reduceBEq, Int.reduceBNe, Int.reduceEq, Int.reduceAdd, Int.reduceSub, Int.reduceMul, Int.reduceNeg, Int.cast_ofNat_Int, *, encV, encN, hkI, hs1, hwr, hb1, hlk2, Int.lt_irrefl, List.take_length] | ((with_reducible refine opK_c ?_); simp -dsimp only [go_sem, ↓reduceIte, reduceCtorEq, Nat.reduceAdd, Nat.reduceMul, Nat.reduceSub, Nat.reduceLeDiff, Nat.reduceLT, Nat.reduceEqDiff, Int.reduceLE, Int.reduceLT, Int.reduceToNat, Int.reduceBEq, Int.reduceBNe, Int.reduceEq, Int.reduceAdd, Int.reduceSub, Int.reduceMul, Int.reduceNeg, Int.cast_ofNat_Int, encV, encN, hkI, hs1, hwr, hb1, hlk2, Int.lt_irrefl, List.take_length]; first | refine callK_r (by first | assumption | fail) (by first | exact .inl rfl | exact .inr rfl) ?_ | (refine callK_i (by assumption) ?_ ?_ ?_; (solve | (repeat (first | exact DLe.refl _ | exact DLe.nil _ | (refine DLe.tup ?_) | (refine DLe.agg ?_ rfl) | exact trivial | (refine And.intro ?_ ?_)))); (solve | exact .inl rfl | exact .inr rfl))) | fail | omega | exact decide_eq_true (by omega) | exact DLe.refl _)
              refine hCO _ _ _ _ _ ?_ (.inr ⟨k + 1, 0, by rw [hk2.out], Nat.zero_le _, rfl, rfl, rfl⟩) ((weak_gone 5 (by simp)).trans ?_)
              · have := hm.out; have := hlen2.out; have := hk2.out; omega
              exact weak_forget _ (by simp) (by rw [hk2.out, List.take_length]; rfl) (by (repeat' (first | exact trivial | (refine ⟨rfl, ?_⟩)))) (by first | rfl | simp only [belowH, belowE, belowC, belowL, belowR, belowP, belowL_d, belowR_d, belowR_zipG, subRow, faceRow, List.length_cons, List.length_nil, Nat.reduceAdd, Nat.reduceLT, decide_true, Bool.and_self, Bool.and_true]) (by first | rfl | simp only [belowH, belowE, belowC, belowL, belowR, belowP, belowL_d, belowR_d, belowR_zipG, subRow, faceRow, List.length_cons, List.length_nil, Nat.reduceAdd, Nat.reduceLT, decide_true, Bool.and_self, Bool.and_true])
    · have hm := Lib.hid hm
      have hkj2 := Lib.hid hkj
      have hb1 : pre.length + 1 + q + 1 ≤ 100 := by have := hlen2.out; omega
      have hlk : (List.take q post).length = q := by rw [List.length_take]; omega
      have hkl : k ≤ v.subs.length := by have := hlen2.out; omega
      by_cases hjp : q < post.length
      · obtain ⟨s, hq⟩ : ∃ s, post[q]? = some s := ⟨_, List.getElem?_eq_getElem hjp⟩
        have hs : v.subs[k]? = some s := by
          rw [hL.out, List.getElem?_append_right (by omega), show k - pre.length = q + 1 by omega, List.getElem?_cons_succ]; exact hq
        have h8s := h8.out s (List.mem_of_getElem? hs)
        have hkI : (k : Int) < (v.subs.length : Int) := by have := hlen2.out; omega
        have hwr : IntKind.i64.wrap ((k : Int) + 1) = ((k + 1 : Nat) : Int) := by rw [IntKind.wrap_i64]; omega
        replace hq := Lib.hid hq
        replace hs := Lib.hid hs
        have hs1 := hs.out
        clear hkj
        repeat' (first | (with_reducible refine And.intro ?_ ?_) | (with_reducible refine gK_i (fun _ => ?_) (fun _ => ?_)) | (with_reducible refine condS_i (fun _ => ?_) (fun _ => ?_)) | (with_reducible refine drw_i (by kernel_rfl)) | simp -dsimp only [go_sem, ↓reduceIte, reduceCtorEq, Nat.reduceAdd, Nat.reduceMul, Nat.reduceSub, Nat.reduceLeDiff, Nat.reduceLT, Nat.reduceEqDiff, Int.reduceLE, Int.reduceLT, Int.reduceToNat, Int.reduceBEq, Int.reduceBNe, Int.reduceEq, Int.reduceAdd, Int.reduceSub, Int.reduceMul, Int.reduceNeg, Int.cast_ofNat_Int, *, encV, encN, hkI, hs1] | ((with_reducible refine opK_c ?_); simp -dsimp only [go_sem, ↓reduceIte, reduceCtorEq, Nat.reduceAdd, Nat.reduceMul, Nat.reduceSub, Nat.reduceLeDiff, Nat.reduceLT, Nat.reduceEqDiff, Int.reduceLE, Int.reduceLT, Int.reduceToNat, Int.reduceBEq, Int.reduceBNe, Int.reduceEq, Int.reduceAdd, Int.reduceSub, Int.reduceMul, Int.reduceNeg, Int.cast_ofNat_Int, encV, encN, hkI, hs1]; first | refine callK_r (by first | assumption | fail) (by first | exact .inl rfl | exact .inr rfl) ?_ | (refine callK_i (by assumption) ?_ ?_ ?_; (solve | (repeat (first | exact DLe.refl _ | exact DLe.nil _ | (refine DLe.tup ?_) | (refine DLe.agg ?_ rfl) | exact trivial | (refine And.intro ?_ ?_)))); (solve | exact .inl rfl | exact .inr rfl))) | fail | omega | exact decide_eq_true (by omega) | exact DLe.refl _)
        refine loopL tab_ok mixed s.faces (fun _ => True) (fun j => [(6, .d (.v (.int .i64 j))), (5, .ptr 9 0), (4, .d (.v (.int .i64 k))), (3, .ptr 3 0), (2, .ptr 1 0), (1, .ptr 0 0)])
          (fun j => [.box 25 ((encV v).map .d), .box 25 [.d (.v (.int .i64 0)), .d (.v (.slice none 0 0)), .d (.v (.slice none 0 0))], .row 29 3 1 (dRows (v.ranges.map encG)), .box 25 [.d (.v (.int .i64 v.id)), .own 2 1, .own 4 k], .row 62 4 k (zipG encN pre (subRow s0 (.own 6 s0.faces.length)) (post.take q)), .gone, .row 79 2 s0.faces.length (zipG encF preF (faceRow f0 (.own 8 1)) postF), .gone, .row 3 1 1 (dRows (f0.addrs.map encA)), .box 62 [.d (.v (.int .i64 s.id)), .d (.v (.int .i64 s.at_.at_)), .d (.v (.int .i64 s.at_.len)), .own 10 j], .row 79 2 j (dRows ((s.faces.take j).map encF))]) trivial ?_ ?_ ?_
        · refine (weak_adopt_box (by simp) 9 62 [.d (.v (.int .i64 s.id)), .d (.v (.int .i64 s.at_.at_)), .d (.v (.int .i64 s.at_.len)), .d (.v (.slice none 0 0))] 3 79 2 rfl rfl rfl).trans ?_
          exact weak_forget _ (by simp) (by rfl) (by (repeat' (first | exact trivial | (refine ⟨rfl, ?_⟩)))) (by first | rfl | simp only [belowH, belowE, belowC, belowL, belowR, belowP, belowL_d, belowR_d, belowR_zipG, subRow, faceRow, List.length_cons, List.length_nil, Nat.reduceAdd, Nat.reduceLT, decide_true, Bool.and_self, Bool.and_true]) (by first | rfl | simp only [belowH, belowE, belowC, belowL, belowR, belowP, belowL_d, belowR_d, belowR_zipG, subRow, faceRow, List.length_cons, List.length_nil, Nat.reduceAdd, Nat.reduceLT, decide_true, Bool.and_self, Bool.and_true])
        · intro j f hf hj _ C hC
          have hjI : (j : Int) < (s.faces.length : Int) := by omega
          have hwj : IntKind.i64.wrap ((j : Int) + 1) = ((j + 1 : Nat) : Int) := by rw [IntKind.wrap_i64]; omega
          have hfl := h8s.2 f (List.mem_of_getElem? hf)
          have hb2 : j + 1 ≤ 100 := by omega
          have hlj : (List.take j s.faces).length = j := by rw [List.length_take]; omega
          replace hf := Lib.hid hf
          have hf1 := hf.out
          repeat' (first | (with_reducible refine And.intro ?_ ?_) | (with_reducible refine gK_i (fun _ => ?_) (fun _ => ?_)) | (with_reducible refine condS_i (fun _ => ?_) (fun _ => ?_)) | (with_reducible refine drw_i (by kernel_rfl)) | simp -dsimp only [go_sem, ↓reduceIte, reduceCtorEq, Nat.reduceAdd, Nat.reduceMul, Nat.reduceSub, Nat.reduceLeDiff, Nat.reduceLT, Nat.reduceEqDiff, Int.reduceLE, Int.reduceLT, Int.reduceToNat, Int.reduceBEq, Int.reduceBNe, Int.reduceEq, Int.reduceAdd, Int.reduceSub, Int.reduceMul, Int.reduceNeg, Int.cast_ofNat_Int, *, encV, encN, encF, hkI, hs1, hjI, hwj, hf1, hb2, hlj, renR_zipG, zipG_len] | ((with_reducible refine opK_c ?_); simp -dsimp only [go_sem, ↓reduceIte, reduceCtorEq, Nat.reduceAdd, Nat.reduceMul, Nat.reduceSub, Nat.reduceLeDiff, Nat.reduceLT, Nat.reduceEqDiff, Int.reduceLE, Int.reduceLT, Int.reduceToNat, Int.reduceBEq, Int.reduceBNe, Int.reduceEq, Int.reduceAdd, Int.reduceSub, Int.reduceMul, Int.reduceNeg, Int.cast_ofNat_Int, encV, encN, encF, hkI, hs1, hjI, hwj, hf1, hb2, hlj, renR_zipG, zipG_len]; first | refine callK_r (by first | assumption | fail) (by first | exact .inl rfl | exact .inr rfl) ?_ | (refine callK_i (by assumption) ?_ ?_ ?_; (solve | (repeat (first | exact DLe.refl _ | exact DLe.nil _ | (refine DLe.tup ?_) | (refine DLe.agg ?_ rfl) | exact trivial | (refine And.intro ?_ ?_)))); (solve | exact .inl rfl | exact .inr rfl))) | fail | omega | exact decide_eq_true (by omega) | exact DLe.refl _)
          refine hC _ _ trivial ((weak_freeze 12 1 3 1 (f.addrs.map encA) rfl).trans ?_)
          simp only [fzE, fz, fzL, fzH, fzC, fzR, fzR_app, fzR_d, fzL_d, List.map_cons, List.map_nil, Nat.reduceAdd, Nat.reduceEqDiff, reduceIte, and_true, true_and, and_self, and_false, false_and, Nat.zero_add, Nat.add_zero, reduceCtorEq, fzR_zipG]
          exact weak_forget _ (by simp) (by rw [take_snoc hf.out, List.map_append, List.map_cons, List.map_nil, ← dRows_app]; rfl) (by (repeat' (first | exact trivial | (refine ⟨rfl, ?_⟩)))) (by first | rfl | simp only [belowH, belowE, belowC, belowL, belowR, belowP, belowL_d, belowR_d, belowR_zipG, subRow, faceRow, List.length_cons, List.length_nil, Nat.reduceAdd, Nat.reduceLT, decide_true, Bool.and_self, Bool.and_true]) (by first | rfl | simp only [belowH, belowE, belowC, belowL, belowR, belowP, belowL_d, belowR_d, belowR_zipG, subRow, faceRow, List.length_cons, List.length_nil, Nat.reduceAdd, Nat.reduceLT, decide_true, Bool.and_self, Bool.and_true])
        · intro _ C
          repeat' (first | (with_reducible refine And.intro ?_ ?_) | (with_reducible refine gK_i (fun _ => ?_) (fun _ => ?_)) | (with_reducible refine condS_i (fun _ => ?_) (fun _ => ?_)) | (with_reducible refine drw_i (by kernel_rfl)) | simp -dsimp only [go_sem, ↓reduceIte, reduceCtorEq, Nat.reduceAdd, Nat.reduceMul, Nat.reduceSub, Nat.reduceLeDiff, Nat.reduceLT, Nat.reduceEqDiff, Int.reduceLE, Int.reduceLT, Int.reduceToNat, Int.reduceBEq, Int.reduceBNe, Int.reduceEq, Int.reduceAdd, Int.reduceSub, Int.reduceMul, Int.reduceNeg, Int.cast_ofNat_Int, *, encV, encN, hkI, hs1, hwr, hb1, hlk, zipG_len, Int.lt_irrefl, List.take_length] | ((with_reducible refine opK_c ?_); simp -dsimp only [go_sem, ↓reduceIte, reduceCtorEq, Nat.reduceAdd, Nat.reduceMul, Nat.reduceSub, Nat.reduceLeDiff, Nat.reduceLT, Nat.reduceEqDiff, Int.reduceLE, Int.reduceLT, Int.reduceToNat, Int.reduceBEq, Int.reduceBNe, Int.reduceEq, Int.reduceAdd, Int.reduceSub, Int.reduceMul, Int.reduceNeg, Int.cast_ofNat_Int, encV, encN, hkI, hs1, hwr, hb1, hlk, zipG_len, Int.lt_irrefl, List.take_length]; first | refine callK_r (by first | assumption | fail) (by first | exact .inl rfl | exact .inr rfl) ?_ | (refine callK_i (by assumption) ?_ ?_ ?_; (solve | (repeat (first | exact DLe.refl _ | exact DLe.nil _ | (refine DLe.tup ?_) | (refine DLe.agg ?_ rfl) | exact trivial | (refine And.intro ?_ ?_)))); (solve | exact .inl rfl | exact .inr rfl))) | fail | omega | exact decide_eq_true (by omega) | exact DLe.refl _)
          refine hCO _ _ _ _ _ ?_ (.inr ⟨k + 1, q + 1, by have := hkj2.out; omega, hjp, rfl, rfl, rfl⟩) ((weak_freeze 10 s.faces.length 79 2 (s.faces.map encF) rfl).trans ?_)
          · have := hm.out; have := hlen2.out; have := hkj2.out; omega
          simp only [fzE, fz, fzL, fzH, fzC, fzR, fzR_app, fzR_d, fzL_d, List.map_cons, List.map_nil, Nat.reduceAdd, Nat.reduceEqDiff, reduceIte, and_true, true_and, and_self, and_false, false_and, Nat.zero_add, Nat.add_zero, reduceCtorEq, fzR_zipG, subRow]
          exact weak_forget _ (by simp) (by rw [take_snoc hq.out, ← zipG_snoc]; rfl) (by (repeat' (first | exact trivial | (refine ⟨rfl, ?_⟩)))) (by first | rfl | simp only [belowH, belowE, belowC, belowL, belowR, belowP, belowL_d, belowR_d, belowR_zipG, subRow, faceRow, List.length_cons, List.length_nil, Nat.reduceAdd, Nat.reduceLT, decide_true, Bool.and_self, Bool.and_true]) (by first | rfl | simp only [belowH, belowE, belowC, belowL, belowR, belowP, belowL_d, belowR_d, belowR_zipG, subRow, faceRow, List.length_cons, List.length_nil, Nat.reduceAdd, Nat.reduceLT, decide_true, Bool.and_self, Bool.and_true])
      · obtain rfl : q = post.length := by omega
        obtain rfl : k = v.subs.length := by have := hlen2.out; omega
        clear hkj
        repeat' (first | (with_reducible refine And.intro ?_ ?_) | (with_reducible refine gK_i (fun _ => ?_) (fun _ => ?_)) | (with_reducible refine condS_i (fun _ => ?_) (fun _ => ?_)) | (with_reducible refine drw_i (by kernel_rfl)) | simp -dsimp only [go_sem, ↓reduceIte, reduceCtorEq, Nat.reduceAdd, Nat.reduceMul, Nat.reduceSub, Nat.reduceLeDiff, Nat.reduceLT, Nat.reduceEqDiff, Int.reduceLE, Int.reduceLT, Int.reduceToNat, Int.reduceBEq, Int.reduceBNe, Int.reduceEq, Int.reduceAdd, Int.reduceSub, Int.reduceMul, Int.reduceNeg, Int.cast_ofNat_Int, *, encV, Int.lt_irrefl] | ((with_reducible refine opK_c ?_); simp -dsimp only [go_sem, ↓reduceIte, reduceCtorEq, Nat.reduceAdd, Nat.reduceMul, Nat.reduceSub, Nat.reduceLeDiff, Nat.reduceLT, Nat.reduceEqDiff, Int.reduceLE, Int.reduceLT, Int.reduceToNat, Int.reduceBEq, Int.reduceBNe, Int.reduceEq, Int.reduceAdd, Int.reduceSub, Int.reduceMul, Int.reduceNeg, Int.cast_ofNat_Int, encV, Int.lt_irrefl]; first | refine callK_r (by first | assumption | fail) (by first | exact .inl rfl | exact .inr rfl) ?_ | (refine callK_i (by assumption) ?_ ?_ ?_; (solve | (repeat (first | exact DLe.refl _ | exact DLe.nil _ | (refine DLe.tup ?_) | (refine DLe.agg ?_ rfl) | exact trivial | (refine And.intro ?_ ?_)))); (solve | exact .inl rfl | exact .inr rfl))) | fail | omega | exact decide_eq_true (by omega) | exact DLe.refl _)
        rw [List.take_length]
        refine (weak_gone 0 (by simp)).trans ?_
        refine (weak_gone 1 (by simp [setC])).trans ?_
        exact (weak_gone 3 (by simp [setC])).trans (weak_eq rfl rfl)
end Go.Proofs.YtdcjeacphbfmjaaGreat
namespace Go.Proofs.YtdcjeacphbfmjaaGreat
open Go Go.RowKit
set_option maxRecDepth 100000 in
set_option maxHeartbeats 2000000 in
theorem moreVpc_p (v : Vpc) (sub id : Int) (hl : v.subs.length ≤ 9223372036854775807) (hf : ∀ s ∈ v.subs, s.faces.length ≤ 9223372036854775807) : PSpec Tryz.prog 23 [.agg (encV v), .v (.int .i64 sub), .v (.int .i64 id)] (.tup [.agg (encV (moreV v sub id).1), .v (.int .i64 (moreV v sub id).2.1), .v (.int .i64 (moreV v sub id).2.2)]) := by
  obtain ⟨R, hR⟩ : ∃ R, R = moreV v sub id := ⟨_, rfl⟩
  rw [← hR]
  replace hR := Lib.hid hR
  have hck := checkVpc_p v hl hf
  clear hl hf
  by_cases hc : chkV v = 0
  · have hk := vpcOK_of hc
    have hn4 := hk.n4
    have hn6 := hk.n6
    have hat := subAt_p v sub (by omega)
    unfold idxI at hat
    have hR2 := hR.out
    unfold moreV at hR2
    rw [if_neg (by simpa using hc)] at hR2
    rw [hc] at hck
    clear hR hc
    have hm1 : decide ((-1 : Int) < 0) = true := rfl
    cases hf : v.subs.findIdx? (fun s => s.id == sub) with
    | none =>
      rw [hf] at hat hR2
      simp only at hat hR2
      rw [hR2]
      replace hR2 := Lib.hid hR2
      clear hk hf
      refine ps_i tab_ok mixed Tryz.func23 rfl Tryz.ntmps23 Tryz.results23 (by kernel_rfl) ?_
      repeat' (first | (with_reducible refine And.intro ?_ ?_) | (with_reducible refine gK_i (fun _ => ?_) (fun _ => ?_)) | (with_reducible refine condS_i (fun _ => ?_) (fun _ => ?_)) | (with_reducible refine drw_i (by kernel_rfl)) | simp -dsimp only [go_sem, ↓reduceIte, reduceCtorEq, Nat.reduceAdd, Nat.reduceMul, Nat.reduceSub, Nat.reduceLeDiff, Nat.reduceLT, Nat.reduceEqDiff, Int.reduceLE, Int.reduceLT, Int.reduceToNat, Int.reduceBEq, Int.reduceBNe, Int.reduceEq, Int.reduceAdd, Int.reduceSub, Int.reduceMul, Int.reduceNeg, Int.cast_ofNat_Int, *, encV, hm1, undef] | ((with_reducible refine opK_c ?_); simp -dsimp only [go_sem, ↓reduceIte, reduceCtorEq, Nat.reduceAdd, Nat.reduceMul, Nat.reduceSub, Nat.reduceLeDiff, Nat.reduceLT, Nat.reduceEqDiff, Int.reduceLE, Int.reduceLT, Int.reduceToNat, Int.reduceBEq, Int.reduceBNe, Int.reduceEq, Int.reduceAdd, Int.reduceSub, Int.reduceMul, Int.reduceNeg, Int.cast_ofNat_Int, encV, hm1, undef]; first | refine callK_r (by first | assumption | exact hck | exact hat) (by first | exact .inl rfl | exact .inr rfl) ?_ | (refine callK_i (by assumption) ?_ ?_ ?_; (solve | (repeat (first | exact DLe.refl _ | exact DLe.nil _ | (refine DLe.tup ?_) | (refine DLe.agg ?_ rfl) | exact trivial | (refine And.intro ?_ ?_)))); (solve | exact .inl rfl | exact .inr rfl))) | fail | omega | exact decide_eq_true (by omega) | exact DLe.refl _)
      all_goals exact (by repeat (first | exact DLe.refl _ | exact DLe.nil _ | (refine DLe.tup ?_) | (refine DLe.agg ?_ rfl) | exact trivial | (refine And.intro ?_ ?_)))
    | some i =>
      obtain ⟨pre, s, post, hv, hpl, -, hs⟩ := find_split hf
      have hsm := List.mem_of_getElem? hs
      have h8s := hk.n8 s hsm
      obtain ⟨s1, s2, s3, s4⟩ := sub_right hk hsm
      have hle := leastR_p s h8s.1 h8s.2 s1
      have hfa := faceAt_p s id (by omega)
      unfold idxI at hfa
      have hi0 : decide ((i : Int) < 0) = false := by simp
      have hsl : v.subs.length = pre.length + 1 + post.length := by rw [hv]; simp; omega
      rw [hf] at hat hR2
      simp only [hs] at hat hR2
      clear hf
      cases hg : s.faces.findIdx? (fun f => f.id == id) with
      | none =>
        rw [hg] at hfa hR2
        simp only at hfa hR2
        rw [hR2]
        replace hR2 := Lib.hid hR2
        clear hk hg hv hpl hsl hle
        refine ps_i tab_ok mixed Tryz.func23 rfl Tryz.ntmps23 Tryz.results23 (by kernel_rfl) ?_
        repeat' (first | (with_reducible refine And.intro ?_ ?_) | (with_reducible refine gK_i (fun _ => ?_) (fun _ => ?_)) | (with_reducible refine condS_i (fun _ => ?_) (fun _ => ?_)) | (with_reducible refine drw_i (by kernel_rfl)) | simp -dsimp only [go_sem, ↓reduceIte, reduceCtorEq, Nat.reduceAdd, Nat.reduceMul, Nat.reduceSub, Nat.reduceLeDiff, Nat.reduceLT, Nat.reduceEqDiff, Int.reduceLE, Int.reduceLT, Int.reduceToNat, Int.reduceBEq, Int.reduceBNe, Int.reduceEq, Int.reduceAdd, Int.reduceSub, Int.reduceMul, Int.reduceNeg, Int.cast_ofNat_Int, *, encV, encN, hi0, hm1, hs, undef] | ((with_reducible refine opK_c ?_); simp -dsimp only [go_sem, ↓reduceIte, reduceCtorEq, Nat.reduceAdd, Nat.reduceMul, Nat.reduceSub, Nat.reduceLeDiff, Nat.reduceLT, Nat.reduceEqDiff, Int.reduceLE, Int.reduceLT, Int.reduceToNat, Int.reduceBEq, Int.reduceBNe, Int.reduceEq, Int.reduceAdd, Int.reduceSub, Int.reduceMul, Int.reduceNeg, Int.cast_ofNat_Int, encV, encN, hi0, hm1, hs, undef]; first | refine callK_r (by first | assumption | exact hck | exact hat | exact hfa) (by first | exact .inl rfl | exact .inr rfl) ?_ | (refine callK_i (by assumption) ?_ ?_ ?_; (solve | (repeat (first | exact DLe.refl _ | exact DLe.nil _ | (refine DLe.tup ?_) | (refine DLe.agg ?_ rfl) | exact trivial | (refine And.intro ?_ ?_)))); (solve | exact .inl rfl | exact .inr rfl))) | fail | omega | exact decide_eq_true (by omega) | exact DLe.refl _)
        all_goals exact (by repeat (first | exact DLe.refl _ | exact DLe.nil _ | (refine DLe.tup ?_) | (refine DLe.agg ?_ rfl) | exact trivial | (refine And.intro ?_ ?_)))
      | some k =>
        obtain ⟨preF, f, postF, hfv, hplF, -, hfs⟩ := find_split hg
        have hfm := List.mem_of_getElem? hfs
        have hob := ownA_m v pre post s preF postF f hv hfv hk.n4 hk.n6 hk.n8
        have hfl := h8s.2 f hfm
        have hfsl : s.faces.length = preF.length + 1 + postF.length := by rw [hfv]; simp; omega
        have hk0 : decide ((k : Int) < 0) = false := by simp
        rw [hg] at hfa hR2
        simp only [hfs] at hfa hR2
        by_cases h4 : f.addrs.length = 4
        · rw [if_pos h4] at hR2
          have hd : decide ((f.addrs.length : Int) ≥ 4) = true := by simp; omega
          rw [hR2]
          replace hR2 := Lib.hid hR2
          replace h4 := Lib.hid h4
          clear hk hg hv hpl hsl hob hfv hplF hfsl
          refine ps_i tab_ok mixed Tryz.func23 rfl Tryz.ntmps23 Tryz.results23 (by kernel_rfl) ?_
          repeat' (first | (with_reducible refine And.intro ?_ ?_) | (with_reducible refine gK_i (fun _ => ?_) (fun _ => ?_)) | (with_reducible refine condS_i (fun _ => ?_) (fun _ => ?_)) | (with_reducible refine drw_i (by kernel_rfl)) | simp -dsimp only [go_sem, ↓reduceIte, reduceCtorEq, Nat.reduceAdd, Nat.reduceMul, Nat.reduceSub, Nat.reduceLeDiff, Nat.reduceLT, Nat.reduceEqDiff, Int.reduceLE, Int.reduceLT, Int.reduceToNat, Int.reduceBEq, Int.reduceBNe, Int.reduceEq, Int.reduceAdd, Int.reduceSub, Int.reduceMul, Int.reduceNeg, Int.cast_ofNat_Int, *, encV, encN, encF, hi0, hk0, hs, hfs, hd, undef] | ((with_reducible refine opK_c ?_); simp -dsimp only [go_sem, ↓reduceIte, reduceCtorEq, Nat.reduceAdd, Nat.reduceMul, Nat.reduceSub, Nat.reduceLeDiff, Nat.reduceLT, Nat.reduceEqDiff, Int.reduceLE, Int.reduceLT, Int.reduceToNat, Int.reduceBEq, Int.reduceBNe, Int.reduceEq, Int.reduceAdd, Int.reduceSub, Int.reduceMul, Int.reduceNeg, Int.cast_ofNat_Int, encV, encN, encF, hi0, hk0, hs, hfs, hd, undef]; first | refine callK_r (by first | assumption | exact hck | exact hat | exact hfa | exact hle) (by first | exact .inl rfl | exact .inr rfl) ?_ | (refine callK_i (by assumption) ?_ ?_ ?_; (solve | (repeat (first | exact DLe.refl _ | exact DLe.nil _ | (refine DLe.tup ?_) | (refine DLe.agg ?_ rfl) | exact trivial | (refine And.intro ?_ ?_)))); (solve | exact .inl rfl | exact .inr rfl))) | fail | omega | exact decide_eq_true (by omega) | exact DLe.refl _)
          all_goals exact (by repeat (first | exact DLe.refl _ | exact DLe.nil _ | (refine DLe.tup ?_) | (refine DLe.agg ?_ rfl) | exact trivial | (refine And.intro ?_ ?_)))
        · rw [if_neg h4] at hR2
          have hd : decide ((f.addrs.length : Int) ≥ 4) = false := by simp; omega
          cases hl : leastS s with
          | none =>
            rw [hl] at hR2 hle
            simp only [Option.getD_none] at hR2 hle
            rw [hR2]
            replace hR2 := Lib.hid hR2
            clear hk hg hv hpl hsl hob hfv hplF hfsl hl
            refine ps_i tab_ok mixed Tryz.func23 rfl Tryz.ntmps23 Tryz.results23 (by kernel_rfl) ?_
            repeat' (first | (with_reducible refine And.intro ?_ ?_) | (with_reducible refine gK_i (fun _ => ?_) (fun _ => ?_)) | (with_reducible refine condS_i (fun _ => ?_) (fun _ => ?_)) | (with_reducible refine drw_i (by kernel_rfl)) | simp -dsimp only [go_sem, ↓reduceIte, reduceCtorEq, Nat.reduceAdd, Nat.reduceMul, Nat.reduceSub, Nat.reduceLeDiff, Nat.reduceLT, Nat.reduceEqDiff, Int.reduceLE, Int.reduceLT, Int.reduceToNat, Int.reduceBEq, Int.reduceBNe, Int.reduceEq, Int.reduceAdd, Int.reduceSub, Int.reduceMul, Int.reduceNeg, Int.cast_ofNat_Int, *, encV, encN, encF, hi0, hk0, hs, hfs, hd, hm1, undef] | ((with_reducible refine opK_c ?_); simp -dsimp only [go_sem, ↓reduceIte, reduceCtorEq, Nat.reduceAdd, Nat.reduceMul, Nat.reduceSub, Nat.reduceLeDiff, Nat.reduceLT, Nat.reduceEqDiff, Int.reduceLE, Int.reduceLT, Int.reduceToNat, Int.reduceBEq, Int.reduceBNe, Int.reduceEq, Int.reduceAdd, Int.reduceSub, Int.reduceMul, Int.reduceNeg, Int.cast_ofNat_Int, encV, encN, encF, hi0, hk0, hs, hfs, hd, hm1, undef]; first | refine callK_r (by first | assumption | exact hck | exact hat | exact hfa | exact hle) (by first | exact .inl rfl | exact .inr rfl) ?_ | (refine callK_i (by assumption) ?_ ?_ ?_; (solve | (repeat (first | exact DLe.refl _ | exact DLe.nil _ | (refine DLe.tup ?_) | (refine DLe.agg ?_ rfl) | exact trivial | (refine And.intro ?_ ?_)))); (solve | exact .inl rfl | exact .inr rfl))) | fail | omega | exact decide_eq_true (by omega) | exact DLe.refl _)
            all_goals exact (by repeat (first | exact DLe.refl _ | exact DLe.nil _ | (refine DLe.tup ?_) | (refine DLe.agg ?_ rfl) | exact trivial | (refine And.intro ?_ ?_)))
          | some a =>
            rw [hl] at hR2 hle
            simp only [Option.getD_some] at hR2 hle
            have hln := leastF_not (show leastF _ _ _ _ = some a from hl)
            have hae : 0 ≤ a := by
              have h1 := innB_lt hln.2
              obtain ⟨-, -, r3, -, -⟩ := s.at_.bd h1.1
              omega
            have ha0 : decide (a < 0) = false := by simpa using hae
            have hna : a ∉ f.addrs := fun h => hln.1 (List.mem_flatMap.2 ⟨f, hfm, h⟩)
            have hsrt : f.addrs.Pairwise fun x y => x < y := by
              have := s4 f hfm
              unfold faceB at this
              simp only [Bool.and_eq_true, risB_pair] at this
              exact this.2.2.1
            have hR3 : R = ({ v with subs := pre ++ { s with faces := preF ++ { f with addrs := insK (fun x => x) a f.addrs } :: postF } :: post }, a, 0) := by
              rw [hR2]
              rw [hv, ← hpl, List.set_append_right _ _ (Nat.le_refl _), Nat.sub_self, List.set_cons_zero]
              rw [hfv, ← hplF, List.set_append_right _ _ (Nat.le_refl _), Nat.sub_self, List.set_cons_zero]
            have hb1 : (f.addrs.length + 1) * 8 ≤ 140737488355328 := by omega
            have hwl : IntKind.i64.wrap (((f.addrs.length + 1 : Nat) : Int) - 1) = (f.addrs.length : Int) := by rw [IntKind.wrap_i64]; omega
            replace hR3 := Lib.hid hR3
            replace hna := Lib.hid hna
            replace hsrt := Lib.hid hsrt
            replace hv := Lib.hid hv
            replace hfv := Lib.hid hfv
            clear hR2 hln hl hk hg s2 s3 s4
            subst hpl
            subst hplF
            refine ps_i tab_ok mixed Tryz.func23 rfl Tryz.ntmps23 Tryz.results23 (by kernel_rfl) ?_
            repeat' (first | (with_reducible refine And.intro ?_ ?_) | (with_reducible refine gK_i (fun _ => ?_) (fun _ => ?_)) | (with_reducible refine condS_i (fun _ => ?_) (fun _ => ?_)) | (with_reducible refine drw_i (by kernel_rfl)) | simp -dsimp only [go_sem, ↓reduceIte, reduceCtorEq, Nat.reduceAdd, Nat.reduceMul, Nat.reduceSub, Nat.reduceLeDiff, Nat.reduceLT, Nat.reduceEqDiff, Int.reduceLE, Int.reduceLT, Int.reduceToNat, Int.reduceBEq, Int.reduceBNe, Int.reduceEq, Int.reduceAdd, Int.reduceSub, Int.reduceMul, Int.reduceNeg, Int.cast_ofNat_Int, *, encV, encN, encF, encA, subRow, faceRow, renR_zipG, zipG_get, zipG_set, zipG_len, viewR_zipG, hi0, hk0, hs, hfs, hd, ha0, hb1, hwl, undef] | ((with_reducible refine opK_c ?_); simp -dsimp only [go_sem, ↓reduceIte, reduceCtorEq, Nat.reduceAdd, Nat.reduceMul, Nat.reduceSub, Nat.reduceLeDiff, Nat.reduceLT, Nat.reduceEqDiff, Int.reduceLE, Int.reduceLT, Int.reduceToNat, Int.reduceBEq, Int.reduceBNe, Int.reduceEq, Int.reduceAdd, Int.reduceSub, Int.reduceMul, Int.reduceNeg, Int.cast_ofNat_Int, encV, encN, encF, encA, subRow, faceRow, renR_zipG, zipG_get, zipG_set, zipG_len, viewR_zipG, hi0, hk0, hs, hfs, hd, ha0, hb1, hwl, undef]; first | refine callK_r (by first | assumption | exact hck | exact hat | exact hfa | exact hle) (by first | exact .inl rfl | exact .inr rfl) ?_ | (refine callK_i (by assumption) ?_ ?_ ?_; (solve | (repeat (first | exact DLe.refl _ | exact DLe.nil _ | (refine DLe.tup ?_) | (refine DLe.agg ?_ rfl) | exact trivial | (refine And.intro ?_ ?_)))); (solve | exact .inl rfl | exact .inr rfl))) | (refine opK_M [] (hob) ?_ ?_ ?_ ?_ ?_ ?_; (solve | rfl | simp only [go_sem, ↓reduceIte, reduceCtorEq, Nat.reduceAdd, Nat.reduceMul, Nat.reduceSub, Nat.reduceLeDiff, Nat.reduceLT, Nat.reduceEqDiff, Int.reduceLE, Int.reduceLT, Int.reduceToNat, Int.reduceBEq, Int.reduceBNe, Int.reduceEq, Int.reduceAdd, Int.reduceSub, Int.reduceMul, Int.reduceNeg, Int.cast_ofNat_Int, encV, subRow, faceRow, renR_zipG]); (solve | rfl); (solve | decide); (solve | simp); (solve | simp only [go_sem, ↓reduceIte, reduceCtorEq, Nat.reduceAdd, Nat.reduceMul, Nat.reduceSub, Nat.reduceLeDiff, Nat.reduceLT, Nat.reduceEqDiff, Int.reduceLE, Int.reduceLT, Int.reduceToNat, Int.reduceBEq, Int.reduceBNe, Int.reduceEq, Int.reduceAdd, Int.reduceSub, Int.reduceMul, Int.reduceNeg, Int.cast_ofNat_Int, lentOK, encV, subRow, faceRow, renR_zipG])) | omega | exact decide_eq_true (by omega) | exact DLe.refl _)
            clear hck hat hfa hle hob
            refine loopG tab_ok mixed (fun m e h => ∃ (q : Nat) (out : List Int), BubI (fun x : Int => x) a f.addrs q out ∧ out.length = f.addrs.length + 1 ∧ m = q ∧ e = [(15, .d (.v (.int .i64 q))), (14, .own 10 2), (13, .ptr 11 0), (12, .d (.v (.int .i64 a))), (11, .d (.v (.int .i64 preF.length))), (10, .d (.v (.int .i64 pre.length))), (6, .ptr 1 0)] ∧ h = [.box 25 ((encV v).map .d), .box 25 [.d (.v (.int .i64 0)), .d (.v (.slice none 0 0)), .d (.v (.slice none 0 0))], .gone, .gone, .row 29 3 1 (dRows (v.ranges.map encG)), .gone, .row 62 4 (pre.length + 1 + post.length) (zipG encN pre (subRow s (.own 8 (preF.length + 1 + postF.length))) post), .gone, .row 79 2 (preF.length + 1 + postF.length) (zipG encF preF (faceRow f (.own 10 1)) postF), .gone, .row 3 1 2 (dRows (out.map encA)), .box 25 [.d (.v (.int .i64 v.id)), .own 4 1, .own 6 (pre.length + 1 + post.length)]]) _ _ _ ⟨f.addrs.length, f.addrs ++ [a], bub_0, by simp, rfl, rfl, rfl⟩ (weak_forget _ (by simp) (by rw [List.map_append]; rfl) (by (repeat' (first | exact trivial | (refine ⟨rfl, ?_⟩)))) (by first | rfl | simp only [belowH, belowE, belowC, belowL, belowR, belowP, belowL_d, belowR_d, belowR_zipG, subRow, faceRow, List.length_cons, List.length_nil, Nat.reduceAdd, Nat.reduceLT, decide_true, Bool.and_self, Bool.and_true]) (by first | rfl | simp only [belowH, belowE, belowC, belowL, belowR, belowP, belowL_d, belowR_d, belowR_zipG, subRow, faceRow, List.length_cons, List.length_nil, Nat.reduceAdd, Nat.reduceLT, decide_true, Bool.and_self, Bool.and_true])) ?_
            rintro m e h ⟨q, out, hbu, hol, hm, rfl, rfl⟩ C hC
            have hql := hbu.1
            have hx := bub_x hbu
            replace hbu := Lib.hid hbu
            replace hm := Lib.hid hm
            by_cases h0 : 0 < q
            · have hq0 : decide ((q : Int) > 0) = true := by simp; omega
              obtain ⟨y, hy⟩ : ∃ y, f.addrs[q - 1]? = some y := ⟨_, List.getElem?_eq_getElem (by omega)⟩
              have hy2 := bub_y hbu.out h0 hy
              have hwm : IntKind.i64.wrap ((q : Int) - 1) = ((q - 1 : Nat) : Int) := by rw [IntKind.wrap_i64]; omega
              have hq2 : q < out.length := by omega
              have hq3 : q - 1 < out.length := by omega
              replace hol := Lib.hid hol
              replace h0 := Lib.hid h0
              replace hy := Lib.hid hy
              cases b5 : decide (y > a) with
              | true =>
                have hb2 := bub_s hbu.out h0.out hy.out (of_decide_eq_true b5)
                replace hb2 := Lib.hid hb2
                have hsn : ∀ X : List PV, ((dRows (out.map encA)).set (q - 1) X)[q]? = some [.d (.v (.int .i64 a))] := fun X => by
                  rw [List.getElem?_set_ne (by have := h0.out; omega), dRows_get, List.getElem?_map, hx]; rfl
                repeat' (first | (with_reducible refine And.intro ?_ ?_) | (with_reducible refine gK_i (fun _ => ?_) (fun _ => ?_)) | (with_reducible refine condS_i (fun _ => ?_) (fun _ => ?_)) | (with_reducible refine drw_i (by kernel_rfl)) | simp -dsimp only [go_sem, ↓reduceIte, reduceCtorEq, Nat.reduceAdd, Nat.reduceMul, Nat.reduceSub, Nat.reduceLeDiff, Nat.reduceLT, Nat.reduceEqDiff, Int.reduceLE, Int.reduceLT, Int.reduceToNat, Int.reduceBEq, Int.reduceBNe, Int.reduceEq, Int.reduceAdd, Int.reduceSub, Int.reduceMul, Int.reduceNeg, Int.cast_ofNat_Int, *, encV, encF, encA, subRow, faceRow, renR_zipG, zipG_get, zipG_set, zipG_len, viewR_zipG, hq0, hx, hy2, hwm, b5, hsn, undef] | ((with_reducible refine opK_c ?_); simp -dsimp only [go_sem, ↓reduceIte, reduceCtorEq, Nat.reduceAdd, Nat.reduceMul, Nat.reduceSub, Nat.reduceLeDiff, Nat.reduceLT, Nat.reduceEqDiff, Int.reduceLE, Int.reduceLT, Int.reduceToNat, Int.reduceBEq, Int.reduceBNe, Int.reduceEq, Int.reduceAdd, Int.reduceSub, Int.reduceMul, Int.reduceNeg, Int.cast_ofNat_Int, encV, encF, encA, subRow, faceRow, renR_zipG, zipG_get, zipG_set, zipG_len, viewR_zipG, hq0, hx, hy2, hwm, b5, hsn, undef]; first | refine callK_r (by first | assumption | fail) (by first | exact .inl rfl | exact .inr rfl) ?_ | (refine callK_i (by assumption) ?_ ?_ ?_; (solve | (repeat (first | exact DLe.refl _ | exact DLe.nil _ | (refine DLe.tup ?_) | (refine DLe.agg ?_ rfl) | exact trivial | (refine And.intro ?_ ?_)))); (solve | exact .inl rfl | exact .inr rfl))) | fail | omega | exact decide_eq_true (by omega) | exact DLe.refl _)
                refine hC _ _ _ _ _ ?_ ⟨q - 1, (out.set (q - 1) a).set q y, hb2.out, by rw [List.length_set, List.length_set]; exact hol.out, rfl, rfl, rfl⟩ (weak_forget _ (by simp) (by simp only [List.map_set, dRows]; rfl) (by (repeat' (first | exact trivial | (refine ⟨rfl, ?_⟩)))) (by first | rfl | simp only [belowH, belowE, belowC, belowL, belowR, belowP, belowL_d, belowR_d, belowR_zipG, subRow, faceRow, List.length_cons, List.length_nil, Nat.reduceAdd, Nat.reduceLT, decide_true, Bool.and_self, Bool.and_true]) (by first | rfl | simp only [belowH, belowE, belowC, belowL, belowR, belowP, belowL_d, belowR_d, belowR_zipG, subRow, faceRow, List.length_cons, List.length_nil, Nat.reduceAdd, Nat.reduceLT, decide_true, Bool.and_self, Bool.and_true]))
                have := hm.out; have := h0.out; omega
              | false =>
                have he := bub_e hbu.out hsrt.out (fun z _ hz => by
                  rw [hy.out] at hz
                  rw [← Option.some.inj hz]
                  have h1 : y ≠ a := fun e => hna.out (e ▸ List.mem_of_getElem? hy.out)
                  have h2 := of_decide_eq_false b5
                  show y < a; omega)
                rw [← he] at hR3
                have hR4 := hR3.out
                rw [hR4]
                replace hR4 := Lib.hid hR4
                replace he := Lib.hid he
                repeat' (first | (with_reducible refine And.intro ?_ ?_) | (with_reducible refine gK_i (fun _ => ?_) (fun _ => ?_)) | (with_reducible refine condS_i (fun _ => ?_) (fun _ => ?_)) | (with_reducible refine drw_i (by kernel_rfl)) | simp -dsimp only [go_sem, ↓reduceIte, reduceCtorEq, Nat.reduceAdd, Nat.reduceMul, Nat.reduceSub, Nat.reduceLeDiff, Nat.reduceLT, Nat.reduceEqDiff, Int.reduceLE, Int.reduceLT, Int.reduceToNat, Int.reduceBEq, Int.reduceBNe, Int.reduceEq, Int.reduceAdd, Int.reduceSub, Int.reduceMul, Int.reduceNeg, Int.cast_ofNat_Int, *, encV, encN, encF, encA, subRow, faceRow, renR_zipG, zipG_get, zipG_set, zipG_len, viewR_zipG, hq0, hx, hy2, hwm, b5, undef] | ((with_reducible refine opK_c ?_); simp -dsimp only [go_sem, ↓reduceIte, reduceCtorEq, Nat.reduceAdd, Nat.reduceMul, Nat.reduceSub, Nat.reduceLeDiff, Nat.reduceLT, Nat.reduceEqDiff, Int.reduceLE, Int.reduceLT, Int.reduceToNat, Int.reduceBEq, Int.reduceBNe, Int.reduceEq, Int.reduceAdd, Int.reduceSub, Int.reduceMul, Int.reduceNeg, Int.cast_ofNat_Int, encV, encN, encF, encA, subRow, faceRow, renR_zipG, zipG_get, zipG_set, zipG_len, viewR_zipG, hq0, hx, hy2, hwm, b5, undef]; first | refine callK_r (by first | assumption | fail) (by first | exact .inl rfl | exact .inr rfl) ?_ | (refine callK_i (by assumption) ?_ ?_ ?_; (solve | (repeat (first | exact DLe.refl _ | exact DLe.nil _ | (refine DLe.tup ?_) | (refine DLe.agg ?_ rfl) | exact trivial | (refine And.intro ?_ ?_)))); (solve | exact .inl rfl | exact .inr rfl))) | fail | omega | exact decide_eq_true (by omega) | exact DLe.refl _)
                all_goals (first | omega | (simp only [encV, encN, encF, List.map_append, List.map_cons]; exact (by repeat (first | exact DLe.refl _ | exact DLe.nil _ | (refine DLe.tup ?_) | (refine DLe.agg ?_ rfl) | exact trivial | (refine And.intro ?_ ?_)))))
            · have hq0 : decide ((q : Int) > 0) = false := by simp; omega
              have he := bub_e hbu.out hsrt.out (fun z h _ => absurd h h0)
              rw [← he] at hR3
              have hR4 := hR3.out
              rw [hR4]
              replace hR4 := Lib.hid hR4
              replace he := Lib.hid he
              replace h0 := Lib.hid h0
              have hq2 : q < out.length := by omega
              replace hol := Lib.hid hol
              repeat' (first | (with_reducible refine And.intro ?_ ?_) | (with_reducible refine gK_i (fun _ => ?_) (fun _ => ?_)) | (with_reducible refine condS_i (fun _ => ?_) (fun _ => ?_)) | (with_reducible refine drw_i (by kernel_rfl)) | simp -dsimp only [go_sem, ↓reduceIte, reduceCtorEq, Nat.reduceAdd, Nat.reduceMul, Nat.reduceSub, Nat.reduceLeDiff, Nat.reduceLT, Nat.reduceEqDiff, Int.reduceLE, Int.reduceLT, Int.reduceToNat, Int.reduceBEq, Int.reduceBNe, Int.reduceEq, Int.reduceAdd, Int.reduceSub, Int.reduceMul, Int.reduceNeg, Int.cast_ofNat_Int, *, encV, encN, encF, encA, subRow, faceRow, renR_zipG, zipG_get, zipG_set, zipG_len, viewR_zipG, hq0, hx, undef] | ((with_reducible refine opK_c ?_); simp -dsimp only [go_sem, ↓reduceIte, reduceCtorEq, Nat.reduceAdd, Nat.reduceMul, Nat.reduceSub, Nat.reduceLeDiff, Nat.reduceLT, Nat.reduceEqDiff, Int.reduceLE, Int.reduceLT, Int.reduceToNat, Int.reduceBEq, Int.reduceBNe, Int.reduceEq, Int.reduceAdd, Int.reduceSub, Int.reduceMul, Int.reduceNeg, Int.cast_ofNat_Int, encV, encN, encF, encA, subRow, faceRow, renR_zipG, zipG_get, zipG_set, zipG_len, viewR_zipG, hq0, hx, undef]; first | refine callK_r (by first | assumption | fail) (by first | exact .inl rfl | exact .inr rfl) ?_ | (refine callK_i (by assumption) ?_ ?_ ?_; (solve | (repeat (first | exact DLe.refl _ | exact DLe.nil _ | (refine DLe.tup ?_) | (refine DLe.agg ?_ rfl) | exact trivial | (refine And.intro ?_ ?_)))); (solve | exact .inl rfl | exact .inr rfl))) | fail | omega | exact decide_eq_true (by omega) | exact DLe.refl _)
              all_goals (first | omega | (simp only [encV, encN, encF, List.map_append, List.map_cons]; exact (by repeat (first | exact DLe.refl _ | exact DLe.nil _ | (refine DLe.tup ?_) | (refine DLe.agg ?_ rfl) | exact trivial | (refine And.intro ?_ ?_)))))
  · have h1 : (chkV v != 0) = true := by simpa using hc
    have hr : R = (Vpc.zero, 0, chkV v) := by rw [hR.out]; unfold moreV; rw [if_pos hc]
    rw [hr]
    replace hr := Lib.hid hr
    clear hR
    refine ps_i tab_ok mixed Tryz.func23 rfl Tryz.ntmps23 Tryz.results23 (by kernel_rfl) ?_
    repeat' (first | (with_reducible refine And.intro ?_ ?_) | (with_reducible refine gK_i (fun _ => ?_) (fun _ => ?_)) | (with_reducible refine condS_i (fun _ => ?_) (fun _ => ?_)) | (with_reducible refine drw_i (by kernel_rfl)) | simp -dsimp only [go_sem, ↓reduceIte, reduceCtorEq, Nat.reduceAdd, Nat.reduceMul, Nat.reduceSub, Nat.reduceLeDiff, Nat.reduceLT, Nat.reduceEqDiff, Int.reduceLE, Int.reduceLT, Int.reduceToNat, Int.reduceBEq, Int.reduceBNe, Int.reduceEq, Int.reduceAdd, Int.reduceSub, Int.reduceMul, Int.reduceNeg, Int.cast_ofNat_Int, *, encV, h1] | ((with_reducible refine opK_c ?_); simp -dsimp only [go_sem, ↓reduceIte, reduceCtorEq, Nat.reduceAdd, Nat.reduceMul, Nat.reduceSub, Nat.reduceLeDiff, Nat.reduceLT, Nat.reduceEqDiff, Int.reduceLE, Int.reduceLT, Int.reduceToNat, Int.reduceBEq, Int.reduceBNe, Int.reduceEq, Int.reduceAdd, Int.reduceSub, Int.reduceMul, Int.reduceNeg, Int.cast_ofNat_Int, encV, h1]; first | refine callK_r (by first | assumption | exact hck) (by first | exact .inl rfl | exact .inr rfl) ?_ | (refine callK_i (by assumption) ?_ ?_ ?_; (solve | (repeat (first | exact DLe.refl _ | exact DLe.nil _ | (refine DLe.tup ?_) | (refine DLe.agg ?_ rfl) | exact trivial | (refine And.intro ?_ ?_)))); (solve | exact .inl rfl | exact .inr rfl))) | fail | omega | exact decide_eq_true (by omega) | exact DLe.refl _)
    exact (by repeat (first | exact DLe.refl _ | exact DLe.nil _ | (refine DLe.tup ?_) | (refine DLe.agg ?_ rfl) | exact trivial | (refine And.intro ?_ ?_)))
end Go.Proofs.YtdcjeacphbfmjaaGreat
namespace Go.Proofs.YtdcjeacphbfmjaaGreat
open Go Go.RowKit
theorem eqG_list (p q : Rng) : ([p.at_.at_, p.at_.len, p.pool] == [q.at_.at_, q.at_.len, q.pool]) = decide (p = q) := by
  rw [Bool.eq_iff_iff]
  cases p; cases q
  rename_i a b c d
  cases a; cases c
  simp [and_assoc]
theorem pre_snoc {α : Type} {l m : List α} {k : Nat} {x y : α} (hx : l[k]? = some x) (hy : m[k]? = some y) (h : l.take k = m.take k) (e : x = y) : l.take (k + 1) = m.take (k + 1) := by rw [take_snoc hx, take_snoc hy, h, e]
theorem pre_full {α : Type} {l m : List α} (hl : l.length = m.length) (h : l.take l.length = m.take l.length) : l = m := by
  rw [List.take_length, hl, List.take_length] at h; exact h
set_option maxRecDepth 100000 in
set_option maxHeartbeats 2000000 in
theorem sameVpcs_p (v w : Vpc) (hv1 : v.ranges.length ≤ 1000000000) (hv2 : v.subs.length ≤ 1000000000) (hv3 : ∀ s ∈ v.subs, s.faces.length ≤ 1000000000 ∧ ∀ f ∈ s.faces, f.addrs.length ≤ 1000000000) (hw3 : ∀ s ∈ w.subs, ∀ f ∈ s.faces, f.addrs.length ≤ 1000000000) : PSpec Tryz.prog 14 [.agg (encV v), .agg (encV w)] (.v (.bool (decide (v = w)))) := by
  obtain ⟨R, hR⟩ : ∃ R, R = decide (v = w) := ⟨_, rfl⟩
  rw [← hR]
  replace hR := Lib.hid hR
  have hno : v ≠ w → R = false := fun h => by rw [hR.out]; exact decide_eq_false h
  replace hno := Lib.hid hno
  replace hv3 := Lib.hid hv3
  replace hw3 := Lib.hid hw3
  by_cases c1 : v.id = w.id ∧ v.ranges.length = w.ranges.length ∧ v.subs.length = w.subs.length
  · obtain ⟨e1, e2, e3⟩ := c1
    have d1 : (v.id != w.id) = false := by simp [e1]
    have d2 : ((v.ranges.length : Int) != (w.ranges.length : Int)) = false := by simp [e2]
    have d3 : ((v.subs.length : Int) != (w.subs.length : Int)) = false := by simp [e3]
    replace e1 := Lib.hid e1
    replace e2 := Lib.hid e2
    replace e3 := Lib.hid e3
    refine ps_i tab_ok mixed Tryz.func14 rfl Tryz.ntmps14 Tryz.results14 (by kernel_rfl) ?_
    repeat' (first | (with_reducible refine And.intro ?_ ?_) | (with_reducible refine gK_i (fun _ => ?_) (fun _ => ?_)) | (with_reducible refine condS_i (fun _ => ?_) (fun _ => ?_)) | (with_reducible refine drw_i (by kernel_rfl)) | simp -dsimp only [go_sem, ↓reduceIte, reduceCtorEq, Nat.reduceAdd, Nat.reduceMul, Nat.reduceSub, Nat.reduceLeDiff, Nat.reduceLT, Nat.reduceEqDiff, Int.reduceLE, Int.reduceLT, Int.reduceToNat, Int.reduceBEq, Int.reduceBNe, Int.reduceEq, Int.reduceAdd, Int.reduceSub, Int.reduceMul, Int.reduceNeg, Int.cast_ofNat_Int, *, encV, d1, d2, d3, undef] | ((with_reducible refine opK_c ?_); simp -dsimp only [go_sem, ↓reduceIte, reduceCtorEq, Nat.reduceAdd, Nat.reduceMul, Nat.reduceSub, Nat.reduceLeDiff, Nat.reduceLT, Nat.reduceEqDiff, Int.reduceLE, Int.reduceLT, Int.reduceToNat, Int.reduceBEq, Int.reduceBNe, Int.reduceEq, Int.reduceAdd, Int.reduceSub, Int.reduceMul, Int.reduceNeg, Int.cast_ofNat_Int, encV, d1, d2, d3, undef]; first | refine callK_r (by first | assumption | fail) (by first | exact .inl rfl | exact .inr rfl) ?_ | (refine callK_i (by assumption) ?_ ?_ ?_; (solve | (repeat (first | exact DLe.refl _ | exact DLe.nil _ | (refine DLe.tup ?_) | (refine DLe.agg ?_ rfl) | exact trivial | (refine And.intro ?_ ?_)))); (solve | exact .inl rfl | exact .inr rfl))) | fail | omega | exact decide_eq_true (by omega) | exact DLe.refl _)
    refine loopL tab_ok mixed v.ranges (fun k => v.ranges.take k = w.ranges.take k) (fun k => [(5, .d (.v (.int .i64 k))), (4, .d (.v (.bool false))), (3, .ptr 1 0), (2, .ptr 0 0)]) (fun _ => [.box 25 ((encV v).map .d), .box 25 ((encV w).map .d)]) rfl (weak_forget _ (by simp) (by (try simp only [encV]); rfl) (by (repeat' (first | exact trivial | (refine ⟨rfl, ?_⟩)))) (by first | rfl | simp only [belowH, belowE, belowC, belowL, belowR, belowP, belowL_d, belowR_d, List.length_cons, List.length_nil, Nat.reduceAdd, Nat.reduceLT, decide_true, Bool.and_self, Bool.and_true]) (by first | rfl | simp only [belowH, belowE, belowC, belowL, belowR, belowP, belowL_d, belowR_d, List.length_cons, List.length_nil, Nat.reduceAdd, Nat.reduceLT, decide_true, Bool.and_self, Bool.and_true])) ?_ ?_
    · intro k x hx hk hI C hC
      have hkI : (k : Int) < (v.ranges.length : Int) := by omega
      have hwr : IntKind.i64.wrap ((k : Int) + 1) = ((k + 1 : Nat) : Int) := by rw [IntKind.wrap_i64]; omega
      obtain ⟨y, hy⟩ : ∃ y, w.ranges[k]? = some y := ⟨_, List.getElem?_eq_getElem (by rw [← e2.out]; exact hk)⟩
      replace hI := Lib.hid hI
      have he := eqG_list x y
      by_cases h1 : x = y
      · have hI2 := Lib.hid (pre_snoc hx hy hI.out h1)
        rw [decide_eq_true h1] at he
        replace h1 := Lib.hid h1
        repeat' (first | (with_reducible refine And.intro ?_ ?_) | (with_reducible refine gK_i (fun _ => ?_) (fun _ => ?_)) | (with_reducible refine condS_i (fun _ => ?_) (fun _ => ?_)) | (with_reducible refine drw_i (by kernel_rfl)) | simp -dsimp only [go_sem, ↓reduceIte, reduceCtorEq, Nat.reduceAdd, Nat.reduceMul, Nat.reduceSub, Nat.reduceLeDiff, Nat.reduceLT, Nat.reduceEqDiff, Int.reduceLE, Int.reduceLT, Int.reduceToNat, Int.reduceBEq, Int.reduceBNe, Int.reduceEq, Int.reduceAdd, Int.reduceSub, Int.reduceMul, Int.reduceNeg, Int.cast_ofNat_Int, *, encV, encG, hkI, hwr, hx, hy, he, bne, undef] | ((with_reducible refine opK_c ?_); simp -dsimp only [go_sem, ↓reduceIte, reduceCtorEq, Nat.reduceAdd, Nat.reduceMul, Nat.reduceSub, Nat.reduceLeDiff, Nat.reduceLT, Nat.reduceEqDiff, Int.reduceLE, Int.reduceLT, Int.reduceToNat, Int.reduceBEq, Int.reduceBNe, Int.reduceEq, Int.reduceAdd, Int.reduceSub, Int.reduceMul, Int.reduceNeg, Int.cast_ofNat_Int, encV, encG, hkI, hwr, hx, hy, he, bne, undef]; first | refine callK_r (by first | assumption | fail) (by first | exact .inl rfl | exact .inr rfl) ?_ | (refine callK_i (by assumption) ?_ ?_ ?_; (solve | (repeat (first | exact DLe.refl _ | exact DLe.nil _ | (refine DLe.tup ?_) | (refine DLe.agg ?_ rfl) | exact trivial | (refine And.intro ?_ ?_)))); (solve | exact .inl rfl | exact .inr rfl))) | fail | omega | exact decide_eq_true (by omega) | exact DLe.refl _)
        exact hC _ _ hI2.out (weak_forget _ (by simp) (by (try simp only [encV]); rfl) (by (repeat' (first | exact trivial | (refine ⟨rfl, ?_⟩)))) (by first | rfl | simp only [belowH, belowE, belowC, belowL, belowR, belowP, belowL_d, belowR_d, List.length_cons, List.length_nil, Nat.reduceAdd, Nat.reduceLT, decide_true, Bool.and_self, Bool.and_true]) (by first | rfl | simp only [belowH, belowE, belowC, belowL, belowR, belowP, belowL_d, belowR_d, List.length_cons, List.length_nil, Nat.reduceAdd, Nat.reduceLT, decide_true, Bool.and_self, Bool.and_true]))
      · have hb : R = false := hno.out (fun e => h1 (by subst e; rw [hx] at hy; exact Option.some.inj hy))
        rw [decide_eq_false h1] at he
        rw [hb]
        replace hb := Lib.hid hb
        replace h1 := Lib.hid h1
        repeat' (first | (with_reducible refine And.intro ?_ ?_) | (with_reducible refine gK_i (fun _ => ?_) (fun _ => ?_)) | (with_reducible refine condS_i (fun _ => ?_) (fun _ => ?_)) | (with_reducible refine drw_i (by kernel_rfl)) | simp -dsimp only [go_sem, ↓reduceIte, reduceCtorEq, Nat.reduceAdd, Nat.reduceMul, Nat.reduceSub, Nat.reduceLeDiff, Nat.reduceLT, Nat.reduceEqDiff, Int.reduceLE, Int.reduceLT, Int.reduceToNat, Int.reduceBEq, Int.reduceBNe, Int.reduceEq, Int.reduceAdd, Int.reduceSub, Int.reduceMul, Int.reduceNeg, Int.cast_ofNat_Int, *, encV, encG, hkI, hwr, hx, hy, he, bne, undef] | ((with_reducible refine opK_c ?_); simp -dsimp only [go_sem, ↓reduceIte, reduceCtorEq, Nat.reduceAdd, Nat.reduceMul, Nat.reduceSub, Nat.reduceLeDiff, Nat.reduceLT, Nat.reduceEqDiff, Int.reduceLE, Int.reduceLT, Int.reduceToNat, Int.reduceBEq, Int.reduceBNe, Int.reduceEq, Int.reduceAdd, Int.reduceSub, Int.reduceMul, Int.reduceNeg, Int.cast_ofNat_Int, encV, encG, hkI, hwr, hx, hy, he, bne, undef]; first | refine callK_r (by first | assumption | fail) (by first | exact .inl rfl | exact .inr rfl) ?_ | (refine callK_i (by assumption) ?_ ?_ ?_; (solve | (repeat (first | exact DLe.refl _ | exact DLe.nil _ | (refine DLe.tup ?_) | (refine DLe.agg ?_ rfl) | exact trivial | (refine And.intro ?_ ?_)))); (solve | exact .inl rfl | exact .inr rfl))) | fail | omega | exact decide_eq_true (by omega) | exact DLe.refl _)
        all_goals exact DLe.refl _
    · intro hI C
      have hrr := Lib.hid (pre_full e2.out hI)
      replace hI := Lib.hid hI
      repeat' (first | (with_reducible refine And.intro ?_ ?_) | (with_reducible refine gK_i (fun _ => ?_) (fun _ => ?_)) | (with_reducible refine condS_i (fun _ => ?_) (fun _ => ?_)) | (with_reducible refine drw_i (by kernel_rfl)) | simp -dsimp only [go_sem, ↓reduceIte, reduceCtorEq, Nat.reduceAdd, Nat.reduceMul, Nat.reduceSub, Nat.reduceLeDiff, Nat.reduceLT, Nat.reduceEqDiff, Int.reduceLE, Int.reduceLT, Int.reduceToNat, Int.reduceBEq, Int.reduceBNe, Int.reduceEq, Int.reduceAdd, Int.reduceSub, Int.reduceMul, Int.reduceNeg, Int.cast_ofNat_Int, *, encV, Int.lt_irrefl, undef] | ((with_reducible refine opK_c ?_); simp -dsimp only [go_sem, ↓reduceIte, reduceCtorEq, Nat.reduceAdd, Nat.reduceMul, Nat.reduceSub, Nat.reduceLeDiff, Nat.reduceLT, Nat.reduceEqDiff, Int.reduceLE, Int.reduceLT, Int.reduceToNat, Int.reduceBEq, Int.reduceBNe, Int.reduceEq, Int.reduceAdd, Int.reduceSub, Int.reduceMul, Int.reduceNeg, Int.cast_ofNat_Int, encV, Int.lt_irrefl, undef]; first | refine callK_r (by first | assumption | fail) (by first | exact .inl rfl | exact .inr rfl) ?_ | (refine callK_i (by assumption) ?_ ?_ ?_; (solve | (repeat (first | exact DLe.refl _ | exact DLe.nil _ | (refine DLe.tup ?_) | (refine DLe.agg ?_ rfl) | exact trivial | (refine And.intro ?_ ?_)))); (solve | exact .inl rfl | exact .inr rfl))) | fail | omega | exact decide_eq_true (by omega) | exact DLe.refl _)
      clear hI
      refine loopL tab_ok mixed v.subs (fun k => v.subs.take k = w.subs.take k) (fun k => [(6, .d (.v (.int .i64 k))), (4, .d (.v (.bool false))), (3, .ptr 1 0), (2, .ptr 0 0)]) (fun _ => [.box 25 ((encV v).map .d), .box 25 ((encV w).map .d)]) rfl (weak_forget _ (by simp) (by (try simp only [encV]); rfl) (by (repeat' (first | exact trivial | (refine ⟨rfl, ?_⟩)))) (by first | rfl | simp only [belowH, belowE, belowC, belowL, belowR, belowP, belowL_d, belowR_d, List.length_cons, List.length_nil, Nat.reduceAdd, Nat.reduceLT, decide_true, Bool.and_self, Bool.and_true]) (by first | rfl | simp only [belowH, belowE, belowC, belowL, belowR, belowP, belowL_d, belowR_d, List.length_cons, List.length_nil, Nat.reduceAdd, Nat.reduceLT, decide_true, Bool.and_self, Bool.and_true])) ?_ ?_
      · intro k x hx hk hI C hC
        have hkI : (k : Int) < (v.subs.length : Int) := by omega
        have hwr : IntKind.i64.wrap ((k : Int) + 1) = ((k + 1 : Nat) : Int) := by rw [IntKind.wrap_i64]; omega
        obtain ⟨y, hy⟩ : ∃ y, w.subs[k]? = some y := ⟨_, List.getElem?_eq_getElem (by rw [← e3.out]; exact hk)⟩
        have hxl := hv3.out x (List.mem_of_getElem? hx)
        have hyl := hw3.out y (List.mem_of_getElem? hy)
        have hxl1 := hxl.1
        have hxl2 := Lib.hid hxl.2
        clear hxl
        replace hyl := Lib.hid hyl
        have hbad : x ≠ y → R = false := fun h => hno.out (fun e => h (by subst e; rw [hx] at hy; exact Option.some.inj hy))
        replace hbad := Lib.hid hbad
        replace hI := Lib.hid hI
        have he := eqP_list x.at_ y.at_
        by_cases c2 : x.id = y.id ∧ x.at_ = y.at_ ∧ x.faces.length = y.faces.length
        · obtain ⟨f1, f2, f3⟩ := c2
          have g1 : (x.id == y.id) = true := by simp [f1]
          have g3 : ((x.faces.length : Int) == (y.faces.length : Int)) = true := by simp [f3]
          rw [decide_eq_true f2] at he
          replace f1 := Lib.hid f1
          replace f2 := Lib.hid f2
          replace f3 := Lib.hid f3
          repeat' (first | (with_reducible refine And.intro ?_ ?_) | (with_reducible refine gK_i (fun _ => ?_) (fun _ => ?_)) | (with_reducible refine condS_i (fun _ => ?_) (fun _ => ?_)) | (with_reducible refine drw_i (by kernel_rfl)) | simp -dsimp only [go_sem, ↓reduceIte, reduceCtorEq, Nat.reduceAdd, Nat.reduceMul, Nat.reduceSub, Nat.reduceLeDiff, Nat.reduceLT, Nat.reduceEqDiff, Int.reduceLE, Int.reduceLT, Int.reduceToNat, Int.reduceBEq, Int.reduceBNe, Int.reduceEq, Int.reduceAdd, Int.reduceSub, Int.reduceMul, Int.reduceNeg, Int.cast_ofNat_Int, *, encV, encN, hkI, hx, hy, he, g1, g3, bne, undef] | ((with_reducible refine opK_c ?_); simp -dsimp only [go_sem, ↓reduceIte, reduceCtorEq, Nat.reduceAdd, Nat.reduceMul, Nat.reduceSub, Nat.reduceLeDiff, Nat.reduceLT, Nat.reduceEqDiff, Int.reduceLE, Int.reduceLT, Int.reduceToNat, Int.reduceBEq, Int.reduceBNe, Int.reduceEq, Int.reduceAdd, Int.reduceSub, Int.reduceMul, Int.reduceNeg, Int.cast_ofNat_Int, encV, encN, hkI, hx, hy, he, g1, g3, bne, undef]; first | refine callK_r (by first | assumption | fail) (by first | exact .inl rfl | exact .inr rfl) ?_ | (refine callK_i (by assumption) ?_ ?_ ?_; (solve | (repeat (first | exact DLe.refl _ | exact DLe.nil _ | (refine DLe.tup ?_) | (refine DLe.agg ?_ rfl) | exact trivial | (refine And.intro ?_ ?_)))); (solve | exact .inl rfl | exact .inr rfl))) | fail | omega | exact decide_eq_true (by omega) | exact DLe.refl _)
          refine loopL tab_ok mixed x.faces (fun j => x.faces.take j = y.faces.take j) (fun j => [(9, .d (.v (.int .i64 j))), (8, .ptr 3 0), (7, .ptr 2 0), (6, .d (.v (.int .i64 k))), (4, .d (.v (.bool false))), (3, .ptr 1 0), (2, .ptr 0 0)]) (fun _ => [.box 25 ((encV v).map .d), .box 25 ((encV w).map .d), .box 62 ((encN x).map .d), .box 62 ((encN y).map .d)]) rfl (weak_forget _ (by simp) (by (try simp only [encV, encN]); rfl) (by (repeat' (first | exact trivial | (refine ⟨rfl, ?_⟩)))) (by first | rfl | simp only [belowH, belowE, belowC, belowL, belowR, belowP, belowL_d, belowR_d, List.length_cons, List.length_nil, Nat.reduceAdd, Nat.reduceLT, decide_true, Bool.and_self, Bool.and_true]) (by first | rfl | simp only [belowH, belowE, belowC, belowL, belowR, belowP, belowL_d, belowR_d, List.length_cons, List.length_nil, Nat.reduceAdd, Nat.reduceLT, decide_true, Bool.and_self, Bool.and_true])) ?_ ?_
          · intro j f hf hj hJ C2 hC2
            have hjI : (j : Int) < (x.faces.length : Int) := by omega
            have hwj : IntKind.i64.wrap ((j : Int) + 1) = ((j + 1 : Nat) : Int) := by rw [IntKind.wrap_i64]; omega
            obtain ⟨g, hg⟩ : ∃ g, y.faces[j]? = some g := ⟨_, List.getElem?_eq_getElem (by rw [← f3.out]; exact hj)⟩
            have hsi := sameInts_p f.addrs g.addrs (hxl2.out f (List.mem_of_getElem? hf)) (hyl.out g (List.mem_of_getElem? hg))
            have hbf : f ≠ g → R = false := fun h => hbad.out (fun e => h (by subst e; rw [hf] at hg; exact Option.some.inj hg))
            replace hbf := Lib.hid hbf
            replace hJ := Lib.hid hJ
            by_cases i1 : f.id = g.id
            · have n1 : (f.id == g.id) = true := by simp [i1]
              by_cases i2 : f.addrs = g.addrs
              · rw [decide_eq_true i2] at hsi
                have hfg : f = g := by cases f; cases g; simp at i1 i2; rw [i1, i2]
                have hJ2 := Lib.hid (pre_snoc hf hg hJ.out hfg)
                replace hfg := Lib.hid hfg
                replace i1 := Lib.hid i1
                replace i2 := Lib.hid i2
                repeat' (first | (with_reducible refine And.intro ?_ ?_) | (with_reducible refine gK_i (fun _ => ?_) (fun _ => ?_)) | (with_reducible refine condS_i (fun _ => ?_) (fun _ => ?_)) | (with_reducible refine drw_i (by kernel_rfl)) | simp -dsimp only [go_sem, ↓reduceIte, reduceCtorEq, Nat.reduceAdd, Nat.reduceMul, Nat.reduceSub, Nat.reduceLeDiff, Nat.reduceLT, Nat.reduceEqDiff, Int.reduceLE, Int.reduceLT, Int.reduceToNat, Int.reduceBEq, Int.reduceBNe, Int.reduceEq, Int.reduceAdd, Int.reduceSub, Int.reduceMul, Int.reduceNeg, Int.cast_ofNat_Int, *, encV, encN, encF, hjI, hwj, hf, hg, n1, bne, undef] | ((with_reducible refine opK_c ?_); simp -dsimp only [go_sem, ↓reduceIte, reduceCtorEq, Nat.reduceAdd, Nat.reduceMul, Nat.reduceSub, Nat.reduceLeDiff, Nat.reduceLT, Nat.reduceEqDiff, Int.reduceLE, Int.reduceLT, Int.reduceToNat, Int.reduceBEq, Int.reduceBNe, Int.reduceEq, Int.reduceAdd, Int.reduceSub, Int.reduceMul, Int.reduceNeg, Int.cast_ofNat_Int, encV, encN, encF, hjI, hwj, hf, hg, n1, bne, undef]; first | refine callK_r (by first | assumption | exact hsi) (by first | exact .inl rfl | exact .inr rfl) ?_ | (refine callK_i (by assumption) ?_ ?_ ?_; (solve | (repeat (first | exact DLe.refl _ | exact DLe.nil _ | (refine DLe.tup ?_) | (refine DLe.agg ?_ rfl) | exact trivial | (refine And.intro ?_ ?_)))); (solve | exact .inl rfl | exact .inr rfl))) | fail | omega | exact decide_eq_true (by omega) | exact DLe.refl _)
                exact hC2 _ _ hJ2.out (weak_forget _ (by simp) (by (try simp only [encV, encN]); rfl) (by (repeat' (first | exact trivial | (refine ⟨rfl, ?_⟩)))) (by first | rfl | simp only [belowH, belowE, belowC, belowL, belowR, belowP, belowL_d, belowR_d, List.length_cons, List.length_nil, Nat.reduceAdd, Nat.reduceLT, decide_true, Bool.and_self, Bool.and_true]) (by first | rfl | simp only [belowH, belowE, belowC, belowL, belowR, belowP, belowL_d, belowR_d, List.length_cons, List.length_nil, Nat.reduceAdd, Nat.reduceLT, decide_true, Bool.and_self, Bool.and_true]))
              · rw [decide_eq_false i2] at hsi
                have hb : R = false := hbf.out (fun e => i2 (by rw [e]))
                rw [hb]
                replace hb := Lib.hid hb
                replace i1 := Lib.hid i1
                replace i2 := Lib.hid i2
                repeat' (first | (with_reducible refine And.intro ?_ ?_) | (with_reducible refine gK_i (fun _ => ?_) (fun _ => ?_)) | (with_reducible refine condS_i (fun _ => ?_) (fun _ => ?_)) | (with_reducible refine drw_i (by kernel_rfl)) | simp -dsimp only [go_sem, ↓reduceIte, reduceCtorEq, Nat.reduceAdd, Nat.reduceMul, Nat.reduceSub, Nat.reduceLeDiff, Nat.reduceLT, Nat.reduceEqDiff, Int.reduceLE, Int.reduceLT, Int.reduceToNat, Int.reduceBEq, Int.reduceBNe, Int.reduceEq, Int.reduceAdd, Int.reduceSub, Int.reduceMul, Int.reduceNeg, Int.cast_ofNat_Int, *, encV, encN, encF, hjI, hwj, hf, hg, n1, bne, undef] | ((with_reducible refine opK_c ?_); simp -dsimp only [go_sem, ↓reduceIte, reduceCtorEq, Nat.reduceAdd, Nat.reduceMul, Nat.reduceSub, Nat.reduceLeDiff, Nat.reduceLT, Nat.reduceEqDiff, Int.reduceLE, Int.reduceLT, Int.reduceToNat, Int.reduceBEq, Int.reduceBNe, Int.reduceEq, Int.reduceAdd, Int.reduceSub, Int.reduceMul, Int.reduceNeg, Int.cast_ofNat_Int, encV, encN, encF, hjI, hwj, hf, hg, n1, bne, undef]; first | refine callK_r (by first | assumption | exact hsi) (by first | exact .inl rfl | exact .inr rfl) ?_ | (refine callK_i (by assumption) ?_ ?_ ?_; (solve | (repeat (first | exact DLe.refl _ | exact DLe.nil _ | (refine DLe.tup ?_) | (refine DLe.agg ?_ rfl) | exact trivial | (refine And.intro ?_ ?_)))); (solve | exact .inl rfl | exact .inr rfl))) | fail | omega | exact decide_eq_true (by omega) | exact DLe.refl _)
                all_goals exact DLe.refl _
            · have n1 : (f.id == g.id) = false := by simpa using i1
              have hb : R = false := hbf.out (fun e => i1 (by rw [e]))
              rw [hb]
              replace hb := Lib.hid hb
              replace i1 := Lib.hid i1
              repeat' (first | (with_reducible refine And.intro ?_ ?_) | (with_reducible refine gK_i (fun _ => ?_) (fun _ => ?_)) | (with_reducible refine condS_i (fun _ => ?_) (fun _ => ?_)) | (with_reducible refine drw_i (by kernel_rfl)) | simp -dsimp only [go_sem, ↓reduceIte, reduceCtorEq, Nat.reduceAdd, Nat.reduceMul, Nat.reduceSub, Nat.reduceLeDiff, Nat.reduceLT, Nat.reduceEqDiff, Int.reduceLE, Int.reduceLT, Int.reduceToNat, Int.reduceBEq, Int.reduceBNe, Int.reduceEq, Int.reduceAdd, Int.reduceSub, Int.reduceMul, Int.reduceNeg, Int.cast_ofNat_Int, *, encV, encN, encF, hjI, hwj, hf, hg, n1, bne, undef] | ((with_reducible refine opK_c ?_); simp -dsimp only [go_sem, ↓reduceIte, reduceCtorEq, Nat.reduceAdd, Nat.reduceMul, Nat.reduceSub, Nat.reduceLeDiff, Nat.reduceLT, Nat.reduceEqDiff, Int.reduceLE, Int.reduceLT, Int.reduceToNat, Int.reduceBEq, Int.reduceBNe, Int.reduceEq, Int.reduceAdd, Int.reduceSub, Int.reduceMul, Int.reduceNeg, Int.cast_ofNat_Int, encV, encN, encF, hjI, hwj, hf, hg, n1, bne, undef]; first | refine callK_r (by first | assumption | exact hsi) (by first | exact .inl rfl | exact .inr rfl) ?_ | (refine callK_i (by assumption) ?_ ?_ ?_; (solve | (repeat (first | exact DLe.refl _ | exact DLe.nil _ | (refine DLe.tup ?_) | (refine DLe.agg ?_ rfl) | exact trivial | (refine And.intro ?_ ?_)))); (solve | exact .inl rfl | exact .inr rfl))) | fail | omega | exact decide_eq_true (by omega) | exact DLe.refl _)
              all_goals exact DLe.refl _
          · intro hJ C2
            have hff := pre_full f3.out hJ
            have hxy : x = y := by
              have h1 := f1.out; have h2 := f2.out
              cases x; cases y; simp at h1 h2 hff; rw [h1, h2, hff]
            have hI2 := Lib.hid (pre_snoc hx hy hI.out hxy)
            replace hJ := Lib.hid hJ
            replace hff := Lib.hid hff
            replace hxy := Lib.hid hxy
            repeat' (first | (with_reducible refine And.intro ?_ ?_) | (with_reducible refine gK_i (fun _ => ?_) (fun _ => ?_)) | (with_reducible refine condS_i (fun _ => ?_) (fun _ => ?_)) | (with_reducible refine drw_i (by kernel_rfl)) | simp -dsimp only [go_sem, ↓reduceIte, reduceCtorEq, Nat.reduceAdd, Nat.reduceMul, Nat.reduceSub, Nat.reduceLeDiff, Nat.reduceLT, Nat.reduceEqDiff, Int.reduceLE, Int.reduceLT, Int.reduceToNat, Int.reduceBEq, Int.reduceBNe, Int.reduceEq, Int.reduceAdd, Int.reduceSub, Int.reduceMul, Int.reduceNeg, Int.cast_ofNat_Int, *, encV, encN, hwr, Int.lt_irrefl, undef] | ((with_reducible refine opK_c ?_); simp -dsimp only [go_sem, ↓reduceIte, reduceCtorEq, Nat.reduceAdd, Nat.reduceMul, Nat.reduceSub, Nat.reduceLeDiff, Nat.reduceLT, Nat.reduceEqDiff, Int.reduceLE, Int.reduceLT, Int.reduceToNat, Int.reduceBEq, Int.reduceBNe, Int.reduceEq, Int.reduceAdd, Int.reduceSub, Int.reduceMul, Int.reduceNeg, Int.cast_ofNat_Int, encV, encN, hwr, Int.lt_irrefl, undef]; first | refine callK_r (by first | assumption | fail) (by first | exact .inl rfl | exact .inr rfl) ?_ | (refine callK_i (by assumption) ?_ ?_ ?_; (solve | (repeat (first | exact DLe.refl _ | exact DLe.nil _ | (refine DLe.tup ?_) | (refine DLe.agg ?_ rfl) | exact trivial | (refine And.intro ?_ ?_)))); (solve | exact .inl rfl | exact .inr rfl))) | fail | omega | exact decide_eq_true (by omega) | exact DLe.refl _)
            exact hC _ _ hI2.out (weak_forget _ (by simp) (by (try simp only [encV]); rfl) (by (repeat' (first | exact trivial | (refine ⟨rfl, ?_⟩)))) (by first | rfl | simp only [belowH, belowE, belowC, belowL, belowR, belowP, belowL_d, belowR_d, List.length_cons, List.length_nil, Nat.reduceAdd, Nat.reduceLT, decide_true, Bool.and_self, Bool.and_true]) (by first | rfl | simp only [belowH, belowE, belowC, belowL, belowR, belowP, belowL_d, belowR_d, List.length_cons, List.length_nil, Nat.reduceAdd, Nat.reduceLT, decide_true, Bool.and_self, Bool.and_true]))
        · have hb : R = false := hbad.out (fun e => c2 ⟨by rw [e], by rw [e], by rw [e]⟩)
          rw [hb]
          replace hb := Lib.hid hb
          rw [Decidable.not_and_iff_or_not, Decidable.not_and_iff_or_not] at c2
          rcases c2 with c2 | c2 | c2
          · have g1 : (x.id == y.id) = false := by simpa using c2
            replace c2 := Lib.hid c2
            repeat' (first | (with_reducible refine And.intro ?_ ?_) | (with_reducible refine gK_i (fun _ => ?_) (fun _ => ?_)) | (with_reducible refine condS_i (fun _ => ?_) (fun _ => ?_)) | (with_reducible refine drw_i (by kernel_rfl)) | simp -dsimp only [go_sem, ↓reduceIte, reduceCtorEq, Nat.reduceAdd, Nat.reduceMul, Nat.reduceSub, Nat.reduceLeDiff, Nat.reduceLT, Nat.reduceEqDiff, Int.reduceLE, Int.reduceLT, Int.reduceToNat, Int.reduceBEq, Int.reduceBNe, Int.reduceEq, Int.reduceAdd, Int.reduceSub, Int.reduceMul, Int.reduceNeg, Int.cast_ofNat_Int, *, encV, encN, hkI, hx, hy, g1, bne, undef] | ((with_reducible refine opK_c ?_); simp -dsimp only [go_sem, ↓reduceIte, reduceCtorEq, Nat.reduceAdd, Nat.reduceMul, Nat.reduceSub, Nat.reduceLeDiff, Nat.reduceLT, Nat.reduceEqDiff, Int.reduceLE, Int.reduceLT, Int.reduceToNat, Int.reduceBEq, Int.reduceBNe, Int.reduceEq, Int.reduceAdd, Int.reduceSub, Int.reduceMul, Int.reduceNeg, Int.cast_ofNat_Int, encV, encN, hkI, hx, hy, g1, bne, undef]; first | refine callK_r (by first | assumption | fail) (by first | exact .inl rfl | exact .inr rfl) ?_ | (refine callK_i (by assumption) ?_ ?_ ?_; (solve | (repeat (first | exact DLe.refl _ | exact DLe.nil _ | (refine DLe.tup ?_) | (refine DLe.agg ?_ rfl) | exact trivial | (refine And.intro ?_ ?_)))); (solve | exact .inl rfl | exact .inr rfl))) | fail | omega | exact decide_eq_true (by omega) | exact DLe.refl _)
            all_goals exact DLe.refl _
          · rw [decide_eq_false c2] at he
            replace c2 := Lib.hid c2
            repeat' (first | (with_reducible refine And.intro ?_ ?_) | (with_reducible refine gK_i (fun _ => ?_) (fun _ => ?_)) | (with_reducible refine condS_i (fun _ => ?_) (fun _ => ?_)) | (with_reducible refine drw_i (by kernel_rfl)) | simp -dsimp only [go_sem, ↓reduceIte, reduceCtorEq, Nat.reduceAdd, Nat.reduceMul, Nat.reduceSub, Nat.reduceLeDiff, Nat.reduceLT, Nat.reduceEqDiff, Int.reduceLE, Int.reduceLT, Int.reduceToNat, Int.reduceBEq, Int.reduceBNe, Int.reduceEq, Int.reduceAdd, Int.reduceSub, Int.reduceMul, Int.reduceNeg, Int.cast_ofNat_Int, *, encV, encN, hkI, hx, hy, he, bne, undef] | ((with_reducible refine opK_c ?_); simp -dsimp only [go_sem, ↓reduceIte, reduceCtorEq, Nat.reduceAdd, Nat.reduceMul, Nat.reduceSub, Nat.reduceLeDiff, Nat.reduceLT, Nat.reduceEqDiff, Int.reduceLE, Int.reduceLT, Int.reduceToNat, Int.reduceBEq, Int.reduceBNe, Int.reduceEq, Int.reduceAdd, Int.reduceSub, Int.reduceMul, Int.reduceNeg, Int.cast_ofNat_Int, encV, encN, hkI, hx, hy, he, bne, undef]; first | refine callK_r (by first | assumption | fail) (by first | exact .inl rfl | exact .inr rfl) ?_ | (refine callK_i (by assumption) ?_ ?_ ?_; (solve | (repeat (first | exact DLe.refl _ | exact DLe.nil _ | (refine DLe.tup ?_) | (refine DLe.agg ?_ rfl) | exact trivial | (refine And.intro ?_ ?_)))); (solve | exact .inl rfl | exact .inr rfl))) | fail | omega | exact decide_eq_true (by omega) | exact DLe.refl _)
            all_goals exact DLe.refl _
          · have g3 : ((x.faces.length : Int) == (y.faces.length : Int)) = false := by simp; omega
            replace c2 := Lib.hid c2
            cases hd : decide (x.at_ = y.at_)
            all_goals
              rw [hd] at he
              replace hd := Lib.hid hd
              repeat' (first | (with_reducible refine And.intro ?_ ?_) | (with_reducible refine gK_i (fun _ => ?_) (fun _ => ?_)) | (with_reducible refine condS_i (fun _ => ?_) (fun _ => ?_)) | (with_reducible refine drw_i (by kernel_rfl)) | simp -dsimp only [go_sem, ↓reduceIte, reduceCtorEq, Nat.reduceAdd, Nat.reduceMul, Nat.reduceSub, Nat.reduceLeDiff, Nat.reduceLT, Nat.reduceEqDiff, Int.reduceLE, Int.reduceLT, Int.reduceToNat, Int.reduceBEq, Int.reduceBNe, Int.reduceEq, Int.reduceAdd, Int.reduceSub, Int.reduceMul, Int.reduceNeg, Int.cast_ofNat_Int, *, encV, encN, hkI, hx, hy, he, g3, bne, undef] | ((with_reducible refine opK_c ?_); simp -dsimp only [go_sem, ↓reduceIte, reduceCtorEq, Nat.reduceAdd, Nat.reduceMul, Nat.reduceSub, Nat.reduceLeDiff, Nat.reduceLT, Nat.reduceEqDiff, Int.reduceLE, Int.reduceLT, Int.reduceToNat, Int.reduceBEq, Int.reduceBNe, Int.reduceEq, Int.reduceAdd, Int.reduceSub, Int.reduceMul, Int.reduceNeg, Int.cast_ofNat_Int, encV, encN, hkI, hx, hy, he, g3, bne, undef]; first | refine callK_r (by first | assumption | fail) (by first | exact .inl rfl | exact .inr rfl) ?_ | (refine callK_i (by assumption) ?_ ?_ ?_; (solve | (repeat (first | exact DLe.refl _ | exact DLe.nil _ | (refine DLe.tup ?_) | (refine DLe.agg ?_ rfl) | exact trivial | (refine And.intro ?_ ?_)))); (solve | exact .inl rfl | exact .inr rfl))) | fail | omega | exact decide_eq_true (by omega) | exact DLe.refl _)
              all_goals exact DLe.refl _
      · intro hI C
        have hss := pre_full e3.out hI
        have hb : R = true := by
          rw [hR.out, decide_eq_true_eq]
          have h1 := e1.out; have h2 := hrr.out
          cases v; cases w; simp at h1 h2 hss; rw [h1, h2, hss]
        rw [hb]
        replace hb := Lib.hid hb
        replace hI := Lib.hid hI
        replace hss := Lib.hid hss
        repeat' (first | (with_reducible refine And.intro ?_ ?_) | (with_reducible refine gK_i (fun _ => ?_) (fun _ => ?_)) | (with_reducible refine condS_i (fun _ => ?_) (fun _ => ?_)) | (with_reducible refine drw_i (by kernel_rfl)) | simp -dsimp only [go_sem, ↓reduceIte, reduceCtorEq, Nat.reduceAdd, Nat.reduceMul, Nat.reduceSub, Nat.reduceLeDiff, Nat.reduceLT, Nat.reduceEqDiff, Int.reduceLE, Int.reduceLT, Int.reduceToNat, Int.reduceBEq, Int.reduceBNe, Int.reduceEq, Int.reduceAdd, Int.reduceSub, Int.reduceMul, Int.reduceNeg, Int.cast_ofNat_Int, *, encV, Int.lt_irrefl, undef] | ((with_reducible refine opK_c ?_); simp -dsimp only [go_sem, ↓reduceIte, reduceCtorEq, Nat.reduceAdd, Nat.reduceMul, Nat.reduceSub, Nat.reduceLeDiff, Nat.reduceLT, Nat.reduceEqDiff, Int.reduceLE, Int.reduceLT, Int.reduceToNat, Int.reduceBEq, Int.reduceBNe, Int.reduceEq, Int.reduceAdd, Int.reduceSub, Int.reduceMul, Int.reduceNeg, Int.cast_ofNat_Int, encV, Int.lt_irrefl, undef]; first | refine callK_r (by first | assumption | fail) (by first | exact .inl rfl | exact .inr rfl) ?_ | (refine callK_i (by assumption) ?_ ?_ ?_; (solve | (repeat (first | exact DLe.refl _ | exact DLe.nil _ | (refine DLe.tup ?_) | (refine DLe.agg ?_ rfl) | exact trivial | (refine And.intro ?_ ?_)))); (solve | exact .inl rfl | exact .inr rfl))) | fail | omega | exact decide_eq_true (by omega) | exact DLe.refl _)
        all_goals exact DLe.refl _
  · have hb : R = false := hno.out (fun e => c1 ⟨by rw [e], by rw [e], by rw [e]⟩)
    rw [hb]
    replace hb := Lib.hid hb
    rw [Decidable.not_and_iff_or_not, Decidable.not_and_iff_or_not] at c1
    rcases c1 with c1 | c1 | c1
    · have g1 : (v.id == w.id) = false := by simpa using c1
      replace c1 := Lib.hid c1
      refine ps_i tab_ok mixed Tryz.func14 rfl Tryz.ntmps14 Tryz.results14 (by kernel_rfl) ?_
      repeat' (first | (with_reducible refine And.intro ?_ ?_) | (with_reducible refine gK_i (fun _ => ?_) (fun _ => ?_)) | (with_reducible refine condS_i (fun _ => ?_) (fun _ => ?_)) | (with_reducible refine drw_i (by kernel_rfl)) | simp -dsimp only [go_sem, ↓reduceIte, reduceCtorEq, Nat.reduceAdd, Nat.reduceMul, Nat.reduceSub, Nat.reduceLeDiff, Nat.reduceLT, Nat.reduceEqDiff, Int.reduceLE, Int.reduceLT, Int.reduceToNat, Int.reduceBEq, Int.reduceBNe, Int.reduceEq, Int.reduceAdd, Int.reduceSub, Int.reduceMul, Int.reduceNeg, Int.cast_ofNat_Int, *, encV, g1, bne, undef] | ((with_reducible refine opK_c ?_); simp -dsimp only [go_sem, ↓reduceIte, reduceCtorEq, Nat.reduceAdd, Nat.reduceMul, Nat.reduceSub, Nat.reduceLeDiff, Nat.reduceLT, Nat.reduceEqDiff, Int.reduceLE, Int.reduceLT, Int.reduceToNat, Int.reduceBEq, Int.reduceBNe, Int.reduceEq, Int.reduceAdd, Int.reduceSub, Int.reduceMul, Int.reduceNeg, Int.cast_ofNat_Int, encV, g1, bne, undef]; first | refine callK_r (by first | assumption | fail) (by first | exact .inl rfl | exact .inr rfl) ?_ | (refine callK_i (by assumption) ?_ ?_ ?_; (solve | (repeat (first | exact DLe.refl _ | exact DLe.nil _ | (refine DLe.tup ?_) | (refine DLe.agg ?_ rfl) | exact trivial | (refine And.intro ?_ ?_)))); (solve | exact .inl rfl | exact .inr rfl))) | fail | omega | exact decide_eq_true (by omega) | exact DLe.refl _)
      all_goals exact DLe.refl _
    · have g1 : ((v.ranges.length : Int) == (w.ranges.length : Int)) = false := by simp; omega
      replace c1 := Lib.hid c1
      refine ps_i tab_ok mixed Tryz.func14 rfl Tryz.ntmps14 Tryz.results14 (by kernel_rfl) ?_
      repeat' (first | (with_reducible refine And.intro ?_ ?_) | (with_reducible refine gK_i (fun _ => ?_) (fun _ => ?_)) | (with_reducible refine condS_i (fun _ => ?_) (fun _ => ?_)) | (with_reducible refine drw_i (by kernel_rfl)) | simp -dsimp only [go_sem, ↓reduceIte, reduceCtorEq, Nat.reduceAdd, Nat.reduceMul, Nat.reduceSub, Nat.reduceLeDiff, Nat.reduceLT, Nat.reduceEqDiff, Int.reduceLE, Int.reduceLT, Int.reduceToNat, Int.reduceBEq, Int.reduceBNe, Int.reduceEq, Int.reduceAdd, Int.reduceSub, Int.reduceMul, Int.reduceNeg, Int.cast_ofNat_Int, *, encV, g1, bne, undef] | ((with_reducible refine opK_c ?_); simp -dsimp only [go_sem, ↓reduceIte, reduceCtorEq, Nat.reduceAdd, Nat.reduceMul, Nat.reduceSub, Nat.reduceLeDiff, Nat.reduceLT, Nat.reduceEqDiff, Int.reduceLE, Int.reduceLT, Int.reduceToNat, Int.reduceBEq, Int.reduceBNe, Int.reduceEq, Int.reduceAdd, Int.reduceSub, Int.reduceMul, Int.reduceNeg, Int.cast_ofNat_Int, encV, g1, bne, undef]; first | refine callK_r (by first | assumption | fail) (by first | exact .inl rfl | exact .inr rfl) ?_ | (refine callK_i (by assumption) ?_ ?_ ?_; (solve | (repeat (first | exact DLe.refl _ | exact DLe.nil _ | (refine DLe.tup ?_) | (refine DLe.agg ?_ rfl) | exact trivial | (refine And.intro ?_ ?_)))); (solve | exact .inl rfl | exact .inr rfl))) | fail | omega | exact decide_eq_true (by omega) | exact DLe.refl _)
      all_goals exact DLe.refl _
    · have g1 : ((v.subs.length : Int) == (w.subs.length : Int)) = false := by simp; omega
      replace c1 := Lib.hid c1
      refine ps_i tab_ok mixed Tryz.func14 rfl Tryz.ntmps14 Tryz.results14 (by kernel_rfl) ?_
      repeat' (first | (with_reducible refine And.intro ?_ ?_) | (with_reducible refine gK_i (fun _ => ?_) (fun _ => ?_)) | (with_reducible refine condS_i (fun _ => ?_) (fun _ => ?_)) | (with_reducible refine drw_i (by kernel_rfl)) | simp -dsimp only [go_sem, ↓reduceIte, reduceCtorEq, Nat.reduceAdd, Nat.reduceMul, Nat.reduceSub, Nat.reduceLeDiff, Nat.reduceLT, Nat.reduceEqDiff, Int.reduceLE, Int.reduceLT, Int.reduceToNat, Int.reduceBEq, Int.reduceBNe, Int.reduceEq, Int.reduceAdd, Int.reduceSub, Int.reduceMul, Int.reduceNeg, Int.cast_ofNat_Int, *, encV, g1, bne, undef] | ((with_reducible refine opK_c ?_); simp -dsimp only [go_sem, ↓reduceIte, reduceCtorEq, Nat.reduceAdd, Nat.reduceMul, Nat.reduceSub, Nat.reduceLeDiff, Nat.reduceLT, Nat.reduceEqDiff, Int.reduceLE, Int.reduceLT, Int.reduceToNat, Int.reduceBEq, Int.reduceBNe, Int.reduceEq, Int.reduceAdd, Int.reduceSub, Int.reduceMul, Int.reduceNeg, Int.cast_ofNat_Int, encV, g1, bne, undef]; first | refine callK_r (by first | assumption | fail) (by first | exact .inl rfl | exact .inr rfl) ?_ | (refine callK_i (by assumption) ?_ ?_ ?_; (solve | (repeat (first | exact DLe.refl _ | exact DLe.nil _ | (refine DLe.tup ?_) | (refine DLe.agg ?_ rfl) | exact trivial | (refine And.intro ?_ ?_)))); (solve | exact .inl rfl | exact .inr rfl))) | fail | omega | exact decide_eq_true (by omega) | exact DLe.refl _)
      all_goals exact DLe.refl _
end Go.Proofs.YtdcjeacphbfmjaaGreat
namespace Go.Proofs.YtdcjeacphbfmjaaGreat
open Go Go.RowKit
theorem del_rows {α : Type} {enc : α → List D} {l : List α} {i : Nat} (hi : i < l.length) : (setAt (dRows (l.map enc)) i (List.take (l.length - (i + 1)) (List.drop (i + 1) (dRows (l.map enc))))).length = l.length := by
  have := del_len (dRows (l.map enc)) i (i + 1) l.length (by rw [dRows_len, List.length_map]; exact hi) rfl (by rw [dRows_len, List.length_map])
  rw [dRows_len, List.length_map] at this
  exact this
theorem del_take {α : Type} {enc : α → List D} {l : List α} {i : Nat} (hi : i < l.length) : List.take (i + (l.length - (i + 1))) (setAt (dRows (l.map enc)) i (List.take (l.length - (i + 1)) (List.drop (i + 1) (dRows (l.map enc))))) = dRows ((l.eraseIdx i).map enc) := by
  have hL : (dRows (l.map enc)).length = l.length := by rw [dRows_len, List.length_map]
  have e1 : dRows ((l.eraseIdx i).map enc) = (dRows (l.map enc)).eraseIdx i := by rw [map_erase]; exact map_erase _ _ _
  rw [e1]
  generalize dRows (l.map enc) = L at *
  have e2 : List.take (l.length - (i + 1)) (List.drop (i + 1) L) = List.drop (i + 1) L := List.take_of_length_le (by rw [List.length_drop]; omega)
  rw [e2]
  unfold setAt
  rw [List.append_assoc, List.take_append, List.take_take, List.length_take]
  rw [show min (i + (l.length - (i + 1))) i = i by omega, show min i L.length = i by omega, show i + (l.length - (i + 1)) - i = (List.drop (i + 1) L).length by rw [List.length_drop]; omega]
  rw [List.take_left', List.eraseIdx_eq_take_drop_succ]
  rfl
set_option maxRecDepth 100000 in
set_option maxHeartbeats 2000000 in
theorem unfaceVpc_p (v : Vpc) (sub id : Int) (hl : v.subs.length ≤ 9223372036854775807) (hf : ∀ s ∈ v.subs, s.faces.length ≤ 9223372036854775807) : PSpec Tryz.prog 24 [.agg (encV v), .v (.int .i64 sub), .v (.int .i64 id)] (.tup [.agg (encV (unfaceV v sub id).1), .v (.int .i64 (unfaceV v sub id).2)]) := by
  obtain ⟨R, hR⟩ : ∃ R, R = unfaceV v sub id := ⟨_, rfl⟩
  rw [← hR]
  replace hR := Lib.hid hR
  have hck := checkVpc_p v hl hf
  clear hl hf
  by_cases hc : chkV v = 0
  · have hk := vpcOK_of hc
    have hn4 := hk.n4
    have hn6 := hk.n6
    have hat := subAt_p v sub (by omega)
    unfold idxI at hat
    have hR2 := hR.out
    unfold unfaceV at hR2
    rw [if_neg (by simpa using hc)] at hR2
    rw [hc] at hck
    clear hR hc
    have hm1 : decide ((-1 : Int) < 0) = true := rfl
    cases hf : v.subs.findIdx? (fun s => s.id == sub) with
    | none =>
      rw [hf] at hat hR2
      simp only at hat hR2
      rw [hR2]
      replace hR2 := Lib.hid hR2
      clear hk hf
      refine ps_i tab_ok mixed Tryz.func24 rfl Tryz.ntmps24 Tryz.results24 (by kernel_rfl) ?_
      repeat' (first | (with_reducible refine And.intro ?_ ?_) | (with_reducible refine gK_i (fun _ => ?_) (fun _ => ?_)) | (with_reducible refine condS_i (fun _ => ?_) (fun _ => ?_)) | (with_reducible refine drw_i (by kernel_rfl)) | simp -dsimp only [go_sem, ↓reduceIte, reduceCtorEq, Nat.reduceAdd, Nat.reduceMul, Nat.reduceSub, Nat.reduceLeDiff, Nat.reduceLT, Nat.reduceEqDiff, Int.reduceLE, Int.reduceLT, Int.reduceToNat, Int.reduceBEq, Int.reduceBNe, Int.reduceEq, Int.reduceAdd, Int.reduceSub, Int.reduceMul, Int.reduceNeg, Int.cast_ofNat_Int, *, encV, hm1, undef] | ((with_reducible refine opK_c ?_); simp -dsimp only [go_sem, ↓reduceIte, reduceCtorEq, Nat.reduceAdd, Nat.reduceMul, Nat.reduceSub, Nat.reduceLeDiff, Nat.reduceLT, Nat.reduceEqDiff, Int.reduceLE, Int.reduceLT, Int.reduceToNat, Int.reduceBEq, Int.reduceBNe, Int.reduceEq, Int.reduceAdd, Int.reduceSub, Int.reduceMul, Int.reduceNeg, Int.cast_ofNat_Int, encV, hm1, undef]; first | refine callK_r (by first | assumption | exact hck | exact hat) (by first | exact .inl rfl | exact .inr rfl) ?_ | (refine callK_i (by assumption) ?_ ?_ ?_; (solve | (repeat (first | exact DLe.refl _ | exact DLe.nil _ | (refine DLe.tup ?_) | (refine DLe.agg ?_ rfl) | exact trivial | (refine And.intro ?_ ?_)))); (solve | exact .inl rfl | exact .inr rfl))) | fail | omega | exact decide_eq_true (by omega) | exact DLe.refl _)
      all_goals exact (by repeat (first | exact DLe.refl _ | exact DLe.nil _ | (refine DLe.tup ?_) | (refine DLe.agg ?_ rfl) | exact trivial | (refine And.intro ?_ ?_)))
    | some i =>
      obtain ⟨pre, s, post, hv, hpl, -, hs⟩ := find_split hf
      have h8s := hk.n8 s (List.mem_of_getElem? hs)
      have hob := ownF_m v pre post s hv hk.n4 hk.n6 hk.n8
      have hfa := faceAt_p s id (by omega)
      unfold idxI at hfa
      have hi0 : decide ((i : Int) < 0) = false := by simp
      have hsl : v.subs.length = pre.length + 1 + post.length := by rw [hv]; simp; omega
      rw [hf] at hat hR2
      simp only [hs] at hat hR2
      clear hk hf
      cases hg : s.faces.findIdx? (fun f => f.id == id) with
      | none =>
        rw [hg] at hfa hR2
        simp only at hfa hR2
        rw [hR2]
        replace hR2 := Lib.hid hR2
        clear hob
        replace hv := Lib.hid hv
        clear hg hpl hsl
        refine ps_i tab_ok mixed Tryz.func24 rfl Tryz.ntmps24 Tryz.results24 (by kernel_rfl) ?_
        repeat' (first | (with_reducible refine And.intro ?_ ?_) | (with_reducible refine gK_i (fun _ => ?_) (fun _ => ?_)) | (with_reducible refine condS_i (fun _ => ?_) (fun _ => ?_)) | (with_reducible refine drw_i (by kernel_rfl)) | simp -dsimp only [go_sem, ↓reduceIte, reduceCtorEq, Nat.reduceAdd, Nat.reduceMul, Nat.reduceSub, Nat.reduceLeDiff, Nat.reduceLT, Nat.reduceEqDiff, Int.reduceLE, Int.reduceLT, Int.reduceToNat, Int.reduceBEq, Int.reduceBNe, Int.reduceEq, Int.reduceAdd, Int.reduceSub, Int.reduceMul, Int.reduceNeg, Int.cast_ofNat_Int, *, encV, encN, hi0, hm1, hs, undef] | ((with_reducible refine opK_c ?_); simp -dsimp only [go_sem, ↓reduceIte, reduceCtorEq, Nat.reduceAdd, Nat.reduceMul, Nat.reduceSub, Nat.reduceLeDiff, Nat.reduceLT, Nat.reduceEqDiff, Int.reduceLE, Int.reduceLT, Int.reduceToNat, Int.reduceBEq, Int.reduceBNe, Int.reduceEq, Int.reduceAdd, Int.reduceSub, Int.reduceMul, Int.reduceNeg, Int.cast_ofNat_Int, encV, encN, hi0, hm1, hs, undef]; first | refine callK_r (by first | assumption | exact hck | exact hat | exact hfa) (by first | exact .inl rfl | exact .inr rfl) ?_ | (refine callK_i (by assumption) ?_ ?_ ?_; (solve | (repeat (first | exact DLe.refl _ | exact DLe.nil _ | (refine DLe.tup ?_) | (refine DLe.agg ?_ rfl) | exact trivial | (refine And.intro ?_ ?_)))); (solve | exact .inl rfl | exact .inr rfl))) | fail | omega | exact decide_eq_true (by omega) | exact DLe.refl _)
        all_goals exact (by repeat (first | exact DLe.refl _ | exact DLe.nil _ | (refine DLe.tup ?_) | (refine DLe.agg ?_ rfl) | exact trivial | (refine And.intro ?_ ?_)))
      | some k =>
        have hkl : k < s.faces.length := (List.findIdx?_eq_some_iff_getElem.1 hg).1
        rw [hg] at hfa hR2
        simp only at hfa hR2
        rw [show v.subs.set i { s with faces := s.faces.eraseIdx k } = pre ++ { s with faces := s.faces.eraseIdx k } :: post by
          rw [hv, ← hpl, List.set_append_right _ _ (Nat.le_refl _), Nat.sub_self, List.set_cons_zero]] at hR2
        have hk0 : decide ((k : Int) < 0) = false := by simp
        have hwr : IntKind.i64.wrap ((k : Int) + 1) = ((k + 1 : Nat) : Int) := by rw [IntKind.wrap_i64]; omega
        have hne : ¬ dRows (s.faces.map encF) = [] := by
          intro h
          have := congrArg List.length h
          rw [dRows_len, List.length_map, List.length_nil] at this
          omega
        have hx1 := del_rows (enc := encF) hkl
        have hx2 := del_take (enc := encF) hkl
        have hx3 : 0 < s.faces.length := by omega
        have hmin : min (s.faces.length - (k + 1)) (s.faces.length - (k + 1)) = s.faces.length - (k + 1) := Nat.min_self _
        have hlt : k + (s.faces.length - (k + 1)) ≤ s.faces.length := by omega
        rw [hR2]
        replace hR2 := Lib.hid hR2
        replace hv := Lib.hid hv
        subst hpl
        clear hg
        refine ps_i tab_ok mixed Tryz.func24 rfl Tryz.ntmps24 Tryz.results24 (by kernel_rfl) ?_
        repeat' (first | (with_reducible refine And.intro ?_ ?_) | (with_reducible refine gK_i (fun _ => ?_) (fun _ => ?_)) | (with_reducible refine condS_i (fun _ => ?_) (fun _ => ?_)) | (with_reducible refine drw_i (by kernel_rfl)) | simp -dsimp only [go_sem, ↓reduceIte, reduceCtorEq, Nat.reduceAdd, Nat.reduceMul, Nat.reduceSub, Nat.reduceLeDiff, Nat.reduceLT, Nat.reduceEqDiff, Int.reduceLE, Int.reduceLT, Int.reduceToNat, Int.reduceBEq, Int.reduceBNe, Int.reduceEq, Int.reduceAdd, Int.reduceSub, Int.reduceMul, Int.reduceNeg, Int.cast_ofNat_Int, *, encV, encN, subRow, renR_zipG, zipG_get, zipG_set, zipG_len, viewR_zipG, hi0, hk0, hs, hwr, hne, hx1, hx2, hx3, Nat.sub_zero, List.length_take, List.length_drop, undef] | ((with_reducible refine opK_c ?_); simp -dsimp only [go_sem, ↓reduceIte, reduceCtorEq, Nat.reduceAdd, Nat.reduceMul, Nat.reduceSub, Nat.reduceLeDiff, Nat.reduceLT, Nat.reduceEqDiff, Int.reduceLE, Int.reduceLT, Int.reduceToNat, Int.reduceBEq, Int.reduceBNe, Int.reduceEq, Int.reduceAdd, Int.reduceSub, Int.reduceMul, Int.reduceNeg, Int.cast_ofNat_Int, encV, encN, subRow, renR_zipG, zipG_get, zipG_set, zipG_len, viewR_zipG, hi0, hk0, hs, hwr, hne, hx1, hx2, hx3, Nat.sub_zero, List.length_take, List.length_drop, undef]; first | refine callK_r (by first | assumption | exact hck | exact hat | exact hfa) (by first | exact .inl rfl | exact .inr rfl) ?_ | (refine callK_i (by assumption) ?_ ?_ ?_; (solve | (repeat (first | exact DLe.refl _ | exact DLe.nil _ | (refine DLe.tup ?_) | (refine DLe.agg ?_ rfl) | exact trivial | (refine And.intro ?_ ?_)))); (solve | exact .inl rfl | exact .inr rfl))) | (refine opK_M [] (hob) ?_ ?_ ?_ ?_ ?_ ?_; (solve | rfl | simp only [go_sem, ↓reduceIte, reduceCtorEq, Nat.reduceAdd, Nat.reduceMul, Nat.reduceSub, Nat.reduceLeDiff, Nat.reduceLT, Nat.reduceEqDiff, Int.reduceLE, Int.reduceLT, Int.reduceToNat, Int.reduceBEq, Int.reduceBNe, Int.reduceEq, Int.reduceAdd, Int.reduceSub, Int.reduceMul, Int.reduceNeg, Int.cast_ofNat_Int, encV, subRow, renR_zipG]); (solve | rfl); (solve | decide); (solve | simp); (solve | simp only [go_sem, ↓reduceIte, reduceCtorEq, Nat.reduceAdd, Nat.reduceMul, Nat.reduceSub, Nat.reduceLeDiff, Nat.reduceLT, Nat.reduceEqDiff, Int.reduceLE, Int.reduceLT, Int.reduceToNat, Int.reduceBEq, Int.reduceBNe, Int.reduceEq, Int.reduceAdd, Int.reduceSub, Int.reduceMul, Int.reduceNeg, Int.cast_ofNat_Int, lentOK, encV, subRow, renR_zipG])) | omega | exact decide_eq_true (by omega) | exact DLe.refl _)
        all_goals (first | omega | (simp only [encV, encN, List.map_append, List.map_cons]; exact (by repeat (first | exact DLe.refl _ | exact DLe.nil _ | (refine DLe.tup ?_) | (refine DLe.agg ?_ rfl) | exact trivial | (refine And.intro ?_ ?_)))))
  · have h1 : (chkV v != 0) = true := by simpa using hc
    have hr : R = (Vpc.zero, chkV v) := by rw [hR.out]; unfold unfaceV; rw [if_pos hc]
    rw [hr]
    replace hr := Lib.hid hr
    clear hR
    refine ps_i tab_ok mixed Tryz.func24 rfl Tryz.ntmps24 Tryz.results24 (by kernel_rfl) ?_
    repeat' (first | (with_reducible refine And.intro ?_ ?_) | (with_reducible refine gK_i (fun _ => ?_) (fun _ => ?_)) | (with_reducible refine condS_i (fun _ => ?_) (fun _ => ?_)) | (with_reducible refine drw_i (by kernel_rfl)) | simp -dsimp only [go_sem, ↓reduceIte, reduceCtorEq, Nat.reduceAdd, Nat.reduceMul, Nat.reduceSub, Nat.reduceLeDiff, Nat.reduceLT, Nat.reduceEqDiff, Int.reduceLE, Int.reduceLT, Int.reduceToNat, Int.reduceBEq, Int.reduceBNe, Int.reduceEq, Int.reduceAdd, Int.reduceSub, Int.reduceMul, Int.reduceNeg, Int.cast_ofNat_Int, *, encV, h1] | ((with_reducible refine opK_c ?_); simp -dsimp only [go_sem, ↓reduceIte, reduceCtorEq, Nat.reduceAdd, Nat.reduceMul, Nat.reduceSub, Nat.reduceLeDiff, Nat.reduceLT, Nat.reduceEqDiff, Int.reduceLE, Int.reduceLT, Int.reduceToNat, Int.reduceBEq, Int.reduceBNe, Int.reduceEq, Int.reduceAdd, Int.reduceSub, Int.reduceMul, Int.reduceNeg, Int.cast_ofNat_Int, encV, h1]; first | refine callK_r (by first | assumption | exact hck) (by first | exact .inl rfl | exact .inr rfl) ?_ | (refine callK_i (by assumption) ?_ ?_ ?_; (solve | (repeat (first | exact DLe.refl _ | exact DLe.nil _ | (refine DLe.tup ?_) | (refine DLe.agg ?_ rfl) | exact trivial | (refine And.intro ?_ ?_)))); (solve | exact .inl rfl | exact .inr rfl))) | fail | omega | exact decide_eq_true (by omega) | exact DLe.refl _)
    exact (by repeat (first | exact DLe.refl _ | exact DLe.nil _ | (refine DLe.tup ?_) | (refine DLe.agg ?_ rfl) | exact trivial | (refine And.intro ?_ ?_)))
end Go.Proofs.YtdcjeacphbfmjaaGreat
namespace Go.Proofs.YtdcjeacphbfmjaaGreat
open Go Go.RowKit
def rdl : List (List D) → List (List D) → Prop
  | [], [] => True
  | r :: l, s :: m => dles r s ∧ rdl l m
  | _, _ => False
theorem rdl_at : ∀ {l m : List (List D)}, rdl l m → l.length = m.length ∧ ∀ (j : Nat) (a b : List D), l[j]? = some a → m[j]? = some b → dles a b
  | [], [], _ => ⟨rfl, fun j a b h => by simp at h⟩
  | [], _ :: _, h => h.elim
  | _ :: _, [], h => h.elim
  | r :: l, s :: m, ⟨h1, h2⟩ => by
    obtain ⟨q1, q2⟩ := rdl_at h2
    refine ⟨by simp [q1], fun j a b ha hb => ?_⟩
    cases j with
    | zero => simp at ha hb; subst ha; subst hb; exact h1
    | succ j => exact q2 j a b (by simpa using ha) (by simpa using hb)
theorem DLe.sl {sz : Nat} {l m : List (List D)} (h : rdl l m) (h1 : ∀ r ∈ m, ∀ d ∈ r, d.one = true) : DLe (.sl sz l) (.sl sz m) := fun M w v hr => by
  obtain ⟨q1, q2⟩ := rdl_at h
  cases hr with
  | nil _ ao cap hm =>
    have : m = [] := List.eq_nil_of_length_eq_zero (by rw [← q1]; rfl)
    subst this
    exact .nil sz ao cap hm
  | sl _ rows b off cap f hM hb hc hm hr _ hcell hrep =>
    rw [q1]
    have row : ∀ (i : Nat) (s : List D), m[i]? = some s → ∃ r, l[i]? = some r ∧ dles r s := fun i s hs => by
      obtain ⟨hlt, -⟩ := List.getElem?_eq_some_iff.1 hs
      exact ⟨l[i]'(by omega), List.getElem?_eq_getElem (by omega), q2 i _ s (List.getElem?_eq_getElem (by omega)) hs⟩
    refine .sl sz m b off cap f hM hb (by omega) hm (fun s hs => ?_) h1 (fun i j hi hj => hcell i j (by omega) hj) (fun i j s d hs hd => ?_)
    · obtain ⟨i, hi, rfl⟩ := List.mem_iff_getElem.1 hs
      obtain ⟨r, e1, e2⟩ := row i _ (List.getElem?_eq_getElem hi)
      rw [← (dles_at e2).1]
      exact hr r (List.mem_of_getElem? e1)
    · obtain ⟨r, e1, e2⟩ := row i s hs
      obtain ⟨p1, p2⟩ := dles_at e2
      obtain ⟨hlt, -⟩ := List.getElem?_eq_some_iff.1 hd
      exact p2 j _ d (List.getElem?_eq_getElem (by omega)) hd M w _ (hrep i j r _ e1 (List.getElem?_eq_getElem (by omega)))
end Go.Proofs.YtdcjeacphbfmjaaGreat
namespace Go.Proofs.YtdcjeacphbfmjaaGreat
open Go Go.RowKit
def vb0 : Vpc := ⟨3, [⟨⟨256, 10⟩, 7⟩], [⟨1, ⟨256, 13⟩, [⟨2, [257]⟩]⟩]⟩
def vb1 : Vpc := ⟨3, [⟨⟨256, 10⟩, 7⟩], [⟨1, ⟨256, 13⟩, [⟨1, [258]⟩, ⟨2, [257]⟩]⟩]⟩
def vb2 : Vpc := ⟨3, [⟨⟨256, 10⟩, 7⟩], [⟨1, ⟨256, 13⟩, [⟨1, [258]⟩, ⟨2, [257, 259]⟩]⟩]⟩
def vb3 : Vpc := ⟨3, [⟨⟨256, 10⟩, 7⟩], [⟨1, ⟨256, 13⟩, [⟨1, [258]⟩]⟩]⟩
def vb4 : Vpc := ⟨3, [⟨⟨256, 10⟩, 7⟩], [⟨1, ⟨256, 13⟩, [⟨1, [258]⟩]⟩, ⟨4, ⟨264, 13⟩, []⟩]⟩
def vb5 : Vpc := ⟨3, [⟨⟨256, 10⟩, 7⟩, ⟨⟨512, 16⟩, 1⟩], [⟨1, ⟨256, 13⟩, [⟨1, [258]⟩]⟩, ⟨4, ⟨264, 13⟩, []⟩]⟩
set_option maxRecDepth 100000 in
theorem vb_1 : faceV vb0 1 1 = (vb1, 258, 0) := by kernel_rfl
set_option maxRecDepth 100000 in
theorem vb_2 : moreV vb1 1 2 = (vb2, 259, 0) := by kernel_rfl
theorem vb_3 : unsubV vb2 1 = (Vpc.zero, 9) := by kernel_rfl
theorem vb_4 : unfaceV vb2 1 2 = (vb3, 0) := by kernel_rfl
theorem vb_5 : dropV vb2 ⟨256, 10⟩ = (Vpc.zero, Rng.zero, 9) := by kernel_rfl
theorem vb_6 : subV vb3 4 ⟨264, 13⟩ = (vb4, 0) := by kernel_rfl
theorem vb_7 : growV vb4 ⟨⟨512, 16⟩, 1⟩ = (vb5, 0) := by kernel_rfl
theorem vb_8 : chkV vb0 = 0 := by kernel_rfl
theorem house_p : PSpec Tryz.prog 46 [] (.agg (encV vb0)) := by
  refine ps_i tab_ok mixed Tryz.func46 rfl Tryz.ntmps46 Tryz.results46 (by kernel_rfl) ?_
  repeat' (first | (with_reducible refine And.intro ?_ ?_) | (with_reducible refine gK_i (fun _ => ?_) (fun _ => ?_)) | (with_reducible refine condS_i (fun _ => ?_) (fun _ => ?_)) | (with_reducible refine drw_i (by kernel_rfl)) | simp -dsimp only [go_sem, ↓reduceIte, reduceCtorEq, Nat.reduceAdd, Nat.reduceMul, Nat.reduceSub, Nat.reduceLeDiff, Nat.reduceLT, Nat.reduceEqDiff, Int.reduceLE, Int.reduceLT, Int.reduceToNat, Int.reduceBEq, Int.reduceBNe, Int.reduceEq, Int.reduceAdd, Int.reduceSub, Int.reduceMul, Int.reduceNeg, Int.cast_ofNat_Int, *, encV, encG, encN, encF, encA, vb0] | ((with_reducible refine opK_c ?_); simp -dsimp only [go_sem, ↓reduceIte, reduceCtorEq, Nat.reduceAdd, Nat.reduceMul, Nat.reduceSub, Nat.reduceLeDiff, Nat.reduceLT, Nat.reduceEqDiff, Int.reduceLE, Int.reduceLT, Int.reduceToNat, Int.reduceBEq, Int.reduceBNe, Int.reduceEq, Int.reduceAdd, Int.reduceSub, Int.reduceMul, Int.reduceNeg, Int.cast_ofNat_Int, encV, encG, encN, encF, encA, vb0]; first | refine callK_r (by first | assumption | fail) (by first | exact .inl rfl | exact .inr rfl) ?_ | (refine callK_i (by assumption) ?_ ?_ ?_; (solve | (repeat (first | exact DLe.refl _ | exact DLe.nil _ | (refine DLe.tup ?_) | (refine DLe.agg ?_ rfl) | exact trivial | (refine And.intro ?_ ?_)))); (solve | exact .inl rfl | exact .inr rfl))) | fail | omega | exact decide_eq_true (by omega) | exact DLe.refl _)
  all_goals exact (by repeat (first | exact DLe.refl _ | exact DLe.nil _ | (refine DLe.tup ?_) | (refine DLe.agg ?_ rfl) | exact trivial | (refine And.intro ?_ ?_)))
set_option maxRecDepth 100000 in
set_option maxHeartbeats 1000000 in
theorem vpcBegun_p : PSpec Tryz.prog 11 [] (.v (.bool true)) := by
  have h0 := house_p
  have h1 := vface_p vb0 1 1
  have h2 := more_p vb1 1 2
  have h3 := unsub_p vb2 1
  have h4 := unface_p vb2 1 2
  have h5 := vdrop_p vb2 ⟨256, 10⟩
  have h6 := vsub_p vb3 4 ⟨264, 13⟩
  have h7 := vgrow_p vb4 ⟨⟨512, 16⟩, 1⟩
  have h8 := vcheck_p vb0
  rw [vb_1] at h1
  rw [vb_2] at h2
  rw [vb_3] at h3
  rw [vb_4] at h4
  rw [vb_5] at h5
  rw [vb_6] at h6
  rw [vb_7] at h7
  rw [vb_8] at h8
  simp only [encV, encG, encN, encF, encA, encP, vb0, vb1, vb2, vb3, vb4, vb5, Vpc.zero, Rng.zero, List.map_nil, List.map_cons] at h0 h1 h2 h3 h4 h5 h6 h7 h8
  refine ps_i tab_ok mixed Tryz.func11 rfl Tryz.ntmps11 Tryz.results11 (by kernel_rfl) ?_
  repeat' (first | (with_reducible refine And.intro ?_ ?_) | (with_reducible refine gK_i (fun _ => ?_) (fun _ => ?_)) | (with_reducible refine condS_i (fun _ => ?_) (fun _ => ?_)) | (with_reducible refine drw_i (by kernel_rfl)) | simp -dsimp only [go_sem, ↓reduceIte, reduceCtorEq, Nat.reduceAdd, Nat.reduceMul, Nat.reduceSub, Nat.reduceLeDiff, Nat.reduceLT, Nat.reduceEqDiff, Int.reduceLE, Int.reduceLT, Int.reduceToNat, Int.reduceBEq, Int.reduceBNe, Int.reduceEq, Int.reduceAdd, Int.reduceSub, Int.reduceMul, Int.reduceNeg, Int.cast_ofNat_Int, *, undef] | ((with_reducible refine opK_c ?_); simp -dsimp only [go_sem, ↓reduceIte, reduceCtorEq, Nat.reduceAdd, Nat.reduceMul, Nat.reduceSub, Nat.reduceLeDiff, Nat.reduceLT, Nat.reduceEqDiff, Int.reduceLE, Int.reduceLT, Int.reduceToNat, Int.reduceBEq, Int.reduceBNe, Int.reduceEq, Int.reduceAdd, Int.reduceSub, Int.reduceMul, Int.reduceNeg, Int.cast_ofNat_Int, undef]; first | refine callK_r (by first | assumption | exact h0 | exact h1 | exact h2 | exact h3 | exact h4 | exact h5 | exact h6 | exact h7 | exact h8) (by first | exact .inl rfl | exact .inr rfl) ?_ | (refine callK_i (by assumption) ?_ ?_ ?_; (solve | (repeat (first | exact DLe.refl _ | exact DLe.nil _ | (refine DLe.tup ?_) | (refine DLe.agg ?_ rfl) | exact trivial | (refine And.intro ?_ ?_)))); (solve | exact .inl rfl | exact .inr rfl))) | fail | omega | exact decide_eq_true (by omega) | exact DLe.refl _)
end Go.Proofs.YtdcjeacphbfmjaaGreat
namespace Go.Proofs.YtdcjeacphbfmjaaGreat
open Go Go.RowKit
def SmallS (s : Sbn) : Prop := s.faces.length ≤ 1000000000 ∧ ∀ f ∈ s.faces, f.addrs.length ≤ 1000000000
def SmallV (v : Vpc) : Prop := v.ranges.length ≤ 1000000000 ∧ v.subs.length ≤ 1000000000 ∧ ∀ s ∈ v.subs, SmallS s
theorem smallV_zero : SmallV Vpc.zero := ⟨Nat.zero_le _, Nat.zero_le _, fun s h => by simp [Vpc.zero] at h⟩
theorem smallS_ok {v : Vpc} (h : VpcOK v) : ∀ s ∈ v.subs, SmallS s := fun s hs => ⟨by have := (h.n8 s hs).1; omega, fun f hf => by have := (h.n8 s hs).2 f hf; omega⟩
theorem smallV_set {v : Vpc} (h : VpcOK v) {i : Nat} {s : Sbn} (hs : SmallS s) : SmallV { v with subs := v.subs.set i s } := ⟨by have := h.n4; show v.ranges.length ≤ _; omega, by have := h.n6; show (v.subs.set i s).length ≤ _; rw [List.length_set]; omega, fun t ht => by
  rcases List.mem_or_eq_of_mem_set ht with ht | rfl
  · exact smallS_ok h t ht
  · exact hs⟩
theorem faceV_small (v : Vpc) (sub id : Int) : SmallV (faceV v sub id).1 := by
  unfold faceV
  split
  · exact smallV_zero
  · rename_i hc
    have hk := vpcOK_of (by simpa using hc)
    split
    · exact smallV_zero
    · split
      · exact smallV_zero
      · rename_i s hs
        have h8 := hk.n8 s (List.mem_of_getElem? hs)
        split
        · exact smallV_zero
        · refine smallV_set hk ⟨by show (insK _ _ s.faces).length ≤ _; rw [insK_len]; omega, fun f hf => ?_⟩
          rcases insK_mem.1 hf with rfl | hf
          · show 1 ≤ 1000000000; omega
          · have := h8.2 f hf; omega
theorem unfaceV_small (v : Vpc) (sub id : Int) : SmallV (unfaceV v sub id).1 := by
  unfold unfaceV
  split
  · exact smallV_zero
  · rename_i hc
    have hk := vpcOK_of (by simpa using hc)
    split
    · exact smallV_zero
    · split
      · exact smallV_zero
      · rename_i s hs
        have h8 := hk.n8 s (List.mem_of_getElem? hs)
        split
        · exact smallV_zero
        · exact smallV_set hk ⟨by show (s.faces.eraseIdx _).length ≤ _; rw [List.length_eraseIdx]; split <;> omega, fun f hf => by have := h8.2 f (List.mem_of_mem_eraseIdx hf); omega⟩
theorem moreV_small (v : Vpc) (sub id : Int) : SmallV (moreV v sub id).1 := by
  unfold moreV
  split
  · exact smallV_zero
  · rename_i hc
    have hk := vpcOK_of (by simpa using hc)
    split
    · exact smallV_zero
    · split
      · exact smallV_zero
      · rename_i s hs
        have h8 := hk.n8 s (List.mem_of_getElem? hs)
        split
        · exact smallV_zero
        · split
          · exact smallV_zero
          · rename_i f hf
            have hfl := h8.2 f (List.mem_of_getElem? hf)
            split
            · exact smallV_zero
            · split
              · exact smallV_zero
              · refine smallV_set hk ⟨by show (s.faces.set _ _).length ≤ _; rw [List.length_set]; omega, fun g hg => ?_⟩
                rcases List.mem_or_eq_of_mem_set hg with hg | rfl
                · have := h8.2 g hg; omega
                · show (insK _ _ f.addrs).length ≤ _
                  rw [insK_len]; omega
theorem same_self (v : Vpc) (h : SmallV v) : PSpec Tryz.prog 14 [.agg (encV v), .agg (encV v)] (.v (.bool true)) := by
  have := sameVpcs_p v v h.1 h.2.1 h.2.2 (fun s hs => (h.2.2 s hs).2)
  rwa [decide_eq_true rfl] at this
set_option maxRecDepth 100000 in
set_option maxHeartbeats 1000000 in
theorem vpcFaces_p (v : Vpc) (sub id : Int) (hz : v.subs.length ≤ 9223372036854775807 ∧ ∀ s ∈ v.subs, s.faces.length ≤ 9223372036854775807) : PSpec Tryz.prog 5 [.agg (encV v), .v (.int .i64 sub), .v (.int .i64 id)] (.v (.bool true)) := by
  have h1 := vface_p v sub id
  have h2 := more_p v sub id
  have h3 := unface_p v sub id
  have k1 := faceVpc_p v sub id hz.1 hz.2
  have k2 := moreVpc_p v sub id hz.1 hz.2
  have k3 := unfaceVpc_p v sub id hz.1 hz.2
  have h5 := vpcBegun_p
  have h7 := same_self _ (faceV_small v sub id)
  have h8 := same_self _ (moreV_small v sub id)
  have h9 := same_self _ (unfaceV_small v sub id)
  generalize faceV v sub id = X at *
  generalize moreV v sub id = Y at *
  generalize unfaceV v sub id = Z at *
  clear hz
  refine ps_i tab_ok mixed Tryz.func5 rfl Tryz.ntmps5 Tryz.results5 (by kernel_rfl) ?_
  repeat' (first | (with_reducible refine And.intro ?_ ?_) | (with_reducible refine gK_i (fun _ => ?_) (fun _ => ?_)) | (with_reducible refine condS_i (fun _ => ?_) (fun _ => ?_)) | (with_reducible refine drw_i (by kernel_rfl)) | simp -dsimp only [go_sem, ↓reduceIte, reduceCtorEq, Nat.reduceAdd, Nat.reduceMul, Nat.reduceSub, Nat.reduceLeDiff, Nat.reduceLT, Nat.reduceEqDiff, Int.reduceLE, Int.reduceLT, Int.reduceToNat, Int.reduceBEq, Int.reduceBNe, Int.reduceEq, Int.reduceAdd, Int.reduceSub, Int.reduceMul, Int.reduceNeg, Int.cast_ofNat_Int, *, encV, undef, beq_self_eq_true] | ((with_reducible refine opK_c ?_); simp -dsimp only [go_sem, ↓reduceIte, reduceCtorEq, Nat.reduceAdd, Nat.reduceMul, Nat.reduceSub, Nat.reduceLeDiff, Nat.reduceLT, Nat.reduceEqDiff, Int.reduceLE, Int.reduceLT, Int.reduceToNat, Int.reduceBEq, Int.reduceBNe, Int.reduceEq, Int.reduceAdd, Int.reduceSub, Int.reduceMul, Int.reduceNeg, Int.cast_ofNat_Int, encV, undef, beq_self_eq_true]; first | refine callK_r (by first | assumption | exact h1 | exact h2 | exact h3 | exact k1 | exact k2 | exact k3 | exact h5 | exact h7 | exact h8 | exact h9) (by first | exact .inl rfl | exact .inr rfl) ?_ | (refine callK_i (by assumption) ?_ ?_ ?_; (solve | (repeat (first | exact DLe.refl _ | exact DLe.nil _ | (refine DLe.tup ?_) | (refine DLe.agg ?_ rfl) | exact trivial | (refine And.intro ?_ ?_)))); (solve | exact .inl rfl | exact .inr rfl))) | fail | omega | exact decide_eq_true (by omega) | exact DLe.refl _)
end Go.Proofs.YtdcjeacphbfmjaaGreat
namespace Go.Proofs.YtdcjeacphbfmjaaGreat
open Go Go.RowKit Go.Proofs Go.ChangeShapes Go.WideShapes Go.Deep
/-- Nothing may be written. -/
def NM : Nat → Prop := fun _ => False
section
variable {H : Type} {enc : TypeId × Value → H} {P : Program} {w : World} {base : Nat} {spare : Nat → Bool} {held : Bool}
def RdW {α : Type} (enc : TypeId × Value → H) (P : Program) (w : World) (base : Nat) (spare : Nat → Bool) (held : Bool) (t : TypeId) (R : List Value → α → Prop) (S : α → Prop) : Prop :=
  ∀ fuel cs x, DataW.trod enc P w base spare held fuel t cs = some x → ∃ a, R cs a ∧ ((∀ n ∈ x.1.weights P t, n ≤ reachBytes) → S a)
theorem rdw_of {α : Type} {t : TypeId} {R : List Value → α → Prop} (h : Rd enc P w base spare held t R) : RdW enc P w base spare held t R (fun _ => True) := by
  intro fuel cs x hx
  obtain ⟨a, ha⟩ := h fuel cs x hx
  exact ⟨a, ha, fun _ => trivial⟩
theorem weights_all {e : TypeId} : ∀ {l : List (DataW H)} {d : DataW H}, d ∈ l → ∀ n ∈ d.weights P e, n ∈ DataW.weightsAll P e l
  | a :: l, d, h, n, hn => by
    simp only [DataW.weightsAll, List.mem_append]
    rcases List.mem_cons.1 h with rfl | h
    · exact .inl hn
    · exact .inr (weights_all h n hn)
theorem rdw_field {α : Type} {t : TypeId} {fs : Array Field} {fuel : Nat} {cs : List Value} {x : DataW H × List MemPlace} (ht : P.underlying t = some (.struct fs)) (h : DataW.trod enc P w base spare held fuel t cs = some x)
    (j : Nat) {f : Field} (hf : fs[j]? = some f) {R : List Value → α → Prop} {S : α → Prop} (hr : RdW enc P w base spare held f.type R S) : ∃ a, R ((cs.drop f.offset).take (P.cellsOf f.type)) a ∧ ((∀ n ∈ x.1.weights P t, n ≤ reachBytes) → S a) := by
  obtain ⟨xs, n, _, rfl, _, hlen, hg⟩ := DataW.trod_struct ht h
  have h1 := hg j f hf
  have hj : j < xs.length := by rw [hlen]; exact (Array.getElem?_eq_some_iff.1 hf).1
  rw [List.getElem?_eq_getElem hj] at h1
  obtain ⟨a, ha, hs⟩ := hr _ _ _ h1
  refine ⟨a, ha, fun hw => hs fun n hn => hw n ?_⟩
  simp only [DataW.weights, ht]
  exact DataW.weights_mem_each (j := j) (t := f.type) (d := (xs[j]).1) (by simp [hf]) (by simp [List.getElem?_eq_getElem hj]) n hn
theorem rdw_slice {α : Type} {t e : TypeId} {k : Nat} {R : List Value → α → Prop} {S : α → Prop} (ht : P.underlying t = some (.slice e)) (hc : P.cellsOf e = k + 1) (he : RdW enc P w base spare held e R S) :
    RdW enc P w base spare held t (fun cs (l : List α) => ∃ v, cs = [v] ∧ IsSl (inW w) w (k + 1) R v l) (fun l => l.length * P.bytesOf e ≤ reachBytes ∧ ∀ a ∈ l, S a) := by
  intro fuel cs x hx
  rcases open_slice ht hx with ⟨rfl, rfl⟩ | ⟨a, len, cap, m, n, D, Pl, rfl, hb, hl, hm, hmm, rfl, hi⟩
  · exact ⟨[], ⟨_, rfl, none, 0, rfl, ⟨Nat.le_refl _, by decide, fun i h => by simp at h⟩⟩, fun _ => ⟨by simp, fun a h => by simp at h⟩⟩
  · have hlm : len ≤ m := by rw [hmm]; split <;> omega
    obtain ⟨l, hll, hq⟩ := pick_list (Q := fun i y => ∃ cs', w.cells? base (a.add (i * P.cellsOf e)) (P.cellsOf e) = some cs' ∧ R cs' y ∧ ((∀ n ∈ (D i).weights P e, n ≤ reachBytes) → S y)) len fun i h => by
      obtain ⟨cs', h1, h2⟩ := hi i (by omega)
      obtain ⟨y, hy, hs⟩ := he _ _ _ h2
      exact ⟨y, cs', h1, hy, hs⟩
    refine ⟨l, ⟨_, rfl, some a, cap, by rw [hll], ⟨by omega, by unfold maxLen at hm; omega, fun i h => ?_⟩⟩, fun hw => ⟨?_, fun y hy => ?_⟩⟩
    · obtain ⟨cs', h1, h2, -⟩ := hq i h
      rw [hc] at h1
      obtain ⟨_, hcl, hat⟩ := World.cells?_some h1
      obtain ⟨b, off, spot⟩ := a
      have hspot : spot = none := by
        obtain ⟨cs0, g1, _⟩ := hq 0 (by omega)
        rw [hc] at g1
        obtain ⟨_, gcl, gat⟩ := World.cells?_some g1
        have g0 := gat (i := 0) (by omega)
        have g0' : w.cell? ⟨b, off, spot⟩ = some (cs0[0]'(by omega)) := by
          have : ((⟨b, off, spot⟩ : Addr).add (0 * (k + 1))).add 0 = ⟨b, off, spot⟩ := by simp [Addr.add]
          rw [this] at g0
          rw [g0]; exact List.getElem?_eq_getElem (by omega)
        exact World.cell?_spot g0'
      subst hspot
      have hadd : ∀ o j, ((⟨b, o, none⟩ : Addr).add j) = ⟨b, o + j, none⟩ := by
        intro o j; unfold Addr.add; split <;> simp_all
      refine ⟨b, off, cs', rfl, ?_, hcl, h2, fun j hj => ?_⟩
      · have := hat (i := 0) (by omega)
        rw [hadd, hadd] at this
        exact lt_of_cell (this.trans (List.getElem?_eq_getElem (by omega)))
      · have := hat (i := j) (by omega)
        rw [hadd, hadd] at this
        rw [this]
        exact List.getElem?_eq_getElem hj
    · have := hw (((List.range len).map D).length + ((List.range (m - len)).map fun j => D (len + j)).length |> (· * P.bytesOf e)) (by simp [DataW.weights, ht])
      simp only [List.length_map, List.length_range] at this
      rw [hll]
      exact Nat.le_trans (Nat.mul_le_mul_right _ (by omega)) this
    · obtain ⟨i, hil, rfl⟩ := List.mem_iff_getElem.1 hy
      obtain ⟨cs', h1, h2, h3⟩ := hq i hil
      refine h3 fun n hn => hw n ?_
      simp only [DataW.weights, ht]
      refine List.mem_cons_of_mem _ (List.mem_append_left _ (weights_all (d := D i) (List.mem_map.2 ⟨i, by simp; omega, rfl⟩) n hn))
theorem argw {α : Type} {R : List Value → α → Prop} {S : α → Prop} {r : Reach} {b0 : Nat} {t : TypeId} {fs : Array Field} {v : Value} {d : DataW H} {p : List MemPlace} (ht : P.underlying t = some (.struct fs)) (hval : Value.okWide P w r b0 t v) (hd : DataW.Trod enc P w base spare held t v d p)
    (hr : RdW enc P w base spare held t R S) : ∃ cs a, v = .agg cs ∧ R cs.toList a ∧ ((∀ n ∈ d.weights P t, n ≤ reachBytes) → S a) := by
  obtain ⟨cs, rfl, _⟩ := okWide_struct ht hval
  obtain ⟨fuel, hf⟩ := hd
  obtain ⟨a, ha, hs⟩ := hr _ _ _ hf
  exact ⟨cs, a, rfl, by simpa [Value.cells] using ha, hs⟩
end
end Go.Proofs.YtdcjeacphbfmjaaGreat
namespace Go.Proofs.YtdcjeacphbfmjaaGreat
open Go Go.RowKit Go.Proofs Go.ChangeShapes Go.WideShapes Go.Deep
set_option maxRecDepth 100000
/-- A slice of what reads as data reads as data. -/
theorem isSl_rep {α : Type} {enc : α → List D} {sz : Nat} {w : World} (h0 : 0 < sz) (hen : ∀ a, (enc a).length = sz ∧ ∀ d ∈ enc a, d.one = true) {v : Value} {l : List α} (h : IsSl (inW w) w sz (fun cs a => RepDs NM w (enc a) cs) v l) : RepD NM w (.sl sz (l.map enc)) v := by
  obtain ⟨ao, cap, rfl, hs⟩ := h
  cases l with
  | nil => exact .nil sz ao cap hs.cap_max
  | cons u us =>
    obtain ⟨b, off, cs, rfl, hAb, hl, hR, hcs⟩ := hs.elem 0 (by simp)
    have key : ∀ i (hi : i < (u :: us).length), ∃ cs : List Value, cs.length = sz ∧ RepDs NM w (enc (u :: us)[i]) cs ∧ cellsAt w b (off + i * sz) cs := by
      intro i hi
      obtain ⟨b', off', cs', e, -, hl', hR', hcs'⟩ := hs.elem i hi
      cases e
      exact ⟨cs', hl', hR', hcs'⟩
    have hlen : ((u :: us).map enc).length = (u :: us).length := by simp
    rw [← hlen]
    refine .sl sz ((u :: us).map enc) b off cap (fun i j => (w.cell? ⟨b, off + i * sz + j, none⟩).getD undef) (fun h => h) hAb (by rw [hlen]; exact hs.cap_le) hs.cap_max (fun r hr => ?_) (fun r hr => ?_) (fun i j hi hj => ?_) (fun i j row d hi hj => ?_)
    · obtain ⟨x, -, rfl⟩ := List.mem_map.1 hr; exact (hen x).1
    · obtain ⟨x, -, rfl⟩ := List.mem_map.1 hr; exact (hen x).2
    · obtain ⟨cs', hl', -, hcs'⟩ := key i (by simpa using hi)
      rw [hcs' j (by omega)]; rfl
    · have hi' : i < (u :: us).length := by have := (List.getElem?_eq_some_iff.1 hi).1; simpa using this
      obtain ⟨cs', hl', hR', hcs'⟩ := key i hi'
      rw [List.getElem?_map, List.getElem?_eq_getElem hi'] at hi
      simp only [Option.map_some, Option.some.injEq] at hi
      subst hi
      have hj' : j < cs'.length := by rw [← hR'.1]; exact (List.getElem?_eq_some_iff.1 hj).1
      rw [hcs' j hj']
      exact hR'.2 j d _ hj (List.getElem?_eq_getElem hj')
section
variable {H : Type} {enc : TypeId × Value → H} {w : World} {base : Nat} {spare : Nat → Bool} {held : Bool}
theorem Tryz.sizePfx : Tryz.prog.cellsOf 27 = 2 := by kernel_rfl
theorem Tryz.sizeInt1 : Tryz.prog.cellsOf 3 = 1 := by kernel_rfl
theorem Tryz.sizeInts : Tryz.prog.cellsOf 77 = 1 := by kernel_rfl
theorem Tryz.sizeFace : Tryz.prog.cellsOf 79 = 2 := by kernel_rfl
theorem Tryz.sizeSub : Tryz.prog.cellsOf 62 = 4 := by kernel_rfl
theorem Tryz.sizeRange : Tryz.prog.cellsOf 29 = 3 := by kernel_rfl
theorem Tryz.sizeVpc : Tryz.prog.cellsOf 25 = 3 := by kernel_rfl
theorem Tryz.sizeFaces : Tryz.prog.cellsOf 60 = 1 := by kernel_rfl
theorem Tryz.bytesFace : Tryz.prog.bytesOf 79 = 32 := by kernel_rfl
theorem Tryz.sizeSubs : Tryz.prog.cellsOf 23 = 1 := by kernel_rfl
theorem Tryz.bytesSub : Tryz.prog.bytesOf 62 = 48 := by kernel_rfl
theorem Tryz.sizeRanges : Tryz.prog.cellsOf 22 = 1 := by kernel_rfl
theorem rd_pfx : Rd enc Tryz.prog w base spare held 27 Pfx.R := by
  intro fuel cs x hx
  have hl := rd_len Tryz.underlying27 hx
  rw [Tryz.sizePfx] at hl
  obtain ⟨a, ha⟩ := rd_field Tryz.underlying27 hx 0 rfl (rd_int Tryz.underlying3)
  obtain ⟨b, hb⟩ := rd_field Tryz.underlying27 hx 1 rfl (rd_int Tryz.underlying3)
  match cs, hl with
  | [c0, c1], _ =>
    simp [Tryz.sizeInt1, IntR] at ha hb
    exact ⟨⟨a, b⟩, by simp [Pfx.R, ha.1, hb.1]⟩
theorem repDs_ints (l : List Int) : RepDs NM w (l.map fun n => .v (.int .i64 n)) (l.map fun n => .int .i64 n) := by
  refine ⟨by simp, fun j d x hj hx => ?_⟩
  rw [List.getElem?_map, Option.map_eq_some_iff] at hj hx
  obtain ⟨a, ha, rfl⟩ := hj
  obtain ⟨c, hc, rfl⟩ := hx
  rw [ha] at hc
  obtain rfl := Option.some.inj hc
  exact .v _
theorem repDs_appR {M : Nat → Prop} {w : World} {ds es : List D} {vs us : List Value} (h : RepDs M w ds vs) (g : RepDs M w es us) : RepDs M w (ds ++ es) (vs ++ us) := by
  refine ⟨by simp [h.1, g.1], fun j d x hj hx => ?_⟩
  rcases Nat.lt_or_ge j ds.length with hlt | hge
  · rw [List.getElem?_append_left hlt] at hj
    rw [List.getElem?_append_left (by rw [← h.1]; exact hlt)] at hx
    exact h.2 j d x hj hx
  · rw [List.getElem?_append_right hge] at hj
    rw [List.getElem?_append_right (by rw [← h.1]; exact hge), ← h.1] at hx
    exact g.2 _ d x hj hx
theorem repDs_one {M : Nat → Prop} {w : World} {d : D} {v : Value} (h : RepD M w d v) : RepDs M w [d] [v] := ⟨rfl, fun j e x hj hx => by
  match j with
  | 0 => cases hj; cases hx; exact h
  | j + 1 => simp at hj⟩
theorem rdw_ints : RdW enc Tryz.prog w base spare held 77 (fun cs (l : List Int) => ∃ v, cs = [v] ∧ RepD NM w (.sl 1 (l.map encA)) v) (fun _ => True) := by
  have h := rdw_slice (enc := enc) (base := base) (spare := spare) (held := held) Tryz.underlying77 Tryz.sizeInt1 (rdw_of ((rd_int (w := w) Tryz.underlying3).map id (R' := fun cs (a : Int) => RepDs NM w (encA a) cs) fun cs a h => by rw [h.1]; exact repDs_ints [a]))
  intro fuel cs x hx
  obtain ⟨l, ⟨v, rfl, hs⟩, hw⟩ := h fuel cs x hx
  refine ⟨l, ⟨v, rfl, isSl_rep (sz := 1) (by omega) (fun a => ⟨rfl, fun d hd => ?_⟩) hs⟩, fun _ => trivial⟩
  simp [encA] at hd
  rcases hd with rfl; rfl
theorem rdw_face : RdW enc Tryz.prog w base spare held 79 (fun cs (f : Fce) => RepDs NM w (encF f) cs) (fun _ => True) := by
  intro fuel cs x hx
  have hl := rd_len Tryz.underlying79 hx
  rw [Tryz.sizeFace] at hl
  obtain ⟨a, ha⟩ := rd_field Tryz.underlying79 hx 0 rfl (rd_int Tryz.underlying3)
  obtain ⟨l, hs, hw⟩ := rdw_field Tryz.underlying79 hx 1 rfl rdw_ints
  match cs, hl with
  | [c0, c1], _ =>
    simp [Tryz.sizeInt1, Tryz.sizeInts, IntR] at ha hs
    refine ⟨⟨a, l⟩, ?_, fun _ => trivial⟩
    rw [ha.1]
    exact repDs_appR (repDs_ints [a]) (repDs_one hs)
theorem rdw_faces : RdW enc Tryz.prog w base spare held 60 (fun cs (l : List Fce) => ∃ v, cs = [v] ∧ RepD NM w (.sl 2 (l.map encF)) v) (fun l => l.length * 32 ≤ reachBytes) := by
  have h := rdw_slice (enc := enc) (base := base) (spare := spare) (held := held) Tryz.underlying60 Tryz.sizeFace (rdw_face (w := w))
  intro fuel cs x hx
  obtain ⟨l, ⟨v, rfl, hs⟩, hw⟩ := h fuel cs x hx
  refine ⟨l, ⟨v, rfl, isSl_rep (sz := 2) (by omega) (fun a => ⟨rfl, fun d hd => ?_⟩) hs⟩, fun hh => by have := (hw hh).1; rwa [Tryz.bytesFace] at this⟩
  simp [encF] at hd
  rcases hd with rfl | rfl <;> rfl
theorem rdw_sub : RdW enc Tryz.prog w base spare held 62 (fun cs (s : Sbn) => RepDs NM w (encN s) cs) (fun s => s.faces.length * 32 ≤ reachBytes) := by
  intro fuel cs x hx
  have hl := rd_len Tryz.underlying62 hx
  rw [Tryz.sizeSub] at hl
  obtain ⟨a, ha⟩ := rd_field Tryz.underlying62 hx 0 rfl (rd_int Tryz.underlying3)
  obtain ⟨p, hp⟩ := rd_field Tryz.underlying62 hx 1 rfl rd_pfx
  obtain ⟨l, hs, hw⟩ := rdw_field Tryz.underlying62 hx 2 rfl rdw_faces
  match cs, hl with
  | [c0, c1, c2, c3], _ =>
    simp [Tryz.sizePfx, Tryz.sizeInt1, Tryz.sizeFaces, IntR, Pfx.R] at ha hp hs
    refine ⟨⟨a, p, l⟩, ?_, hw⟩
    rw [ha.1, hp.1, hp.2]
    exact repDs_appR (repDs_ints [a, p.at_, p.len]) (repDs_one hs)
theorem rdw_subs : RdW enc Tryz.prog w base spare held 23 (fun cs (l : List Sbn) => ∃ v, cs = [v] ∧ RepD NM w (.sl 4 (l.map encN)) v) (fun l => l.length * 48 ≤ reachBytes ∧ ∀ s ∈ l, s.faces.length * 32 ≤ reachBytes) := by
  have h := rdw_slice (enc := enc) (base := base) (spare := spare) (held := held) Tryz.underlying23 Tryz.sizeSub (rdw_sub (w := w))
  intro fuel cs x hx
  obtain ⟨l, ⟨v, rfl, hs⟩, hw⟩ := h fuel cs x hx
  refine ⟨l, ⟨v, rfl, isSl_rep (sz := 4) (by omega) (fun a => ⟨rfl, fun d hd => ?_⟩) hs⟩, fun hh => ⟨by have := (hw hh).1; rwa [Tryz.bytesSub] at this, (hw hh).2⟩⟩
  simp [encN] at hd
  rcases hd with rfl | rfl | rfl | rfl <;> rfl
theorem rd_rng : Rd enc Tryz.prog w base spare held 29 fun cs (r : Rng) => RepDs NM w (encG r) cs := by
  intro fuel cs x hx
  have hl := rd_len Tryz.underlying29 hx
  rw [Tryz.sizeRange] at hl
  obtain ⟨p, hp⟩ := rd_field Tryz.underlying29 hx 0 rfl rd_pfx
  obtain ⟨a, ha⟩ := rd_field Tryz.underlying29 hx 1 rfl (rd_int Tryz.underlying3)
  match cs, hl with
  | [c0, c1, c2], _ =>
    simp [Tryz.sizePfx, Tryz.sizeInt1, IntR, Pfx.R] at ha hp
    refine ⟨⟨p, a⟩, ?_⟩
    rw [ha.1, hp.1, hp.2]
    exact repDs_ints [p.at_, p.len, a]
theorem rd_rngD : RdW enc Tryz.prog w base spare held 29 (fun cs (r : Rng) => RepDs NM w (encG r) cs) (fun _ => True) := rdw_of rd_rng
theorem rdw_rngs : RdW enc Tryz.prog w base spare held 22 (fun cs (l : List Rng) => ∃ v, cs = [v] ∧ RepD NM w (.sl 3 (l.map encG)) v) (fun _ => True) := by
  have h := rdw_slice (enc := enc) (base := base) (spare := spare) (held := held) Tryz.underlying22 Tryz.sizeRange (rd_rngD (w := w))
  intro fuel cs x hx
  obtain ⟨l, ⟨v, rfl, hs⟩, hw⟩ := h fuel cs x hx
  refine ⟨l, ⟨v, rfl, isSl_rep (sz := 3) (by omega) (fun a => ⟨rfl, fun d hd => ?_⟩) hs⟩, fun _ => trivial⟩
  simp [encG] at hd
  rcases hd with rfl | rfl | rfl <;> rfl
theorem rdw_vpc : RdW enc Tryz.prog w base spare held 25 (fun cs (v : Vpc) => RepDs NM w (encV v) cs) (fun v => v.subs.length ≤ 9223372036854775807 ∧ ∀ s ∈ v.subs, s.faces.length ≤ 9223372036854775807) := by
  intro fuel cs x hx
  have hl := rd_len Tryz.underlying25 hx
  rw [Tryz.sizeVpc] at hl
  obtain ⟨a, ha⟩ := rd_field Tryz.underlying25 hx 0 rfl (rd_int Tryz.underlying3)
  obtain ⟨r, hr, -⟩ := rdw_field Tryz.underlying25 hx 1 rfl rdw_rngs
  obtain ⟨l, hs, hw⟩ := rdw_field Tryz.underlying25 hx 2 rfl rdw_subs
  match cs, hl with
  | [c0, c1, c2], _ =>
    simp [Tryz.sizeInt1, Tryz.sizeRanges, Tryz.sizeSubs, IntR] at ha hr hs
    refine ⟨⟨a, r, l⟩, ?_, fun hh => ?_⟩
    · rw [ha.1]
      exact repDs_appR (repDs_ints [a]) (repDs_appR (repDs_one hr) (repDs_one hs))
    · have := hw hh
      unfold reachBytes at this
      exact ⟨by have := this.1; show l.length ≤ 9223372036854775807; omega, fun s hs => by have := this.2 s hs; omega⟩
end
theorem repDs_n {M : Nat → Prop} {w : World} : RepDs M w [] [] := ⟨rfl, fun j d x hj _ => by simp at hj⟩
theorem repDs_c {M : Nat → Prop} {w : World} {d : D} {v : Value} {ds : List D} {vs : List Value} (h : RepD M w d v) (g : RepDs M w ds vs) : RepDs M w (d :: ds) (v :: vs) := ⟨by simp [g.1], fun j e x hj hx => by
  cases j with
  | zero => simp at hj hx; subst hj; subst hx; exact h
  | succ j => exact g.2 j e x (by simpa using hj) (by simpa using hx)⟩
theorem rep_agg {w : World} {cs : Array Value} {ds : List D} (h : RepDs NM w ds cs.toList) (h1 : ds.all D.one = true) : RepD NM w (.agg ds) (.agg cs) := by
  have := RepD.agg (M := NM) (w := w) ds cs.toList h.1 (fun d hd => List.all_eq_true.1 h1 d hd) h.2
  simpa using this
theorem law_of {P : Program} {f : Nat} {args : List D} {vs : List Value} {W : World} (hp : PSpec P f args (.v (.bool true))) (hds : RepDs NM W args vs) : Calls P f vs.toArray W fun e w' => e = .returned (.bool true) ∧ Ext W w' := by
  refine (hp.2 NM W vs (fun b h => h.elim) hds).mono ?_
  rintro e w' ⟨v, rfl, hv, hx⟩
  cases hv
  exact ⟨rfl, hx⟩
section
variable {H : Type} {enc : TypeId × Value → H} {w : World} {base : Nat} {spare : Nat → Bool} {held : Bool}
end
end Go.Proofs.YtdcjeacphbfmjaaGreat
namespace Go.Proofs.YtdcjeacphbfmjaaGreat
open Go Go.RowKit Go.Proofs Go.ChangeShapes Go.WideShapes Go.ChangeAt
set_option linter.unusedVariables false
theorem vpcFaces_own : ownKnob Tryz.prog.godebug = Option.none := by kernel_rfl
theorem vpcFaces_laidOut : laidOutB Tryz.prog = true := by kernel_rfl
set_option maxRecDepth 100000 in
theorem vpcFaces_lifted (os : Os) (started : os.Started) (H : Type) (enc : TypeId × Value → H) :
    ReturnsInHanded {} Tryz.checked os 5 .any (Rows.vpcFacesSpec.pre6 enc Tryz.prog Tryz.f5 Rows.vpcFacesRow.domain false) (Rows.vpcFacesSpec.post enc Tryz.prog Tryz.f5 false true false false) := by
  refine returnsInHanded_of_change_sized (C := Tryz.checked) vpcFaces_own started (by kernel_rfl) Tryz.func5
    (ChangeSpec.witness6 (enc := enc) (C := Tryz.checked) false ⟨#[], #[.agg #[.int .i64 0, .slice none 0 0, .slice none 0 0], .int .i64 0, .int .i64 0], []⟩ 8 (by kernel_rfl) (by kernel_rfl) (by kernel_rfl) (by kernel_rfl)) ?_
  intro W base args ds gs before hval0 hW hcnd hsz _
  have hval : ∀ (j : Nat) t v, Tryz.f5.params[j]? = some t → args[j]? = some v → Value.okWide Tryz.prog W .any base t v := hval0
  have hW' := hW
  obtain ⟨p, q, hA0, hV, rfl, hfz, hnd⟩ := hW
  have hA : DataW.TrodAll enc Tryz.prog W 0 (fun _ => true) true Tryz.f5.params.toList args.toList ds p := hA0
  rw [Tryz.params5] at hA hval
  obtain ⟨v0, vs0, d0, ds0, p0, q0, hargs, rfl, rfl, h0, r0⟩ := trodAll_cons hA
  obtain ⟨v1, vs1, d1, ds1, p1, q1, rfl, rfl, rfl, h1, r1⟩ := trodAll_cons r0
  obtain ⟨v2, vs2, d2, ds2, p2, q2, rfl, rfl, rfl, h2, r2⟩ := trodAll_cons r1
  obtain ⟨rfl, rfl, rfl⟩ := trodAll_nil r2
  obtain rfl : args = #[v0, v1, v2] := by cases args; simp_all
  obtain ⟨rfl, rfl⟩ := trodVars_none hV
  obtain ⟨cs0, a0, rfl, w0, s0⟩ := argw Tryz.underlying25 (hval 0 25 v0 rfl rfl) h0 rdw_vpc
  replace s0 := s0 (fun n hn => of_decide_eq_true (List.all_eq_true.1 hsz _ (DataW.weights_mem_each (j := 0) (t := 25) rfl rfl n hn)))
  obtain ⟨a1, rfl, w1⟩ := arg_int Tryz.underlying3 (hval 1 3 v1 rfl rfl) h1
  obtain ⟨a2, rfl, w2⟩ := arg_int Tryz.underlying3 (hval 2 3 v2 rfl rfl) h2
  clear hA0 hval0
  refine (law_of (vpcFaces_p a0 a1 a2 s0) (vs := [.agg cs0, .int .i64 a1, .int .i64 a2]) (repDs_c (rep_agg w0 rfl) (repDs_c (.v (.int .i64 a1)) (repDs_c (.v (.int .i64 a2)) repDs_n)))).mono fun e W' ⟨he, bel⟩ => ?_
  subst he
  exact ⟨_, rfl, _, _, _, [], _, [], hW', trodAll_mk1 (shut_bool Tryz.underlying4 _), (trodAll_cons_mk (Below.trod vpcFaces_laidOut (by kernel_rfl) (of_decide_eq_true (by kernel_rfl)) h0 bel (trod_lts h0)) (trodAll_cons_mk (Below.trod vpcFaces_laidOut (by kernel_rfl) (of_decide_eq_true (by kernel_rfl)) h1 bel (trod_lts h1)) (trodAll_cons_mk (Below.trod vpcFaces_laidOut (by kernel_rfl) (of_decide_eq_true (by kernel_rfl)) h2 bel (trod_lts h2)) trodAll_mk0))), rfl, bel.frame _, fun h => by cases h⟩
theorem vpcFaces_over : Rows.vpcFacesRow.holds Tryz.pinned (OpenSpec.ofChange Rows.vpcFacesSpec) :=
  OpenClaim.holds_of_wide 5 Tryz.f5 rfl rfl rfl rfl rfl rfl rfl ⟨rfl, rfl, rfl, rfl, rfl⟩ rfl rfl rfl rfl rfl (by kernel_rfl) Tryz.func5 (by kernel_rfl)
    (of_decide_eq_true (by kernel_rfl)) (by unfold Func.isWrapper; first | (rw [if_pos (by decide +kernel)]; kernel_rfl) | (rw [if_neg (by decide +kernel)]; exact ⟨rfl, rfl⟩))
    (fun os started H enc _ => vpcFaces_lifted os started H enc)
theorem vpcFaces_holds : Rows.VpcFacesSaid := vpcFaces_over
#print axioms vpcFaces_holds
end Go.Proofs.YtdcjeacphbfmjaaGreat
