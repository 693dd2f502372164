/- VpcApart: its statement, for every input, out of its walk. (texts of this work, joined) -/
import Derived.Test.YtdcjeacphbfmjaaGreatZHVpcApart4
import Derived.SizedLaws
import Derived.Test.YtdcjeacphbfmjaaGreatRows
import Derived.WalkKit
import Derived.ProofKit
import Derived.OpenShut
import Derived.ShutString
import Derived.ChangeOld
import Derived.Below
set_option linter.unusedSimpArgs false
set_option linter.unusedVariables false
namespace Go.Proofs.YtdcjeacphbfmjaaGreat
open Go Go.RowKit
theorem eqP_list (p q : Pfx) : ([p.at_, p.len] == [q.at_, q.len]) = decide (p = q) := by
  rw [Bool.eq_iff_iff]
  cases p; cases q
  simp
def Rng.zero : Rng := ⟨⟨0, 0⟩, 0⟩
/-- Drop's answer. -/
def dropV (v : Vpc) (p : Pfx) : Vpc × Rng × Int :=
  if chkV v ≠ 0 then (Vpc.zero, Rng.zero, chkV v) else
  match v.ranges.findIdx? (fun r => decide (r.at_ = p)) with
  | none => (Vpc.zero, Rng.zero, 5)
  | some i => if (v.subs.any fun s => insQ s.at_ p) = true then (Vpc.zero, Rng.zero, 9) else ({ v with ranges := v.ranges.eraseIdx i }, v.ranges.getD i Rng.zero, 0)
theorem drop1_p (r : Rng) (p : Pfx) : PSpec Tryz.prog 36 [.agg (encG r), .ept (encP p)] (.v (.bool (decide (r.at_ = p)))) := by
  have he := eqP_list r.at_ p
  rw [← he]
  replace he := Lib.hid he
  refine ps_i tab_ok mixed Tryz.func36 rfl Tryz.ntmps36 Tryz.results36 (by kernel_rfl) ?_
  repeat' (first | (with_reducible refine And.intro ?_ ?_) | (with_reducible refine gK_i (fun _ => ?_) (fun _ => ?_)) | (with_reducible refine condS_i (fun _ => ?_) (fun _ => ?_)) | (with_reducible refine drw_i (by kernel_rfl)) | simp -dsimp only [go_sem, ↓reduceIte, reduceCtorEq, Nat.reduceAdd, Nat.reduceMul, Nat.reduceSub, Nat.reduceLeDiff, Nat.reduceLT, Nat.reduceEqDiff, Int.reduceLE, Int.reduceLT, Int.reduceToNat, Int.reduceBEq, Int.reduceBNe, Int.reduceEq, Int.reduceAdd, Int.reduceSub, Int.reduceMul, Int.reduceNeg, Int.cast_ofNat_Int, *, encG, encP] | ((with_reducible refine opK_c ?_); simp -dsimp only [go_sem, ↓reduceIte, reduceCtorEq, Nat.reduceAdd, Nat.reduceMul, Nat.reduceSub, Nat.reduceLeDiff, Nat.reduceLT, Nat.reduceEqDiff, Int.reduceLE, Int.reduceLT, Int.reduceToNat, Int.reduceBEq, Int.reduceBNe, Int.reduceEq, Int.reduceAdd, Int.reduceSub, Int.reduceMul, Int.reduceNeg, Int.cast_ofNat_Int, encG, encP]; first | refine callK_r (by first | assumption | fail) (by first | exact .inl rfl | exact .inr rfl) ?_ | (refine callK_i (by assumption) ?_ ?_ ?_; (solve | (repeat (first | exact DLe.refl _ | exact DLe.nil _ | (refine DLe.tup ?_) | (refine DLe.agg ?_ rfl) | exact trivial | (refine And.intro ?_ ?_)))); (solve | exact .inl rfl | exact .inr rfl))) | fail | omega | exact decide_eq_true (by omega) | exact DLe.refl _)
theorem drop2_p (s : Sbn) (p : Pfx) : PSpec Tryz.prog 38 [.agg (encN s), .ept (encP p)] (.v (.bool (insQ s.at_ p))) := by
  have hi : PSpec Tryz.prog 39 [.agg (encP s.at_), .agg (encP p)] (.v (.bool (insQ s.at_ p))) := inside_p _ _
  refine ps_i tab_ok mixed Tryz.func38 rfl Tryz.ntmps38 Tryz.results38 (by kernel_rfl) ?_
  repeat' (first | (with_reducible refine And.intro ?_ ?_) | (with_reducible refine gK_i (fun _ => ?_) (fun _ => ?_)) | (with_reducible refine condS_i (fun _ => ?_) (fun _ => ?_)) | (with_reducible refine drw_i (by kernel_rfl)) | simp -dsimp only [go_sem, ↓reduceIte, reduceCtorEq, Nat.reduceAdd, Nat.reduceMul, Nat.reduceSub, Nat.reduceLeDiff, Nat.reduceLT, Nat.reduceEqDiff, Int.reduceLE, Int.reduceLT, Int.reduceToNat, Int.reduceBEq, Int.reduceBNe, Int.reduceEq, Int.reduceAdd, Int.reduceSub, Int.reduceMul, Int.reduceNeg, Int.cast_ofNat_Int, *, encN, encP] | ((with_reducible refine opK_c ?_); simp -dsimp only [go_sem, ↓reduceIte, reduceCtorEq, Nat.reduceAdd, Nat.reduceMul, Nat.reduceSub, Nat.reduceLeDiff, Nat.reduceLT, Nat.reduceEqDiff, Int.reduceLE, Int.reduceLT, Int.reduceToNat, Int.reduceBEq, Int.reduceBNe, Int.reduceEq, Int.reduceAdd, Int.reduceSub, Int.reduceMul, Int.reduceNeg, Int.cast_ofNat_Int, encN, encP]; first | refine callK_r (by first | assumption | exact hi) (by first | exact .inl rfl | exact .inr rfl) ?_ | (refine callK_i (by assumption) ?_ ?_ ?_; (solve | (repeat (first | exact DLe.refl _ | exact DLe.nil _ | (refine DLe.tup ?_) | (refine DLe.agg ?_ rfl) | exact trivial | (refine And.intro ?_ ?_)))); (solve | exact .inl rfl | exact .inr rfl))) | fail | omega | exact decide_eq_true (by omega) | exact DLe.refl _)
set_option maxRecDepth 100000 in
set_option maxHeartbeats 1000000 in
theorem vdrop_p (v : Vpc) (p : Pfx) : PSpec Tryz.prog 8 [.agg (encV v), .agg (encP p)] (.tup [.agg (encV (dropV v p).1), .agg (encG (dropV v p).2.1), .v (.int .i64 (dropV v p).2.2)]) := by
  obtain ⟨R, hR⟩ : ∃ R, R = dropV v p := ⟨_, rfl⟩
  rw [← hR]
  replace hR := Lib.hid hR
  by_cases hc : chkV v = 0
  · have hk := vpcOK_of hc
    have hbg := beginD_m v hc hk.n4 hk.n6 hk.n8
    have hix := idxf_Range encG_len (fun r => decide (r.at_ = p)) v.ranges 36 [.ept (encP p)] (by have := hk.n4; omega) (fun r _ => drop1_p r p)
    have hcn := cntf_Sub encN_len (fun s => insQ s.at_ p) v.subs 38 [.ept (encP p)] (by have := hk.n6; omega) (fun s _ => drop2_p s p)
    unfold idxI at hix
    cases hf : v.ranges.findIdx? (fun r => decide (r.at_ = p)) with
    | none =>
      rw [hf] at hix
      have hr : R = (Vpc.zero, Rng.zero, 5) := by rw [hR.out]; unfold dropV; rw [if_neg (by simpa using hc), hf]
      rw [hr]
      clear hr hR hf hc hk
      refine ps_i tab_ok mixed Tryz.func8 rfl Tryz.ntmps8 Tryz.results8 (by kernel_rfl) ?_
      repeat' (first | (with_reducible refine And.intro ?_ ?_) | (with_reducible refine gK_i (fun _ => ?_) (fun _ => ?_)) | (with_reducible refine condS_i (fun _ => ?_) (fun _ => ?_)) | (with_reducible refine drw_i (by kernel_rfl)) | simp -dsimp only [go_sem, ↓reduceIte, reduceCtorEq, Nat.reduceAdd, Nat.reduceMul, Nat.reduceSub, Nat.reduceLeDiff, Nat.reduceLT, Nat.reduceEqDiff, Int.reduceLE, Int.reduceLT, Int.reduceToNat, Int.reduceBEq, Int.reduceBNe, Int.reduceEq, Int.reduceAdd, Int.reduceSub, Int.reduceMul, Int.reduceNeg, Int.cast_ofNat_Int, *, encV, encP] | ((with_reducible refine opK_c ?_); simp -dsimp only [go_sem, ↓reduceIte, reduceCtorEq, Nat.reduceAdd, Nat.reduceMul, Nat.reduceSub, Nat.reduceLeDiff, Nat.reduceLT, Nat.reduceEqDiff, Int.reduceLE, Int.reduceLT, Int.reduceToNat, Int.reduceBEq, Int.reduceBNe, Int.reduceEq, Int.reduceAdd, Int.reduceSub, Int.reduceMul, Int.reduceNeg, Int.cast_ofNat_Int, encV, encP]; first | refine callK_r (by first | assumption | exact hix) (by first | exact .inl rfl | exact .inr rfl) ?_ | (refine callK_i (by assumption) ?_ ?_ ?_; (solve | (repeat (first | exact DLe.refl _ | exact DLe.nil _ | (refine DLe.tup ?_) | (refine DLe.agg ?_ rfl) | exact trivial | (refine And.intro ?_ ?_)))); (solve | exact .inl rfl | exact .inr rfl))) | (refine opK_M [] (hbg) ?_ ?_ ?_ ?_ ?_ ?_; (solve | rfl | simp only [go_sem, ↓reduceIte, reduceCtorEq, Nat.reduceAdd, Nat.reduceMul, Nat.reduceSub, Nat.reduceLeDiff, Nat.reduceLT, Nat.reduceEqDiff, Int.reduceLE, Int.reduceLT, Int.reduceToNat, Int.reduceBEq, Int.reduceBNe, Int.reduceEq, Int.reduceAdd, Int.reduceSub, Int.reduceMul, Int.reduceNeg, Int.cast_ofNat_Int, encV]); (solve | rfl); (solve | decide); (solve | simp); (solve | simp only [go_sem, ↓reduceIte, reduceCtorEq, Nat.reduceAdd, Nat.reduceMul, Nat.reduceSub, Nat.reduceLeDiff, Nat.reduceLT, Nat.reduceEqDiff, Int.reduceLE, Int.reduceLT, Int.reduceToNat, Int.reduceBEq, Int.reduceBNe, Int.reduceEq, Int.reduceAdd, Int.reduceSub, Int.reduceMul, Int.reduceNeg, Int.cast_ofNat_Int, lentOK, encV])) | omega | exact decide_eq_true (by omega) | exact DLe.refl _)
      exact (by repeat (first | exact DLe.refl _ | exact DLe.nil _ | (refine DLe.tup ?_) | (refine DLe.agg ?_ rfl) | exact trivial | (refine And.intro ?_ ?_)))
    | some i =>
      rw [hf] at hix
      have hi : i < v.ranges.length := (List.findIdx?_eq_some_iff_getElem.1 hf).1
      obtain ⟨g, hg⟩ : ∃ g, v.ranges[i]? = some g := ⟨_, List.getElem?_eq_getElem hi⟩
      have hi0 : decide ((i : Int) < 0) = false := by simp
      have hn4 := hk.n4
      cases ha : v.subs.any fun s => insQ s.at_ p with
      | true =>
        rw [ha] at hcn
        have hr : R = (Vpc.zero, Rng.zero, 9) := by rw [hR.out]; unfold dropV; rw [if_neg (by simpa using hc), hf]; simp only; rw [if_pos ha]
        rw [hr]
        clear hr hR hf hc hk
        refine ps_i tab_ok mixed Tryz.func8 rfl Tryz.ntmps8 Tryz.results8 (by kernel_rfl) ?_
        repeat' (first | (with_reducible refine And.intro ?_ ?_) | (with_reducible refine gK_i (fun _ => ?_) (fun _ => ?_)) | (with_reducible refine condS_i (fun _ => ?_) (fun _ => ?_)) | (with_reducible refine drw_i (by kernel_rfl)) | simp -dsimp only [go_sem, ↓reduceIte, reduceCtorEq, Nat.reduceAdd, Nat.reduceMul, Nat.reduceSub, Nat.reduceLeDiff, Nat.reduceLT, Nat.reduceEqDiff, Int.reduceLE, Int.reduceLT, Int.reduceToNat, Int.reduceBEq, Int.reduceBNe, Int.reduceEq, Int.reduceAdd, Int.reduceSub, Int.reduceMul, Int.reduceNeg, Int.cast_ofNat_Int, *, encV, encP, hi0] | ((with_reducible refine opK_c ?_); simp -dsimp only [go_sem, ↓reduceIte, reduceCtorEq, Nat.reduceAdd, Nat.reduceMul, Nat.reduceSub, Nat.reduceLeDiff, Nat.reduceLT, Nat.reduceEqDiff, Int.reduceLE, Int.reduceLT, Int.reduceToNat, Int.reduceBEq, Int.reduceBNe, Int.reduceEq, Int.reduceAdd, Int.reduceSub, Int.reduceMul, Int.reduceNeg, Int.cast_ofNat_Int, encV, encP, hi0]; first | refine callK_r (by first | assumption | exact hix | exact hcn) (by first | exact .inl rfl | exact .inr rfl) ?_ | (refine callK_i (by assumption) ?_ ?_ ?_; (solve | (repeat (first | exact DLe.refl _ | exact DLe.nil _ | (refine DLe.tup ?_) | (refine DLe.agg ?_ rfl) | exact trivial | (refine And.intro ?_ ?_)))); (solve | exact .inl rfl | exact .inr rfl))) | (refine opK_M [] (hbg) ?_ ?_ ?_ ?_ ?_ ?_; (solve | rfl | simp only [go_sem, ↓reduceIte, reduceCtorEq, Nat.reduceAdd, Nat.reduceMul, Nat.reduceSub, Nat.reduceLeDiff, Nat.reduceLT, Nat.reduceEqDiff, Int.reduceLE, Int.reduceLT, Int.reduceToNat, Int.reduceBEq, Int.reduceBNe, Int.reduceEq, Int.reduceAdd, Int.reduceSub, Int.reduceMul, Int.reduceNeg, Int.cast_ofNat_Int, encV]); (solve | rfl); (solve | decide); (solve | simp); (solve | simp only [go_sem, ↓reduceIte, reduceCtorEq, Nat.reduceAdd, Nat.reduceMul, Nat.reduceSub, Nat.reduceLeDiff, Nat.reduceLT, Nat.reduceEqDiff, Int.reduceLE, Int.reduceLT, Int.reduceToNat, Int.reduceBEq, Int.reduceBNe, Int.reduceEq, Int.reduceAdd, Int.reduceSub, Int.reduceMul, Int.reduceNeg, Int.cast_ofNat_Int, lentOK, encV])) | omega | exact decide_eq_true (by omega) | exact DLe.refl _)
        exact (by repeat (first | exact DLe.refl _ | exact DLe.nil _ | (refine DLe.tup ?_) | (refine DLe.agg ?_ rfl) | exact trivial | (refine And.intro ?_ ?_)))
      | false =>
        rw [ha] at hcn
        have hr : R = ({ v with ranges := v.ranges.eraseIdx i }, g, 0) := by
          rw [hR.out]; unfold dropV; rw [if_neg (by simpa using hc), hf]; simp only; rw [if_neg (by simp [ha])]
          rw [List.getD_eq_getElem?_getD, hg]; rfl
        have hd := delete_Range (enc := encG) v.ranges i (i + 1) 1 hi rfl
        have hwr : IntKind.i64.wrap ((i : Int) + 1) = ((i + 1 : Nat) : Int) := by rw [IntKind.wrap_i64]; omega
        rw [hr]
        clear hr hR hf hc hk
        refine ps_i tab_ok mixed Tryz.func8 rfl Tryz.ntmps8 Tryz.results8 (by kernel_rfl) ?_
        repeat' (first | (with_reducible refine And.intro ?_ ?_) | (with_reducible refine gK_i (fun _ => ?_) (fun _ => ?_)) | (with_reducible refine condS_i (fun _ => ?_) (fun _ => ?_)) | (with_reducible refine drw_i (by kernel_rfl)) | simp -dsimp only [go_sem, ↓reduceIte, reduceCtorEq, Nat.reduceAdd, Nat.reduceMul, Nat.reduceSub, Nat.reduceLeDiff, Nat.reduceLT, Nat.reduceEqDiff, Int.reduceLE, Int.reduceLT, Int.reduceToNat, Int.reduceBEq, Int.reduceBNe, Int.reduceEq, Int.reduceAdd, Int.reduceSub, Int.reduceMul, Int.reduceNeg, Int.cast_ofNat_Int, *, encV, encG, encP, hi0, hg, hwr, hi] | ((with_reducible refine opK_c ?_); simp -dsimp only [go_sem, ↓reduceIte, reduceCtorEq, Nat.reduceAdd, Nat.reduceMul, Nat.reduceSub, Nat.reduceLeDiff, Nat.reduceLT, Nat.reduceEqDiff, Int.reduceLE, Int.reduceLT, Int.reduceToNat, Int.reduceBEq, Int.reduceBNe, Int.reduceEq, Int.reduceAdd, Int.reduceSub, Int.reduceMul, Int.reduceNeg, Int.cast_ofNat_Int, encV, encG, encP, hi0, hg, hwr, hi]; first | refine callK_r (by first | assumption | exact hix | exact hcn) (by first | exact .inl rfl | exact .inr rfl) ?_ | (refine callK_i (by assumption) ?_ ?_ ?_; (solve | (repeat (first | exact DLe.refl _ | exact DLe.nil _ | (refine DLe.tup ?_) | (refine DLe.agg ?_ rfl) | exact trivial | (refine And.intro ?_ ?_)))); (solve | exact .inl rfl | exact .inr rfl))) | (refine opK_M [] (hbg) ?_ ?_ ?_ ?_ ?_ ?_; (solve | rfl | simp only [go_sem, ↓reduceIte, reduceCtorEq, Nat.reduceAdd, Nat.reduceMul, Nat.reduceSub, Nat.reduceLeDiff, Nat.reduceLT, Nat.reduceEqDiff, Int.reduceLE, Int.reduceLT, Int.reduceToNat, Int.reduceBEq, Int.reduceBNe, Int.reduceEq, Int.reduceAdd, Int.reduceSub, Int.reduceMul, Int.reduceNeg, Int.cast_ofNat_Int, encV]); (solve | rfl); (solve | decide); (solve | simp); (solve | simp only [go_sem, ↓reduceIte, reduceCtorEq, Nat.reduceAdd, Nat.reduceMul, Nat.reduceSub, Nat.reduceLeDiff, Nat.reduceLT, Nat.reduceEqDiff, Int.reduceLE, Int.reduceLT, Int.reduceToNat, Int.reduceBEq, Int.reduceBNe, Int.reduceEq, Int.reduceAdd, Int.reduceSub, Int.reduceMul, Int.reduceNeg, Int.cast_ofNat_Int, lentOK, encV])) | (refine opK_M [5] (hd) ?_ ?_ ?_ ?_ ?_ ?_; (solve | rfl | simp only [go_sem, ↓reduceIte, reduceCtorEq, Nat.reduceAdd, Nat.reduceMul, Nat.reduceSub, Nat.reduceLeDiff, Nat.reduceLT, Nat.reduceEqDiff, Int.reduceLE, Int.reduceLT, Int.reduceToNat, Int.reduceBEq, Int.reduceBNe, Int.reduceEq, Int.reduceAdd, Int.reduceSub, Int.reduceMul, Int.reduceNeg, Int.cast_ofNat_Int, encG]); (solve | rfl); (solve | decide); (solve | simp); (solve | simp only [go_sem, ↓reduceIte, reduceCtorEq, Nat.reduceAdd, Nat.reduceMul, Nat.reduceSub, Nat.reduceLeDiff, Nat.reduceLT, Nat.reduceEqDiff, Int.reduceLE, Int.reduceLT, Int.reduceToNat, Int.reduceBEq, Int.reduceBNe, Int.reduceEq, Int.reduceAdd, Int.reduceSub, Int.reduceMul, Int.reduceNeg, Int.cast_ofNat_Int, lentOK, encG])) | omega | exact decide_eq_true (by omega) | exact DLe.refl _)
        all_goals exact (by repeat (first | exact DLe.refl _ | exact DLe.nil _ | (refine DLe.tup ?_) | (refine DLe.agg ?_ rfl) | exact trivial | (refine And.intro ?_ ?_)))
  · have hbg := beginE_m v hc
    have h1 : (chkV v != 0) = true := by simpa using hc
    have hr : R = (Vpc.zero, Rng.zero, chkV v) := by rw [hR.out]; unfold dropV; rw [if_pos hc]
    rw [hr]
    replace hr := Lib.hid hr
    refine ps_i tab_ok mixed Tryz.func8 rfl Tryz.ntmps8 Tryz.results8 (by kernel_rfl) ?_
    repeat' (first | (with_reducible refine And.intro ?_ ?_) | (with_reducible refine gK_i (fun _ => ?_) (fun _ => ?_)) | (with_reducible refine condS_i (fun _ => ?_) (fun _ => ?_)) | (with_reducible refine drw_i (by kernel_rfl)) | simp -dsimp only [go_sem, ↓reduceIte, reduceCtorEq, Nat.reduceAdd, Nat.reduceMul, Nat.reduceSub, Nat.reduceLeDiff, Nat.reduceLT, Nat.reduceEqDiff, Int.reduceLE, Int.reduceLT, Int.reduceToNat, Int.reduceBEq, Int.reduceBNe, Int.reduceEq, Int.reduceAdd, Int.reduceSub, Int.reduceMul, Int.reduceNeg, Int.cast_ofNat_Int, *, encV, encP, h1] | ((with_reducible refine opK_c ?_); simp -dsimp only [go_sem, ↓reduceIte, reduceCtorEq, Nat.reduceAdd, Nat.reduceMul, Nat.reduceSub, Nat.reduceLeDiff, Nat.reduceLT, Nat.reduceEqDiff, Int.reduceLE, Int.reduceLT, Int.reduceToNat, Int.reduceBEq, Int.reduceBNe, Int.reduceEq, Int.reduceAdd, Int.reduceSub, Int.reduceMul, Int.reduceNeg, Int.cast_ofNat_Int, encV, encP, h1]; first | refine callK_r (by first | assumption | fail) (by first | exact .inl rfl | exact .inr rfl) ?_ | (refine callK_i (by assumption) ?_ ?_ ?_; (solve | (repeat (first | exact DLe.refl _ | exact DLe.nil _ | (refine DLe.tup ?_) | (refine DLe.agg ?_ rfl) | exact trivial | (refine And.intro ?_ ?_)))); (solve | exact .inl rfl | exact .inr rfl))) | (refine opK_M [] (hbg) ?_ ?_ ?_ ?_ ?_ ?_; (solve | rfl | simp only [go_sem, ↓reduceIte, reduceCtorEq, Nat.reduceAdd, Nat.reduceMul, Nat.reduceSub, Nat.reduceLeDiff, Nat.reduceLT, Nat.reduceEqDiff, Int.reduceLE, Int.reduceLT, Int.reduceToNat, Int.reduceBEq, Int.reduceBNe, Int.reduceEq, Int.reduceAdd, Int.reduceSub, Int.reduceMul, Int.reduceNeg, Int.cast_ofNat_Int, encV]); (solve | rfl); (solve | decide); (solve | simp); (solve | simp only [go_sem, ↓reduceIte, reduceCtorEq, Nat.reduceAdd, Nat.reduceMul, Nat.reduceSub, Nat.reduceLeDiff, Nat.reduceLT, Nat.reduceEqDiff, Int.reduceLE, Int.reduceLT, Int.reduceToNat, Int.reduceBEq, Int.reduceBNe, Int.reduceEq, Int.reduceAdd, Int.reduceSub, Int.reduceMul, Int.reduceNeg, Int.cast_ofNat_Int, lentOK, encV])) | omega | exact decide_eq_true (by omega) | exact DLe.refl _)
    exact (by repeat (first | exact DLe.refl _ | exact DLe.nil _ | (refine DLe.tup ?_) | (refine DLe.agg ?_ rfl) | exact trivial | (refine And.intro ?_ ?_)))
def subErr (v : Vpc) (id : Int) (p : Pfx) : Int :=
  if idOK id = false ∨ holdsV v p = false then 3 else
  if (v.subs.any fun s => (s.id == id) || s.at_.meets p) = true then 6 else if v.subs.length = 6 then 2 else 0
/-- Sub's answer. -/
def subV (v : Vpc) (id : Int) (p : Pfx) : Vpc × Int :=
  if chkV v ≠ 0 then (Vpc.zero, chkV v) else if subErr v id p ≠ 0 then (Vpc.zero, subErr v id p) else ({ v with subs := insK (·.id) ⟨id, p, []⟩ v.subs }, 0)
theorem sub1_p (s : Sbn) (id : Int) (p : Pfx) : PSpec Tryz.prog 59 [.agg (encN s), .ept [.v (.int .i64 id)], .ept (encP p)] (.v (.bool ((s.id == id) || s.at_.meets p))) := by
  have hm : PSpec Tryz.prog 31 [.agg (encP s.at_), .agg (encP p)] (.v (.bool (s.at_.meets p))) := meets_p _ _
  cases h1 : s.id == id
  all_goals
    refine ps_i tab_ok mixed Tryz.func59 rfl Tryz.ntmps59 Tryz.results59 (by kernel_rfl) ?_
    repeat' (first | (with_reducible refine And.intro ?_ ?_) | (with_reducible refine gK_i (fun _ => ?_) (fun _ => ?_)) | (with_reducible refine condS_i (fun _ => ?_) (fun _ => ?_)) | (with_reducible refine drw_i (by kernel_rfl)) | simp -dsimp only [go_sem, ↓reduceIte, reduceCtorEq, Nat.reduceAdd, Nat.reduceMul, Nat.reduceSub, Nat.reduceLeDiff, Nat.reduceLT, Nat.reduceEqDiff, Int.reduceLE, Int.reduceLT, Int.reduceToNat, Int.reduceBEq, Int.reduceBNe, Int.reduceEq, Int.reduceAdd, Int.reduceSub, Int.reduceMul, Int.reduceNeg, Int.cast_ofNat_Int, *, encN, encP, h1, undef] | ((with_reducible refine opK_c ?_); simp -dsimp only [go_sem, ↓reduceIte, reduceCtorEq, Nat.reduceAdd, Nat.reduceMul, Nat.reduceSub, Nat.reduceLeDiff, Nat.reduceLT, Nat.reduceEqDiff, Int.reduceLE, Int.reduceLT, Int.reduceToNat, Int.reduceBEq, Int.reduceBNe, Int.reduceEq, Int.reduceAdd, Int.reduceSub, Int.reduceMul, Int.reduceNeg, Int.cast_ofNat_Int, encN, encP, h1, undef]; first | refine callK_r (by first | assumption | exact hm) (by first | exact .inl rfl | exact .inr rfl) ?_ | (refine callK_i (by assumption) ?_ ?_ ?_; (solve | (repeat (first | exact DLe.refl _ | exact DLe.nil _ | (refine DLe.tup ?_) | (refine DLe.agg ?_ rfl) | exact trivial | (refine And.intro ?_ ?_)))); (solve | exact .inl rfl | exact .inr rfl))) | fail | omega | exact decide_eq_true (by omega) | exact DLe.refl _)
set_option maxRecDepth 100000 in
set_option maxHeartbeats 1000000 in
theorem vsub_p (v : Vpc) (id : Int) (p : Pfx) : PSpec Tryz.prog 15 [.agg (encV v), .v (.int .i64 id), .agg (encP p)] (.tup [.agg (encV (subV v id p).1), .v (.int .i64 (subV v id p).2)]) := by
  obtain ⟨R, hR⟩ : ∃ R, R = subV v id p := ⟨_, rfl⟩
  rw [← hR]
  replace hR := Lib.hid hR
  by_cases hc : chkV v = 0
  · have hk := vpcOK_of hc
    have hbg := beginD_m v hc hk.n4 hk.n6 hk.n8
    have hid := vids_p id
    have hho := vholds_p v p (by have := hk.n4; omega)
    have hcn := cntf_Sub encN_len (fun s => (s.id == id) || s.at_.meets p) v.subs 59 [.ept [.v (.int .i64 id)], .ept (encP p)] (by have := hk.n6; omega) (fun s _ => sub1_p s id p)
    have hR2 : R = if subErr v id p ≠ 0 then (Vpc.zero, subErr v id p) else ({ v with subs := insK (·.id) ⟨id, p, []⟩ v.subs }, 0) := by rw [hR.out]; unfold subV; rw [if_neg (by simpa using hc)]
    have hn6 := hk.n6
    by_cases hbad : subErr v id p ≠ 0
    · rw [if_pos hbad] at hR2
      unfold subErr at hR2 hbad
      generalize holdsV v p = K at *
      generalize idOK id = I at *
      generalize (v.subs.any fun s => (s.id == id) || s.at_.meets p) = M at *
      replace hR2 := Lib.hid hR2
      replace hbad := Lib.hid hbad
      clear hR hc hk
      have hl4 : ((v.subs.length : Int) == 6) = decide (v.subs.length = 6) := by rw [Bool.eq_iff_iff]; simp; omega
      refine ps_i tab_ok mixed Tryz.func15 rfl Tryz.ntmps15 Tryz.results15 (by kernel_rfl) ?_
      repeat' (first | (with_reducible refine And.intro ?_ ?_) | (with_reducible refine gK_i (fun _ => ?_) (fun _ => ?_)) | (with_reducible refine condS_i (fun _ => ?_) (fun _ => ?_)) | (with_reducible refine drw_i (by kernel_rfl)) | simp -dsimp only [go_sem, ↓reduceIte, reduceCtorEq, Nat.reduceAdd, Nat.reduceMul, Nat.reduceSub, Nat.reduceLeDiff, Nat.reduceLT, Nat.reduceEqDiff, Int.reduceLE, Int.reduceLT, Int.reduceToNat, Int.reduceBEq, Int.reduceBNe, Int.reduceEq, Int.reduceAdd, Int.reduceSub, Int.reduceMul, Int.reduceNeg, Int.cast_ofNat_Int, *, encV, encP, hl4] | ((with_reducible refine opK_c ?_); simp -dsimp only [go_sem, ↓reduceIte, reduceCtorEq, Nat.reduceAdd, Nat.reduceMul, Nat.reduceSub, Nat.reduceLeDiff, Nat.reduceLT, Nat.reduceEqDiff, Int.reduceLE, Int.reduceLT, Int.reduceToNat, Int.reduceBEq, Int.reduceBNe, Int.reduceEq, Int.reduceAdd, Int.reduceSub, Int.reduceMul, Int.reduceNeg, Int.cast_ofNat_Int, encV, encP, hl4]; first | refine callK_r (by first | assumption | exact hid | exact hho | exact hcn) (by first | exact .inl rfl | exact .inr rfl) ?_ | (refine callK_i (by assumption) ?_ ?_ ?_; (solve | (repeat (first | exact DLe.refl _ | exact DLe.nil _ | (refine DLe.tup ?_) | (refine DLe.agg ?_ rfl) | exact trivial | (refine And.intro ?_ ?_)))); (solve | exact .inl rfl | exact .inr rfl))) | (refine opK_M [] (hbg) ?_ ?_ ?_ ?_ ?_ ?_; (solve | rfl | simp only [go_sem, ↓reduceIte, reduceCtorEq, Nat.reduceAdd, Nat.reduceMul, Nat.reduceSub, Nat.reduceLeDiff, Nat.reduceLT, Nat.reduceEqDiff, Int.reduceLE, Int.reduceLT, Int.reduceToNat, Int.reduceBEq, Int.reduceBNe, Int.reduceEq, Int.reduceAdd, Int.reduceSub, Int.reduceMul, Int.reduceNeg, Int.cast_ofNat_Int, encV]); (solve | rfl); (solve | decide); (solve | simp); (solve | simp only [go_sem, ↓reduceIte, reduceCtorEq, Nat.reduceAdd, Nat.reduceMul, Nat.reduceSub, Nat.reduceLeDiff, Nat.reduceLT, Nat.reduceEqDiff, Int.reduceLE, Int.reduceLT, Int.reduceToNat, Int.reduceBEq, Int.reduceBNe, Int.reduceEq, Int.reduceAdd, Int.reduceSub, Int.reduceMul, Int.reduceNeg, Int.cast_ofNat_Int, lentOK, encV])) | omega | exact decide_eq_true (by omega) | exact DLe.refl _)
      all_goals
        have h1 := hR2.out
        have h2 := hbad.out
        clear hid hho hcn hbg
        first
          | (exfalso; grind)
          | (rw [show R = (Vpc.zero, 3) from (by rw [h1]; grind)]; exact (by repeat (first | exact DLe.refl _ | exact DLe.nil _ | (refine DLe.tup ?_) | (refine DLe.agg ?_ rfl) | exact trivial | (refine And.intro ?_ ?_))))
          | (rw [show R = (Vpc.zero, 6) from (by rw [h1]; grind)]; exact (by repeat (first | exact DLe.refl _ | exact DLe.nil _ | (refine DLe.tup ?_) | (refine DLe.agg ?_ rfl) | exact trivial | (refine And.intro ?_ ?_))))
          | (rw [show R = (Vpc.zero, 2) from (by rw [h1]; grind)]; exact (by repeat (first | exact DLe.refl _ | exact DLe.nil _ | (refine DLe.tup ?_) | (refine DLe.agg ?_ rfl) | exact trivial | (refine And.intro ?_ ?_))))
    · rw [if_neg hbad] at hR2
      have hg : subErr v id p = 0 := by simpa using hbad
      obtain ⟨g1, g2, g3, g4⟩ : holdsV v p = true ∧ idOK id = true ∧ (v.subs.any fun s => (s.id == id) || s.at_.meets p) = false ∧ v.subs.length ≠ 6 := by
        unfold subErr at hg
        generalize (v.subs.any fun s => (s.id == id) || s.at_.meets p) = M at *
        grind
      have hne : ∀ s ∈ v.subs, s.id ≠ (⟨id, p, []⟩ : Sbn).id := fun s hs => by have := List.any_eq_false.1 g3 s hs; simp at this; exact this.1
      have hso := sort_Sub (l := v.subs ++ [⟨id, p, []⟩]) (l' := insK (·.id) ⟨id, p, []⟩ v.subs) (v.subs.length + 1) (by simp) (insK_perm _ _ _) (insK_sorted hk.rs hne) (by simp; omega)
      rw [g1] at hho
      rw [g2] at hid
      rw [g3] at hcn
      have hl4 : ((v.subs.length : Int) == 6) = false := by simp; omega
      have hb1 : v.subs.length + 1 ≤ 100 := by omega
      simp only [List.map_append, List.map_cons, List.map_nil] at hso
      have hso := hso.leh (rles_mid (A := v.subs.map encN) (B := []) (r := [.v (.int .i64 id), .v (.int .i64 p.at_), .v (.int .i64 p.len), .v (.slice none 0 0)]) (by repeat (first | exact DLe.refl _ | exact DLe.nil _ | (refine DLe.tup ?_) | (refine DLe.agg ?_ rfl) | exact trivial | (refine And.intro ?_ ?_)))) (by have := dRows_one2 (enc := encN) (fun _ => rfl) (v.subs ++ [⟨id, p, []⟩]); simpa using this) (belowR_d _ _)
      rw [hR2]
      clear hR hR2 hc hk hne hg hbad
      refine ps_i tab_ok mixed Tryz.func15 rfl Tryz.ntmps15 Tryz.results15 (by kernel_rfl) ?_
      repeat' (first | (with_reducible refine And.intro ?_ ?_) | (with_reducible refine gK_i (fun _ => ?_) (fun _ => ?_)) | (with_reducible refine condS_i (fun _ => ?_) (fun _ => ?_)) | (with_reducible refine drw_i (by kernel_rfl)) | simp -dsimp only [go_sem, ↓reduceIte, reduceCtorEq, Nat.reduceAdd, Nat.reduceMul, Nat.reduceSub, Nat.reduceLeDiff, Nat.reduceLT, Nat.reduceEqDiff, Int.reduceLE, Int.reduceLT, Int.reduceToNat, Int.reduceBEq, Int.reduceBNe, Int.reduceEq, Int.reduceAdd, Int.reduceSub, Int.reduceMul, Int.reduceNeg, Int.cast_ofNat_Int, *, encV, encP, hl4, hb1] | ((with_reducible refine opK_c ?_); simp -dsimp only [go_sem, ↓reduceIte, reduceCtorEq, Nat.reduceAdd, Nat.reduceMul, Nat.reduceSub, Nat.reduceLeDiff, Nat.reduceLT, Nat.reduceEqDiff, Int.reduceLE, Int.reduceLT, Int.reduceToNat, Int.reduceBEq, Int.reduceBNe, Int.reduceEq, Int.reduceAdd, Int.reduceSub, Int.reduceMul, Int.reduceNeg, Int.cast_ofNat_Int, encV, encP, hl4, hb1]; first | refine callK_r (by first | assumption | exact hid | exact hho | exact hcn) (by first | exact .inl rfl | exact .inr rfl) ?_ | (refine callK_i (by assumption) ?_ ?_ ?_; (solve | (repeat (first | exact DLe.refl _ | exact DLe.nil _ | (refine DLe.tup ?_) | (refine DLe.agg ?_ rfl) | exact trivial | (refine And.intro ?_ ?_)))); (solve | exact .inl rfl | exact .inr rfl))) | (refine opK_M [] (hbg) ?_ ?_ ?_ ?_ ?_ ?_; (solve | rfl | simp only [go_sem, ↓reduceIte, reduceCtorEq, Nat.reduceAdd, Nat.reduceMul, Nat.reduceSub, Nat.reduceLeDiff, Nat.reduceLT, Nat.reduceEqDiff, Int.reduceLE, Int.reduceLT, Int.reduceToNat, Int.reduceBEq, Int.reduceBNe, Int.reduceEq, Int.reduceAdd, Int.reduceSub, Int.reduceMul, Int.reduceNeg, Int.cast_ofNat_Int, encV]); (solve | rfl); (solve | decide); (solve | simp); (solve | simp only [go_sem, ↓reduceIte, reduceCtorEq, Nat.reduceAdd, Nat.reduceMul, Nat.reduceSub, Nat.reduceLeDiff, Nat.reduceLT, Nat.reduceEqDiff, Int.reduceLE, Int.reduceLT, Int.reduceToNat, Int.reduceBEq, Int.reduceBNe, Int.reduceEq, Int.reduceAdd, Int.reduceSub, Int.reduceMul, Int.reduceNeg, Int.cast_ofNat_Int, lentOK, encV])) | (refine opK_M [7] (hso) ?_ ?_ ?_ ?_ ?_ ?_; (solve | rfl | simp only [go_sem, ↓reduceIte, reduceCtorEq, Nat.reduceAdd, Nat.reduceMul, Nat.reduceSub, Nat.reduceLeDiff, Nat.reduceLT, Nat.reduceEqDiff, Int.reduceLE, Int.reduceLT, Int.reduceToNat, Int.reduceBEq, Int.reduceBNe, Int.reduceEq, Int.reduceAdd, Int.reduceSub, Int.reduceMul, Int.reduceNeg, Int.cast_ofNat_Int, encN]); (solve | rfl); (solve | decide); (solve | simp); (solve | simp only [go_sem, ↓reduceIte, reduceCtorEq, Nat.reduceAdd, Nat.reduceMul, Nat.reduceSub, Nat.reduceLeDiff, Nat.reduceLT, Nat.reduceEqDiff, Int.reduceLE, Int.reduceLT, Int.reduceToNat, Int.reduceBEq, Int.reduceBNe, Int.reduceEq, Int.reduceAdd, Int.reduceSub, Int.reduceMul, Int.reduceNeg, Int.cast_ofNat_Int, lentOK, encN])) | omega | exact decide_eq_true (by omega) | exact DLe.refl _)
  · have hbg := beginE_m v hc
    have h1 : (chkV v != 0) = true := by simpa using hc
    have hr : R = (Vpc.zero, chkV v) := by rw [hR.out]; unfold subV; rw [if_pos hc]
    rw [hr]
    replace hr := Lib.hid hr
    refine ps_i tab_ok mixed Tryz.func15 rfl Tryz.ntmps15 Tryz.results15 (by kernel_rfl) ?_
    repeat' (first | (with_reducible refine And.intro ?_ ?_) | (with_reducible refine gK_i (fun _ => ?_) (fun _ => ?_)) | (with_reducible refine condS_i (fun _ => ?_) (fun _ => ?_)) | (with_reducible refine drw_i (by kernel_rfl)) | simp -dsimp only [go_sem, ↓reduceIte, reduceCtorEq, Nat.reduceAdd, Nat.reduceMul, Nat.reduceSub, Nat.reduceLeDiff, Nat.reduceLT, Nat.reduceEqDiff, Int.reduceLE, Int.reduceLT, Int.reduceToNat, Int.reduceBEq, Int.reduceBNe, Int.reduceEq, Int.reduceAdd, Int.reduceSub, Int.reduceMul, Int.reduceNeg, Int.cast_ofNat_Int, *, encV, encP, h1] | ((with_reducible refine opK_c ?_); simp -dsimp only [go_sem, ↓reduceIte, reduceCtorEq, Nat.reduceAdd, Nat.reduceMul, Nat.reduceSub, Nat.reduceLeDiff, Nat.reduceLT, Nat.reduceEqDiff, Int.reduceLE, Int.reduceLT, Int.reduceToNat, Int.reduceBEq, Int.reduceBNe, Int.reduceEq, Int.reduceAdd, Int.reduceSub, Int.reduceMul, Int.reduceNeg, Int.cast_ofNat_Int, encV, encP, h1]; first | refine callK_r (by first | assumption | fail) (by first | exact .inl rfl | exact .inr rfl) ?_ | (refine callK_i (by assumption) ?_ ?_ ?_; (solve | (repeat (first | exact DLe.refl _ | exact DLe.nil _ | (refine DLe.tup ?_) | (refine DLe.agg ?_ rfl) | exact trivial | (refine And.intro ?_ ?_)))); (solve | exact .inl rfl | exact .inr rfl))) | (refine opK_M [] (hbg) ?_ ?_ ?_ ?_ ?_ ?_; (solve | rfl | simp only [go_sem, ↓reduceIte, reduceCtorEq, Nat.reduceAdd, Nat.reduceMul, Nat.reduceSub, Nat.reduceLeDiff, Nat.reduceLT, Nat.reduceEqDiff, Int.reduceLE, Int.reduceLT, Int.reduceToNat, Int.reduceBEq, Int.reduceBNe, Int.reduceEq, Int.reduceAdd, Int.reduceSub, Int.reduceMul, Int.reduceNeg, Int.cast_ofNat_Int, encV]); (solve | rfl); (solve | decide); (solve | simp); (solve | simp only [go_sem, ↓reduceIte, reduceCtorEq, Nat.reduceAdd, Nat.reduceMul, Nat.reduceSub, Nat.reduceLeDiff, Nat.reduceLT, Nat.reduceEqDiff, Int.reduceLE, Int.reduceLT, Int.reduceToNat, Int.reduceBEq, Int.reduceBNe, Int.reduceEq, Int.reduceAdd, Int.reduceSub, Int.reduceMul, Int.reduceNeg, Int.cast_ofNat_Int, lentOK, encV])) | omega | exact decide_eq_true (by omega) | exact DLe.refl _)
    exact (by repeat (first | exact DLe.refl _ | exact DLe.nil _ | (refine DLe.tup ?_) | (refine DLe.agg ?_ rfl) | exact trivial | (refine And.intro ?_ ?_)))
/-- A subnet's place, and a face's. -/
def faceIx (v : Vpc) (i : Nat) (id : Int) : Int := match v.subs[i]? with | some s => idxI (fun f => f.id == id) s.faces | none => -1
def findV (v : Vpc) (sub id : Int) : Int × Int := match v.subs.findIdx? (fun s => s.id == sub) with | none => (-1, -1) | some i => (i, faceIx v i id)
theorem vfind1_p (s : Sbn) (id : Int) : PSpec Tryz.prog 96 [.agg (encN s), .ept [.v (.int .i64 id)]] (.v (.bool (s.id == id))) := by
  refine ps_i tab_ok mixed Tryz.func96 rfl Tryz.ntmps96 Tryz.results96 (by kernel_rfl) ?_
  repeat' (first | (with_reducible refine And.intro ?_ ?_) | (with_reducible refine gK_i (fun _ => ?_) (fun _ => ?_)) | (with_reducible refine condS_i (fun _ => ?_) (fun _ => ?_)) | (with_reducible refine drw_i (by kernel_rfl)) | simp -dsimp only [go_sem, ↓reduceIte, reduceCtorEq, Nat.reduceAdd, Nat.reduceMul, Nat.reduceSub, Nat.reduceLeDiff, Nat.reduceLT, Nat.reduceEqDiff, Int.reduceLE, Int.reduceLT, Int.reduceToNat, Int.reduceBEq, Int.reduceBNe, Int.reduceEq, Int.reduceAdd, Int.reduceSub, Int.reduceMul, Int.reduceNeg, Int.cast_ofNat_Int, *, encN] | ((with_reducible refine opK_c ?_); simp -dsimp only [go_sem, ↓reduceIte, reduceCtorEq, Nat.reduceAdd, Nat.reduceMul, Nat.reduceSub, Nat.reduceLeDiff, Nat.reduceLT, Nat.reduceEqDiff, Int.reduceLE, Int.reduceLT, Int.reduceToNat, Int.reduceBEq, Int.reduceBNe, Int.reduceEq, Int.reduceAdd, Int.reduceSub, Int.reduceMul, Int.reduceNeg, Int.cast_ofNat_Int, encN]; first | refine callK_r (by first | assumption | fail) (by first | exact .inl rfl | exact .inr rfl) ?_ | (refine callK_i (by assumption) ?_ ?_ ?_; (solve | (repeat (first | exact DLe.refl _ | exact DLe.nil _ | (refine DLe.tup ?_) | (refine DLe.agg ?_ rfl) | exact trivial | (refine And.intro ?_ ?_)))); (solve | exact .inl rfl | exact .inr rfl))) | fail | omega | exact decide_eq_true (by omega) | exact DLe.refl _)
theorem vfind2_p (f : Fce) (id : Int) : PSpec Tryz.prog 98 [.agg (encF f), .ept [.v (.int .i64 id)]] (.v (.bool (f.id == id))) := by
  refine ps_i tab_ok mixed Tryz.func98 rfl Tryz.ntmps98 Tryz.results98 (by kernel_rfl) ?_
  repeat' (first | (with_reducible refine And.intro ?_ ?_) | (with_reducible refine gK_i (fun _ => ?_) (fun _ => ?_)) | (with_reducible refine condS_i (fun _ => ?_) (fun _ => ?_)) | (with_reducible refine drw_i (by kernel_rfl)) | simp -dsimp only [go_sem, ↓reduceIte, reduceCtorEq, Nat.reduceAdd, Nat.reduceMul, Nat.reduceSub, Nat.reduceLeDiff, Nat.reduceLT, Nat.reduceEqDiff, Int.reduceLE, Int.reduceLT, Int.reduceToNat, Int.reduceBEq, Int.reduceBNe, Int.reduceEq, Int.reduceAdd, Int.reduceSub, Int.reduceMul, Int.reduceNeg, Int.cast_ofNat_Int, *, encF] | ((with_reducible refine opK_c ?_); simp -dsimp only [go_sem, ↓reduceIte, reduceCtorEq, Nat.reduceAdd, Nat.reduceMul, Nat.reduceSub, Nat.reduceLeDiff, Nat.reduceLT, Nat.reduceEqDiff, Int.reduceLE, Int.reduceLT, Int.reduceToNat, Int.reduceBEq, Int.reduceBNe, Int.reduceEq, Int.reduceAdd, Int.reduceSub, Int.reduceMul, Int.reduceNeg, Int.cast_ofNat_Int, encF]; first | refine callK_r (by first | assumption | fail) (by first | exact .inl rfl | exact .inr rfl) ?_ | (refine callK_i (by assumption) ?_ ?_ ?_; (solve | (repeat (first | exact DLe.refl _ | exact DLe.nil _ | (refine DLe.tup ?_) | (refine DLe.agg ?_ rfl) | exact trivial | (refine And.intro ?_ ?_)))); (solve | exact .inl rfl | exact .inr rfl))) | fail | omega | exact decide_eq_true (by omega) | exact DLe.refl _)
set_option maxRecDepth 100000 in
theorem vfind_p (v : Vpc) (sub id : Int) (h6 : v.subs.length ≤ 6) (h8 : ∀ s ∈ v.subs, s.faces.length ≤ 8) : PSpec Tryz.prog 62 [.ept (encV v), .v (.int .i64 sub), .v (.int .i64 id)] (.tup [.v (.int .i64 (findV v sub id).1), .v (.int .i64 (findV v sub id).2)]) := by
  have hix := idxf_Sub encN_len (fun s => s.id == sub) v.subs 96 [.ept [.v (.int .i64 sub)]] (by omega) (fun s _ => vfind1_p s sub)
  unfold findV
  unfold idxI at hix
  cases hf : v.subs.findIdx? (fun s => s.id == sub) with
  | none =>
    rw [hf] at hix
    replace hf := Lib.hid hf
    refine ps_i tab_ok mixed Tryz.func62 rfl Tryz.ntmps62 Tryz.results62 (by kernel_rfl) ?_
    repeat' (first | (with_reducible refine And.intro ?_ ?_) | (with_reducible refine gK_i (fun _ => ?_) (fun _ => ?_)) | (with_reducible refine condS_i (fun _ => ?_) (fun _ => ?_)) | (with_reducible refine drw_i (by kernel_rfl)) | simp -dsimp only [go_sem, ↓reduceIte, reduceCtorEq, Nat.reduceAdd, Nat.reduceMul, Nat.reduceSub, Nat.reduceLeDiff, Nat.reduceLT, Nat.reduceEqDiff, Int.reduceLE, Int.reduceLT, Int.reduceToNat, Int.reduceBEq, Int.reduceBNe, Int.reduceEq, Int.reduceAdd, Int.reduceSub, Int.reduceMul, Int.reduceNeg, Int.cast_ofNat_Int, *, encV] | ((with_reducible refine opK_c ?_); simp -dsimp only [go_sem, ↓reduceIte, reduceCtorEq, Nat.reduceAdd, Nat.reduceMul, Nat.reduceSub, Nat.reduceLeDiff, Nat.reduceLT, Nat.reduceEqDiff, Int.reduceLE, Int.reduceLT, Int.reduceToNat, Int.reduceBEq, Int.reduceBNe, Int.reduceEq, Int.reduceAdd, Int.reduceSub, Int.reduceMul, Int.reduceNeg, Int.cast_ofNat_Int, encV]; first | refine callK_r (by first | assumption | exact hix) (by first | exact .inl rfl | exact .inr rfl) ?_ | (refine callK_i (by assumption) ?_ ?_ ?_; (solve | (repeat (first | exact DLe.refl _ | exact DLe.nil _ | (refine DLe.tup ?_) | (refine DLe.agg ?_ rfl) | exact trivial | (refine And.intro ?_ ?_)))); (solve | exact .inl rfl | exact .inr rfl))) | fail | omega | exact decide_eq_true (by omega) | exact DLe.refl _)
    all_goals exact (by repeat (first | exact DLe.refl _ | exact DLe.nil _ | (refine DLe.tup ?_) | (refine DLe.agg ?_ rfl) | exact trivial | (refine And.intro ?_ ?_)))
  | some i =>
    rw [hf] at hix
    have hi : i < v.subs.length := (List.findIdx?_eq_some_iff_getElem.1 hf).1
    obtain ⟨s, hs⟩ : ∃ s, v.subs[i]? = some s := ⟨_, List.getElem?_eq_getElem hi⟩
    have hi0 : decide ((i : Int) < 0) = false := by simp
    have hfx := idxf_Face encF_len (fun f => f.id == id) s.faces 98 [.ept [.v (.int .i64 id)]] (by have := h8 s (List.mem_of_getElem? hs); omega) (fun f _ => vfind2_p f id)
    unfold faceIx
    simp only
    rw [hs]
    replace hf := Lib.hid hf
    refine ps_i tab_ok mixed Tryz.func62 rfl Tryz.ntmps62 Tryz.results62 (by kernel_rfl) ?_
    repeat' (first | (with_reducible refine And.intro ?_ ?_) | (with_reducible refine gK_i (fun _ => ?_) (fun _ => ?_)) | (with_reducible refine condS_i (fun _ => ?_) (fun _ => ?_)) | (with_reducible refine drw_i (by kernel_rfl)) | simp -dsimp only [go_sem, ↓reduceIte, reduceCtorEq, Nat.reduceAdd, Nat.reduceMul, Nat.reduceSub, Nat.reduceLeDiff, Nat.reduceLT, Nat.reduceEqDiff, Int.reduceLE, Int.reduceLT, Int.reduceToNat, Int.reduceBEq, Int.reduceBNe, Int.reduceEq, Int.reduceAdd, Int.reduceSub, Int.reduceMul, Int.reduceNeg, Int.cast_ofNat_Int, *, encV, encN, hs, hi0] | ((with_reducible refine opK_c ?_); simp -dsimp only [go_sem, ↓reduceIte, reduceCtorEq, Nat.reduceAdd, Nat.reduceMul, Nat.reduceSub, Nat.reduceLeDiff, Nat.reduceLT, Nat.reduceEqDiff, Int.reduceLE, Int.reduceLT, Int.reduceToNat, Int.reduceBEq, Int.reduceBNe, Int.reduceEq, Int.reduceAdd, Int.reduceSub, Int.reduceMul, Int.reduceNeg, Int.cast_ofNat_Int, encV, encN, hs, hi0]; first | refine callK_r (by first | assumption | exact hix | exact hfx) (by first | exact .inl rfl | exact .inr rfl) ?_ | (refine callK_i (by assumption) ?_ ?_ ?_; (solve | (repeat (first | exact DLe.refl _ | exact DLe.nil _ | (refine DLe.tup ?_) | (refine DLe.agg ?_ rfl) | exact trivial | (refine And.intro ?_ ?_)))); (solve | exact .inl rfl | exact .inr rfl))) | fail | omega | exact decide_eq_true (by omega) | exact DLe.refl _)
    all_goals exact (by repeat (first | exact DLe.refl _ | exact DLe.nil _ | (refine DLe.tup ?_) | (refine DLe.agg ?_ rfl) | exact trivial | (refine And.intro ?_ ?_)))
/-- Unsub's answer. -/
def unsubV (v : Vpc) (id : Int) : Vpc × Int :=
  if chkV v ≠ 0 then (Vpc.zero, chkV v) else
  match v.subs.findIdx? (fun s => s.id == id) with
  | none => (Vpc.zero, 5)
  | some i => if (v.subs[i]?.map fun s => s.faces.length) ≠ some 0 then (Vpc.zero, 9) else ({ v with subs := v.subs.eraseIdx i }, 0)
theorem find_zero (sub id : Int) : PSpec Tryz.prog 62 [.ept [.v (.int .i64 0), .v (.slice none 0 0), .v (.slice none 0 0)], .v (.int .i64 sub), .v (.int .i64 id)] (.tup [.v (.int .i64 (-1)), .v (.int .i64 (-1))]) := by
  have hix := (idxf_Sub encN_len (fun s => s.id == sub) [] 96 [.ept [.v (.int .i64 sub)]] (by simp) (fun s _ => vfind1_p s sub)).args (ds := [.v (.slice none 0 0), .clo 96 [.ept [.v (.int .i64 sub)]]]) ⟨DLe.nil _, DLe.refl _, trivial⟩
  unfold idxI at hix
  simp only [List.findIdx?_nil] at hix
  refine ps_i tab_ok mixed Tryz.func62 rfl Tryz.ntmps62 Tryz.results62 (by kernel_rfl) ?_
  repeat' (first | (with_reducible refine And.intro ?_ ?_) | (with_reducible refine gK_i (fun _ => ?_) (fun _ => ?_)) | (with_reducible refine condS_i (fun _ => ?_) (fun _ => ?_)) | (with_reducible refine drw_i (by kernel_rfl)) | simp -dsimp only [go_sem, ↓reduceIte, reduceCtorEq, Nat.reduceAdd, Nat.reduceMul, Nat.reduceSub, Nat.reduceLeDiff, Nat.reduceLT, Nat.reduceEqDiff, Int.reduceLE, Int.reduceLT, Int.reduceToNat, Int.reduceBEq, Int.reduceBNe, Int.reduceEq, Int.reduceAdd, Int.reduceSub, Int.reduceMul, Int.reduceNeg, Int.cast_ofNat_Int, *, encV] | ((with_reducible refine opK_c ?_); simp -dsimp only [go_sem, ↓reduceIte, reduceCtorEq, Nat.reduceAdd, Nat.reduceMul, Nat.reduceSub, Nat.reduceLeDiff, Nat.reduceLT, Nat.reduceEqDiff, Int.reduceLE, Int.reduceLT, Int.reduceToNat, Int.reduceBEq, Int.reduceBNe, Int.reduceEq, Int.reduceAdd, Int.reduceSub, Int.reduceMul, Int.reduceNeg, Int.cast_ofNat_Int, encV]; first | refine callK_r (by first | assumption | exact hix) (by first | exact .inl rfl | exact .inr rfl) ?_ | (refine callK_i (by assumption) ?_ ?_ ?_; (solve | (repeat (first | exact DLe.refl _ | exact DLe.nil _ | (refine DLe.tup ?_) | (refine DLe.agg ?_ rfl) | exact trivial | (refine And.intro ?_ ?_)))); (solve | exact .inl rfl | exact .inr rfl))) | fail | omega | exact decide_eq_true (by omega) | exact DLe.refl _)
set_option maxRecDepth 100000 in
set_option maxHeartbeats 1000000 in
theorem unsub_p (v : Vpc) (id : Int) : PSpec Tryz.prog 16 [.agg (encV v), .v (.int .i64 id)] (.tup [.agg (encV (unsubV v id).1), .v (.int .i64 (unsubV v id).2)]) := by
  obtain ⟨R, hR⟩ : ∃ R, R = unsubV v id := ⟨_, rfl⟩
  rw [← hR]
  replace hR := Lib.hid hR
  by_cases hc : chkV v = 0
  · have hk := vpcOK_of hc
    have hbg := beginD_m v hc hk.n4 hk.n6 hk.n8
    have hfd := vfind_p v id 0 hk.n6 (fun s hs => (hk.n8 s hs).1)
    have hn6 := hk.n6
    unfold findV at hfd
    cases hf : v.subs.findIdx? (fun s => s.id == id) with
    | none =>
      rw [hf] at hfd
      have hr : R = (Vpc.zero, 5) := by rw [hR.out]; unfold unsubV; rw [if_neg (by simpa using hc), hf]
      rw [hr]
      clear hr hR hf hc hk
      refine ps_i tab_ok mixed Tryz.func16 rfl Tryz.ntmps16 Tryz.results16 (by kernel_rfl) ?_
      repeat' (first | (with_reducible refine And.intro ?_ ?_) | (with_reducible refine gK_i (fun _ => ?_) (fun _ => ?_)) | (with_reducible refine condS_i (fun _ => ?_) (fun _ => ?_)) | (with_reducible refine drw_i (by kernel_rfl)) | simp -dsimp only [go_sem, ↓reduceIte, reduceCtorEq, Nat.reduceAdd, Nat.reduceMul, Nat.reduceSub, Nat.reduceLeDiff, Nat.reduceLT, Nat.reduceEqDiff, Int.reduceLE, Int.reduceLT, Int.reduceToNat, Int.reduceBEq, Int.reduceBNe, Int.reduceEq, Int.reduceAdd, Int.reduceSub, Int.reduceMul, Int.reduceNeg, Int.cast_ofNat_Int, *, encV] | ((with_reducible refine opK_c ?_); simp -dsimp only [go_sem, ↓reduceIte, reduceCtorEq, Nat.reduceAdd, Nat.reduceMul, Nat.reduceSub, Nat.reduceLeDiff, Nat.reduceLT, Nat.reduceEqDiff, Int.reduceLE, Int.reduceLT, Int.reduceToNat, Int.reduceBEq, Int.reduceBNe, Int.reduceEq, Int.reduceAdd, Int.reduceSub, Int.reduceMul, Int.reduceNeg, Int.cast_ofNat_Int, encV]; first | refine callK_r (by first | assumption | exact hfd) (by first | exact .inl rfl | exact .inr rfl) ?_ | (refine callK_i (by assumption) ?_ ?_ ?_; (solve | (repeat (first | exact DLe.refl _ | exact DLe.nil _ | (refine DLe.tup ?_) | (refine DLe.agg ?_ rfl) | exact trivial | (refine And.intro ?_ ?_)))); (solve | exact .inl rfl | exact .inr rfl))) | (refine opK_M [] (hbg) ?_ ?_ ?_ ?_ ?_ ?_; (solve | rfl | simp only [go_sem, ↓reduceIte, reduceCtorEq, Nat.reduceAdd, Nat.reduceMul, Nat.reduceSub, Nat.reduceLeDiff, Nat.reduceLT, Nat.reduceEqDiff, Int.reduceLE, Int.reduceLT, Int.reduceToNat, Int.reduceBEq, Int.reduceBNe, Int.reduceEq, Int.reduceAdd, Int.reduceSub, Int.reduceMul, Int.reduceNeg, Int.cast_ofNat_Int, encV]); (solve | rfl); (solve | decide); (solve | simp); (solve | simp only [go_sem, ↓reduceIte, reduceCtorEq, Nat.reduceAdd, Nat.reduceMul, Nat.reduceSub, Nat.reduceLeDiff, Nat.reduceLT, Nat.reduceEqDiff, Int.reduceLE, Int.reduceLT, Int.reduceToNat, Int.reduceBEq, Int.reduceBNe, Int.reduceEq, Int.reduceAdd, Int.reduceSub, Int.reduceMul, Int.reduceNeg, Int.cast_ofNat_Int, lentOK, encV])) | omega | exact decide_eq_true (by omega) | exact DLe.refl _)
      exact (by repeat (first | exact DLe.refl _ | exact DLe.nil _ | (refine DLe.tup ?_) | (refine DLe.agg ?_ rfl) | exact trivial | (refine And.intro ?_ ?_)))
    | some i =>
      rw [hf] at hfd
      have hi : i < v.subs.length := (List.findIdx?_eq_some_iff_getElem.1 hf).1
      obtain ⟨s, hs⟩ : ∃ s, v.subs[i]? = some s := ⟨_, List.getElem?_eq_getElem hi⟩
      have hi0 : decide ((i : Int) < 0) = false := by simp
      simp only at hfd
      generalize faceIx v i 0 = FI at hfd
      by_cases h0 : s.faces.length = 0
      · have hr : R = ({ v with subs := v.subs.eraseIdx i }, 0) := by rw [hR.out]; unfold unsubV; rw [if_neg (by simpa using hc), hf]; simp only; rw [hs]; simp [h0]
        have hd := delete_Sub (enc := encN) v.subs i (i + 1) v.subs.length hi rfl
        have hwr : IntKind.i64.wrap ((i : Int) + 1) = ((i + 1 : Nat) : Int) := by rw [IntKind.wrap_i64]; omega
        have h0b : decide ((s.faces.length : Int) > 0) = false := by simp [h0]
        rw [hr]
        clear hr hR hf hc hk h0
        refine ps_i tab_ok mixed Tryz.func16 rfl Tryz.ntmps16 Tryz.results16 (by kernel_rfl) ?_
        repeat' (first | (with_reducible refine And.intro ?_ ?_) | (with_reducible refine gK_i (fun _ => ?_) (fun _ => ?_)) | (with_reducible refine condS_i (fun _ => ?_) (fun _ => ?_)) | (with_reducible refine drw_i (by kernel_rfl)) | simp -dsimp only [go_sem, ↓reduceIte, reduceCtorEq, Nat.reduceAdd, Nat.reduceMul, Nat.reduceSub, Nat.reduceLeDiff, Nat.reduceLT, Nat.reduceEqDiff, Int.reduceLE, Int.reduceLT, Int.reduceToNat, Int.reduceBEq, Int.reduceBNe, Int.reduceEq, Int.reduceAdd, Int.reduceSub, Int.reduceMul, Int.reduceNeg, Int.cast_ofNat_Int, *, encV, encN, hi0, hs, h0b, hwr, hi] | ((with_reducible refine opK_c ?_); simp -dsimp only [go_sem, ↓reduceIte, reduceCtorEq, Nat.reduceAdd, Nat.reduceMul, Nat.reduceSub, Nat.reduceLeDiff, Nat.reduceLT, Nat.reduceEqDiff, Int.reduceLE, Int.reduceLT, Int.reduceToNat, Int.reduceBEq, Int.reduceBNe, Int.reduceEq, Int.reduceAdd, Int.reduceSub, Int.reduceMul, Int.reduceNeg, Int.cast_ofNat_Int, encV, encN, hi0, hs, h0b, hwr, hi]; first | refine callK_r (by first | assumption | exact hfd) (by first | exact .inl rfl | exact .inr rfl) ?_ | (refine callK_i (by assumption) ?_ ?_ ?_; (solve | (repeat (first | exact DLe.refl _ | exact DLe.nil _ | (refine DLe.tup ?_) | (refine DLe.agg ?_ rfl) | exact trivial | (refine And.intro ?_ ?_)))); (solve | exact .inl rfl | exact .inr rfl))) | (refine opK_M [] (hbg) ?_ ?_ ?_ ?_ ?_ ?_; (solve | rfl | simp only [go_sem, ↓reduceIte, reduceCtorEq, Nat.reduceAdd, Nat.reduceMul, Nat.reduceSub, Nat.reduceLeDiff, Nat.reduceLT, Nat.reduceEqDiff, Int.reduceLE, Int.reduceLT, Int.reduceToNat, Int.reduceBEq, Int.reduceBNe, Int.reduceEq, Int.reduceAdd, Int.reduceSub, Int.reduceMul, Int.reduceNeg, Int.cast_ofNat_Int, encV]); (solve | rfl); (solve | decide); (solve | simp); (solve | simp only [go_sem, ↓reduceIte, reduceCtorEq, Nat.reduceAdd, Nat.reduceMul, Nat.reduceSub, Nat.reduceLeDiff, Nat.reduceLT, Nat.reduceEqDiff, Int.reduceLE, Int.reduceLT, Int.reduceToNat, Int.reduceBEq, Int.reduceBNe, Int.reduceEq, Int.reduceAdd, Int.reduceSub, Int.reduceMul, Int.reduceNeg, Int.cast_ofNat_Int, lentOK, encV])) | (refine opK_M [5] (hd) ?_ ?_ ?_ ?_ ?_ ?_; (solve | rfl | simp only [go_sem, ↓reduceIte, reduceCtorEq, Nat.reduceAdd, Nat.reduceMul, Nat.reduceSub, Nat.reduceLeDiff, Nat.reduceLT, Nat.reduceEqDiff, Int.reduceLE, Int.reduceLT, Int.reduceToNat, Int.reduceBEq, Int.reduceBNe, Int.reduceEq, Int.reduceAdd, Int.reduceSub, Int.reduceMul, Int.reduceNeg, Int.cast_ofNat_Int, encN]); (solve | rfl); (solve | decide); (solve | simp); (solve | simp only [go_sem, ↓reduceIte, reduceCtorEq, Nat.reduceAdd, Nat.reduceMul, Nat.reduceSub, Nat.reduceLeDiff, Nat.reduceLT, Nat.reduceEqDiff, Int.reduceLE, Int.reduceLT, Int.reduceToNat, Int.reduceBEq, Int.reduceBNe, Int.reduceEq, Int.reduceAdd, Int.reduceSub, Int.reduceMul, Int.reduceNeg, Int.cast_ofNat_Int, lentOK, encN])) | omega | exact decide_eq_true (by omega) | exact DLe.refl _)
        all_goals exact (by repeat (first | exact DLe.refl _ | exact DLe.nil _ | (refine DLe.tup ?_) | (refine DLe.agg ?_ rfl) | exact trivial | (refine And.intro ?_ ?_)))
      · have hr : R = (Vpc.zero, 9) := by rw [hR.out]; unfold unsubV; rw [if_neg (by simpa using hc), hf]; simp only; rw [hs]; simp [h0]
        have h0b : decide ((s.faces.length : Int) > 0) = true := by simp; omega
        rw [hr]
        clear hr hR hf hc hk h0
        refine ps_i tab_ok mixed Tryz.func16 rfl Tryz.ntmps16 Tryz.results16 (by kernel_rfl) ?_
        repeat' (first | (with_reducible refine And.intro ?_ ?_) | (with_reducible refine gK_i (fun _ => ?_) (fun _ => ?_)) | (with_reducible refine condS_i (fun _ => ?_) (fun _ => ?_)) | (with_reducible refine drw_i (by kernel_rfl)) | simp -dsimp only [go_sem, ↓reduceIte, reduceCtorEq, Nat.reduceAdd, Nat.reduceMul, Nat.reduceSub, Nat.reduceLeDiff, Nat.reduceLT, Nat.reduceEqDiff, Int.reduceLE, Int.reduceLT, Int.reduceToNat, Int.reduceBEq, Int.reduceBNe, Int.reduceEq, Int.reduceAdd, Int.reduceSub, Int.reduceMul, Int.reduceNeg, Int.cast_ofNat_Int, *, encV, encN, hi0, hs, h0b, hi] | ((with_reducible refine opK_c ?_); simp -dsimp only [go_sem, ↓reduceIte, reduceCtorEq, Nat.reduceAdd, Nat.reduceMul, Nat.reduceSub, Nat.reduceLeDiff, Nat.reduceLT, Nat.reduceEqDiff, Int.reduceLE, Int.reduceLT, Int.reduceToNat, Int.reduceBEq, Int.reduceBNe, Int.reduceEq, Int.reduceAdd, Int.reduceSub, Int.reduceMul, Int.reduceNeg, Int.cast_ofNat_Int, encV, encN, hi0, hs, h0b, hi]; first | refine callK_r (by first | assumption | exact hfd) (by first | exact .inl rfl | exact .inr rfl) ?_ | (refine callK_i (by assumption) ?_ ?_ ?_; (solve | (repeat (first | exact DLe.refl _ | exact DLe.nil _ | (refine DLe.tup ?_) | (refine DLe.agg ?_ rfl) | exact trivial | (refine And.intro ?_ ?_)))); (solve | exact .inl rfl | exact .inr rfl))) | (refine opK_M [] (hbg) ?_ ?_ ?_ ?_ ?_ ?_; (solve | rfl | simp only [go_sem, ↓reduceIte, reduceCtorEq, Nat.reduceAdd, Nat.reduceMul, Nat.reduceSub, Nat.reduceLeDiff, Nat.reduceLT, Nat.reduceEqDiff, Int.reduceLE, Int.reduceLT, Int.reduceToNat, Int.reduceBEq, Int.reduceBNe, Int.reduceEq, Int.reduceAdd, Int.reduceSub, Int.reduceMul, Int.reduceNeg, Int.cast_ofNat_Int, encV]); (solve | rfl); (solve | decide); (solve | simp); (solve | simp only [go_sem, ↓reduceIte, reduceCtorEq, Nat.reduceAdd, Nat.reduceMul, Nat.reduceSub, Nat.reduceLeDiff, Nat.reduceLT, Nat.reduceEqDiff, Int.reduceLE, Int.reduceLT, Int.reduceToNat, Int.reduceBEq, Int.reduceBNe, Int.reduceEq, Int.reduceAdd, Int.reduceSub, Int.reduceMul, Int.reduceNeg, Int.cast_ofNat_Int, lentOK, encV])) | omega | exact decide_eq_true (by omega) | exact DLe.refl _)
        all_goals exact (by repeat (first | exact DLe.refl _ | exact DLe.nil _ | (refine DLe.tup ?_) | (refine DLe.agg ?_ rfl) | exact trivial | (refine And.intro ?_ ?_)))
  · have hbg := beginE_m v hc
    have hfz := find_zero id 0
    have h1 : (chkV v != 0) = true := by simpa using hc
    have hr : R = (Vpc.zero, chkV v) := by rw [hR.out]; unfold unsubV; rw [if_pos hc]
    rw [hr]
    replace hr := Lib.hid hr
    refine ps_i tab_ok mixed Tryz.func16 rfl Tryz.ntmps16 Tryz.results16 (by kernel_rfl) ?_
    repeat' (first | (with_reducible refine And.intro ?_ ?_) | (with_reducible refine gK_i (fun _ => ?_) (fun _ => ?_)) | (with_reducible refine condS_i (fun _ => ?_) (fun _ => ?_)) | (with_reducible refine drw_i (by kernel_rfl)) | simp -dsimp only [go_sem, ↓reduceIte, reduceCtorEq, Nat.reduceAdd, Nat.reduceMul, Nat.reduceSub, Nat.reduceLeDiff, Nat.reduceLT, Nat.reduceEqDiff, Int.reduceLE, Int.reduceLT, Int.reduceToNat, Int.reduceBEq, Int.reduceBNe, Int.reduceEq, Int.reduceAdd, Int.reduceSub, Int.reduceMul, Int.reduceNeg, Int.cast_ofNat_Int, *, encV, h1] | ((with_reducible refine opK_c ?_); simp -dsimp only [go_sem, ↓reduceIte, reduceCtorEq, Nat.reduceAdd, Nat.reduceMul, Nat.reduceSub, Nat.reduceLeDiff, Nat.reduceLT, Nat.reduceEqDiff, Int.reduceLE, Int.reduceLT, Int.reduceToNat, Int.reduceBEq, Int.reduceBNe, Int.reduceEq, Int.reduceAdd, Int.reduceSub, Int.reduceMul, Int.reduceNeg, Int.cast_ofNat_Int, encV, h1]; first | refine callK_r (by first | assumption | exact hfz) (by first | exact .inl rfl | exact .inr rfl) ?_ | (refine callK_i (by assumption) ?_ ?_ ?_; (solve | (repeat (first | exact DLe.refl _ | exact DLe.nil _ | (refine DLe.tup ?_) | (refine DLe.agg ?_ rfl) | exact trivial | (refine And.intro ?_ ?_)))); (solve | exact .inl rfl | exact .inr rfl))) | (refine opK_M [] (hbg) ?_ ?_ ?_ ?_ ?_ ?_; (solve | rfl | simp only [go_sem, ↓reduceIte, reduceCtorEq, Nat.reduceAdd, Nat.reduceMul, Nat.reduceSub, Nat.reduceLeDiff, Nat.reduceLT, Nat.reduceEqDiff, Int.reduceLE, Int.reduceLT, Int.reduceToNat, Int.reduceBEq, Int.reduceBNe, Int.reduceEq, Int.reduceAdd, Int.reduceSub, Int.reduceMul, Int.reduceNeg, Int.cast_ofNat_Int, encV]); (solve | rfl); (solve | decide); (solve | simp); (solve | simp only [go_sem, ↓reduceIte, reduceCtorEq, Nat.reduceAdd, Nat.reduceMul, Nat.reduceSub, Nat.reduceLeDiff, Nat.reduceLT, Nat.reduceEqDiff, Int.reduceLE, Int.reduceLT, Int.reduceToNat, Int.reduceBEq, Int.reduceBNe, Int.reduceEq, Int.reduceAdd, Int.reduceSub, Int.reduceMul, Int.reduceNeg, Int.cast_ofNat_Int, lentOK, encV])) | omega | exact decide_eq_true (by omega) | exact DLe.refl _)
    exact (by repeat (first | exact DLe.refl _ | exact DLe.nil _ | (refine DLe.tup ?_) | (refine DLe.agg ?_ rfl) | exact trivial | (refine And.intro ?_ ?_)))
end Go.Proofs.YtdcjeacphbfmjaaGreat
namespace Go.Proofs.YtdcjeacphbfmjaaGreat
open Go Go.RowKit
/-- The least address that nobody has. -/
def leastF (used : List Int) (p : Pfx) : Nat → Int → Option Int
  | 0, _ => none
  | n + 1, a => if innB p a = true then (if a ∈ used then leastF used p n (a + 1) else some a) else none
def leastS (s : Sbn) : Option Int := leastF (s.faces.flatMap (·.addrs)) s.at_ 65536 (s.at_.at_ + 1)
theorem innB_lt {p : Pfx} {a : Int} (h : innB p a = true) : p.right = true ∧ p.at_ < a ∧ a < p.hi - 1 ∧ a ≤ 65535 := by
  unfold innB at h
  simp only [Bool.and_eq_true, decide_eq_true_eq] at h
  have hr := holdB_iff.1 (by rw [← holdP_eq]; exact h.1)
  have hb := p.hi_bd hr.1
  have : p.hi = p.at_ + szI p.len := rfl
  exact ⟨hr.1, by omega, by omega, by omega⟩
set_option maxRecDepth 100000 in
set_option maxHeartbeats 4000000 in
theorem least_p (s : Sbn) (h8 : s.faces.length ≤ 8) (h4 : ∀ f ∈ s.faces, f.addrs.length ≤ 4) (hr : s.at_.right = true) (hnd : (s.faces.flatMap (·.addrs)).Nodup) : PSpec Tryz.prog 65 [.agg (encN s)] (.tup [.v (.int .i64 ((leastS s).getD 0)), .v (.bool (leastS s).isSome)]) := by
  obtain ⟨r1, r2, r3, r4, -⟩ := s.at_.bd hr
  replace hnd := Lib.hid hnd
  refine ps_i tab_ok mixed Tryz.func65 rfl Tryz.ntmps65 Tryz.results65 (by kernel_rfl) ?_
  repeat' (first | (with_reducible refine And.intro ?_ ?_) | (with_reducible refine gK_i (fun _ => ?_) (fun _ => ?_)) | (with_reducible refine condS_i (fun _ => ?_) (fun _ => ?_)) | (with_reducible refine drw_i (by kernel_rfl)) | simp -dsimp only [go_sem, ↓reduceIte, reduceCtorEq, Nat.reduceAdd, Nat.reduceMul, Nat.reduceSub, Nat.reduceLeDiff, Nat.reduceLT, Nat.reduceEqDiff, Int.reduceLE, Int.reduceLT, Int.reduceToNat, Int.reduceBEq, Int.reduceBNe, Int.reduceEq, Int.reduceAdd, Int.reduceSub, Int.reduceMul, Int.reduceNeg, Int.cast_ofNat_Int, *, encN] | ((with_reducible refine opK_c ?_); simp -dsimp only [go_sem, ↓reduceIte, reduceCtorEq, Nat.reduceAdd, Nat.reduceMul, Nat.reduceSub, Nat.reduceLeDiff, Nat.reduceLT, Nat.reduceEqDiff, Int.reduceLE, Int.reduceLT, Int.reduceToNat, Int.reduceBEq, Int.reduceBNe, Int.reduceEq, Int.reduceAdd, Int.reduceSub, Int.reduceMul, Int.reduceNeg, Int.cast_ofNat_Int, encN]; first | refine callK_r (by first | assumption | fail) (by first | exact .inl rfl | exact .inr rfl) ?_ | (refine callK_i (by assumption) ?_ ?_ ?_; (solve | (repeat (first | exact DLe.refl _ | exact DLe.nil _ | (refine DLe.tup ?_) | (refine DLe.agg ?_ rfl) | exact trivial | (refine And.intro ?_ ?_)))); (solve | exact .inl rfl | exact .inr rfl))) | fail | omega | exact decide_eq_true (by omega) | exact DLe.refl _)
  refine loopG tab_ok mixed (fun m e h => ∃ (k : Nat) (ents : List (List Int × Int)), k ≤ s.faces.length ∧ Cnt ents ((s.faces.take k).flatMap (·.addrs)) ∧ m = s.faces.length - k ∧
    e = [(14, .d (.v (.int .i64 k))), (13, .d (.v (.int .i64 s.faces.length))), (12, .d (.sl 2 (s.faces.map encF))), (4, .mref 1), (3, .d (.v (.bool false))), (2, .d (.v (.int .i64 0))), (1, .ptr 0 0)] ∧ h = [.box 62 ((encN s).map .d), .mp 1 false ents]) _ _ _ ⟨0, [], Nat.zero_le _, cnt_nil, rfl, rfl, rfl⟩ (weak_forget _ (by simp) (by (try simp only [encN]); rfl) (by (repeat' (first | exact trivial | (refine ⟨rfl, ?_⟩)))) (by first | rfl | simp only [belowH, belowE, belowC, belowL, belowR, belowP, belowL_d, belowR_d, List.length_cons, List.length_nil, Nat.reduceAdd, Nat.reduceLT, decide_true, Bool.and_self, Bool.and_true]) (by first | rfl | simp only [belowH, belowE, belowC, belowL, belowR, belowP, belowL_d, belowR_d, List.length_cons, List.length_nil, Nat.reduceAdd, Nat.reduceLT, decide_true, Bool.and_self, Bool.and_true])) ?_
  rintro m e h ⟨k, ents, hk, hcnt, hm, rfl, rfl⟩ C hC
  by_cases hlt : k < s.faces.length
  · have hkI : (k : Int) < (s.faces.length : Int) := by omega
    have hwr : IntKind.i64.wrap ((k : Int) + 1) = ((k + 1 : Nat) : Int) := by rw [IntKind.wrap_i64]; omega
    obtain ⟨f, hf⟩ : ∃ f, s.faces[k]? = some f := ⟨_, List.getElem?_eq_getElem hlt⟩
    have hfl := h4 f (List.mem_of_getElem? hf)
    replace hm := Lib.hid hm
    replace hcnt := Lib.hid hcnt
    repeat' (first | (with_reducible refine And.intro ?_ ?_) | (with_reducible refine gK_i (fun _ => ?_) (fun _ => ?_)) | (with_reducible refine condS_i (fun _ => ?_) (fun _ => ?_)) | (with_reducible refine drw_i (by kernel_rfl)) | simp -dsimp only [go_sem, ↓reduceIte, reduceCtorEq, Nat.reduceAdd, Nat.reduceMul, Nat.reduceSub, Nat.reduceLeDiff, Nat.reduceLT, Nat.reduceEqDiff, Int.reduceLE, Int.reduceLT, Int.reduceToNat, Int.reduceBEq, Int.reduceBNe, Int.reduceEq, Int.reduceAdd, Int.reduceSub, Int.reduceMul, Int.reduceNeg, Int.cast_ofNat_Int, *, encN, encF, hkI, hf, undef] | ((with_reducible refine opK_c ?_); simp -dsimp only [go_sem, ↓reduceIte, reduceCtorEq, Nat.reduceAdd, Nat.reduceMul, Nat.reduceSub, Nat.reduceLeDiff, Nat.reduceLT, Nat.reduceEqDiff, Int.reduceLE, Int.reduceLT, Int.reduceToNat, Int.reduceBEq, Int.reduceBNe, Int.reduceEq, Int.reduceAdd, Int.reduceSub, Int.reduceMul, Int.reduceNeg, Int.cast_ofNat_Int, encN, encF, hkI, hf, undef]; first | refine callK_r (by first | assumption | fail) (by first | exact .inl rfl | exact .inr rfl) ?_ | (refine callK_i (by assumption) ?_ ?_ ?_; (solve | (repeat (first | exact DLe.refl _ | exact DLe.nil _ | (refine DLe.tup ?_) | (refine DLe.agg ?_ rfl) | exact trivial | (refine And.intro ?_ ?_)))); (solve | exact .inl rfl | exact .inr rfl))) | fail | omega | exact decide_eq_true (by omega) | exact DLe.refl _)
    refine loopG tab_ok mixed (fun m e h => ∃ (j : Nat) (ents : List (List Int × Int)), j ≤ f.addrs.length ∧ Cnt ents ((s.faces.take k).flatMap (·.addrs) ++ f.addrs.take j) ∧ m = f.addrs.length - j ∧
      e = [(21, .d (.v (.int .i64 j))), (20, .d (.v (.int .i64 f.addrs.length))), (19, .d (.sl 1 (f.addrs.map encA))), (14, .d (.v (.int .i64 k))), (13, .d (.v (.int .i64 s.faces.length))), (12, .d (.sl 2 (s.faces.map encF))), (4, .mref 1), (3, .d (.v (.bool false))), (2, .d (.v (.int .i64 0))), (1, .ptr 0 0)] ∧ h = [.box 62 ((encN s).map .d), .mp 1 false ents]) _ _ _ ⟨0, ents, Nat.zero_le _, by simpa using hcnt.out, rfl, rfl, rfl⟩ (weak_forget _ (by simp) (by (try simp only [encN]); rfl) (by (repeat' (first | exact trivial | (refine ⟨rfl, ?_⟩)))) (by first | rfl | simp only [belowH, belowE, belowC, belowL, belowR, belowP, belowL_d, belowR_d, List.length_cons, List.length_nil, Nat.reduceAdd, Nat.reduceLT, decide_true, Bool.and_self, Bool.and_true]) (by first | rfl | simp only [belowH, belowE, belowC, belowL, belowR, belowP, belowL_d, belowR_d, List.length_cons, List.length_nil, Nat.reduceAdd, Nat.reduceLT, decide_true, Bool.and_self, Bool.and_true])) ?_
    rintro m2 e h ⟨j, en2, hj, hcnt2, hm2, rfl, rfl⟩ C2 hC2
    by_cases hlj : j < f.addrs.length
    · have hjI : (j : Int) < (f.addrs.length : Int) := by omega
      have hwj : IntKind.i64.wrap ((j : Int) + 1) = ((j + 1 : Nat) : Int) := by rw [IntKind.wrap_i64]; omega
      obtain ⟨a, ha⟩ : ∃ a, f.addrs[j]? = some a := ⟨_, List.getElem?_eq_getElem hlj⟩
      have hca := hcnt2 a
      have htk : f.addrs.take (j + 1) = f.addrs.take j ++ [a] := take_snoc ha
      have hd : a ∉ (s.faces.take k).flatMap (·.addrs) ++ f.addrs.take j := by
        have hsub : ((s.faces.take k).flatMap (·.addrs) ++ f.addrs.take (j + 1)).Sublist (s.faces.flatMap (·.addrs)) := by
          conv => rhs; rw [← List.take_append_drop k s.faces, drop_get hf, List.flatMap_append, List.flatMap_cons]
          exact List.Sublist.append (List.Sublist.refl _) ((List.take_sublist _ _).trans (List.sublist_append_left _ _))
        have := hsub.nodup hnd.out
        rw [htk, ← List.append_assoc, nodup_snoc] at this
        exact this.2
      rw [if_neg hd] at hca
      have hcs := cnt_snoc hcnt2 hd
      replace hcnt2 := Lib.hid hcnt2
      replace hcs := Lib.hid hcs
      replace hm2 := Lib.hid hm2
      replace htk := Lib.hid htk
      have hw2 : IntKind.i64.wrap 1 = 1 := by decide
      repeat' (first | (with_reducible refine And.intro ?_ ?_) | (with_reducible refine gK_i (fun _ => ?_) (fun _ => ?_)) | (with_reducible refine condS_i (fun _ => ?_) (fun _ => ?_)) | (with_reducible refine drw_i (by kernel_rfl)) | simp -dsimp only [go_sem, ↓reduceIte, reduceCtorEq, Nat.reduceAdd, Nat.reduceMul, Nat.reduceSub, Nat.reduceLeDiff, Nat.reduceLT, Nat.reduceEqDiff, Int.reduceLE, Int.reduceLT, Int.reduceToNat, Int.reduceBEq, Int.reduceBNe, Int.reduceEq, Int.reduceAdd, Int.reduceSub, Int.reduceMul, Int.reduceNeg, Int.cast_ofNat_Int, *, encN, encA, hjI, hwj, ha, hca, hw2, undef] | ((with_reducible refine opK_c ?_); simp -dsimp only [go_sem, ↓reduceIte, reduceCtorEq, Nat.reduceAdd, Nat.reduceMul, Nat.reduceSub, Nat.reduceLeDiff, Nat.reduceLT, Nat.reduceEqDiff, Int.reduceLE, Int.reduceLT, Int.reduceToNat, Int.reduceBEq, Int.reduceBNe, Int.reduceEq, Int.reduceAdd, Int.reduceSub, Int.reduceMul, Int.reduceNeg, Int.cast_ofNat_Int, encN, encA, hjI, hwj, ha, hca, hw2, undef]; first | refine callK_r (by first | assumption | fail) (by first | exact .inl rfl | exact .inr rfl) ?_ | (refine callK_i (by assumption) ?_ ?_ ?_; (solve | (repeat (first | exact DLe.refl _ | exact DLe.nil _ | (refine DLe.tup ?_) | (refine DLe.agg ?_ rfl) | exact trivial | (refine And.intro ?_ ?_)))); (solve | exact .inl rfl | exact .inr rfl))) | fail | omega | exact decide_eq_true (by omega) | exact DLe.refl _)
      refine hC2 _ _ _ _ _ ?_ ⟨j + 1, upE en2 [a] 1, hlj, ?_, rfl, rfl, rfl⟩ (weak_forget _ (by simp) (by (try simp only [encN]); rfl) (by (repeat' (first | exact trivial | (refine ⟨rfl, ?_⟩)))) (by first | rfl | simp only [belowH, belowE, belowC, belowL, belowR, belowP, belowL_d, belowR_d, List.length_cons, List.length_nil, Nat.reduceAdd, Nat.reduceLT, decide_true, Bool.and_self, Bool.and_true]) (by first | rfl | simp only [belowH, belowE, belowC, belowL, belowR, belowP, belowL_d, belowR_d, List.length_cons, List.length_nil, Nat.reduceAdd, Nat.reduceLT, decide_true, Bool.and_self, Bool.and_true]))
      · have := hm2.out; omega
      · rw [htk.out, ← List.append_assoc]; exact hcs.out
    · obtain rfl : j = f.addrs.length := by omega
      rw [List.take_length] at hcnt2
      have hfl2 : (s.faces.take (k + 1)).flatMap (·.addrs) = (s.faces.take k).flatMap (·.addrs) ++ f.addrs := by rw [take_snoc hf, List.flatMap_append]; simp
      replace hm2 := Lib.hid hm2
      replace hcnt2 := Lib.hid hcnt2
      replace hfl2 := Lib.hid hfl2
      repeat' (first | (with_reducible refine And.intro ?_ ?_) | (with_reducible refine gK_i (fun _ => ?_) (fun _ => ?_)) | (with_reducible refine condS_i (fun _ => ?_) (fun _ => ?_)) | (with_reducible refine drw_i (by kernel_rfl)) | simp -dsimp only [go_sem, ↓reduceIte, reduceCtorEq, Nat.reduceAdd, Nat.reduceMul, Nat.reduceSub, Nat.reduceLeDiff, Nat.reduceLT, Nat.reduceEqDiff, Int.reduceLE, Int.reduceLT, Int.reduceToNat, Int.reduceBEq, Int.reduceBNe, Int.reduceEq, Int.reduceAdd, Int.reduceSub, Int.reduceMul, Int.reduceNeg, Int.cast_ofNat_Int, *, encN, hwr, Int.lt_irrefl, undef] | ((with_reducible refine opK_c ?_); simp -dsimp only [go_sem, ↓reduceIte, reduceCtorEq, Nat.reduceAdd, Nat.reduceMul, Nat.reduceSub, Nat.reduceLeDiff, Nat.reduceLT, Nat.reduceEqDiff, Int.reduceLE, Int.reduceLT, Int.reduceToNat, Int.reduceBEq, Int.reduceBNe, Int.reduceEq, Int.reduceAdd, Int.reduceSub, Int.reduceMul, Int.reduceNeg, Int.cast_ofNat_Int, encN, hwr, Int.lt_irrefl, undef]; first | refine callK_r (by first | assumption | fail) (by first | exact .inl rfl | exact .inr rfl) ?_ | (refine callK_i (by assumption) ?_ ?_ ?_; (solve | (repeat (first | exact DLe.refl _ | exact DLe.nil _ | (refine DLe.tup ?_) | (refine DLe.agg ?_ rfl) | exact trivial | (refine And.intro ?_ ?_)))); (solve | exact .inl rfl | exact .inr rfl))) | fail | omega | exact decide_eq_true (by omega) | exact DLe.refl _)
      refine hC _ _ _ _ _ ?_ ⟨k + 1, en2, hlt, ?_, rfl, rfl, rfl⟩ (weak_forget _ (by simp) (by (try simp only [encN]); rfl) (by (repeat' (first | exact trivial | (refine ⟨rfl, ?_⟩)))) (by first | rfl | simp only [belowH, belowE, belowC, belowL, belowR, belowP, belowL_d, belowR_d, List.length_cons, List.length_nil, Nat.reduceAdd, Nat.reduceLT, decide_true, Bool.and_self, Bool.and_true]) (by first | rfl | simp only [belowH, belowE, belowC, belowL, belowR, belowP, belowL_d, belowR_d, List.length_cons, List.length_nil, Nat.reduceAdd, Nat.reduceLT, decide_true, Bool.and_self, Bool.and_true]))
      · have := hm.out; omega
      · rw [hfl2.out]; exact hcnt2.out
  · obtain rfl : k = s.faces.length := by omega
    rw [List.take_length] at hcnt
    replace hcnt := Lib.hid hcnt
    replace hm := Lib.hid hm
    have hw1 : IntKind.i64.wrap (s.at_.at_ + 1) = s.at_.at_ + 1 := by rw [IntKind.wrap_i64]; omega
    repeat' (first | (with_reducible refine And.intro ?_ ?_) | (with_reducible refine gK_i (fun _ => ?_) (fun _ => ?_)) | (with_reducible refine condS_i (fun _ => ?_) (fun _ => ?_)) | (with_reducible refine drw_i (by kernel_rfl)) | simp -dsimp only [go_sem, ↓reduceIte, reduceCtorEq, Nat.reduceAdd, Nat.reduceMul, Nat.reduceSub, Nat.reduceLeDiff, Nat.reduceLT, Nat.reduceEqDiff, Int.reduceLE, Int.reduceLT, Int.reduceToNat, Int.reduceBEq, Int.reduceBNe, Int.reduceEq, Int.reduceAdd, Int.reduceSub, Int.reduceMul, Int.reduceNeg, Int.cast_ofNat_Int, *, encN, Int.lt_irrefl, hw1, undef] | ((with_reducible refine opK_c ?_); simp -dsimp only [go_sem, ↓reduceIte, reduceCtorEq, Nat.reduceAdd, Nat.reduceMul, Nat.reduceSub, Nat.reduceLeDiff, Nat.reduceLT, Nat.reduceEqDiff, Int.reduceLE, Int.reduceLT, Int.reduceToNat, Int.reduceBEq, Int.reduceBNe, Int.reduceEq, Int.reduceAdd, Int.reduceSub, Int.reduceMul, Int.reduceNeg, Int.cast_ofNat_Int, encN, Int.lt_irrefl, hw1, undef]; first | refine callK_r (by first | assumption | fail) (by first | exact .inl rfl | exact .inr rfl) ?_ | (refine callK_i (by assumption) ?_ ?_ ?_; (solve | (repeat (first | exact DLe.refl _ | exact DLe.nil _ | (refine DLe.tup ?_) | (refine DLe.agg ?_ rfl) | exact trivial | (refine And.intro ?_ ?_)))); (solve | exact .inl rfl | exact .inr rfl))) | fail | omega | exact decide_eq_true (by omega) | exact DLe.refl _)
    refine loopG tab_ok mixed (fun m e h => ∃ (i : Nat) (a : Int), i ≤ 65536 ∧ a = s.at_.at_ + 1 + i ∧ leastS s = leastF (s.faces.flatMap (·.addrs)) s.at_ (65536 - i) a ∧ m = 65536 - i ∧
      e = [(9, .d (.v (.int .i64 a))), (4, .mref 1), (3, .d (.v (.bool false))), (2, .d (.v (.int .i64 0))), (1, .ptr 0 0)] ∧ h = [.box 62 ((encN s).map .d), .mp 1 false ents]) 65536 _ _ ⟨0, s.at_.at_ + 1, Nat.zero_le _, by simp, rfl, rfl, rfl, rfl⟩ (weak_forget _ (by simp) (by (try simp only [encN]); rfl) (by (repeat' (first | exact trivial | (refine ⟨rfl, ?_⟩)))) (by first | rfl | simp only [belowH, belowE, belowC, belowL, belowR, belowP, belowL_d, belowR_d, List.length_cons, List.length_nil, Nat.reduceAdd, Nat.reduceLT, decide_true, Bool.and_self, Bool.and_true]) (by first | rfl | simp only [belowH, belowE, belowC, belowL, belowR, belowP, belowL_d, belowR_d, List.length_cons, List.length_nil, Nat.reduceAdd, Nat.reduceLT, decide_true, Bool.and_self, Bool.and_true])) ?_
    rintro m2 e h ⟨i, a, hi, haa, hle, hm2, rfl, rfl⟩ C2 hC2
    have hin := inner_p s.at_ a
    cases b1 : innB s.at_ a with
    | false =>
      rw [b1] at hin
      have hr2 : leastS s = none := by
        rw [hle]
        cases 65536 - i with
        | zero => rfl
        | succ n => rw [leastF, if_neg (by simp [b1])]
      replace hle := Lib.hid hle
      replace haa := Lib.hid haa
      replace hm2 := Lib.hid hm2
      rw [hr2]
      repeat' (first | (with_reducible refine And.intro ?_ ?_) | (with_reducible refine gK_i (fun _ => ?_) (fun _ => ?_)) | (with_reducible refine condS_i (fun _ => ?_) (fun _ => ?_)) | (with_reducible refine drw_i (by kernel_rfl)) | simp -dsimp only [go_sem, ↓reduceIte, reduceCtorEq, Nat.reduceAdd, Nat.reduceMul, Nat.reduceSub, Nat.reduceLeDiff, Nat.reduceLT, Nat.reduceEqDiff, Int.reduceLE, Int.reduceLT, Int.reduceToNat, Int.reduceBEq, Int.reduceBNe, Int.reduceEq, Int.reduceAdd, Int.reduceSub, Int.reduceMul, Int.reduceNeg, Int.cast_ofNat_Int, *, encN, undef] | ((with_reducible refine opK_c ?_); simp -dsimp only [go_sem, ↓reduceIte, reduceCtorEq, Nat.reduceAdd, Nat.reduceMul, Nat.reduceSub, Nat.reduceLeDiff, Nat.reduceLT, Nat.reduceEqDiff, Int.reduceLE, Int.reduceLT, Int.reduceToNat, Int.reduceBEq, Int.reduceBNe, Int.reduceEq, Int.reduceAdd, Int.reduceSub, Int.reduceMul, Int.reduceNeg, Int.cast_ofNat_Int, encN, undef]; first | refine callK_r (by first | assumption | exact hin) (by first | exact .inl rfl | exact .inr rfl) ?_ | (refine callK_i (by assumption) ?_ ?_ ?_; (solve | (repeat (first | exact DLe.refl _ | exact DLe.nil _ | (refine DLe.tup ?_) | (refine DLe.agg ?_ rfl) | exact trivial | (refine And.intro ?_ ?_)))); (solve | exact .inl rfl | exact .inr rfl))) | fail | omega | exact decide_eq_true (by omega) | exact DLe.refl _)
      all_goals exact (by repeat (first | exact DLe.refl _ | exact DLe.nil _ | (refine DLe.tup ?_) | (refine DLe.agg ?_ rfl) | exact trivial | (refine And.intro ?_ ?_)))
    | true =>
      have hb := innB_lt b1
      obtain ⟨n, hn⟩ : ∃ n, 65536 - i = n + 1 := ⟨65536 - i - 1, by omega⟩
      rw [hn, leastF, if_pos b1] at hle
      rw [b1] at hin
      have hca := hcnt.out a
      have hwa : IntKind.i64.wrap (a + 1) = a + 1 := by rw [IntKind.wrap_i64]; omega
      replace haa := Lib.hid haa
      replace hm2 := Lib.hid hm2
      by_cases hu : a ∈ s.faces.flatMap (·.addrs)
      · rw [if_pos hu] at hca hle
        replace hle := Lib.hid hle
        repeat' (first | (with_reducible refine And.intro ?_ ?_) | (with_reducible refine gK_i (fun _ => ?_) (fun _ => ?_)) | (with_reducible refine condS_i (fun _ => ?_) (fun _ => ?_)) | (with_reducible refine drw_i (by kernel_rfl)) | simp -dsimp only [go_sem, ↓reduceIte, reduceCtorEq, Nat.reduceAdd, Nat.reduceMul, Nat.reduceSub, Nat.reduceLeDiff, Nat.reduceLT, Nat.reduceEqDiff, Int.reduceLE, Int.reduceLT, Int.reduceToNat, Int.reduceBEq, Int.reduceBNe, Int.reduceEq, Int.reduceAdd, Int.reduceSub, Int.reduceMul, Int.reduceNeg, Int.cast_ofNat_Int, *, encN, hca, hwa, undef] | ((with_reducible refine opK_c ?_); simp -dsimp only [go_sem, ↓reduceIte, reduceCtorEq, Nat.reduceAdd, Nat.reduceMul, Nat.reduceSub, Nat.reduceLeDiff, Nat.reduceLT, Nat.reduceEqDiff, Int.reduceLE, Int.reduceLT, Int.reduceToNat, Int.reduceBEq, Int.reduceBNe, Int.reduceEq, Int.reduceAdd, Int.reduceSub, Int.reduceMul, Int.reduceNeg, Int.cast_ofNat_Int, encN, hca, hwa, undef]; first | refine callK_r (by first | assumption | exact hin) (by first | exact .inl rfl | exact .inr rfl) ?_ | (refine callK_i (by assumption) ?_ ?_ ?_; (solve | (repeat (first | exact DLe.refl _ | exact DLe.nil _ | (refine DLe.tup ?_) | (refine DLe.agg ?_ rfl) | exact trivial | (refine And.intro ?_ ?_)))); (solve | exact .inl rfl | exact .inr rfl))) | fail | omega | exact decide_eq_true (by omega) | exact DLe.refl _)
        refine hC2 _ _ _ _ _ ?_ ⟨i + 1, a + 1, by omega, by rw [haa.out]; omega, ?_, rfl, rfl, rfl⟩ (weak_forget _ (by simp) (by (try simp only [encN]); rfl) (by (repeat' (first | exact trivial | (refine ⟨rfl, ?_⟩)))) (by first | rfl | simp only [belowH, belowE, belowC, belowL, belowR, belowP, belowL_d, belowR_d, List.length_cons, List.length_nil, Nat.reduceAdd, Nat.reduceLT, decide_true, Bool.and_self, Bool.and_true]) (by first | rfl | simp only [belowH, belowE, belowC, belowL, belowR, belowP, belowL_d, belowR_d, List.length_cons, List.length_nil, Nat.reduceAdd, Nat.reduceLT, decide_true, Bool.and_self, Bool.and_true]))
        · have := hm2.out; omega
        · rw [hle.out]
          congr 1
          omega
      · rw [if_neg hu] at hca hle
        rw [hle]
        replace hle := Lib.hid hle
        repeat' (first | (with_reducible refine And.intro ?_ ?_) | (with_reducible refine gK_i (fun _ => ?_) (fun _ => ?_)) | (with_reducible refine condS_i (fun _ => ?_) (fun _ => ?_)) | (with_reducible refine drw_i (by kernel_rfl)) | simp -dsimp only [go_sem, ↓reduceIte, reduceCtorEq, Nat.reduceAdd, Nat.reduceMul, Nat.reduceSub, Nat.reduceLeDiff, Nat.reduceLT, Nat.reduceEqDiff, Int.reduceLE, Int.reduceLT, Int.reduceToNat, Int.reduceBEq, Int.reduceBNe, Int.reduceEq, Int.reduceAdd, Int.reduceSub, Int.reduceMul, Int.reduceNeg, Int.cast_ofNat_Int, *, encN, hca, hwa, undef] | ((with_reducible refine opK_c ?_); simp -dsimp only [go_sem, ↓reduceIte, reduceCtorEq, Nat.reduceAdd, Nat.reduceMul, Nat.reduceSub, Nat.reduceLeDiff, Nat.reduceLT, Nat.reduceEqDiff, Int.reduceLE, Int.reduceLT, Int.reduceToNat, Int.reduceBEq, Int.reduceBNe, Int.reduceEq, Int.reduceAdd, Int.reduceSub, Int.reduceMul, Int.reduceNeg, Int.cast_ofNat_Int, encN, hca, hwa, undef]; first | refine callK_r (by first | assumption | exact hin) (by first | exact .inl rfl | exact .inr rfl) ?_ | (refine callK_i (by assumption) ?_ ?_ ?_; (solve | (repeat (first | exact DLe.refl _ | exact DLe.nil _ | (refine DLe.tup ?_) | (refine DLe.agg ?_ rfl) | exact trivial | (refine And.intro ?_ ?_)))); (solve | exact .inl rfl | exact .inr rfl))) | fail | omega | exact decide_eq_true (by omega) | exact DLe.refl _)
        all_goals exact (by repeat (first | exact DLe.refl _ | exact DLe.nil _ | (refine DLe.tup ?_) | (refine DLe.agg ?_ rfl) | exact trivial | (refine And.intro ?_ ?_)))
end Go.Proofs.YtdcjeacphbfmjaaGreat
namespace Go.Proofs.YtdcjeacphbfmjaaGreat
open Go Go.RowKit
/-- What is known of a subnet of a right network. -/
theorem sub_right {v : Vpc} (hk : VpcOK v) {s : Sbn} (hs : s ∈ v.subs) : s.at_.right = true ∧ (s.faces.flatMap (·.addrs)).Nodup ∧ (s.faces.Pairwise fun a b => a.id < b.id) ∧ ∀ f ∈ s.faces, faceB s.at_ f = true := by
  have h := hk.subs s hs
  unfold subB holdsV facesB at h
  simp only [Bool.and_eq_true, List.any_eq_true, List.all_eq_true, decide_eq_true_eq, risB_pair] at h
  obtain ⟨-, ⟨r, -, hr⟩, h1, h2, h3⟩ := h
  exact ⟨(insQ_iff.1 hr).1, h2, h3, h1⟩
theorem find_split {α : Type} {p : α → Bool} {l : List α} {i : Nat} (h : l.findIdx? p = some i) : ∃ pre x post, l = pre ++ x :: post ∧ pre.length = i ∧ p x = true ∧ l[i]? = some x := by
  obtain ⟨hlt, hp, -⟩ := List.findIdx?_eq_some_iff_getElem.1 h
  exact ⟨l.take i, l[i], l.drop (i + 1), by rw [List.getElem_cons_drop, List.take_append_drop], by rw [List.length_take]; omega, hp, List.getElem?_eq_getElem hlt⟩
def faceErr (s : Sbn) (id : Int) : Int :=
  if idOK id = false then 3 else if (s.faces.any fun f => f.id == id) = true then 6 else if s.faces.length = 8 then 2 else if (leastS s).isSome = false then 8 else 0
/-- Face's answer. -/
def faceV (v : Vpc) (sub id : Int) : Vpc × Int × Int :=
  if chkV v ≠ 0 then (Vpc.zero, 0, chkV v) else
  match v.subs.findIdx? (fun s => s.id == sub) with
  | none => (Vpc.zero, 0, 5)
  | some i => match v.subs[i]? with
    | none => (Vpc.zero, 0, 5)
    | some s => if faceErr s id ≠ 0 then (Vpc.zero, 0, faceErr s id) else ({ v with subs := v.subs.set i { s with faces := insK (·.id) ⟨id, [(leastS s).getD 0]⟩ s.faces } }, (leastS s).getD 0, 0)
set_option maxRecDepth 100000 in
set_option maxHeartbeats 2000000 in
theorem vface_p (v : Vpc) (sub id : Int) : PSpec Tryz.prog 19 [.agg (encV v), .v (.int .i64 sub), .v (.int .i64 id)] (.tup [.agg (encV (faceV v sub id).1), .v (.int .i64 (faceV v sub id).2.1), .v (.int .i64 (faceV v sub id).2.2)]) := by
  obtain ⟨R, hR⟩ : ∃ R, R = faceV v sub id := ⟨_, rfl⟩
  rw [← hR]
  replace hR := Lib.hid hR
  by_cases hc : chkV v = 0
  · have hk := vpcOK_of hc
    have hfd := vfind_p v sub id hk.n6 (fun s hs => (hk.n8 s hs).1)
    unfold findV at hfd
    cases hf : v.subs.findIdx? (fun s => s.id == sub) with
    | none =>
      have hbg := beginD_m v hc hk.n4 hk.n6 hk.n8
      rw [hf] at hfd
      have hr : R = (Vpc.zero, 0, 5) := by rw [hR.out]; unfold faceV; rw [if_neg (by simpa using hc), hf]
      rw [hr]
      clear hr hR hf hc hk
      refine ps_i tab_ok mixed Tryz.func19 rfl Tryz.ntmps19 Tryz.results19 (by kernel_rfl) ?_
      repeat' (first | (with_reducible refine And.intro ?_ ?_) | (with_reducible refine gK_i (fun _ => ?_) (fun _ => ?_)) | (with_reducible refine condS_i (fun _ => ?_) (fun _ => ?_)) | (with_reducible refine drw_i (by kernel_rfl)) | simp -dsimp only [go_sem, ↓reduceIte, reduceCtorEq, Nat.reduceAdd, Nat.reduceMul, Nat.reduceSub, Nat.reduceLeDiff, Nat.reduceLT, Nat.reduceEqDiff, Int.reduceLE, Int.reduceLT, Int.reduceToNat, Int.reduceBEq, Int.reduceBNe, Int.reduceEq, Int.reduceAdd, Int.reduceSub, Int.reduceMul, Int.reduceNeg, Int.cast_ofNat_Int, *, encV] | ((with_reducible refine opK_c ?_); simp -dsimp only [go_sem, ↓reduceIte, reduceCtorEq, Nat.reduceAdd, Nat.reduceMul, Nat.reduceSub, Nat.reduceLeDiff, Nat.reduceLT, Nat.reduceEqDiff, Int.reduceLE, Int.reduceLT, Int.reduceToNat, Int.reduceBEq, Int.reduceBNe, Int.reduceEq, Int.reduceAdd, Int.reduceSub, Int.reduceMul, Int.reduceNeg, Int.cast_ofNat_Int, encV]; first | refine callK_r (by first | assumption | exact hfd) (by first | exact .inl rfl | exact .inr rfl) ?_ | (refine callK_i (by assumption) ?_ ?_ ?_; (solve | (repeat (first | exact DLe.refl _ | exact DLe.nil _ | (refine DLe.tup ?_) | (refine DLe.agg ?_ rfl) | exact trivial | (refine And.intro ?_ ?_)))); (solve | exact .inl rfl | exact .inr rfl))) | (refine opK_M [] (hbg) ?_ ?_ ?_ ?_ ?_ ?_; (solve | rfl | simp only [go_sem, ↓reduceIte, reduceCtorEq, Nat.reduceAdd, Nat.reduceMul, Nat.reduceSub, Nat.reduceLeDiff, Nat.reduceLT, Nat.reduceEqDiff, Int.reduceLE, Int.reduceLT, Int.reduceToNat, Int.reduceBEq, Int.reduceBNe, Int.reduceEq, Int.reduceAdd, Int.reduceSub, Int.reduceMul, Int.reduceNeg, Int.cast_ofNat_Int, encV]); (solve | rfl); (solve | decide); (solve | simp); (solve | simp only [go_sem, ↓reduceIte, reduceCtorEq, Nat.reduceAdd, Nat.reduceMul, Nat.reduceSub, Nat.reduceLeDiff, Nat.reduceLT, Nat.reduceEqDiff, Int.reduceLE, Int.reduceLT, Int.reduceToNat, Int.reduceBEq, Int.reduceBNe, Int.reduceEq, Int.reduceAdd, Int.reduceSub, Int.reduceMul, Int.reduceNeg, Int.cast_ofNat_Int, lentOK, encV])) | omega | exact decide_eq_true (by omega) | exact DLe.refl _)
      exact (by repeat (first | exact DLe.refl _ | exact DLe.nil _ | (refine DLe.tup ?_) | (refine DLe.agg ?_ rfl) | exact trivial | (refine And.intro ?_ ?_)))
    | some i =>
      obtain ⟨pre, s, post, hv, hpl, -, hs⟩ := find_split hf
      have hsm := List.mem_of_getElem? hs
      obtain ⟨s1, s2, s3, s4⟩ := sub_right hk hsm
      have h8s := hk.n8 s hsm
      have hbg := beginF_m v pre post s hv hc hk.n4 hk.n6 hk.n8
      have hle := least_p s h8s.1 h8s.2 s1 s2
      have hid := vids_p id
      have hany := idxI_any (fun f => f.id == id) s.faces
      have hi0 : decide ((i : Int) < 0) = false := by simp
      have hR2 : R = if faceErr s id ≠ 0 then (Vpc.zero, 0, faceErr s id) else ({ v with subs := pre ++ { s with faces := insK (·.id) ⟨id, [(leastS s).getD 0]⟩ s.faces } :: post }, (leastS s).getD 0, 0) := by
        rw [hR.out]; unfold faceV; rw [if_neg (by simpa using hc), hf]; simp only; rw [hs]; simp only
        rw [hv, ← hpl, List.set_append_right _ _ (Nat.le_refl _), Nat.sub_self, List.set_cons_zero]
      rw [hf] at hfd
      simp only at hfd
      unfold faceIx at hfd
      rw [hs] at hfd
      simp only [encV, hv, List.map_append, List.map_cons, encN] at hfd
      have hsl : v.subs.length = pre.length + 1 + post.length := by rw [hv]; simp; omega
      subst hpl
      simp only [encN] at hle
      by_cases hbad : faceErr s id ≠ 0
      · rw [if_pos hbad] at hR2
        unfold faceErr at hR2 hbad
        generalize idOK id = I at *
        generalize idxI (fun f => f.id == id) s.faces = IX at *
        generalize (s.faces.any fun f => f.id == id) = M at *
        generalize leastS s = LS at *
        have hl4 : ((s.faces.length : Int) == 8) = decide (s.faces.length = 8) := by rw [Bool.eq_iff_iff]; simp; omega
        replace hR2 := Lib.hid hR2
        replace hbad := Lib.hid hbad
        clear hR hc hk hf hs hsm hv
        refine ps_i tab_ok mixed Tryz.func19 rfl Tryz.ntmps19 Tryz.results19 (by kernel_rfl) ?_
        repeat' (first | (with_reducible refine And.intro ?_ ?_) | (with_reducible refine gK_i (fun _ => ?_) (fun _ => ?_)) | (with_reducible refine condS_i (fun _ => ?_) (fun _ => ?_)) | (with_reducible refine drw_i (by kernel_rfl)) | simp -dsimp only [go_sem, ↓reduceIte, reduceCtorEq, Nat.reduceAdd, Nat.reduceMul, Nat.reduceSub, Nat.reduceLeDiff, Nat.reduceLT, Nat.reduceEqDiff, Int.reduceLE, Int.reduceLT, Int.reduceToNat, Int.reduceBEq, Int.reduceBNe, Int.reduceEq, Int.reduceAdd, Int.reduceSub, Int.reduceMul, Int.reduceNeg, Int.cast_ofNat_Int, *, encV, subRow, renR_zipG, zipG_get, zipG_len, viewR_zipG, hi0, hl4, hany] | ((with_reducible refine opK_c ?_); simp -dsimp only [go_sem, ↓reduceIte, reduceCtorEq, Nat.reduceAdd, Nat.reduceMul, Nat.reduceSub, Nat.reduceLeDiff, Nat.reduceLT, Nat.reduceEqDiff, Int.reduceLE, Int.reduceLT, Int.reduceToNat, Int.reduceBEq, Int.reduceBNe, Int.reduceEq, Int.reduceAdd, Int.reduceSub, Int.reduceMul, Int.reduceNeg, Int.cast_ofNat_Int, encV, subRow, renR_zipG, zipG_get, zipG_len, viewR_zipG, hi0, hl4, hany]; first | refine callK_r (by first | assumption | exact hfd | exact hid | exact hle) (by first | exact .inl rfl | exact .inr rfl) ?_ | (refine callK_i (by assumption) ?_ ?_ ?_; (solve | (repeat (first | exact DLe.refl _ | exact DLe.nil _ | (refine DLe.tup ?_) | (refine DLe.agg ?_ rfl) | exact trivial | (refine And.intro ?_ ?_)))); (solve | exact .inl rfl | exact .inr rfl))) | (refine opK_M [] (hbg) ?_ ?_ ?_ ?_ ?_ ?_; (solve | rfl | simp only [go_sem, ↓reduceIte, reduceCtorEq, Nat.reduceAdd, Nat.reduceMul, Nat.reduceSub, Nat.reduceLeDiff, Nat.reduceLT, Nat.reduceEqDiff, Int.reduceLE, Int.reduceLT, Int.reduceToNat, Int.reduceBEq, Int.reduceBNe, Int.reduceEq, Int.reduceAdd, Int.reduceSub, Int.reduceMul, Int.reduceNeg, Int.cast_ofNat_Int, encV, subRow, renR_zipG]); (solve | rfl); (solve | decide); (solve | simp); (solve | simp only [go_sem, ↓reduceIte, reduceCtorEq, Nat.reduceAdd, Nat.reduceMul, Nat.reduceSub, Nat.reduceLeDiff, Nat.reduceLT, Nat.reduceEqDiff, Int.reduceLE, Int.reduceLT, Int.reduceToNat, Int.reduceBEq, Int.reduceBNe, Int.reduceEq, Int.reduceAdd, Int.reduceSub, Int.reduceMul, Int.reduceNeg, Int.cast_ofNat_Int, lentOK, encV, subRow, renR_zipG])) | omega | exact decide_eq_true (by omega) | exact DLe.refl _)
        all_goals
          have h1 := hR2.out
          have h2 := hbad.out
          clear hfd hid hle hbg
          first
            | (exfalso; grind)
            | (rw [show R = (Vpc.zero, 0, 3) from (by rw [h1]; grind)]; exact (by repeat (first | exact DLe.refl _ | exact DLe.nil _ | (refine DLe.tup ?_) | (refine DLe.agg ?_ rfl) | exact trivial | (refine And.intro ?_ ?_))))
            | (rw [show R = (Vpc.zero, 0, 6) from (by rw [h1]; grind)]; exact (by repeat (first | exact DLe.refl _ | exact DLe.nil _ | (refine DLe.tup ?_) | (refine DLe.agg ?_ rfl) | exact trivial | (refine And.intro ?_ ?_))))
            | (rw [show R = (Vpc.zero, 0, 2) from (by rw [h1]; grind)]; exact (by repeat (first | exact DLe.refl _ | exact DLe.nil _ | (refine DLe.tup ?_) | (refine DLe.agg ?_ rfl) | exact trivial | (refine And.intro ?_ ?_))))
            | (rw [show R = (Vpc.zero, 0, 8) from (by rw [h1]; grind)]; exact (by repeat (first | exact DLe.refl _ | exact DLe.nil _ | (refine DLe.tup ?_) | (refine DLe.agg ?_ rfl) | exact trivial | (refine And.intro ?_ ?_))))
      · rw [if_neg hbad] at hR2
        have hg : faceErr s id = 0 := by simpa using hbad
        obtain ⟨g1, g2, g3, g4⟩ : idOK id = true ∧ (s.faces.any fun f => f.id == id) = false ∧ s.faces.length ≠ 8 ∧ (leastS s).isSome = true := by
          unfold faceErr at hg
          generalize (s.faces.any fun f => f.id == id) = M at *
          grind
        obtain ⟨a, ha⟩ := Option.isSome_iff_exists.1 g4
        have hne : ∀ f ∈ s.faces, f.id ≠ (⟨id, [a]⟩ : Fce).id := fun f hf => by have := List.any_eq_false.1 g2 f hf; simpa using this
        have hso := sort_Face (l := s.faces ++ [⟨id, [a]⟩]) (l' := insK (·.id) ⟨id, [a]⟩ s.faces) (s.faces.length + 1) (by simp) (insK_perm _ _ _) (insK_sorted s3 hne) (by simp; omega)
        rw [ha] at hle hR2
        rw [g1] at hid
        rw [g2] at hany
        simp only [Option.getD_some, Option.isSome_some] at hle hR2
        have hl4 : ((s.faces.length : Int) == 8) = false := by simp; omega
        have hb1 : s.faces.length + 1 ≤ 100 := by omega
        simp only [List.map_append, List.map_cons, List.map_nil] at hso
        rw [hR2]
        clear hR hR2 hc hk hne hg hbad hf hs hsm hv g4 ha
        refine ps_i tab_ok mixed Tryz.func19 rfl Tryz.ntmps19 Tryz.results19 (by kernel_rfl) ?_
        repeat' (first | (with_reducible refine And.intro ?_ ?_) | (with_reducible refine gK_i (fun _ => ?_) (fun _ => ?_)) | (with_reducible refine condS_i (fun _ => ?_) (fun _ => ?_)) | (with_reducible refine drw_i (by kernel_rfl)) | simp -dsimp only [go_sem, ↓reduceIte, reduceCtorEq, Nat.reduceAdd, Nat.reduceMul, Nat.reduceSub, Nat.reduceLeDiff, Nat.reduceLT, Nat.reduceEqDiff, Int.reduceLE, Int.reduceLT, Int.reduceToNat, Int.reduceBEq, Int.reduceBNe, Int.reduceEq, Int.reduceAdd, Int.reduceSub, Int.reduceMul, Int.reduceNeg, Int.cast_ofNat_Int, *, encV, subRow, renR_zipG, zipG_get, zipG_set, zipG_len, viewR_zipG, hi0, hl4, hb1, hany] | ((with_reducible refine opK_c ?_); simp -dsimp only [go_sem, ↓reduceIte, reduceCtorEq, Nat.reduceAdd, Nat.reduceMul, Nat.reduceSub, Nat.reduceLeDiff, Nat.reduceLT, Nat.reduceEqDiff, Int.reduceLE, Int.reduceLT, Int.reduceToNat, Int.reduceBEq, Int.reduceBNe, Int.reduceEq, Int.reduceAdd, Int.reduceSub, Int.reduceMul, Int.reduceNeg, Int.cast_ofNat_Int, encV, subRow, renR_zipG, zipG_get, zipG_set, zipG_len, viewR_zipG, hi0, hl4, hb1, hany]; first | refine callK_r (by first | assumption | exact hfd | exact hid | exact hle) (by first | exact .inl rfl | exact .inr rfl) ?_ | (refine callK_i (by assumption) ?_ ?_ ?_; (solve | (repeat (first | exact DLe.refl _ | exact DLe.nil _ | (refine DLe.tup ?_) | (refine DLe.agg ?_ rfl) | exact trivial | (refine And.intro ?_ ?_)))); (solve | exact .inl rfl | exact .inr rfl))) | (refine opK_M [] (hbg) ?_ ?_ ?_ ?_ ?_ ?_; (solve | rfl | simp only [go_sem, ↓reduceIte, reduceCtorEq, Nat.reduceAdd, Nat.reduceMul, Nat.reduceSub, Nat.reduceLeDiff, Nat.reduceLT, Nat.reduceEqDiff, Int.reduceLE, Int.reduceLT, Int.reduceToNat, Int.reduceBEq, Int.reduceBNe, Int.reduceEq, Int.reduceAdd, Int.reduceSub, Int.reduceMul, Int.reduceNeg, Int.cast_ofNat_Int, encV, subRow, renR_zipG]); (solve | rfl); (solve | decide); (solve | simp); (solve | simp only [go_sem, ↓reduceIte, reduceCtorEq, Nat.reduceAdd, Nat.reduceMul, Nat.reduceSub, Nat.reduceLeDiff, Nat.reduceLT, Nat.reduceEqDiff, Int.reduceLE, Int.reduceLT, Int.reduceToNat, Int.reduceBEq, Int.reduceBNe, Int.reduceEq, Int.reduceAdd, Int.reduceSub, Int.reduceMul, Int.reduceNeg, Int.cast_ofNat_Int, lentOK, encV, subRow, renR_zipG])) | (refine opK_M [8] (hso) ?_ ?_ ?_ ?_ ?_ ?_; (solve | rfl | simp only [go_sem, ↓reduceIte, reduceCtorEq, Nat.reduceAdd, Nat.reduceMul, Nat.reduceSub, Nat.reduceLeDiff, Nat.reduceLT, Nat.reduceEqDiff, Int.reduceLE, Int.reduceLT, Int.reduceToNat, Int.reduceBEq, Int.reduceBNe, Int.reduceEq, Int.reduceAdd, Int.reduceSub, Int.reduceMul, Int.reduceNeg, Int.cast_ofNat_Int, encF, encA]); (solve | rfl); (solve | decide); (solve | simp); (solve | simp only [go_sem, ↓reduceIte, reduceCtorEq, Nat.reduceAdd, Nat.reduceMul, Nat.reduceSub, Nat.reduceLeDiff, Nat.reduceLT, Nat.reduceEqDiff, Int.reduceLE, Int.reduceLT, Int.reduceToNat, Int.reduceBEq, Int.reduceBNe, Int.reduceEq, Int.reduceAdd, Int.reduceSub, Int.reduceMul, Int.reduceNeg, Int.cast_ofNat_Int, lentOK, encF, encA])) | omega | exact decide_eq_true (by omega) | exact DLe.refl _)
        all_goals (simp only [encV, encN, List.map_append, List.map_cons]; exact (by repeat (first | exact DLe.refl _ | exact DLe.nil _ | (refine DLe.tup ?_) | (refine DLe.agg ?_ rfl) | exact trivial | (refine And.intro ?_ ?_))))
  · have hbg := beginE_m v hc
    have h1 : (chkV v != 0) = true := by simpa using hc
    have hr : R = (Vpc.zero, 0, chkV v) := by rw [hR.out]; unfold faceV; rw [if_pos hc]
    rw [hr]
    replace hr := Lib.hid hr
    refine ps_i tab_ok mixed Tryz.func19 rfl Tryz.ntmps19 Tryz.results19 (by kernel_rfl) ?_
    repeat' (first | (with_reducible refine And.intro ?_ ?_) | (with_reducible refine gK_i (fun _ => ?_) (fun _ => ?_)) | (with_reducible refine condS_i (fun _ => ?_) (fun _ => ?_)) | (with_reducible refine drw_i (by kernel_rfl)) | simp -dsimp only [go_sem, ↓reduceIte, reduceCtorEq, Nat.reduceAdd, Nat.reduceMul, Nat.reduceSub, Nat.reduceLeDiff, Nat.reduceLT, Nat.reduceEqDiff, Int.reduceLE, Int.reduceLT, Int.reduceToNat, Int.reduceBEq, Int.reduceBNe, Int.reduceEq, Int.reduceAdd, Int.reduceSub, Int.reduceMul, Int.reduceNeg, Int.cast_ofNat_Int, *, encV, h1] | ((with_reducible refine opK_c ?_); simp -dsimp only [go_sem, ↓reduceIte, reduceCtorEq, Nat.reduceAdd, Nat.reduceMul, Nat.reduceSub, Nat.reduceLeDiff, Nat.reduceLT, Nat.reduceEqDiff, Int.reduceLE, Int.reduceLT, Int.reduceToNat, Int.reduceBEq, Int.reduceBNe, Int.reduceEq, Int.reduceAdd, Int.reduceSub, Int.reduceMul, Int.reduceNeg, Int.cast_ofNat_Int, encV, h1]; first | refine callK_r (by first | assumption | fail) (by first | exact .inl rfl | exact .inr rfl) ?_ | (refine callK_i (by assumption) ?_ ?_ ?_; (solve | (repeat (first | exact DLe.refl _ | exact DLe.nil _ | (refine DLe.tup ?_) | (refine DLe.agg ?_ rfl) | exact trivial | (refine And.intro ?_ ?_)))); (solve | exact .inl rfl | exact .inr rfl))) | (refine opK_M [] (hbg) ?_ ?_ ?_ ?_ ?_ ?_; (solve | rfl | simp only [go_sem, ↓reduceIte, reduceCtorEq, Nat.reduceAdd, Nat.reduceMul, Nat.reduceSub, Nat.reduceLeDiff, Nat.reduceLT, Nat.reduceEqDiff, Int.reduceLE, Int.reduceLT, Int.reduceToNat, Int.reduceBEq, Int.reduceBNe, Int.reduceEq, Int.reduceAdd, Int.reduceSub, Int.reduceMul, Int.reduceNeg, Int.cast_ofNat_Int, encV]); (solve | rfl); (solve | decide); (solve | simp); (solve | simp only [go_sem, ↓reduceIte, reduceCtorEq, Nat.reduceAdd, Nat.reduceMul, Nat.reduceSub, Nat.reduceLeDiff, Nat.reduceLT, Nat.reduceEqDiff, Int.reduceLE, Int.reduceLT, Int.reduceToNat, Int.reduceBEq, Int.reduceBNe, Int.reduceEq, Int.reduceAdd, Int.reduceSub, Int.reduceMul, Int.reduceNeg, Int.cast_ofNat_Int, lentOK, encV])) | omega | exact decide_eq_true (by omega) | exact DLe.refl _)
    exact (by repeat (first | exact DLe.refl _ | exact DLe.nil _ | (refine DLe.tup ?_) | (refine DLe.agg ?_ rfl) | exact trivial | (refine And.intro ?_ ?_)))
end Go.Proofs.YtdcjeacphbfmjaaGreat
namespace Go.Proofs.YtdcjeacphbfmjaaGreat
open Go Go.RowKit Go.Proofs Go.Shelf
theorem putCells_ints (F : Array Int) (cur : Array Value) (h : F.size ≤ cur.size) : (Sort.putCells (Value.int .i64) 0 F cur).toList.take F.size = F.toList.map (Value.int .i64) ∧ (Sort.putCells (Value.int .i64) 0 F cur).size = cur.size := by
  refine ⟨?_, by simp [Sort.putCells]⟩
  apply List.ext_getElem?
  intro i
  by_cases hi : i < F.size
  · rw [List.getElem?_take_of_lt hi]
    have hc : i < cur.size := by omega
    simp [Sort.putCells, hi, hc]
  · rw [List.getElem?_eq_none (by rw [List.length_take]; omega), List.getElem?_eq_none (by simp; omega)]
theorem merge_is {l l' : List Int} (hp : l'.Perm l) (hs : l'.Pairwise fun x y => x < y) : (l.mergeSort fun x y => decide (x ≤ y)) = l' := by
  refine List.Perm.eq_of_pairwise (le := fun x y : Int => x ≤ y) (fun a b _ _ h1 h2 => by omega) ?_ (hs.imp fun h => by omega) ((List.mergeSort_perm l _).trans hp.symm)
  have := List.pairwise_mergeSort (le := fun x y : Int => decide (x ≤ y)) (fun a b c h1 h2 => by simp at *; omega) (fun a b => by simp; omega) l
  exact this.imp fun h => by simpa using h
set_option maxHeartbeats 1000000 in
theorem sort_ints {P : Program} {ρ : Ren} (L : SlLaysN.n53 P ρ) {f E g : Nat} (hf : ρ.f 53 = f) (hfn : FnOK P f) {l l' : List Int} (hl0 : l ≠ []) (hp : l'.Perm l) (hs : l'.Pairwise fun x y => x < y) (hsz : l.length ≤ 1000000) :
    MSpec P f [.own 0 g] [.row E 1 g (dRows (l.map encA))] (.d (.tup [])) [.row E 1 g (dRows (l'.map encA))] := by
  refine ⟨hfn, Nat.le_refl _, by simp [belowL, belowP], by simp [belowH, belowC, belowR_d], fun X hP hn hm w c vs hr hps => ?_⟩
  have hlen := hps.1
  match vs, hlen with
  | [v0], _ =>
    have r0 := hps.2 0 _ v0 rfl rfl
    have hne : dRows (l.map encA) ≠ [] := by simpa [dRows] using hl0
    have hck := hr.chunk 0
    have hfl : ∀ m : List Int, (dRows (m.map encA)).flatten = m.map fun a => PV.d (.v (.int .i64 a)) := by
      intro m
      rw [dRows_flatten]
      induction m with
      | nil => rfl
      | cons a m ih => simp [encA, ih]
    cases r0 with
    | own _ _ _ hov h1 =>
      obtain ⟨gb, cap, rfl⟩ := own_some hck hov hne
      obtain ⟨cur, xs, q1, q2, q3, q4, q5, q6, q7, q8, q9, q10, q11⟩ := row_cells hck hov hne
      have hln : (dRows (l.map encA)).length = l.length := by rw [dRows_len, List.length_map]
      rw [hln] at q3 q4 q8 q10 hov ⊢
      rw [Nat.mul_one] at q3 q4 q8 q11
      rw [hfl] at q2
      have hxs : xs = l.map (Value.int .i64) := by
        apply List.ext_getElem?
        intro j
        by_cases hj : j < l.length
        · obtain ⟨u, e1⟩ : ∃ u, xs[j]? = some u := ⟨_, List.getElem?_eq_getElem (by omega)⟩
          have := q2.2 j (.d (.v (.int .i64 l[j]))) u (by rw [List.getElem?_map, List.getElem?_eq_getElem hj]; rfl) e1
          rw [e1, List.getElem?_map, List.getElem?_eq_getElem hj]
          cases repD_inv this
          rfl
        · rw [List.getElem?_eq_none (by omega), List.getElem?_eq_none (by simp; omega)]
      have hH : Sort.Holds (Value.int .i64) w gb 0 l.toArray := by
        intro j hj
        have hj' : j < l.length := by simpa using hj
        have hcell : ∀ o, w.cell? ⟨gb, o, none⟩ = cur[o]? := fun o => by simp [World.cell?, q1]
        refine ⟨?_, free_of_block q1⟩
        rw [Nat.zero_add, hcell, q4 j hj', hxs, List.getElem?_map, List.getElem?_eq_getElem hj', getElem!_pos l.toArray j hj]
        simp
      have hg : gb < w.heap.size := (Array.getElem?_eq_some_iff.1 q1).1
      have hcall := AnyG.slices_Sort_int L gb 0 cap l w hH hg (by omega)
      rw [hf, merge_is hp hs] at hcall
      refine hcall.mono fun e w' ⟨he, m, os, hw'⟩ => ?_
      have hll' : l'.length = l.length := hp.length_eq
      obtain ⟨p1, p2⟩ := putCells_ints l'.toArray cur (by simp; omega)
      have hcap : 0 < cap := by have := List.length_pos_iff.2 hl0; omega
      have hhb : w'.heap[gb]? = some (.cells (Sort.putCells (Value.int .i64) 0 l'.toArray cur) E (0, 0)) := by
        rw [hw', Sort.heap_grow_old _ _ (by simpa using hg)]
        show (w.heap.modify gb (Sort.onCells _))[gb]? = _
        rw [Array.getElem?_modify, if_pos rfl, q1]
        rfl
      have hone : OneB w w' (some gb) := by
        refine ⟨by rw [hw']; rfl, by rw [hw']; rfl, by rw [hw']; rfl, ?_, fun b hb hne => ?_⟩
        · rw [hw', Sort.size_grow, Sort.size_putRow, Sort.heap_ahead]; omega
        · rw [hw', Sort.heap_grow_old _ _ (by simpa using hb)]
          show (w.heap.modify gb (Sort.onCells _))[b]? = _
          rw [Array.getElem?_modify, if_neg (fun e => hne (by rw [e]))]
      have hin2 : ∀ r ∈ dRows (l'.map encA), r.length = 1 := fun r hr => by
        obtain ⟨q, hq, rfl⟩ := dRows_mem hr
        obtain ⟨x, -, rfl⟩ := List.mem_map.1 hq
        rfl
      have hrep' : RepPs c w (dRows (l'.map encA)).flatten (l'.map (Value.int .i64)) := by
        rw [hfl]
        refine ⟨by simp, fun j d v hj hv => ?_⟩
        rw [List.getElem?_map, Option.map_eq_some_iff] at hj hv
        obtain ⟨a, ha, rfl⟩ := hj
        obtain ⟨b, hb, rfl⟩ := hv
        rw [ha] at hb
        cases hb
        exact .d _ _ (.v _)
      have hput := hr.put_row (w' := w') (k := 0) (rows' := dRows (l'.map encA)) (xs' := l'.map (Value.int .i64)) rfl hov (by rw [ownB_pos hcap]; exact hone) (by
        rw [dRows_len, List.length_map, hll']
        exact .row gb l.length cap _ _ hcap hhb q10 q9 (by rw [p2, Nat.mul_one]; exact q11) (by rw [List.length_map, Nat.mul_one]; omega) (by
          rw [Nat.mul_one, ← hll', show l'.length = l'.toArray.size by simp, p1])) hrep' hin2 (dRows_one2 (enc := encA) (fun _ => rfl) l')
      have hfun : effH [(0, Chunk.row E 1 g (dRows (l'.map encA)))] (mkF [] [.row E 1 g (dRows (l.map encA))]).heap = hatL [.row E 1 g (dRows (l'.map encA))] := by
        funext k
        rw [effH1]
        cases k with
        | zero => rfl
        | succ k => rfl
      rw [hfun] at hput
      refine ⟨_, c, he, .d _ _ (.tup [] [] rfl fun j d x h => by simp at h), hput⟩
theorem sort_int {l l' : List Int} (g : Nat) (hl0 : l ≠ []) (hp : l'.Perm l) (hs : l'.Pairwise fun x y => x < y) (hsz : l.length ≤ 1000000) : MSpec Tryz.prog 68 [.own 0 g] [.row 3 1 g (dRows (l.map encA))] (.d (.tup [])) [.row 3 1 g (dRows (l'.map encA))] :=
  sort_ints Tryz.sortInt rfl (fnok_of Tryz.func68 (by kernel_rfl) rfl) hl0 hp hs hsz
end Go.Proofs.YtdcjeacphbfmjaaGreat
namespace Go.Proofs.YtdcjeacphbfmjaaGreat
open Go Go.RowKit
/-- Unface's answer. -/
def unfaceV (v : Vpc) (sub id : Int) : Vpc × Int :=
  if chkV v ≠ 0 then (Vpc.zero, chkV v) else
  match v.subs.findIdx? (fun s => s.id == sub) with
  | none => (Vpc.zero, 5)
  | some i => match v.subs[i]? with
    | none => (Vpc.zero, 5)
    | some s => match s.faces.findIdx? (fun f => f.id == id) with
      | none => (Vpc.zero, 5)
      | some k => ({ v with subs := v.subs.set i { s with faces := s.faces.eraseIdx k } }, 0)
set_option maxRecDepth 100000 in
set_option maxHeartbeats 2000000 in
theorem unface_p (v : Vpc) (sub id : Int) : PSpec Tryz.prog 21 [.agg (encV v), .v (.int .i64 sub), .v (.int .i64 id)] (.tup [.agg (encV (unfaceV v sub id).1), .v (.int .i64 (unfaceV v sub id).2)]) := by
  obtain ⟨R, hR⟩ : ∃ R, R = unfaceV v sub id := ⟨_, rfl⟩
  rw [← hR]
  replace hR := Lib.hid hR
  by_cases hc : chkV v = 0
  · have hk := vpcOK_of hc
    have hfd := vfind_p v sub id hk.n6 (fun s hs => (hk.n8 s hs).1)
    have hm1 : decide ((-1 : Int) < 0) = true := rfl
    unfold findV at hfd
    cases hf : v.subs.findIdx? (fun s => s.id == sub) with
    | none =>
      have hbg := beginD_m v hc hk.n4 hk.n6 hk.n8
      rw [hf] at hfd
      have hr : R = (Vpc.zero, 5) := by rw [hR.out]; unfold unfaceV; rw [if_neg (by simpa using hc), hf]
      rw [hr]
      clear hr hR hf hc hk
      refine ps_i tab_ok mixed Tryz.func21 rfl Tryz.ntmps21 Tryz.results21 (by kernel_rfl) ?_
      repeat' (first | (with_reducible refine And.intro ?_ ?_) | (with_reducible refine gK_i (fun _ => ?_) (fun _ => ?_)) | (with_reducible refine condS_i (fun _ => ?_) (fun _ => ?_)) | (with_reducible refine drw_i (by kernel_rfl)) | simp -dsimp only [go_sem, ↓reduceIte, reduceCtorEq, Nat.reduceAdd, Nat.reduceMul, Nat.reduceSub, Nat.reduceLeDiff, Nat.reduceLT, Nat.reduceEqDiff, Int.reduceLE, Int.reduceLT, Int.reduceToNat, Int.reduceBEq, Int.reduceBNe, Int.reduceEq, Int.reduceAdd, Int.reduceSub, Int.reduceMul, Int.reduceNeg, Int.cast_ofNat_Int, *, encV, hm1] | ((with_reducible refine opK_c ?_); simp -dsimp only [go_sem, ↓reduceIte, reduceCtorEq, Nat.reduceAdd, Nat.reduceMul, Nat.reduceSub, Nat.reduceLeDiff, Nat.reduceLT, Nat.reduceEqDiff, Int.reduceLE, Int.reduceLT, Int.reduceToNat, Int.reduceBEq, Int.reduceBNe, Int.reduceEq, Int.reduceAdd, Int.reduceSub, Int.reduceMul, Int.reduceNeg, Int.cast_ofNat_Int, encV, hm1]; first | refine callK_r (by first | assumption | exact hfd) (by first | exact .inl rfl | exact .inr rfl) ?_ | (refine callK_i (by assumption) ?_ ?_ ?_; (solve | (repeat (first | exact DLe.refl _ | exact DLe.nil _ | (refine DLe.tup ?_) | (refine DLe.agg ?_ rfl) | exact trivial | (refine And.intro ?_ ?_)))); (solve | exact .inl rfl | exact .inr rfl))) | (refine opK_M [] (hbg) ?_ ?_ ?_ ?_ ?_ ?_; (solve | rfl | simp only [go_sem, ↓reduceIte, reduceCtorEq, Nat.reduceAdd, Nat.reduceMul, Nat.reduceSub, Nat.reduceLeDiff, Nat.reduceLT, Nat.reduceEqDiff, Int.reduceLE, Int.reduceLT, Int.reduceToNat, Int.reduceBEq, Int.reduceBNe, Int.reduceEq, Int.reduceAdd, Int.reduceSub, Int.reduceMul, Int.reduceNeg, Int.cast_ofNat_Int, encV]); (solve | rfl); (solve | decide); (solve | simp); (solve | simp only [go_sem, ↓reduceIte, reduceCtorEq, Nat.reduceAdd, Nat.reduceMul, Nat.reduceSub, Nat.reduceLeDiff, Nat.reduceLT, Nat.reduceEqDiff, Int.reduceLE, Int.reduceLT, Int.reduceToNat, Int.reduceBEq, Int.reduceBNe, Int.reduceEq, Int.reduceAdd, Int.reduceSub, Int.reduceMul, Int.reduceNeg, Int.cast_ofNat_Int, lentOK, encV])) | omega | exact decide_eq_true (by omega) | exact DLe.refl _)
      exact (by repeat (first | exact DLe.refl _ | exact DLe.nil _ | (refine DLe.tup ?_) | (refine DLe.agg ?_ rfl) | exact trivial | (refine And.intro ?_ ?_)))
    | some i =>
      obtain ⟨pre, s, post, hv, hpl, -, hs⟩ := find_split hf
      have hsm := List.mem_of_getElem? hs
      have h8s := hk.n8 s hsm
      have hbg := beginF_m v pre post s hv hc hk.n4 hk.n6 hk.n8
      rw [hf] at hfd
      simp only at hfd
      unfold faceIx at hfd
      rw [hs] at hfd
      simp only [encV, hv, List.map_append, List.map_cons, encN] at hfd
      unfold idxI at hfd
      have hsl : v.subs.length = pre.length + 1 + post.length := by rw [hv]; simp; omega
      cases hg : s.faces.findIdx? (fun f => f.id == id) with
      | none =>
        rw [hg] at hfd
        have hr : R = (Vpc.zero, 5) := by rw [hR.out]; unfold unfaceV; rw [if_neg (by simpa using hc), hf]; simp only; rw [hs]; simp only; rw [hg]
        rw [hr]
        subst hpl
        clear hr hR hc hk hf hs hsm hv hg
        refine ps_i tab_ok mixed Tryz.func21 rfl Tryz.ntmps21 Tryz.results21 (by kernel_rfl) ?_
        repeat' (first | (with_reducible refine And.intro ?_ ?_) | (with_reducible refine gK_i (fun _ => ?_) (fun _ => ?_)) | (with_reducible refine condS_i (fun _ => ?_) (fun _ => ?_)) | (with_reducible refine drw_i (by kernel_rfl)) | simp -dsimp only [go_sem, ↓reduceIte, reduceCtorEq, Nat.reduceAdd, Nat.reduceMul, Nat.reduceSub, Nat.reduceLeDiff, Nat.reduceLT, Nat.reduceEqDiff, Int.reduceLE, Int.reduceLT, Int.reduceToNat, Int.reduceBEq, Int.reduceBNe, Int.reduceEq, Int.reduceAdd, Int.reduceSub, Int.reduceMul, Int.reduceNeg, Int.cast_ofNat_Int, *, encV, subRow, renR_zipG, zipG_get, zipG_len, viewR_zipG, hm1] | ((with_reducible refine opK_c ?_); simp -dsimp only [go_sem, ↓reduceIte, reduceCtorEq, Nat.reduceAdd, Nat.reduceMul, Nat.reduceSub, Nat.reduceLeDiff, Nat.reduceLT, Nat.reduceEqDiff, Int.reduceLE, Int.reduceLT, Int.reduceToNat, Int.reduceBEq, Int.reduceBNe, Int.reduceEq, Int.reduceAdd, Int.reduceSub, Int.reduceMul, Int.reduceNeg, Int.cast_ofNat_Int, encV, subRow, renR_zipG, zipG_get, zipG_len, viewR_zipG, hm1]; first | refine callK_r (by first | assumption | exact hfd) (by first | exact .inl rfl | exact .inr rfl) ?_ | (refine callK_i (by assumption) ?_ ?_ ?_; (solve | (repeat (first | exact DLe.refl _ | exact DLe.nil _ | (refine DLe.tup ?_) | (refine DLe.agg ?_ rfl) | exact trivial | (refine And.intro ?_ ?_)))); (solve | exact .inl rfl | exact .inr rfl))) | (refine opK_M [] (hbg) ?_ ?_ ?_ ?_ ?_ ?_; (solve | rfl | simp only [go_sem, ↓reduceIte, reduceCtorEq, Nat.reduceAdd, Nat.reduceMul, Nat.reduceSub, Nat.reduceLeDiff, Nat.reduceLT, Nat.reduceEqDiff, Int.reduceLE, Int.reduceLT, Int.reduceToNat, Int.reduceBEq, Int.reduceBNe, Int.reduceEq, Int.reduceAdd, Int.reduceSub, Int.reduceMul, Int.reduceNeg, Int.cast_ofNat_Int, encV, subRow, renR_zipG]); (solve | rfl); (solve | decide); (solve | simp); (solve | simp only [go_sem, ↓reduceIte, reduceCtorEq, Nat.reduceAdd, Nat.reduceMul, Nat.reduceSub, Nat.reduceLeDiff, Nat.reduceLT, Nat.reduceEqDiff, Int.reduceLE, Int.reduceLT, Int.reduceToNat, Int.reduceBEq, Int.reduceBNe, Int.reduceEq, Int.reduceAdd, Int.reduceSub, Int.reduceMul, Int.reduceNeg, Int.cast_ofNat_Int, lentOK, encV, subRow, renR_zipG])) | omega | exact decide_eq_true (by omega) | exact DLe.refl _)
        exact (by repeat (first | exact DLe.refl _ | exact DLe.nil _ | (refine DLe.tup ?_) | (refine DLe.agg ?_ rfl) | exact trivial | (refine And.intro ?_ ?_)))
      | some k =>
        rw [hg] at hfd
        have hkl : k < s.faces.length := (List.findIdx?_eq_some_iff_getElem.1 hg).1
        have hr : R = ({ v with subs := pre ++ { s with faces := s.faces.eraseIdx k } :: post }, 0) := by
          rw [hR.out]; unfold unfaceV; rw [if_neg (by simpa using hc), hf]; simp only; rw [hs]; simp only; rw [hg]; simp only
          rw [hv, ← hpl, List.set_append_right _ _ (Nat.le_refl _), Nat.sub_self, List.set_cons_zero]
        have hd := delete_Face (enc := encF) s.faces k (k + 1) s.faces.length hkl rfl
        have hwr : IntKind.i64.wrap ((k : Int) + 1) = ((k + 1 : Nat) : Int) := by rw [IntKind.wrap_i64]; omega
        have hk0 : decide ((k : Int) < 0) = false := by simp
        rw [hr]
        subst hpl
        clear hr hR hc hk hf hs hsm hv hg
        refine ps_i tab_ok mixed Tryz.func21 rfl Tryz.ntmps21 Tryz.results21 (by kernel_rfl) ?_
        repeat' (first | (with_reducible refine And.intro ?_ ?_) | (with_reducible refine gK_i (fun _ => ?_) (fun _ => ?_)) | (with_reducible refine condS_i (fun _ => ?_) (fun _ => ?_)) | (with_reducible refine drw_i (by kernel_rfl)) | simp -dsimp only [go_sem, ↓reduceIte, reduceCtorEq, Nat.reduceAdd, Nat.reduceMul, Nat.reduceSub, Nat.reduceLeDiff, Nat.reduceLT, Nat.reduceEqDiff, Int.reduceLE, Int.reduceLT, Int.reduceToNat, Int.reduceBEq, Int.reduceBNe, Int.reduceEq, Int.reduceAdd, Int.reduceSub, Int.reduceMul, Int.reduceNeg, Int.cast_ofNat_Int, *, encV, subRow, renR_zipG, zipG_get, zipG_set, zipG_len, viewR_zipG, hk0, hwr] | ((with_reducible refine opK_c ?_); simp -dsimp only [go_sem, ↓reduceIte, reduceCtorEq, Nat.reduceAdd, Nat.reduceMul, Nat.reduceSub, Nat.reduceLeDiff, Nat.reduceLT, Nat.reduceEqDiff, Int.reduceLE, Int.reduceLT, Int.reduceToNat, Int.reduceBEq, Int.reduceBNe, Int.reduceEq, Int.reduceAdd, Int.reduceSub, Int.reduceMul, Int.reduceNeg, Int.cast_ofNat_Int, encV, subRow, renR_zipG, zipG_get, zipG_set, zipG_len, viewR_zipG, hk0, hwr]; first | refine callK_r (by first | assumption | exact hfd) (by first | exact .inl rfl | exact .inr rfl) ?_ | (refine callK_i (by assumption) ?_ ?_ ?_; (solve | (repeat (first | exact DLe.refl _ | exact DLe.nil _ | (refine DLe.tup ?_) | (refine DLe.agg ?_ rfl) | exact trivial | (refine And.intro ?_ ?_)))); (solve | exact .inl rfl | exact .inr rfl))) | (refine opK_M [] (hbg) ?_ ?_ ?_ ?_ ?_ ?_; (solve | rfl | simp only [go_sem, ↓reduceIte, reduceCtorEq, Nat.reduceAdd, Nat.reduceMul, Nat.reduceSub, Nat.reduceLeDiff, Nat.reduceLT, Nat.reduceEqDiff, Int.reduceLE, Int.reduceLT, Int.reduceToNat, Int.reduceBEq, Int.reduceBNe, Int.reduceEq, Int.reduceAdd, Int.reduceSub, Int.reduceMul, Int.reduceNeg, Int.cast_ofNat_Int, encV, subRow, renR_zipG]); (solve | rfl); (solve | decide); (solve | simp); (solve | simp only [go_sem, ↓reduceIte, reduceCtorEq, Nat.reduceAdd, Nat.reduceMul, Nat.reduceSub, Nat.reduceLeDiff, Nat.reduceLT, Nat.reduceEqDiff, Int.reduceLE, Int.reduceLT, Int.reduceToNat, Int.reduceBEq, Int.reduceBNe, Int.reduceEq, Int.reduceAdd, Int.reduceSub, Int.reduceMul, Int.reduceNeg, Int.cast_ofNat_Int, lentOK, encV, subRow, renR_zipG])) | (refine opK_M [8] (hd) ?_ ?_ ?_ ?_ ?_ ?_; (solve | rfl | simp only [go_sem, ↓reduceIte, reduceCtorEq, Nat.reduceAdd, Nat.reduceMul, Nat.reduceSub, Nat.reduceLeDiff, Nat.reduceLT, Nat.reduceEqDiff, Int.reduceLE, Int.reduceLT, Int.reduceToNat, Int.reduceBEq, Int.reduceBNe, Int.reduceEq, Int.reduceAdd, Int.reduceSub, Int.reduceMul, Int.reduceNeg, Int.cast_ofNat_Int, encF]); (solve | rfl); (solve | decide); (solve | simp); (solve | simp only [go_sem, ↓reduceIte, reduceCtorEq, Nat.reduceAdd, Nat.reduceMul, Nat.reduceSub, Nat.reduceLeDiff, Nat.reduceLT, Nat.reduceEqDiff, Int.reduceLE, Int.reduceLT, Int.reduceToNat, Int.reduceBEq, Int.reduceBNe, Int.reduceEq, Int.reduceAdd, Int.reduceSub, Int.reduceMul, Int.reduceNeg, Int.cast_ofNat_Int, lentOK, encF])) | omega | exact decide_eq_true (by omega) | exact DLe.refl _)
        all_goals (first | omega | (simp only [encV, encN, List.map_append, List.map_cons]; exact (by repeat (first | exact DLe.refl _ | exact DLe.nil _ | (refine DLe.tup ?_) | (refine DLe.agg ?_ rfl) | exact trivial | (refine And.intro ?_ ?_)))))
  · have hbg := beginE_m v hc
    have hfz := find_zero sub id
    have h1 : (chkV v != 0) = true := by simpa using hc
    have hr : R = (Vpc.zero, chkV v) := by rw [hR.out]; unfold unfaceV; rw [if_pos hc]
    rw [hr]
    replace hr := Lib.hid hr
    refine ps_i tab_ok mixed Tryz.func21 rfl Tryz.ntmps21 Tryz.results21 (by kernel_rfl) ?_
    repeat' (first | (with_reducible refine And.intro ?_ ?_) | (with_reducible refine gK_i (fun _ => ?_) (fun _ => ?_)) | (with_reducible refine condS_i (fun _ => ?_) (fun _ => ?_)) | (with_reducible refine drw_i (by kernel_rfl)) | simp -dsimp only [go_sem, ↓reduceIte, reduceCtorEq, Nat.reduceAdd, Nat.reduceMul, Nat.reduceSub, Nat.reduceLeDiff, Nat.reduceLT, Nat.reduceEqDiff, Int.reduceLE, Int.reduceLT, Int.reduceToNat, Int.reduceBEq, Int.reduceBNe, Int.reduceEq, Int.reduceAdd, Int.reduceSub, Int.reduceMul, Int.reduceNeg, Int.cast_ofNat_Int, *, encV, h1] | ((with_reducible refine opK_c ?_); simp -dsimp only [go_sem, ↓reduceIte, reduceCtorEq, Nat.reduceAdd, Nat.reduceMul, Nat.reduceSub, Nat.reduceLeDiff, Nat.reduceLT, Nat.reduceEqDiff, Int.reduceLE, Int.reduceLT, Int.reduceToNat, Int.reduceBEq, Int.reduceBNe, Int.reduceEq, Int.reduceAdd, Int.reduceSub, Int.reduceMul, Int.reduceNeg, Int.cast_ofNat_Int, encV, h1]; first | refine callK_r (by first | assumption | exact hfz) (by first | exact .inl rfl | exact .inr rfl) ?_ | (refine callK_i (by assumption) ?_ ?_ ?_; (solve | (repeat (first | exact DLe.refl _ | exact DLe.nil _ | (refine DLe.tup ?_) | (refine DLe.agg ?_ rfl) | exact trivial | (refine And.intro ?_ ?_)))); (solve | exact .inl rfl | exact .inr rfl))) | (refine opK_M [] (hbg) ?_ ?_ ?_ ?_ ?_ ?_; (solve | rfl | simp only [go_sem, ↓reduceIte, reduceCtorEq, Nat.reduceAdd, Nat.reduceMul, Nat.reduceSub, Nat.reduceLeDiff, Nat.reduceLT, Nat.reduceEqDiff, Int.reduceLE, Int.reduceLT, Int.reduceToNat, Int.reduceBEq, Int.reduceBNe, Int.reduceEq, Int.reduceAdd, Int.reduceSub, Int.reduceMul, Int.reduceNeg, Int.cast_ofNat_Int, encV]); (solve | rfl); (solve | decide); (solve | simp); (solve | simp only [go_sem, ↓reduceIte, reduceCtorEq, Nat.reduceAdd, Nat.reduceMul, Nat.reduceSub, Nat.reduceLeDiff, Nat.reduceLT, Nat.reduceEqDiff, Int.reduceLE, Int.reduceLT, Int.reduceToNat, Int.reduceBEq, Int.reduceBNe, Int.reduceEq, Int.reduceAdd, Int.reduceSub, Int.reduceMul, Int.reduceNeg, Int.cast_ofNat_Int, lentOK, encV])) | omega | exact decide_eq_true (by omega) | exact DLe.refl _)
    exact (by repeat (first | exact DLe.refl _ | exact DLe.nil _ | (refine DLe.tup ?_) | (refine DLe.agg ?_ rfl) | exact trivial | (refine And.intro ?_ ?_)))
theorem leastF_not {used : List Int} {p : Pfx} : ∀ {n : Nat} {x a : Int}, leastF used p n x = some a → a ∉ used ∧ innB p a = true
  | 0, x, a, h => by cases h
  | n + 1, x, a, h => by
    unfold leastF at h
    split at h
    · rename_i hi
      split at h
      · exact leastF_not h
      · rename_i hu
        cases h
        exact ⟨hu, hi⟩
    · cases h
/-- More's answer. -/
def moreV (v : Vpc) (sub id : Int) : Vpc × Int × Int :=
  if chkV v ≠ 0 then (Vpc.zero, 0, chkV v) else
  match v.subs.findIdx? (fun s => s.id == sub) with
  | none => (Vpc.zero, 0, 5)
  | some i => match v.subs[i]? with
    | none => (Vpc.zero, 0, 5)
    | some s => match s.faces.findIdx? (fun f => f.id == id) with
      | none => (Vpc.zero, 0, 5)
      | some k => match s.faces[k]? with
        | none => (Vpc.zero, 0, 5)
        | some f => if f.addrs.length = 4 then (Vpc.zero, 0, 2) else match leastS s with
          | none => (Vpc.zero, 0, 8)
          | some a => ({ v with subs := v.subs.set i { s with faces := s.faces.set k { f with addrs := insK (fun x => x) a f.addrs } } }, a, 0)
set_option maxRecDepth 100000 in
set_option maxHeartbeats 2000000 in
theorem more_p (v : Vpc) (sub id : Int) : PSpec Tryz.prog 20 [.agg (encV v), .v (.int .i64 sub), .v (.int .i64 id)] (.tup [.agg (encV (moreV v sub id).1), .v (.int .i64 (moreV v sub id).2.1), .v (.int .i64 (moreV v sub id).2.2)]) := by
  obtain ⟨R, hR⟩ : ∃ R, R = moreV v sub id := ⟨_, rfl⟩
  rw [← hR]
  replace hR := Lib.hid hR
  by_cases hc : chkV v = 0
  · have hk := vpcOK_of hc
    have hfd := vfind_p v sub id hk.n6 (fun s hs => (hk.n8 s hs).1)
    have hm1 : decide ((-1 : Int) < 0) = true := rfl
    unfold findV at hfd
    cases hf : v.subs.findIdx? (fun s => s.id == sub) with
    | none =>
      have hbg := beginD_m v hc hk.n4 hk.n6 hk.n8
      rw [hf] at hfd
      have hr : R = (Vpc.zero, 0, 5) := by rw [hR.out]; unfold moreV; rw [if_neg (by simpa using hc), hf]
      rw [hr]
      clear hr hR hf hc hk
      refine ps_i tab_ok mixed Tryz.func20 rfl Tryz.ntmps20 Tryz.results20 (by kernel_rfl) ?_
      repeat' (first | (with_reducible refine And.intro ?_ ?_) | (with_reducible refine gK_i (fun _ => ?_) (fun _ => ?_)) | (with_reducible refine condS_i (fun _ => ?_) (fun _ => ?_)) | (with_reducible refine drw_i (by kernel_rfl)) | simp -dsimp only [go_sem, ↓reduceIte, reduceCtorEq, Nat.reduceAdd, Nat.reduceMul, Nat.reduceSub, Nat.reduceLeDiff, Nat.reduceLT, Nat.reduceEqDiff, Int.reduceLE, Int.reduceLT, Int.reduceToNat, Int.reduceBEq, Int.reduceBNe, Int.reduceEq, Int.reduceAdd, Int.reduceSub, Int.reduceMul, Int.reduceNeg, Int.cast_ofNat_Int, *, encV, hm1] | ((with_reducible refine opK_c ?_); simp -dsimp only [go_sem, ↓reduceIte, reduceCtorEq, Nat.reduceAdd, Nat.reduceMul, Nat.reduceSub, Nat.reduceLeDiff, Nat.reduceLT, Nat.reduceEqDiff, Int.reduceLE, Int.reduceLT, Int.reduceToNat, Int.reduceBEq, Int.reduceBNe, Int.reduceEq, Int.reduceAdd, Int.reduceSub, Int.reduceMul, Int.reduceNeg, Int.cast_ofNat_Int, encV, hm1]; first | refine callK_r (by first | assumption | exact hfd) (by first | exact .inl rfl | exact .inr rfl) ?_ | (refine callK_i (by assumption) ?_ ?_ ?_; (solve | (repeat (first | exact DLe.refl _ | exact DLe.nil _ | (refine DLe.tup ?_) | (refine DLe.agg ?_ rfl) | exact trivial | (refine And.intro ?_ ?_)))); (solve | exact .inl rfl | exact .inr rfl))) | (refine opK_M [] (hbg) ?_ ?_ ?_ ?_ ?_ ?_; (solve | rfl | simp only [go_sem, ↓reduceIte, reduceCtorEq, Nat.reduceAdd, Nat.reduceMul, Nat.reduceSub, Nat.reduceLeDiff, Nat.reduceLT, Nat.reduceEqDiff, Int.reduceLE, Int.reduceLT, Int.reduceToNat, Int.reduceBEq, Int.reduceBNe, Int.reduceEq, Int.reduceAdd, Int.reduceSub, Int.reduceMul, Int.reduceNeg, Int.cast_ofNat_Int, encV]); (solve | rfl); (solve | decide); (solve | simp); (solve | simp only [go_sem, ↓reduceIte, reduceCtorEq, Nat.reduceAdd, Nat.reduceMul, Nat.reduceSub, Nat.reduceLeDiff, Nat.reduceLT, Nat.reduceEqDiff, Int.reduceLE, Int.reduceLT, Int.reduceToNat, Int.reduceBEq, Int.reduceBNe, Int.reduceEq, Int.reduceAdd, Int.reduceSub, Int.reduceMul, Int.reduceNeg, Int.cast_ofNat_Int, lentOK, encV])) | omega | exact decide_eq_true (by omega) | exact DLe.refl _)
      exact (by repeat (first | exact DLe.refl _ | exact DLe.nil _ | (refine DLe.tup ?_) | (refine DLe.agg ?_ rfl) | exact trivial | (refine And.intro ?_ ?_)))
    | some i =>
      obtain ⟨pre, s, post, hv, hpl, -, hs⟩ := find_split hf
      have hsm := List.mem_of_getElem? hs
      obtain ⟨s1, s2, s3, s4⟩ := sub_right hk hsm
      have h8s := hk.n8 s hsm
      rw [hf] at hfd
      simp only at hfd
      unfold faceIx at hfd
      rw [hs] at hfd
      have hsl : v.subs.length = pre.length + 1 + post.length := by rw [hv]; simp; omega
      cases hg : s.faces.findIdx? (fun f => f.id == id) with
      | none =>
        have hbg := beginF_m v pre post s hv hc hk.n4 hk.n6 hk.n8
        simp only [encV, hv, List.map_append, List.map_cons, encN] at hfd
        unfold idxI at hfd
        rw [hg] at hfd
        have hr : R = (Vpc.zero, 0, 5) := by rw [hR.out]; unfold moreV; rw [if_neg (by simpa using hc), hf]; simp only; rw [hs]; simp only; rw [hg]
        rw [hr]
        subst hpl
        clear hr hR hc hk hf hs hsm hv hg
        refine ps_i tab_ok mixed Tryz.func20 rfl Tryz.ntmps20 Tryz.results20 (by kernel_rfl) ?_
        repeat' (first | (with_reducible refine And.intro ?_ ?_) | (with_reducible refine gK_i (fun _ => ?_) (fun _ => ?_)) | (with_reducible refine condS_i (fun _ => ?_) (fun _ => ?_)) | (with_reducible refine drw_i (by kernel_rfl)) | simp -dsimp only [go_sem, ↓reduceIte, reduceCtorEq, Nat.reduceAdd, Nat.reduceMul, Nat.reduceSub, Nat.reduceLeDiff, Nat.reduceLT, Nat.reduceEqDiff, Int.reduceLE, Int.reduceLT, Int.reduceToNat, Int.reduceBEq, Int.reduceBNe, Int.reduceEq, Int.reduceAdd, Int.reduceSub, Int.reduceMul, Int.reduceNeg, Int.cast_ofNat_Int, *, encV, subRow, renR_zipG, zipG_get, zipG_len, viewR_zipG, hm1] | ((with_reducible refine opK_c ?_); simp -dsimp only [go_sem, ↓reduceIte, reduceCtorEq, Nat.reduceAdd, Nat.reduceMul, Nat.reduceSub, Nat.reduceLeDiff, Nat.reduceLT, Nat.reduceEqDiff, Int.reduceLE, Int.reduceLT, Int.reduceToNat, Int.reduceBEq, Int.reduceBNe, Int.reduceEq, Int.reduceAdd, Int.reduceSub, Int.reduceMul, Int.reduceNeg, Int.cast_ofNat_Int, encV, subRow, renR_zipG, zipG_get, zipG_len, viewR_zipG, hm1]; first | refine callK_r (by first | assumption | exact hfd) (by first | exact .inl rfl | exact .inr rfl) ?_ | (refine callK_i (by assumption) ?_ ?_ ?_; (solve | (repeat (first | exact DLe.refl _ | exact DLe.nil _ | (refine DLe.tup ?_) | (refine DLe.agg ?_ rfl) | exact trivial | (refine And.intro ?_ ?_)))); (solve | exact .inl rfl | exact .inr rfl))) | (refine opK_M [] (hbg) ?_ ?_ ?_ ?_ ?_ ?_; (solve | rfl | simp only [go_sem, ↓reduceIte, reduceCtorEq, Nat.reduceAdd, Nat.reduceMul, Nat.reduceSub, Nat.reduceLeDiff, Nat.reduceLT, Nat.reduceEqDiff, Int.reduceLE, Int.reduceLT, Int.reduceToNat, Int.reduceBEq, Int.reduceBNe, Int.reduceEq, Int.reduceAdd, Int.reduceSub, Int.reduceMul, Int.reduceNeg, Int.cast_ofNat_Int, encV, subRow, renR_zipG]); (solve | rfl); (solve | decide); (solve | simp); (solve | simp only [go_sem, ↓reduceIte, reduceCtorEq, Nat.reduceAdd, Nat.reduceMul, Nat.reduceSub, Nat.reduceLeDiff, Nat.reduceLT, Nat.reduceEqDiff, Int.reduceLE, Int.reduceLT, Int.reduceToNat, Int.reduceBEq, Int.reduceBNe, Int.reduceEq, Int.reduceAdd, Int.reduceSub, Int.reduceMul, Int.reduceNeg, Int.cast_ofNat_Int, lentOK, encV, subRow, renR_zipG])) | omega | exact decide_eq_true (by omega) | exact DLe.refl _)
        exact (by repeat (first | exact DLe.refl _ | exact DLe.nil _ | (refine DLe.tup ?_) | (refine DLe.agg ?_ rfl) | exact trivial | (refine And.intro ?_ ?_)))
      | some k =>
        obtain ⟨preF, f, postF, hfv, hplF, -, hfs⟩ := find_split hg
        have hfm := List.mem_of_getElem? hfs
        have hbg := beginA_m v pre post s preF postF f hv hfv hc hk.n4 hk.n6 hk.n8
        have hle := least_p s h8s.1 h8s.2 s1 s2
        have hfl := h8s.2 f hfm
        simp only [encN, hfv, List.map_append, List.map_cons, encF] at hle
        simp only [encV, hv, List.map_append, List.map_cons, encN] at hfd
        unfold idxI at hfd
        rw [hg] at hfd
        simp only [hfv, List.map_append, List.map_cons, encF] at hfd
        have hfsl : s.faces.length = preF.length + 1 + postF.length := by rw [hfv]; simp; omega
        have hk0 : decide ((k : Int) < 0) = false := by simp
        have hR2 : R = if f.addrs.length = 4 then ((Vpc.zero, 0, 2) : Vpc × Int × Int) else match leastS s with
          | none => (Vpc.zero, 0, 8)
          | some a => ({ v with subs := pre ++ { s with faces := preF ++ { f with addrs := insK (fun x => x) a f.addrs } :: postF } :: post }, a, 0) := by
          rw [hR.out]; unfold moreV; rw [if_neg (by simpa using hc), hf]; simp only; rw [hs]; simp only; rw [hg]; simp only; rw [hfs]; simp only
          split
          · rfl
          · cases leastS s with
            | none => rfl
            | some a =>
              simp only
              rw [hv, ← hpl, List.set_append_right _ _ (Nat.le_refl _), Nat.sub_self, List.set_cons_zero]
              rw [hfv, ← hplF, List.set_append_right _ _ (Nat.le_refl _), Nat.sub_self, List.set_cons_zero]
        by_cases h4 : f.addrs.length = 4
        · rw [if_pos h4] at hR2
          have h4b : ((f.addrs.length : Int) == 4) = true := by simp; omega
          rw [hR2]
          subst hpl
          subst hplF
          clear hR hR2 hc hk hf hs hsm hv hg hfs hfm
          refine ps_i tab_ok mixed Tryz.func20 rfl Tryz.ntmps20 Tryz.results20 (by kernel_rfl) ?_
          repeat' (first | (with_reducible refine And.intro ?_ ?_) | (with_reducible refine gK_i (fun _ => ?_) (fun _ => ?_)) | (with_reducible refine condS_i (fun _ => ?_) (fun _ => ?_)) | (with_reducible refine drw_i (by kernel_rfl)) | simp -dsimp only [go_sem, ↓reduceIte, reduceCtorEq, Nat.reduceAdd, Nat.reduceMul, Nat.reduceSub, Nat.reduceLeDiff, Nat.reduceLT, Nat.reduceEqDiff, Int.reduceLE, Int.reduceLT, Int.reduceToNat, Int.reduceBEq, Int.reduceBNe, Int.reduceEq, Int.reduceAdd, Int.reduceSub, Int.reduceMul, Int.reduceNeg, Int.cast_ofNat_Int, *, encV, subRow, faceRow, renR_zipG, zipG_get, zipG_len, viewR_zipG, hk0, h4b] | ((with_reducible refine opK_c ?_); simp -dsimp only [go_sem, ↓reduceIte, reduceCtorEq, Nat.reduceAdd, Nat.reduceMul, Nat.reduceSub, Nat.reduceLeDiff, Nat.reduceLT, Nat.reduceEqDiff, Int.reduceLE, Int.reduceLT, Int.reduceToNat, Int.reduceBEq, Int.reduceBNe, Int.reduceEq, Int.reduceAdd, Int.reduceSub, Int.reduceMul, Int.reduceNeg, Int.cast_ofNat_Int, encV, subRow, faceRow, renR_zipG, zipG_get, zipG_len, viewR_zipG, hk0, h4b]; first | refine callK_r (by first | assumption | exact hfd) (by first | exact .inl rfl | exact .inr rfl) ?_ | (refine callK_i (by assumption) ?_ ?_ ?_; (solve | (repeat (first | exact DLe.refl _ | exact DLe.nil _ | (refine DLe.tup ?_) | (refine DLe.agg ?_ rfl) | exact trivial | (refine And.intro ?_ ?_)))); (solve | exact .inl rfl | exact .inr rfl))) | (refine opK_M [] (hbg) ?_ ?_ ?_ ?_ ?_ ?_; (solve | rfl | simp only [go_sem, ↓reduceIte, reduceCtorEq, Nat.reduceAdd, Nat.reduceMul, Nat.reduceSub, Nat.reduceLeDiff, Nat.reduceLT, Nat.reduceEqDiff, Int.reduceLE, Int.reduceLT, Int.reduceToNat, Int.reduceBEq, Int.reduceBNe, Int.reduceEq, Int.reduceAdd, Int.reduceSub, Int.reduceMul, Int.reduceNeg, Int.cast_ofNat_Int, encV, subRow, faceRow, renR_zipG]); (solve | rfl); (solve | decide); (solve | simp); (solve | simp only [go_sem, ↓reduceIte, reduceCtorEq, Nat.reduceAdd, Nat.reduceMul, Nat.reduceSub, Nat.reduceLeDiff, Nat.reduceLT, Nat.reduceEqDiff, Int.reduceLE, Int.reduceLT, Int.reduceToNat, Int.reduceBEq, Int.reduceBNe, Int.reduceEq, Int.reduceAdd, Int.reduceSub, Int.reduceMul, Int.reduceNeg, Int.cast_ofNat_Int, lentOK, encV, subRow, faceRow, renR_zipG])) | omega | exact decide_eq_true (by omega) | exact DLe.refl _)
          all_goals (first | omega | exact (by repeat (first | exact DLe.refl _ | exact DLe.nil _ | (refine DLe.tup ?_) | (refine DLe.agg ?_ rfl) | exact trivial | (refine And.intro ?_ ?_))))
        · rw [if_neg h4] at hR2
          have h4b : ((f.addrs.length : Int) == 4) = false := by simp; omega
          cases hl : leastS s with
          | none =>
            rw [hl] at hR2 hle
            simp only [Option.getD_none, Option.isSome_none] at hle
            rw [hR2]
            subst hpl
            subst hplF
            clear hR hR2 hc hk hf hs hsm hv hg hfs hfm
            refine ps_i tab_ok mixed Tryz.func20 rfl Tryz.ntmps20 Tryz.results20 (by kernel_rfl) ?_
            repeat' (first | (with_reducible refine And.intro ?_ ?_) | (with_reducible refine gK_i (fun _ => ?_) (fun _ => ?_)) | (with_reducible refine condS_i (fun _ => ?_) (fun _ => ?_)) | (with_reducible refine drw_i (by kernel_rfl)) | simp -dsimp only [go_sem, ↓reduceIte, reduceCtorEq, Nat.reduceAdd, Nat.reduceMul, Nat.reduceSub, Nat.reduceLeDiff, Nat.reduceLT, Nat.reduceEqDiff, Int.reduceLE, Int.reduceLT, Int.reduceToNat, Int.reduceBEq, Int.reduceBNe, Int.reduceEq, Int.reduceAdd, Int.reduceSub, Int.reduceMul, Int.reduceNeg, Int.cast_ofNat_Int, *, encV, subRow, faceRow, renR_zipG, zipG_get, zipG_len, viewR_zipG, hk0, h4b] | ((with_reducible refine opK_c ?_); simp -dsimp only [go_sem, ↓reduceIte, reduceCtorEq, Nat.reduceAdd, Nat.reduceMul, Nat.reduceSub, Nat.reduceLeDiff, Nat.reduceLT, Nat.reduceEqDiff, Int.reduceLE, Int.reduceLT, Int.reduceToNat, Int.reduceBEq, Int.reduceBNe, Int.reduceEq, Int.reduceAdd, Int.reduceSub, Int.reduceMul, Int.reduceNeg, Int.cast_ofNat_Int, encV, subRow, faceRow, renR_zipG, zipG_get, zipG_len, viewR_zipG, hk0, h4b]; first | refine callK_r (by first | assumption | exact hfd | exact hle) (by first | exact .inl rfl | exact .inr rfl) ?_ | (refine callK_i (by assumption) ?_ ?_ ?_; (solve | (repeat (first | exact DLe.refl _ | exact DLe.nil _ | (refine DLe.tup ?_) | (refine DLe.agg ?_ rfl) | exact trivial | (refine And.intro ?_ ?_)))); (solve | exact .inl rfl | exact .inr rfl))) | (refine opK_M [] (hbg) ?_ ?_ ?_ ?_ ?_ ?_; (solve | rfl | simp only [go_sem, ↓reduceIte, reduceCtorEq, Nat.reduceAdd, Nat.reduceMul, Nat.reduceSub, Nat.reduceLeDiff, Nat.reduceLT, Nat.reduceEqDiff, Int.reduceLE, Int.reduceLT, Int.reduceToNat, Int.reduceBEq, Int.reduceBNe, Int.reduceEq, Int.reduceAdd, Int.reduceSub, Int.reduceMul, Int.reduceNeg, Int.cast_ofNat_Int, encV, subRow, faceRow, renR_zipG]); (solve | rfl); (solve | decide); (solve | simp); (solve | simp only [go_sem, ↓reduceIte, reduceCtorEq, Nat.reduceAdd, Nat.reduceMul, Nat.reduceSub, Nat.reduceLeDiff, Nat.reduceLT, Nat.reduceEqDiff, Int.reduceLE, Int.reduceLT, Int.reduceToNat, Int.reduceBEq, Int.reduceBNe, Int.reduceEq, Int.reduceAdd, Int.reduceSub, Int.reduceMul, Int.reduceNeg, Int.cast_ofNat_Int, lentOK, encV, subRow, faceRow, renR_zipG])) | omega | exact decide_eq_true (by omega) | exact DLe.refl _)
            all_goals (first | omega | exact (by repeat (first | exact DLe.refl _ | exact DLe.nil _ | (refine DLe.tup ?_) | (refine DLe.agg ?_ rfl) | exact trivial | (refine And.intro ?_ ?_))))
          | some a =>
            rw [hl] at hR2 hle
            simp only [Option.getD_some, Option.isSome_some] at hle
            have hna : a ∉ f.addrs := fun h => (leastF_not hl).1 (List.mem_flatMap.2 ⟨f, hfm, h⟩)
            have hsrt : f.addrs.Pairwise fun x y => x < y := by
              have := s4 f hfm
              unfold faceB at this
              simp only [Bool.and_eq_true, risB_pair] at this
              exact this.2.2.1
            have hso := sort_int (l := f.addrs ++ [a]) (l' := insK (fun x => x) a f.addrs) 2 (by simp) (insK_perm _ _ _) (insK_sorted hsrt (fun y hy e => hna (e ▸ hy))) (by simp; omega)
            simp only [List.map_append, List.map_cons, List.map_nil] at hso
            have hb1 : f.addrs.length + 1 ≤ 100 := by omega
            rw [hR2]
            subst hpl
            subst hplF
            clear hR hR2 hc hk hf hs hsm hv hg hfs hfm hna hsrt hl
            refine ps_i tab_ok mixed Tryz.func20 rfl Tryz.ntmps20 Tryz.results20 (by kernel_rfl) ?_
            repeat' (first | (with_reducible refine And.intro ?_ ?_) | (with_reducible refine gK_i (fun _ => ?_) (fun _ => ?_)) | (with_reducible refine condS_i (fun _ => ?_) (fun _ => ?_)) | (with_reducible refine drw_i (by kernel_rfl)) | simp -dsimp only [go_sem, ↓reduceIte, reduceCtorEq, Nat.reduceAdd, Nat.reduceMul, Nat.reduceSub, Nat.reduceLeDiff, Nat.reduceLT, Nat.reduceEqDiff, Int.reduceLE, Int.reduceLT, Int.reduceToNat, Int.reduceBEq, Int.reduceBNe, Int.reduceEq, Int.reduceAdd, Int.reduceSub, Int.reduceMul, Int.reduceNeg, Int.cast_ofNat_Int, *, encV, subRow, faceRow, renR_zipG, zipG_get, zipG_set, zipG_len, viewR_zipG, hk0, h4b, hb1] | ((with_reducible refine opK_c ?_); simp -dsimp only [go_sem, ↓reduceIte, reduceCtorEq, Nat.reduceAdd, Nat.reduceMul, Nat.reduceSub, Nat.reduceLeDiff, Nat.reduceLT, Nat.reduceEqDiff, Int.reduceLE, Int.reduceLT, Int.reduceToNat, Int.reduceBEq, Int.reduceBNe, Int.reduceEq, Int.reduceAdd, Int.reduceSub, Int.reduceMul, Int.reduceNeg, Int.cast_ofNat_Int, encV, subRow, faceRow, renR_zipG, zipG_get, zipG_set, zipG_len, viewR_zipG, hk0, h4b, hb1]; first | refine callK_r (by first | assumption | exact hfd | exact hle) (by first | exact .inl rfl | exact .inr rfl) ?_ | (refine callK_i (by assumption) ?_ ?_ ?_; (solve | (repeat (first | exact DLe.refl _ | exact DLe.nil _ | (refine DLe.tup ?_) | (refine DLe.agg ?_ rfl) | exact trivial | (refine And.intro ?_ ?_)))); (solve | exact .inl rfl | exact .inr rfl))) | (refine opK_M [] (hbg) ?_ ?_ ?_ ?_ ?_ ?_; (solve | rfl | simp only [go_sem, ↓reduceIte, reduceCtorEq, Nat.reduceAdd, Nat.reduceMul, Nat.reduceSub, Nat.reduceLeDiff, Nat.reduceLT, Nat.reduceEqDiff, Int.reduceLE, Int.reduceLT, Int.reduceToNat, Int.reduceBEq, Int.reduceBNe, Int.reduceEq, Int.reduceAdd, Int.reduceSub, Int.reduceMul, Int.reduceNeg, Int.cast_ofNat_Int, encV, subRow, faceRow, renR_zipG]); (solve | rfl); (solve | decide); (solve | simp); (solve | simp only [go_sem, ↓reduceIte, reduceCtorEq, Nat.reduceAdd, Nat.reduceMul, Nat.reduceSub, Nat.reduceLeDiff, Nat.reduceLT, Nat.reduceEqDiff, Int.reduceLE, Int.reduceLT, Int.reduceToNat, Int.reduceBEq, Int.reduceBNe, Int.reduceEq, Int.reduceAdd, Int.reduceSub, Int.reduceMul, Int.reduceNeg, Int.cast_ofNat_Int, lentOK, encV, subRow, faceRow, renR_zipG])) | (refine opK_M [10] (hso) ?_ ?_ ?_ ?_ ?_ ?_; (solve | rfl | simp only [go_sem, ↓reduceIte, reduceCtorEq, Nat.reduceAdd, Nat.reduceMul, Nat.reduceSub, Nat.reduceLeDiff, Nat.reduceLT, Nat.reduceEqDiff, Int.reduceLE, Int.reduceLT, Int.reduceToNat, Int.reduceBEq, Int.reduceBNe, Int.reduceEq, Int.reduceAdd, Int.reduceSub, Int.reduceMul, Int.reduceNeg, Int.cast_ofNat_Int, encA]); (solve | rfl); (solve | decide); (solve | simp); (solve | simp only [go_sem, ↓reduceIte, reduceCtorEq, Nat.reduceAdd, Nat.reduceMul, Nat.reduceSub, Nat.reduceLeDiff, Nat.reduceLT, Nat.reduceEqDiff, Int.reduceLE, Int.reduceLT, Int.reduceToNat, Int.reduceBEq, Int.reduceBNe, Int.reduceEq, Int.reduceAdd, Int.reduceSub, Int.reduceMul, Int.reduceNeg, Int.cast_ofNat_Int, lentOK, encA])) | omega | exact decide_eq_true (by omega) | exact DLe.refl _)
            all_goals (first | omega | (simp only [encV, encN, encF, List.map_append, List.map_cons]; exact (by repeat (first | exact DLe.refl _ | exact DLe.nil _ | (refine DLe.tup ?_) | (refine DLe.agg ?_ rfl) | exact trivial | (refine And.intro ?_ ?_)))))
  · have hbg := beginE_m v hc
    have hfz := find_zero sub id
    have h1 : (chkV v != 0) = true := by simpa using hc
    have hr : R = (Vpc.zero, 0, chkV v) := by rw [hR.out]; unfold moreV; rw [if_pos hc]
    rw [hr]
    replace hr := Lib.hid hr
    refine ps_i tab_ok mixed Tryz.func20 rfl Tryz.ntmps20 Tryz.results20 (by kernel_rfl) ?_
    repeat' (first | (with_reducible refine And.intro ?_ ?_) | (with_reducible refine gK_i (fun _ => ?_) (fun _ => ?_)) | (with_reducible refine condS_i (fun _ => ?_) (fun _ => ?_)) | (with_reducible refine drw_i (by kernel_rfl)) | simp -dsimp only [go_sem, ↓reduceIte, reduceCtorEq, Nat.reduceAdd, Nat.reduceMul, Nat.reduceSub, Nat.reduceLeDiff, Nat.reduceLT, Nat.reduceEqDiff, Int.reduceLE, Int.reduceLT, Int.reduceToNat, Int.reduceBEq, Int.reduceBNe, Int.reduceEq, Int.reduceAdd, Int.reduceSub, Int.reduceMul, Int.reduceNeg, Int.cast_ofNat_Int, *, encV, h1] | ((with_reducible refine opK_c ?_); simp -dsimp only [go_sem, ↓reduceIte, reduceCtorEq, Nat.reduceAdd, Nat.reduceMul, Nat.reduceSub, Nat.reduceLeDiff, Nat.reduceLT, Nat.reduceEqDiff, Int.reduceLE, Int.reduceLT, Int.reduceToNat, Int.reduceBEq, Int.reduceBNe, Int.reduceEq, Int.reduceAdd, Int.reduceSub, Int.reduceMul, Int.reduceNeg, Int.cast_ofNat_Int, encV, h1]; first | refine callK_r (by first | assumption | exact hfz) (by first | exact .inl rfl | exact .inr rfl) ?_ | (refine callK_i (by assumption) ?_ ?_ ?_; (solve | (repeat (first | exact DLe.refl _ | exact DLe.nil _ | (refine DLe.tup ?_) | (refine DLe.agg ?_ rfl) | exact trivial | (refine And.intro ?_ ?_)))); (solve | exact .inl rfl | exact .inr rfl))) | (refine opK_M [] (hbg) ?_ ?_ ?_ ?_ ?_ ?_; (solve | rfl | simp only [go_sem, ↓reduceIte, reduceCtorEq, Nat.reduceAdd, Nat.reduceMul, Nat.reduceSub, Nat.reduceLeDiff, Nat.reduceLT, Nat.reduceEqDiff, Int.reduceLE, Int.reduceLT, Int.reduceToNat, Int.reduceBEq, Int.reduceBNe, Int.reduceEq, Int.reduceAdd, Int.reduceSub, Int.reduceMul, Int.reduceNeg, Int.cast_ofNat_Int, encV]); (solve | rfl); (solve | decide); (solve | simp); (solve | simp only [go_sem, ↓reduceIte, reduceCtorEq, Nat.reduceAdd, Nat.reduceMul, Nat.reduceSub, Nat.reduceLeDiff, Nat.reduceLT, Nat.reduceEqDiff, Int.reduceLE, Int.reduceLT, Int.reduceToNat, Int.reduceBEq, Int.reduceBNe, Int.reduceEq, Int.reduceAdd, Int.reduceSub, Int.reduceMul, Int.reduceNeg, Int.cast_ofNat_Int, lentOK, encV])) | omega | exact decide_eq_true (by omega) | exact DLe.refl _)
    exact (by repeat (first | exact DLe.refl _ | exact DLe.nil _ | (refine DLe.tup ?_) | (refine DLe.agg ?_ rfl) | exact trivial | (refine And.intro ?_ ?_)))
end Go.Proofs.YtdcjeacphbfmjaaGreat
namespace Go.Proofs.YtdcjeacphbfmjaaGreat
open Go Go.RowKit
/-- Are two rows of numbers the same? -/
theorem sameInts_p (l m : List Int) (hl : l.length ≤ 1000000000) (hm : m.length ≤ 1000000000) : PSpec Tryz.prog 58 [.sl 1 (l.map encA), .sl 1 (m.map encA)] (.v (.bool (decide (l = m)))) := by
  obtain ⟨R, hR⟩ : ∃ R, R = decide (l = m) := ⟨_, rfl⟩
  rw [← hR]
  replace hR := Lib.hid hR
  refine ps_i tab_ok mixed Tryz.func58 rfl Tryz.ntmps58 Tryz.results58 (by kernel_rfl) ?_
  repeat' (first | (with_reducible refine And.intro ?_ ?_) | (with_reducible refine gK_i (fun _ => ?_) (fun _ => ?_)) | (with_reducible refine condS_i (fun _ => ?_) (fun _ => ?_)) | (with_reducible refine drw_i (by kernel_rfl)) | simp -dsimp only [go_sem, ↓reduceIte, reduceCtorEq, Nat.reduceAdd, Nat.reduceMul, Nat.reduceSub, Nat.reduceLeDiff, Nat.reduceLT, Nat.reduceEqDiff, Int.reduceLE, Int.reduceLT, Int.reduceToNat, Int.reduceBEq, Int.reduceBNe, Int.reduceEq, Int.reduceAdd, Int.reduceSub, Int.reduceMul, Int.reduceNeg, Int.cast_ofNat_Int, *, bne_self_eq_false] | ((with_reducible refine opK_c ?_); simp -dsimp only [go_sem, ↓reduceIte, reduceCtorEq, Nat.reduceAdd, Nat.reduceMul, Nat.reduceSub, Nat.reduceLeDiff, Nat.reduceLT, Nat.reduceEqDiff, Int.reduceLE, Int.reduceLT, Int.reduceToNat, Int.reduceBEq, Int.reduceBNe, Int.reduceEq, Int.reduceAdd, Int.reduceSub, Int.reduceMul, Int.reduceNeg, Int.cast_ofNat_Int, bne_self_eq_false]; first | refine callK_r (by first | assumption | fail) (by first | exact .inl rfl | exact .inr rfl) ?_ | (refine callK_i (by assumption) ?_ ?_ ?_; (solve | (repeat (first | exact DLe.refl _ | exact DLe.nil _ | (refine DLe.tup ?_) | (refine DLe.agg ?_ rfl) | exact trivial | (refine And.intro ?_ ?_)))); (solve | exact .inl rfl | exact .inr rfl))) | fail | omega | exact decide_eq_true (by omega) | exact DLe.refl _)
  · rename_i h1
    exact dle_b (by rw [hR.out, decide_eq_false]; rintro rfl; simp at h1)
  · rename_i h1
    have hlm : l.length = m.length := by simp at h1; omega
    clear h1
    replace hlm := Lib.hid hlm
    refine loopL tab_ok mixed l (fun k => l.take k = m.take k) (fun k => [(5, .d (.v (.int .i64 k))), (4, .d (.v (.bool false))), (1, .d (.sl 1 (m.map encA))), (0, .d (.sl 1 (l.map encA)))]) (fun _ => []) rfl (weak_forget _ (by simp) (by (try simp only [encA]); rfl) (by (repeat' (first | exact trivial | (refine ⟨rfl, ?_⟩)))) (by first | rfl | simp only [belowH, belowE, belowC, belowL, belowR, belowP, belowL_d, belowR_d, List.length_cons, List.length_nil, Nat.reduceAdd, Nat.reduceLT, decide_true, Bool.and_self, Bool.and_true]) (by first | rfl | simp only [belowH, belowE, belowC, belowL, belowR, belowP, belowL_d, belowR_d, List.length_cons, List.length_nil, Nat.reduceAdd, Nat.reduceLT, decide_true, Bool.and_self, Bool.and_true])) ?_ ?_
    · intro k x hx hk hI C hC
      have hkI : (k : Int) < (l.length : Int) := by omega
      have hwr : IntKind.i64.wrap ((k : Int) + 1) = ((k + 1 : Nat) : Int) := by rw [IntKind.wrap_i64]; omega
      obtain ⟨y, hy⟩ : ∃ y, m[k]? = some y := ⟨_, List.getElem?_eq_getElem (by have := hlm.out; omega)⟩
      replace hI := Lib.hid hI
      cases h1 : (x != y) with
      | true =>
        have hb : R = false := by
          rw [hR.out, decide_eq_false]
          rintro rfl
          rw [hx] at hy
          rw [Option.some.inj hy] at h1; simp at h1
        rw [hb]
        replace hb := Lib.hid hb
        repeat' (first | (with_reducible refine And.intro ?_ ?_) | (with_reducible refine gK_i (fun _ => ?_) (fun _ => ?_)) | (with_reducible refine condS_i (fun _ => ?_) (fun _ => ?_)) | (with_reducible refine drw_i (by kernel_rfl)) | simp -dsimp only [go_sem, ↓reduceIte, reduceCtorEq, Nat.reduceAdd, Nat.reduceMul, Nat.reduceSub, Nat.reduceLeDiff, Nat.reduceLT, Nat.reduceEqDiff, Int.reduceLE, Int.reduceLT, Int.reduceToNat, Int.reduceBEq, Int.reduceBNe, Int.reduceEq, Int.reduceAdd, Int.reduceSub, Int.reduceMul, Int.reduceNeg, Int.cast_ofNat_Int, *, encA, hkI, hwr, hx, hy, h1] | ((with_reducible refine opK_c ?_); simp -dsimp only [go_sem, ↓reduceIte, reduceCtorEq, Nat.reduceAdd, Nat.reduceMul, Nat.reduceSub, Nat.reduceLeDiff, Nat.reduceLT, Nat.reduceEqDiff, Int.reduceLE, Int.reduceLT, Int.reduceToNat, Int.reduceBEq, Int.reduceBNe, Int.reduceEq, Int.reduceAdd, Int.reduceSub, Int.reduceMul, Int.reduceNeg, Int.cast_ofNat_Int, encA, hkI, hwr, hx, hy, h1]; first | refine callK_r (by first | assumption | fail) (by first | exact .inl rfl | exact .inr rfl) ?_ | (refine callK_i (by assumption) ?_ ?_ ?_; (solve | (repeat (first | exact DLe.refl _ | exact DLe.nil _ | (refine DLe.tup ?_) | (refine DLe.agg ?_ rfl) | exact trivial | (refine And.intro ?_ ?_)))); (solve | exact .inl rfl | exact .inr rfl))) | fail | omega | exact decide_eq_true (by omega) | exact DLe.refl _)
        all_goals exact DLe.refl _
      | false =>
        have hI2 : l.take (k + 1) = m.take (k + 1) := by rw [take_snoc hx, take_snoc hy, hI.out]; simp at h1; rw [h1]
        replace hI2 := Lib.hid hI2
        repeat' (first | (with_reducible refine And.intro ?_ ?_) | (with_reducible refine gK_i (fun _ => ?_) (fun _ => ?_)) | (with_reducible refine condS_i (fun _ => ?_) (fun _ => ?_)) | (with_reducible refine drw_i (by kernel_rfl)) | simp -dsimp only [go_sem, ↓reduceIte, reduceCtorEq, Nat.reduceAdd, Nat.reduceMul, Nat.reduceSub, Nat.reduceLeDiff, Nat.reduceLT, Nat.reduceEqDiff, Int.reduceLE, Int.reduceLT, Int.reduceToNat, Int.reduceBEq, Int.reduceBNe, Int.reduceEq, Int.reduceAdd, Int.reduceSub, Int.reduceMul, Int.reduceNeg, Int.cast_ofNat_Int, *, encA, hkI, hwr, hx, hy, h1] | ((with_reducible refine opK_c ?_); simp -dsimp only [go_sem, ↓reduceIte, reduceCtorEq, Nat.reduceAdd, Nat.reduceMul, Nat.reduceSub, Nat.reduceLeDiff, Nat.reduceLT, Nat.reduceEqDiff, Int.reduceLE, Int.reduceLT, Int.reduceToNat, Int.reduceBEq, Int.reduceBNe, Int.reduceEq, Int.reduceAdd, Int.reduceSub, Int.reduceMul, Int.reduceNeg, Int.cast_ofNat_Int, encA, hkI, hwr, hx, hy, h1]; first | refine callK_r (by first | assumption | fail) (by first | exact .inl rfl | exact .inr rfl) ?_ | (refine callK_i (by assumption) ?_ ?_ ?_; (solve | (repeat (first | exact DLe.refl _ | exact DLe.nil _ | (refine DLe.tup ?_) | (refine DLe.agg ?_ rfl) | exact trivial | (refine And.intro ?_ ?_)))); (solve | exact .inl rfl | exact .inr rfl))) | fail | omega | exact decide_eq_true (by omega) | exact DLe.refl _)
        exact hC _ _ hI2.out (weak_forget _ (by simp) (by (try simp only [encA]); rfl) (by (repeat' (first | exact trivial | (refine ⟨rfl, ?_⟩)))) (by first | rfl | simp only [belowH, belowE, belowC, belowL, belowR, belowP, belowL_d, belowR_d, List.length_cons, List.length_nil, Nat.reduceAdd, Nat.reduceLT, decide_true, Bool.and_self, Bool.and_true]) (by first | rfl | simp only [belowH, belowE, belowC, belowL, belowR, belowP, belowL_d, belowR_d, List.length_cons, List.length_nil, Nat.reduceAdd, Nat.reduceLT, decide_true, Bool.and_self, Bool.and_true]))
    · intro hI C
      have hb : R = true := by
        rw [hR.out, decide_eq_true_eq]
        rw [List.take_length, hlm.out, List.take_length] at hI; exact hI
      rw [hb]
      replace hb := Lib.hid hb
      replace hI := Lib.hid hI
      repeat' (first | (with_reducible refine And.intro ?_ ?_) | (with_reducible refine gK_i (fun _ => ?_) (fun _ => ?_)) | (with_reducible refine condS_i (fun _ => ?_) (fun _ => ?_)) | (with_reducible refine drw_i (by kernel_rfl)) | simp -dsimp only [go_sem, ↓reduceIte, reduceCtorEq, Nat.reduceAdd, Nat.reduceMul, Nat.reduceSub, Nat.reduceLeDiff, Nat.reduceLT, Nat.reduceEqDiff, Int.reduceLE, Int.reduceLT, Int.reduceToNat, Int.reduceBEq, Int.reduceBNe, Int.reduceEq, Int.reduceAdd, Int.reduceSub, Int.reduceMul, Int.reduceNeg, Int.cast_ofNat_Int, *, Int.lt_irrefl] | ((with_reducible refine opK_c ?_); simp -dsimp only [go_sem, ↓reduceIte, reduceCtorEq, Nat.reduceAdd, Nat.reduceMul, Nat.reduceSub, Nat.reduceLeDiff, Nat.reduceLT, Nat.reduceEqDiff, Int.reduceLE, Int.reduceLT, Int.reduceToNat, Int.reduceBEq, Int.reduceBNe, Int.reduceEq, Int.reduceAdd, Int.reduceSub, Int.reduceMul, Int.reduceNeg, Int.cast_ofNat_Int, Int.lt_irrefl]; first | refine callK_r (by first | assumption | fail) (by first | exact .inl rfl | exact .inr rfl) ?_ | (refine callK_i (by assumption) ?_ ?_ ?_; (solve | (repeat (first | exact DLe.refl _ | exact DLe.nil _ | (refine DLe.tup ?_) | (refine DLe.agg ?_ rfl) | exact trivial | (refine And.intro ?_ ?_)))); (solve | exact .inl rfl | exact .inr rfl))) | fail | omega | exact decide_eq_true (by omega) | exact DLe.refl _)
      all_goals exact DLe.refl _
end Go.Proofs.YtdcjeacphbfmjaaGreat
namespace Go.Proofs.YtdcjeacphbfmjaaGreat
open Go Go.RowKit
theorem apaF_iff : ∀ (pre l : List Pfx), apaF pre l = true ↔ l.Pairwise (fun a b => b.meets a = false) ∧ ∀ a ∈ pre, ∀ b ∈ l, b.meets a = false
  | pre, [] => by simp [apaF]
  | pre, p :: l => by
    simp only [apaF, Bool.and_eq_true, Bool.not_eq_true', List.any_eq_false, Bool.not_eq_true, apaF_iff (pre ++ [p]) l, List.pairwise_cons, List.mem_append, List.mem_cons, List.not_mem_nil, or_false]
    constructor
    · rintro ⟨h1, h2, h3⟩
      refine ⟨⟨fun b hb => h3 p (.inr rfl) b hb, h2⟩, fun a ha b hb => ?_⟩
      rcases hb with rfl | hb
      · exact h1 a ha
      · exact h3 a (.inl ha) b hb
    · rintro ⟨⟨h1, h2⟩, h3⟩
      refine ⟨fun x hx => h3 x hx p (.inl rfl), h2, fun a ha b hb => ?_⟩
      rcases ha with ha | rfl
      · exact h3 a ha b (.inr hb)
      · exact h1 b hb
theorem apaF_nil {l : List Pfx} : apaF [] l = true ↔ l.Pairwise (fun a b => b.meets a = false) := by
  rw [apaF_iff]; simp
end Go.Proofs.YtdcjeacphbfmjaaGreat
namespace Go.Proofs.YtdcjeacphbfmjaaGreat
open Go Go.RowKit
theorem eqG_list (p q : Rng) : ([p.at_.at_, p.at_.len, p.pool] == [q.at_.at_, q.at_.len, q.pool]) = decide (p = q) := by
  rw [Bool.eq_iff_iff]
  cases p; cases q
  rename_i a b c d
  cases a; cases c
  simp [and_assoc]
theorem pre_snoc {α : Type} {l m : List α} {k : Nat} {x y : α} (hx : l[k]? = some x) (hy : m[k]? = some y) (h : l.take k = m.take k) (e : x = y) : l.take (k + 1) = m.take (k + 1) := by rw [take_snoc hx, take_snoc hy, h, e]
theorem pre_full {α : Type} {l m : List α} (hl : l.length = m.length) (h : l.take l.length = m.take l.length) : l = m := by
  rw [List.take_length, hl, List.take_length] at h; exact h
set_option maxRecDepth 100000 in
set_option maxHeartbeats 2000000 in
theorem sameVpcs_p (v w : Vpc) (hv1 : v.ranges.length ≤ 1000000000) (hv2 : v.subs.length ≤ 1000000000) (hv3 : ∀ s ∈ v.subs, s.faces.length ≤ 1000000000 ∧ ∀ f ∈ s.faces, f.addrs.length ≤ 1000000000) (hw3 : ∀ s ∈ w.subs, ∀ f ∈ s.faces, f.addrs.length ≤ 1000000000) : PSpec Tryz.prog 14 [.agg (encV v), .agg (encV w)] (.v (.bool (decide (v = w)))) := by
  obtain ⟨R, hR⟩ : ∃ R, R = decide (v = w) := ⟨_, rfl⟩
  rw [← hR]
  replace hR := Lib.hid hR
  have hno : v ≠ w → R = false := fun h => by rw [hR.out]; exact decide_eq_false h
  replace hno := Lib.hid hno
  replace hv3 := Lib.hid hv3
  replace hw3 := Lib.hid hw3
  by_cases c1 : v.id = w.id ∧ v.ranges.length = w.ranges.length ∧ v.subs.length = w.subs.length
  · obtain ⟨e1, e2, e3⟩ := c1
    have d1 : (v.id != w.id) = false := by simp [e1]
    have d2 : ((v.ranges.length : Int) != (w.ranges.length : Int)) = false := by simp [e2]
    have d3 : ((v.subs.length : Int) != (w.subs.length : Int)) = false := by simp [e3]
    replace e1 := Lib.hid e1
    replace e2 := Lib.hid e2
    replace e3 := Lib.hid e3
    refine ps_i tab_ok mixed Tryz.func14 rfl Tryz.ntmps14 Tryz.results14 (by kernel_rfl) ?_
    repeat' (first | (with_reducible refine And.intro ?_ ?_) | (with_reducible refine gK_i (fun _ => ?_) (fun _ => ?_)) | (with_reducible refine condS_i (fun _ => ?_) (fun _ => ?_)) | (with_reducible refine drw_i (by kernel_rfl)) | simp -dsimp only [go_sem, ↓reduceIte, reduceCtorEq, Nat.reduceAdd, Nat.reduceMul, Nat.reduceSub, Nat.reduceLeDiff, Nat.reduceLT, Nat.reduceEqDiff, Int.reduceLE, Int.reduceLT, Int.reduceToNat, Int.reduceBEq, Int.reduceBNe, Int.reduceEq, Int.reduceAdd, Int.reduceSub, Int.reduceMul, Int.reduceNeg, Int.cast_ofNat_Int, *, encV, d1, d2, d3, undef] | ((with_reducible refine opK_c ?_); simp -dsimp only [go_sem, ↓reduceIte, reduceCtorEq, Nat.reduceAdd, Nat.reduceMul, Nat.reduceSub, Nat.reduceLeDiff, Nat.reduceLT, Nat.reduceEqDiff, Int.reduceLE, Int.reduceLT, Int.reduceToNat, Int.reduceBEq, Int.reduceBNe, Int.reduceEq, Int.reduceAdd, Int.reduceSub, Int.reduceMul, Int.reduceNeg, Int.cast_ofNat_Int, encV, d1, d2, d3, undef]; first | refine callK_r (by first | assumption | fail) (by first | exact .inl rfl | exact .inr rfl) ?_ | (refine callK_i (by assumption) ?_ ?_ ?_; (solve | (repeat (first | exact DLe.refl _ | exact DLe.nil _ | (refine DLe.tup ?_) | (refine DLe.agg ?_ rfl) | exact trivial | (refine And.intro ?_ ?_)))); (solve | exact .inl rfl | exact .inr rfl))) | fail | omega | exact decide_eq_true (by omega) | exact DLe.refl _)
    refine loopL tab_ok mixed v.ranges (fun k => v.ranges.take k = w.ranges.take k) (fun k => [(5, .d (.v (.int .i64 k))), (4, .d (.v (.bool false))), (3, .ptr 1 0), (2, .ptr 0 0)]) (fun _ => [.box 25 ((encV v).map .d), .box 25 ((encV w).map .d)]) rfl (weak_forget _ (by simp) (by (try simp only [encV]); rfl) (by (repeat' (first | exact trivial | (refine ⟨rfl, ?_⟩)))) (by first | rfl | simp only [belowH, belowE, belowC, belowL, belowR, belowP, belowL_d, belowR_d, List.length_cons, List.length_nil, Nat.reduceAdd, Nat.reduceLT, decide_true, Bool.and_self, Bool.and_true]) (by first | rfl | simp only [belowH, belowE, belowC, belowL, belowR, belowP, belowL_d, belowR_d, List.length_cons, List.length_nil, Nat.reduceAdd, Nat.reduceLT, decide_true, Bool.and_self, Bool.and_true])) ?_ ?_
    · intro k x hx hk hI C hC
      have hkI : (k : Int) < (v.ranges.length : Int) := by omega
      have hwr : IntKind.i64.wrap ((k : Int) + 1) = ((k + 1 : Nat) : Int) := by rw [IntKind.wrap_i64]; omega
      obtain ⟨y, hy⟩ : ∃ y, w.ranges[k]? = some y := ⟨_, List.getElem?_eq_getElem (by rw [← e2.out]; exact hk)⟩
      replace hI := Lib.hid hI
      have he := eqG_list x y
      by_cases h1 : x = y
      · have hI2 := Lib.hid (pre_snoc hx hy hI.out h1)
        rw [decide_eq_true h1] at he
        replace h1 := Lib.hid h1
        repeat' (first | (with_reducible refine And.intro ?_ ?_) | (with_reducible refine gK_i (fun _ => ?_) (fun _ => ?_)) | (with_reducible refine condS_i (fun _ => ?_) (fun _ => ?_)) | (with_reducible refine drw_i (by kernel_rfl)) | simp -dsimp only [go_sem, ↓reduceIte, reduceCtorEq, Nat.reduceAdd, Nat.reduceMul, Nat.reduceSub, Nat.reduceLeDiff, Nat.reduceLT, Nat.reduceEqDiff, Int.reduceLE, Int.reduceLT, Int.reduceToNat, Int.reduceBEq, Int.reduceBNe, Int.reduceEq, Int.reduceAdd, Int.reduceSub, Int.reduceMul, Int.reduceNeg, Int.cast_ofNat_Int, *, encV, encG, hkI, hwr, hx, hy, he, bne, undef] | ((with_reducible refine opK_c ?_); simp -dsimp only [go_sem, ↓reduceIte, reduceCtorEq, Nat.reduceAdd, Nat.reduceMul, Nat.reduceSub, Nat.reduceLeDiff, Nat.reduceLT, Nat.reduceEqDiff, Int.reduceLE, Int.reduceLT, Int.reduceToNat, Int.reduceBEq, Int.reduceBNe, Int.reduceEq, Int.reduceAdd, Int.reduceSub, Int.reduceMul, Int.reduceNeg, Int.cast_ofNat_Int, encV, encG, hkI, hwr, hx, hy, he, bne, undef]; first | refine callK_r (by first | assumption | fail) (by first | exact .inl rfl | exact .inr rfl) ?_ | (refine callK_i (by assumption) ?_ ?_ ?_; (solve | (repeat (first | exact DLe.refl _ | exact DLe.nil _ | (refine DLe.tup ?_) | (refine DLe.agg ?_ rfl) | exact trivial | (refine And.intro ?_ ?_)))); (solve | exact .inl rfl | exact .inr rfl))) | fail | omega | exact decide_eq_true (by omega) | exact DLe.refl _)
        exact hC _ _ hI2.out (weak_forget _ (by simp) (by (try simp only [encV]); rfl) (by (repeat' (first | exact trivial | (refine ⟨rfl, ?_⟩)))) (by first | rfl | simp only [belowH, belowE, belowC, belowL, belowR, belowP, belowL_d, belowR_d, List.length_cons, List.length_nil, Nat.reduceAdd, Nat.reduceLT, decide_true, Bool.and_self, Bool.and_true]) (by first | rfl | simp only [belowH, belowE, belowC, belowL, belowR, belowP, belowL_d, belowR_d, List.length_cons, List.length_nil, Nat.reduceAdd, Nat.reduceLT, decide_true, Bool.and_self, Bool.and_true]))
      · have hb : R = false := hno.out (fun e => h1 (by subst e; rw [hx] at hy; exact Option.some.inj hy))
        rw [decide_eq_false h1] at he
        rw [hb]
        replace hb := Lib.hid hb
        replace h1 := Lib.hid h1
        repeat' (first | (with_reducible refine And.intro ?_ ?_) | (with_reducible refine gK_i (fun _ => ?_) (fun _ => ?_)) | (with_reducible refine condS_i (fun _ => ?_) (fun _ => ?_)) | (with_reducible refine drw_i (by kernel_rfl)) | simp -dsimp only [go_sem, ↓reduceIte, reduceCtorEq, Nat.reduceAdd, Nat.reduceMul, Nat.reduceSub, Nat.reduceLeDiff, Nat.reduceLT, Nat.reduceEqDiff, Int.reduceLE, Int.reduceLT, Int.reduceToNat, Int.reduceBEq, Int.reduceBNe, Int.reduceEq, Int.reduceAdd, Int.reduceSub, Int.reduceMul, Int.reduceNeg, Int.cast_ofNat_Int, *, encV, encG, hkI, hwr, hx, hy, he, bne, undef] | ((with_reducible refine opK_c ?_); simp -dsimp only [go_sem, ↓reduceIte, reduceCtorEq, Nat.reduceAdd, Nat.reduceMul, Nat.reduceSub, Nat.reduceLeDiff, Nat.reduceLT, Nat.reduceEqDiff, Int.reduceLE, Int.reduceLT, Int.reduceToNat, Int.reduceBEq, Int.reduceBNe, Int.reduceEq, Int.reduceAdd, Int.reduceSub, Int.reduceMul, Int.reduceNeg, Int.cast_ofNat_Int, encV, encG, hkI, hwr, hx, hy, he, bne, undef]; first | refine callK_r (by first | assumption | fail) (by first | exact .inl rfl | exact .inr rfl) ?_ | (refine callK_i (by assumption) ?_ ?_ ?_; (solve | (repeat (first | exact DLe.refl _ | exact DLe.nil _ | (refine DLe.tup ?_) | (refine DLe.agg ?_ rfl) | exact trivial | (refine And.intro ?_ ?_)))); (solve | exact .inl rfl | exact .inr rfl))) | fail | omega | exact decide_eq_true (by omega) | exact DLe.refl _)
        all_goals exact DLe.refl _
    · intro hI C
      have hrr := Lib.hid (pre_full e2.out hI)
      replace hI := Lib.hid hI
      repeat' (first | (with_reducible refine And.intro ?_ ?_) | (with_reducible refine gK_i (fun _ => ?_) (fun _ => ?_)) | (with_reducible refine condS_i (fun _ => ?_) (fun _ => ?_)) | (with_reducible refine drw_i (by kernel_rfl)) | simp -dsimp only [go_sem, ↓reduceIte, reduceCtorEq, Nat.reduceAdd, Nat.reduceMul, Nat.reduceSub, Nat.reduceLeDiff, Nat.reduceLT, Nat.reduceEqDiff, Int.reduceLE, Int.reduceLT, Int.reduceToNat, Int.reduceBEq, Int.reduceBNe, Int.reduceEq, Int.reduceAdd, Int.reduceSub, Int.reduceMul, Int.reduceNeg, Int.cast_ofNat_Int, *, encV, Int.lt_irrefl, undef] | ((with_reducible refine opK_c ?_); simp -dsimp only [go_sem, ↓reduceIte, reduceCtorEq, Nat.reduceAdd, Nat.reduceMul, Nat.reduceSub, Nat.reduceLeDiff, Nat.reduceLT, Nat.reduceEqDiff, Int.reduceLE, Int.reduceLT, Int.reduceToNat, Int.reduceBEq, Int.reduceBNe, Int.reduceEq, Int.reduceAdd, Int.reduceSub, Int.reduceMul, Int.reduceNeg, Int.cast_ofNat_Int, encV, Int.lt_irrefl, undef]; first | refine callK_r (by first | assumption | fail) (by first | exact .inl rfl | exact .inr rfl) ?_ | (refine callK_i (by assumption) ?_ ?_ ?_; (solve | (repeat (first | exact DLe.refl _ | exact DLe.nil _ | (refine DLe.tup ?_) | (refine DLe.agg ?_ rfl) | exact trivial | (refine And.intro ?_ ?_)))); (solve | exact .inl rfl | exact .inr rfl))) | fail | omega | exact decide_eq_true (by omega) | exact DLe.refl _)
      clear hI
      refine loopL tab_ok mixed v.subs (fun k => v.subs.take k = w.subs.take k) (fun k => [(6, .d (.v (.int .i64 k))), (4, .d (.v (.bool false))), (3, .ptr 1 0), (2, .ptr 0 0)]) (fun _ => [.box 25 ((encV v).map .d), .box 25 ((encV w).map .d)]) rfl (weak_forget _ (by simp) (by (try simp only [encV]); rfl) (by (repeat' (first | exact trivial | (refine ⟨rfl, ?_⟩)))) (by first | rfl | simp only [belowH, belowE, belowC, belowL, belowR, belowP, belowL_d, belowR_d, List.length_cons, List.length_nil, Nat.reduceAdd, Nat.reduceLT, decide_true, Bool.and_self, Bool.and_true]) (by first | rfl | simp only [belowH, belowE, belowC, belowL, belowR, belowP, belowL_d, belowR_d, List.length_cons, List.length_nil, Nat.reduceAdd, Nat.reduceLT, decide_true, Bool.and_self, Bool.and_true])) ?_ ?_
      · intro k x hx hk hI C hC
        have hkI : (k : Int) < (v.subs.length : Int) := by omega
        have hwr : IntKind.i64.wrap ((k : Int) + 1) = ((k + 1 : Nat) : Int) := by rw [IntKind.wrap_i64]; omega
        obtain ⟨y, hy⟩ : ∃ y, w.subs[k]? = some y := ⟨_, List.getElem?_eq_getElem (by rw [← e3.out]; exact hk)⟩
        have hxl := hv3.out x (List.mem_of_getElem? hx)
        have hyl := hw3.out y (List.mem_of_getElem? hy)
        have hxl1 := hxl.1
        have hxl2 := Lib.hid hxl.2
        clear hxl
        replace hyl := Lib.hid hyl
        have hbad : x ≠ y → R = false := fun h => hno.out (fun e => h (by subst e; rw [hx] at hy; exact Option.some.inj hy))
        replace hbad := Lib.hid hbad
        replace hI := Lib.hid hI
        have he := eqP_list x.at_ y.at_
        by_cases c2 : x.id = y.id ∧ x.at_ = y.at_ ∧ x.faces.length = y.faces.length
        · obtain ⟨f1, f2, f3⟩ := c2
          have g1 : (x.id == y.id) = true := by simp [f1]
          have g3 : ((x.faces.length : Int) == (y.faces.length : Int)) = true := by simp [f3]
          rw [decide_eq_true f2] at he
          replace f1 := Lib.hid f1
          replace f2 := Lib.hid f2
          replace f3 := Lib.hid f3
          repeat' (first | (with_reducible refine And.intro ?_ ?_) | (with_reducible refine gK_i (fun _ => ?_) (fun _ => ?_)) | (with_reducible refine condS_i (fun _ => ?_) (fun _ => ?_)) | (with_reducible refine drw_i (by kernel_rfl)) | simp -dsimp only [go_sem, ↓reduceIte, reduceCtorEq, Nat.reduceAdd, Nat.reduceMul, Nat.reduceSub, Nat.reduceLeDiff, Nat.reduceLT, Nat.reduceEqDiff, Int.reduceLE, Int.reduceLT, Int.reduceToNat, Int.reduceBEq, Int.reduceBNe, Int.reduceEq, Int.reduceAdd, Int.reduceSub, Int.reduceMul, Int.reduceNeg, Int.cast_ofNat_Int, *, encV, encN, hkI, hx, hy, he, g1, g3, bne, undef] | ((with_reducible refine opK_c ?_); simp -dsimp only [go_sem, ↓reduceIte, reduceCtorEq, Nat.reduceAdd, Nat.reduceMul, Nat.reduceSub, Nat.reduceLeDiff, Nat.reduceLT, Nat.reduceEqDiff, Int.reduceLE, Int.reduceLT, Int.reduceToNat, Int.reduceBEq, Int.reduceBNe, Int.reduceEq, Int.reduceAdd, Int.reduceSub, Int.reduceMul, Int.reduceNeg, Int.cast_ofNat_Int, encV, encN, hkI, hx, hy, he, g1, g3, bne, undef]; first | refine callK_r (by first | assumption | fail) (by first | exact .inl rfl | exact .inr rfl) ?_ | (refine callK_i (by assumption) ?_ ?_ ?_; (solve | (repeat (first | exact DLe.refl _ | exact DLe.nil _ | (refine DLe.tup ?_) | (refine DLe.agg ?_ rfl) | exact trivial | (refine And.intro ?_ ?_)))); (solve | exact .inl rfl | exact .inr rfl))) | fail | omega | exact decide_eq_true (by omega) | exact DLe.refl _)
          refine loopL tab_ok mixed x.faces (fun j => x.faces.take j = y.faces.take j) (fun j => [(9, .d (.v (.int .i64 j))), (8, .ptr 3 0), (7, .ptr 2 0), (6, .d (.v (.int .i64 k))), (4, .d (.v (.bool false))), (3, .ptr 1 0), (2, .ptr 0 0)]) (fun _ => [.box 25 ((encV v).map .d), .box 25 ((encV w).map .d), .box 62 ((encN x).map .d), .box 62 ((encN y).map .d)]) rfl (weak_forget _ (by simp) (by (try simp only [encV, encN]); rfl) (by (repeat' (first | exact trivial | (refine ⟨rfl, ?_⟩)))) (by first | rfl | simp only [belowH, belowE, belowC, belowL, belowR, belowP, belowL_d, belowR_d, List.length_cons, List.length_nil, Nat.reduceAdd, Nat.reduceLT, decide_true, Bool.and_self, Bool.and_true]) (by first | rfl | simp only [belowH, belowE, belowC, belowL, belowR, belowP, belowL_d, belowR_d, List.length_cons, List.length_nil, Nat.reduceAdd, Nat.reduceLT, decide_true, Bool.and_self, Bool.and_true])) ?_ ?_
          · intro j f hf hj hJ C2 hC2
            have hjI : (j : Int) < (x.faces.length : Int) := by omega
            have hwj : IntKind.i64.wrap ((j : Int) + 1) = ((j + 1 : Nat) : Int) := by rw [IntKind.wrap_i64]; omega
            obtain ⟨g, hg⟩ : ∃ g, y.faces[j]? = some g := ⟨_, List.getElem?_eq_getElem (by rw [← f3.out]; exact hj)⟩
            have hsi := sameInts_p f.addrs g.addrs (hxl2.out f (List.mem_of_getElem? hf)) (hyl.out g (List.mem_of_getElem? hg))
            have hbf : f ≠ g → R = false := fun h => hbad.out (fun e => h (by subst e; rw [hf] at hg; exact Option.some.inj hg))
            replace hbf := Lib.hid hbf
            replace hJ := Lib.hid hJ
            by_cases i1 : f.id = g.id
            · have n1 : (f.id == g.id) = true := by simp [i1]
              by_cases i2 : f.addrs = g.addrs
              · rw [decide_eq_true i2] at hsi
                have hfg : f = g := by cases f; cases g; simp at i1 i2; rw [i1, i2]
                have hJ2 := Lib.hid (pre_snoc hf hg hJ.out hfg)
                replace hfg := Lib.hid hfg
                replace i1 := Lib.hid i1
                replace i2 := Lib.hid i2
                repeat' (first | (with_reducible refine And.intro ?_ ?_) | (with_reducible refine gK_i (fun _ => ?_) (fun _ => ?_)) | (with_reducible refine condS_i (fun _ => ?_) (fun _ => ?_)) | (with_reducible refine drw_i (by kernel_rfl)) | simp -dsimp only [go_sem, ↓reduceIte, reduceCtorEq, Nat.reduceAdd, Nat.reduceMul, Nat.reduceSub, Nat.reduceLeDiff, Nat.reduceLT, Nat.reduceEqDiff, Int.reduceLE, Int.reduceLT, Int.reduceToNat, Int.reduceBEq, Int.reduceBNe, Int.reduceEq, Int.reduceAdd, Int.reduceSub, Int.reduceMul, Int.reduceNeg, Int.cast_ofNat_Int, *, encV, encN, encF, hjI, hwj, hf, hg, n1, bne, undef] | ((with_reducible refine opK_c ?_); simp -dsimp only [go_sem, ↓reduceIte, reduceCtorEq, Nat.reduceAdd, Nat.reduceMul, Nat.reduceSub, Nat.reduceLeDiff, Nat.reduceLT, Nat.reduceEqDiff, Int.reduceLE, Int.reduceLT, Int.reduceToNat, Int.reduceBEq, Int.reduceBNe, Int.reduceEq, Int.reduceAdd, Int.reduceSub, Int.reduceMul, Int.reduceNeg, Int.cast_ofNat_Int, encV, encN, encF, hjI, hwj, hf, hg, n1, bne, undef]; first | refine callK_r (by first | assumption | exact hsi) (by first | exact .inl rfl | exact .inr rfl) ?_ | (refine callK_i (by assumption) ?_ ?_ ?_; (solve | (repeat (first | exact DLe.refl _ | exact DLe.nil _ | (refine DLe.tup ?_) | (refine DLe.agg ?_ rfl) | exact trivial | (refine And.intro ?_ ?_)))); (solve | exact .inl rfl | exact .inr rfl))) | fail | omega | exact decide_eq_true (by omega) | exact DLe.refl _)
                exact hC2 _ _ hJ2.out (weak_forget _ (by simp) (by (try simp only [encV, encN]); rfl) (by (repeat' (first | exact trivial | (refine ⟨rfl, ?_⟩)))) (by first | rfl | simp only [belowH, belowE, belowC, belowL, belowR, belowP, belowL_d, belowR_d, List.length_cons, List.length_nil, Nat.reduceAdd, Nat.reduceLT, decide_true, Bool.and_self, Bool.and_true]) (by first | rfl | simp only [belowH, belowE, belowC, belowL, belowR, belowP, belowL_d, belowR_d, List.length_cons, List.length_nil, Nat.reduceAdd, Nat.reduceLT, decide_true, Bool.and_self, Bool.and_true]))
              · rw [decide_eq_false i2] at hsi
                have hb : R = false := hbf.out (fun e => i2 (by rw [e]))
                rw [hb]
                replace hb := Lib.hid hb
                replace i1 := Lib.hid i1
                replace i2 := Lib.hid i2
                repeat' (first | (with_reducible refine And.intro ?_ ?_) | (with_reducible refine gK_i (fun _ => ?_) (fun _ => ?_)) | (with_reducible refine condS_i (fun _ => ?_) (fun _ => ?_)) | (with_reducible refine drw_i (by kernel_rfl)) | simp -dsimp only [go_sem, ↓reduceIte, reduceCtorEq, Nat.reduceAdd, Nat.reduceMul, Nat.reduceSub, Nat.reduceLeDiff, Nat.reduceLT, Nat.reduceEqDiff, Int.reduceLE, Int.reduceLT, Int.reduceToNat, Int.reduceBEq, Int.reduceBNe, Int.reduceEq, Int.reduceAdd, Int.reduceSub, Int.reduceMul, Int.reduceNeg, Int.cast_ofNat_Int, *, encV, encN, encF, hjI, hwj, hf, hg, n1, bne, undef] | ((with_reducible refine opK_c ?_); simp -dsimp only [go_sem, ↓reduceIte, reduceCtorEq, Nat.reduceAdd, Nat.reduceMul, Nat.reduceSub, Nat.reduceLeDiff, Nat.reduceLT, Nat.reduceEqDiff, Int.reduceLE, Int.reduceLT, Int.reduceToNat, Int.reduceBEq, Int.reduceBNe, Int.reduceEq, Int.reduceAdd, Int.reduceSub, Int.reduceMul, Int.reduceNeg, Int.cast_ofNat_Int, encV, encN, encF, hjI, hwj, hf, hg, n1, bne, undef]; first | refine callK_r (by first | assumption | exact hsi) (by first | exact .inl rfl | exact .inr rfl) ?_ | (refine callK_i (by assumption) ?_ ?_ ?_; (solve | (repeat (first | exact DLe.refl _ | exact DLe.nil _ | (refine DLe.tup ?_) | (refine DLe.agg ?_ rfl) | exact trivial | (refine And.intro ?_ ?_)))); (solve | exact .inl rfl | exact .inr rfl))) | fail | omega | exact decide_eq_true (by omega) | exact DLe.refl _)
                all_goals exact DLe.refl _
            · have n1 : (f.id == g.id) = false := by simpa using i1
              have hb : R = false := hbf.out (fun e => i1 (by rw [e]))
              rw [hb]
              replace hb := Lib.hid hb
              replace i1 := Lib.hid i1
              repeat' (first | (with_reducible refine And.intro ?_ ?_) | (with_reducible refine gK_i (fun _ => ?_) (fun _ => ?_)) | (with_reducible refine condS_i (fun _ => ?_) (fun _ => ?_)) | (with_reducible refine drw_i (by kernel_rfl)) | simp -dsimp only [go_sem, ↓reduceIte, reduceCtorEq, Nat.reduceAdd, Nat.reduceMul, Nat.reduceSub, Nat.reduceLeDiff, Nat.reduceLT, Nat.reduceEqDiff, Int.reduceLE, Int.reduceLT, Int.reduceToNat, Int.reduceBEq, Int.reduceBNe, Int.reduceEq, Int.reduceAdd, Int.reduceSub, Int.reduceMul, Int.reduceNeg, Int.cast_ofNat_Int, *, encV, encN, encF, hjI, hwj, hf, hg, n1, bne, undef] | ((with_reducible refine opK_c ?_); simp -dsimp only [go_sem, ↓reduceIte, reduceCtorEq, Nat.reduceAdd, Nat.reduceMul, Nat.reduceSub, Nat.reduceLeDiff, Nat.reduceLT, Nat.reduceEqDiff, Int.reduceLE, Int.reduceLT, Int.reduceToNat, Int.reduceBEq, Int.reduceBNe, Int.reduceEq, Int.reduceAdd, Int.reduceSub, Int.reduceMul, Int.reduceNeg, Int.cast_ofNat_Int, encV, encN, encF, hjI, hwj, hf, hg, n1, bne, undef]; first | refine callK_r (by first | assumption | exact hsi) (by first | exact .inl rfl | exact .inr rfl) ?_ | (refine callK_i (by assumption) ?_ ?_ ?_; (solve | (repeat (first | exact DLe.refl _ | exact DLe.nil _ | (refine DLe.tup ?_) | (refine DLe.agg ?_ rfl) | exact trivial | (refine And.intro ?_ ?_)))); (solve | exact .inl rfl | exact .inr rfl))) | fail | omega | exact decide_eq_true (by omega) | exact DLe.refl _)
              all_goals exact DLe.refl _
          · intro hJ C2
            have hff := pre_full f3.out hJ
            have hxy : x = y := by
              have h1 := f1.out; have h2 := f2.out
              cases x; cases y; simp at h1 h2 hff; rw [h1, h2, hff]
            have hI2 := Lib.hid (pre_snoc hx hy hI.out hxy)
            replace hJ := Lib.hid hJ
            replace hff := Lib.hid hff
            replace hxy := Lib.hid hxy
            repeat' (first | (with_reducible refine And.intro ?_ ?_) | (with_reducible refine gK_i (fun _ => ?_) (fun _ => ?_)) | (with_reducible refine condS_i (fun _ => ?_) (fun _ => ?_)) | (with_reducible refine drw_i (by kernel_rfl)) | simp -dsimp only [go_sem, ↓reduceIte, reduceCtorEq, Nat.reduceAdd, Nat.reduceMul, Nat.reduceSub, Nat.reduceLeDiff, Nat.reduceLT, Nat.reduceEqDiff, Int.reduceLE, Int.reduceLT, Int.reduceToNat, Int.reduceBEq, Int.reduceBNe, Int.reduceEq, Int.reduceAdd, Int.reduceSub, Int.reduceMul, Int.reduceNeg, Int.cast_ofNat_Int, *, encV, encN, hwr, Int.lt_irrefl, undef] | ((with_reducible refine opK_c ?_); simp -dsimp only [go_sem, ↓reduceIte, reduceCtorEq, Nat.reduceAdd, Nat.reduceMul, Nat.reduceSub, Nat.reduceLeDiff, Nat.reduceLT, Nat.reduceEqDiff, Int.reduceLE, Int.reduceLT, Int.reduceToNat, Int.reduceBEq, Int.reduceBNe, Int.reduceEq, Int.reduceAdd, Int.reduceSub, Int.reduceMul, Int.reduceNeg, Int.cast_ofNat_Int, encV, encN, hwr, Int.lt_irrefl, undef]; first | refine callK_r (by first | assumption | fail) (by first | exact .inl rfl | exact .inr rfl) ?_ | (refine callK_i (by assumption) ?_ ?_ ?_; (solve | (repeat (first | exact DLe.refl _ | exact DLe.nil _ | (refine DLe.tup ?_) | (refine DLe.agg ?_ rfl) | exact trivial | (refine And.intro ?_ ?_)))); (solve | exact .inl rfl | exact .inr rfl))) | fail | omega | exact decide_eq_true (by omega) | exact DLe.refl _)
            exact hC _ _ hI2.out (weak_forget _ (by simp) (by (try simp only [encV]); rfl) (by (repeat' (first | exact trivial | (refine ⟨rfl, ?_⟩)))) (by first | rfl | simp only [belowH, belowE, belowC, belowL, belowR, belowP, belowL_d, belowR_d, List.length_cons, List.length_nil, Nat.reduceAdd, Nat.reduceLT, decide_true, Bool.and_self, Bool.and_true]) (by first | rfl | simp only [belowH, belowE, belowC, belowL, belowR, belowP, belowL_d, belowR_d, List.length_cons, List.length_nil, Nat.reduceAdd, Nat.reduceLT, decide_true, Bool.and_self, Bool.and_true]))
        · have hb : R = false := hbad.out (fun e => c2 ⟨by rw [e], by rw [e], by rw [e]⟩)
          rw [hb]
          replace hb := Lib.hid hb
          rw [Decidable.not_and_iff_or_not, Decidable.not_and_iff_or_not] at c2
          rcases c2 with c2 | c2 | c2
          · have g1 : (x.id == y.id) = false := by simpa using c2
            replace c2 := Lib.hid c2
            repeat' (first | (with_reducible refine And.intro ?_ ?_) | (with_reducible refine gK_i (fun _ => ?_) (fun _ => ?_)) | (with_reducible refine condS_i (fun _ => ?_) (fun _ => ?_)) | (with_reducible refine drw_i (by kernel_rfl)) | simp -dsimp only [go_sem, ↓reduceIte, reduceCtorEq, Nat.reduceAdd, Nat.reduceMul, Nat.reduceSub, Nat.reduceLeDiff, Nat.reduceLT, Nat.reduceEqDiff, Int.reduceLE, Int.reduceLT, Int.reduceToNat, Int.reduceBEq, Int.reduceBNe, Int.reduceEq, Int.reduceAdd, Int.reduceSub, Int.reduceMul, Int.reduceNeg, Int.cast_ofNat_Int, *, encV, encN, hkI, hx, hy, g1, bne, undef] | ((with_reducible refine opK_c ?_); simp -dsimp only [go_sem, ↓reduceIte, reduceCtorEq, Nat.reduceAdd, Nat.reduceMul, Nat.reduceSub, Nat.reduceLeDiff, Nat.reduceLT, Nat.reduceEqDiff, Int.reduceLE, Int.reduceLT, Int.reduceToNat, Int.reduceBEq, Int.reduceBNe, Int.reduceEq, Int.reduceAdd, Int.reduceSub, Int.reduceMul, Int.reduceNeg, Int.cast_ofNat_Int, encV, encN, hkI, hx, hy, g1, bne, undef]; first | refine callK_r (by first | assumption | fail) (by first | exact .inl rfl | exact .inr rfl) ?_ | (refine callK_i (by assumption) ?_ ?_ ?_; (solve | (repeat (first | exact DLe.refl _ | exact DLe.nil _ | (refine DLe.tup ?_) | (refine DLe.agg ?_ rfl) | exact trivial | (refine And.intro ?_ ?_)))); (solve | exact .inl rfl | exact .inr rfl))) | fail | omega | exact decide_eq_true (by omega) | exact DLe.refl _)
            all_goals exact DLe.refl _
          · rw [decide_eq_false c2] at he
            replace c2 := Lib.hid c2
            repeat' (first | (with_reducible refine And.intro ?_ ?_) | (with_reducible refine gK_i (fun _ => ?_) (fun _ => ?_)) | (with_reducible refine condS_i (fun _ => ?_) (fun _ => ?_)) | (with_reducible refine drw_i (by kernel_rfl)) | simp -dsimp only [go_sem, ↓reduceIte, reduceCtorEq, Nat.reduceAdd, Nat.reduceMul, Nat.reduceSub, Nat.reduceLeDiff, Nat.reduceLT, Nat.reduceEqDiff, Int.reduceLE, Int.reduceLT, Int.reduceToNat, Int.reduceBEq, Int.reduceBNe, Int.reduceEq, Int.reduceAdd, Int.reduceSub, Int.reduceMul, Int.reduceNeg, Int.cast_ofNat_Int, *, encV, encN, hkI, hx, hy, he, bne, undef] | ((with_reducible refine opK_c ?_); simp -dsimp only [go_sem, ↓reduceIte, reduceCtorEq, Nat.reduceAdd, Nat.reduceMul, Nat.reduceSub, Nat.reduceLeDiff, Nat.reduceLT, Nat.reduceEqDiff, Int.reduceLE, Int.reduceLT, Int.reduceToNat, Int.reduceBEq, Int.reduceBNe, Int.reduceEq, Int.reduceAdd, Int.reduceSub, Int.reduceMul, Int.reduceNeg, Int.cast_ofNat_Int, encV, encN, hkI, hx, hy, he, bne, undef]; first | refine callK_r (by first | assumption | fail) (by first | exact .inl rfl | exact .inr rfl) ?_ | (refine callK_i (by assumption) ?_ ?_ ?_; (solve | (repeat (first | exact DLe.refl _ | exact DLe.nil _ | (refine DLe.tup ?_) | (refine DLe.agg ?_ rfl) | exact trivial | (refine And.intro ?_ ?_)))); (solve | exact .inl rfl | exact .inr rfl))) | fail | omega | exact decide_eq_true (by omega) | exact DLe.refl _)
            all_goals exact DLe.refl _
          · have g3 : ((x.faces.length : Int) == (y.faces.length : Int)) = false := by simp; omega
            replace c2 := Lib.hid c2
            cases hd : decide (x.at_ = y.at_)
            all_goals
              rw [hd] at he
              replace hd := Lib.hid hd
              repeat' (first | (with_reducible refine And.intro ?_ ?_) | (with_reducible refine gK_i (fun _ => ?_) (fun _ => ?_)) | (with_reducible refine condS_i (fun _ => ?_) (fun _ => ?_)) | (with_reducible refine drw_i (by kernel_rfl)) | simp -dsimp only [go_sem, ↓reduceIte, reduceCtorEq, Nat.reduceAdd, Nat.reduceMul, Nat.reduceSub, Nat.reduceLeDiff, Nat.reduceLT, Nat.reduceEqDiff, Int.reduceLE, Int.reduceLT, Int.reduceToNat, Int.reduceBEq, Int.reduceBNe, Int.reduceEq, Int.reduceAdd, Int.reduceSub, Int.reduceMul, Int.reduceNeg, Int.cast_ofNat_Int, *, encV, encN, hkI, hx, hy, he, g3, bne, undef] | ((with_reducible refine opK_c ?_); simp -dsimp only [go_sem, ↓reduceIte, reduceCtorEq, Nat.reduceAdd, Nat.reduceMul, Nat.reduceSub, Nat.reduceLeDiff, Nat.reduceLT, Nat.reduceEqDiff, Int.reduceLE, Int.reduceLT, Int.reduceToNat, Int.reduceBEq, Int.reduceBNe, Int.reduceEq, Int.reduceAdd, Int.reduceSub, Int.reduceMul, Int.reduceNeg, Int.cast_ofNat_Int, encV, encN, hkI, hx, hy, he, g3, bne, undef]; first | refine callK_r (by first | assumption | fail) (by first | exact .inl rfl | exact .inr rfl) ?_ | (refine callK_i (by assumption) ?_ ?_ ?_; (solve | (repeat (first | exact DLe.refl _ | exact DLe.nil _ | (refine DLe.tup ?_) | (refine DLe.agg ?_ rfl) | exact trivial | (refine And.intro ?_ ?_)))); (solve | exact .inl rfl | exact .inr rfl))) | fail | omega | exact decide_eq_true (by omega) | exact DLe.refl _)
              all_goals exact DLe.refl _
      · intro hI C
        have hss := pre_full e3.out hI
        have hb : R = true := by
          rw [hR.out, decide_eq_true_eq]
          have h1 := e1.out; have h2 := hrr.out
          cases v; cases w; simp at h1 h2 hss; rw [h1, h2, hss]
        rw [hb]
        replace hb := Lib.hid hb
        replace hI := Lib.hid hI
        replace hss := Lib.hid hss
        repeat' (first | (with_reducible refine And.intro ?_ ?_) | (with_reducible refine gK_i (fun _ => ?_) (fun _ => ?_)) | (with_reducible refine condS_i (fun _ => ?_) (fun _ => ?_)) | (with_reducible refine drw_i (by kernel_rfl)) | simp -dsimp only [go_sem, ↓reduceIte, reduceCtorEq, Nat.reduceAdd, Nat.reduceMul, Nat.reduceSub, Nat.reduceLeDiff, Nat.reduceLT, Nat.reduceEqDiff, Int.reduceLE, Int.reduceLT, Int.reduceToNat, Int.reduceBEq, Int.reduceBNe, Int.reduceEq, Int.reduceAdd, Int.reduceSub, Int.reduceMul, Int.reduceNeg, Int.cast_ofNat_Int, *, encV, Int.lt_irrefl, undef] | ((with_reducible refine opK_c ?_); simp -dsimp only [go_sem, ↓reduceIte, reduceCtorEq, Nat.reduceAdd, Nat.reduceMul, Nat.reduceSub, Nat.reduceLeDiff, Nat.reduceLT, Nat.reduceEqDiff, Int.reduceLE, Int.reduceLT, Int.reduceToNat, Int.reduceBEq, Int.reduceBNe, Int.reduceEq, Int.reduceAdd, Int.reduceSub, Int.reduceMul, Int.reduceNeg, Int.cast_ofNat_Int, encV, Int.lt_irrefl, undef]; first | refine callK_r (by first | assumption | fail) (by first | exact .inl rfl | exact .inr rfl) ?_ | (refine callK_i (by assumption) ?_ ?_ ?_; (solve | (repeat (first | exact DLe.refl _ | exact DLe.nil _ | (refine DLe.tup ?_) | (refine DLe.agg ?_ rfl) | exact trivial | (refine And.intro ?_ ?_)))); (solve | exact .inl rfl | exact .inr rfl))) | fail | omega | exact decide_eq_true (by omega) | exact DLe.refl _)
        all_goals exact DLe.refl _
  · have hb : R = false := hno.out (fun e => c1 ⟨by rw [e], by rw [e], by rw [e]⟩)
    rw [hb]
    replace hb := Lib.hid hb
    rw [Decidable.not_and_iff_or_not, Decidable.not_and_iff_or_not] at c1
    rcases c1 with c1 | c1 | c1
    · have g1 : (v.id == w.id) = false := by simpa using c1
      replace c1 := Lib.hid c1
      refine ps_i tab_ok mixed Tryz.func14 rfl Tryz.ntmps14 Tryz.results14 (by kernel_rfl) ?_
      repeat' (first | (with_reducible refine And.intro ?_ ?_) | (with_reducible refine gK_i (fun _ => ?_) (fun _ => ?_)) | (with_reducible refine condS_i (fun _ => ?_) (fun _ => ?_)) | (with_reducible refine drw_i (by kernel_rfl)) | simp -dsimp only [go_sem, ↓reduceIte, reduceCtorEq, Nat.reduceAdd, Nat.reduceMul, Nat.reduceSub, Nat.reduceLeDiff, Nat.reduceLT, Nat.reduceEqDiff, Int.reduceLE, Int.reduceLT, Int.reduceToNat, Int.reduceBEq, Int.reduceBNe, Int.reduceEq, Int.reduceAdd, Int.reduceSub, Int.reduceMul, Int.reduceNeg, Int.cast_ofNat_Int, *, encV, g1, bne, undef] | ((with_reducible refine opK_c ?_); simp -dsimp only [go_sem, ↓reduceIte, reduceCtorEq, Nat.reduceAdd, Nat.reduceMul, Nat.reduceSub, Nat.reduceLeDiff, Nat.reduceLT, Nat.reduceEqDiff, Int.reduceLE, Int.reduceLT, Int.reduceToNat, Int.reduceBEq, Int.reduceBNe, Int.reduceEq, Int.reduceAdd, Int.reduceSub, Int.reduceMul, Int.reduceNeg, Int.cast_ofNat_Int, encV, g1, bne, undef]; first | refine callK_r (by first | assumption | fail) (by first | exact .inl rfl | exact .inr rfl) ?_ | (refine callK_i (by assumption) ?_ ?_ ?_; (solve | (repeat (first | exact DLe.refl _ | exact DLe.nil _ | (refine DLe.tup ?_) | (refine DLe.agg ?_ rfl) | exact trivial | (refine And.intro ?_ ?_)))); (solve | exact .inl rfl | exact .inr rfl))) | fail | omega | exact decide_eq_true (by omega) | exact DLe.refl _)
      all_goals exact DLe.refl _
    · have g1 : ((v.ranges.length : Int) == (w.ranges.length : Int)) = false := by simp; omega
      replace c1 := Lib.hid c1
      refine ps_i tab_ok mixed Tryz.func14 rfl Tryz.ntmps14 Tryz.results14 (by kernel_rfl) ?_
      repeat' (first | (with_reducible refine And.intro ?_ ?_) | (with_reducible refine gK_i (fun _ => ?_) (fun _ => ?_)) | (with_reducible refine condS_i (fun _ => ?_) (fun _ => ?_)) | (with_reducible refine drw_i (by kernel_rfl)) | simp -dsimp only [go_sem, ↓reduceIte, reduceCtorEq, Nat.reduceAdd, Nat.reduceMul, Nat.reduceSub, Nat.reduceLeDiff, Nat.reduceLT, Nat.reduceEqDiff, Int.reduceLE, Int.reduceLT, Int.reduceToNat, Int.reduceBEq, Int.reduceBNe, Int.reduceEq, Int.reduceAdd, Int.reduceSub, Int.reduceMul, Int.reduceNeg, Int.cast_ofNat_Int, *, encV, g1, bne, undef] | ((with_reducible refine opK_c ?_); simp -dsimp only [go_sem, ↓reduceIte, reduceCtorEq, Nat.reduceAdd, Nat.reduceMul, Nat.reduceSub, Nat.reduceLeDiff, Nat.reduceLT, Nat.reduceEqDiff, Int.reduceLE, Int.reduceLT, Int.reduceToNat, Int.reduceBEq, Int.reduceBNe, Int.reduceEq, Int.reduceAdd, Int.reduceSub, Int.reduceMul, Int.reduceNeg, Int.cast_ofNat_Int, encV, g1, bne, undef]; first | refine callK_r (by first | assumption | fail) (by first | exact .inl rfl | exact .inr rfl) ?_ | (refine callK_i (by assumption) ?_ ?_ ?_; (solve | (repeat (first | exact DLe.refl _ | exact DLe.nil _ | (refine DLe.tup ?_) | (refine DLe.agg ?_ rfl) | exact trivial | (refine And.intro ?_ ?_)))); (solve | exact .inl rfl | exact .inr rfl))) | fail | omega | exact decide_eq_true (by omega) | exact DLe.refl _)
      all_goals exact DLe.refl _
    · have g1 : ((v.subs.length : Int) == (w.subs.length : Int)) = false := by simp; omega
      replace c1 := Lib.hid c1
      refine ps_i tab_ok mixed Tryz.func14 rfl Tryz.ntmps14 Tryz.results14 (by kernel_rfl) ?_
      repeat' (first | (with_reducible refine And.intro ?_ ?_) | (with_reducible refine gK_i (fun _ => ?_) (fun _ => ?_)) | (with_reducible refine condS_i (fun _ => ?_) (fun _ => ?_)) | (with_reducible refine drw_i (by kernel_rfl)) | simp -dsimp only [go_sem, ↓reduceIte, reduceCtorEq, Nat.reduceAdd, Nat.reduceMul, Nat.reduceSub, Nat.reduceLeDiff, Nat.reduceLT, Nat.reduceEqDiff, Int.reduceLE, Int.reduceLT, Int.reduceToNat, Int.reduceBEq, Int.reduceBNe, Int.reduceEq, Int.reduceAdd, Int.reduceSub, Int.reduceMul, Int.reduceNeg, Int.cast_ofNat_Int, *, encV, g1, bne, undef] | ((with_reducible refine opK_c ?_); simp -dsimp only [go_sem, ↓reduceIte, reduceCtorEq, Nat.reduceAdd, Nat.reduceMul, Nat.reduceSub, Nat.reduceLeDiff, Nat.reduceLT, Nat.reduceEqDiff, Int.reduceLE, Int.reduceLT, Int.reduceToNat, Int.reduceBEq, Int.reduceBNe, Int.reduceEq, Int.reduceAdd, Int.reduceSub, Int.reduceMul, Int.reduceNeg, Int.cast_ofNat_Int, encV, g1, bne, undef]; first | refine callK_r (by first | assumption | fail) (by first | exact .inl rfl | exact .inr rfl) ?_ | (refine callK_i (by assumption) ?_ ?_ ?_; (solve | (repeat (first | exact DLe.refl _ | exact DLe.nil _ | (refine DLe.tup ?_) | (refine DLe.agg ?_ rfl) | exact trivial | (refine And.intro ?_ ?_)))); (solve | exact .inl rfl | exact .inr rfl))) | fail | omega | exact decide_eq_true (by omega) | exact DLe.refl _)
      all_goals exact DLe.refl _
end Go.Proofs.YtdcjeacphbfmjaaGreat
namespace Go.Proofs.YtdcjeacphbfmjaaGreat
open Go Go.RowKit
def rdl : List (List D) → List (List D) → Prop
  | [], [] => True
  | r :: l, s :: m => dles r s ∧ rdl l m
  | _, _ => False
theorem rdl_at : ∀ {l m : List (List D)}, rdl l m → l.length = m.length ∧ ∀ (j : Nat) (a b : List D), l[j]? = some a → m[j]? = some b → dles a b
  | [], [], _ => ⟨rfl, fun j a b h => by simp at h⟩
  | [], _ :: _, h => h.elim
  | _ :: _, [], h => h.elim
  | r :: l, s :: m, ⟨h1, h2⟩ => by
    obtain ⟨q1, q2⟩ := rdl_at h2
    refine ⟨by simp [q1], fun j a b ha hb => ?_⟩
    cases j with
    | zero => simp at ha hb; subst ha; subst hb; exact h1
    | succ j => exact q2 j a b (by simpa using ha) (by simpa using hb)
theorem DLe.sl {sz : Nat} {l m : List (List D)} (h : rdl l m) (h1 : ∀ r ∈ m, ∀ d ∈ r, d.one = true) : DLe (.sl sz l) (.sl sz m) := fun M w v hr => by
  obtain ⟨q1, q2⟩ := rdl_at h
  cases hr with
  | nil _ ao cap hm =>
    have : m = [] := List.eq_nil_of_length_eq_zero (by rw [← q1]; rfl)
    subst this
    exact .nil sz ao cap hm
  | sl _ rows b off cap f hM hb hc hm hr _ hcell hrep =>
    rw [q1]
    have row : ∀ (i : Nat) (s : List D), m[i]? = some s → ∃ r, l[i]? = some r ∧ dles r s := fun i s hs => by
      obtain ⟨hlt, -⟩ := List.getElem?_eq_some_iff.1 hs
      exact ⟨l[i]'(by omega), List.getElem?_eq_getElem (by omega), q2 i _ s (List.getElem?_eq_getElem (by omega)) hs⟩
    refine .sl sz m b off cap f hM hb (by omega) hm (fun s hs => ?_) h1 (fun i j hi hj => hcell i j (by omega) hj) (fun i j s d hs hd => ?_)
    · obtain ⟨i, hi, rfl⟩ := List.mem_iff_getElem.1 hs
      obtain ⟨r, e1, e2⟩ := row i _ (List.getElem?_eq_getElem hi)
      rw [← (dles_at e2).1]
      exact hr r (List.mem_of_getElem? e1)
    · obtain ⟨r, e1, e2⟩ := row i s hs
      obtain ⟨p1, p2⟩ := dles_at e2
      obtain ⟨hlt, -⟩ := List.getElem?_eq_some_iff.1 hd
      exact p2 j _ d (List.getElem?_eq_getElem (by omega)) hd M w _ (hrep i j r _ e1 (List.getElem?_eq_getElem (by omega)))
end Go.Proofs.YtdcjeacphbfmjaaGreat
namespace Go.Proofs.YtdcjeacphbfmjaaGreat
open Go Go.RowKit
def vb0 : Vpc := ⟨3, [⟨⟨256, 10⟩, 7⟩], [⟨1, ⟨256, 13⟩, [⟨2, [257]⟩]⟩]⟩
def vb1 : Vpc := ⟨3, [⟨⟨256, 10⟩, 7⟩], [⟨1, ⟨256, 13⟩, [⟨1, [258]⟩, ⟨2, [257]⟩]⟩]⟩
def vb2 : Vpc := ⟨3, [⟨⟨256, 10⟩, 7⟩], [⟨1, ⟨256, 13⟩, [⟨1, [258]⟩, ⟨2, [257, 259]⟩]⟩]⟩
def vb3 : Vpc := ⟨3, [⟨⟨256, 10⟩, 7⟩], [⟨1, ⟨256, 13⟩, [⟨1, [258]⟩]⟩]⟩
def vb4 : Vpc := ⟨3, [⟨⟨256, 10⟩, 7⟩], [⟨1, ⟨256, 13⟩, [⟨1, [258]⟩]⟩, ⟨4, ⟨264, 13⟩, []⟩]⟩
def vb5 : Vpc := ⟨3, [⟨⟨256, 10⟩, 7⟩, ⟨⟨512, 16⟩, 1⟩], [⟨1, ⟨256, 13⟩, [⟨1, [258]⟩]⟩, ⟨4, ⟨264, 13⟩, []⟩]⟩
set_option maxRecDepth 100000 in
theorem vb_1 : faceV vb0 1 1 = (vb1, 258, 0) := by kernel_rfl
set_option maxRecDepth 100000 in
theorem vb_2 : moreV vb1 1 2 = (vb2, 259, 0) := by kernel_rfl
theorem vb_3 : unsubV vb2 1 = (Vpc.zero, 9) := by kernel_rfl
theorem vb_4 : unfaceV vb2 1 2 = (vb3, 0) := by kernel_rfl
theorem vb_5 : dropV vb2 ⟨256, 10⟩ = (Vpc.zero, Rng.zero, 9) := by kernel_rfl
theorem vb_6 : subV vb3 4 ⟨264, 13⟩ = (vb4, 0) := by kernel_rfl
theorem vb_7 : growV vb4 ⟨⟨512, 16⟩, 1⟩ = (vb5, 0) := by kernel_rfl
theorem vb_8 : chkV vb0 = 0 := by kernel_rfl
theorem house_p : PSpec Tryz.prog 46 [] (.agg (encV vb0)) := by
  refine ps_i tab_ok mixed Tryz.func46 rfl Tryz.ntmps46 Tryz.results46 (by kernel_rfl) ?_
  repeat' (first | (with_reducible refine And.intro ?_ ?_) | (with_reducible refine gK_i (fun _ => ?_) (fun _ => ?_)) | (with_reducible refine condS_i (fun _ => ?_) (fun _ => ?_)) | (with_reducible refine drw_i (by kernel_rfl)) | simp -dsimp only [go_sem, ↓reduceIte, reduceCtorEq, Nat.reduceAdd, Nat.reduceMul, Nat.reduceSub, Nat.reduceLeDiff, Nat.reduceLT, Nat.reduceEqDiff, Int.reduceLE, Int.reduceLT, Int.reduceToNat, Int.reduceBEq, Int.reduceBNe, Int.reduceEq, Int.reduceAdd, Int.reduceSub, Int.reduceMul, Int.reduceNeg, Int.cast_ofNat_Int, *, encV, encG, encN, encF, encA, vb0] | ((with_reducible refine opK_c ?_); simp -dsimp only [go_sem, ↓reduceIte, reduceCtorEq, Nat.reduceAdd, Nat.reduceMul, Nat.reduceSub, Nat.reduceLeDiff, Nat.reduceLT, Nat.reduceEqDiff, Int.reduceLE, Int.reduceLT, Int.reduceToNat, Int.reduceBEq, Int.reduceBNe, Int.reduceEq, Int.reduceAdd, Int.reduceSub, Int.reduceMul, Int.reduceNeg, Int.cast_ofNat_Int, encV, encG, encN, encF, encA, vb0]; first | refine callK_r (by first | assumption | fail) (by first | exact .inl rfl | exact .inr rfl) ?_ | (refine callK_i (by assumption) ?_ ?_ ?_; (solve | (repeat (first | exact DLe.refl _ | exact DLe.nil _ | (refine DLe.tup ?_) | (refine DLe.agg ?_ rfl) | exact trivial | (refine And.intro ?_ ?_)))); (solve | exact .inl rfl | exact .inr rfl))) | fail | omega | exact decide_eq_true (by omega) | exact DLe.refl _)
  all_goals exact (by repeat (first | exact DLe.refl _ | exact DLe.nil _ | (refine DLe.tup ?_) | (refine DLe.agg ?_ rfl) | exact trivial | (refine And.intro ?_ ?_)))
set_option maxRecDepth 100000 in
set_option maxHeartbeats 1000000 in
theorem vpcBegun_p : PSpec Tryz.prog 11 [] (.v (.bool true)) := by
  have h0 := house_p
  have h1 := vface_p vb0 1 1
  have h2 := more_p vb1 1 2
  have h3 := unsub_p vb2 1
  have h4 := unface_p vb2 1 2
  have h5 := vdrop_p vb2 ⟨256, 10⟩
  have h6 := vsub_p vb3 4 ⟨264, 13⟩
  have h7 := vgrow_p vb4 ⟨⟨512, 16⟩, 1⟩
  have h8 := vcheck_p vb0
  rw [vb_1] at h1
  rw [vb_2] at h2
  rw [vb_3] at h3
  rw [vb_4] at h4
  rw [vb_5] at h5
  rw [vb_6] at h6
  rw [vb_7] at h7
  rw [vb_8] at h8
  simp only [encV, encG, encN, encF, encA, encP, vb0, vb1, vb2, vb3, vb4, vb5, Vpc.zero, Rng.zero, List.map_nil, List.map_cons] at h0 h1 h2 h3 h4 h5 h6 h7 h8
  refine ps_i tab_ok mixed Tryz.func11 rfl Tryz.ntmps11 Tryz.results11 (by kernel_rfl) ?_
  repeat' (first | (with_reducible refine And.intro ?_ ?_) | (with_reducible refine gK_i (fun _ => ?_) (fun _ => ?_)) | (with_reducible refine condS_i (fun _ => ?_) (fun _ => ?_)) | (with_reducible refine drw_i (by kernel_rfl)) | simp -dsimp only [go_sem, ↓reduceIte, reduceCtorEq, Nat.reduceAdd, Nat.reduceMul, Nat.reduceSub, Nat.reduceLeDiff, Nat.reduceLT, Nat.reduceEqDiff, Int.reduceLE, Int.reduceLT, Int.reduceToNat, Int.reduceBEq, Int.reduceBNe, Int.reduceEq, Int.reduceAdd, Int.reduceSub, Int.reduceMul, Int.reduceNeg, Int.cast_ofNat_Int, *, undef] | ((with_reducible refine opK_c ?_); simp -dsimp only [go_sem, ↓reduceIte, reduceCtorEq, Nat.reduceAdd, Nat.reduceMul, Nat.reduceSub, Nat.reduceLeDiff, Nat.reduceLT, Nat.reduceEqDiff, Int.reduceLE, Int.reduceLT, Int.reduceToNat, Int.reduceBEq, Int.reduceBNe, Int.reduceEq, Int.reduceAdd, Int.reduceSub, Int.reduceMul, Int.reduceNeg, Int.cast_ofNat_Int, undef]; first | refine callK_r (by first | assumption | exact h0 | exact h1 | exact h2 | exact h3 | exact h4 | exact h5 | exact h6 | exact h7 | exact h8) (by first | exact .inl rfl | exact .inr rfl) ?_ | (refine callK_i (by assumption) ?_ ?_ ?_; (solve | (repeat (first | exact DLe.refl _ | exact DLe.nil _ | (refine DLe.tup ?_) | (refine DLe.agg ?_ rfl) | exact trivial | (refine And.intro ?_ ?_)))); (solve | exact .inl rfl | exact .inr rfl))) | fail | omega | exact decide_eq_true (by omega) | exact DLe.refl _)
end Go.Proofs.YtdcjeacphbfmjaaGreat
namespace Go.Proofs.YtdcjeacphbfmjaaGreat
open Go Go.RowKit
def SmallS (s : Sbn) : Prop := s.faces.length ≤ 1000000000 ∧ ∀ f ∈ s.faces, f.addrs.length ≤ 1000000000
def SmallV (v : Vpc) : Prop := v.ranges.length ≤ 1000000000 ∧ v.subs.length ≤ 1000000000 ∧ ∀ s ∈ v.subs, SmallS s
theorem smallS_ok {v : Vpc} (h : VpcOK v) : ∀ s ∈ v.subs, SmallS s := fun s hs => ⟨by have := (h.n8 s hs).1; omega, fun f hf => by have := (h.n8 s hs).2 f hf; omega⟩
theorem same_self (v : Vpc) (h : SmallV v) : PSpec Tryz.prog 14 [.agg (encV v), .agg (encV v)] (.v (.bool true)) := by
  have := sameVpcs_p v v h.1 h.2.1 h.2.2 (fun s hs => (h.2.2 s hs).2)
  rwa [decide_eq_true rfl] at this
end Go.Proofs.YtdcjeacphbfmjaaGreat
namespace Go.Proofs.YtdcjeacphbfmjaaGreat
open Go Go.RowKit
def subA (s : Sbn) : List Int := s.faces.flatMap (·.addrs)
def addrsV (v : Vpc) : List Int := v.subs.flatMap subA
def cntV (v : Vpc) (x : Int) : Nat := (addrsV v).count x
theorem flat_snoc {α : Type} {g : α → List Int} {l : List α} {k : Nat} {y : α} {x : Int} (h : l[k]? = some y) : ((l.take (k + 1)).flatMap g).count x = ((l.take k).flatMap g).count x + (g y).count x := by
  rw [take_snoc h, List.flatMap_append, List.count_append]; simp
theorem cnt_snoc2 {l : List Int} {k : Nat} {y x : Int} (h : l[k]? = some y) : (l.take (k + 1)).count x = (l.take k).count x + if y == x then 1 else 0 := by
  rw [take_snoc h, List.count_append, List.count_singleton]
set_option maxRecDepth 100000 in
set_option maxHeartbeats 2000000 in
theorem has_p (v : Vpc) (x : Int) (h6 : v.subs.length ≤ 6) (h8 : ∀ s ∈ v.subs, s.faces.length ≤ 8 ∧ ∀ f ∈ s.faces, f.addrs.length ≤ 4) : PSpec Tryz.prog 25 [.agg (encV v), .v (.int .i64 x)] (.v (.int .i64 (cntV v x))) := by
  obtain ⟨R, hR⟩ : ∃ R, R = cntV v x := ⟨_, rfl⟩
  rw [← hR]
  replace hR := Lib.hid hR
  replace h8 := Lib.hid h8
  refine ps_i tab_ok mixed Tryz.func25 rfl Tryz.ntmps25 Tryz.results25 (by kernel_rfl) ?_
  repeat' (first | (with_reducible refine And.intro ?_ ?_) | (with_reducible refine gK_i (fun _ => ?_) (fun _ => ?_)) | (with_reducible refine condS_i (fun _ => ?_) (fun _ => ?_)) | (with_reducible refine drw_i (by kernel_rfl)) | simp -dsimp only [go_sem, ↓reduceIte, reduceCtorEq, Nat.reduceAdd, Nat.reduceMul, Nat.reduceSub, Nat.reduceLeDiff, Nat.reduceLT, Nat.reduceEqDiff, Int.reduceLE, Int.reduceLT, Int.reduceToNat, Int.reduceBEq, Int.reduceBNe, Int.reduceEq, Int.reduceAdd, Int.reduceSub, Int.reduceMul, Int.reduceNeg, Int.cast_ofNat_Int, *, encV] | ((with_reducible refine opK_c ?_); simp -dsimp only [go_sem, ↓reduceIte, reduceCtorEq, Nat.reduceAdd, Nat.reduceMul, Nat.reduceSub, Nat.reduceLeDiff, Nat.reduceLT, Nat.reduceEqDiff, Int.reduceLE, Int.reduceLT, Int.reduceToNat, Int.reduceBEq, Int.reduceBNe, Int.reduceEq, Int.reduceAdd, Int.reduceSub, Int.reduceMul, Int.reduceNeg, Int.cast_ofNat_Int, encV]; first | refine callK_r (by first | assumption | fail) (by first | exact .inl rfl | exact .inr rfl) ?_ | (refine callK_i (by assumption) ?_ ?_ ?_; (solve | (repeat (first | exact DLe.refl _ | exact DLe.nil _ | (refine DLe.tup ?_) | (refine DLe.agg ?_ rfl) | exact trivial | (refine And.intro ?_ ?_)))); (solve | exact .inl rfl | exact .inr rfl))) | fail | omega | exact decide_eq_true (by omega) | exact DLe.refl _)
  refine loopG tab_ok mixed (fun m e h => ∃ (k c : Nat), k ≤ v.subs.length ∧ c ≤ 32 * k ∧ c = ((v.subs.take k).flatMap subA).count x ∧ m = v.subs.length - k ∧ e = [(6, .d (.v (.int .i64 k))), (5, .d (.v (.int .i64 c))), (4, .d (.v (.int .i64 0))), (2, .ptr 0 0), (1, .d (.v (.int .i64 x)))] ∧ h = [.box 25 ((encV v).map .d)]) _ _ _ ⟨0, 0, Nat.zero_le _, Nat.zero_le _, rfl, rfl, rfl, rfl⟩ (weak_forget _ (by simp) (by (try simp only [encV]); rfl) (by (repeat' (first | exact trivial | (refine ⟨rfl, ?_⟩)))) (by first | rfl | simp only [belowH, belowE, belowC, belowL, belowR, belowP, belowL_d, belowR_d, List.length_cons, List.length_nil, Nat.reduceAdd, Nat.reduceLT, decide_true, Bool.and_self, Bool.and_true]) (by first | rfl | simp only [belowH, belowE, belowC, belowL, belowR, belowP, belowL_d, belowR_d, List.length_cons, List.length_nil, Nat.reduceAdd, Nat.reduceLT, decide_true, Bool.and_self, Bool.and_true])) ?_
  rintro m e h ⟨k, c, hk, hcb, hc, hm, rfl, rfl⟩ C hC
  replace hm := Lib.hid hm
  replace hc := Lib.hid hc
  by_cases hlt : k < v.subs.length
  · have hkI : (k : Int) < (v.subs.length : Int) := by omega
    have hwr : IntKind.i64.wrap ((k : Int) + 1) = ((k + 1 : Nat) : Int) := by rw [IntKind.wrap_i64]; omega
    obtain ⟨s, hs⟩ : ∃ s, v.subs[k]? = some s := ⟨_, List.getElem?_eq_getElem hlt⟩
    have h8s := h8.out s (List.mem_of_getElem? hs)
    have hfl := h8s.1
    have h4 := Lib.hid h8s.2
    clear h8s
    repeat' (first | (with_reducible refine And.intro ?_ ?_) | (with_reducible refine gK_i (fun _ => ?_) (fun _ => ?_)) | (with_reducible refine condS_i (fun _ => ?_) (fun _ => ?_)) | (with_reducible refine drw_i (by kernel_rfl)) | simp -dsimp only [go_sem, ↓reduceIte, reduceCtorEq, Nat.reduceAdd, Nat.reduceMul, Nat.reduceSub, Nat.reduceLeDiff, Nat.reduceLT, Nat.reduceEqDiff, Int.reduceLE, Int.reduceLT, Int.reduceToNat, Int.reduceBEq, Int.reduceBNe, Int.reduceEq, Int.reduceAdd, Int.reduceSub, Int.reduceMul, Int.reduceNeg, Int.cast_ofNat_Int, *, encV, hkI, hs, undef] | ((with_reducible refine opK_c ?_); simp -dsimp only [go_sem, ↓reduceIte, reduceCtorEq, Nat.reduceAdd, Nat.reduceMul, Nat.reduceSub, Nat.reduceLeDiff, Nat.reduceLT, Nat.reduceEqDiff, Int.reduceLE, Int.reduceLT, Int.reduceToNat, Int.reduceBEq, Int.reduceBNe, Int.reduceEq, Int.reduceAdd, Int.reduceSub, Int.reduceMul, Int.reduceNeg, Int.cast_ofNat_Int, encV, hkI, hs, undef]; first | refine callK_r (by first | assumption | fail) (by first | exact .inl rfl | exact .inr rfl) ?_ | (refine callK_i (by assumption) ?_ ?_ ?_; (solve | (repeat (first | exact DLe.refl _ | exact DLe.nil _ | (refine DLe.tup ?_) | (refine DLe.agg ?_ rfl) | exact trivial | (refine And.intro ?_ ?_)))); (solve | exact .inl rfl | exact .inr rfl))) | fail | omega | exact decide_eq_true (by omega) | exact DLe.refl _)
    refine loopG tab_ok mixed (fun m e h => ∃ (j d : Nat), j ≤ s.faces.length ∧ d ≤ 32 * k + 4 * j ∧ d = c + ((s.faces.take j).flatMap (·.addrs)).count x ∧ m = s.faces.length - j ∧ e = [(7, .d (.v (.int .i64 j))), (6, .d (.v (.int .i64 k))), (5, .d (.v (.int .i64 d))), (4, .d (.v (.int .i64 0))), (2, .ptr 0 0), (1, .d (.v (.int .i64 x)))] ∧ h = [.box 25 ((encV v).map .d)]) _ _ _ ⟨0, c, Nat.zero_le _, by omega, by simp, rfl, rfl, rfl⟩ (weak_forget _ (by simp) (by (try simp only [encV]); rfl) (by (repeat' (first | exact trivial | (refine ⟨rfl, ?_⟩)))) (by first | rfl | simp only [belowH, belowE, belowC, belowL, belowR, belowP, belowL_d, belowR_d, List.length_cons, List.length_nil, Nat.reduceAdd, Nat.reduceLT, decide_true, Bool.and_self, Bool.and_true]) (by first | rfl | simp only [belowH, belowE, belowC, belowL, belowR, belowP, belowL_d, belowR_d, List.length_cons, List.length_nil, Nat.reduceAdd, Nat.reduceLT, decide_true, Bool.and_self, Bool.and_true])) ?_
    rintro m2 e h ⟨j, d, hj, hdb, hd, hm2, rfl, rfl⟩ C2 hC2
    replace hm2 := Lib.hid hm2
    replace hd := Lib.hid hd
    by_cases hlj : j < s.faces.length
    · have hjI : (j : Int) < (s.faces.length : Int) := by omega
      have hwj : IntKind.i64.wrap ((j : Int) + 1) = ((j + 1 : Nat) : Int) := by rw [IntKind.wrap_i64]; omega
      obtain ⟨f, hf⟩ : ∃ f, s.faces[j]? = some f := ⟨_, List.getElem?_eq_getElem hlj⟩
      have hal := h4.out f (List.mem_of_getElem? hf)
      repeat' (first | (with_reducible refine And.intro ?_ ?_) | (with_reducible refine gK_i (fun _ => ?_) (fun _ => ?_)) | (with_reducible refine condS_i (fun _ => ?_) (fun _ => ?_)) | (with_reducible refine drw_i (by kernel_rfl)) | simp -dsimp only [go_sem, ↓reduceIte, reduceCtorEq, Nat.reduceAdd, Nat.reduceMul, Nat.reduceSub, Nat.reduceLeDiff, Nat.reduceLT, Nat.reduceEqDiff, Int.reduceLE, Int.reduceLT, Int.reduceToNat, Int.reduceBEq, Int.reduceBNe, Int.reduceEq, Int.reduceAdd, Int.reduceSub, Int.reduceMul, Int.reduceNeg, Int.cast_ofNat_Int, *, encV, encN, hkI, hs, hjI, hf, undef] | ((with_reducible refine opK_c ?_); simp -dsimp only [go_sem, ↓reduceIte, reduceCtorEq, Nat.reduceAdd, Nat.reduceMul, Nat.reduceSub, Nat.reduceLeDiff, Nat.reduceLT, Nat.reduceEqDiff, Int.reduceLE, Int.reduceLT, Int.reduceToNat, Int.reduceBEq, Int.reduceBNe, Int.reduceEq, Int.reduceAdd, Int.reduceSub, Int.reduceMul, Int.reduceNeg, Int.cast_ofNat_Int, encV, encN, hkI, hs, hjI, hf, undef]; first | refine callK_r (by first | assumption | fail) (by first | exact .inl rfl | exact .inr rfl) ?_ | (refine callK_i (by assumption) ?_ ?_ ?_; (solve | (repeat (first | exact DLe.refl _ | exact DLe.nil _ | (refine DLe.tup ?_) | (refine DLe.agg ?_ rfl) | exact trivial | (refine And.intro ?_ ?_)))); (solve | exact .inl rfl | exact .inr rfl))) | fail | omega | exact decide_eq_true (by omega) | exact DLe.refl _)
      refine loopG tab_ok mixed (fun m e h => ∃ (i g : Nat), i ≤ f.addrs.length ∧ g ≤ 32 * k + 4 * j + i ∧ g = d + (f.addrs.take i).count x ∧ m = f.addrs.length - i ∧ e = [(8, .d (.v (.int .i64 i))), (7, .d (.v (.int .i64 j))), (6, .d (.v (.int .i64 k))), (5, .d (.v (.int .i64 g))), (4, .d (.v (.int .i64 0))), (2, .ptr 0 0), (1, .d (.v (.int .i64 x)))] ∧ h = [.box 25 ((encV v).map .d)]) _ _ _ ⟨0, d, Nat.zero_le _, by omega, by simp, rfl, rfl, rfl⟩ (weak_forget _ (by simp) (by (try simp only [encV]); rfl) (by (repeat' (first | exact trivial | (refine ⟨rfl, ?_⟩)))) (by first | rfl | simp only [belowH, belowE, belowC, belowL, belowR, belowP, belowL_d, belowR_d, List.length_cons, List.length_nil, Nat.reduceAdd, Nat.reduceLT, decide_true, Bool.and_self, Bool.and_true]) (by first | rfl | simp only [belowH, belowE, belowC, belowL, belowR, belowP, belowL_d, belowR_d, List.length_cons, List.length_nil, Nat.reduceAdd, Nat.reduceLT, decide_true, Bool.and_self, Bool.and_true])) ?_
      rintro m3 e h ⟨i, g, hi, hgb, hg, hm3, rfl, rfl⟩ C3 hC3
      replace hm3 := Lib.hid hm3
      replace hg := Lib.hid hg
      by_cases hli : i < f.addrs.length
      · have hiI : (i : Int) < (f.addrs.length : Int) := by omega
        have hwi : IntKind.i64.wrap ((i : Int) + 1) = ((i + 1 : Nat) : Int) := by rw [IntKind.wrap_i64]; omega
        have hwg : IntKind.i64.wrap ((g : Int) + 1) = ((g + 1 : Nat) : Int) := by rw [IntKind.wrap_i64]; omega
        obtain ⟨a, ha⟩ : ∃ a, f.addrs[i]? = some a := ⟨_, List.getElem?_eq_getElem hli⟩
        have hst := cnt_snoc2 (x := x) ha
        cases b : (a == x) with
        | true =>
          rw [b] at hst
          replace hst := Lib.hid hst
          repeat' (first | (with_reducible refine And.intro ?_ ?_) | (with_reducible refine gK_i (fun _ => ?_) (fun _ => ?_)) | (with_reducible refine condS_i (fun _ => ?_) (fun _ => ?_)) | (with_reducible refine drw_i (by kernel_rfl)) | simp -dsimp only [go_sem, ↓reduceIte, reduceCtorEq, Nat.reduceAdd, Nat.reduceMul, Nat.reduceSub, Nat.reduceLeDiff, Nat.reduceLT, Nat.reduceEqDiff, Int.reduceLE, Int.reduceLT, Int.reduceToNat, Int.reduceBEq, Int.reduceBNe, Int.reduceEq, Int.reduceAdd, Int.reduceSub, Int.reduceMul, Int.reduceNeg, Int.cast_ofNat_Int, *, encV, encN, encF, encA, hkI, hs, hjI, hf, hiI, hwi, hwg, ha, b, undef] | ((with_reducible refine opK_c ?_); simp -dsimp only [go_sem, ↓reduceIte, reduceCtorEq, Nat.reduceAdd, Nat.reduceMul, Nat.reduceSub, Nat.reduceLeDiff, Nat.reduceLT, Nat.reduceEqDiff, Int.reduceLE, Int.reduceLT, Int.reduceToNat, Int.reduceBEq, Int.reduceBNe, Int.reduceEq, Int.reduceAdd, Int.reduceSub, Int.reduceMul, Int.reduceNeg, Int.cast_ofNat_Int, encV, encN, encF, encA, hkI, hs, hjI, hf, hiI, hwi, hwg, ha, b, undef]; first | refine callK_r (by first | assumption | fail) (by first | exact .inl rfl | exact .inr rfl) ?_ | (refine callK_i (by assumption) ?_ ?_ ?_; (solve | (repeat (first | exact DLe.refl _ | exact DLe.nil _ | (refine DLe.tup ?_) | (refine DLe.agg ?_ rfl) | exact trivial | (refine And.intro ?_ ?_)))); (solve | exact .inl rfl | exact .inr rfl))) | fail | omega | exact decide_eq_true (by omega) | exact DLe.refl _)
          refine hC3 _ _ _ _ _ ?_ ⟨i + 1, g + 1, hli, by omega, by rw [hst.out, hg.out]; rfl, rfl, rfl, rfl⟩ (weak_forget _ (by simp) (by (try simp only [encV]); rfl) (by (repeat' (first | exact trivial | (refine ⟨rfl, ?_⟩)))) (by first | rfl | simp only [belowH, belowE, belowC, belowL, belowR, belowP, belowL_d, belowR_d, List.length_cons, List.length_nil, Nat.reduceAdd, Nat.reduceLT, decide_true, Bool.and_self, Bool.and_true]) (by first | rfl | simp only [belowH, belowE, belowC, belowL, belowR, belowP, belowL_d, belowR_d, List.length_cons, List.length_nil, Nat.reduceAdd, Nat.reduceLT, decide_true, Bool.and_self, Bool.and_true]))
          have := hm3.out; omega
        | false =>
          rw [b] at hst
          replace hst := Lib.hid hst
          repeat' (first | (with_reducible refine And.intro ?_ ?_) | (with_reducible refine gK_i (fun _ => ?_) (fun _ => ?_)) | (with_reducible refine condS_i (fun _ => ?_) (fun _ => ?_)) | (with_reducible refine drw_i (by kernel_rfl)) | simp -dsimp only [go_sem, ↓reduceIte, reduceCtorEq, Nat.reduceAdd, Nat.reduceMul, Nat.reduceSub, Nat.reduceLeDiff, Nat.reduceLT, Nat.reduceEqDiff, Int.reduceLE, Int.reduceLT, Int.reduceToNat, Int.reduceBEq, Int.reduceBNe, Int.reduceEq, Int.reduceAdd, Int.reduceSub, Int.reduceMul, Int.reduceNeg, Int.cast_ofNat_Int, *, encV, encN, encF, encA, hkI, hs, hjI, hf, hiI, hwi, ha, b, undef] | ((with_reducible refine opK_c ?_); simp -dsimp only [go_sem, ↓reduceIte, reduceCtorEq, Nat.reduceAdd, Nat.reduceMul, Nat.reduceSub, Nat.reduceLeDiff, Nat.reduceLT, Nat.reduceEqDiff, Int.reduceLE, Int.reduceLT, Int.reduceToNat, Int.reduceBEq, Int.reduceBNe, Int.reduceEq, Int.reduceAdd, Int.reduceSub, Int.reduceMul, Int.reduceNeg, Int.cast_ofNat_Int, encV, encN, encF, encA, hkI, hs, hjI, hf, hiI, hwi, ha, b, undef]; first | refine callK_r (by first | assumption | fail) (by first | exact .inl rfl | exact .inr rfl) ?_ | (refine callK_i (by assumption) ?_ ?_ ?_; (solve | (repeat (first | exact DLe.refl _ | exact DLe.nil _ | (refine DLe.tup ?_) | (refine DLe.agg ?_ rfl) | exact trivial | (refine And.intro ?_ ?_)))); (solve | exact .inl rfl | exact .inr rfl))) | fail | omega | exact decide_eq_true (by omega) | exact DLe.refl _)
          refine hC3 _ _ _ _ _ ?_ ⟨i + 1, g, hli, by omega, by rw [hst.out, hg.out]; rfl, rfl, rfl, rfl⟩ (weak_forget _ (by simp) (by (try simp only [encV]); rfl) (by (repeat' (first | exact trivial | (refine ⟨rfl, ?_⟩)))) (by first | rfl | simp only [belowH, belowE, belowC, belowL, belowR, belowP, belowL_d, belowR_d, List.length_cons, List.length_nil, Nat.reduceAdd, Nat.reduceLT, decide_true, Bool.and_self, Bool.and_true]) (by first | rfl | simp only [belowH, belowE, belowC, belowL, belowR, belowP, belowL_d, belowR_d, List.length_cons, List.length_nil, Nat.reduceAdd, Nat.reduceLT, decide_true, Bool.and_self, Bool.and_true]))
          have := hm3.out; omega
      · obtain rfl : i = f.addrs.length := by omega
        have hst : g = c + ((s.faces.take (j + 1)).flatMap (·.addrs)).count x := by
          rw [flat_snoc hf, hg.out, hd.out, List.take_length]; omega
        replace hst := Lib.hid hst
        repeat' (first | (with_reducible refine And.intro ?_ ?_) | (with_reducible refine gK_i (fun _ => ?_) (fun _ => ?_)) | (with_reducible refine condS_i (fun _ => ?_) (fun _ => ?_)) | (with_reducible refine drw_i (by kernel_rfl)) | simp -dsimp only [go_sem, ↓reduceIte, reduceCtorEq, Nat.reduceAdd, Nat.reduceMul, Nat.reduceSub, Nat.reduceLeDiff, Nat.reduceLT, Nat.reduceEqDiff, Int.reduceLE, Int.reduceLT, Int.reduceToNat, Int.reduceBEq, Int.reduceBNe, Int.reduceEq, Int.reduceAdd, Int.reduceSub, Int.reduceMul, Int.reduceNeg, Int.cast_ofNat_Int, *, encV, encN, encF, hkI, hs, hjI, hf, hwj, Int.lt_irrefl, undef] | ((with_reducible refine opK_c ?_); simp -dsimp only [go_sem, ↓reduceIte, reduceCtorEq, Nat.reduceAdd, Nat.reduceMul, Nat.reduceSub, Nat.reduceLeDiff, Nat.reduceLT, Nat.reduceEqDiff, Int.reduceLE, Int.reduceLT, Int.reduceToNat, Int.reduceBEq, Int.reduceBNe, Int.reduceEq, Int.reduceAdd, Int.reduceSub, Int.reduceMul, Int.reduceNeg, Int.cast_ofNat_Int, encV, encN, encF, hkI, hs, hjI, hf, hwj, Int.lt_irrefl, undef]; first | refine callK_r (by first | assumption | fail) (by first | exact .inl rfl | exact .inr rfl) ?_ | (refine callK_i (by assumption) ?_ ?_ ?_; (solve | (repeat (first | exact DLe.refl _ | exact DLe.nil _ | (refine DLe.tup ?_) | (refine DLe.agg ?_ rfl) | exact trivial | (refine And.intro ?_ ?_)))); (solve | exact .inl rfl | exact .inr rfl))) | fail | omega | exact decide_eq_true (by omega) | exact DLe.refl _)
        refine hC2 _ _ _ _ _ ?_ ⟨j + 1, g, hlj, by omega, hst.out, rfl, rfl, rfl⟩ (weak_forget _ (by simp) (by (try simp only [encV]); rfl) (by (repeat' (first | exact trivial | (refine ⟨rfl, ?_⟩)))) (by first | rfl | simp only [belowH, belowE, belowC, belowL, belowR, belowP, belowL_d, belowR_d, List.length_cons, List.length_nil, Nat.reduceAdd, Nat.reduceLT, decide_true, Bool.and_self, Bool.and_true]) (by first | rfl | simp only [belowH, belowE, belowC, belowL, belowR, belowP, belowL_d, belowR_d, List.length_cons, List.length_nil, Nat.reduceAdd, Nat.reduceLT, decide_true, Bool.and_self, Bool.and_true]))
        have := hm2.out; omega
    · obtain rfl : j = s.faces.length := by omega
      have hst : d = ((v.subs.take (k + 1)).flatMap subA).count x := by
        rw [flat_snoc hs, hd.out, hc.out, List.take_length]; rfl
      replace hst := Lib.hid hst
      repeat' (first | (with_reducible refine And.intro ?_ ?_) | (with_reducible refine gK_i (fun _ => ?_) (fun _ => ?_)) | (with_reducible refine condS_i (fun _ => ?_) (fun _ => ?_)) | (with_reducible refine drw_i (by kernel_rfl)) | simp -dsimp only [go_sem, ↓reduceIte, reduceCtorEq, Nat.reduceAdd, Nat.reduceMul, Nat.reduceSub, Nat.reduceLeDiff, Nat.reduceLT, Nat.reduceEqDiff, Int.reduceLE, Int.reduceLT, Int.reduceToNat, Int.reduceBEq, Int.reduceBNe, Int.reduceEq, Int.reduceAdd, Int.reduceSub, Int.reduceMul, Int.reduceNeg, Int.cast_ofNat_Int, *, encV, encN, hkI, hs, hwr, Int.lt_irrefl, undef] | ((with_reducible refine opK_c ?_); simp -dsimp only [go_sem, ↓reduceIte, reduceCtorEq, Nat.reduceAdd, Nat.reduceMul, Nat.reduceSub, Nat.reduceLeDiff, Nat.reduceLT, Nat.reduceEqDiff, Int.reduceLE, Int.reduceLT, Int.reduceToNat, Int.reduceBEq, Int.reduceBNe, Int.reduceEq, Int.reduceAdd, Int.reduceSub, Int.reduceMul, Int.reduceNeg, Int.cast_ofNat_Int, encV, encN, hkI, hs, hwr, Int.lt_irrefl, undef]; first | refine callK_r (by first | assumption | fail) (by first | exact .inl rfl | exact .inr rfl) ?_ | (refine callK_i (by assumption) ?_ ?_ ?_; (solve | (repeat (first | exact DLe.refl _ | exact DLe.nil _ | (refine DLe.tup ?_) | (refine DLe.agg ?_ rfl) | exact trivial | (refine And.intro ?_ ?_)))); (solve | exact .inl rfl | exact .inr rfl))) | fail | omega | exact decide_eq_true (by omega) | exact DLe.refl _)
      refine hC _ _ _ _ _ ?_ ⟨k + 1, d, hlt, by omega, hst.out, rfl, rfl, rfl⟩ (weak_forget _ (by simp) (by (try simp only [encV]); rfl) (by (repeat' (first | exact trivial | (refine ⟨rfl, ?_⟩)))) (by first | rfl | simp only [belowH, belowE, belowC, belowL, belowR, belowP, belowL_d, belowR_d, List.length_cons, List.length_nil, Nat.reduceAdd, Nat.reduceLT, decide_true, Bool.and_self, Bool.and_true]) (by first | rfl | simp only [belowH, belowE, belowC, belowL, belowR, belowP, belowL_d, belowR_d, List.length_cons, List.length_nil, Nat.reduceAdd, Nat.reduceLT, decide_true, Bool.and_self, Bool.and_true]))
      have := hm.out; omega
  · obtain rfl : k = v.subs.length := by omega
    have hr : R = c := by rw [hR.out, hc.out, List.take_length]; rfl
    rw [hr]
    replace hr := Lib.hid hr
    repeat' (first | (with_reducible refine And.intro ?_ ?_) | (with_reducible refine gK_i (fun _ => ?_) (fun _ => ?_)) | (with_reducible refine condS_i (fun _ => ?_) (fun _ => ?_)) | (with_reducible refine drw_i (by kernel_rfl)) | simp -dsimp only [go_sem, ↓reduceIte, reduceCtorEq, Nat.reduceAdd, Nat.reduceMul, Nat.reduceSub, Nat.reduceLeDiff, Nat.reduceLT, Nat.reduceEqDiff, Int.reduceLE, Int.reduceLT, Int.reduceToNat, Int.reduceBEq, Int.reduceBNe, Int.reduceEq, Int.reduceAdd, Int.reduceSub, Int.reduceMul, Int.reduceNeg, Int.cast_ofNat_Int, *, encV, Int.lt_irrefl, undef] | ((with_reducible refine opK_c ?_); simp -dsimp only [go_sem, ↓reduceIte, reduceCtorEq, Nat.reduceAdd, Nat.reduceMul, Nat.reduceSub, Nat.reduceLeDiff, Nat.reduceLT, Nat.reduceEqDiff, Int.reduceLE, Int.reduceLT, Int.reduceToNat, Int.reduceBEq, Int.reduceBNe, Int.reduceEq, Int.reduceAdd, Int.reduceSub, Int.reduceMul, Int.reduceNeg, Int.cast_ofNat_Int, encV, Int.lt_irrefl, undef]; first | refine callK_r (by first | assumption | fail) (by first | exact .inl rfl | exact .inr rfl) ?_ | (refine callK_i (by assumption) ?_ ?_ ?_; (solve | (repeat (first | exact DLe.refl _ | exact DLe.nil _ | (refine DLe.tup ?_) | (refine DLe.agg ?_ rfl) | exact trivial | (refine And.intro ?_ ?_)))); (solve | exact .inl rfl | exact .inr rfl))) | fail | omega | exact decide_eq_true (by omega) | exact DLe.refl _)
    all_goals exact DLe.refl _
end Go.Proofs.YtdcjeacphbfmjaaGreat
namespace Go.Proofs.YtdcjeacphbfmjaaGreat
open Go Go.RowKit
theorem vpcOK_to {v : Vpc} (h : VpcOK v) : chkV v = 0 := by
  rw [vpcOK]
  refine ⟨?_, ?_, h.ar, h.as_⟩
  · simp only [manyV, Bool.or_eq_false_iff, decide_eq_false_iff_not, List.any_eq_false]
    refine ⟨by have := h.n4; omega, by have := h.n6; omega, fun s hs => ?_⟩
    have h8 := h.n8 s hs
    simp only [manyN, Bool.not_eq_true, Bool.or_eq_false_iff, decide_eq_false_iff_not, List.any_eq_false]
    refine ⟨by omega, fun f hf => ?_⟩
    have := h8.2 f hf
    simp [manyF]
    omega
  · unfold fineV
    simp only [Bool.and_eq_true, List.all_eq_true, risB_pair]
    exact ⟨⟨h.id, h.rr, h.rs⟩, h.ranges, h.subs⟩
theorem map_same {α β : Type} {f : α → β} {pre post : List α} {s s' : α} (h : f s' = f s) : (pre ++ s' :: post).map f = (pre ++ s :: post).map f := by simp [h]
theorem vpcOK_set {v : Vpc} (h : VpcOK v) {pre post : List Sbn} {s s' : Sbn} (hv : v.subs = pre ++ s :: post) (h1 : s'.id = s.id) (h2 : s'.at_ = s.at_) (h3 : facesB s' = true) (h4 : s'.faces.length ≤ 8 ∧ ∀ f ∈ s'.faces, f.addrs.length ≤ 4) : VpcOK { v with subs := pre ++ s' :: post } := by
  have hmem : ∀ t ∈ pre ++ s' :: post, t = s' ∨ t ∈ v.subs := fun t ht => by
    rw [hv]
    simp only [List.mem_append, List.mem_cons] at ht ⊢
    rcases ht with h | h | h
    · exact .inr (.inl h)
    · exact .inl h
    · exact .inr (.inr (.inr h))
  have hsm : s ∈ v.subs := by rw [hv]; simp
  refine ⟨h.n4, ?_, fun t ht => ?_, h.id, h.rr, ?_, h.ranges, fun t ht => ?_, h.ar, ?_⟩
  · have := h.n6
    rw [hv] at this
    simpa using this
  · rcases hmem t ht with rfl | ht
    · exact h4
    · exact h.n8 t ht
  · have := h.rs
    rw [hv, ← List.pairwise_map (f := fun s : Sbn => s.id) (R := fun a b : Int => a < b)] at this
    show (pre ++ s' :: post).Pairwise fun a b => a.id < b.id
    rw [← List.pairwise_map (f := fun s : Sbn => s.id) (R := fun a b : Int => a < b), map_same (f := fun s : Sbn => s.id) h1]
    exact this
  · rcases hmem t ht with rfl | ht
    · have := h.subs s hsm
      unfold subB at this ⊢
      rw [h1, h2, h3]
      simp only [Bool.and_eq_true, Bool.and_true] at this ⊢
      exact ⟨this.1, this.2.1⟩
    · exact h.subs t ht
  · have := h.as_
    rw [hv] at this
    show apaF [] ((pre ++ s' :: post).map (·.at_)) = true
    rw [map_same (f := fun s : Sbn => s.at_) h2]
    exact this
/-- An address that may be in a subnet, and that nobody has there, is nowhere. -/
theorem addr_new {v : Vpc} (h : VpcOK v) {pre post : List Sbn} {s : Sbn} (hv : v.subs = pre ++ s :: post) {a : Int} (hi : innB s.at_ a = true) (hn : a ∉ subA s) : cntV v a = 0 := by
  have hsm : s ∈ v.subs := by rw [hv]; simp
  have hh : ∀ {p : Pfx} {x : Int}, innB p x = true → p.right = true ∧ p.at_ ≤ x ∧ x < p.hi := fun {p x} hx => by
    unfold innB at hx
    simp only [Bool.and_eq_true] at hx
    exact holdB_iff.1 (by rw [← holdP_eq]; exact hx.1)
  have hs1 := hh hi
  unfold cntV addrsV
  rw [List.count_eq_zero]
  intro hm
  obtain ⟨t, ht, hat⟩ := List.mem_flatMap.1 hm
  have key : t ≠ s → t.at_.meets s.at_ = true → False := by
    intro hne hme
    have hp := apaF_nil.1 h.as_
    rw [List.pairwise_map] at hp
    rw [hv, List.pairwise_append, List.pairwise_cons] at hp
    rw [hv] at ht
    simp only [List.mem_append, List.mem_cons] at ht
    have sym : ∀ p q : Pfx, p.meets q = true → q.meets p = true := fun p q h => by
      rw [meets_iff] at h ⊢; exact ⟨h.2.1, h.1, h.2.2.2, h.2.2.1⟩
    rcases ht with ht | ht | ht
    · have := hp.2.2 t ht s (by simp)
      rw [sym _ _ hme] at this; cases this
    · exact hne ht
    · have := hp.2.1.1 t ht
      rw [hme] at this; cases this
  by_cases hts : t = s
  · subst hts; exact hn hat
  · obtain ⟨f, hf, haf⟩ := List.mem_flatMap.1 hat
    have hfb := (sub_right h ht).2.2.2 f hf
    unfold faceB at hfb
    simp only [Bool.and_eq_true, List.all_eq_true] at hfb
    have ht1 := hh (hfb.2.2.2 a haf)
    exact key hts (meets_iff.2 ⟨ht1.1, hs1.1, by omega, by omega⟩)
theorem cnt_more {v : Vpc} {pre post : List Sbn} {s s' : Sbn} {a : Int} (hv : v.subs = pre ++ s :: post) (hp : (subA s').Perm (a :: subA s)) : cntV { v with subs := pre ++ s' :: post } a = cntV v a + 1 := by
  unfold cntV addrsV
  rw [hv]
  simp only [List.flatMap_append, List.flatMap_cons, List.count_append]
  rw [hp.count_eq, List.count_cons_self]
  omega
/-- Face's new subnet. -/
theorem face_new {v : Vpc} (h : VpcOK v) {s : Sbn} (hs : s ∈ v.subs) {id a : Int} (he : faceErr s id = 0) (ha : leastS s = some a) :
    let s' : Sbn := { s with faces := insK (·.id) ⟨id, [a]⟩ s.faces }
    innB s.at_ a = true ∧ a ∉ subA s ∧ (subA s').Perm (a :: subA s) ∧ facesB s' = true ∧ (s'.faces.length ≤ 8 ∧ ∀ f ∈ s'.faces, f.addrs.length ≤ 4) ∧ ∀ f ∈ s.faces, f.id ≠ id := by
  intro s'
  obtain ⟨s1, s2, s3, s4⟩ := sub_right h hs
  have h8 := h.n8 s hs
  have hln := leastF_not (show leastF _ _ _ _ = some a from ha)
  unfold faceErr at he
  have e1 : idOK id = true := by
    by_cases hb : idOK id = false
    · rw [if_pos hb] at he; cases he
    · simpa using hb
  rw [if_neg (by simp [e1])] at he
  have e2 : (s.faces.any fun f => f.id == id) = false := by
    by_cases hb : (s.faces.any fun f => f.id == id) = true
    · rw [if_pos hb] at he; cases he
    · simpa using hb
  rw [if_neg (by simp [e2])] at he
  have e3 : s.faces.length ≠ 8 := fun hb => by rw [if_pos hb] at he; cases he
  have hne : ∀ f ∈ s.faces, f.id ≠ id := fun f hf e => by
    have := List.any_eq_false.1 e2 f hf
    simp at this; exact this e
  have hpm := insK_perm (fun f : Fce => f.id) ⟨id, [a]⟩ s.faces
  have hp2 : (subA s').Perm (a :: subA s) := by
    have := hpm.flatMap_right (f := fun f : Fce => f.addrs)
    refine this.trans ?_
    rw [List.flatMap_append]
    simp only [List.flatMap_cons, List.flatMap_nil, List.append_nil]
    exact List.perm_append_comm
  refine ⟨hln.2, hln.1, hp2, ?_, ⟨?_, fun f hf => ?_⟩, hne⟩
  · unfold facesB
    simp only [Bool.and_eq_true, List.all_eq_true, decide_eq_true_eq, risB_pair]
    refine ⟨fun f hf => ?_, ?_, insK_sorted s3 hne⟩
    · rcases insK_mem.1 hf with rfl | hf
      · unfold faceB
        simp [e1, risB, hln.2, s']
      · exact s4 f hf
    · exact (hp2.nodup_iff).2 (List.nodup_cons.2 ⟨hln.1, s2⟩)
  · show (insK _ _ s.faces).length ≤ 8
    rw [insK_len]; have := h8.1; omega
  · rcases insK_mem.1 hf with rfl | hf
    · show 1 ≤ 4; omega
    · exact h8.2 f hf
/-- More's new subnet. -/
theorem more_new {v : Vpc} (h : VpcOK v) {s : Sbn} (hs : s ∈ v.subs) {preF postF : List Fce} {f : Fce} (hfv : s.faces = preF ++ f :: postF) {a : Int} (h4 : f.addrs.length ≠ 4) (ha : leastS s = some a) :
    let s' : Sbn := { s with faces := preF ++ { f with addrs := insK (fun x => x) a f.addrs } :: postF }
    innB s.at_ a = true ∧ a ∉ subA s ∧ (subA s').Perm (a :: subA s) ∧ facesB s' = true ∧ (s'.faces.length ≤ 8 ∧ ∀ f ∈ s'.faces, f.addrs.length ≤ 4) := by
  intro s'
  obtain ⟨s1, s2, s3, s4⟩ := sub_right h hs
  have h8 := h.n8 s hs
  have hln := leastF_not (show leastF _ _ _ _ = some a from ha)
  have hfm : f ∈ s.faces := by rw [hfv]; simp
  have hfb := s4 f hfm
  unfold faceB at hfb
  simp only [Bool.and_eq_true, List.all_eq_true, risB_pair] at hfb
  have hna : a ∉ f.addrs := fun hm => hln.1 (List.mem_flatMap.2 ⟨f, hfm, hm⟩)
  have hp2 : (subA s').Perm (a :: subA s) := by
    unfold subA
    rw [hfv]
    simp only [s', List.flatMap_append, List.flatMap_cons]
    have h1 : (insK (fun x : Int => x) a f.addrs).Perm (a :: f.addrs) := (insK_perm _ _ _).trans List.perm_append_comm
    have h2 := (h1.append_right (postF.flatMap (·.addrs))).append_left (preF.flatMap (·.addrs))
    exact h2.trans (by rw [List.cons_append]; exact List.perm_middle)
  have hmem : ∀ g ∈ s'.faces, g = { f with addrs := insK (fun x => x) a f.addrs } ∨ g ∈ s.faces := fun g hg => by
    rw [hfv]
    simp only [s', List.mem_append, List.mem_cons] at hg ⊢
    rcases hg with h | h | h
    · exact .inr (.inl h)
    · exact .inl h
    · exact .inr (.inr (.inr h))
  refine ⟨hln.2, hln.1, hp2, ?_, ⟨?_, fun g hg => ?_⟩⟩
  · unfold facesB
    simp only [Bool.and_eq_true, List.all_eq_true, decide_eq_true_eq]
    refine ⟨fun g hg => ?_, ?_, ?_⟩
    · rcases hmem g hg with rfl | hg
      · unfold faceB
        simp only [Bool.and_eq_true, List.all_eq_true, risB_pair]
        refine ⟨hfb.1, ?_, insK_sorted hfb.2.2.1 (fun y hy e => hna (e ▸ hy)), fun x hx => ?_⟩
        · rw [insK_len]; simp; omega
        · rcases insK_mem.1 hx with rfl | hx
          · exact hln.2
          · exact hfb.2.2.2 x hx
      · exact s4 g hg
    · exact (hp2.nodup_iff).2 (List.nodup_cons.2 ⟨hln.1, s2⟩)
    · rw [risB_pair]
      rw [hfv, ← List.pairwise_map (f := fun f : Fce => f.id) (R := fun a b : Int => a < b)] at s3
      show (preF ++ { f with addrs := insK (fun x => x) a f.addrs } :: postF).Pairwise fun a b => a.id < b.id
      rw [← List.pairwise_map (f := fun f : Fce => f.id) (R := fun a b : Int => a < b), map_same (f := fun f : Fce => f.id) (s := f) (s' := { f with addrs := insK (fun x => x) a f.addrs }) rfl]
      exact s3
  · have := h8.1
    rw [hfv] at this
    simpa [s'] using this
  · rcases hmem g hg with rfl | hg
    · show (insK _ _ f.addrs).length ≤ 4
      rw [insK_len]; have := h8.2 f hfm; omega
    · exact h8.2 g hg
theorem find_same {pre post : List Sbn} {s s' : Sbn} {sub : Int} (h : s'.id = s.id) : (pre ++ s' :: post).findIdx? (fun s => s.id == sub) = (pre ++ s :: post).findIdx? (fun s => s.id == sub) := by
  have e : ∀ l : List Sbn, l.findIdx? (fun s => s.id == sub) = (l.map (·.id)).findIdx? (fun i => i == sub) := fun l => by rw [List.findIdx?_map]; rfl
  rw [e, e, map_same (f := fun s : Sbn => s.id) h]
theorem insK_find {l : List Fce} {id : Int} {al : List Int} (hne : ∀ f ∈ l, f.id ≠ id) : (insK (fun f : Fce => f.id) ⟨id, al⟩ l).findIdx? (fun f => f.id == id) = some (lbN (fun f : Fce => f.id) id l) ∧ (insK (fun f : Fce => f.id) ⟨id, al⟩ l).eraseIdx (lbN (fun f : Fce => f.id) id l) = l := by
  have hle := lbN_le (fun f : Fce => f.id) id l
  have hl : (l.take (lbN (fun f : Fce => f.id) id l)).length = lbN (fun f : Fce => f.id) id l := by rw [List.length_take]; omega
  unfold insK
  show ((l.take (lbN (fun f : Fce => f.id) id l) ++ ⟨id, al⟩ :: l.drop (lbN (fun f : Fce => f.id) id l)).findIdx? _ = _) ∧ (l.take (lbN (fun f : Fce => f.id) id l) ++ ⟨id, al⟩ :: l.drop (lbN (fun f : Fce => f.id) id l)).eraseIdx _ = l
  generalize lbN (fun f : Fce => f.id) id l = n at *
  constructor
  · rw [List.findIdx?_append, show (l.take n).findIdx? (fun f => f.id == id) = none from by
      rw [List.findIdx?_eq_none_iff]
      intro f hf
      have := hne f (List.mem_of_mem_take hf)
      simpa using this]
    simp [List.findIdx?_cons, hl]
  · rw [List.eraseIdx_append_of_length_le (by omega), hl, Nat.sub_self]
    simp
end Go.Proofs.YtdcjeacphbfmjaaGreat
namespace Go.Proofs.YtdcjeacphbfmjaaGreat
open Go Go.RowKit
theorem faceV_inv {v : Vpc} {sub id : Int} (h : (faceV v sub id).2.2 = 0) : ∃ pre s post a, VpcOK v ∧ v.subs = pre ++ s :: post ∧ v.subs.findIdx? (fun s => s.id == sub) = some pre.length ∧ faceErr s id = 0 ∧ leastS s = some a ∧
    faceV v sub id = ({ v with subs := pre ++ { s with faces := insK (·.id) ⟨id, [a]⟩ s.faces } :: post }, a, 0) := by
  unfold faceV at h ⊢
  by_cases hc : chkV v = 0
  · rw [if_neg (by simpa using hc)] at h ⊢
    have hk := vpcOK_of hc
    cases hf : v.subs.findIdx? (fun s => s.id == sub) with
    | none => rw [hf] at h; simp at h
    | some i =>
      obtain ⟨pre, s, post, hv, hpl, -, hs⟩ := find_split hf
      rw [hf] at h
      simp only [hs] at h ⊢
      by_cases he : faceErr s id = 0
      · have he2 := he
        unfold faceErr at he2
        obtain ⟨a, ha⟩ : ∃ a, leastS s = some a := by
          cases hl : leastS s with
          | some a => exact ⟨a, rfl⟩
          | none =>
            rw [hl] at he2
            simp at he2
            split at he2 <;> (try cases he2)
            split at he2 <;> (try cases he2)
            split at he2 <;> cases he2
        refine ⟨pre, s, post, a, hk, hv, by rw [hpl], he, ha, ?_⟩
        rw [if_neg (by simpa using he), ha, Option.getD_some]
        rw [hv, ← hpl, List.set_append_right _ _ (Nat.le_refl _), Nat.sub_self, List.set_cons_zero]
      · rw [if_pos (by simpa using he)] at h
        exact absurd h he
  · rw [if_pos (by simpa using hc)] at h
    exact absurd h hc
theorem moreV_inv {v : Vpc} {sub id : Int} (h : (moreV v sub id).2.2 = 0) : ∃ pre s post preF f postF a, VpcOK v ∧ v.subs = pre ++ s :: post ∧ s.faces = preF ++ f :: postF ∧ f.addrs.length ≠ 4 ∧ leastS s = some a ∧
    moreV v sub id = ({ v with subs := pre ++ { s with faces := preF ++ { f with addrs := insK (fun x => x) a f.addrs } :: postF } :: post }, a, 0) := by
  unfold moreV at h ⊢
  by_cases hc : chkV v = 0
  · rw [if_neg (by simpa using hc)] at h ⊢
    have hk := vpcOK_of hc
    cases hf : v.subs.findIdx? (fun s => s.id == sub) with
    | none => rw [hf] at h; simp at h
    | some i =>
      obtain ⟨pre, s, post, hv, hpl, -, hs⟩ := find_split hf
      rw [hf] at h
      simp only [hs] at h ⊢
      cases hg : s.faces.findIdx? (fun f => f.id == id) with
      | none => rw [hg] at h; simp at h
      | some k =>
        obtain ⟨preF, f, postF, hfv, hplF, -, hfs⟩ := find_split hg
        rw [hg] at h
        simp only [hfs] at h ⊢
        by_cases h4 : f.addrs.length = 4
        · rw [if_pos h4] at h; simp at h
        · rw [if_neg h4] at h ⊢
          cases hl : leastS s with
          | none => rw [hl] at h; simp at h
          | some a =>
            refine ⟨pre, s, post, preF, f, postF, a, hk, hv, hfv, h4, hl, ?_⟩
            simp only
            rw [hv, ← hpl, List.set_append_right _ _ (Nat.le_refl _), Nat.sub_self, List.set_cons_zero]
            rw [hfv, ← hplF, List.set_append_right _ _ (Nat.le_refl _), Nat.sub_self, List.set_cons_zero]
  · rw [if_pos (by simpa using hc)] at h
    exact absurd h hc
/-- What Face gives. -/
theorem face_law {v : Vpc} {sub id : Int} (h : (faceV v sub id).2.2 = 0) : VpcOK v ∧ cntV v (faceV v sub id).2.1 = 0 ∧ VpcOK (faceV v sub id).1 ∧ cntV (faceV v sub id).1 (faceV v sub id).2.1 = 1 ∧ unfaceV (faceV v sub id).1 sub id = (v, 0) := by
  obtain ⟨pre, s, post, a, hk, hv, hfi, he, ha, heq⟩ := faceV_inv h
  have hsm : s ∈ v.subs := by rw [hv]; simp
  obtain ⟨n1, n2, n3, n4, n5, n6⟩ := face_new hk hsm he ha
  have hk2 := vpcOK_set hk hv (s' := { s with faces := insK (·.id) ⟨id, [a]⟩ s.faces }) rfl rfl n4 n5
  have hc0 := addr_new hk hv n1 n2
  rw [heq]
  refine ⟨hk, hc0, hk2, by rw [cnt_more hv n3, hc0], ?_⟩
  obtain ⟨q1, q2⟩ := insK_find (al := [a]) n6
  unfold unfaceV
  rw [if_neg (by simpa using vpcOK_to hk2)]
  simp only
  rw [find_same (s := s) (s' := { s with faces := insK (·.id) ⟨id, [a]⟩ s.faces }) rfl, ← hv, hfi]
  simp only
  rw [List.getElem?_append_right (Nat.le_refl _), Nat.sub_self, List.getElem?_cons_zero]
  simp only [q1, q2]
  rw [List.set_append_right _ _ (Nat.le_refl _), Nat.sub_self, List.set_cons_zero, ← hv]
theorem more_law {v : Vpc} {sub id : Int} (h : (moreV v sub id).2.2 = 0) : VpcOK v ∧ cntV v (moreV v sub id).2.1 = 0 ∧ VpcOK (moreV v sub id).1 ∧ cntV (moreV v sub id).1 (moreV v sub id).2.1 = 1 := by
  obtain ⟨pre, s, post, preF, f, postF, a, hk, hv, hfv, h4, ha, heq⟩ := moreV_inv h
  have hsm : s ∈ v.subs := by rw [hv]; simp
  obtain ⟨n1, n2, n3, n4, n5⟩ := more_new hk hsm hfv h4 ha
  have hk2 := vpcOK_set hk hv (s' := { s with faces := preF ++ { f with addrs := insK (fun x => x) a f.addrs } :: postF }) rfl rfl n4 n5
  have hc0 := addr_new hk hv n1 n2
  rw [heq]
  exact ⟨hk, hc0, hk2, by rw [cnt_more hv n3, hc0]⟩
set_option maxRecDepth 100000 in
set_option maxHeartbeats 2000000 in
theorem vpcApart_p (v : Vpc) (sub id : Int) (hz : v.subs.length ≤ 9223372036854775807 ∧ ∀ s ∈ v.subs, s.faces.length ≤ 9223372036854775807) : PSpec Tryz.prog 6 [.agg (encV v), .v (.int .i64 sub), .v (.int .i64 id)] (.v (.bool true)) := by
  have h1 := vface_p v sub id
  have h2 := more_p v sub id
  have h3 := unface_p (faceV v sub id).1 sub id
  have hb := vpcBegun_p
  clear hz
  by_cases e1 : (faceV v sub id).2.2 = 0
  · obtain ⟨hk, c0, hk1, c1, hun⟩ := face_law e1
    have a0 := has_p v (faceV v sub id).2.1 hk.n6 hk.n8
    have a1 := has_p (faceV v sub id).1 (faceV v sub id).2.1 hk1.n6 hk1.n8
    have a2 := vcheck_p (faceV v sub id).1
    rw [vpcOK_to hk1] at a2
    rw [c0] at a0
    rw [c1] at a1
    rw [hun] at h3
    have a3 := same_self v ⟨by have := hk.n4; omega, by have := hk.n6; omega, smallS_ok hk⟩
    rw [e1] at h1
    clear c0 c1 hun hk1 e1
    by_cases e2 : (moreV v sub id).2.2 = 0
    · obtain ⟨-, d0, hk2, d1⟩ := more_law e2
      have b0 := has_p v (moreV v sub id).2.1 hk.n6 hk.n8
      have b1 := has_p (moreV v sub id).1 (moreV v sub id).2.1 hk2.n6 hk2.n8
      have b2 := vcheck_p (moreV v sub id).1
      rw [vpcOK_to hk2] at b2
      rw [d0] at b0
      rw [d1] at b1
      rw [e2] at h2
      clear d0 d1 hk2 e2 hk
      generalize faceV v sub id = X at *
      generalize moreV v sub id = Y at *
      refine ps_i tab_ok mixed Tryz.func6 rfl Tryz.ntmps6 Tryz.results6 (by kernel_rfl) ?_
      repeat' (first | (with_reducible refine And.intro ?_ ?_) | (with_reducible refine gK_i (fun _ => ?_) (fun _ => ?_)) | (with_reducible refine condS_i (fun _ => ?_) (fun _ => ?_)) | (with_reducible refine drw_i (by kernel_rfl)) | simp -dsimp only [go_sem, ↓reduceIte, reduceCtorEq, Nat.reduceAdd, Nat.reduceMul, Nat.reduceSub, Nat.reduceLeDiff, Nat.reduceLT, Nat.reduceEqDiff, Int.reduceLE, Int.reduceLT, Int.reduceToNat, Int.reduceBEq, Int.reduceBNe, Int.reduceEq, Int.reduceAdd, Int.reduceSub, Int.reduceMul, Int.reduceNeg, Int.cast_ofNat_Int, *, encV, undef] | ((with_reducible refine opK_c ?_); simp -dsimp only [go_sem, ↓reduceIte, reduceCtorEq, Nat.reduceAdd, Nat.reduceMul, Nat.reduceSub, Nat.reduceLeDiff, Nat.reduceLT, Nat.reduceEqDiff, Int.reduceLE, Int.reduceLT, Int.reduceToNat, Int.reduceBEq, Int.reduceBNe, Int.reduceEq, Int.reduceAdd, Int.reduceSub, Int.reduceMul, Int.reduceNeg, Int.cast_ofNat_Int, encV, undef]; first | refine callK_r (by first | assumption | exact h1 | exact h2 | exact h3 | exact hb | exact a0 | exact a1 | exact a2 | exact a3 | exact b0 | exact b1 | exact b2) (by first | exact .inl rfl | exact .inr rfl) ?_ | (refine callK_i (by assumption) ?_ ?_ ?_; (solve | (repeat (first | exact DLe.refl _ | exact DLe.nil _ | (refine DLe.tup ?_) | (refine DLe.agg ?_ rfl) | exact trivial | (refine And.intro ?_ ?_)))); (solve | exact .inl rfl | exact .inr rfl))) | fail | omega | exact decide_eq_true (by omega) | exact DLe.refl _)
    · have e3 : ((moreV v sub id).2.2 == 0) = false := by simpa using e2
      clear hk e2
      generalize faceV v sub id = X at *
      generalize moreV v sub id = Y at *
      refine ps_i tab_ok mixed Tryz.func6 rfl Tryz.ntmps6 Tryz.results6 (by kernel_rfl) ?_
      repeat' (first | (with_reducible refine And.intro ?_ ?_) | (with_reducible refine gK_i (fun _ => ?_) (fun _ => ?_)) | (with_reducible refine condS_i (fun _ => ?_) (fun _ => ?_)) | (with_reducible refine drw_i (by kernel_rfl)) | simp -dsimp only [go_sem, ↓reduceIte, reduceCtorEq, Nat.reduceAdd, Nat.reduceMul, Nat.reduceSub, Nat.reduceLeDiff, Nat.reduceLT, Nat.reduceEqDiff, Int.reduceLE, Int.reduceLT, Int.reduceToNat, Int.reduceBEq, Int.reduceBNe, Int.reduceEq, Int.reduceAdd, Int.reduceSub, Int.reduceMul, Int.reduceNeg, Int.cast_ofNat_Int, *, encV, e3, undef] | ((with_reducible refine opK_c ?_); simp -dsimp only [go_sem, ↓reduceIte, reduceCtorEq, Nat.reduceAdd, Nat.reduceMul, Nat.reduceSub, Nat.reduceLeDiff, Nat.reduceLT, Nat.reduceEqDiff, Int.reduceLE, Int.reduceLT, Int.reduceToNat, Int.reduceBEq, Int.reduceBNe, Int.reduceEq, Int.reduceAdd, Int.reduceSub, Int.reduceMul, Int.reduceNeg, Int.cast_ofNat_Int, encV, e3, undef]; first | refine callK_r (by first | assumption | exact h1 | exact h2 | exact h3 | exact hb | exact a0 | exact a1 | exact a2 | exact a3) (by first | exact .inl rfl | exact .inr rfl) ?_ | (refine callK_i (by assumption) ?_ ?_ ?_; (solve | (repeat (first | exact DLe.refl _ | exact DLe.nil _ | (refine DLe.tup ?_) | (refine DLe.agg ?_ rfl) | exact trivial | (refine And.intro ?_ ?_)))); (solve | exact .inl rfl | exact .inr rfl))) | fail | omega | exact decide_eq_true (by omega) | exact DLe.refl _)
  · have e4 : ((faceV v sub id).2.2 == 0) = false := by simpa using e1
    clear e1
    by_cases e2 : (moreV v sub id).2.2 = 0
    · obtain ⟨hk, d0, hk2, d1⟩ := more_law e2
      have b0 := has_p v (moreV v sub id).2.1 hk.n6 hk.n8
      have b1 := has_p (moreV v sub id).1 (moreV v sub id).2.1 hk2.n6 hk2.n8
      have b2 := vcheck_p (moreV v sub id).1
      rw [vpcOK_to hk2] at b2
      rw [d0] at b0
      rw [d1] at b1
      rw [e2] at h2
      clear d0 d1 hk2 e2 hk
      generalize faceV v sub id = X at *
      generalize moreV v sub id = Y at *
      refine ps_i tab_ok mixed Tryz.func6 rfl Tryz.ntmps6 Tryz.results6 (by kernel_rfl) ?_
      repeat' (first | (with_reducible refine And.intro ?_ ?_) | (with_reducible refine gK_i (fun _ => ?_) (fun _ => ?_)) | (with_reducible refine condS_i (fun _ => ?_) (fun _ => ?_)) | (with_reducible refine drw_i (by kernel_rfl)) | simp -dsimp only [go_sem, ↓reduceIte, reduceCtorEq, Nat.reduceAdd, Nat.reduceMul, Nat.reduceSub, Nat.reduceLeDiff, Nat.reduceLT, Nat.reduceEqDiff, Int.reduceLE, Int.reduceLT, Int.reduceToNat, Int.reduceBEq, Int.reduceBNe, Int.reduceEq, Int.reduceAdd, Int.reduceSub, Int.reduceMul, Int.reduceNeg, Int.cast_ofNat_Int, *, encV, e4, undef] | ((with_reducible refine opK_c ?_); simp -dsimp only [go_sem, ↓reduceIte, reduceCtorEq, Nat.reduceAdd, Nat.reduceMul, Nat.reduceSub, Nat.reduceLeDiff, Nat.reduceLT, Nat.reduceEqDiff, Int.reduceLE, Int.reduceLT, Int.reduceToNat, Int.reduceBEq, Int.reduceBNe, Int.reduceEq, Int.reduceAdd, Int.reduceSub, Int.reduceMul, Int.reduceNeg, Int.cast_ofNat_Int, encV, e4, undef]; first | refine callK_r (by first | assumption | exact h1 | exact h2 | exact h3 | exact hb | exact b0 | exact b1 | exact b2) (by first | exact .inl rfl | exact .inr rfl) ?_ | (refine callK_i (by assumption) ?_ ?_ ?_; (solve | (repeat (first | exact DLe.refl _ | exact DLe.nil _ | (refine DLe.tup ?_) | (refine DLe.agg ?_ rfl) | exact trivial | (refine And.intro ?_ ?_)))); (solve | exact .inl rfl | exact .inr rfl))) | fail | omega | exact decide_eq_true (by omega) | exact DLe.refl _)
    · have e3 : ((moreV v sub id).2.2 == 0) = false := by simpa using e2
      clear e2
      generalize faceV v sub id = X at *
      generalize moreV v sub id = Y at *
      refine ps_i tab_ok mixed Tryz.func6 rfl Tryz.ntmps6 Tryz.results6 (by kernel_rfl) ?_
      repeat' (first | (with_reducible refine And.intro ?_ ?_) | (with_reducible refine gK_i (fun _ => ?_) (fun _ => ?_)) | (with_reducible refine condS_i (fun _ => ?_) (fun _ => ?_)) | (with_reducible refine drw_i (by kernel_rfl)) | simp -dsimp only [go_sem, ↓reduceIte, reduceCtorEq, Nat.reduceAdd, Nat.reduceMul, Nat.reduceSub, Nat.reduceLeDiff, Nat.reduceLT, Nat.reduceEqDiff, Int.reduceLE, Int.reduceLT, Int.reduceToNat, Int.reduceBEq, Int.reduceBNe, Int.reduceEq, Int.reduceAdd, Int.reduceSub, Int.reduceMul, Int.reduceNeg, Int.cast_ofNat_Int, *, encV, e3, e4, undef] | ((with_reducible refine opK_c ?_); simp -dsimp only [go_sem, ↓reduceIte, reduceCtorEq, Nat.reduceAdd, Nat.reduceMul, Nat.reduceSub, Nat.reduceLeDiff, Nat.reduceLT, Nat.reduceEqDiff, Int.reduceLE, Int.reduceLT, Int.reduceToNat, Int.reduceBEq, Int.reduceBNe, Int.reduceEq, Int.reduceAdd, Int.reduceSub, Int.reduceMul, Int.reduceNeg, Int.cast_ofNat_Int, encV, e3, e4, undef]; first | refine callK_r (by first | assumption | exact h1 | exact h2 | exact h3 | exact hb) (by first | exact .inl rfl | exact .inr rfl) ?_ | (refine callK_i (by assumption) ?_ ?_ ?_; (solve | (repeat (first | exact DLe.refl _ | exact DLe.nil _ | (refine DLe.tup ?_) | (refine DLe.agg ?_ rfl) | exact trivial | (refine And.intro ?_ ?_)))); (solve | exact .inl rfl | exact .inr rfl))) | fail | omega | exact decide_eq_true (by omega) | exact DLe.refl _)
end Go.Proofs.YtdcjeacphbfmjaaGreat
namespace Go.Proofs.YtdcjeacphbfmjaaGreat
open Go Go.RowKit Go.Proofs Go.ChangeShapes Go.WideShapes Go.Deep
/-- Nothing may be written. -/
def NM : Nat → Prop := fun _ => False
section
variable {H : Type} {enc : TypeId × Value → H} {P : Program} {w : World} {base : Nat} {spare : Nat → Bool} {held : Bool}
def RdW {α : Type} (enc : TypeId × Value → H) (P : Program) (w : World) (base : Nat) (spare : Nat → Bool) (held : Bool) (t : TypeId) (R : List Value → α → Prop) (S : α → Prop) : Prop :=
  ∀ fuel cs x, DataW.trod enc P w base spare held fuel t cs = some x → ∃ a, R cs a ∧ ((∀ n ∈ x.1.weights P t, n ≤ reachBytes) → S a)
theorem rdw_of {α : Type} {t : TypeId} {R : List Value → α → Prop} (h : Rd enc P w base spare held t R) : RdW enc P w base spare held t R (fun _ => True) := by
  intro fuel cs x hx
  obtain ⟨a, ha⟩ := h fuel cs x hx
  exact ⟨a, ha, fun _ => trivial⟩
theorem weights_all {e : TypeId} : ∀ {l : List (DataW H)} {d : DataW H}, d ∈ l → ∀ n ∈ d.weights P e, n ∈ DataW.weightsAll P e l
  | a :: l, d, h, n, hn => by
    simp only [DataW.weightsAll, List.mem_append]
    rcases List.mem_cons.1 h with rfl | h
    · exact .inl hn
    · exact .inr (weights_all h n hn)
theorem rdw_field {α : Type} {t : TypeId} {fs : Array Field} {fuel : Nat} {cs : List Value} {x : DataW H × List MemPlace} (ht : P.underlying t = some (.struct fs)) (h : DataW.trod enc P w base spare held fuel t cs = some x)
    (j : Nat) {f : Field} (hf : fs[j]? = some f) {R : List Value → α → Prop} {S : α → Prop} (hr : RdW enc P w base spare held f.type R S) : ∃ a, R ((cs.drop f.offset).take (P.cellsOf f.type)) a ∧ ((∀ n ∈ x.1.weights P t, n ≤ reachBytes) → S a) := by
  obtain ⟨xs, n, _, rfl, _, hlen, hg⟩ := DataW.trod_struct ht h
  have h1 := hg j f hf
  have hj : j < xs.length := by rw [hlen]; exact (Array.getElem?_eq_some_iff.1 hf).1
  rw [List.getElem?_eq_getElem hj] at h1
  obtain ⟨a, ha, hs⟩ := hr _ _ _ h1
  refine ⟨a, ha, fun hw => hs fun n hn => hw n ?_⟩
  simp only [DataW.weights, ht]
  exact DataW.weights_mem_each (j := j) (t := f.type) (d := (xs[j]).1) (by simp [hf]) (by simp [List.getElem?_eq_getElem hj]) n hn
theorem rdw_slice {α : Type} {t e : TypeId} {k : Nat} {R : List Value → α → Prop} {S : α → Prop} (ht : P.underlying t = some (.slice e)) (hc : P.cellsOf e = k + 1) (he : RdW enc P w base spare held e R S) :
    RdW enc P w base spare held t (fun cs (l : List α) => ∃ v, cs = [v] ∧ IsSl (inW w) w (k + 1) R v l) (fun l => l.length * P.bytesOf e ≤ reachBytes ∧ ∀ a ∈ l, S a) := by
  intro fuel cs x hx
  rcases open_slice ht hx with ⟨rfl, rfl⟩ | ⟨a, len, cap, m, n, D, Pl, rfl, hb, hl, hm, hmm, rfl, hi⟩
  · exact ⟨[], ⟨_, rfl, none, 0, rfl, ⟨Nat.le_refl _, by decide, fun i h => by simp at h⟩⟩, fun _ => ⟨by simp, fun a h => by simp at h⟩⟩
  · have hlm : len ≤ m := by rw [hmm]; split <;> omega
    obtain ⟨l, hll, hq⟩ := pick_list (Q := fun i y => ∃ cs', w.cells? base (a.add (i * P.cellsOf e)) (P.cellsOf e) = some cs' ∧ R cs' y ∧ ((∀ n ∈ (D i).weights P e, n ≤ reachBytes) → S y)) len fun i h => by
      obtain ⟨cs', h1, h2⟩ := hi i (by omega)
      obtain ⟨y, hy, hs⟩ := he _ _ _ h2
      exact ⟨y, cs', h1, hy, hs⟩
    refine ⟨l, ⟨_, rfl, some a, cap, by rw [hll], ⟨by omega, by unfold maxLen at hm; omega, fun i h => ?_⟩⟩, fun hw => ⟨?_, fun y hy => ?_⟩⟩
    · obtain ⟨cs', h1, h2, -⟩ := hq i h
      rw [hc] at h1
      obtain ⟨_, hcl, hat⟩ := World.cells?_some h1
      obtain ⟨b, off, spot⟩ := a
      have hspot : spot = none := by
        obtain ⟨cs0, g1, _⟩ := hq 0 (by omega)
        rw [hc] at g1
        obtain ⟨_, gcl, gat⟩ := World.cells?_some g1
        have g0 := gat (i := 0) (by omega)
        have g0' : w.cell? ⟨b, off, spot⟩ = some (cs0[0]'(by omega)) := by
          have : ((⟨b, off, spot⟩ : Addr).add (0 * (k + 1))).add 0 = ⟨b, off, spot⟩ := by simp [Addr.add]
          rw [this] at g0
          rw [g0]; exact List.getElem?_eq_getElem (by omega)
        exact World.cell?_spot g0'
      subst hspot
      have hadd : ∀ o j, ((⟨b, o, none⟩ : Addr).add j) = ⟨b, o + j, none⟩ := by
        intro o j; unfold Addr.add; split <;> simp_all
      refine ⟨b, off, cs', rfl, ?_, hcl, h2, fun j hj => ?_⟩
      · have := hat (i := 0) (by omega)
        rw [hadd, hadd] at this
        exact lt_of_cell (this.trans (List.getElem?_eq_getElem (by omega)))
      · have := hat (i := j) (by omega)
        rw [hadd, hadd] at this
        rw [this]
        exact List.getElem?_eq_getElem hj
    · have := hw (((List.range len).map D).length + ((List.range (m - len)).map fun j => D (len + j)).length |> (· * P.bytesOf e)) (by simp [DataW.weights, ht])
      simp only [List.length_map, List.length_range] at this
      rw [hll]
      exact Nat.le_trans (Nat.mul_le_mul_right _ (by omega)) this
    · obtain ⟨i, hil, rfl⟩ := List.mem_iff_getElem.1 hy
      obtain ⟨cs', h1, h2, h3⟩ := hq i hil
      refine h3 fun n hn => hw n ?_
      simp only [DataW.weights, ht]
      refine List.mem_cons_of_mem _ (List.mem_append_left _ (weights_all (d := D i) (List.mem_map.2 ⟨i, by simp; omega, rfl⟩) n hn))
theorem argw {α : Type} {R : List Value → α → Prop} {S : α → Prop} {r : Reach} {b0 : Nat} {t : TypeId} {fs : Array Field} {v : Value} {d : DataW H} {p : List MemPlace} (ht : P.underlying t = some (.struct fs)) (hval : Value.okWide P w r b0 t v) (hd : DataW.Trod enc P w base spare held t v d p)
    (hr : RdW enc P w base spare held t R S) : ∃ cs a, v = .agg cs ∧ R cs.toList a ∧ ((∀ n ∈ d.weights P t, n ≤ reachBytes) → S a) := by
  obtain ⟨cs, rfl, _⟩ := okWide_struct ht hval
  obtain ⟨fuel, hf⟩ := hd
  obtain ⟨a, ha, hs⟩ := hr _ _ _ hf
  exact ⟨cs, a, rfl, by simpa [Value.cells] using ha, hs⟩
end
end Go.Proofs.YtdcjeacphbfmjaaGreat
namespace Go.Proofs.YtdcjeacphbfmjaaGreat
open Go Go.RowKit Go.Proofs Go.ChangeShapes Go.WideShapes Go.Deep
set_option maxRecDepth 100000
/-- A slice of what reads as data reads as data. -/
theorem isSl_rep {α : Type} {enc : α → List D} {sz : Nat} {w : World} (h0 : 0 < sz) (hen : ∀ a, (enc a).length = sz ∧ ∀ d ∈ enc a, d.one = true) {v : Value} {l : List α} (h : IsSl (inW w) w sz (fun cs a => RepDs NM w (enc a) cs) v l) : RepD NM w (.sl sz (l.map enc)) v := by
  obtain ⟨ao, cap, rfl, hs⟩ := h
  cases l with
  | nil => exact .nil sz ao cap hs.cap_max
  | cons u us =>
    obtain ⟨b, off, cs, rfl, hAb, hl, hR, hcs⟩ := hs.elem 0 (by simp)
    have key : ∀ i (hi : i < (u :: us).length), ∃ cs : List Value, cs.length = sz ∧ RepDs NM w (enc (u :: us)[i]) cs ∧ cellsAt w b (off + i * sz) cs := by
      intro i hi
      obtain ⟨b', off', cs', e, -, hl', hR', hcs'⟩ := hs.elem i hi
      cases e
      exact ⟨cs', hl', hR', hcs'⟩
    have hlen : ((u :: us).map enc).length = (u :: us).length := by simp
    rw [← hlen]
    refine .sl sz ((u :: us).map enc) b off cap (fun i j => (w.cell? ⟨b, off + i * sz + j, none⟩).getD undef) (fun h => h) hAb (by rw [hlen]; exact hs.cap_le) hs.cap_max (fun r hr => ?_) (fun r hr => ?_) (fun i j hi hj => ?_) (fun i j row d hi hj => ?_)
    · obtain ⟨x, -, rfl⟩ := List.mem_map.1 hr; exact (hen x).1
    · obtain ⟨x, -, rfl⟩ := List.mem_map.1 hr; exact (hen x).2
    · obtain ⟨cs', hl', -, hcs'⟩ := key i (by simpa using hi)
      rw [hcs' j (by omega)]; rfl
    · have hi' : i < (u :: us).length := by have := (List.getElem?_eq_some_iff.1 hi).1; simpa using this
      obtain ⟨cs', hl', hR', hcs'⟩ := key i hi'
      rw [List.getElem?_map, List.getElem?_eq_getElem hi'] at hi
      simp only [Option.map_some, Option.some.injEq] at hi
      subst hi
      have hj' : j < cs'.length := by rw [← hR'.1]; exact (List.getElem?_eq_some_iff.1 hj).1
      rw [hcs' j hj']
      exact hR'.2 j d _ hj (List.getElem?_eq_getElem hj')
section
variable {H : Type} {enc : TypeId × Value → H} {w : World} {base : Nat} {spare : Nat → Bool} {held : Bool}
theorem Tryz.sizePfx : Tryz.prog.cellsOf 27 = 2 := by kernel_rfl
theorem Tryz.sizeInt1 : Tryz.prog.cellsOf 3 = 1 := by kernel_rfl
theorem Tryz.sizeInts : Tryz.prog.cellsOf 77 = 1 := by kernel_rfl
theorem Tryz.sizeFace : Tryz.prog.cellsOf 79 = 2 := by kernel_rfl
theorem Tryz.sizeSub : Tryz.prog.cellsOf 62 = 4 := by kernel_rfl
theorem Tryz.sizeRange : Tryz.prog.cellsOf 29 = 3 := by kernel_rfl
theorem Tryz.sizeVpc : Tryz.prog.cellsOf 25 = 3 := by kernel_rfl
theorem Tryz.sizeFaces : Tryz.prog.cellsOf 60 = 1 := by kernel_rfl
theorem Tryz.bytesFace : Tryz.prog.bytesOf 79 = 32 := by kernel_rfl
theorem Tryz.sizeSubs : Tryz.prog.cellsOf 23 = 1 := by kernel_rfl
theorem Tryz.bytesSub : Tryz.prog.bytesOf 62 = 48 := by kernel_rfl
theorem Tryz.sizeRanges : Tryz.prog.cellsOf 22 = 1 := by kernel_rfl
theorem rd_pfx : Rd enc Tryz.prog w base spare held 27 Pfx.R := by
  intro fuel cs x hx
  have hl := rd_len Tryz.underlying27 hx
  rw [Tryz.sizePfx] at hl
  obtain ⟨a, ha⟩ := rd_field Tryz.underlying27 hx 0 rfl (rd_int Tryz.underlying3)
  obtain ⟨b, hb⟩ := rd_field Tryz.underlying27 hx 1 rfl (rd_int Tryz.underlying3)
  match cs, hl with
  | [c0, c1], _ =>
    simp [Tryz.sizeInt1, IntR] at ha hb
    exact ⟨⟨a, b⟩, by simp [Pfx.R, ha.1, hb.1]⟩
theorem repDs_ints (l : List Int) : RepDs NM w (l.map fun n => .v (.int .i64 n)) (l.map fun n => .int .i64 n) := by
  refine ⟨by simp, fun j d x hj hx => ?_⟩
  rw [List.getElem?_map, Option.map_eq_some_iff] at hj hx
  obtain ⟨a, ha, rfl⟩ := hj
  obtain ⟨c, hc, rfl⟩ := hx
  rw [ha] at hc
  obtain rfl := Option.some.inj hc
  exact .v _
theorem repDs_appR {M : Nat → Prop} {w : World} {ds es : List D} {vs us : List Value} (h : RepDs M w ds vs) (g : RepDs M w es us) : RepDs M w (ds ++ es) (vs ++ us) := by
  refine ⟨by simp [h.1, g.1], fun j d x hj hx => ?_⟩
  rcases Nat.lt_or_ge j ds.length with hlt | hge
  · rw [List.getElem?_append_left hlt] at hj
    rw [List.getElem?_append_left (by rw [← h.1]; exact hlt)] at hx
    exact h.2 j d x hj hx
  · rw [List.getElem?_append_right hge] at hj
    rw [List.getElem?_append_right (by rw [← h.1]; exact hge), ← h.1] at hx
    exact g.2 _ d x hj hx
theorem repDs_one {M : Nat → Prop} {w : World} {d : D} {v : Value} (h : RepD M w d v) : RepDs M w [d] [v] := ⟨rfl, fun j e x hj hx => by
  match j with
  | 0 => cases hj; cases hx; exact h
  | j + 1 => simp at hj⟩
theorem rdw_ints : RdW enc Tryz.prog w base spare held 77 (fun cs (l : List Int) => ∃ v, cs = [v] ∧ RepD NM w (.sl 1 (l.map encA)) v) (fun _ => True) := by
  have h := rdw_slice (enc := enc) (base := base) (spare := spare) (held := held) Tryz.underlying77 Tryz.sizeInt1 (rdw_of ((rd_int (w := w) Tryz.underlying3).map id (R' := fun cs (a : Int) => RepDs NM w (encA a) cs) fun cs a h => by rw [h.1]; exact repDs_ints [a]))
  intro fuel cs x hx
  obtain ⟨l, ⟨v, rfl, hs⟩, hw⟩ := h fuel cs x hx
  refine ⟨l, ⟨v, rfl, isSl_rep (sz := 1) (by omega) (fun a => ⟨rfl, fun d hd => ?_⟩) hs⟩, fun _ => trivial⟩
  simp [encA] at hd
  rcases hd with rfl; rfl
theorem rdw_face : RdW enc Tryz.prog w base spare held 79 (fun cs (f : Fce) => RepDs NM w (encF f) cs) (fun _ => True) := by
  intro fuel cs x hx
  have hl := rd_len Tryz.underlying79 hx
  rw [Tryz.sizeFace] at hl
  obtain ⟨a, ha⟩ := rd_field Tryz.underlying79 hx 0 rfl (rd_int Tryz.underlying3)
  obtain ⟨l, hs, hw⟩ := rdw_field Tryz.underlying79 hx 1 rfl rdw_ints
  match cs, hl with
  | [c0, c1], _ =>
    simp [Tryz.sizeInt1, Tryz.sizeInts, IntR] at ha hs
    refine ⟨⟨a, l⟩, ?_, fun _ => trivial⟩
    rw [ha.1]
    exact repDs_appR (repDs_ints [a]) (repDs_one hs)
theorem rdw_faces : RdW enc Tryz.prog w base spare held 60 (fun cs (l : List Fce) => ∃ v, cs = [v] ∧ RepD NM w (.sl 2 (l.map encF)) v) (fun l => l.length * 32 ≤ reachBytes) := by
  have h := rdw_slice (enc := enc) (base := base) (spare := spare) (held := held) Tryz.underlying60 Tryz.sizeFace (rdw_face (w := w))
  intro fuel cs x hx
  obtain ⟨l, ⟨v, rfl, hs⟩, hw⟩ := h fuel cs x hx
  refine ⟨l, ⟨v, rfl, isSl_rep (sz := 2) (by omega) (fun a => ⟨rfl, fun d hd => ?_⟩) hs⟩, fun hh => by have := (hw hh).1; rwa [Tryz.bytesFace] at this⟩
  simp [encF] at hd
  rcases hd with rfl | rfl <;> rfl
theorem rdw_sub : RdW enc Tryz.prog w base spare held 62 (fun cs (s : Sbn) => RepDs NM w (encN s) cs) (fun s => s.faces.length * 32 ≤ reachBytes) := by
  intro fuel cs x hx
  have hl := rd_len Tryz.underlying62 hx
  rw [Tryz.sizeSub] at hl
  obtain ⟨a, ha⟩ := rd_field Tryz.underlying62 hx 0 rfl (rd_int Tryz.underlying3)
  obtain ⟨p, hp⟩ := rd_field Tryz.underlying62 hx 1 rfl rd_pfx
  obtain ⟨l, hs, hw⟩ := rdw_field Tryz.underlying62 hx 2 rfl rdw_faces
  match cs, hl with
  | [c0, c1, c2, c3], _ =>
    simp [Tryz.sizePfx, Tryz.sizeInt1, Tryz.sizeFaces, IntR, Pfx.R] at ha hp hs
    refine ⟨⟨a, p, l⟩, ?_, hw⟩
    rw [ha.1, hp.1, hp.2]
    exact repDs_appR (repDs_ints [a, p.at_, p.len]) (repDs_one hs)
theorem rdw_subs : RdW enc Tryz.prog w base spare held 23 (fun cs (l : List Sbn) => ∃ v, cs = [v] ∧ RepD NM w (.sl 4 (l.map encN)) v) (fun l => l.length * 48 ≤ reachBytes ∧ ∀ s ∈ l, s.faces.length * 32 ≤ reachBytes) := by
  have h := rdw_slice (enc := enc) (base := base) (spare := spare) (held := held) Tryz.underlying23 Tryz.sizeSub (rdw_sub (w := w))
  intro fuel cs x hx
  obtain ⟨l, ⟨v, rfl, hs⟩, hw⟩ := h fuel cs x hx
  refine ⟨l, ⟨v, rfl, isSl_rep (sz := 4) (by omega) (fun a => ⟨rfl, fun d hd => ?_⟩) hs⟩, fun hh => ⟨by have := (hw hh).1; rwa [Tryz.bytesSub] at this, (hw hh).2⟩⟩
  simp [encN] at hd
  rcases hd with rfl | rfl | rfl | rfl <;> rfl
theorem rd_rng : Rd enc Tryz.prog w base spare held 29 fun cs (r : Rng) => RepDs NM w (encG r) cs := by
  intro fuel cs x hx
  have hl := rd_len Tryz.underlying29 hx
  rw [Tryz.sizeRange] at hl
  obtain ⟨p, hp⟩ := rd_field Tryz.underlying29 hx 0 rfl rd_pfx
  obtain ⟨a, ha⟩ := rd_field Tryz.underlying29 hx 1 rfl (rd_int Tryz.underlying3)
  match cs, hl with
  | [c0, c1, c2], _ =>
    simp [Tryz.sizePfx, Tryz.sizeInt1, IntR, Pfx.R] at ha hp
    refine ⟨⟨p, a⟩, ?_⟩
    rw [ha.1, hp.1, hp.2]
    exact repDs_ints [p.at_, p.len, a]
theorem rd_rngD : RdW enc Tryz.prog w base spare held 29 (fun cs (r : Rng) => RepDs NM w (encG r) cs) (fun _ => True) := rdw_of rd_rng
theorem rdw_rngs : RdW enc Tryz.prog w base spare held 22 (fun cs (l : List Rng) => ∃ v, cs = [v] ∧ RepD NM w (.sl 3 (l.map encG)) v) (fun _ => True) := by
  have h := rdw_slice (enc := enc) (base := base) (spare := spare) (held := held) Tryz.underlying22 Tryz.sizeRange (rd_rngD (w := w))
  intro fuel cs x hx
  obtain ⟨l, ⟨v, rfl, hs⟩, hw⟩ := h fuel cs x hx
  refine ⟨l, ⟨v, rfl, isSl_rep (sz := 3) (by omega) (fun a => ⟨rfl, fun d hd => ?_⟩) hs⟩, fun _ => trivial⟩
  simp [encG] at hd
  rcases hd with rfl | rfl | rfl <;> rfl
theorem rdw_vpc : RdW enc Tryz.prog w base spare held 25 (fun cs (v : Vpc) => RepDs NM w (encV v) cs) (fun v => v.subs.length ≤ 9223372036854775807 ∧ ∀ s ∈ v.subs, s.faces.length ≤ 9223372036854775807) := by
  intro fuel cs x hx
  have hl := rd_len Tryz.underlying25 hx
  rw [Tryz.sizeVpc] at hl
  obtain ⟨a, ha⟩ := rd_field Tryz.underlying25 hx 0 rfl (rd_int Tryz.underlying3)
  obtain ⟨r, hr, -⟩ := rdw_field Tryz.underlying25 hx 1 rfl rdw_rngs
  obtain ⟨l, hs, hw⟩ := rdw_field Tryz.underlying25 hx 2 rfl rdw_subs
  match cs, hl with
  | [c0, c1, c2], _ =>
    simp [Tryz.sizeInt1, Tryz.sizeRanges, Tryz.sizeSubs, IntR] at ha hr hs
    refine ⟨⟨a, r, l⟩, ?_, fun hh => ?_⟩
    · rw [ha.1]
      exact repDs_appR (repDs_ints [a]) (repDs_appR (repDs_one hr) (repDs_one hs))
    · have := hw hh
      unfold reachBytes at this
      exact ⟨by have := this.1; show l.length ≤ 9223372036854775807; omega, fun s hs => by have := this.2 s hs; omega⟩
end
theorem repDs_n {M : Nat → Prop} {w : World} : RepDs M w [] [] := ⟨rfl, fun j d x hj _ => by simp at hj⟩
theorem repDs_c {M : Nat → Prop} {w : World} {d : D} {v : Value} {ds : List D} {vs : List Value} (h : RepD M w d v) (g : RepDs M w ds vs) : RepDs M w (d :: ds) (v :: vs) := ⟨by simp [g.1], fun j e x hj hx => by
  cases j with
  | zero => simp at hj hx; subst hj; subst hx; exact h
  | succ j => exact g.2 j e x (by simpa using hj) (by simpa using hx)⟩
theorem rep_agg {w : World} {cs : Array Value} {ds : List D} (h : RepDs NM w ds cs.toList) (h1 : ds.all D.one = true) : RepD NM w (.agg ds) (.agg cs) := by
  have := RepD.agg (M := NM) (w := w) ds cs.toList h.1 (fun d hd => List.all_eq_true.1 h1 d hd) h.2
  simpa using this
theorem law_of {P : Program} {f : Nat} {args : List D} {vs : List Value} {W : World} (hp : PSpec P f args (.v (.bool true))) (hds : RepDs NM W args vs) : Calls P f vs.toArray W fun e w' => e = .returned (.bool true) ∧ Ext W w' := by
  refine (hp.2 NM W vs (fun b h => h.elim) hds).mono ?_
  rintro e w' ⟨v, rfl, hv, hx⟩
  cases hv
  exact ⟨rfl, hx⟩
section
variable {H : Type} {enc : TypeId × Value → H} {w : World} {base : Nat} {spare : Nat → Bool} {held : Bool}
end
end Go.Proofs.YtdcjeacphbfmjaaGreat
namespace Go.Proofs.YtdcjeacphbfmjaaGreat
open Go Go.RowKit Go.Proofs Go.ChangeShapes Go.WideShapes Go.ChangeAt
set_option linter.unusedVariables false
theorem vpcApart_own : ownKnob Tryz.prog.godebug = Option.none := by kernel_rfl
theorem vpcApart_laidOut : laidOutB Tryz.prog = true := by kernel_rfl
set_option maxRecDepth 100000 in
theorem vpcApart_lifted (os : Os) (started : os.Started) (H : Type) (enc : TypeId × Value → H) :
    ReturnsInHanded {} Tryz.checked os 6 .any (Rows.vpcApartSpec.pre6 enc Tryz.prog Tryz.f6 Rows.vpcApartRow.domain false) (Rows.vpcApartSpec.post enc Tryz.prog Tryz.f6 false true false false) := by
  refine returnsInHanded_of_change_sized (C := Tryz.checked) vpcApart_own started (by kernel_rfl) Tryz.func6
    (ChangeSpec.witness6 (enc := enc) (C := Tryz.checked) false ⟨#[], #[.agg #[.int .i64 0, .slice none 0 0, .slice none 0 0], .int .i64 0, .int .i64 0], []⟩ 8 (by kernel_rfl) (by kernel_rfl) (by kernel_rfl) (by kernel_rfl)) ?_
  intro W base args ds gs before hval0 hW hcnd hsz _
  have hval : ∀ (j : Nat) t v, Tryz.f6.params[j]? = some t → args[j]? = some v → Value.okWide Tryz.prog W .any base t v := hval0
  have hW' := hW
  obtain ⟨p, q, hA0, hV, rfl, hfz, hnd⟩ := hW
  have hA : DataW.TrodAll enc Tryz.prog W 0 (fun _ => true) true Tryz.f6.params.toList args.toList ds p := hA0
  rw [Tryz.params6] at hA hval
  obtain ⟨v0, vs0, d0, ds0, p0, q0, hargs, rfl, rfl, h0, r0⟩ := trodAll_cons hA
  obtain ⟨v1, vs1, d1, ds1, p1, q1, rfl, rfl, rfl, h1, r1⟩ := trodAll_cons r0
  obtain ⟨v2, vs2, d2, ds2, p2, q2, rfl, rfl, rfl, h2, r2⟩ := trodAll_cons r1
  obtain ⟨rfl, rfl, rfl⟩ := trodAll_nil r2
  obtain rfl : args = #[v0, v1, v2] := by cases args; simp_all
  obtain ⟨rfl, rfl⟩ := trodVars_none hV
  obtain ⟨cs0, a0, rfl, w0, s0⟩ := argw Tryz.underlying25 (hval 0 25 v0 rfl rfl) h0 rdw_vpc
  replace s0 := s0 (fun n hn => of_decide_eq_true (List.all_eq_true.1 hsz _ (DataW.weights_mem_each (j := 0) (t := 25) rfl rfl n hn)))
  obtain ⟨a1, rfl, w1⟩ := arg_int Tryz.underlying3 (hval 1 3 v1 rfl rfl) h1
  obtain ⟨a2, rfl, w2⟩ := arg_int Tryz.underlying3 (hval 2 3 v2 rfl rfl) h2
  clear hA0 hval0
  refine (law_of (vpcApart_p a0 a1 a2 s0) (vs := [.agg cs0, .int .i64 a1, .int .i64 a2]) (repDs_c (rep_agg w0 rfl) (repDs_c (.v (.int .i64 a1)) (repDs_c (.v (.int .i64 a2)) repDs_n)))).mono fun e W' ⟨he, bel⟩ => ?_
  subst he
  exact ⟨_, rfl, _, _, _, [], _, [], hW', trodAll_mk1 (shut_bool Tryz.underlying4 _), (trodAll_cons_mk (Below.trod vpcApart_laidOut (by kernel_rfl) (of_decide_eq_true (by kernel_rfl)) h0 bel (trod_lts h0)) (trodAll_cons_mk (Below.trod vpcApart_laidOut (by kernel_rfl) (of_decide_eq_true (by kernel_rfl)) h1 bel (trod_lts h1)) (trodAll_cons_mk (Below.trod vpcApart_laidOut (by kernel_rfl) (of_decide_eq_true (by kernel_rfl)) h2 bel (trod_lts h2)) trodAll_mk0))), rfl, bel.frame _, fun h => by cases h⟩
theorem vpcApart_over : Rows.vpcApartRow.holds Tryz.pinned (OpenSpec.ofChange Rows.vpcApartSpec) :=
  OpenClaim.holds_of_wide 6 Tryz.f6 rfl rfl rfl rfl rfl rfl rfl ⟨rfl, rfl, rfl, rfl, rfl⟩ rfl rfl rfl rfl rfl (by kernel_rfl) Tryz.func6 (by kernel_rfl)
    (of_decide_eq_true (by kernel_rfl)) (by unfold Func.isWrapper; first | (rw [if_pos (by decide +kernel)]; kernel_rfl) | (rw [if_neg (by decide +kernel)]; exact ⟨rfl, rfl⟩))
    (fun os started H enc _ => vpcApart_lifted os started H enc)
theorem vpcApart_holds : Rows.VpcApartSaid := vpcApart_over
#print axioms vpcApart_holds
end Go.Proofs.YtdcjeacphbfmjaaGreat
