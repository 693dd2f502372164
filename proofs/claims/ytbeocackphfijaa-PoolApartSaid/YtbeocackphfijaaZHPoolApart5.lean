/- PoolApart: its statement, for every input, out of its walk. (texts of this work, joined) -/
import Derived.Test.YtbeocackphfijaaZHPoolApart4
import Derived.Deep.Slices
import Derived.Deep.Fields
import Derived.ChangeSame
import Derived.OpenShut
import Derived.ProofKit
import Derived.Carry
import Derived.ChangeMaps5
import Derived.DataShut
import Derived.SizedLaws
import Derived.Test.YtbeocackphfijaaRows
import Derived.WalkKit
import Derived.ShutString
import Derived.ChangeOld
import Derived.Below
set_option linter.unusedSimpArgs false
set_option linter.unusedVariables false
namespace Go.Proofs.Ytbeocackphfijaa
open Go Go.RowKit
/-- A lease for users, of just this part. -/
def giveB (at_ : Pfx) (l : Lse) : Bool := (l.kind == 1) && decide (l.at_ = at_)
theorem give1_p (l : Lse) (at_ : Pfx) : PSpec Try.prog 63 [.agg (encL l), .ept (encP at_)] (.v (.bool (giveB at_ l))) := by
  have he := eqP_list l.at_ at_
  unfold giveB
  rw [← he]
  replace he := Lib.hid he
  refine ps_i tab_ok mixed Try.func63 rfl Try.ntmps63 Try.results63 (by kernel_rfl) ?_
  repeat' (first | (with_reducible refine And.intro ?_ ?_) | (with_reducible refine gK_i (fun _ => ?_) (fun _ => ?_)) | (with_reducible refine condS_i (fun _ => ?_) (fun _ => ?_)) | (with_reducible refine drw_i (by kernel_rfl)) | simp -dsimp only [go_sem, ↓reduceIte, reduceCtorEq, Nat.reduceAdd, Nat.reduceMul, Nat.reduceSub, Nat.reduceLeDiff, Nat.reduceLT, Nat.reduceEqDiff, Int.reduceLE, Int.reduceLT, Int.reduceToNat, Int.reduceBEq, Int.reduceBNe, Int.reduceEq, Int.reduceAdd, Int.reduceSub, Int.reduceMul, Int.reduceNeg, Int.cast_ofNat_Int, *, encL, encP] | ((with_reducible refine opK_c ?_); simp -dsimp only [go_sem, ↓reduceIte, reduceCtorEq, Nat.reduceAdd, Nat.reduceMul, Nat.reduceSub, Nat.reduceLeDiff, Nat.reduceLT, Nat.reduceEqDiff, Int.reduceLE, Int.reduceLT, Int.reduceToNat, Int.reduceBEq, Int.reduceBNe, Int.reduceEq, Int.reduceAdd, Int.reduceSub, Int.reduceMul, Int.reduceNeg, Int.cast_ofNat_Int, encL, encP]; first | refine callK_r (by first | assumption | fail) (by first | exact .inl rfl | exact .inr rfl) ?_ | (refine callK_i (by assumption) ?_ ?_ ?_; (solve | (repeat (first | exact DLe.refl _ | exact DLe.nil _ | (refine DLe.tup ?_) | (refine DLe.agg ?_ rfl) | exact trivial | (refine And.intro ?_ ?_)))); (solve | exact .inl rfl | exact .inr rfl))) | fail | omega | exact decide_eq_true (by omega) | exact DLe.refl _)
/-- Give's answer. -/
def giveR (b : Bok) (id : Int) (at_ : Pfx) : Bok × Int :=
  if chkBk b ≠ 0 then (Bok.zero, chkBk b) else
  match poolOf b id with
  | none => (Bok.zero, 5)
  | some p => match p.leases.findIdx? (giveB at_) with
    | none => (Bok.zero, 5)
    | some i => (updB b id fun p => { p with leases := coolL p i b.tick }, 0)
theorem rule_cool {r : Rul} {len : Int} (h : ruleOK r len = true) : 0 ≤ r.cool ∧ r.cool ≤ 1024 := by
  simp only [ruleOK, Bool.and_eq_true, decide_eq_true_eq] at h
  exact h.2
/-- What is known of a book with one pool for itself. -/
structure ZipB (b : Bok) (pre post : List Pol) (p : Pol) : Prop where
  eq : b.pools = pre ++ p :: post
  at_ : b.pools[pre.length]? = some p
  mem : p ∈ b.pools
  view : viewR (viewF (hatL [.box 24 [.d (.v (.int .i64 b.tick)), .own 1 b.pools.length], .row 46 9 b.pools.length (zipR pre (polRow p (.own 2 1)) post), .row 50 5 1 (dRows (p.leases.map encL))]) 5) (zipR pre (polRow p (.own 2 1)) post) = some (b.pools.map encPol)
  len : (zipR pre (polRow p (.own 2 1)) post).length = b.pools.length
theorem zipB {b : Bok} {pre post : List Pol} {p : Pol} (hp : b.pools = pre ++ p :: post) : ZipB b pre post p := by
  refine ⟨hp, ?_, ?_, ?_, ?_⟩
  · rw [hp, List.getElem?_append_right (Nat.le_refl _), Nat.sub_self]; rfl
  · rw [hp]; simp
  · rw [hp]
    simp only [viewR_zip, polRow, viewL, viewF, hatL, viewR_d, if_true, Option.map_some, List.map_append, List.map_cons]; rfl
  · rw [zipR_len, hp]; simp; omega
/-- A pool is found, in a book with one pool for itself. -/
theorem findZ_m {b : Bok} (hb : BookOK b) {pre post : List Pol} {p : Pol} (hz : ZipB b pre post p) {i : Nat} {q : Pol} (hq : b.pools[i]? = some q) :
    MSpec Try.prog 32 [.ptr 0 0, .d (.v (.int .i64 q.id))] [.box 24 [.d (.v (.int .i64 b.tick)), .own 1 b.pools.length], .row 46 9 b.pools.length (zipR pre (polRow p (.own 2 1)) post), .row 50 5 1 (dRows (p.leases.map encL))]
      (.tup [.rp 1 b.pools.length 9 i 0, .d (.v (.bool true))]) [.box 24 [.d (.v (.int .i64 b.tick)), .own 1 b.pools.length], .row 46 9 b.pools.length (zipR pre (polRow p (.own 2 1)) post), .row 50 5 1 (dRows (p.leases.map encL))] :=
  find_m b i q b.pools.length _ [.row 50 5 1 (dRows (p.leases.map encL))] (.d (.v (.int .i64 b.tick))) hq hb.rise hb.n8 hz.len hz.view (by rw [belowR_zip]; rfl) (by simp only [belowH, belowC, belowR_d, Bool.and_self]) rfl
set_option maxRecDepth 100000 in
set_option maxHeartbeats 1000000 in
theorem give_p (b : Bok) (id : Int) (at_ : Pfx) (hz : ∀ p ∈ b.pools, p.leases.length ≤ 3518437208882) : PSpec Try.prog 18 [.agg (encB b), .v (.int .i64 id), .agg (encP at_)] (.tup [.agg (encB (giveR b id at_).1), .v (.int .i64 (giveR b id at_).2)]) := by
  obtain ⟨R, hR⟩ : ∃ R, R = giveR b id at_ := ⟨_, rfl⟩
  rw [← hR]
  replace hR := Lib.hid hR
  by_cases hc : chkBk b = 0
  · have hbk := bookOK hc
    cases hq : poolOf b id with
    | none =>
      have hbg := beginD_m b hz hc
      have hf := find_p b id (by have := hbk.n8; omega) hbk.rise
      unfold findR at hf
      rw [hq] at hf
      replace hc := Lib.hid hc
      replace hq := Lib.hid hq
      refine ps_i tab_ok mixed Try.func18 rfl Try.ntmps18 Try.results18 (by kernel_rfl) ?_
      repeat' (first | (with_reducible refine And.intro ?_ ?_) | (with_reducible refine gK_i (fun _ => ?_) (fun _ => ?_)) | (with_reducible refine condS_i (fun _ => ?_) (fun _ => ?_)) | (with_reducible refine drw_i (by kernel_rfl)) | simp -dsimp only [go_sem, ↓reduceIte, reduceCtorEq, Nat.reduceAdd, Nat.reduceMul, Nat.reduceSub, Nat.reduceLeDiff, Nat.reduceLT, Nat.reduceEqDiff, Int.reduceLE, Int.reduceLT, Int.reduceToNat, Int.reduceBEq, Int.reduceBNe, Int.reduceEq, Int.reduceAdd, Int.reduceSub, Int.reduceMul, Int.reduceNeg, Int.cast_ofNat_Int, *, encB, encP] | ((with_reducible refine opK_c ?_); simp -dsimp only [go_sem, ↓reduceIte, reduceCtorEq, Nat.reduceAdd, Nat.reduceMul, Nat.reduceSub, Nat.reduceLeDiff, Nat.reduceLT, Nat.reduceEqDiff, Int.reduceLE, Int.reduceLT, Int.reduceToNat, Int.reduceBEq, Int.reduceBNe, Int.reduceEq, Int.reduceAdd, Int.reduceSub, Int.reduceMul, Int.reduceNeg, Int.cast_ofNat_Int, encB, encP]; first | refine callK_r (by first | assumption | exact hf) (by first | exact .inl rfl | exact .inr rfl) ?_ | (refine callK_i (by assumption) ?_ ?_ ?_; (solve | (repeat (first | exact DLe.refl _ | exact DLe.nil _ | (refine DLe.tup ?_) | (refine DLe.agg ?_ rfl) | exact trivial | (refine And.intro ?_ ?_)))); (solve | exact .inl rfl | exact .inr rfl))) | (refine opK_M [] (hbg) ?_ ?_ ?_ ?_ ?_ ?_; (solve | rfl | simp only [go_sem, ↓reduceIte, reduceCtorEq, Nat.reduceAdd, Nat.reduceMul, Nat.reduceSub, Nat.reduceLeDiff, Nat.reduceLT, Nat.reduceEqDiff, Int.reduceLE, Int.reduceLT, Int.reduceToNat, Int.reduceBEq, Int.reduceBNe, Int.reduceEq, Int.reduceAdd, Int.reduceSub, Int.reduceMul, Int.reduceNeg, Int.cast_ofNat_Int, encB]); (solve | rfl); (solve | decide); (solve | simp); (solve | simp only [go_sem, ↓reduceIte, reduceCtorEq, Nat.reduceAdd, Nat.reduceMul, Nat.reduceSub, Nat.reduceLeDiff, Nat.reduceLT, Nat.reduceEqDiff, Int.reduceLE, Int.reduceLT, Int.reduceToNat, Int.reduceBEq, Int.reduceBNe, Int.reduceEq, Int.reduceAdd, Int.reduceSub, Int.reduceMul, Int.reduceNeg, Int.cast_ofNat_Int, lentOK, encB])) | omega | exact decide_eq_true (by omega) | exact DLe.refl _)
      rw [show R = (Bok.zero, 5) from (by rw [hR.out]; unfold giveR; rw [if_neg (by simpa using hc.out), hq.out])]
      exact (by repeat (first | exact DLe.refl _ | exact DLe.nil _ | (refine DLe.tup ?_) | (refine DLe.agg ?_ rfl) | exact trivial | (refine And.intro ?_ ?_)))
    | some p =>
      obtain ⟨pre, post, hp, rfl⟩ := poolOf_split hq
      have hbg := beginZ_m b pre post p hp hz hc
      have hzb := zipB hp
      have hf := findZ_m hbk hzb hzb.at_
      have hl32 := hbk.l32 p hzb.mem
      have hix := idxf_Lease encL_len (giveB at_) p.leases 63 [.ept (encP at_)] (by omega) (fun l _ => give1_p l at_)
      have hup := fun f => updB_split hbk.rise hp f
      unfold idxI at hix
      cases hfi : p.leases.findIdx? (giveB at_) with
      | none =>
        rw [hfi] at hix
        have hr : R = (Bok.zero, 5) := by rw [hR.out]; unfold giveR; rw [if_neg (by simpa using hc), hq]; simp only; rw [hfi]
        rw [hr]
        clear hr hup hq hp hc hfi hR hzb
        refine ps_i tab_ok mixed Try.func18 rfl Try.ntmps18 Try.results18 (by kernel_rfl) ?_
        repeat' (first | (with_reducible refine And.intro ?_ ?_) | (with_reducible refine gK_i (fun _ => ?_) (fun _ => ?_)) | (with_reducible refine condS_i (fun _ => ?_) (fun _ => ?_)) | (with_reducible refine drw_i (by kernel_rfl)) | simp -dsimp only [go_sem, ↓reduceIte, reduceCtorEq, Nat.reduceAdd, Nat.reduceMul, Nat.reduceSub, Nat.reduceLeDiff, Nat.reduceLT, Nat.reduceEqDiff, Int.reduceLE, Int.reduceLT, Int.reduceToNat, Int.reduceBEq, Int.reduceBNe, Int.reduceEq, Int.reduceAdd, Int.reduceSub, Int.reduceMul, Int.reduceNeg, Int.cast_ofNat_Int, *, encB, encP, polRow, renR_zip, zipR_get] | ((with_reducible refine opK_c ?_); simp -dsimp only [go_sem, ↓reduceIte, reduceCtorEq, Nat.reduceAdd, Nat.reduceMul, Nat.reduceSub, Nat.reduceLeDiff, Nat.reduceLT, Nat.reduceEqDiff, Int.reduceLE, Int.reduceLT, Int.reduceToNat, Int.reduceBEq, Int.reduceBNe, Int.reduceEq, Int.reduceAdd, Int.reduceSub, Int.reduceMul, Int.reduceNeg, Int.cast_ofNat_Int, encB, encP, polRow, renR_zip, zipR_get]; first | refine callK_r (by first | assumption | exact hix) (by first | exact .inl rfl | exact .inr rfl) ?_ | (refine callK_i (by assumption) ?_ ?_ ?_; (solve | (repeat (first | exact DLe.refl _ | exact DLe.nil _ | (refine DLe.tup ?_) | (refine DLe.agg ?_ rfl) | exact trivial | (refine And.intro ?_ ?_)))); (solve | exact .inl rfl | exact .inr rfl))) | (refine opK_M [] (hbg) ?_ ?_ ?_ ?_ ?_ ?_; (solve | rfl | simp only [go_sem, ↓reduceIte, reduceCtorEq, Nat.reduceAdd, Nat.reduceMul, Nat.reduceSub, Nat.reduceLeDiff, Nat.reduceLT, Nat.reduceEqDiff, Int.reduceLE, Int.reduceLT, Int.reduceToNat, Int.reduceBEq, Int.reduceBNe, Int.reduceEq, Int.reduceAdd, Int.reduceSub, Int.reduceMul, Int.reduceNeg, Int.cast_ofNat_Int, encB, polRow, renR_zip]); (solve | rfl); (solve | decide); (solve | simp); (solve | simp only [go_sem, ↓reduceIte, reduceCtorEq, Nat.reduceAdd, Nat.reduceMul, Nat.reduceSub, Nat.reduceLeDiff, Nat.reduceLT, Nat.reduceEqDiff, Int.reduceLE, Int.reduceLT, Int.reduceToNat, Int.reduceBEq, Int.reduceBNe, Int.reduceEq, Int.reduceAdd, Int.reduceSub, Int.reduceMul, Int.reduceNeg, Int.cast_ofNat_Int, lentOK, encB, polRow, renR_zip])) | (refine opK_M [5, 6, 8] (hf) ?_ ?_ ?_ ?_ ?_ ?_; (solve | rfl | simp only [go_sem, ↓reduceIte, reduceCtorEq, Nat.reduceAdd, Nat.reduceMul, Nat.reduceSub, Nat.reduceLeDiff, Nat.reduceLT, Nat.reduceEqDiff, Int.reduceLE, Int.reduceLT, Int.reduceToNat, Int.reduceBEq, Int.reduceBNe, Int.reduceEq, Int.reduceAdd, Int.reduceSub, Int.reduceMul, Int.reduceNeg, Int.cast_ofNat_Int, encP, polRow, renR_zip]); (solve | rfl); (solve | decide); (solve | simp); (solve | simp only [go_sem, ↓reduceIte, reduceCtorEq, Nat.reduceAdd, Nat.reduceMul, Nat.reduceSub, Nat.reduceLeDiff, Nat.reduceLT, Nat.reduceEqDiff, Int.reduceLE, Int.reduceLT, Int.reduceToNat, Int.reduceBEq, Int.reduceBNe, Int.reduceEq, Int.reduceAdd, Int.reduceSub, Int.reduceMul, Int.reduceNeg, Int.cast_ofNat_Int, lentOK, encP, polRow, renR_zip])) | omega | exact decide_eq_true (by omega) | exact DLe.refl _)
        exact (by repeat (first | exact DLe.refl _ | exact DLe.nil _ | (refine DLe.tup ?_) | (refine DLe.agg ?_ rfl) | exact trivial | (refine And.intro ?_ ?_)))
      | some i =>
        rw [hfi] at hix
        have hi : i < p.leases.length := (List.findIdx?_eq_some_iff_getElem.1 hfi).1
        have hcl := cool_m pre post p i b.pools.length 1 b.tick hi hl32 (rule_cool (hbk.mem p hzb.mem).2.2) hbk.tick
        have hr : R = (⟨b.tick, pre ++ { p with leases := coolL p i b.tick } :: post⟩, 0) := by rw [hR.out]; unfold giveR; rw [if_neg (by simpa using hc), hq]; simp only; rw [hfi]; simp only; rw [hup]
        have hi0 : decide ((i : Int) < 0) = false := by simp
        rw [hr]
        clear hr hup hq hp hc hfi hR hzb
        refine ps_i tab_ok mixed Try.func18 rfl Try.ntmps18 Try.results18 (by kernel_rfl) ?_
        repeat' (first | (with_reducible refine And.intro ?_ ?_) | (with_reducible refine gK_i (fun _ => ?_) (fun _ => ?_)) | (with_reducible refine condS_i (fun _ => ?_) (fun _ => ?_)) | (with_reducible refine drw_i (by kernel_rfl)) | simp -dsimp only [go_sem, ↓reduceIte, reduceCtorEq, Nat.reduceAdd, Nat.reduceMul, Nat.reduceSub, Nat.reduceLeDiff, Nat.reduceLT, Nat.reduceEqDiff, Int.reduceLE, Int.reduceLT, Int.reduceToNat, Int.reduceBEq, Int.reduceBNe, Int.reduceEq, Int.reduceAdd, Int.reduceSub, Int.reduceMul, Int.reduceNeg, Int.cast_ofNat_Int, *, encB, encP, polRow, renR_zip, zipR_get, hi0] | ((with_reducible refine opK_c ?_); simp -dsimp only [go_sem, ↓reduceIte, reduceCtorEq, Nat.reduceAdd, Nat.reduceMul, Nat.reduceSub, Nat.reduceLeDiff, Nat.reduceLT, Nat.reduceEqDiff, Int.reduceLE, Int.reduceLT, Int.reduceToNat, Int.reduceBEq, Int.reduceBNe, Int.reduceEq, Int.reduceAdd, Int.reduceSub, Int.reduceMul, Int.reduceNeg, Int.cast_ofNat_Int, encB, encP, polRow, renR_zip, zipR_get, hi0]; first | refine callK_r (by first | assumption | exact hix) (by first | exact .inl rfl | exact .inr rfl) ?_ | (refine callK_i (by assumption) ?_ ?_ ?_; (solve | (repeat (first | exact DLe.refl _ | exact DLe.nil _ | (refine DLe.tup ?_) | (refine DLe.agg ?_ rfl) | exact trivial | (refine And.intro ?_ ?_)))); (solve | exact .inl rfl | exact .inr rfl))) | (refine opK_M [] (hbg) ?_ ?_ ?_ ?_ ?_ ?_; (solve | rfl | simp only [go_sem, ↓reduceIte, reduceCtorEq, Nat.reduceAdd, Nat.reduceMul, Nat.reduceSub, Nat.reduceLeDiff, Nat.reduceLT, Nat.reduceEqDiff, Int.reduceLE, Int.reduceLT, Int.reduceToNat, Int.reduceBEq, Int.reduceBNe, Int.reduceEq, Int.reduceAdd, Int.reduceSub, Int.reduceMul, Int.reduceNeg, Int.cast_ofNat_Int, encB, polRow, renR_zip]); (solve | rfl); (solve | decide); (solve | simp); (solve | simp only [go_sem, ↓reduceIte, reduceCtorEq, Nat.reduceAdd, Nat.reduceMul, Nat.reduceSub, Nat.reduceLeDiff, Nat.reduceLT, Nat.reduceEqDiff, Int.reduceLE, Int.reduceLT, Int.reduceToNat, Int.reduceBEq, Int.reduceBNe, Int.reduceEq, Int.reduceAdd, Int.reduceSub, Int.reduceMul, Int.reduceNeg, Int.cast_ofNat_Int, lentOK, encB, polRow, renR_zip])) | (refine opK_M [5, 6, 8] (hf) ?_ ?_ ?_ ?_ ?_ ?_; (solve | rfl | simp only [go_sem, ↓reduceIte, reduceCtorEq, Nat.reduceAdd, Nat.reduceMul, Nat.reduceSub, Nat.reduceLeDiff, Nat.reduceLT, Nat.reduceEqDiff, Int.reduceLE, Int.reduceLT, Int.reduceToNat, Int.reduceBEq, Int.reduceBNe, Int.reduceEq, Int.reduceAdd, Int.reduceSub, Int.reduceMul, Int.reduceNeg, Int.cast_ofNat_Int, encP, polRow, renR_zip]); (solve | rfl); (solve | decide); (solve | simp); (solve | simp only [go_sem, ↓reduceIte, reduceCtorEq, Nat.reduceAdd, Nat.reduceMul, Nat.reduceSub, Nat.reduceLeDiff, Nat.reduceLT, Nat.reduceEqDiff, Int.reduceLE, Int.reduceLT, Int.reduceToNat, Int.reduceBEq, Int.reduceBNe, Int.reduceEq, Int.reduceAdd, Int.reduceSub, Int.reduceMul, Int.reduceNeg, Int.cast_ofNat_Int, lentOK, encP, polRow, renR_zip])) | (refine opK_M [6, 8] (hcl) ?_ ?_ ?_ ?_ ?_ ?_; (solve | rfl | simp only [go_sem, ↓reduceIte, reduceCtorEq, Nat.reduceAdd, Nat.reduceMul, Nat.reduceSub, Nat.reduceLeDiff, Nat.reduceLT, Nat.reduceEqDiff, Int.reduceLE, Int.reduceLT, Int.reduceToNat, Int.reduceBEq, Int.reduceBNe, Int.reduceEq, Int.reduceAdd, Int.reduceSub, Int.reduceMul, Int.reduceNeg, Int.cast_ofNat_Int, encP, encL, polRow, renR_zip]); (solve | rfl); (solve | decide); (solve | simp); (solve | simp only [go_sem, ↓reduceIte, reduceCtorEq, Nat.reduceAdd, Nat.reduceMul, Nat.reduceSub, Nat.reduceLeDiff, Nat.reduceLT, Nat.reduceEqDiff, Int.reduceLE, Int.reduceLT, Int.reduceToNat, Int.reduceBEq, Int.reduceBNe, Int.reduceEq, Int.reduceAdd, Int.reduceSub, Int.reduceMul, Int.reduceNeg, Int.cast_ofNat_Int, lentOK, encP, encL, polRow, renR_zip])) | omega | exact decide_eq_true (by omega) | exact DLe.refl _)
        all_goals exact (by repeat (first | exact DLe.refl _ | exact DLe.nil _ | (refine DLe.tup ?_) | (refine DLe.agg ?_ rfl) | exact trivial | (refine And.intro ?_ ?_)))
  · have hbg := beginE_p b hz hc
    have h1 : (chkBk b != 0) = true := by simpa using hc
    have hr : R = (Bok.zero, chkBk b) := by rw [hR.out]; unfold giveR; rw [if_pos hc]
    rw [hr]
    replace hr := Lib.hid hr
    refine ps_i tab_ok mixed Try.func18 rfl Try.ntmps18 Try.results18 (by kernel_rfl) ?_
    repeat' (first | (with_reducible refine And.intro ?_ ?_) | (with_reducible refine gK_i (fun _ => ?_) (fun _ => ?_)) | (with_reducible refine condS_i (fun _ => ?_) (fun _ => ?_)) | (with_reducible refine drw_i (by kernel_rfl)) | simp -dsimp only [go_sem, ↓reduceIte, reduceCtorEq, Nat.reduceAdd, Nat.reduceMul, Nat.reduceSub, Nat.reduceLeDiff, Nat.reduceLT, Nat.reduceEqDiff, Int.reduceLE, Int.reduceLT, Int.reduceToNat, Int.reduceBEq, Int.reduceBNe, Int.reduceEq, Int.reduceAdd, Int.reduceSub, Int.reduceMul, Int.reduceNeg, Int.cast_ofNat_Int, *, encB, encP, h1] | ((with_reducible refine opK_c ?_); simp -dsimp only [go_sem, ↓reduceIte, reduceCtorEq, Nat.reduceAdd, Nat.reduceMul, Nat.reduceSub, Nat.reduceLeDiff, Nat.reduceLT, Nat.reduceEqDiff, Int.reduceLE, Int.reduceLT, Int.reduceToNat, Int.reduceBEq, Int.reduceBNe, Int.reduceEq, Int.reduceAdd, Int.reduceSub, Int.reduceMul, Int.reduceNeg, Int.cast_ofNat_Int, encB, encP, h1]; first | refine callK_r (by first | assumption | exact hbg) (by first | exact .inl rfl | exact .inr rfl) ?_ | (refine callK_i (by assumption) ?_ ?_ ?_; (solve | (repeat (first | exact DLe.refl _ | exact DLe.nil _ | (refine DLe.tup ?_) | (refine DLe.agg ?_ rfl) | exact trivial | (refine And.intro ?_ ?_)))); (solve | exact .inl rfl | exact .inr rfl))) | fail | omega | exact decide_eq_true (by omega) | exact DLe.refl _)
    exact (by repeat (first | exact DLe.refl _ | exact DLe.nil _ | (refine DLe.tup ?_) | (refine DLe.agg ?_ rfl) | exact trivial | (refine And.intro ?_ ?_)))
/-- Nest's answer. -/
def nestR (b : Bok) (id up size : Int) (r : Rul) : Bok × Pfx × Int :=
  if chkBk b ≠ 0 then (Bok.zero, Pfx.zero, chkBk b) else
  if idOK id = false then (Bok.zero, Pfx.zero, 3) else
  match poolOf b up with
  | none => (Bok.zero, Pfx.zero, 5)
  | some p =>
    if (poolOf b id).isSome = true then (Bok.zero, Pfx.zero, 6) else
    if (fitE p size).2 ≠ 0 then (Bok.zero, Pfx.zero, (fitE p size).2) else
    if ruleOK r (fitE p size).1.len = false then (Bok.zero, Pfx.zero, 1) else
    if b.pools.length = 8 then (Bok.zero, Pfx.zero, 2) else
    (⟨b.tick, insB ⟨id, up, (fitE p size).1, r, []⟩ (updB b up fun p => { p with leases := insL ⟨(fitE p size).1, 2, id, 0⟩ p.leases }).pools⟩, (fitE p size).1, 0)
theorem rise_upd {pre post : List Pol} {p q : Pol} (h : Rise (pre ++ p :: post)) (hq : q.id = p.id) : Rise (pre ++ q :: post) := by
  unfold Rise at h ⊢
  rw [List.pairwise_append, List.pairwise_cons] at h ⊢
  obtain ⟨h1, ⟨h2, h3⟩, h4⟩ := h
  refine ⟨h1, ⟨fun a ha => by rw [hq]; exact h2 a ha, h3⟩, fun a ha c hc => ?_⟩
  rcases List.mem_cons.1 hc with rfl | hc
  · rw [hq]; exact h4 a ha p (by simp)
  · exact h4 a ha c (by simp [hc])
set_option maxRecDepth 100000 in
set_option maxHeartbeats 1000000 in
theorem nest_p (b : Bok) (id up size : Int) (r : Rul) (hz : ∀ p ∈ b.pools, p.leases.length ≤ 3518437208882) : PSpec Try.prog 10 [.agg (encB b), .v (.int .i64 id), .v (.int .i64 up), .v (.int .i64 size), .agg (encR r)] (.tup [.agg (encB (nestR b id up size r).1), .agg (encP (nestR b id up size r).2.1), .v (.int .i64 (nestR b id up size r).2.2)]) := by
  obtain ⟨R, hR⟩ : ∃ R, R = nestR b id up size r := ⟨_, rfl⟩
  rw [← hR]
  replace hR := Lib.hid hR
  by_cases hc : chkBk b = 0
  · have hbk := bookOK hc
    have hid := ids_p id
    cases hio : idOK id with
    | false =>
      rw [hio] at hid
      have hbg := beginD_m b hz hc
      have hr : R = (Bok.zero, Pfx.zero, 3) := by rw [hR.out]; unfold nestR; rw [if_neg (by simpa using hc), if_pos hio]
      rw [hr]
      clear hr hR hc hio
      refine ps_i tab_ok mixed Try.func10 rfl Try.ntmps10 Try.results10 (by kernel_rfl) ?_
      repeat' (first | (with_reducible refine And.intro ?_ ?_) | (with_reducible refine gK_i (fun _ => ?_) (fun _ => ?_)) | (with_reducible refine condS_i (fun _ => ?_) (fun _ => ?_)) | (with_reducible refine drw_i (by kernel_rfl)) | simp -dsimp only [go_sem, ↓reduceIte, reduceCtorEq, Nat.reduceAdd, Nat.reduceMul, Nat.reduceSub, Nat.reduceLeDiff, Nat.reduceLT, Nat.reduceEqDiff, Int.reduceLE, Int.reduceLT, Int.reduceToNat, Int.reduceBEq, Int.reduceBNe, Int.reduceEq, Int.reduceAdd, Int.reduceSub, Int.reduceMul, Int.reduceNeg, Int.cast_ofNat_Int, *, encB, encP, encR] | ((with_reducible refine opK_c ?_); simp -dsimp only [go_sem, ↓reduceIte, reduceCtorEq, Nat.reduceAdd, Nat.reduceMul, Nat.reduceSub, Nat.reduceLeDiff, Nat.reduceLT, Nat.reduceEqDiff, Int.reduceLE, Int.reduceLT, Int.reduceToNat, Int.reduceBEq, Int.reduceBNe, Int.reduceEq, Int.reduceAdd, Int.reduceSub, Int.reduceMul, Int.reduceNeg, Int.cast_ofNat_Int, encB, encP, encR]; first | refine callK_r (by first | assumption | exact hid) (by first | exact .inl rfl | exact .inr rfl) ?_ | (refine callK_i (by assumption) ?_ ?_ ?_; (solve | (repeat (first | exact DLe.refl _ | exact DLe.nil _ | (refine DLe.tup ?_) | (refine DLe.agg ?_ rfl) | exact trivial | (refine And.intro ?_ ?_)))); (solve | exact .inl rfl | exact .inr rfl))) | (refine opK_M [] (hbg) ?_ ?_ ?_ ?_ ?_ ?_; (solve | rfl | simp only [go_sem, ↓reduceIte, reduceCtorEq, Nat.reduceAdd, Nat.reduceMul, Nat.reduceSub, Nat.reduceLeDiff, Nat.reduceLT, Nat.reduceEqDiff, Int.reduceLE, Int.reduceLT, Int.reduceToNat, Int.reduceBEq, Int.reduceBNe, Int.reduceEq, Int.reduceAdd, Int.reduceSub, Int.reduceMul, Int.reduceNeg, Int.cast_ofNat_Int, encB]); (solve | rfl); (solve | decide); (solve | simp); (solve | simp only [go_sem, ↓reduceIte, reduceCtorEq, Nat.reduceAdd, Nat.reduceMul, Nat.reduceSub, Nat.reduceLeDiff, Nat.reduceLT, Nat.reduceEqDiff, Int.reduceLE, Int.reduceLT, Int.reduceToNat, Int.reduceBEq, Int.reduceBNe, Int.reduceEq, Int.reduceAdd, Int.reduceSub, Int.reduceMul, Int.reduceNeg, Int.cast_ofNat_Int, lentOK, encB])) | omega | exact decide_eq_true (by omega) | exact DLe.refl _)
      exact (by repeat (first | exact DLe.refl _ | exact DLe.nil _ | (refine DLe.tup ?_) | (refine DLe.agg ?_ rfl) | exact trivial | (refine And.intro ?_ ?_)))
    | true =>
      rw [hio] at hid
      cases hq : poolOf b up with
      | none =>
        have hbg := beginD_m b hz hc
        have hf := find_p b up (by have := hbk.n8; omega) hbk.rise
        unfold findR at hf
        rw [hq] at hf
        have hr : R = (Bok.zero, Pfx.zero, 5) := by rw [hR.out]; unfold nestR; rw [if_neg (by simpa using hc), if_neg (by simp [hio]), hq]
        rw [hr]
        clear hr hR hc hio hq
        refine ps_i tab_ok mixed Try.func10 rfl Try.ntmps10 Try.results10 (by kernel_rfl) ?_
        repeat' (first | (with_reducible refine And.intro ?_ ?_) | (with_reducible refine gK_i (fun _ => ?_) (fun _ => ?_)) | (with_reducible refine condS_i (fun _ => ?_) (fun _ => ?_)) | (with_reducible refine drw_i (by kernel_rfl)) | simp -dsimp only [go_sem, ↓reduceIte, reduceCtorEq, Nat.reduceAdd, Nat.reduceMul, Nat.reduceSub, Nat.reduceLeDiff, Nat.reduceLT, Nat.reduceEqDiff, Int.reduceLE, Int.reduceLT, Int.reduceToNat, Int.reduceBEq, Int.reduceBNe, Int.reduceEq, Int.reduceAdd, Int.reduceSub, Int.reduceMul, Int.reduceNeg, Int.cast_ofNat_Int, *, encB, encP, encR] | ((with_reducible refine opK_c ?_); simp -dsimp only [go_sem, ↓reduceIte, reduceCtorEq, Nat.reduceAdd, Nat.reduceMul, Nat.reduceSub, Nat.reduceLeDiff, Nat.reduceLT, Nat.reduceEqDiff, Int.reduceLE, Int.reduceLT, Int.reduceToNat, Int.reduceBEq, Int.reduceBNe, Int.reduceEq, Int.reduceAdd, Int.reduceSub, Int.reduceMul, Int.reduceNeg, Int.cast_ofNat_Int, encB, encP, encR]; first | refine callK_r (by first | assumption | exact hid | exact hf) (by first | exact .inl rfl | exact .inr rfl) ?_ | (refine callK_i (by assumption) ?_ ?_ ?_; (solve | (repeat (first | exact DLe.refl _ | exact DLe.nil _ | (refine DLe.tup ?_) | (refine DLe.agg ?_ rfl) | exact trivial | (refine And.intro ?_ ?_)))); (solve | exact .inl rfl | exact .inr rfl))) | (refine opK_M [] (hbg) ?_ ?_ ?_ ?_ ?_ ?_; (solve | rfl | simp only [go_sem, ↓reduceIte, reduceCtorEq, Nat.reduceAdd, Nat.reduceMul, Nat.reduceSub, Nat.reduceLeDiff, Nat.reduceLT, Nat.reduceEqDiff, Int.reduceLE, Int.reduceLT, Int.reduceToNat, Int.reduceBEq, Int.reduceBNe, Int.reduceEq, Int.reduceAdd, Int.reduceSub, Int.reduceMul, Int.reduceNeg, Int.cast_ofNat_Int, encB]); (solve | rfl); (solve | decide); (solve | simp); (solve | simp only [go_sem, ↓reduceIte, reduceCtorEq, Nat.reduceAdd, Nat.reduceMul, Nat.reduceSub, Nat.reduceLeDiff, Nat.reduceLT, Nat.reduceEqDiff, Int.reduceLE, Int.reduceLT, Int.reduceToNat, Int.reduceBEq, Int.reduceBNe, Int.reduceEq, Int.reduceAdd, Int.reduceSub, Int.reduceMul, Int.reduceNeg, Int.cast_ofNat_Int, lentOK, encB])) | omega | exact decide_eq_true (by omega) | exact DLe.refl _)
        exact (by repeat (first | exact DLe.refl _ | exact DLe.nil _ | (refine DLe.tup ?_) | (refine DLe.agg ?_ rfl) | exact trivial | (refine And.intro ?_ ?_)))
      | some p =>
        obtain ⟨pre, post, hp, rfl⟩ := poolOf_split hq
        have hbg := beginZ_m b pre post p hp hz hc
        have hzb := zipB hp
        have hf := findZ_m hbk hzb hzb.at_
        have hl32 := hbk.l32 p hzb.mem
        have hup := fun f => updB_split hbk.rise hp f
        have hR2 : R = if (poolOf b id).isSome = true then (Bok.zero, Pfx.zero, 6) else if (fitE p size).2 ≠ 0 then (Bok.zero, Pfx.zero, (fitE p size).2) else if ruleOK r (fitE p size).1.len = false then (Bok.zero, Pfx.zero, 1) else
            if b.pools.length = 8 then (Bok.zero, Pfx.zero, 2) else (⟨b.tick, insB ⟨id, p.id, (fitE p size).1, r, []⟩ (pre ++ { p with leases := insL ⟨(fitE p size).1, 2, id, 0⟩ p.leases } :: post)⟩, (fitE p size).1, 0) := by
          rw [hR.out]
          unfold nestR
          rw [if_neg (by simpa using hc), if_neg (by simp [hio]), hq]
          simp only
          rw [hup]
        cases hq2 : poolOf b id with
        | some q =>
          obtain ⟨i, hqi, he⟩ := poolOf_some hq2
          have hf2 := findZ_m hbk hzb hqi
          rw [he] at hf2
          have hr : R = (Bok.zero, Pfx.zero, 6) := by rw [hR2, hq2]; rfl
          rw [hr]
          clear hr hR hR2 hc hio hq hq2 hp hup hzb hqi he
          refine ps_i tab_ok mixed Try.func10 rfl Try.ntmps10 Try.results10 (by kernel_rfl) ?_
          repeat' (first | (with_reducible refine And.intro ?_ ?_) | (with_reducible refine gK_i (fun _ => ?_) (fun _ => ?_)) | (with_reducible refine condS_i (fun _ => ?_) (fun _ => ?_)) | (with_reducible refine drw_i (by kernel_rfl)) | simp -dsimp only [go_sem, ↓reduceIte, reduceCtorEq, Nat.reduceAdd, Nat.reduceMul, Nat.reduceSub, Nat.reduceLeDiff, Nat.reduceLT, Nat.reduceEqDiff, Int.reduceLE, Int.reduceLT, Int.reduceToNat, Int.reduceBEq, Int.reduceBNe, Int.reduceEq, Int.reduceAdd, Int.reduceSub, Int.reduceMul, Int.reduceNeg, Int.cast_ofNat_Int, *, encB, encP, encR, polRow, renR_zip, zipR_get] | ((with_reducible refine opK_c ?_); simp -dsimp only [go_sem, ↓reduceIte, reduceCtorEq, Nat.reduceAdd, Nat.reduceMul, Nat.reduceSub, Nat.reduceLeDiff, Nat.reduceLT, Nat.reduceEqDiff, Int.reduceLE, Int.reduceLT, Int.reduceToNat, Int.reduceBEq, Int.reduceBNe, Int.reduceEq, Int.reduceAdd, Int.reduceSub, Int.reduceMul, Int.reduceNeg, Int.cast_ofNat_Int, encB, encP, encR, polRow, renR_zip, zipR_get]; first | refine callK_r (by first | assumption | exact hid) (by first | exact .inl rfl | exact .inr rfl) ?_ | (refine callK_i (by assumption) ?_ ?_ ?_; (solve | (repeat (first | exact DLe.refl _ | exact DLe.nil _ | (refine DLe.tup ?_) | (refine DLe.agg ?_ rfl) | exact trivial | (refine And.intro ?_ ?_)))); (solve | exact .inl rfl | exact .inr rfl))) | (refine opK_M [] (hbg) ?_ ?_ ?_ ?_ ?_ ?_; (solve | rfl | simp only [go_sem, ↓reduceIte, reduceCtorEq, Nat.reduceAdd, Nat.reduceMul, Nat.reduceSub, Nat.reduceLeDiff, Nat.reduceLT, Nat.reduceEqDiff, Int.reduceLE, Int.reduceLT, Int.reduceToNat, Int.reduceBEq, Int.reduceBNe, Int.reduceEq, Int.reduceAdd, Int.reduceSub, Int.reduceMul, Int.reduceNeg, Int.cast_ofNat_Int, encB, polRow, renR_zip]); (solve | rfl); (solve | decide); (solve | simp); (solve | simp only [go_sem, ↓reduceIte, reduceCtorEq, Nat.reduceAdd, Nat.reduceMul, Nat.reduceSub, Nat.reduceLeDiff, Nat.reduceLT, Nat.reduceEqDiff, Int.reduceLE, Int.reduceLT, Int.reduceToNat, Int.reduceBEq, Int.reduceBNe, Int.reduceEq, Int.reduceAdd, Int.reduceSub, Int.reduceMul, Int.reduceNeg, Int.cast_ofNat_Int, lentOK, encB, polRow, renR_zip])) | (refine opK_M [6, 7, 9] (hf) ?_ ?_ ?_ ?_ ?_ ?_; (solve | rfl | simp only [go_sem, ↓reduceIte, reduceCtorEq, Nat.reduceAdd, Nat.reduceMul, Nat.reduceSub, Nat.reduceLeDiff, Nat.reduceLT, Nat.reduceEqDiff, Int.reduceLE, Int.reduceLT, Int.reduceToNat, Int.reduceBEq, Int.reduceBNe, Int.reduceEq, Int.reduceAdd, Int.reduceSub, Int.reduceMul, Int.reduceNeg, Int.cast_ofNat_Int, encP, polRow, renR_zip]); (solve | rfl); (solve | decide); (solve | simp); (solve | simp only [go_sem, ↓reduceIte, reduceCtorEq, Nat.reduceAdd, Nat.reduceMul, Nat.reduceSub, Nat.reduceLeDiff, Nat.reduceLT, Nat.reduceEqDiff, Int.reduceLE, Int.reduceLT, Int.reduceToNat, Int.reduceBEq, Int.reduceBNe, Int.reduceEq, Int.reduceAdd, Int.reduceSub, Int.reduceMul, Int.reduceNeg, Int.cast_ofNat_Int, lentOK, encP, polRow, renR_zip])) | (refine opK_M [6, 7, 9] (hf2) ?_ ?_ ?_ ?_ ?_ ?_; (solve | rfl | simp only [go_sem, ↓reduceIte, reduceCtorEq, Nat.reduceAdd, Nat.reduceMul, Nat.reduceSub, Nat.reduceLeDiff, Nat.reduceLT, Nat.reduceEqDiff, Int.reduceLE, Int.reduceLT, Int.reduceToNat, Int.reduceBEq, Int.reduceBNe, Int.reduceEq, Int.reduceAdd, Int.reduceSub, Int.reduceMul, Int.reduceNeg, Int.cast_ofNat_Int, encP, polRow, renR_zip]); (solve | rfl); (solve | decide); (solve | simp); (solve | simp only [go_sem, ↓reduceIte, reduceCtorEq, Nat.reduceAdd, Nat.reduceMul, Nat.reduceSub, Nat.reduceLeDiff, Nat.reduceLT, Nat.reduceEqDiff, Int.reduceLE, Int.reduceLT, Int.reduceToNat, Int.reduceBEq, Int.reduceBNe, Int.reduceEq, Int.reduceAdd, Int.reduceSub, Int.reduceMul, Int.reduceNeg, Int.cast_ofNat_Int, lentOK, encP, polRow, renR_zip])) | omega | exact decide_eq_true (by omega) | exact DLe.refl _)
          all_goals exact (by repeat (first | exact DLe.refl _ | exact DLe.nil _ | (refine DLe.tup ?_) | (refine DLe.agg ?_ rfl) | exact trivial | (refine And.intro ?_ ?_)))
        | none =>
          have hf2 := find_p b id (by have := hbk.n8; omega) hbk.rise
          unfold findR at hf2
          rw [hq2] at hf2
          have hft := fit_p p size hl32
          have hru := rule_p r (fitE p size).1
          have hlt := let_m pre post p ⟨(fitE p size).1, 2, id, 0⟩ b.pools.length 1 hl32 (lease_rise (hbk.mem p hzb.mem).2.1)
          have hb8 : (pre ++ { p with leases := insL ⟨(fitE p size).1, 2, id, 0⟩ p.leases } :: post).length ≤ 8 := by
            have := hbk.n8
            rw [hp] at this
            simpa using this
          have hlen : (pre ++ { p with leases := insL ⟨(fitE p size).1, 2, id, 0⟩ p.leases } :: post).length = b.pools.length := by rw [hp]; simp
          have hrs : Rise (pre ++ { p with leases := insL ⟨(fitE p size).1, 2, id, 0⟩ p.leases } :: post) := by
            have := hbk.rise
            rw [hp] at this
            exact rise_upd this rfl
          have hpt := (put_m _ ⟨id, p.id, (fitE p size).1, r, []⟩ b.pools.length (.v (.int .i64 b.tick)) hb8 hrs rfl).lep (args' := [.ptr 0 0, .d (.agg [.v (.int .i64 id), .v (.int .i64 p.id), .v (.int .i64 (fitE p size).1.at_), .v (.int .i64 (fitE p size).1.len), .v (.int .i64 r.min), .v (.int .i64 r.max), .v (.int .i64 r.usual), .v (.int .i64 r.cool), .v (.slice none 0 0)])]) ⟨.inl rfl, .inr ⟨_, _, rfl, rfl, (by repeat (first | exact DLe.refl _ | exact DLe.nil _ | (refine DLe.tup ?_) | (refine DLe.agg ?_ rfl) | exact trivial | (refine And.intro ?_ ?_)))⟩, trivial⟩ rfl
          have hR3 : Hid (R = if (fitE p size).2 ≠ 0 then (Bok.zero, Pfx.zero, (fitE p size).2) else if ruleOK r (fitE p size).1.len = false then (Bok.zero, Pfx.zero, 1) else
            if b.pools.length = 8 then (Bok.zero, Pfx.zero, 2) else (⟨b.tick, insB ⟨id, p.id, (fitE p size).1, r, []⟩ (pre ++ { p with leases := insL ⟨(fitE p size).1, 2, id, 0⟩ p.leases } :: post)⟩, (fitE p size).1, 0)) := by
            show R = _
            rw [hR2, hq2]; rfl
          have hvq : viewR (viewF (hatL [.gone]) 0) [] = some [] := rfl
          clear hR hR2 hc hio hq hq2 hup hb8 hrs hvq hlen
          have hR2 := hR3
          clear hR3
          have hpeq := Lib.hid hp
          have hvw := hzb.view
          simp only [viewR_zip, polRow, viewL, viewF, hatL, viewR_d, if_true, Option.map_some] at hvw
          clear hzb
          have he : encB b = [.v (.int .i64 b.tick), .sl 9 (List.map encPol pre ++ encPol p :: List.map encPol post)] := by unfold encB; rw [hp, List.map_append, List.map_cons]
          rw [he] at hf2
          have hzl : ∀ r, (zipR pre r post).length = b.pools.length := fun r => by rw [zipR_len, hp]; simp; omega
          clear hp hvw he
          refine ps_i tab_ok mixed Try.func10 rfl Try.ntmps10 Try.results10 (by kernel_rfl) ?_
          repeat' (first | (with_reducible refine And.intro ?_ ?_) | (with_reducible refine gK_i (fun _ => ?_) (fun _ => ?_)) | (with_reducible refine condS_i (fun _ => ?_) (fun _ => ?_)) | (with_reducible refine drw_i (by kernel_rfl)) | simp -dsimp only [go_sem, ↓reduceIte, reduceCtorEq, Nat.reduceAdd, Nat.reduceMul, Nat.reduceSub, Nat.reduceLeDiff, Nat.reduceLT, Nat.reduceEqDiff, Int.reduceLE, Int.reduceLT, Int.reduceToNat, Int.reduceBEq, Int.reduceBNe, Int.reduceEq, Int.reduceAdd, Int.reduceSub, Int.reduceMul, Int.reduceNeg, Int.cast_ofNat_Int, *, encB, encP, encR, encL, polRow, renR_zip, zipR_get, viewR_zip, hzl] | ((with_reducible refine opK_c ?_); simp -dsimp only [go_sem, ↓reduceIte, reduceCtorEq, Nat.reduceAdd, Nat.reduceMul, Nat.reduceSub, Nat.reduceLeDiff, Nat.reduceLT, Nat.reduceEqDiff, Int.reduceLE, Int.reduceLT, Int.reduceToNat, Int.reduceBEq, Int.reduceBNe, Int.reduceEq, Int.reduceAdd, Int.reduceSub, Int.reduceMul, Int.reduceNeg, Int.cast_ofNat_Int, encB, encP, encR, encL, polRow, renR_zip, zipR_get, viewR_zip, hzl]; first | refine callK_r (by first | assumption | exact hid | exact hf2 | exact hft | exact hru) (by first | exact .inl rfl | exact .inr rfl) ?_ | (refine callK_i (by assumption) ?_ ?_ ?_; (solve | (repeat (first | exact DLe.refl _ | exact DLe.nil _ | (refine DLe.tup ?_) | (refine DLe.agg ?_ rfl) | exact trivial | (refine And.intro ?_ ?_)))); (solve | exact .inl rfl | exact .inr rfl))) | (refine opK_M [] (hbg) ?_ ?_ ?_ ?_ ?_ ?_; (solve | rfl | simp only [go_sem, ↓reduceIte, reduceCtorEq, Nat.reduceAdd, Nat.reduceMul, Nat.reduceSub, Nat.reduceLeDiff, Nat.reduceLT, Nat.reduceEqDiff, Int.reduceLE, Int.reduceLT, Int.reduceToNat, Int.reduceBEq, Int.reduceBNe, Int.reduceEq, Int.reduceAdd, Int.reduceSub, Int.reduceMul, Int.reduceNeg, Int.cast_ofNat_Int, encB, polRow, renR_zip]); (solve | rfl); (solve | decide); (solve | simp); (solve | simp only [go_sem, ↓reduceIte, reduceCtorEq, Nat.reduceAdd, Nat.reduceMul, Nat.reduceSub, Nat.reduceLeDiff, Nat.reduceLT, Nat.reduceEqDiff, Int.reduceLE, Int.reduceLT, Int.reduceToNat, Int.reduceBEq, Int.reduceBNe, Int.reduceEq, Int.reduceAdd, Int.reduceSub, Int.reduceMul, Int.reduceNeg, Int.cast_ofNat_Int, lentOK, encB, polRow, renR_zip])) | (refine opK_M [6, 7, 9] (hf) ?_ ?_ ?_ ?_ ?_ ?_; (solve | rfl | simp only [go_sem, ↓reduceIte, reduceCtorEq, Nat.reduceAdd, Nat.reduceMul, Nat.reduceSub, Nat.reduceLeDiff, Nat.reduceLT, Nat.reduceEqDiff, Int.reduceLE, Int.reduceLT, Int.reduceToNat, Int.reduceBEq, Int.reduceBNe, Int.reduceEq, Int.reduceAdd, Int.reduceSub, Int.reduceMul, Int.reduceNeg, Int.cast_ofNat_Int, encP, polRow, renR_zip]); (solve | rfl); (solve | decide); (solve | simp); (solve | simp only [go_sem, ↓reduceIte, reduceCtorEq, Nat.reduceAdd, Nat.reduceMul, Nat.reduceSub, Nat.reduceLeDiff, Nat.reduceLT, Nat.reduceEqDiff, Int.reduceLE, Int.reduceLT, Int.reduceToNat, Int.reduceBEq, Int.reduceBNe, Int.reduceEq, Int.reduceAdd, Int.reduceSub, Int.reduceMul, Int.reduceNeg, Int.cast_ofNat_Int, lentOK, encP, polRow, renR_zip])) | (refine opK_M [7, 9] (hlt) ?_ ?_ ?_ ?_ ?_ ?_; (solve | rfl | simp only [go_sem, ↓reduceIte, reduceCtorEq, Nat.reduceAdd, Nat.reduceMul, Nat.reduceSub, Nat.reduceLeDiff, Nat.reduceLT, Nat.reduceEqDiff, Int.reduceLE, Int.reduceLT, Int.reduceToNat, Int.reduceBEq, Int.reduceBNe, Int.reduceEq, Int.reduceAdd, Int.reduceSub, Int.reduceMul, Int.reduceNeg, Int.cast_ofNat_Int, encP, encL, polRow, renR_zip]); (solve | rfl); (solve | decide); (solve | simp); (solve | simp only [go_sem, ↓reduceIte, reduceCtorEq, Nat.reduceAdd, Nat.reduceMul, Nat.reduceSub, Nat.reduceLeDiff, Nat.reduceLT, Nat.reduceEqDiff, Int.reduceLE, Int.reduceLT, Int.reduceToNat, Int.reduceBEq, Int.reduceBNe, Int.reduceEq, Int.reduceAdd, Int.reduceSub, Int.reduceMul, Int.reduceNeg, Int.cast_ofNat_Int, lentOK, encP, encL, polRow, renR_zip])) | (refine opK_M [6, 7] (hpt) ?_ ?_ ?_ ?_ ?_ ?_; (solve | rfl | simp only [go_sem, ↓reduceIte, reduceCtorEq, Nat.reduceAdd, Nat.reduceMul, Nat.reduceSub, Nat.reduceLeDiff, Nat.reduceLT, Nat.reduceEqDiff, Int.reduceLE, Int.reduceLT, Int.reduceToNat, Int.reduceBEq, Int.reduceBNe, Int.reduceEq, Int.reduceAdd, Int.reduceSub, Int.reduceMul, Int.reduceNeg, Int.cast_ofNat_Int, encP]); (solve | rfl); (solve | decide); (solve | simp); (solve | simp only [go_sem, ↓reduceIte, reduceCtorEq, Nat.reduceAdd, Nat.reduceMul, Nat.reduceSub, Nat.reduceLeDiff, Nat.reduceLT, Nat.reduceEqDiff, Int.reduceLE, Int.reduceLT, Int.reduceToNat, Int.reduceBEq, Int.reduceBNe, Int.reduceEq, Int.reduceAdd, Int.reduceSub, Int.reduceMul, Int.reduceNeg, Int.cast_ofNat_Int, lentOK, encP])) | omega | exact decide_eq_true (by omega) | exact DLe.refl _)
          all_goals clear hf hf2 hid hft hru hlt hpt hbg hz
          all_goals first
            | (rw [show R = (Bok.zero, Pfx.zero, (fitE p size).2) from (by rw [hR2.out]; grind)]; (try simp only [List.map_append, List.map_cons]); exact (by repeat (first | exact DLe.refl _ | exact DLe.nil _ | (refine DLe.tup ?_) | (refine DLe.agg ?_ rfl) | exact trivial | (refine And.intro ?_ ?_))))
            | (rw [show R = (Bok.zero, Pfx.zero, 1) from (by rw [hR2.out]; grind)]; (try simp only [List.map_append, List.map_cons]); exact (by repeat (first | exact DLe.refl _ | exact DLe.nil _ | (refine DLe.tup ?_) | (refine DLe.agg ?_ rfl) | exact trivial | (refine And.intro ?_ ?_))))
            | (rw [show R = (Bok.zero, Pfx.zero, 2) from (by rw [hR2.out]; grind)]; (try simp only [List.map_append, List.map_cons]); exact (by repeat (first | exact DLe.refl _ | exact DLe.nil _ | (refine DLe.tup ?_) | (refine DLe.agg ?_ rfl) | exact trivial | (refine And.intro ?_ ?_))))
            | (rw [show R = (⟨b.tick, insB ⟨id, p.id, (fitE p size).1, r, []⟩ (pre ++ { p with leases := insL ⟨(fitE p size).1, 2, id, 0⟩ p.leases } :: post)⟩, (fitE p size).1, 0) from (by rw [hR2.out]; grind)]; (try simp only [List.map_append, List.map_cons]); exact (by repeat (first | exact DLe.refl _ | exact DLe.nil _ | (refine DLe.tup ?_) | (refine DLe.agg ?_ rfl) | exact trivial | (refine And.intro ?_ ?_))))
  · have hbg := beginE_p b hz hc
    have h1 : (chkBk b != 0) = true := by simpa using hc
    have hr : R = (Bok.zero, Pfx.zero, chkBk b) := by rw [hR.out]; unfold nestR; rw [if_pos hc]
    rw [hr]
    replace hr := Lib.hid hr
    refine ps_i tab_ok mixed Try.func10 rfl Try.ntmps10 Try.results10 (by kernel_rfl) ?_
    repeat' (first | (with_reducible refine And.intro ?_ ?_) | (with_reducible refine gK_i (fun _ => ?_) (fun _ => ?_)) | (with_reducible refine condS_i (fun _ => ?_) (fun _ => ?_)) | (with_reducible refine drw_i (by kernel_rfl)) | simp -dsimp only [go_sem, ↓reduceIte, reduceCtorEq, Nat.reduceAdd, Nat.reduceMul, Nat.reduceSub, Nat.reduceLeDiff, Nat.reduceLT, Nat.reduceEqDiff, Int.reduceLE, Int.reduceLT, Int.reduceToNat, Int.reduceBEq, Int.reduceBNe, Int.reduceEq, Int.reduceAdd, Int.reduceSub, Int.reduceMul, Int.reduceNeg, Int.cast_ofNat_Int, *, encB, encP, encR, h1] | ((with_reducible refine opK_c ?_); simp -dsimp only [go_sem, ↓reduceIte, reduceCtorEq, Nat.reduceAdd, Nat.reduceMul, Nat.reduceSub, Nat.reduceLeDiff, Nat.reduceLT, Nat.reduceEqDiff, Int.reduceLE, Int.reduceLT, Int.reduceToNat, Int.reduceBEq, Int.reduceBNe, Int.reduceEq, Int.reduceAdd, Int.reduceSub, Int.reduceMul, Int.reduceNeg, Int.cast_ofNat_Int, encB, encP, encR, h1]; first | refine callK_r (by first | assumption | exact hbg) (by first | exact .inl rfl | exact .inr rfl) ?_ | (refine callK_i (by assumption) ?_ ?_ ?_; (solve | (repeat (first | exact DLe.refl _ | exact DLe.nil _ | (refine DLe.tup ?_) | (refine DLe.agg ?_ rfl) | exact trivial | (refine And.intro ?_ ?_)))); (solve | exact .inl rfl | exact .inr rfl))) | fail | omega | exact decide_eq_true (by omega) | exact DLe.refl _)
    exact (by repeat (first | exact DLe.refl _ | exact DLe.nil _ | (refine DLe.tup ?_) | (refine DLe.agg ?_ rfl) | exact trivial | (refine And.intro ?_ ?_)))
end Go.Proofs.Ytbeocackphfijaa
namespace Go.Proofs.Ytbeocackphfijaa
open Go Go.RowKit
theorem close1_p (l : Lse) : PSpec Try.prog 67 [.agg (encL l)] (.v (.bool (l.kind != 3))) := by
  refine ps_i tab_ok mixed Try.func67 rfl Try.ntmps67 Try.results67 (by kernel_rfl) ?_
  repeat' (first | (with_reducible refine And.intro ?_ ?_) | (with_reducible refine gK_i (fun _ => ?_) (fun _ => ?_)) | (with_reducible refine condS_i (fun _ => ?_) (fun _ => ?_)) | (with_reducible refine drw_i (by kernel_rfl)) | simp -dsimp only [go_sem, ↓reduceIte, reduceCtorEq, Nat.reduceAdd, Nat.reduceMul, Nat.reduceSub, Nat.reduceLeDiff, Nat.reduceLT, Nat.reduceEqDiff, Int.reduceLE, Int.reduceLT, Int.reduceToNat, Int.reduceBEq, Int.reduceBNe, Int.reduceEq, Int.reduceAdd, Int.reduceSub, Int.reduceMul, Int.reduceNeg, Int.cast_ofNat_Int, *, encL] | ((with_reducible refine opK_c ?_); simp -dsimp only [go_sem, ↓reduceIte, reduceCtorEq, Nat.reduceAdd, Nat.reduceMul, Nat.reduceSub, Nat.reduceLeDiff, Nat.reduceLT, Nat.reduceEqDiff, Int.reduceLE, Int.reduceLT, Int.reduceToNat, Int.reduceBEq, Int.reduceBNe, Int.reduceEq, Int.reduceAdd, Int.reduceSub, Int.reduceMul, Int.reduceNeg, Int.cast_ofNat_Int, encL]; first | refine callK_r (by first | assumption | fail) (by first | exact .inl rfl | exact .inr rfl) ?_ | (refine callK_i (by assumption) ?_ ?_ ?_; (solve | (repeat (first | exact DLe.refl _ | exact DLe.nil _ | (refine DLe.tup ?_) | (refine DLe.agg ?_ rfl) | exact trivial | (refine And.intro ?_ ?_)))); (solve | exact .inl rfl | exact .inr rfl))) | fail | omega | exact decide_eq_true (by omega) | exact DLe.refl _)
theorem close2_p (l : Lse) (id : Int) : PSpec Try.prog 68 [.agg (encL l), .ept [.v (.int .i64 id)]] (.v (.bool (forB id l))) := by
  unfold forB
  refine ps_i tab_ok mixed Try.func68 rfl Try.ntmps68 Try.results68 (by kernel_rfl) ?_
  repeat' (first | (with_reducible refine And.intro ?_ ?_) | (with_reducible refine gK_i (fun _ => ?_) (fun _ => ?_)) | (with_reducible refine condS_i (fun _ => ?_) (fun _ => ?_)) | (with_reducible refine drw_i (by kernel_rfl)) | simp -dsimp only [go_sem, ↓reduceIte, reduceCtorEq, Nat.reduceAdd, Nat.reduceMul, Nat.reduceSub, Nat.reduceLeDiff, Nat.reduceLT, Nat.reduceEqDiff, Int.reduceLE, Int.reduceLT, Int.reduceToNat, Int.reduceBEq, Int.reduceBNe, Int.reduceEq, Int.reduceAdd, Int.reduceSub, Int.reduceMul, Int.reduceNeg, Int.cast_ofNat_Int, *, encL] | ((with_reducible refine opK_c ?_); simp -dsimp only [go_sem, ↓reduceIte, reduceCtorEq, Nat.reduceAdd, Nat.reduceMul, Nat.reduceSub, Nat.reduceLeDiff, Nat.reduceLT, Nat.reduceEqDiff, Int.reduceLE, Int.reduceLT, Int.reduceToNat, Int.reduceBEq, Int.reduceBNe, Int.reduceEq, Int.reduceAdd, Int.reduceSub, Int.reduceMul, Int.reduceNeg, Int.cast_ofNat_Int, encL]; first | refine callK_r (by first | assumption | fail) (by first | exact .inl rfl | exact .inr rfl) ?_ | (refine callK_i (by assumption) ?_ ?_ ?_; (solve | (repeat (first | exact DLe.refl _ | exact DLe.nil _ | (refine DLe.tup ?_) | (refine DLe.agg ?_ rfl) | exact trivial | (refine And.intro ?_ ?_)))); (solve | exact .inl rfl | exact .inr rfl))) | fail | omega | exact decide_eq_true (by omega) | exact DLe.refl _)
theorem close3_p (p : Pol) (id : Int) : PSpec Try.prog 70 [.agg (encPol p), .ept [.v (.int .i64 id)]] (.v (.bool (p.id == id))) := by
  refine ps_i tab_ok mixed Try.func70 rfl Try.ntmps70 Try.results70 (by kernel_rfl) ?_
  repeat' (first | (with_reducible refine And.intro ?_ ?_) | (with_reducible refine gK_i (fun _ => ?_) (fun _ => ?_)) | (with_reducible refine condS_i (fun _ => ?_) (fun _ => ?_)) | (with_reducible refine drw_i (by kernel_rfl)) | simp -dsimp only [go_sem, ↓reduceIte, reduceCtorEq, Nat.reduceAdd, Nat.reduceMul, Nat.reduceSub, Nat.reduceLeDiff, Nat.reduceLT, Nat.reduceEqDiff, Int.reduceLE, Int.reduceLT, Int.reduceToNat, Int.reduceBEq, Int.reduceBNe, Int.reduceEq, Int.reduceAdd, Int.reduceSub, Int.reduceMul, Int.reduceNeg, Int.cast_ofNat_Int, *, encPol] | ((with_reducible refine opK_c ?_); simp -dsimp only [go_sem, ↓reduceIte, reduceCtorEq, Nat.reduceAdd, Nat.reduceMul, Nat.reduceSub, Nat.reduceLeDiff, Nat.reduceLT, Nat.reduceEqDiff, Int.reduceLE, Int.reduceLT, Int.reduceToNat, Int.reduceBEq, Int.reduceBNe, Int.reduceEq, Int.reduceAdd, Int.reduceSub, Int.reduceMul, Int.reduceNeg, Int.cast_ofNat_Int, encPol]; first | refine callK_r (by first | assumption | fail) (by first | exact .inl rfl | exact .inr rfl) ?_ | (refine callK_i (by assumption) ?_ ?_ ?_; (solve | (repeat (first | exact DLe.refl _ | exact DLe.nil _ | (refine DLe.tup ?_) | (refine DLe.agg ?_ rfl) | exact trivial | (refine And.intro ?_ ?_)))); (solve | exact .inl rfl | exact .inr rfl))) | fail | omega | exact decide_eq_true (by omega) | exact DLe.refl _)
/-- The pools, when one is closed. -/
def closeL (b : Bok) (p : Pol) : List Pol := match poolOf b p.up with
  | none => b.pools
  | some u => match u.leases.findIdx? (forB p.id) with
    | some i => (updB b u.id fun u => { u with leases := coolL u i b.tick }).pools
    | none => b.pools
/-- Close's answer. -/
def closeR (b : Bok) (id : Int) : Bok × Int :=
  if chkBk b ≠ 0 then (Bok.zero, chkBk b) else
  match poolOf b id with
  | none => (Bok.zero, 5)
  | some p => if (p.leases.any fun l => l.kind != 3) = true then (Bok.zero, 9) else (⟨b.tick, (closeL b p).filter fun q => !(q.id == id)⟩, 0)
theorem second_mem {b : Bok} : ∀ (l : List Pol) (roots : List Pfx), secondOK b l roots = true → ∀ p ∈ l, upOK b b.pools.length p = true ∧ ∀ l ∈ p.leases, leaseOK b p l = true
  | [], _, _, p, hp => by simp at hp
  | q :: l, roots, h, p, hp => by
    simp only [secondOK, Bool.and_eq_true] at h
    rcases List.mem_cons.1 hp with rfl | hp
    · exact ⟨h.1.1, fun l hl => List.all_eq_true.1 h.1.2 l hl⟩
    · have h2 := h.2
      split at h2
      · simp only [Bool.and_eq_true] at h2
        exact second_mem l _ h2.2 p hp
      · exact second_mem l _ h2 p hp
theorem up_self {b : Bok} {p : Pol} (hp : poolOf b p.id = some p) (h1 : p.id ≠ 0) (he : p.up = p.id) : ∀ n, upOK b n p = false
  | 0 => by simp [upOK, he, h1]
  | n + 1 => by simp [upOK, he, h1, hp, up_self hp h1 he n]
theorem upOK_up {b : Bok} {n : Nat} {p u : Pol} (h : upOK b n p = true) (h0 : p.up ≠ 0) (hu : poolOf b p.up = some u) : u.leases.any (forB p.id) = true := by
  cases n with
  | zero => simp [upOK, h0] at h
  | succ n =>
    simp only [upOK, hu, Bool.or_eq_true, Bool.and_eq_true, beq_iff_eq] at h
    rcases h with h | h
    · exact absurd h h0
    · exact h.1
theorem zipR_other {pre post : List Pol} {p q : Pol} {r : List PV} {i : Nat} (h : (pre ++ p :: post)[i]? = some q) (hne : i ≠ pre.length) : (zipR pre r post)[i]? = some ((encPol q).map .d) := by
  unfold zipR
  rcases Nat.lt_trichotomy i pre.length with hlt | he | hgt
  · rw [List.getElem?_append_left hlt] at h
    rw [List.getElem?_append_left (by rw [dRows_len, List.length_map]; exact hlt), dRows_get, List.getElem?_map, h]; rfl
  · exact absurd he hne
  · rw [List.getElem?_append_right (by omega)] at h
    rw [List.getElem?_append_right (by rw [dRows_len, List.length_map]; omega), dRows_len, List.length_map]
    obtain ⟨j, hj⟩ : ∃ j, i - pre.length = j + 1 := ⟨i - pre.length - 1, by omega⟩
    rw [hj, List.getElem?_cons_succ] at h ⊢
    rw [dRows_get, List.getElem?_map, h]; rfl
set_option maxRecDepth 100000 in
set_option maxHeartbeats 1000000 in
theorem close_p (b : Bok) (id : Int) (hz : ∀ p ∈ b.pools, p.leases.length ≤ 3518437208882) : PSpec Try.prog 21 [.agg (encB b), .v (.int .i64 id)] (.tup [.agg (encB (closeR b id).1), .v (.int .i64 (closeR b id).2)]) := by
  obtain ⟨R, hR⟩ : ∃ R, R = closeR b id := ⟨_, rfl⟩
  rw [← hR]
  replace hR := Lib.hid hR
  by_cases hc : chkBk b = 0
  · have hbk := bookOK hc
    cases hq : poolOf b id with
    | none =>
      have hbg := beginD_m b hz hc
      have hf := find_p b id (by have := hbk.n8; omega) hbk.rise
      unfold findR at hf
      rw [hq] at hf
      have hr : R = (Bok.zero, 5) := by rw [hR.out]; unfold closeR; rw [if_neg (by simpa using hc), hq]
      rw [hr]
      clear hr hR hc hq
      refine ps_i tab_ok mixed Try.func21 rfl Try.ntmps21 Try.results21 (by kernel_rfl) ?_
      repeat' (first | (with_reducible refine And.intro ?_ ?_) | (with_reducible refine gK_i (fun _ => ?_) (fun _ => ?_)) | (with_reducible refine condS_i (fun _ => ?_) (fun _ => ?_)) | (with_reducible refine drw_i (by kernel_rfl)) | simp -dsimp only [go_sem, ↓reduceIte, reduceCtorEq, Nat.reduceAdd, Nat.reduceMul, Nat.reduceSub, Nat.reduceLeDiff, Nat.reduceLT, Nat.reduceEqDiff, Int.reduceLE, Int.reduceLT, Int.reduceToNat, Int.reduceBEq, Int.reduceBNe, Int.reduceEq, Int.reduceAdd, Int.reduceSub, Int.reduceMul, Int.reduceNeg, Int.cast_ofNat_Int, *, encB, encP] | ((with_reducible refine opK_c ?_); simp -dsimp only [go_sem, ↓reduceIte, reduceCtorEq, Nat.reduceAdd, Nat.reduceMul, Nat.reduceSub, Nat.reduceLeDiff, Nat.reduceLT, Nat.reduceEqDiff, Int.reduceLE, Int.reduceLT, Int.reduceToNat, Int.reduceBEq, Int.reduceBNe, Int.reduceEq, Int.reduceAdd, Int.reduceSub, Int.reduceMul, Int.reduceNeg, Int.cast_ofNat_Int, encB, encP]; first | refine callK_r (by first | assumption | exact hf) (by first | exact .inl rfl | exact .inr rfl) ?_ | (refine callK_i (by assumption) ?_ ?_ ?_; (solve | (repeat (first | exact DLe.refl _ | exact DLe.nil _ | (refine DLe.tup ?_) | (refine DLe.agg ?_ rfl) | exact trivial | (refine And.intro ?_ ?_)))); (solve | exact .inl rfl | exact .inr rfl))) | (refine opK_M [] (hbg) ?_ ?_ ?_ ?_ ?_ ?_; (solve | rfl | simp only [go_sem, ↓reduceIte, reduceCtorEq, Nat.reduceAdd, Nat.reduceMul, Nat.reduceSub, Nat.reduceLeDiff, Nat.reduceLT, Nat.reduceEqDiff, Int.reduceLE, Int.reduceLT, Int.reduceToNat, Int.reduceBEq, Int.reduceBNe, Int.reduceEq, Int.reduceAdd, Int.reduceSub, Int.reduceMul, Int.reduceNeg, Int.cast_ofNat_Int, encB]); (solve | rfl); (solve | decide); (solve | simp); (solve | simp only [go_sem, ↓reduceIte, reduceCtorEq, Nat.reduceAdd, Nat.reduceMul, Nat.reduceSub, Nat.reduceLeDiff, Nat.reduceLT, Nat.reduceEqDiff, Int.reduceLE, Int.reduceLT, Int.reduceToNat, Int.reduceBEq, Int.reduceBNe, Int.reduceEq, Int.reduceAdd, Int.reduceSub, Int.reduceMul, Int.reduceNeg, Int.cast_ofNat_Int, lentOK, encB])) | omega | exact decide_eq_true (by omega) | exact DLe.refl _)
      exact (by repeat (first | exact DLe.refl _ | exact DLe.nil _ | (refine DLe.tup ?_) | (refine DLe.agg ?_ rfl) | exact trivial | (refine And.intro ?_ ?_)))
    | some p =>
      obtain ⟨i, hpi, rfl⟩ := poolOf_some hq
      have hpm : p ∈ b.pools := List.mem_of_getElem? hpi
      have hl32 := hbk.l32 p hpm
      have hcn := cntf_Lease encL_len (fun l => l.kind != 3) p.leases 67 [] (by omega) (fun l _ => close1_p l)
      have hR2 : R = if (p.leases.any fun l => l.kind != 3) = true then (Bok.zero, 9) else (⟨b.tick, (closeL b p).filter fun q => !(q.id == p.id)⟩, 0) := by
        rw [hR.out]; unfold closeR; rw [if_neg (by simpa using hc), hq]
      replace hR2 := Lib.hid hR2
      cases hu : poolOf b p.up with
      | none =>
        have hbg := beginD_m b hz hc
        have hf := find_m b i p b.pools.length (dRows (b.pools.map encPol)) [] (.d (.v (.int .i64 b.tick))) hpi hbk.rise hbk.n8 (by simp [dRows_len]) (viewR_d _ _ _) (belowR_d _ _) rfl rfl
        have hf2 := find_p b p.up (by have := hbk.n8; omega) hbk.rise
        unfold findR at hf2
        rw [hu] at hf2
        have hcl : closeL b p = b.pools := by unfold closeL; rw [hu]
        have hR2 := hR2.out
        rw [hcl] at hR2
        have h8 := hbk.n8
        replace hR2 := Lib.hid hR2
        clear hq hu hcl hR hc
        refine ps_i tab_ok mixed Try.func21 rfl Try.ntmps21 Try.results21 (by kernel_rfl) ?_
        repeat' (first | (with_reducible refine And.intro ?_ ?_) | (with_reducible refine gK_i (fun _ => ?_) (fun _ => ?_)) | (with_reducible refine condS_i (fun _ => ?_) (fun _ => ?_)) | (with_reducible refine drw_i (by kernel_rfl)) | simp -dsimp only [go_sem, ↓reduceIte, reduceCtorEq, Nat.reduceAdd, Nat.reduceMul, Nat.reduceSub, Nat.reduceLeDiff, Nat.reduceLT, Nat.reduceEqDiff, Int.reduceLE, Int.reduceLT, Int.reduceToNat, Int.reduceBEq, Int.reduceBNe, Int.reduceEq, Int.reduceAdd, Int.reduceSub, Int.reduceMul, Int.reduceNeg, Int.cast_ofNat_Int, *, encB, encP, encPol, hpi] | ((with_reducible refine opK_c ?_); simp -dsimp only [go_sem, ↓reduceIte, reduceCtorEq, Nat.reduceAdd, Nat.reduceMul, Nat.reduceSub, Nat.reduceLeDiff, Nat.reduceLT, Nat.reduceEqDiff, Int.reduceLE, Int.reduceLT, Int.reduceToNat, Int.reduceBEq, Int.reduceBNe, Int.reduceEq, Int.reduceAdd, Int.reduceSub, Int.reduceMul, Int.reduceNeg, Int.cast_ofNat_Int, encB, encP, encPol, hpi]; first | refine callK_r (by first | assumption | exact hcn | exact hf2) (by first | exact .inl rfl | exact .inr rfl) ?_ | (refine callK_i (by assumption) ?_ ?_ ?_; (solve | (repeat (first | exact DLe.refl _ | exact DLe.nil _ | (refine DLe.tup ?_) | (refine DLe.agg ?_ rfl) | exact trivial | (refine And.intro ?_ ?_)))); (solve | exact .inl rfl | exact .inr rfl))) | (refine opK_M [] (hbg) ?_ ?_ ?_ ?_ ?_ ?_; (solve | rfl | simp only [go_sem, ↓reduceIte, reduceCtorEq, Nat.reduceAdd, Nat.reduceMul, Nat.reduceSub, Nat.reduceLeDiff, Nat.reduceLT, Nat.reduceEqDiff, Int.reduceLE, Int.reduceLT, Int.reduceToNat, Int.reduceBEq, Int.reduceBNe, Int.reduceEq, Int.reduceAdd, Int.reduceSub, Int.reduceMul, Int.reduceNeg, Int.cast_ofNat_Int, encB]); (solve | rfl); (solve | decide); (solve | simp); (solve | simp only [go_sem, ↓reduceIte, reduceCtorEq, Nat.reduceAdd, Nat.reduceMul, Nat.reduceSub, Nat.reduceLeDiff, Nat.reduceLT, Nat.reduceEqDiff, Int.reduceLE, Int.reduceLT, Int.reduceToNat, Int.reduceBEq, Int.reduceBNe, Int.reduceEq, Int.reduceAdd, Int.reduceSub, Int.reduceMul, Int.reduceNeg, Int.cast_ofNat_Int, lentOK, encB])) | (refine opK_M [5, 6] (hf) ?_ ?_ ?_ ?_ ?_ ?_; (solve | rfl | simp only [go_sem, ↓reduceIte, reduceCtorEq, Nat.reduceAdd, Nat.reduceMul, Nat.reduceSub, Nat.reduceLeDiff, Nat.reduceLT, Nat.reduceEqDiff, Int.reduceLE, Int.reduceLT, Int.reduceToNat, Int.reduceBEq, Int.reduceBNe, Int.reduceEq, Int.reduceAdd, Int.reduceSub, Int.reduceMul, Int.reduceNeg, Int.cast_ofNat_Int, encB]); (solve | rfl); (solve | decide); (solve | simp); (solve | simp only [go_sem, ↓reduceIte, reduceCtorEq, Nat.reduceAdd, Nat.reduceMul, Nat.reduceSub, Nat.reduceLeDiff, Nat.reduceLT, Nat.reduceEqDiff, Int.reduceLE, Int.reduceLT, Int.reduceToNat, Int.reduceBEq, Int.reduceBNe, Int.reduceEq, Int.reduceAdd, Int.reduceSub, Int.reduceMul, Int.reduceNeg, Int.cast_ofNat_Int, lentOK, encB])) | (refine opK_W (delf_Pool (fun q => q.id == p.id) b.pools 6 _ _ _ _ rfl rfl ?_ ?_ ⟨[.ept [.v (.int .i64 p.id)]], rfl, fun x _ => close3_p x p.id⟩ (fun m c => ⟨[.ept [.v (.int .i64 p.id)]], rfl, fun x _ => close3_p x p.id⟩)) ?_) | omega | exact decide_eq_true (by omega) | exact DLe.refl _)
        all_goals first
          | first | rfl | simp only [belowH, belowE, belowC, belowL, belowR, belowP, belowL_d, belowR_d, belowR_zip, polRow, List.length_cons, List.length_nil, Nat.reduceAdd, Nat.reduceLT, decide_true, Bool.and_self, Bool.and_true]
          | omega
          | (rw [show R = (Bok.zero, 9) from (by rw [hR2.out]; grind)]; (try simp only [List.map_append, List.map_cons]); exact (by repeat (first | exact DLe.refl _ | exact DLe.nil _ | (refine DLe.tup ?_) | (refine DLe.agg ?_ rfl) | exact trivial | (refine And.intro ?_ ?_))))
          | (rw [show R = (⟨b.tick, b.pools.filter fun q => !(q.id == p.id)⟩, 0) from (by rw [hR2.out]; grind)]; (try simp only [List.map_append, List.map_cons]); exact (by repeat (first | exact DLe.refl _ | exact DLe.nil _ | (refine DLe.tup ?_) | (refine DLe.agg ?_ rfl) | exact trivial | (refine And.intro ?_ ?_))))
      | some u =>
        obtain ⟨pre, post, hp, hue⟩ := poolOf_split hu
        have hbg := beginZ_m b pre post u hp hz hc
        have hzb := zipB hp
        have hne : i ≠ pre.length := by
          rintro rfl
          have := hzb.at_
          rw [hpi] at this
          obtain rfl := Option.some.inj this
          have h1 := (second_mem _ _ hbk.second p hpm).1
          have h2 := up_self hq (by have := (hbk.mem p hpm).1; rintro h; rw [h] at this; simp [idOK] at this) hue.symm b.pools.length
          rw [h2] at h1; exact absurd h1 (by simp)
        have hf := findZ_m hbk hzb hpi
        have hf2 := findZ_m hbk hzb hzb.at_
        rw [hue] at hf2
        have hzo := fun r => zipR_other (r := r) (by rw [← hp]; exact hpi) hne
        have hu32 := hbk.l32 u hzb.mem
        have hany := upOK_up (second_mem _ _ hbk.second p hpm).1 (by have := (hbk.mem u hzb.mem).1; rintro h; rw [← hue] at h; rw [h] at this; simp [idOK] at this) hu
        have hix := idxf_Lease encL_len (forB p.id) u.leases 68 [.ept [.v (.int .i64 p.id)]] (by omega) (fun l _ => close2_p l p.id)
        obtain ⟨j, hj⟩ : ∃ j, u.leases.findIdx? (forB p.id) = some j := by
          cases hj : u.leases.findIdx? (forB p.id) with
          | some j => exact ⟨j, rfl⟩
          | none =>
            rw [List.findIdx?_eq_none_iff] at hj
            obtain ⟨x, hx, hx2⟩ := List.any_eq_true.1 hany
            rw [hj x hx] at hx2; exact absurd hx2 (by simp)
        unfold idxI at hix
        rw [hj] at hix
        have hji : j < u.leases.length := (List.findIdx?_eq_some_iff_getElem.1 hj).1
        have hcl := cool_m pre post u j b.pools.length 1 b.tick hji hu32 (rule_cool (hbk.mem u hzb.mem).2.2) hbk.tick
        have hcL : closeL b p = pre ++ { u with leases := coolL u j b.tick } :: post := by
          unfold closeL; rw [hu]; simp only; rw [hj]; simp only; rw [updB_split hbk.rise hp]
        have hR2 := hR2.out
        rw [hcL] at hR2
        replace hR2 := Lib.hid hR2
        have h8 := hbk.n8
        have hlen : (pre ++ { u with leases := coolL u j b.tick } :: post).length ≤ 1000000000 := by
          rw [hp] at h8
          simp at h8 ⊢; omega
        clear hq hu hue hR hc hcL hany hj hpi hp hzb h8 hbk hne hpm
        refine ps_i tab_ok mixed Try.func21 rfl Try.ntmps21 Try.results21 (by kernel_rfl) ?_
        repeat' (first | (with_reducible refine And.intro ?_ ?_) | (with_reducible refine gK_i (fun _ => ?_) (fun _ => ?_)) | (with_reducible refine condS_i (fun _ => ?_) (fun _ => ?_)) | (with_reducible refine drw_i (by kernel_rfl)) | simp -dsimp only [go_sem, ↓reduceIte, reduceCtorEq, Nat.reduceAdd, Nat.reduceMul, Nat.reduceSub, Nat.reduceLeDiff, Nat.reduceLT, Nat.reduceEqDiff, Int.reduceLE, Int.reduceLT, Int.reduceToNat, Int.reduceBEq, Int.reduceBNe, Int.reduceEq, Int.reduceAdd, Int.reduceSub, Int.reduceMul, Int.reduceNeg, Int.cast_ofNat_Int, *, encB, encP, encPol, polRow, renR_zip, zipR_get, hzo] | ((with_reducible refine opK_c ?_); simp -dsimp only [go_sem, ↓reduceIte, reduceCtorEq, Nat.reduceAdd, Nat.reduceMul, Nat.reduceSub, Nat.reduceLeDiff, Nat.reduceLT, Nat.reduceEqDiff, Int.reduceLE, Int.reduceLT, Int.reduceToNat, Int.reduceBEq, Int.reduceBNe, Int.reduceEq, Int.reduceAdd, Int.reduceSub, Int.reduceMul, Int.reduceNeg, Int.cast_ofNat_Int, encB, encP, encPol, polRow, renR_zip, zipR_get, hzo]; first | refine callK_r (by first | assumption | exact hcn | exact hix) (by first | exact .inl rfl | exact .inr rfl) ?_ | (refine callK_i (by assumption) ?_ ?_ ?_; (solve | (repeat (first | exact DLe.refl _ | exact DLe.nil _ | (refine DLe.tup ?_) | (refine DLe.agg ?_ rfl) | exact trivial | (refine And.intro ?_ ?_)))); (solve | exact .inl rfl | exact .inr rfl))) | (refine opK_M [] (hbg) ?_ ?_ ?_ ?_ ?_ ?_; (solve | rfl | simp only [go_sem, ↓reduceIte, reduceCtorEq, Nat.reduceAdd, Nat.reduceMul, Nat.reduceSub, Nat.reduceLeDiff, Nat.reduceLT, Nat.reduceEqDiff, Int.reduceLE, Int.reduceLT, Int.reduceToNat, Int.reduceBEq, Int.reduceBNe, Int.reduceEq, Int.reduceAdd, Int.reduceSub, Int.reduceMul, Int.reduceNeg, Int.cast_ofNat_Int, encB, polRow, renR_zip]); (solve | rfl); (solve | decide); (solve | simp); (solve | simp only [go_sem, ↓reduceIte, reduceCtorEq, Nat.reduceAdd, Nat.reduceMul, Nat.reduceSub, Nat.reduceLeDiff, Nat.reduceLT, Nat.reduceEqDiff, Int.reduceLE, Int.reduceLT, Int.reduceToNat, Int.reduceBEq, Int.reduceBNe, Int.reduceEq, Int.reduceAdd, Int.reduceSub, Int.reduceMul, Int.reduceNeg, Int.cast_ofNat_Int, lentOK, encB, polRow, renR_zip])) | (refine opK_M [5, 6, 8] (hf) ?_ ?_ ?_ ?_ ?_ ?_; (solve | rfl | simp only [go_sem, ↓reduceIte, reduceCtorEq, Nat.reduceAdd, Nat.reduceMul, Nat.reduceSub, Nat.reduceLeDiff, Nat.reduceLT, Nat.reduceEqDiff, Int.reduceLE, Int.reduceLT, Int.reduceToNat, Int.reduceBEq, Int.reduceBNe, Int.reduceEq, Int.reduceAdd, Int.reduceSub, Int.reduceMul, Int.reduceNeg, Int.cast_ofNat_Int, encP, polRow, renR_zip]); (solve | rfl); (solve | decide); (solve | simp); (solve | simp only [go_sem, ↓reduceIte, reduceCtorEq, Nat.reduceAdd, Nat.reduceMul, Nat.reduceSub, Nat.reduceLeDiff, Nat.reduceLT, Nat.reduceEqDiff, Int.reduceLE, Int.reduceLT, Int.reduceToNat, Int.reduceBEq, Int.reduceBNe, Int.reduceEq, Int.reduceAdd, Int.reduceSub, Int.reduceMul, Int.reduceNeg, Int.cast_ofNat_Int, lentOK, encP, polRow, renR_zip])) | (refine opK_M [5, 6, 8] (hf2) ?_ ?_ ?_ ?_ ?_ ?_; (solve | rfl | simp only [go_sem, ↓reduceIte, reduceCtorEq, Nat.reduceAdd, Nat.reduceMul, Nat.reduceSub, Nat.reduceLeDiff, Nat.reduceLT, Nat.reduceEqDiff, Int.reduceLE, Int.reduceLT, Int.reduceToNat, Int.reduceBEq, Int.reduceBNe, Int.reduceEq, Int.reduceAdd, Int.reduceSub, Int.reduceMul, Int.reduceNeg, Int.cast_ofNat_Int, encP, polRow, renR_zip]); (solve | rfl); (solve | decide); (solve | simp); (solve | simp only [go_sem, ↓reduceIte, reduceCtorEq, Nat.reduceAdd, Nat.reduceMul, Nat.reduceSub, Nat.reduceLeDiff, Nat.reduceLT, Nat.reduceEqDiff, Int.reduceLE, Int.reduceLT, Int.reduceToNat, Int.reduceBEq, Int.reduceBNe, Int.reduceEq, Int.reduceAdd, Int.reduceSub, Int.reduceMul, Int.reduceNeg, Int.cast_ofNat_Int, lentOK, encP, polRow, renR_zip])) | (refine opK_M [6, 8] (hcl) ?_ ?_ ?_ ?_ ?_ ?_; (solve | rfl | simp only [go_sem, ↓reduceIte, reduceCtorEq, Nat.reduceAdd, Nat.reduceMul, Nat.reduceSub, Nat.reduceLeDiff, Nat.reduceLT, Nat.reduceEqDiff, Int.reduceLE, Int.reduceLT, Int.reduceToNat, Int.reduceBEq, Int.reduceBNe, Int.reduceEq, Int.reduceAdd, Int.reduceSub, Int.reduceMul, Int.reduceNeg, Int.cast_ofNat_Int, encP, encL, polRow, renR_zip]); (solve | rfl); (solve | decide); (solve | simp); (solve | simp only [go_sem, ↓reduceIte, reduceCtorEq, Nat.reduceAdd, Nat.reduceMul, Nat.reduceSub, Nat.reduceLeDiff, Nat.reduceLT, Nat.reduceEqDiff, Int.reduceLE, Int.reduceLT, Int.reduceToNat, Int.reduceBEq, Int.reduceBNe, Int.reduceEq, Int.reduceAdd, Int.reduceSub, Int.reduceMul, Int.reduceNeg, Int.cast_ofNat_Int, lentOK, encP, encL, polRow, renR_zip])) | (refine opK_W (delf_Pool (fun q => q.id == p.id) (pre ++ { u with leases := coolL u j b.tick } :: post) 6 _ _ _ _ rfl rfl ?_ ?_ ⟨[.ept [.v (.int .i64 p.id)]], rfl, fun x _ => close3_p x p.id⟩ (fun m c => ⟨[.ept [.v (.int .i64 p.id)]], rfl, fun x _ => close3_p x p.id⟩)) ?_) | omega | exact decide_eq_true (by omega) | exact DLe.refl _)
        all_goals first
          | first | rfl | simp only [belowH, belowE, belowC, belowL, belowR, belowP, belowL_d, belowR_d, belowR_zip, polRow, List.length_cons, List.length_nil, Nat.reduceAdd, Nat.reduceLT, decide_true, Bool.and_self, Bool.and_true]
          | (simpa using hlen)
          | (rw [show R = (Bok.zero, 9) from (by rw [hR2.out]; grind)]; (try simp only [List.map_append, List.map_cons]); exact (by repeat (first | exact DLe.refl _ | exact DLe.nil _ | (refine DLe.tup ?_) | (refine DLe.agg ?_ rfl) | exact trivial | (refine And.intro ?_ ?_))))
          | (rw [show R = (⟨b.tick, (pre ++ { u with leases := coolL u j b.tick } :: post).filter fun q => !(q.id == p.id)⟩, 0) from (by rw [hR2.out]; grind)]; (try simp only [List.map_append, List.map_cons]); exact (by repeat (first | exact DLe.refl _ | exact DLe.nil _ | (refine DLe.tup ?_) | (refine DLe.agg ?_ rfl) | exact trivial | (refine And.intro ?_ ?_))))
  · have hbg := beginE_p b hz hc
    have h1 : (chkBk b != 0) = true := by simpa using hc
    have hr : R = (Bok.zero, chkBk b) := by rw [hR.out]; unfold closeR; rw [if_pos hc]
    rw [hr]
    replace hr := Lib.hid hr
    refine ps_i tab_ok mixed Try.func21 rfl Try.ntmps21 Try.results21 (by kernel_rfl) ?_
    repeat' (first | (with_reducible refine And.intro ?_ ?_) | (with_reducible refine gK_i (fun _ => ?_) (fun _ => ?_)) | (with_reducible refine condS_i (fun _ => ?_) (fun _ => ?_)) | (with_reducible refine drw_i (by kernel_rfl)) | simp -dsimp only [go_sem, ↓reduceIte, reduceCtorEq, Nat.reduceAdd, Nat.reduceMul, Nat.reduceSub, Nat.reduceLeDiff, Nat.reduceLT, Nat.reduceEqDiff, Int.reduceLE, Int.reduceLT, Int.reduceToNat, Int.reduceBEq, Int.reduceBNe, Int.reduceEq, Int.reduceAdd, Int.reduceSub, Int.reduceMul, Int.reduceNeg, Int.cast_ofNat_Int, *, encB, encP, h1] | ((with_reducible refine opK_c ?_); simp -dsimp only [go_sem, ↓reduceIte, reduceCtorEq, Nat.reduceAdd, Nat.reduceMul, Nat.reduceSub, Nat.reduceLeDiff, Nat.reduceLT, Nat.reduceEqDiff, Int.reduceLE, Int.reduceLT, Int.reduceToNat, Int.reduceBEq, Int.reduceBNe, Int.reduceEq, Int.reduceAdd, Int.reduceSub, Int.reduceMul, Int.reduceNeg, Int.cast_ofNat_Int, encB, encP, h1]; first | refine callK_r (by first | assumption | exact hbg) (by first | exact .inl rfl | exact .inr rfl) ?_ | (refine callK_i (by assumption) ?_ ?_ ?_; (solve | (repeat (first | exact DLe.refl _ | exact DLe.nil _ | (refine DLe.tup ?_) | (refine DLe.agg ?_ rfl) | exact trivial | (refine And.intro ?_ ?_)))); (solve | exact .inl rfl | exact .inr rfl))) | fail | omega | exact decide_eq_true (by omega) | exact DLe.refl _)
    exact (by repeat (first | exact DLe.refl _ | exact DLe.nil _ | (refine DLe.tup ?_) | (refine DLe.agg ?_ rfl) | exact trivial | (refine And.intro ?_ ?_)))
end Go.Proofs.Ytbeocackphfijaa
namespace Go.Proofs.Ytbeocackphfijaa
open Go Go.RowKit
theorem Bok.zero_le : DLe (.agg [.v (.int .i64 0), .v (.slice none 0 0)]) (.agg (encB Bok.zero)) := (by repeat (first | exact DLe.refl _ | exact DLe.nil _ | (refine DLe.tup ?_) | (refine DLe.agg ?_ rfl) | exact trivial | (refine And.intro ?_ ?_)))
end Go.Proofs.Ytbeocackphfijaa
namespace Go.Proofs.Ytbeocackphfijaa
open Go Go.RowKit
def Lse.zero : Lse := ⟨Pfx.zero, 0, 0, 0⟩
end Go.Proofs.Ytbeocackphfijaa
namespace Go.Proofs.Ytbeocackphfijaa
open Go Go.RowKit
/-- Pools' rows, the leases of each in a chunk for itself. -/
def rowsF : Nat → List Pol → List (List PV)
  | _, [] => []
  | k, p :: ps => polRow p (.own k 1) :: rowsF (k + 2) ps
def chF : List Pol → List Chunk
  | [] => []
  | p :: ps => .gone :: .row 50 5 1 (dRows (p.leases.map encL)) :: chF ps
theorem rowsF_len : ∀ (ps : List Pol) (k : Nat), (rowsF k ps).length = ps.length
  | [], _ => rfl
  | p :: ps, k => by simp only [rowsF, List.length_cons, rowsF_len ps]
theorem chF_len : ∀ ps : List Pol, (chF ps).length = 2 * ps.length
  | [] => rfl
  | p :: ps => by simp only [chF, List.length_cons, chF_len ps]; omega
theorem rowsF_snoc (p : Pol) : ∀ (ps : List Pol) (k : Nat), rowsF k (ps ++ [p]) = rowsF k ps ++ [polRow p (.own (k + 2 * ps.length) 1)]
  | [], k => rfl
  | q :: ps, k => by
    simp only [List.cons_append, rowsF, rowsF_snoc p ps, List.length_cons]
    rw [show k + 2 + 2 * ps.length = k + 2 * (ps.length + 1) by omega]
theorem chF_snoc (p : Pol) : ∀ ps : List Pol, chF (ps ++ [p]) = chF ps ++ [.gone, .row 50 5 1 (dRows (p.leases.map encL))]
  | [] => rfl
  | q :: ps => by simp only [List.cons_append, chF, chF_snoc p ps]
theorem belowR_rowsF (n : Nat) : ∀ (ps : List Pol) (k : Nat), k + 2 * ps.length < n + 2 → belowR n (rowsF k ps) = true
  | [], _, _ => rfl
  | p :: ps, k, h => by
    simp only [List.length_cons] at h
    simp only [rowsF, belowR, polRow, belowL, belowP, belowR_rowsF n ps (k + 2) (by omega), Bool.and_true, Bool.true_and, decide_eq_true_eq]
    omega
theorem belowH_chF (n : Nat) : ∀ ps : List Pol, belowH n (chF ps) = true
  | [] => rfl
  | p :: ps => by simp only [chF, belowH, belowC, belowR_d, belowH_chF n ps, Bool.and_self]
theorem setC_last1 (a : List Chunk) (c d : Chunk) : setC (a ++ [c]) a.length d = a ++ [d] := by
  have := setC_app a c d []
  simpa using this
theorem setC_last2 (a : List Chunk) (c e d : Chunk) : setC (a ++ [c, e]) a.length d = a ++ [d, e] := setC_app a c d [e]
theorem setC_end1 (a : List Chunk) (c d : Chunk) : setC (a ++ [c]) (a.length + 1) d = a ++ [c, d] := by
  have := setC_last (a ++ [c]) d
  rw [List.length_append] at this
  simpa using this
theorem hat_end (a : List Chunk) (c : Chunk) (l : List Chunk) : hatL (a ++ c :: l) a.length = c := by
  induction a with
  | nil => rfl
  | cons x a ih => exact ih
theorem hat_end1 (a : List Chunk) (c d : Chunk) (l : List Chunk) : hatL (a ++ c :: d :: l) (a.length + 1) = d := by
  induction a with
  | nil => rfl
  | cons x a ih => exact ih
theorem hat_end2 (a : List Chunk) (c d e : Chunk) (l : List Chunk) : hatL (a ++ c :: d :: e :: l) (a.length + 2) = e := by
  induction a with
  | nil => rfl
  | cons x a ih => exact ih
theorem setC_end2 (a : List Chunk) (c e d : Chunk) : setC (a ++ [c, e]) (a.length + 2) d = a ++ [c, e, d] := by
  have := setC_last (a ++ [c, e]) d
  rw [List.length_append] at this
  simpa using this
theorem belowH_app (n : Nat) : ∀ (l m : List Chunk), belowH n (l ++ m) = (belowH n l && belowH n m)
  | [], m => rfl
  | c :: l, m => by simp only [List.cons_append, belowH, belowH_app n l m, Bool.and_assoc]
set_option maxRecDepth 100000 in
set_option maxHeartbeats 1000000 in
theorem ownA_m (b : Bok) (h8 : b.pools.length ≤ 8) (h32 : ∀ p ∈ b.pools, p.leases.length ≤ 32) :
    MSpec Try.prog 76 [.d (.agg (encB b))] [] (.ptr 1 0) (.gone :: .box 24 [.d (.v (.int .i64 b.tick)), .own 2 b.pools.length] :: .row 46 9 b.pools.length (rowsF 4 b.pools) :: chF b.pools) := by
  refine ms_i tab_ok mixed Try.func76 rfl Try.ntmps76 Try.results76 (by kernel_rfl) (by simp) (by simp [belowL, belowP]) (by simp [belowH, belowC, belowL, belowP, belowL_d, belowR_d]) ?_
  repeat' (first | (with_reducible refine And.intro ?_ ?_) | (with_reducible refine gK_i (fun _ => ?_) (fun _ => ?_)) | (with_reducible refine condS_i (fun _ => ?_) (fun _ => ?_)) | (with_reducible refine drw_i (by kernel_rfl)) | simp -dsimp only [go_sem, ↓reduceIte, reduceCtorEq, Nat.reduceAdd, Nat.reduceMul, Nat.reduceSub, Nat.reduceLeDiff, Nat.reduceLT, Nat.reduceEqDiff, Int.reduceLE, Int.reduceLT, Int.reduceToNat, Int.reduceBEq, Int.reduceBNe, Int.reduceEq, Int.reduceAdd, Int.reduceSub, Int.reduceMul, Int.reduceNeg, Int.cast_ofNat_Int, *, encB] | ((with_reducible refine opK_c ?_); simp -dsimp only [go_sem, ↓reduceIte, reduceCtorEq, Nat.reduceAdd, Nat.reduceMul, Nat.reduceSub, Nat.reduceLeDiff, Nat.reduceLT, Nat.reduceEqDiff, Int.reduceLE, Int.reduceLT, Int.reduceToNat, Int.reduceBEq, Int.reduceBNe, Int.reduceEq, Int.reduceAdd, Int.reduceSub, Int.reduceMul, Int.reduceNeg, Int.cast_ofNat_Int, encB]; first | refine callK_r (by first | assumption | fail) (by first | exact .inl rfl | exact .inr rfl) ?_ | refine callK_i (by assumption) (by repeat (first | exact DLe.refl _ | exact DLe.nil _ | (refine DLe.tup ?_) | (refine DLe.agg ?_ rfl) | exact trivial | (refine And.intro ?_ ?_))) (by first | exact .inl rfl | exact .inr rfl) ?_) | omega | exact decide_eq_true (by omega) | exact DLe.refl _)
  refine loopL tab_ok mixed b.pools (fun _ => True) (fun k => [(13, .d (.v (.int .i64 k))), (12, .d (.v (.int .i64 b.pools.length))), (11, .d (.sl 9 (b.pools.map encPol))), (3, .ptr 1 0), (2, .d (.v (.pointer none)))])
    (fun k => .gone :: .box 24 [.d (.v (.int .i64 b.tick)), .own 2 k] :: .row 46 9 k (rowsF 4 (b.pools.take k)) :: chF (b.pools.take k)) trivial ?_ ?_ ?_
  · refine (weak_gone 0 (by simp)).trans ((weak_adopt_box (by simp) 1 24 [.d (.v (.int .i64 b.tick)), .d (.v (.slice none 0 0))] 1 46 9 rfl rfl rfl).trans ?_)
    exact weak_forget _ (by simp) (by (try simp only [encB]); rfl) (by (repeat' (first | exact trivial | (refine ⟨rfl, ?_⟩)))) (by first | rfl | simp only [belowH, belowE, belowC, belowL, belowR, belowP, belowL_d, belowR_d, List.length_cons, List.length_nil, Nat.reduceAdd, Nat.reduceLT, decide_true, Bool.and_self, Bool.and_true]) (by first | rfl | simp only [belowH, belowE, belowC, belowL, belowR, belowP, belowL_d, belowR_d, List.length_cons, List.length_nil, Nat.reduceAdd, Nat.reduceLT, decide_true, Bool.and_self, Bool.and_true])
  · intro k p hp hk _ C hC
    have hkI : (k : Int) < (b.pools.length : Int) := by omega
    have hwr : IntKind.i64.wrap ((k : Int) + 1) = ((k + 1 : Nat) : Int) := by rw [IntKind.wrap_i64]; omega
    have hpl := h32 p (List.mem_of_getElem? hp)
    have hb1 : k + 1 ≤ 100 := by omega
    have hlt : (List.take k b.pools).length = k := by rw [List.length_take]; omega
    have hst := take_snoc hp
    have hrl := rowsF_len (b.pools.take k) 4
    have hcl := chF_len (b.pools.take k)
    rw [hlt] at hrl hcl
    rw [hst, rowsF_snoc, chF_snoc, hlt] at hC
    have hbr := fun n h => belowR_rowsF n (b.pools.take k) 4 h
    have hbh := fun n => belowH_chF n (b.pools.take k)
    clear hst
    generalize chF (b.pools.take k) = T at *
    generalize rowsF 4 (b.pools.take k) = rows at *
    replace hcl := Lib.hid hcl
    replace hbr := Lib.hid hbr
    replace hbh := Lib.hid hbh
    repeat' (first | (with_reducible refine And.intro ?_ ?_) | (with_reducible refine gK_i (fun _ => ?_) (fun _ => ?_)) | (with_reducible refine condS_i (fun _ => ?_) (fun _ => ?_)) | (with_reducible refine drw_i (by kernel_rfl)) | simp -dsimp only [go_sem, ↓reduceIte, reduceCtorEq, Nat.reduceAdd, Nat.reduceMul, Nat.reduceSub, Nat.reduceLeDiff, Nat.reduceLT, Nat.reduceEqDiff, Int.reduceLE, Int.reduceLT, Int.reduceToNat, Int.reduceBEq, Int.reduceBNe, Int.reduceEq, Int.reduceAdd, Int.reduceSub, Int.reduceMul, Int.reduceNeg, Int.cast_ofNat_Int, *, encB, encPol, hkI, hwr, hp, hrl, setC_last, setC_last1, setC_last2, setC_end1, setC_end2, hat_end, hat_end1, hat_end2] | ((with_reducible refine opK_c ?_); simp -dsimp only [go_sem, ↓reduceIte, reduceCtorEq, Nat.reduceAdd, Nat.reduceMul, Nat.reduceSub, Nat.reduceLeDiff, Nat.reduceLT, Nat.reduceEqDiff, Int.reduceLE, Int.reduceLT, Int.reduceToNat, Int.reduceBEq, Int.reduceBNe, Int.reduceEq, Int.reduceAdd, Int.reduceSub, Int.reduceMul, Int.reduceNeg, Int.cast_ofNat_Int, encB, encPol, hkI, hwr, hp, hrl, setC_last, setC_last1, setC_last2, setC_end1, setC_end2, hat_end, hat_end1, hat_end2]; first | refine callK_r (by first | assumption | fail) (by first | exact .inl rfl | exact .inr rfl) ?_ | (refine callK_i (by assumption) ?_ ?_ ?_; (solve | (repeat (first | exact DLe.refl _ | exact DLe.nil _ | (refine DLe.tup ?_) | (refine DLe.agg ?_ rfl) | exact trivial | (refine And.intro ?_ ?_)))); (solve | exact .inl rfl | exact .inr rfl))) | (refine opK_M [] (clone_Lease encL p.leases (by omega)) ?_ ?_ ?_ ?_ ?_ ?_; (solve | rfl | simp only [go_sem, ↓reduceIte, reduceCtorEq, Nat.reduceAdd, Nat.reduceMul, Nat.reduceSub, Nat.reduceLeDiff, Nat.reduceLT, Nat.reduceEqDiff, Int.reduceLE, Int.reduceLT, Int.reduceToNat, Int.reduceBEq, Int.reduceBNe, Int.reduceEq, Int.reduceAdd, Int.reduceSub, Int.reduceMul, Int.reduceNeg, Int.cast_ofNat_Int, encPol]); (solve | rfl); (solve | decide); (solve | simp); (solve | simp only [go_sem, ↓reduceIte, reduceCtorEq, Nat.reduceAdd, Nat.reduceMul, Nat.reduceSub, Nat.reduceLeDiff, Nat.reduceLT, Nat.reduceEqDiff, Int.reduceLE, Int.reduceLT, Int.reduceToNat, Int.reduceBEq, Int.reduceBNe, Int.reduceEq, Int.reduceAdd, Int.reduceSub, Int.reduceMul, Int.reduceNeg, Int.cast_ofNat_Int, lentOK, encPol])) | omega | exact decide_eq_true (by omega) | exact DLe.refl _)
    refine hC _ _ trivial ((weak_gone (T.length + 3) (by simp)).trans (weak_forget [.row 46 9 0 [polRow p (.own (T.length + 4) 1)]] (by simp) (h' := .gone :: .box 24 [.d (.v (.int .i64 b.tick)), .own 2 (k + 1)] :: .row 46 9 (k + 1) (rows ++ [polRow p (.own (4 + 2 * k) 1)]) :: (T ++ [.gone, .row 50 5 1 (dRows (p.leases.map encL))])) ?_ (by (repeat' (first | exact trivial | (refine ⟨rfl, ?_⟩)))) ?_ ?_))
    · simp only [setC]
      rw [setC_app, show T.length + 4 = 4 + 2 * k from by have := hcl.out; omega]
      simp only [List.cons_append, List.append_assoc, List.nil_append]
      rfl
    · have := hcl.out
      simp [belowE, belowP]
    · have := hcl.out
      have h1 := hbh.out (T.length + 5)
      have h2 := hbr.out (T.length + 5) (by rw [hlt]; omega)
      simp [belowH, belowC, belowL, belowP, belowR_app, belowR, belowR_d, polRow, belowH_app, h1, h2]
      omega
  · intro _ C
    repeat' (first | (with_reducible refine And.intro ?_ ?_) | (with_reducible refine gK_i (fun _ => ?_) (fun _ => ?_)) | (with_reducible refine condS_i (fun _ => ?_) (fun _ => ?_)) | (with_reducible refine drw_i (by kernel_rfl)) | simp -dsimp only [go_sem, ↓reduceIte, reduceCtorEq, Nat.reduceAdd, Nat.reduceMul, Nat.reduceSub, Nat.reduceLeDiff, Nat.reduceLT, Nat.reduceEqDiff, Int.reduceLE, Int.reduceLT, Int.reduceToNat, Int.reduceBEq, Int.reduceBNe, Int.reduceEq, Int.reduceAdd, Int.reduceSub, Int.reduceMul, Int.reduceNeg, Int.cast_ofNat_Int, *, encB, Int.lt_irrefl] | ((with_reducible refine opK_c ?_); simp -dsimp only [go_sem, ↓reduceIte, reduceCtorEq, Nat.reduceAdd, Nat.reduceMul, Nat.reduceSub, Nat.reduceLeDiff, Nat.reduceLT, Nat.reduceEqDiff, Int.reduceLE, Int.reduceLT, Int.reduceToNat, Int.reduceBEq, Int.reduceBNe, Int.reduceEq, Int.reduceAdd, Int.reduceSub, Int.reduceMul, Int.reduceNeg, Int.cast_ofNat_Int, encB, Int.lt_irrefl]; first | refine callK_r (by first | assumption | fail) (by first | exact .inl rfl | exact .inr rfl) ?_ | (refine callK_i (by assumption) ?_ ?_ ?_; (solve | (repeat (first | exact DLe.refl _ | exact DLe.nil _ | (refine DLe.tup ?_) | (refine DLe.agg ?_ rfl) | exact trivial | (refine And.intro ?_ ?_)))); (solve | exact .inl rfl | exact .inr rfl))) | fail | omega | exact decide_eq_true (by omega) | exact DLe.refl _)
    rw [List.take_length]
    exact weak_eq rfl rfl
end Go.Proofs.Ytbeocackphfijaa
namespace Go.Proofs.Ytbeocackphfijaa
open Go Go.RowKit
theorem heapM_chF (n : Nat) : ∀ (ps : List Pol) (j : Nat) (a : List Chunk), a.length = n + j → heapM (fun x => n + x) j (chF ps) a = a ++ chF ps
  | [], j, a, _ => by simp [chF, heapM]
  | p :: ps, j, a, h => by
    have h1 : n + j = a.length := h.symm
    have h2 : n + (j + 1) = (a ++ [Chunk.gone]).length := by simp only [List.length_append, List.length_cons, List.length_nil]; omega
    simp only [chF, heapM, renC]
    rw [h1, setC_last, h2, setC_last, heapM_chF n ps (j + 1 + 1) _ (by simp; omega)]
    have hd : renR (fun x => n + x) (dRows (p.leases.map encL)) = dRows (p.leases.map encL) := renR_d _ _
    rw [hd]
    simp
theorem renR_rowsF (n : Nat) : ∀ (ps : List Pol) (k : Nat), renR (fun x => n + x) (rowsF k ps) = rowsF (n + k) ps
  | [], _ => rfl
  | p :: ps, k => by
    simp only [rowsF, renR, renR_rowsF n ps (k + 2), polRow, renL, ren]
    rw [show n + (k + 2) = n + k + 2 by omega]
set_option maxRecDepth 100000 in
theorem beginA_m (b : Bok) (hz : ∀ p ∈ b.pools, p.leases.length ≤ 3518437208882) (h : chkBk b = 0) :
    MSpec Try.prog 31 [.d (.agg (encB b))] [] (.tup [.ptr 2 0, .d (.v (.int .i64 0))]) (.gone :: .gone :: .box 24 [.d (.v (.int .i64 b.tick)), .own 3 b.pools.length] :: .row 46 9 b.pools.length (rowsF 5 b.pools) :: chF b.pools) := by
  have hc := bkCheck_p b hz
  have hb := bookOK h
  have ho := ownA_m b hb.n8 hb.l32
  rw [h] at hc
  replace h := Lib.hid h
  refine ms_i tab_ok mixed Try.func31 rfl Try.ntmps31 Try.results31 (by kernel_rfl) (by simp) (by simp [belowL, belowP]) (by simp [belowH, belowC, belowL, belowP, belowL_d, belowR_d]) ?_
  repeat' (first | (with_reducible refine And.intro ?_ ?_) | (with_reducible refine gK_i (fun _ => ?_) (fun _ => ?_)) | (with_reducible refine condS_i (fun _ => ?_) (fun _ => ?_)) | (with_reducible refine drw_i (by kernel_rfl)) | simp -dsimp only [go_sem, ↓reduceIte, reduceCtorEq, Nat.reduceAdd, Nat.reduceMul, Nat.reduceSub, Nat.reduceLeDiff, Nat.reduceLT, Nat.reduceEqDiff, Int.reduceLE, Int.reduceLT, Int.reduceToNat, Int.reduceBEq, Int.reduceBNe, Int.reduceEq, Int.reduceAdd, Int.reduceSub, Int.reduceMul, Int.reduceNeg, Int.cast_ofNat_Int, *, encB, renR_rowsF, heapM_chF] | ((with_reducible refine opK_c ?_); simp -dsimp only [go_sem, ↓reduceIte, reduceCtorEq, Nat.reduceAdd, Nat.reduceMul, Nat.reduceSub, Nat.reduceLeDiff, Nat.reduceLT, Nat.reduceEqDiff, Int.reduceLE, Int.reduceLT, Int.reduceToNat, Int.reduceBEq, Int.reduceBNe, Int.reduceEq, Int.reduceAdd, Int.reduceSub, Int.reduceMul, Int.reduceNeg, Int.cast_ofNat_Int, encB, renR_rowsF, heapM_chF]; first | refine callK_r (by first | assumption | exact hc) (by first | exact .inl rfl | exact .inr rfl) ?_ | (refine callK_i (by assumption) ?_ ?_ ?_; (solve | (repeat (first | exact DLe.refl _ | exact DLe.nil _ | (refine DLe.tup ?_) | (refine DLe.agg ?_ rfl) | exact trivial | (refine And.intro ?_ ?_)))); (solve | exact .inl rfl | exact .inr rfl))) | (refine opK_M [] (ho) ?_ ?_ ?_ ?_ ?_ ?_; (solve | rfl | simp only [go_sem, ↓reduceIte, reduceCtorEq, Nat.reduceAdd, Nat.reduceMul, Nat.reduceSub, Nat.reduceLeDiff, Nat.reduceLT, Nat.reduceEqDiff, Int.reduceLE, Int.reduceLT, Int.reduceToNat, Int.reduceBEq, Int.reduceBNe, Int.reduceEq, Int.reduceAdd, Int.reduceSub, Int.reduceMul, Int.reduceNeg, Int.cast_ofNat_Int, encB, renR_rowsF, heapM_chF]); (solve | rfl); (solve | decide); (solve | simp); (solve | simp only [go_sem, ↓reduceIte, reduceCtorEq, Nat.reduceAdd, Nat.reduceMul, Nat.reduceSub, Nat.reduceLeDiff, Nat.reduceLT, Nat.reduceEqDiff, Int.reduceLE, Int.reduceLT, Int.reduceToNat, Int.reduceBEq, Int.reduceBNe, Int.reduceEq, Int.reduceAdd, Int.reduceSub, Int.reduceMul, Int.reduceNeg, Int.cast_ofNat_Int, lentOK, encB, renR_rowsF, heapM_chF])) | omega | exact decide_eq_true (by omega) | exact DLe.refl _)
  exact (weak_gone 0 (by simp)).trans (weak_eq rfl rfl)
end Go.Proofs.Ytbeocackphfijaa
namespace Go.Proofs.Ytbeocackphfijaa
open Go Go.RowKit
def zipF (D : List Pol) (r : List PV) (k : Nat) (ps : List Pol) : List (List PV) := dRows (D.map encPol) ++ r :: rowsF k ps
theorem zipF_len (D : List Pol) (r : List PV) (k : Nat) (ps : List Pol) : (zipF D r k ps).length = D.length + 1 + ps.length := by
  unfold zipF; rw [List.length_append, List.length_cons, rowsF_len, dRows_len, List.length_map]; omega
theorem zipF_get (D : List Pol) (r : List PV) (k : Nat) (ps : List Pol) : (zipF D r k ps)[D.length]? = some r := by
  unfold zipF
  rw [List.getElem?_append_right (by simp [dRows_len])]
  simp [dRows_len]
theorem zipF_set (D : List Pol) (r r' : List PV) (k : Nat) (ps : List Pol) : (zipF D r k ps).set D.length r' = zipF D r' k ps := by
  unfold zipF
  rw [List.set_append_right _ _ (by simp [dRows_len])]
  simp [dRows_len]
theorem fzR_rowsF (k g : Nat) (d : D) : ∀ (ps : List Pol) (k0 : Nat), k < k0 → fzR k g d (rowsF k0 ps) = rowsF k0 ps
  | [], _, _ => rfl
  | p :: ps, k0, h => by
    simp only [rowsF, fzR, fzR_rowsF k g d ps (k0 + 2) (by omega), polRow, fzL, fz]
    rw [if_neg (by omega)]
theorem fzH_app (k g : Nat) (d : D) : ∀ (l m : List Chunk) (i : Nat), fzH k g d i (l ++ m) = fzH k g d i l ++ fzH k g d (i + l.length) m
  | [], m, i => rfl
  | c :: l, m, i => by
    simp only [List.cons_append, fzH, fzH_app k g d l m (i + 1), List.length_cons]
    rw [show i + 1 + l.length = i + (l.length + 1) by omega]
theorem fzH_same (k g : Nat) (d : D) : ∀ (l : List Chunk) (i : Nat), (∀ c ∈ l, fzC k g d c = c) → (∀ x, i ≤ x → x < i + l.length → x ≠ k) → fzH k g d i l = l
  | [], _, _, _ => rfl
  | c :: l, i, h, hx => by
    simp only [fzH]
    rw [if_neg (hx i (Nat.le_refl _) (by simp)), h c (by simp), fzH_same k g d l (i + 1) (fun c hc => h c (by simp [hc])) (fun x h1 h2 => hx x (by omega) (by simp; omega))]
theorem chF_mem {c : Chunk} : ∀ {ps : List Pol}, c ∈ chF ps → c = .gone ∨ ∃ ls, c = .row 50 5 1 (dRows ls)
  | p :: ps, h => by
    simp only [chF, List.mem_cons] at h
    rcases h with h | h | h
    · exact .inl h
    · exact .inr ⟨_, h⟩
    · exact chF_mem h
theorem chF_at : ∀ (ps : List Pol) (x : List Chunk) (i : Nat) (p : Pol), ps[i]? = some p → hatL (chF ps ++ x) (2 * i + 1) = .row 50 5 1 (dRows (p.leases.map encL))
  | q :: ps, x, 0, p, h => by simp at h; subst h; rfl
  | q :: ps, x, i + 1, p, h => by
    simp only [List.getElem?_cons_succ] at h
    have := chF_at ps x i p h
    simp only [chF, List.cons_append]
    rw [show 2 * (i + 1) + 1 = (2 * i + 1) + 1 + 1 by omega]
    exact this
theorem hat_right : ∀ (a b : List Chunk) (i : Nat), hatL (a ++ b) (a.length + i) = hatL b i
  | [], b, i => by simp
  | c :: a, b, i => by
    simp only [List.cons_append, List.length_cons]
    rw [show a.length + 1 + i = (a.length + i) + 1 by omega]
    exact hat_right a b i
/-- The last chunks, one of which may be turned. -/
def tailF (j : Nat) (c : Chunk) (ps : List Pol) (e : Chunk) : List Chunk := List.replicate (2 * j) .gone ++ (.gone :: c :: (chF ps ++ [e]))
structure TailOK (T : Chunk → List Chunk) (j q : Nat) (ps : List Pol) (e : Chunk) : Prop where
  a : ∀ c x, hatL (T c ++ x) (2 * j + 1) = c
  a0 : ∀ c, hatL (T c) (2 * j + 1) = c
  b : ∀ c x, hatL (T c ++ x) q = e
  b0 : ∀ c, hatL (T c) q = e
  c : ∀ c d, setC (T c) (2 * j + 1) d = T d
  len : ∀ c, (T c).length = q + 1
  h : ∀ n c, belowC n c = true → belowC n e = true → belowH n (T c) = true
  r : ∀ c x i p, ps[i]? = some p → hatL (T c ++ x) (2 * j + 1 + 2 * (i + 1)) = .row 50 5 1 (dRows (p.leases.map encL))
  f : ∀ c g d, fzC (2 * j + 7) g d e = e → fzH (2 * j + 7) g d 6 (T c) = T .gone
theorem tail_split (j : Nat) (c : Chunk) (ps : List Pol) (e : Chunk) : tailF j c ps e = (List.replicate (2 * j) Chunk.gone ++ [.gone]) ++ c :: (chF ps ++ [e]) := by
  unfold tailF; simp
theorem tailOK (j q : Nat) (ps : List Pol) (e : Chunk) (hq : q = 2 * j + 2 + 2 * ps.length) : TailOK (fun c => tailF j c ps e) j q ps e := by
  have hA : (List.replicate (2 * j) Chunk.gone ++ [Chunk.gone]).length = 2 * j + 1 := by simp
  have a0 : ∀ c, hatL (tailF j c ps e) (2 * j + 1) = c := fun c => by rw [tail_split, ← hA]; exact hat_end _ _ _
  have hl : ∀ c, (tailF j c ps e).length = q + 1 := fun c => by unfold tailF; simp [chF_len]; omega
  have b0 : ∀ c, hatL (tailF j c ps e) q = e := fun c => by
    have : tailF j c ps e = (List.replicate (2 * j) Chunk.gone ++ (.gone :: c :: chF ps)) ++ [e] := by unfold tailF; simp
    rw [this, hat_snoc, if_pos]
    simp [chF_len]; omega
  refine ⟨fun c x => ?_, a0, fun c x => ?_, b0, fun c d => ?_, hl, fun n c h1 h2 => ?_, fun c x i p hp => ?_, fun c g d he => ?_⟩
  · rw [hat_app _ _ _ (by rw [hl]; omega), a0]
  · rw [hat_app _ _ _ (by rw [hl]; omega), b0]
  · show setC (tailF j c ps e) (2 * j + 1) d = tailF j d ps e
    rw [tail_split, tail_split, ← hA]; exact setC_app _ _ _ _
  · have : belowH n (List.replicate (2 * j) Chunk.gone) = true := by
      generalize 2 * j = m
      induction m with
      | zero => rfl
      | succ m ih => rw [List.replicate_succ]; simp only [belowH, belowC, ih, Bool.and_self]
    show belowH n (tailF j c ps e) = true
    unfold tailF
    simp only [belowH_app, belowH, this, h1, h2, belowH_chF, Bool.and_true, Bool.true_and]; rfl
  · show hatL (tailF j c ps e ++ x) _ = _
    have : tailF j c ps e ++ x = (List.replicate (2 * j) Chunk.gone ++ [.gone, c]) ++ (chF ps ++ ([e] ++ x)) := by unfold tailF; simp
    rw [this]
    have hlen : (List.replicate (2 * j) Chunk.gone ++ [.gone, c]).length = 2 * j + 2 := by simp
    rw [show 2 * j + 1 + 2 * (i + 1) = (List.replicate (2 * j) Chunk.gone ++ [.gone, c]).length + (2 * i + 1) by rw [hlen]; omega, hat_right]
    exact chF_at ps _ i p hp
  · show fzH (2 * j + 7) g d 6 (tailF j c ps e) = tailF j .gone ps e
    rw [tail_split, tail_split, fzH_app, hA]
    have h1 : fzH (2 * j + 7) g d 6 (List.replicate (2 * j) Chunk.gone ++ [Chunk.gone]) = List.replicate (2 * j) Chunk.gone ++ [Chunk.gone] := by
      refine fzH_same _ _ _ _ _ (fun c hc => ?_) (fun x h1 h2 => by rw [hA] at h2; omega)
      have : c = .gone := by simp at hc; rcases hc with h | h <;> first | exact h.2 | exact h
      subst this; rfl
    rw [h1, show 6 + (2 * j + 1) = 2 * j + 7 by omega]
    simp only [fzH, if_true]
    rw [fzH_same _ _ _ _ _ (fun c hc => ?_) (fun x h1 h2 => by omega)]
    simp only [List.mem_append, List.mem_singleton] at hc
    rcases hc with hc | rfl
    · rcases chF_mem hc with rfl | ⟨ls, rfl⟩
      · rfl
      · simp only [fzC, fzR_d]
    · exact he
theorem viewR_rowsF {h : Nat → Chunk} {n : Nat} : ∀ (ps : List Pol) (k : Nat), (∀ i p, ps[i]? = some p → ∃ ls, h (k + 2 * i) = .row 50 5 1 (dRows ls)) → ∃ ds, viewR (viewF h (n + 1)) (rowsF k ps) = some ds
  | [], _, _ => ⟨[], rfl⟩
  | p :: ps, k, hk => by
    obtain ⟨ls, h1⟩ := hk 0 p rfl
    obtain ⟨ds, h2⟩ := viewR_rowsF (n := n) ps (k + 2) (fun i q hq => by
      obtain ⟨ls, h3⟩ := hk (i + 1) q (by simpa using hq)
      exact ⟨ls, by rw [← h3]; congr 1; omega⟩)
    rw [Nat.mul_zero, Nat.add_zero] at h1
    simp only [rowsF, viewR, h2, polRow, viewL, viewF, viewF_d, h1, if_true, viewR_d, Option.map_some]
    exact ⟨_, rfl⟩
end Go.Proofs.Ytbeocackphfijaa
namespace Go.Proofs.Ytbeocackphfijaa
open Go Go.RowKit
/-- A lease that is over. -/
def overB (t : Int) (l : Lse) : Bool := (l.kind == 3) && decide (l.till ≤ t)
theorem pass1_p (l : Lse) (t : Int) (x : D) : PSpec Try.prog 72 [.agg (encL l), .ept [.ept [.v (.int .i64 t), x]]] (.v (.bool (overB t l))) := by
  unfold overB
  refine ps_i tab_ok mixed Try.func72 rfl Try.ntmps72 Try.results72 (by kernel_rfl) ?_
  repeat' (first | (with_reducible refine And.intro ?_ ?_) | (with_reducible refine gK_i (fun _ => ?_) (fun _ => ?_)) | (with_reducible refine condS_i (fun _ => ?_) (fun _ => ?_)) | (with_reducible refine drw_i (by kernel_rfl)) | simp -dsimp only [go_sem, ↓reduceIte, reduceCtorEq, Nat.reduceAdd, Nat.reduceMul, Nat.reduceSub, Nat.reduceLeDiff, Nat.reduceLT, Nat.reduceEqDiff, Int.reduceLE, Int.reduceLT, Int.reduceToNat, Int.reduceBEq, Int.reduceBNe, Int.reduceEq, Int.reduceAdd, Int.reduceSub, Int.reduceMul, Int.reduceNeg, Int.cast_ofNat_Int, *, encL, undef] | ((with_reducible refine opK_c ?_); simp -dsimp only [go_sem, ↓reduceIte, reduceCtorEq, Nat.reduceAdd, Nat.reduceMul, Nat.reduceSub, Nat.reduceLeDiff, Nat.reduceLT, Nat.reduceEqDiff, Int.reduceLE, Int.reduceLT, Int.reduceToNat, Int.reduceBEq, Int.reduceBNe, Int.reduceEq, Int.reduceAdd, Int.reduceSub, Int.reduceMul, Int.reduceNeg, Int.cast_ofNat_Int, encL, undef]; first | refine callK_r (by first | assumption | fail) (by first | exact .inl rfl | exact .inr rfl) ?_ | (refine callK_i (by assumption) ?_ ?_ ?_; (solve | (repeat (first | exact DLe.refl _ | exact DLe.nil _ | (refine DLe.tup ?_) | (refine DLe.agg ?_ rfl) | exact trivial | (refine And.intro ?_ ?_)))); (solve | exact .inl rfl | exact .inr rfl))) | fail | omega | exact decide_eq_true (by omega) | exact DLe.refl _)
/-- Pass's answer. -/
def passP (t : Int) (p : Pol) : Pol := { p with leases := p.leases.filter fun l => !overB t l }
def passR (b : Bok) (n : Int) : Bok × Int :=
  if chkBk b ≠ 0 then (Bok.zero, chkBk b) else
  if n < 1 ∨ n > 1073741824 - b.tick then (Bok.zero, 3) else (⟨b.tick + n, b.pools.map (passP (b.tick + n))⟩, 0)
/-- The heap, while a book passes. -/
def passH (b : Bok) (t : Int) (rows : List (List PV)) (T : List Chunk) : List Chunk :=
  .box 24 [.d (.v (.int .i64 b.tick)), .d (.sl 9 (b.pools.map encPol))] :: .box 24 [.d (.v (.int .i64 0)), .d (.v (.slice none 0 0))] :: .gone :: .gone :: .box 24 [.d (.v (.int .i64 t)), .own 5 b.pools.length] :: .row 46 9 b.pools.length rows :: T
theorem passH_below {b : Bok} {t : Int} {rows : List (List PV)} {T : List Chunk} {n : Nat} (h1 : belowR n rows = true) (h2 : belowH n T = true) (h3 : 6 ≤ n) : belowH n (passH b t rows T) = true := by
  simp only [passH, belowH, belowC, belowL, belowP, h1, h2, Bool.and_true, Bool.true_and, decide_eq_true_eq]
  omega
set_option maxRecDepth 100000 in
set_option maxHeartbeats 1000000 in
theorem pass_p (b : Bok) (n : Int) (hz : ∀ p ∈ b.pools, p.leases.length ≤ 3518437208882) : PSpec Try.prog 22 [.agg (encB b), .v (.int .i64 n)] (.tup [.agg (encB (passR b n).1), .v (.int .i64 (passR b n).2)]) := by
  obtain ⟨R, hR⟩ : ∃ R, R = passR b n := ⟨_, rfl⟩
  rw [← hR]
  replace hR := Lib.hid hR
  by_cases hc : chkBk b = 0
  · have hbk := bookOK hc
    have hbg := beginA_m b hz hc
    have ht := hbk.tick
    have hws : IntKind.i64.wrap (1073741824 - b.tick) = 1073741824 - b.tick := by rw [IntKind.wrap_i64]; omega
    have hR2 : R = if n < 1 ∨ n > 1073741824 - b.tick then (Bok.zero, 3) else (⟨b.tick + n, b.pools.map (passP (b.tick + n))⟩, 0) := by rw [hR.out]; unfold passR; rw [if_neg (by simpa using hc)]
    replace hR2 := Lib.hid hR2
    clear hR hc
    by_cases hn : n < 1 ∨ n > 1073741824 - b.tick
    · clear hbk
      refine ps_i tab_ok mixed Try.func22 rfl Try.ntmps22 Try.results22 (by kernel_rfl) ?_
      repeat' (first | (with_reducible refine And.intro ?_ ?_) | (with_reducible refine gK_i (fun _ => ?_) (fun _ => ?_)) | (with_reducible refine condS_i (fun _ => ?_) (fun _ => ?_)) | (with_reducible refine drw_i (by kernel_rfl)) | simp -dsimp only [go_sem, ↓reduceIte, reduceCtorEq, Nat.reduceAdd, Nat.reduceMul, Nat.reduceSub, Nat.reduceLeDiff, Nat.reduceLT, Nat.reduceEqDiff, Int.reduceLE, Int.reduceLT, Int.reduceToNat, Int.reduceBEq, Int.reduceBNe, Int.reduceEq, Int.reduceAdd, Int.reduceSub, Int.reduceMul, Int.reduceNeg, Int.cast_ofNat_Int, *, encB, renR_rowsF, heapM_chF, hws, setC_last, setC_last1, hat_end, undef] | ((with_reducible refine opK_c ?_); simp -dsimp only [go_sem, ↓reduceIte, reduceCtorEq, Nat.reduceAdd, Nat.reduceMul, Nat.reduceSub, Nat.reduceLeDiff, Nat.reduceLT, Nat.reduceEqDiff, Int.reduceLE, Int.reduceLT, Int.reduceToNat, Int.reduceBEq, Int.reduceBNe, Int.reduceEq, Int.reduceAdd, Int.reduceSub, Int.reduceMul, Int.reduceNeg, Int.cast_ofNat_Int, encB, renR_rowsF, heapM_chF, hws, setC_last, setC_last1, hat_end, undef]; first | refine callK_r (by first | assumption | fail) (by first | exact .inl rfl | exact .inr rfl) ?_ | (refine callK_i (by assumption) ?_ ?_ ?_; (solve | (repeat (first | exact DLe.refl _ | exact DLe.nil _ | (refine DLe.tup ?_) | (refine DLe.agg ?_ rfl) | exact trivial | (refine And.intro ?_ ?_)))); (solve | exact .inl rfl | exact .inr rfl))) | (refine opK_M [] (hbg) ?_ ?_ ?_ ?_ ?_ ?_; (solve | rfl | simp only [go_sem, ↓reduceIte, reduceCtorEq, Nat.reduceAdd, Nat.reduceMul, Nat.reduceSub, Nat.reduceLeDiff, Nat.reduceLT, Nat.reduceEqDiff, Int.reduceLE, Int.reduceLT, Int.reduceToNat, Int.reduceBEq, Int.reduceBNe, Int.reduceEq, Int.reduceAdd, Int.reduceSub, Int.reduceMul, Int.reduceNeg, Int.cast_ofNat_Int, encB, renR_rowsF, heapM_chF]); (solve | rfl); (solve | decide); (solve | simp); (solve | simp only [go_sem, ↓reduceIte, reduceCtorEq, Nat.reduceAdd, Nat.reduceMul, Nat.reduceSub, Nat.reduceLeDiff, Nat.reduceLT, Nat.reduceEqDiff, Int.reduceLE, Int.reduceLT, Int.reduceToNat, Int.reduceBEq, Int.reduceBNe, Int.reduceEq, Int.reduceAdd, Int.reduceSub, Int.reduceMul, Int.reduceNeg, Int.cast_ofNat_Int, lentOK, encB, renR_rowsF, heapM_chF])) | omega | exact decide_eq_true (by omega) | exact DLe.refl _)
      all_goals first
        | (exfalso; rename_i q1 q2; simp only [decide_eq_false_iff_not] at q1 q2; omega)
        | (clear hz hbg; (rw [show R = (Bok.zero, 3) from (by rw [hR2.out]; grind)]; (try simp only [List.map_append, List.map_cons]); exact (by repeat (first | exact DLe.refl _ | exact DLe.nil _ | (refine DLe.tup ?_) | (refine DLe.agg ?_ rfl) | exact trivial | (refine And.intro ?_ ?_)))))
    · have h1 : decide (n < 1) = false := by simp; omega
      have h2 : decide (n > 1073741824 - b.tick) = false := by simp; omega
      have hwt : IntKind.i64.wrap (b.tick + n) = b.tick + n := by rw [IntKind.wrap_i64]; omega
      replace hn := Lib.hid hn
      refine ps_i tab_ok mixed Try.func22 rfl Try.ntmps22 Try.results22 (by kernel_rfl) ?_
      repeat' (first | (with_reducible refine And.intro ?_ ?_) | (with_reducible refine gK_i (fun _ => ?_) (fun _ => ?_)) | (with_reducible refine condS_i (fun _ => ?_) (fun _ => ?_)) | (with_reducible refine drw_i (by kernel_rfl)) | simp -dsimp only [go_sem, ↓reduceIte, reduceCtorEq, Nat.reduceAdd, Nat.reduceMul, Nat.reduceSub, Nat.reduceLeDiff, Nat.reduceLT, Nat.reduceEqDiff, Int.reduceLE, Int.reduceLT, Int.reduceToNat, Int.reduceBEq, Int.reduceBNe, Int.reduceEq, Int.reduceAdd, Int.reduceSub, Int.reduceMul, Int.reduceNeg, Int.cast_ofNat_Int, *, encB, renR_rowsF, heapM_chF, hws, h1, h2, hwt, setC_last, setC_last1, hat_end, rowsF_len, undef] | ((with_reducible refine opK_c ?_); simp -dsimp only [go_sem, ↓reduceIte, reduceCtorEq, Nat.reduceAdd, Nat.reduceMul, Nat.reduceSub, Nat.reduceLeDiff, Nat.reduceLT, Nat.reduceEqDiff, Int.reduceLE, Int.reduceLT, Int.reduceToNat, Int.reduceBEq, Int.reduceBNe, Int.reduceEq, Int.reduceAdd, Int.reduceSub, Int.reduceMul, Int.reduceNeg, Int.cast_ofNat_Int, encB, renR_rowsF, heapM_chF, hws, h1, h2, hwt, setC_last, setC_last1, hat_end, rowsF_len, undef]; first | refine callK_r (by first | assumption | fail) (by first | exact .inl rfl | exact .inr rfl) ?_ | (refine callK_i (by assumption) ?_ ?_ ?_; (solve | (repeat (first | exact DLe.refl _ | exact DLe.nil _ | (refine DLe.tup ?_) | (refine DLe.agg ?_ rfl) | exact trivial | (refine And.intro ?_ ?_)))); (solve | exact .inl rfl | exact .inr rfl))) | (refine opK_M [] (hbg) ?_ ?_ ?_ ?_ ?_ ?_; (solve | rfl | simp only [go_sem, ↓reduceIte, reduceCtorEq, Nat.reduceAdd, Nat.reduceMul, Nat.reduceSub, Nat.reduceLeDiff, Nat.reduceLT, Nat.reduceEqDiff, Int.reduceLE, Int.reduceLT, Int.reduceToNat, Int.reduceBEq, Int.reduceBNe, Int.reduceEq, Int.reduceAdd, Int.reduceSub, Int.reduceMul, Int.reduceNeg, Int.cast_ofNat_Int, encB, renR_rowsF, heapM_chF]); (solve | rfl); (solve | decide); (solve | simp); (solve | simp only [go_sem, ↓reduceIte, reduceCtorEq, Nat.reduceAdd, Nat.reduceMul, Nat.reduceSub, Nat.reduceLeDiff, Nat.reduceLT, Nat.reduceEqDiff, Int.reduceLE, Int.reduceLT, Int.reduceToNat, Int.reduceBEq, Int.reduceBNe, Int.reduceEq, Int.reduceAdd, Int.reduceSub, Int.reduceMul, Int.reduceNeg, Int.cast_ofNat_Int, lentOK, encB, renR_rowsF, heapM_chF])) | omega | exact decide_eq_true (by omega) | exact DLe.refl _)
      have hqn := chF_len b.pools
      rw [hqn]
      refine loopG tab_ok mixed (fun m e h => ∃ (pre rest : List Pol), b.pools = pre ++ rest ∧ m = rest.length ∧ e = [(44, .d (.v (.int .i64 pre.length))), (43, .d (.v (.int .i64 b.pools.length))), (6, .ptr (2 * b.pools.length + 6) 0), (5, .d (.v (.int .i64 0))), (4, .ptr 1 0)] ∧
        h = passH b (b.tick + n) (dRows ((pre.map (passP (b.tick + n))).map encPol) ++ rowsF (2 * pre.length + 7) rest) (List.replicate (2 * pre.length) .gone ++ (chF rest ++ [.box 54 [.ptr 4 0]]))) _ _ _ ⟨[], b.pools, rfl, rfl, rfl, rfl⟩ ?_ ?_
      · refine weak_forget [] (by simp) (by simp only [passH, List.map_nil, List.append_nil, List.length_nil, Nat.mul_zero, List.replicate_zero, List.nil_append]; rfl) (by (repeat' (first | exact trivial | (refine ⟨rfl, ?_⟩)))) (by simp [passH, belowE, belowP, chF_len]) ?_
        refine passH_below (by simp only [List.map_nil, List.length_nil]; exact belowR_rowsF _ b.pools 7 (by simp [passH, chF_len]; omega)) ?_ (by simp [passH])
        simp [belowH_app, belowH_chF, belowH, belowC, belowL, belowP, passH]
      · rintro m e h ⟨pre, rest, hpr, hm, rfl, rfl⟩ C hC
        cases rest with
        | nil =>
          have hN : b.pools.length = pre.length := by rw [hpr]; simp
          have hq : hatL (List.replicate (2 * pre.length) Chunk.gone ++ [.box 54 [.ptr 4 0]]) (2 * b.pools.length) = .box 54 [.ptr 4 0] := by rw [hat_snoc, if_pos (by simp; omega)]
          have hjI : ¬ (pre.length : Int) < (b.pools.length : Int) := by omega
          have hpr2 : b.pools = pre := by rw [hpr]; simp
          have hR3 := hR2.out
          rw [if_neg hn.out, hpr2] at hR3
          clear hC hm hpr hpr2 hN
          replace hjI : decide ((pre.length : Int) < (b.pools.length : Int)) = false := by simpa using hjI
          simp only [passH, rowsF, chF, List.append_nil, List.nil_append]
          generalize List.replicate (2 * pre.length) Chunk.gone ++ [Chunk.box 54 [.ptr 4 0]] = T at *
          replace hR3 := Lib.hid hR3
          repeat' (first | (with_reducible refine And.intro ?_ ?_) | (with_reducible refine gK_i (fun _ => ?_) (fun _ => ?_)) | (with_reducible refine condS_i (fun _ => ?_) (fun _ => ?_)) | (with_reducible refine drw_i (by kernel_rfl)) | simp -dsimp only [go_sem, ↓reduceIte, reduceCtorEq, Nat.reduceAdd, Nat.reduceMul, Nat.reduceSub, Nat.reduceLeDiff, Nat.reduceLT, Nat.reduceEqDiff, Int.reduceLE, Int.reduceLT, Int.reduceToNat, Int.reduceBEq, Int.reduceBNe, Int.reduceEq, Int.reduceAdd, Int.reduceSub, Int.reduceMul, Int.reduceNeg, Int.cast_ofNat_Int, *, encB, hjI, hq] | ((with_reducible refine opK_c ?_); simp -dsimp only [go_sem, ↓reduceIte, reduceCtorEq, Nat.reduceAdd, Nat.reduceMul, Nat.reduceSub, Nat.reduceLeDiff, Nat.reduceLT, Nat.reduceEqDiff, Int.reduceLE, Int.reduceLT, Int.reduceToNat, Int.reduceBEq, Int.reduceBNe, Int.reduceEq, Int.reduceAdd, Int.reduceSub, Int.reduceMul, Int.reduceNeg, Int.cast_ofNat_Int, encB, hjI, hq]; first | refine callK_r (by first | assumption | fail) (by first | exact .inl rfl | exact .inr rfl) ?_ | (refine callK_i (by assumption) ?_ ?_ ?_; (solve | (repeat (first | exact DLe.refl _ | exact DLe.nil _ | (refine DLe.tup ?_) | (refine DLe.agg ?_ rfl) | exact trivial | (refine And.intro ?_ ?_)))); (solve | exact .inl rfl | exact .inr rfl))) | fail | omega | exact decide_eq_true (by omega) | exact DLe.refl _)
          rw [hR3.out]
          exact (by repeat (first | exact DLe.refl _ | exact DLe.nil _ | (refine DLe.tup ?_) | (refine DLe.agg ?_ rfl) | exact trivial | (refine And.intro ?_ ?_)))
        | cons p rest =>
          have hN : b.pools.length = pre.length + 1 + rest.length := by rw [hpr]; simp; omega
          have hjI : (pre.length : Int) < (b.pools.length : Int) := by omega
          have hwr : IntKind.i64.wrap ((pre.length : Int) + 1) = ((pre.length + 1 : Nat) : Int) := by rw [IntKind.wrap_i64]; have := hbk.n8; omega
          have hpl := hbk.l32 p (by rw [hpr]; simp)
          have hzl := fun r => zipF_len (pre.map (passP (b.tick + n))) r (2 * pre.length + 7 + 2) rest
          have hzg := fun r => zipF_get (pre.map (passP (b.tick + n))) r (2 * pre.length + 7 + 2) rest
          have hzs := fun r r' => zipF_set (pre.map (passP (b.tick + n))) r r' (2 * pre.length + 7 + 2) rest
          rw [List.length_map] at hzl
          simp only [List.length_map] at hzg hzs
          obtain ⟨T, hT, hTe⟩ : ∃ T : Chunk → List Chunk, TailOK T pre.length (2 * b.pools.length) rest (.box 54 [.ptr 4 0]) ∧ T = fun c => tailF pre.length c rest (.box 54 [.ptr 4 0]) := ⟨_, tailOK pre.length (2 * b.pools.length) rest (.box 54 [.ptr 4 0]) (by omega), rfl⟩
          have hTg : T .gone = List.replicate (2 * (pre ++ [p]).length) .gone ++ (chF rest ++ [.box 54 [.ptr 4 0]]) := by
            rw [hTe]
            show tailF _ _ _ _ = _
            unfold tailF
            rw [List.length_append, List.length_cons, List.length_nil, show 2 * (pre.length + (0 + 1)) = 2 * pre.length + 1 + 1 by omega, List.replicate_succ', List.replicate_succ']
            simp
          have hTc : T (.row 50 5 1 (dRows (p.leases.map encL))) = List.replicate (2 * pre.length) .gone ++ (chF (p :: rest) ++ [.box 54 [.ptr 4 0]]) := by rw [hTe]; rfl
          rw [← hTc]
          clear hTe hTc
          have hzc : dRows ((pre.map (passP (b.tick + n))).map encPol) ++ rowsF (2 * pre.length + 7) (p :: rest) = zipF (pre.map (passP (b.tick + n))) (polRow p (.own (2 * pre.length + 7) 1)) (2 * pre.length + 7 + 2) rest := rfl
          rw [hzc]
          clear hzc
          have hview : ∀ (m : List Lse) (x : List Chunk) (v : Nat), ∃ d, viewL (viewF (hatL (passH b (b.tick + n) (zipF (pre.map (passP (b.tick + n))) (polRow p (.own (2 * pre.length + 7) 1)) (2 * pre.length + 7 + 2) rest) (T (.row 50 5 1 (dRows (m.map encL))) ++ x))) (v + 5)) [.ptr (2 * b.pools.length + 6) 0] = some [.ept [.ept [.v (.int .i64 (b.tick + n)), d]]] := by
            intro m x v
            obtain ⟨ds, hds⟩ := viewR_rowsF (h := hatL (passH b (b.tick + n) (zipF (pre.map (passP (b.tick + n))) (polRow p (.own (2 * pre.length + 7) 1)) (2 * pre.length + 7 + 2) rest) (T (.row 50 5 1 (dRows (m.map encL))) ++ x))) (n := v + 1) rest (2 * pre.length + 7 + 2) (fun i q hq => ⟨q.leases.map encL, by
              rw [show 2 * pre.length + 7 + 2 + 2 * i = 2 * pre.length + 1 + 2 * (i + 1) + 6 by omega]
              exact hT.r _ x i q hq⟩)
            have h1 : hatL (passH b (b.tick + n) (zipF (pre.map (passP (b.tick + n))) (polRow p (.own (2 * pre.length + 7) 1)) (2 * pre.length + 7 + 2) rest) (T (.row 50 5 1 (dRows (m.map encL))) ++ x)) (2 * b.pools.length + 6) = .box 54 [.ptr 4 0] := hT.b _ x
            have h2 : hatL (passH b (b.tick + n) (zipF (pre.map (passP (b.tick + n))) (polRow p (.own (2 * pre.length + 7) 1)) (2 * pre.length + 7 + 2) rest) (T (.row 50 5 1 (dRows (m.map encL))) ++ x)) (2 * pre.length + 7) = .row 50 5 1 (dRows (m.map encL)) := hT.a _ x
            have h3 : ∀ r T', hatL (passH b (b.tick + n) r T') 4 = .box 24 [.d (.v (.int .i64 (b.tick + n))), .own 5 b.pools.length] := fun _ _ => rfl
            have h4 : ∀ r T', hatL (passH b (b.tick + n) r T') 5 = .row 46 9 b.pools.length r := fun _ _ => rfl
            have h5 : ∃ e, viewR (viewF (hatL (passH b (b.tick + n) (zipF (pre.map (passP (b.tick + n))) (polRow p (.own (2 * pre.length + 7) 1)) (2 * pre.length + 7 + 2) rest) (T (.row 50 5 1 (dRows (m.map encL))) ++ x))) (v + 2)) (zipF (pre.map (passP (b.tick + n))) (polRow p (.own (2 * pre.length + 7) 1)) (2 * pre.length + 7 + 2) rest) = some e := by
              generalize hH : hatL (passH b (b.tick + n) (zipF (pre.map (passP (b.tick + n))) (polRow p (.own (2 * pre.length + 7) 1)) (2 * pre.length + 7 + 2) rest) (T (.row 50 5 1 (dRows (m.map encL))) ++ x)) = H at *
              simp only [zipF, viewR_app, viewR_d, viewR, hds, polRow, viewL, viewF, viewF_d, h2, if_true, Option.map_some]
              exact ⟨_, rfl⟩
            obtain ⟨e, he⟩ := h5
            refine ⟨.sl 9 e, ?_⟩
            simp only [viewL, viewF, h1, h3, h4, List.drop_zero, if_true, he, viewF_d, Option.map_some]
          have hset : ∀ r c c', setC (passH b (b.tick + n) r (T c)) (2 * pre.length + 7) c' = passH b (b.tick + n) r (T c') := by
            intro r c c'
            show _ :: _ :: _ :: _ :: _ :: _ :: setC (T c) (2 * pre.length + 1) c' = _
            rw [hT.c]; rfl
          have hbel : ∀ m : List Lse, belowH (passH b (b.tick + n) (zipF (pre.map (passP (b.tick + n))) (polRow p (.own (2 * pre.length + 7) 1)) (2 * pre.length + 7 + 2) rest) (T (.row 50 5 1 (dRows (m.map encL))))).length (passH b (b.tick + n) (zipF (pre.map (passP (b.tick + n))) (polRow p (.own (2 * pre.length + 7) 1)) (2 * pre.length + 7 + 2) rest) (T (.row 50 5 1 (dRows (m.map encL))))) = true := by
            intro m
            have hl : (passH b (b.tick + n) (zipF (pre.map (passP (b.tick + n))) (polRow p (.own (2 * pre.length + 7) 1)) (2 * pre.length + 7 + 2) rest) (T (.row 50 5 1 (dRows (m.map encL))))).length = 2 * b.pools.length + 7 := by simp [passH, hT.len]
            rw [hl]
            refine passH_below ?_ (hT.h _ _ (belowR_d _ _) (by simp [belowC, belowL, belowP])) (by omega)
            unfold zipF
            rw [belowR_app, belowR_d]
            simp only [belowR, polRow, belowL, belowP, belowR_rowsF (2 * b.pools.length + 7) rest (2 * pre.length + 7 + 2) (by omega), Bool.and_true, Bool.true_and, decide_eq_true_eq]
            first | done | omega
          have hdl := delf_Lease (overB (b.tick + n)) p.leases (2 * pre.length + 7) 1 72 [.ptr (2 * b.pools.length + 6) 0] (passH b (b.tick + n) (zipF (pre.map (passP (b.tick + n))) (polRow p (.own (2 * pre.length + 7) 1)) (2 * pre.length + 7 + 2) rest) (T (.row 50 5 1 (dRows (p.leases.map encL))))) (hT.a0 _)
            (by simp [passH, hT.len, belowL, belowP]) (hbel p.leases) (by omega)
            (by
              obtain ⟨d, hd⟩ := hview p.leases [] 0
              rw [List.append_nil] at hd
              exact ⟨_, hd, fun x _ => pass1_p x (b.tick + n) d⟩)
            (fun m c => by
              obtain ⟨d, hd⟩ := hview m [c] 1
              rw [hset]
              exact ⟨_, hd, fun x _ => pass1_p x (b.tick + n) d⟩)
          rw [hset] at hdl
          have hTa := hT.a0
          have hTb := hT.b0
          have hTc2 := hT.c
          have hTl := hT.len
          have hTf := hT.f
          have hTh := hT.h
          clear hview hset hbel hT hbg hR2
          simp only [passH, polRow] at hdl ⊢
          replace hN := Lib.hid hN
          replace hm := Lib.hid hm
          replace hpr := Lib.hid hpr
          replace hTg := Lib.hid hTg
          replace hTf := Lib.hid hTf
          replace hTh := Lib.hid hTh
          replace hn := Lib.hid hn
          clear hbk hpl ht
          repeat' (first | (with_reducible refine And.intro ?_ ?_) | (with_reducible refine gK_i (fun _ => ?_) (fun _ => ?_)) | (with_reducible refine condS_i (fun _ => ?_) (fun _ => ?_)) | (with_reducible refine drw_i (by kernel_rfl)) | simp -dsimp only [go_sem, ↓reduceIte, reduceCtorEq, Nat.reduceAdd, Nat.reduceMul, Nat.reduceSub, Nat.reduceLeDiff, Nat.reduceLT, Nat.reduceEqDiff, Int.reduceLE, Int.reduceLT, Int.reduceToNat, Int.reduceBEq, Int.reduceBNe, Int.reduceEq, Int.reduceAdd, Int.reduceSub, Int.reduceMul, Int.reduceNeg, Int.cast_ofNat_Int, *, encB, encPol, hjI, hwr, hTa, hTb, hTc2, hTl, hzg, hzl, hzs] | ((with_reducible refine opK_c ?_); simp -dsimp only [go_sem, ↓reduceIte, reduceCtorEq, Nat.reduceAdd, Nat.reduceMul, Nat.reduceSub, Nat.reduceLeDiff, Nat.reduceLT, Nat.reduceEqDiff, Int.reduceLE, Int.reduceLT, Int.reduceToNat, Int.reduceBEq, Int.reduceBNe, Int.reduceEq, Int.reduceAdd, Int.reduceSub, Int.reduceMul, Int.reduceNeg, Int.cast_ofNat_Int, encB, encPol, hjI, hwr, hTa, hTb, hTc2, hTl, hzg, hzl, hzs]; first | refine callK_r (by first | assumption | fail) (by first | exact .inl rfl | exact .inr rfl) ?_ | (refine callK_i (by assumption) ?_ ?_ ?_; (solve | (repeat (first | exact DLe.refl _ | exact DLe.nil _ | (refine DLe.tup ?_) | (refine DLe.agg ?_ rfl) | exact trivial | (refine And.intro ?_ ?_)))); (solve | exact .inl rfl | exact .inr rfl))) | (refine opK_W hdl ?_) | omega | exact decide_eq_true (by omega) | exact DLe.refl _)
          refine hC _ _ _ _ _ (by have := hm.out; simp at this; omega) ⟨pre ++ [p], rest, by rw [hpr.out]; simp, rfl, rfl, rfl⟩ ?_
          refine (weak_freeze (2 * pre.length + 7) 2 50 5 ((p.leases.filter fun x => !overB (b.tick + n) x).map encL) (hTa _)).trans ?_
          have n0 := eq_false (show ¬ (0 = 2 * pre.length + 7) by omega)
          have n1 := eq_false (show ¬ (1 = 2 * pre.length + 7) by omega)
          have n2 := eq_false (show ¬ (2 = 2 * pre.length + 7) by omega)
          have n3 := eq_false (show ¬ (3 = 2 * pre.length + 7) by omega)
          have n4 := eq_false (show ¬ (4 = 2 * pre.length + 7) by omega)
          have n5 := eq_false (show ¬ (5 = 2 * pre.length + 7) by omega)
          have hfr := fun d => fzR_rowsF (2 * pre.length + 7) 2 d rest (2 * pre.length + 7 + 2) (by omega)
          have hft := fun d => hTf.out (.row 50 5 2 (dRows ((p.leases.filter fun x => !overB (b.tick + n) x).map encL))) 2 d rfl
          simp only [fzE, fz, fzL, fzH, fzC, fzR, fzR_app, fzR_d, fzL_d, List.map_cons, List.map_nil, Nat.reduceAdd, Nat.reduceEqDiff, reduceIte, and_true, true_and, and_self, and_false, false_and, Nat.zero_add, Nat.add_zero, reduceCtorEq, zipF, hfr, hft, n0, n1, n2, n3, n4, n5, if_false]
          have hlp : (pre ++ [p]).length = pre.length + 1 := by simp
          have e1 : dRows (((pre ++ [p]).map (passP (b.tick + n))).map encPol) ++ rowsF (2 * (pre ++ [p]).length + 7) rest = dRows ((pre.map (passP (b.tick + n))).map encPol) ++ polRow p (.d (.sl 5 ((p.leases.filter fun x => !overB (b.tick + n) x).map encL))) :: rowsF (2 * pre.length + 7 + 2) rest := by
            rw [hlp, show 2 * (pre.length + 1) + 7 = 2 * pre.length + 7 + 2 by omega]
            simp [dRows, passP, encPol, polRow]
          rw [e1, ← hTg.out, hlp]
          have hle : (passH b (b.tick + n) (dRows ((pre.map (passP (b.tick + n))).map encPol) ++ polRow p (.d (.sl 5 ((p.leases.filter fun x => !overB (b.tick + n) x).map encL))) :: rowsF (2 * pre.length + 7 + 2) rest) (T .gone)).length = 2 * b.pools.length + 7 := by simp [passH, hTl]
          refine weak_forget [] (by simp) (by rw [List.append_nil]; rfl) (by (repeat' (first | exact trivial | (refine ⟨rfl, ?_⟩)))) (by rw [hle]; simp [belowE, belowP]) ?_
          rw [hle]
          refine passH_below ?_ (hTh.out _ _ rfl (by simp [belowC, belowL, belowP])) (by omega)
          have := hN.out
          rw [belowR_app, belowR_d]
          simp only [belowR, polRow, belowL, belowP, belowR_rowsF (2 * b.pools.length + 7) rest (2 * pre.length + 7 + 2) (by omega), Bool.and_true]
  · have hbg := beginE_p b hz hc
    have h1 : (chkBk b != 0) = true := by simpa using hc
    have hr : R = (Bok.zero, chkBk b) := by rw [hR.out]; unfold passR; rw [if_pos hc]
    rw [hr]
    replace hr := Lib.hid hr
    refine ps_i tab_ok mixed Try.func22 rfl Try.ntmps22 Try.results22 (by kernel_rfl) ?_
    repeat' (first | (with_reducible refine And.intro ?_ ?_) | (with_reducible refine gK_i (fun _ => ?_) (fun _ => ?_)) | (with_reducible refine condS_i (fun _ => ?_) (fun _ => ?_)) | (with_reducible refine drw_i (by kernel_rfl)) | simp -dsimp only [go_sem, ↓reduceIte, reduceCtorEq, Nat.reduceAdd, Nat.reduceMul, Nat.reduceSub, Nat.reduceLeDiff, Nat.reduceLT, Nat.reduceEqDiff, Int.reduceLE, Int.reduceLT, Int.reduceToNat, Int.reduceBEq, Int.reduceBNe, Int.reduceEq, Int.reduceAdd, Int.reduceSub, Int.reduceMul, Int.reduceNeg, Int.cast_ofNat_Int, *, encB, encP, h1] | ((with_reducible refine opK_c ?_); simp -dsimp only [go_sem, ↓reduceIte, reduceCtorEq, Nat.reduceAdd, Nat.reduceMul, Nat.reduceSub, Nat.reduceLeDiff, Nat.reduceLT, Nat.reduceEqDiff, Int.reduceLE, Int.reduceLT, Int.reduceToNat, Int.reduceBEq, Int.reduceBNe, Int.reduceEq, Int.reduceAdd, Int.reduceSub, Int.reduceMul, Int.reduceNeg, Int.cast_ofNat_Int, encB, encP, h1]; first | refine callK_r (by first | assumption | exact hbg) (by first | exact .inl rfl | exact .inr rfl) ?_ | (refine callK_i (by assumption) ?_ ?_ ?_; (solve | (repeat (first | exact DLe.refl _ | exact DLe.nil _ | (refine DLe.tup ?_) | (refine DLe.agg ?_ rfl) | exact trivial | (refine And.intro ?_ ?_)))); (solve | exact .inl rfl | exact .inr rfl))) | fail | omega | exact decide_eq_true (by omega) | exact DLe.refl _)
    exact (by repeat (first | exact DLe.refl _ | exact DLe.nil _ | (refine DLe.tup ?_) | (refine DLe.agg ?_ rfl) | exact trivial | (refine And.intro ?_ ?_)))
end Go.Proofs.Ytbeocackphfijaa
namespace Go.Proofs.Ytbeocackphfijaa
open Go Go.RowKit
def looseR : Rul := ⟨8, 16, 12, 3⟩
theorem loose_p : PSpec Try.prog 49 [] (.agg (encR looseR)) := by
  refine ps_i tab_ok mixed Try.func49 rfl Try.ntmps49 Try.results49 (by kernel_rfl) ?_
  repeat' (first | (with_reducible refine And.intro ?_ ?_) | (with_reducible refine gK_i (fun _ => ?_) (fun _ => ?_)) | (with_reducible refine condS_i (fun _ => ?_) (fun _ => ?_)) | (with_reducible refine drw_i (by kernel_rfl)) | simp -dsimp only [go_sem, ↓reduceIte, reduceCtorEq, Nat.reduceAdd, Nat.reduceMul, Nat.reduceSub, Nat.reduceLeDiff, Nat.reduceLT, Nat.reduceEqDiff, Int.reduceLE, Int.reduceLT, Int.reduceToNat, Int.reduceBEq, Int.reduceBNe, Int.reduceEq, Int.reduceAdd, Int.reduceSub, Int.reduceMul, Int.reduceNeg, Int.cast_ofNat_Int, *, encR, looseR] | ((with_reducible refine opK_c ?_); simp -dsimp only [go_sem, ↓reduceIte, reduceCtorEq, Nat.reduceAdd, Nat.reduceMul, Nat.reduceSub, Nat.reduceLeDiff, Nat.reduceLT, Nat.reduceEqDiff, Int.reduceLE, Int.reduceLT, Int.reduceToNat, Int.reduceBEq, Int.reduceBNe, Int.reduceEq, Int.reduceAdd, Int.reduceSub, Int.reduceMul, Int.reduceNeg, Int.cast_ofNat_Int, encR, looseR]; first | refine callK_r (by first | assumption | fail) (by first | exact .inl rfl | exact .inr rfl) ?_ | (refine callK_i (by assumption) ?_ ?_ ?_; (solve | (repeat (first | exact DLe.refl _ | exact DLe.nil _ | (refine DLe.tup ?_) | (refine DLe.agg ?_ rfl) | exact trivial | (refine And.intro ?_ ?_)))); (solve | exact .inl rfl | exact .inr rfl))) | fail | omega | exact decide_eq_true (by omega) | exact DLe.refl _)
def pbA : Pol := ⟨7, 0, ⟨256, 8⟩, looseR, []⟩
def pbB : Pol := { pbA with leases := [⟨⟨256, 12⟩, 1, 5, 0⟩] }
def pbC : Pol := { pbA with leases := [⟨⟨256, 12⟩, 1, 5, 0⟩, ⟨⟨320, 10⟩, 2, 8, 0⟩] }
def pbD : Pol := ⟨8, 7, ⟨320, 10⟩, ⟨11, 14, 12, 0⟩, []⟩
def pbE : Pol := { pbA with leases := [⟨⟨256, 12⟩, 3, 0, 3⟩, ⟨⟨320, 10⟩, 2, 8, 0⟩] }
def pbF : Pol := { pbA with leases := [⟨⟨320, 10⟩, 2, 8, 0⟩] }
theorem pb1 : openR Bok.zero 7 ⟨256, 8⟩ looseR = (⟨0, [pbA]⟩, 0) := by kernel_rfl
theorem pb2 : takeR ⟨0, [pbA]⟩ 7 0 5 = (⟨0, [pbB]⟩, ⟨256, 12⟩, 0) := by kernel_rfl
theorem pb3 : nestR ⟨0, [pbB]⟩ 8 7 10 ⟨11, 14, 12, 0⟩ = (⟨0, [pbC, pbD]⟩, ⟨320, 10⟩, 0) := by kernel_rfl
theorem pb4 : giveR ⟨0, [pbC, pbD]⟩ 7 ⟨256, 12⟩ = (⟨0, [pbE, pbD]⟩, 0) := by kernel_rfl
theorem pb5 : (takeR ⟨0, [pbE, pbD]⟩ 7 12 5).2 = (⟨272, 12⟩, 0) := by kernel_rfl
theorem pb6 : passR ⟨0, [pbE, pbD]⟩ 3 = (⟨3, [pbF, pbD]⟩, 0) := by kernel_rfl
theorem pb7 : (takeR ⟨3, [pbF, pbD]⟩ 7 12 5).2 = (⟨256, 12⟩, 0) := by kernel_rfl
theorem pb8 : closeR ⟨3, [pbF, pbD]⟩ 7 = (Bok.zero, 9) := by kernel_rfl
end Go.Proofs.Ytbeocackphfijaa
namespace Go.Proofs.Ytbeocackphfijaa
open Go Go.RowKit
set_option maxRecDepth 100000 in
set_option maxHeartbeats 1000000 in
theorem poolBegun_p : PSpec Try.prog 13 [] (.v (.bool true)) := by
  have h0 := loose_p
  have h1 := (open_p Bok.zero 7 ⟨256, 8⟩ looseR (by simp [Bok.zero])).args (ds := [.agg [.v (.int .i64 0), .v (.slice none 0 0)], .v (.int .i64 7), .agg (encP ⟨256, 8⟩), .agg (encR looseR)]) ⟨Bok.zero_le, DLe.refl _, DLe.refl _, DLe.refl _, trivial⟩
  have h2 := take_p ⟨0, [pbA]⟩ 7 0 5 (by simp [pbA])
  have h3 := nest_p ⟨0, [pbB]⟩ 8 7 10 ⟨11, 14, 12, 0⟩ (by simp [pbB, pbA])
  have h4 := give_p ⟨0, [pbC, pbD]⟩ 7 ⟨256, 12⟩ (by simp [pbC, pbA, pbD])
  have h5 := take_p ⟨0, [pbE, pbD]⟩ 7 12 5 (by simp [pbE, pbA, pbD])
  have h6 := pass_p ⟨0, [pbE, pbD]⟩ 3 (by simp [pbE, pbA, pbD])
  have h7 := take_p ⟨3, [pbF, pbD]⟩ 7 12 5 (by simp [pbF, pbA, pbD])
  have h8 := close_p ⟨3, [pbF, pbD]⟩ 7 (by simp [pbF, pbA, pbD])
  rw [pb1] at h1
  rw [pb2] at h2
  rw [pb3] at h3
  rw [pb4] at h4
  rw [show (takeR ⟨0, [pbE, pbD]⟩ 7 12 5).2.1 = ⟨272, 12⟩ from congrArg (·.1) pb5, show (takeR ⟨0, [pbE, pbD]⟩ 7 12 5).2.2 = 0 from congrArg (·.2) pb5] at h5
  rw [pb6] at h6
  rw [show (takeR ⟨3, [pbF, pbD]⟩ 7 12 5).2.1 = ⟨256, 12⟩ from congrArg (·.1) pb7, show (takeR ⟨3, [pbF, pbD]⟩ 7 12 5).2.2 = 0 from congrArg (·.2) pb7] at h7
  rw [pb8] at h8
  generalize (takeR ⟨0, [pbE, pbD]⟩ 7 12 5).1 = B5 at h5
  generalize (takeR ⟨3, [pbF, pbD]⟩ 7 12 5).1 = B7 at h7
  simp only [encB, encP, encR, looseR, Bok.zero, List.map_nil] at h0 h1 h2 h3 h4 h5 h6 h7 h8
  generalize List.map encPol [pbA] = PA at *
  generalize List.map encPol [pbB] = PB at *
  generalize List.map encPol [pbC, pbD] = PC at *
  generalize List.map encPol [pbE, pbD] = PE at *
  generalize List.map encPol [pbF, pbD] = PF at *
  refine ps_i tab_ok mixed Try.func13 rfl Try.ntmps13 Try.results13 (by kernel_rfl) ?_
  repeat' (first | (with_reducible refine And.intro ?_ ?_) | (with_reducible refine gK_i (fun _ => ?_) (fun _ => ?_)) | (with_reducible refine condS_i (fun _ => ?_) (fun _ => ?_)) | (with_reducible refine drw_i (by kernel_rfl)) | simp -dsimp only [go_sem, ↓reduceIte, reduceCtorEq, Nat.reduceAdd, Nat.reduceMul, Nat.reduceSub, Nat.reduceLeDiff, Nat.reduceLT, Nat.reduceEqDiff, Int.reduceLE, Int.reduceLT, Int.reduceToNat, Int.reduceBEq, Int.reduceBNe, Int.reduceEq, Int.reduceAdd, Int.reduceSub, Int.reduceMul, Int.reduceNeg, Int.cast_ofNat_Int, *, undef] | ((with_reducible refine opK_c ?_); simp -dsimp only [go_sem, ↓reduceIte, reduceCtorEq, Nat.reduceAdd, Nat.reduceMul, Nat.reduceSub, Nat.reduceLeDiff, Nat.reduceLT, Nat.reduceEqDiff, Int.reduceLE, Int.reduceLT, Int.reduceToNat, Int.reduceBEq, Int.reduceBNe, Int.reduceEq, Int.reduceAdd, Int.reduceSub, Int.reduceMul, Int.reduceNeg, Int.cast_ofNat_Int, undef]; first | refine callK_r (by first | assumption | exact h0 | exact h1 | exact h2 | exact h3 | exact h4 | exact h5 | exact h6 | exact h7 | exact h8) (by first | exact .inl rfl | exact .inr rfl) ?_ | (refine callK_i (by assumption) ?_ ?_ ?_; (solve | (repeat (first | exact DLe.refl _ | exact DLe.nil _ | (refine DLe.tup ?_) | (refine DLe.agg ?_ rfl) | exact trivial | (refine And.intro ?_ ?_)))); (solve | exact .inl rfl | exact .inr rfl))) | fail | omega | exact decide_eq_true (by omega) | exact DLe.refl _)
end Go.Proofs.Ytbeocackphfijaa
namespace Go.Proofs.Ytbeocackphfijaa
open Go Go.RowKit
theorem szI_sub {a l m : Int} (h : rightB a l = true) (h1 : l ≤ m) (h2 : m ≤ 16) : insQ ⟨a, m⟩ ⟨a, l⟩ = true := by
  obtain ⟨g1, g2, g3, g4, g5⟩ := right_bd h
  have hb := Pfx.hi_bd (p := ⟨a, l⟩) h
  obtain ⟨k, hk, -⟩ := szI_dvd g1 h1 h2
  exact insQ_iff.2 ⟨right_of (a := a) (l := m) (by omega) h2 (by omega) (by omega) (Int.emod_eq_zero_of_dvd (Int.dvd_trans ⟨k, hk⟩ (Int.dvd_of_emod_eq_zero g5))), h, h1, Int.le_refl _, hb.1⟩
/-- Fit finds the least free block, if there is one. -/
theorem fit_law {root : Pfx} {us : List Pfx} (h : SpaceOK root us) {size : Int} (hr : root.len ≤ size ∧ size ≤ 16) :
    ((fitS root us size).2.1 = false ∧ ∀ p : Pfx, p.len = size → insQ p root = true → freeP us p = false) ∨
    ((fitS root us size).2.1 = true ∧ (fitS root us size).1.len = size ∧ insQ (fitS root us size).1 root = true ∧ freeP us (fitS root us size).1 = true ∧ ∀ p : Pfx, p.len = size → insQ p root = true → freeP us p = true → (fitS root us size).1.at_ ≤ p.at_) := by
  have hck := chkS_ok.2 h
  unfold fitS
  rw [if_pos hck, if_neg (by omega)]
  have hin : ∀ p : Pfx, p.len = size → insQ p root = true → freeP us p = true → ∃ q ∈ holesS root us, insQ p q = true ∧ q.len ≤ size := by
    intro p hp h1 h2
    obtain ⟨q, hq, hi⟩ := holesS_all h h1 h2
    have := (insQ_iff.1 hi).2.2.1
    exact ⟨q, hq, hi, by omega⟩
  cases hf : (holesS root us).find? (fun q => decide (q.len ≤ size)) with
  | none =>
    refine .inl ⟨rfl, fun p hp h1 => ?_⟩
    cases h2 : freeP us p with
    | false => rfl
    | true =>
      obtain ⟨q, hq, hi, hl⟩ := hin p hp h1 h2
      have := List.find?_eq_none.1 hf q hq
      simp at this
      omega
  | some q =>
    have hql : q.len ≤ size := by simpa using List.find?_some hf
    have hqm := List.mem_of_find?_eq_some hf
    obtain ⟨k1, k2⟩ := holesS_ins h hqm
    have hsub : insQ ⟨q.at_, size⟩ q = true := szI_sub (insQ_iff.1 k1).1 hql hr.2
    refine .inr ⟨rfl, rfl, insQ_trans hsub k1, free_sub hsub k2, fun p hp h1 h2 => ?_⟩
    obtain ⟨q', hq', hi', hl'⟩ := hin p hp h1 h2
    have hpq := (insQ_iff.1 hi').2.2.2
    obtain ⟨pre, post, e, hpre⟩ := List.find?_eq_some_iff_append.1 hf |>.2
    have hsrt := holesS_sorted h
    rw [e] at hsrt hq'
    rcases List.mem_append.1 hq' with hq' | hq'
    · have := hpre q' hq'
      simp at this
      omega
    · rcases List.mem_cons.1 hq' with rfl | hq'
      · exact hpq.1
      · have := (List.pairwise_cons.1 (List.pairwise_append.1 hsrt).2.1).1 q' hq'
        have := Pfx.hi_bd (insQ_iff.1 k1).1
        unfold Apart at *
        show q.at_ ≤ p.at_
        omega
theorem rule_bd {r : Rul} {len : Int} (h : ruleOK r len = true) : len ≤ r.min ∧ r.min ≤ r.usual ∧ r.usual ≤ r.max ∧ r.max ≤ 16 ∧ 0 ≤ r.cool ∧ r.cool ≤ 1024 := by
  unfold ruleOK at h
  simp [sortedI] at h
  omega
theorem firstOK_iff : ∀ (l : List Pol) (last : Int), firstOK last l = true ↔ Rise l ∧ ∀ p ∈ l, last < p.id ∧ idOK p.id = true ∧ chkS p.root (usedP p) = 0 ∧ ruleOK p.rule p.root.len = true
  | [], last => by simp [firstOK, Rise]
  | p :: l, last => by
    have ih := firstOK_iff l p.id
    simp only [firstOK, Bool.and_eq_true, decide_eq_true_eq, beq_iff_eq, ih]
    unfold Rise
    rw [List.pairwise_cons]
    simp only [List.mem_cons, forall_eq_or_imp]
    constructor
    · rintro ⟨⟨a, b, c, d⟩, e, f⟩
      exact ⟨⟨fun q hq => (f q hq).1, e⟩, ⟨b, a, c, d⟩, fun q hq => ⟨by have := (f q hq).1; omega, (f q hq).2⟩⟩
    · rintro ⟨⟨e, f⟩, ⟨b, a, c, d⟩, g⟩
      exact ⟨⟨a, b, c, d⟩, f, fun q hq => ⟨e q hq, (g q hq).2⟩⟩
theorem secondOK_iff (b : Bok) : ∀ (l : List Pol) (roots : List Pfx), secondOK b l roots = true ↔ (∀ p ∈ l, upOK b b.pools.length p = true ∧ p.leases.all (leaseOK b p) = true) ∧ (∀ p ∈ l, p.up = 0 → ∀ r ∈ roots, p.root.meets r = false) ∧ (l.filter (fun p => p.up == 0)).Pairwise (fun p q => q.root.meets p.root = false)
  | [], roots => by simp [secondOK]
  | p :: l, roots => by
    unfold secondOK
    by_cases hu : p.up = 0
    · have hb : (p.up == 0) = true := by simpa using hu
      rw [if_pos hb, List.filter_cons_of_pos (by simpa using hu), List.pairwise_cons]
      simp only [Bool.and_eq_true, secondOK_iff b l, List.mem_cons, forall_eq_or_imp, List.mem_append, List.mem_filter, Bool.not_eq_true', List.any_eq_false]
      constructor
      · rintro ⟨a, c, d, e, f⟩
        exact ⟨⟨a, d⟩, ⟨fun _ r hr => by simpa using c r hr, fun q hq h0 r hr => e q hq h0 r (.inl hr)⟩, fun q hq => e q hq.1 (by simpa using hq.2) p.root (.inr (by simp)), f⟩
      · rintro ⟨⟨a, d⟩, ⟨c, e⟩, g, f⟩
        refine ⟨a, fun r hr => by simp [c hu r hr], d, fun q hq h0 r hr => ?_, f⟩
        rcases hr with hr | hr
        · exact e q hq h0 r hr
        · simp at hr; subst hr; exact g q ⟨hq, by simpa using h0⟩
    · have hb : ¬ (p.up == 0) = true := by simpa using hu
      rw [if_neg hb, List.filter_cons_of_neg (by simpa using hu)]
      simp only [Bool.and_eq_true, secondOK_iff b l, List.mem_cons, forall_eq_or_imp]
      constructor
      · rintro ⟨a, d, e, f⟩
        exact ⟨⟨a, d⟩, ⟨fun h => absurd h hu, e⟩, f⟩
      · rintro ⟨⟨a, d⟩, ⟨_, e⟩, f⟩
        exact ⟨a, d, e, f⟩
/-- A right book, said of its parts. -/
structure BookP (b : Bok) : Prop where
  n8 : b.pools.length ≤ 8
  tick : 0 ≤ b.tick ∧ b.tick ≤ 1073741824
  rise : Rise b.pools
  mem : ∀ p ∈ b.pools, idOK p.id = true ∧ chkS p.root (usedP p) = 0 ∧ ruleOK p.rule p.root.len = true
  up : ∀ p ∈ b.pools, upOK b b.pools.length p = true
  lease : ∀ p ∈ b.pools, ∀ l ∈ p.leases, leaseOK b p l = true
  tops : (b.pools.filter (fun p => p.up == 0)).Pairwise (fun p q => q.root.meets p.root = false)
theorem idOK_bd {n : Int} (h : idOK n = true) : 1 ≤ n ∧ n ≤ 65536 := by simpa [idOK] using h
theorem bookP {b : Bok} : chkBk b = 0 ↔ BookP b := by
  unfold chkBk
  constructor
  · intro h
    split at h
    · cases h
    · rename_i h8
      split at h
      · cases h
      · rename_i ht
        split at h
        · rename_i hf
          rw [Bool.and_eq_true, firstOK_iff, secondOK_iff] at hf
          obtain ⟨⟨h1, h2⟩, h3, h4, h5⟩ := hf
          exact ⟨by omega, by omega, h1, fun p hp => (h2 p hp).2, fun p hp => (h3 p hp).1, fun p hp l hl => List.all_eq_true.1 (h3 p hp).2 l hl, h5⟩
        · cases h
  · intro h
    have := h.n8
    have := h.tick
    rw [if_neg (by omega), if_neg (by omega), if_pos]
    rw [Bool.and_eq_true, firstOK_iff, secondOK_iff]
    exact ⟨⟨h.rise, fun p hp => ⟨by have := idOK_bd (h.mem p hp).1; omega, h.mem p hp⟩⟩, fun p hp => ⟨h.up p hp, List.all_eq_true.2 (h.lease p hp)⟩, fun _ _ _ r hr => by simp at hr, h.tops⟩
theorem poolOf_map {b : Bok} {t : Int} {f : Pol → Pol} (hf : ∀ p ∈ b.pools, (f p).id = p.id) (id : Int) : poolOf ⟨t, b.pools.map f⟩ id = (poolOf b id).map f := by
  unfold poolOf
  simp only
  rw [List.find?_map]
  congr 1
  generalize b.pools = l at hf
  induction l with
  | nil => rfl
  | cons p l ih =>
    rw [List.find?_cons, List.find?_cons]
    have := hf p (by simp)
    simp only [Function.comp, this]
    split
    · rfl
    · exact ih fun q hq => hf q (by simp [hq])
/-- What may be done to a book's pools. -/
structure MapP (b : Bok) (t : Int) (f : Pol → Pol) : Prop where
  tick : 0 ≤ t ∧ t ≤ 1073741824
  id : ∀ p ∈ b.pools, (f p).id = p.id ∧ (f p).up = p.up ∧ (f p).root = p.root ∧ (f p).rule = p.rule
  chk : ∀ p ∈ b.pools, chkS p.root (usedP (f p)) = 0
  lease : ∀ p ∈ b.pools, ∀ l ∈ (f p).leases, leaseOK ⟨t, b.pools⟩ p l = true
  for_ : ∀ p ∈ b.pools, ∀ id, p.leases.any (forB id) = true → (f p).leases.any (forB id) = true
theorem poolOf_mem {b : Bok} {id : Int} {p : Pol} (h : poolOf b id = some p) : p ∈ b.pools ∧ p.id = id := ⟨List.mem_of_find?_eq_some h, by simpa using List.find?_some h⟩
theorem upOK_map {b : Bok} {t : Int} {f : Pol → Pol} (h : MapP b t f) : ∀ (n : Nat) (p : Pol), p ∈ b.pools → upOK b n p = true → upOK ⟨t, b.pools.map f⟩ n (f p) = true
  | 0, p, hp, hu => by rw [upOK] at hu ⊢; rw [(h.id p hp).2.1]; exact hu
  | n + 1, p, hp, hu => by
    rw [upOK] at hu ⊢
    obtain ⟨e1, e2, e3, e4⟩ := h.id p hp
    rw [e2, poolOf_map (fun p hp => (h.id p hp).1), e1]
    rw [Bool.or_eq_true] at hu ⊢
    rcases hu with hu | hu
    · exact .inl hu
    · right
      cases hq : poolOf b p.up with
      | none => rw [hq] at hu; cases hu
      | some q =>
        rw [hq] at hu
        simp only [Option.map_some, Bool.and_eq_true] at hu ⊢
        have hqm := (poolOf_mem hq).1
        exact ⟨h.for_ q hqm _ hu.1, upOK_map h n q hqm hu.2⟩
theorem leaseOK_map {b : Bok} {t : Int} {f : Pol → Pol} (h : MapP b t f) {p : Pol} (hp : p ∈ b.pools) (l : Lse) : leaseOK ⟨t, b.pools.map f⟩ (f p) l = leaseOK ⟨t, b.pools⟩ p l := by
  unfold leaseOK
  rw [poolOf_map (fun p hp => (h.id p hp).1)]
  have e : poolOf ⟨t, b.pools⟩ l.owner = poolOf b l.owner := rfl
  rw [e]
  cases hq : poolOf b l.owner with
  | none => rfl
  | some q =>
    obtain ⟨e1, e2, e3, e4⟩ := h.id q (poolOf_mem hq).1
    simp only [Option.map_some, e2, e3, (h.id p hp).1]
theorem map_ok {b : Bok} (hb : BookP b) {t : Int} {f : Pol → Pol} (h : MapP b t f) : BookP ⟨t, b.pools.map f⟩ := by
  refine ⟨by simpa using hb.n8, h.tick, ?_, fun q hq => ?_, fun q hq => ?_, fun q hq l hl => ?_, ?_⟩
  · have := hb.rise
    unfold Rise at this ⊢
    simp only
    rw [List.pairwise_map]
    exact this.imp_of_mem fun {p q} hp hq hpq => by rw [(h.id p hp).1, (h.id q hq).1]; exact hpq
  · obtain ⟨p, hp, rfl⟩ := List.mem_map.1 hq
    obtain ⟨e1, e2, e3, e4⟩ := h.id p hp
    rw [e1, e3, e4]
    exact ⟨(hb.mem p hp).1, h.chk p hp, (hb.mem p hp).2.2⟩
  · obtain ⟨p, hp, rfl⟩ := List.mem_map.1 hq
    simp only [List.length_map]
    exact upOK_map h _ p hp (hb.up p hp)
  · obtain ⟨p, hp, rfl⟩ := List.mem_map.1 hq
    rw [leaseOK_map h hp]
    exact h.lease p hp l hl
  · have := hb.tops
    simp only
    rw [List.filter_map, List.pairwise_map]
    have e : b.pools.filter ((fun p => p.up == 0) ∘ f) = b.pools.filter (fun p => p.up == 0) := List.filter_congr fun p hp => by simp only [Function.comp, (h.id p hp).2.1]
    rw [e]
    exact this.imp_of_mem fun {p q} hp hq hpq => by rw [(h.id p (List.mem_filter.1 hp).1).2.2.1, (h.id q (List.mem_filter.1 hq).1).2.2.1]; exact hpq
end Go.Proofs.Ytbeocackphfijaa
namespace Go.Proofs.Ytbeocackphfijaa
open Go Go.RowKit
theorem rise_uniq {l : List Pol} (hr : Rise l) {p q : Pol} (hp : p ∈ l) (hq : q ∈ l) (h : p.id = q.id) : p = q := by
  unfold Rise at hr
  obtain ⟨i, hi, rfl⟩ := List.mem_iff_getElem.1 hp
  obtain ⟨j, hj, rfl⟩ := List.mem_iff_getElem.1 hq
  rcases Nat.lt_trichotomy i j with hlt | he | hlt
  · have := List.pairwise_iff_getElem.1 hr i j hi hj hlt; omega
  · subst he; rfl
  · have := List.pairwise_iff_getElem.1 hr j i hj hi hlt; omega
theorem poolOf_uniq {b : Bok} (hr : Rise b.pools) {p : Pol} (hp : p ∈ b.pools) : poolOf b p.id = some p := by
  cases hq : poolOf b p.id with
  | none => have := List.find?_eq_none.1 hq p hp; simp at this
  | some q => obtain ⟨h1, h2⟩ := poolOf_mem hq; rw [rise_uniq hr h1 hp h2]
/-- What Take comes to. -/
structure TakeP (b : Bok) (id size owner : Int) (p : Pol) (s : Int) (q : Pfx) : Prop where
  bp : BookP b
  pool : poolOf b id = some p
  own : idOK owner = true
  hs : s = if size = 0 then p.rule.usual else size
  fit : fitE p s = (q, 0)
  is : (takeR b id size owner).1 = updB b id fun p => { p with leases := insL ⟨q, 1, owner, 0⟩ p.leases }
  res : (takeR b id size owner).2.1 = q
theorem take_inv {b : Bok} {id size owner : Int} (h : (takeR b id size owner).2.2 = 0) : ∃ p s q, TakeP b id size owner p s q := by
  have hc : chkBk b = 0 := by
    unfold takeR at h
    split at h
    · rename_i hc; exact absurd h hc
    · rename_i hc; simpa using hc
  unfold takeR at h
  rw [if_neg (by simpa using hc)] at h
  cases hp : poolOf b id with
  | none => rw [hp] at h; cases h
  | some p =>
    rw [hp] at h
    simp only at h
    cases ho : idOK owner with
    | false => rw [if_pos ho] at h; cases h
    | true =>
      rw [if_neg (by simp [ho])] at h
      by_cases hf : (fitE p (if size = 0 then p.rule.usual else size)).2 = 0
      · refine ⟨p, _, (fitE p (if size = 0 then p.rule.usual else size)).1, bookP.1 hc, hp, ho, rfl, ?_, ?_, ?_⟩
        · exact Prod.ext rfl hf
        · unfold takeR
          rw [if_neg (by simpa using hc), hp]
          simp only
          rw [if_neg (by simp [ho]), if_neg (by simpa using hf)]
        · unfold takeR
          rw [if_neg (by simpa using hc), hp]
          simp only
          rw [if_neg (by simp [ho]), if_neg (by simpa using hf)]
      · rw [if_pos (by simpa using hf)] at h
        exact absurd h hf
theorem fitE_inv {p : Pol} {s : Int} {q : Pfx} (hc : chkS p.root (usedP p) = 0) (hr : ruleOK p.rule p.root.len = true) (h : fitE p s = (q, 0)) : p.rule.min ≤ s ∧ s ≤ p.rule.max ∧ p.leases.length ≠ 32 ∧ q.len = s ∧ insQ q p.root = true ∧ freeP (usedP p) q = true ∧ ∀ x : Pfx, x.len = s → insQ x p.root = true → freeP (usedP p) x = true → q.at_ ≤ x.at_ := by
  have hb := rule_bd hr
  unfold fitE at h
  split at h
  · cases h
  · rename_i h1
    split at h
    · cases h
    · rename_i h2
      have h2 := not_or.1 h2
      cases h
      rcases fit_law (chkS_ok.1 hc) (size := s) ⟨by omega, by omega⟩ with ⟨a, -⟩ | ⟨-, a, b, c, d⟩
      · exact absurd a h2.1
      · exact ⟨by omega, by omega, h2.2, a, b, c, d⟩
theorem free_iff {us : List Pfx} {p : Pfx} : freeP us p = true ↔ ∀ u ∈ us, p.meets u = false := by
  simp [freeP]
end Go.Proofs.Ytbeocackphfijaa
namespace Go.Proofs.Ytbeocackphfijaa
open Go Go.RowKit Go.Proofs
def holdQ (a : Int) (q : Pfx) : Bool := holdP q.at_ q.len a
theorem holdQ_iff {q : Pfx} {a : Int} : holdQ a q = true ↔ q.right = true ∧ q.at_ ≤ a ∧ a < q.hi := by
  unfold holdQ; rw [holdP_eq]; exact holdB_iff
end Go.Proofs.Ytbeocackphfijaa
namespace Go.Proofs.Ytbeocackphfijaa
open Go Go.RowKit
def Has (x : Int) (q : Pfx) : Prop := q.at_ ≤ x ∧ x < q.hi
inductive Anc (b : Bok) : Pol → Pol → Prop
  | refl (p : Pol) : Anc b p p
  | step {p q r : Pol} (h0 : p.up ≠ 0) (hq : poolOf b p.up = some q) (h : Anc b q r) : Anc b p r
theorem Anc.trans {b : Bok} {p q r : Pol} (h : Anc b p q) (k : Anc b q r) : Anc b p r := by
  induction h with
  | refl => exact k
  | step h0 hq _ ih => exact .step h0 hq (ih k)
/-- The lease for a pool, in the one above it. -/
theorem up_lease {b : Bok} (hb : BookP b) {p : Pol} (hp : p ∈ b.pools) (h0 : p.up ≠ 0) : ∃ q, poolOf b p.up = some q ∧ q ∈ b.pools ∧ (∀ n, upOK b (n + 1) p = true → upOK b n q = true) ∧ ∃ l ∈ q.leases, l.kind = 2 ∧ l.owner = p.id ∧ l.at_ = p.root := by
  have hu := hb.up p hp
  have h0' : (p.up == 0) = false := by simpa using h0
  cases hn : b.pools.length with
  | zero => rw [hn, upOK, h0'] at hu; cases hu
  | succ n =>
    rw [hn, upOK, h0', Bool.false_or] at hu
    cases hq : poolOf b p.up with
    | none => rw [hq] at hu; cases hu
    | some q =>
      rw [hq] at hu
      simp only [Bool.and_eq_true] at hu
      have hqm := (poolOf_mem hq).1
      refine ⟨q, rfl, hqm, fun m hm => ?_, ?_⟩
      · rw [upOK, h0', Bool.false_or, hq] at hm
        simp only [Bool.and_eq_true] at hm
        exact hm.2
      · obtain ⟨l, hl, hf⟩ := List.any_eq_true.1 hu.1
        simp only [forB, Bool.and_eq_true, beq_iff_eq] at hf
        refine ⟨l, hl, hf.1, hf.2, ?_⟩
        have hle := hb.lease q hqm l hl
        unfold leaseOK at hle
        rw [hf.1, hf.2, poolOf_uniq hb.rise hp] at hle
        simp at hle
        exact hle.2.1.symm
theorem leases_one {b : Bok} (hb : BookP b) {p : Pol} (hp : p ∈ b.pools) {l m : Lse} (hl : l ∈ p.leases) (hm : m ∈ p.leases) {x : Int} (h1 : Has x l.at_) (h2 : Has x m.at_) : l = m := by
  have hap := (chkS_ok.1 (hb.mem p hp).2.1).apart
  unfold usedP at hap
  rw [List.pairwise_map, List.pairwise_iff_getElem] at hap
  obtain ⟨i, hi, rfl⟩ := List.mem_iff_getElem.1 hl
  obtain ⟨j, hj, rfl⟩ := List.mem_iff_getElem.1 hm
  unfold Has at h1 h2
  rcases Nat.lt_trichotomy i j with h | h | h
  · have := hap i j hi hj h
    unfold Apart at this; omega
  · subst h; rfl
  · have := hap j i hj hi h
    unfold Apart at this; omega
theorem lease_in {b : Bok} (hb : BookP b) {p : Pol} (hp : p ∈ b.pools) {l : Lse} (hl : l ∈ p.leases) : insQ l.at_ p.root = true :=
  (chkS_ok.1 (hb.mem p hp).2.1).ins _ (List.mem_map.2 ⟨l, hl, rfl⟩)
theorem lease_has {b : Bok} (hb : BookP b) {p : Pol} (hp : p ∈ b.pools) {l : Lse} (hl : l ∈ p.leases) {x : Int} (h : Has x l.at_) : Has x p.root := by
  obtain ⟨-, -, h1, h2⟩ := insQ_hi.1 (lease_in hb hp hl)
  unfold Has at *
  omega
theorem anc_has {b : Bok} (hb : BookP b) {x : Int} {p q : Pol} (h : Anc b p q) (hp : p ∈ b.pools) (hx : Has x p.root) : q ∈ b.pools ∧ Has x q.root := by
  induction h with
  | refl => exact ⟨hp, hx⟩
  | step h0 hq _ ih =>
    obtain ⟨q', hq', hm, -, l, hl, -, -, ha⟩ := up_lease hb hp h0
    rw [hq] at hq'
    cases hq'
    exact ih hm (lease_has hb hm hl (by rw [ha]; exact hx))
/-- Who is above, or the one below him. -/
theorem anc_last {b : Bok} {p q : Pol} (h : Anc b p q) : p = q ∨ ∃ c, Anc b p c ∧ c.up ≠ 0 ∧ poolOf b c.up = some q := by
  induction h with
  | refl => exact .inl rfl
  | @step p q r h0 hq _ ih =>
    rcases ih with rfl | ⟨c, h1, h2, h3⟩
    · exact .inr ⟨p, .refl p, h0, hq⟩
    · exact .inr ⟨c, .step h0 hq h1, h2, h3⟩
theorem top_of {b : Bok} (hb : BookP b) : ∀ (n : Nat) (p : Pol), p ∈ b.pools → upOK b n p = true → ∃ t, Anc b p t ∧ t.up = 0
  | 0, p, _, hu => by
    rw [upOK] at hu
    exact ⟨p, .refl p, by simpa using hu⟩
  | n + 1, p, hp, hu => by
    by_cases h0 : p.up = 0
    · exact ⟨p, .refl p, h0⟩
    · obtain ⟨q, hq, hm, hn, -⟩ := up_lease hb hp h0
      obtain ⟨t, ht, h⟩ := top_of hb n q hm (hn n hu)
      exact ⟨t, .step h0 hq ht, h⟩
theorem tops_one {b : Bok} (hb : BookP b) {p q : Pol} (hp : p ∈ b.pools) (hq : q ∈ b.pools) (h1 : p.up = 0) (h2 : q.up = 0) {x : Int} (k1 : Has x p.root) (k2 : Has x q.root) : p = q := by
  have ht := hb.tops
  have rp := (chkS_ok.1 (hb.mem p hp).2.1).rr
  have rq := (chkS_ok.1 (hb.mem q hq).2.1).rr
  unfold Has at k1 k2
  have m1 : q.root.meets p.root = true := meets_iff.2 ⟨rq, rp, by omega, by omega⟩
  have m2 : p.root.meets q.root = true := meets_iff.2 ⟨rp, rq, by omega, by omega⟩
  obtain ⟨i, hi, e1⟩ := List.mem_iff_getElem.1 (List.mem_filter (p := fun p : Pol => p.up == 0).2 ⟨hp, by simpa using h1⟩)
  obtain ⟨j, hj, e2⟩ := List.mem_iff_getElem.1 (List.mem_filter (p := fun p : Pol => p.up == 0).2 ⟨hq, by simpa using h2⟩)
  rw [List.pairwise_iff_getElem] at ht
  rcases Nat.lt_trichotomy i j with h | h | h
  · have := ht i j hi hj h
    rw [e1, e2, m1] at this; cases this
  · subst h; rw [← e1, e2]
  · have := ht j i hj hi h
    rw [e1, e2, m2] at this; cases this
/-- Where an address is in a lease for a user, all pools that have it are above. -/
theorem user_anc {b : Bok} (hb : BookP b) {x : Int} {p : Pol} (hp : p ∈ b.pools) {l : Lse} (hl : l ∈ p.leases) (hk : l.kind = 1) (hx : Has x l.at_) : ∀ (n : Nat) (q : Pol), q ∈ b.pools → upOK b n q = true → Has x q.root → Anc b p q := by
  have hxp := lease_has hb hp hl hx
  have h0 : ∀ q, q ∈ b.pools → Has x q.root → q.up = 0 → Anc b p q := by
    intro q hq hxq hu
    obtain ⟨t, ht, h⟩ := top_of hb _ p hp (hb.up p hp)
    obtain ⟨a1, a2⟩ := anc_has hb ht hp hxp
    rw [← tops_one hb a1 hq h hu a2 hxq]
    exact ht
  intro n
  induction n with
  | zero =>
    intro q hq hu hxq
    rw [upOK] at hu
    exact h0 q hq hxq (by simpa using hu)
  | succ n ih =>
    intro q hq hu hxq
    by_cases hz : q.up = 0
    · exact h0 q hq hxq hz
    · obtain ⟨q', hq', hm, hn, l', hl', k', o', a'⟩ := up_lease hb hq hz
      have hx' : Has x l'.at_ := by rw [a']; exact hxq
      rcases anc_last (ih q' hm (hn n hu) (lease_has hb hm hl' hx')) with rfl | ⟨c, hc, hc0, hcq⟩
      · have := leases_one hb hp hl hl' hx hx'
        rw [← this] at k'; omega
      · obtain ⟨hcm, hxc⟩ := anc_has hb hc hp hxp
        obtain ⟨q2, hq2, hm2, -, l2, hl2, k2, o2, a2⟩ := up_lease hb hcm hc0
        rw [hcq] at hq2
        cases hq2
        have := leases_one hb hm hl2 hl' (by rw [a2]; exact hxc) hx'
        rw [this, o'] at o2
        rw [rise_uniq hb.rise hq hcm o2]
        exact hc
/-- Who has an address for a user, and a pool that has it: one pool, or a lease of the pool above. -/
theorem user_or {b : Bok} (hb : BookP b) {x : Int} {p q : Pol} (hp : p ∈ b.pools) {l : Lse} (hl : l ∈ p.leases) (hk : l.kind = 1) (hx : Has x l.at_) (hq : q ∈ b.pools) (hxq : Has x q.root) : p = q ∨ ∃ l2 ∈ q.leases, l2.kind = 2 ∧ Has x l2.at_ := by
  rcases anc_last (user_anc hb hp hl hk hx _ q hq (hb.up q hq) hxq) with h | ⟨c, hc, hc0, hcq⟩
  · exact .inl h
  · obtain ⟨hcm, hxc⟩ := anc_has hb hc hp (lease_has hb hp hl hx)
    obtain ⟨q2, hq2, hm2, -, l2, hl2, k2, o2, a2⟩ := up_lease hb hcm hc0
    rw [hcq] at hq2
    cases hq2
    exact .inr ⟨l2, hl2, k2, by rw [a2]; exact hxc⟩
def usrB (x : Int) (l : Lse) : Bool := (l.kind == 1) && holdP l.at_.at_ l.at_.len x
theorem usrB_iff {x : Int} {l : Lse} : usrB x l = true ↔ l.kind = 1 ∧ l.at_.right = true ∧ Has x l.at_ := by
  unfold usrB
  rw [Bool.and_eq_true, beq_iff_eq, show holdP l.at_.at_ l.at_.len x = holdQ x l.at_ from rfl, holdQ_iff]
  rfl
def usrN (x : Int) (p : Pol) : Nat := p.leases.countP (usrB x)
def usersN (b : Bok) (x : Int) : Nat := (b.pools.map (usrN x)).sum
theorem count_one {α : Type} (f : α → Bool) : ∀ (l : List α), l.Pairwise (fun a c => f a = true → f c = true → False) → l.countP f ≤ 1
  | [], _ => by simp
  | x :: t, h => by
    obtain ⟨h1, h2⟩ := List.pairwise_cons.1 h
    rw [List.countP_cons]
    by_cases hx : f x = true
    · have h0 : t.countP f = 0 := by
        rw [List.countP_eq_zero]
        exact fun y hy hp => h1 y hy hx hp
      rw [h0, if_pos hx]
      omega
    · rw [if_neg hx]
      exact count_one f t h2
theorem sum_zero {α : Type} (c : α → Nat) : ∀ (l : List α), (∀ p ∈ l, c p = 0) → (l.map c).sum = 0
  | [], _ => rfl
  | x :: t, h => by rw [List.map_cons, List.sum_cons, h x (by simp), sum_zero c t fun p hp => h p (by simp [hp])]
theorem sum_one {α : Type} (c : α → Nat) : ∀ (l : List α), (∀ p ∈ l, c p ≤ 1) → l.Pairwise (fun p q => 0 < c p → 0 < c q → False) → (l.map c).sum ≤ 1
  | [], _, _ => by simp
  | x :: t, h0, h => by
    obtain ⟨h1, h2⟩ := List.pairwise_cons.1 h
    have ih := sum_one c t (fun p hp => h0 p (by simp [hp])) h2
    have hx := h0 x (by simp)
    rw [List.map_cons, List.sum_cons]
    by_cases hc : 0 < c x
    · have hz : (t.map c).sum = 0 := by
        refine sum_zero c t fun q hq => ?_
        rcases Nat.eq_zero_or_pos (c q) with h | h
        · exact h
        · exact (h1 q hq hc h).elim
      omega
    · omega
theorem usrN_pos {x : Int} {p : Pol} (h : 0 < usrN x p) : ∃ l ∈ p.leases, l.kind = 1 ∧ Has x l.at_ := by
  obtain ⟨l, hl, hf⟩ := List.countP_pos_iff.1 h
  exact ⟨l, hl, (usrB_iff.1 hf).1, (usrB_iff.1 hf).2.2⟩
theorem users_le {b : Bok} (hb : BookP b) (x : Int) : usersN b x ≤ 1 := by
  refine sum_one _ _ (fun p hp => count_one _ _ ?_) ?_
  · have hap := (chkS_ok.1 (hb.mem p hp).2.1).apart
    unfold usedP at hap
    rw [List.pairwise_map] at hap
    refine hap.imp fun {a c} h h1 h2 => ?_
    have k1 := (usrB_iff.1 h1).2.2
    have k2 := (usrB_iff.1 h2).2.2
    unfold Apart at h
    unfold Has at k1 k2
    omega
  · refine hb.rise.imp_of_mem fun {p q} hp hq hpq h1 h2 => ?_
    obtain ⟨l, hl, k1, x1⟩ := usrN_pos h1
    obtain ⟨m, hm, k2, x2⟩ := usrN_pos h2
    rcases user_or hb hp hl k1 x1 hq (lease_has hb hq hm x2) with h | ⟨l2, hl2, k3, x3⟩
    · rw [h] at hpq; omega
    · have := leases_one hb hq hm hl2 x2 x3
      rw [← this] at k3; omega
theorem insL_mem {l x : Lse} {ls : List Lse} : x ∈ insL l ls ↔ x = l ∨ x ∈ ls := by
  unfold insL
  rw [List.mem_append, List.mem_cons]
  constructor
  · rintro (h | h | h)
    · exact .inr (List.mem_of_mem_take h)
    · exact .inl h
    · exact .inr (List.mem_of_mem_drop h)
  · rintro (h | h)
    · exact .inr (.inl h)
    · rw [← List.take_append_drop (lbN (fun x : Lse => x.at_.at_) l.at_.at_ ls) ls, List.mem_append] at h
      rcases h with h | h
      · exact .inl h
      · exact .inr (.inr h)
theorem insL_apart {root : Pfx} {l : Lse} {ls : List Lse} (h : chkS root (ls.map (·.at_)) = 0) (h32 : ls.length ≠ 32) (hi : insQ l.at_ root = true) (hf : freeP (ls.map (·.at_)) l.at_ = true) : chkS root ((insL l ls).map (·.at_)) = 0 := by
  obtain ⟨h1, h2, h3, h4⟩ := chkS_ok.1 h
  have hlen : (insL l ls).length = ls.length + 1 := by
    have := lbN_le (fun x : Lse => x.at_.at_) l.at_.at_ ls
    unfold insL; simp; omega
  rw [chkS_ok]
  refine ⟨h1, by rw [List.length_map, hlen]; rw [List.length_map] at h2; omega, fun u hu => ?_, ?_⟩
  · obtain ⟨x, hx, rfl⟩ := List.mem_map.1 hu
    rcases insL_mem.1 hx with rfl | hx
    · exact hi
    · exact h3 _ (List.mem_map.2 ⟨x, hx, rfl⟩)
  · have hr := (insQ_hi.1 hi).1
    have hb := Pfx.hi_bd hr
    have key : ∀ x ∈ ls, (x.at_.at_ < l.at_.at_ → Apart x.at_ l.at_) ∧ (l.at_.at_ ≤ x.at_.at_ → Apart l.at_ x.at_) := by
      intro x hx
      have hxr := (insQ_hi.1 (h3 _ (List.mem_map.2 ⟨x, hx, rfl⟩))).1
      have hxb := Pfx.hi_bd hxr
      have hm := free_iff.1 hf _ (List.mem_map.2 ⟨x, hx, rfl⟩)
      have hn : ¬ (l.at_.at_ < x.at_.hi ∧ x.at_.at_ < l.at_.hi) := fun hh => by
        rw [meets_iff.2 ⟨hr, hxr, hh.1, hh.2⟩] at hm; cases hm
      unfold Apart
      omega
    rw [List.pairwise_map] at h4 ⊢
    unfold insL
    rw [List.pairwise_append]
    have hlow : ∀ x ∈ ls.take (lbN (fun x : Lse => x.at_.at_) l.at_.at_ ls), x.at_.at_ < l.at_.at_ := by
      intro x hx
      obtain ⟨i, hi, rfl⟩ := List.mem_iff_getElem.1 hx
      rw [List.getElem_take]
      have := List.not_of_lt_findIdx (show i < lbN (fun x : Lse => x.at_.at_) l.at_.at_ ls by rw [List.length_take] at hi; omega)
      simp at this
      exact this
    have hhigh : ∀ x ∈ ls.drop (lbN (fun x : Lse => x.at_.at_) l.at_.at_ ls), l.at_.at_ ≤ x.at_.at_ := by
      intro x hx
      obtain ⟨i, hi, rfl⟩ := List.mem_iff_getElem.1 hx
      rw [List.getElem_drop]
      rw [List.length_drop] at hi
      have hlt : lbN (fun x : Lse => x.at_.at_) l.at_.at_ ls < ls.length := by omega
      have h0 := List.findIdx_getElem (xs := ls) (p := fun x => decide (l.at_.at_ ≤ (fun x : Lse => x.at_.at_) x)) (w := hlt)
      simp only [decide_eq_true_eq] at h0
      change l.at_.at_ ≤ (ls[lbN (fun x : Lse => x.at_.at_) l.at_.at_ ls]'hlt).at_.at_ at h0
      rcases Nat.eq_zero_or_pos i with h | h
      · subst h; exact h0
      · have hp := List.pairwise_iff_getElem.1 h4 _ (lbN (fun x : Lse => x.at_.at_) l.at_.at_ ls + i) hlt (by omega) (by omega)
        have hx0 := Pfx.hi_bd (insQ_hi.1 (h3 _ (List.mem_map.2 ⟨_, List.getElem_mem hlt, rfl⟩))).1
        unfold Apart at hp
        omega
    refine ⟨h4.sublist (List.take_sublist _ _), List.pairwise_cons.2 ⟨fun x hx => (key x (List.mem_of_mem_drop hx)).2 (hhigh x hx), h4.sublist (List.drop_sublist _ _)⟩, fun x hx y hy => ?_⟩
    have hx0 := hlow x hx
    have hx1 := (key x (List.mem_of_mem_take hx)).1 hx0
    rcases List.mem_cons.1 hy with rfl | hy
    · exact hx1
    · have hy1 := (key y (List.mem_of_mem_drop hy)).2 (hhigh y hy)
      unfold Apart at *
      omega
theorem take_ok {b : Bok} {id size owner : Int} {p : Pol} {s : Int} {q : Pfx} (t : TakeP b id size owner p s q) : BookP (updB b id fun p => { p with leases := insL ⟨q, 1, owner, 0⟩ p.leases }) := by
  have hb := t.bp
  obtain ⟨hpm, hpi⟩ := poolOf_mem t.pool
  have hm := hb.mem p hpm
  obtain ⟨-, -, f1, f2, f3, f4, -⟩ := fitE_inv hm.2.1 hm.2.2 t.fit
  have key : ∀ q ∈ b.pools, (q.id == id) = true → q = p := fun q hq he => rise_uniq hb.rise hq hpm (by rw [hpi]; simpa using he)
  unfold updB
  refine map_ok hb (t := b.tick) ⟨hb.tick, fun r hr => ?_, fun r hr => ?_, fun r hr x hx => ?_, fun r hr id' ha => ?_⟩
  · simp only
    split <;> exact ⟨rfl, rfl, rfl, rfl⟩
  · simp only
    split
    · rename_i he
      obtain rfl := key r hr he
      exact insL_apart (l := ⟨q, 1, owner, 0⟩) hm.2.1 f1 f3 f4
    · exact (hb.mem r hr).2.1
  · simp only at hx
    split at hx
    · rename_i he
      obtain rfl := key r hr he
      rcases insL_mem.1 hx with rfl | hx
      · unfold leaseOK
        simp [t.own]
      · exact hb.lease r hr x hx
    · exact hb.lease r hr x hx
  · simp only
    split
    · obtain ⟨x, hx, hf⟩ := List.any_eq_true.1 ha
      exact List.any_eq_true.2 ⟨x, insL_mem.2 (.inr hx), hf⟩
    · exact ha
theorem take_users {b : Bok} {id size owner : Int} {p : Pol} {s : Int} {q : Pfx} (t : TakeP b id size owner p s q) {x : Int} (hx : Has x q) : usersN b x = 0 ∧ usersN (updB b id fun p => { p with leases := insL ⟨q, 1, owner, 0⟩ p.leases }) x = 1 := by
  have hb := t.bp
  obtain ⟨hpm, hpi⟩ := poolOf_mem t.pool
  have hm := hb.mem p hpm
  obtain ⟨-, -, f1, f2, f3, f4, -⟩ := fitE_inv hm.2.1 hm.2.2 t.fit
  have hqr := insQ_hi.1 f3
  have hfree : ∀ l ∈ p.leases, ¬ Has x l.at_ := by
    intro l hl h
    have hm := free_iff.1 f4 _ (List.mem_map.2 ⟨l, hl, rfl⟩)
    have hr := (insQ_hi.1 (lease_in hb hpm hl)).1
    unfold Has at h hx
    rw [meets_iff.2 ⟨hqr.1, hr, by omega, by omega⟩] at hm
    cases hm
  have h0 : ∀ r ∈ b.pools, usrN x r = 0 := by
    intro r hr
    rcases Nat.eq_zero_or_pos (usrN x r) with h | h
    · exact h
    · obtain ⟨l, hl, k, hxl⟩ := usrN_pos h
      have hxp : Has x p.root := by unfold Has at *; omega
      rcases user_or hb hr hl k hxl hpm hxp with h | ⟨l2, hl2, -, x2⟩
      · subst h; exact (hfree l hl hxl).elim
      · exact (hfree l2 hl2 x2).elim
  have hz := sum_zero (usrN x)
  refine ⟨hz _ h0, ?_⟩
  obtain ⟨pre, post, hpp, -⟩ := poolOf_split t.pool
  rw [← hpi]
  rw [updB_split hb.rise hpp]
  unfold usersN
  rw [List.map_append, List.map_cons, List.sum_append, List.sum_cons, hz pre (fun r hr => h0 r (by rw [hpp]; simp [hr])), hz post (fun r hr => h0 r (by rw [hpp]; simp [hr]))]
  have hn := h0 p hpm
  unfold usrN at hn ⊢
  simp only
  unfold insL
  rw [List.countP_append, List.countP_cons]
  have e : p.leases.countP (usrB x) = (p.leases.take (lbN (fun x : Lse => x.at_.at_) q.at_ p.leases)).countP (usrB x) + (p.leases.drop (lbN (fun x : Lse => x.at_.at_) q.at_ p.leases)).countP (usrB x) := by rw [← List.countP_append, List.take_append_drop]
  have hu : usrB x ⟨q, 1, owner, 0⟩ = true := usrB_iff.2 ⟨rfl, hqr.1, hx⟩
  rw [hu]
  simp
  omega
end Go.Proofs.Ytbeocackphfijaa
namespace Go.Proofs.Ytbeocackphfijaa
open Go Go.RowKit Go.Proofs
set_option maxRecDepth 100000
def absI (c : Int) : Int := if c < 0 then -(c + 1) else c
set_option maxHeartbeats 1000000 in
theorem choose_any (c n : Int) (w : World) (h1 : -9223372036854775808 ≤ c) (h2 : c ≤ 9223372036854775807) (hn : 0 < n) :
    Calls Try.prog 29 #[.int .i64 c, .int .i64 n] w fun e w' => e = .returned (.int .i64 (absI c % n)) ∧ w = w' := by
  by_cases hc : c < 0
  · have ha : absI c = -(c + 1) := by simp [absI, hc]
    rw [ha]
    go_enter Try.func29, Try.ntmps29
    go_wp2_with fail
    go_ret
    refine ⟨ret_int ?_, rfl⟩
    rw [← Int.neg_tmod, Int.tmod_eq_emod_of_nonneg (by omega)]
  · have ha : absI c = c := by simp [absI, hc]
    rw [ha]
    go_enter Try.func29, Try.ntmps29
    go_wp2_with fail
    go_ret
    exact ⟨ret_int rfl, rfl⟩
end Go.Proofs.Ytbeocackphfijaa
namespace Go.Proofs.Ytbeocackphfijaa
open Go Go.RowKit
theorem holds_p (p : Pfx) (x : Int) : PSpec Try.prog 75 [.agg (encP p), .v (.int .i64 x)] (.v (.bool (holdP p.at_ p.len x))) := pspec_flat (fnok_of Try.func75 (by kernel_rfl) rfl) (by intro d hd; simp at hd; (repeat (first | (obtain rfl := hd; rfl) | (rcases hd with rfl | hd; · rfl)))) rfl rfl (fun w => holds_any _ _ _ _)
theorem ext_eq {w w' : World} (h : w = w') : Ext w w' := h ▸ Below.refl _ _
theorem choose_p (c n : Int) (h1 : -9223372036854775808 ≤ c) (h2 : c ≤ 9223372036854775807) (hn : 0 < n) : PSpec Try.prog 29 [.v (.int .i64 c), .v (.int .i64 n)] (.v (.int .i64 (absI c % n))) := pspec_flat (fnok_of Try.func29 (by kernel_rfl) rfl) (by intro d hd; simp at hd; (repeat (first | (obtain rfl := hd; rfl) | (rcases hd with rfl | hd; · rfl)))) rfl rfl (fun w => (choose_any c n w h1 h2 hn).mono fun _ _ h => ⟨h.1, ext_eq h.2⟩)
theorem sum_snoc {α : Type} {c : α → Nat} {l : List α} {k : Nat} {x : α} (h : l[k]? = some x) : ((l.take (k + 1)).map c).sum = ((l.take k).map c).sum + c x := by
  rw [take_snoc h, List.map_append, List.sum_append]; simp
theorem countP_snoc {α : Type} {f : α → Bool} {l : List α} {k : Nat} {x : α} (h : l[k]? = some x) : (l.take (k + 1)).countP f = (l.take k).countP f + (if f x = true then 1 else 0) := by
  rw [take_snoc h, List.countP_append, List.countP_singleton]
theorem sum_le {α : Type} {c : α → Nat} {n : Nat} : ∀ {l : List α}, (∀ p ∈ l, c p ≤ n) → (l.map c).sum ≤ l.length * n
  | [], _ => by simp
  | x :: t, h => by
    have := sum_le (c := c) (n := n) (l := t) fun p hp => h p (by simp [hp])
    have := h x (by simp)
    rw [List.map_cons, List.sum_cons, List.length_cons, Nat.succ_mul]
    omega
set_option maxRecDepth 100000 in
set_option maxHeartbeats 1000000 in
theorem users_p (b : Bok) (x : Int) (h8 : b.pools.length ≤ 8) (h33 : ∀ p ∈ b.pools, p.leases.length ≤ 33) : PSpec Try.prog 28 [.agg (encB b), .v (.int .i64 x)] (.v (.int .i64 (usersN b x))) := by
  refine ps_i tab_ok mixed Try.func28 rfl Try.ntmps28 Try.results28 (by kernel_rfl) ?_
  repeat' (first | (with_reducible refine And.intro ?_ ?_) | (with_reducible refine gK_i (fun _ => ?_) (fun _ => ?_)) | (with_reducible refine condS_i (fun _ => ?_) (fun _ => ?_)) | (with_reducible refine drw_i (by kernel_rfl)) | simp -dsimp only [go_sem, ↓reduceIte, reduceCtorEq, Nat.reduceAdd, Nat.reduceMul, Nat.reduceSub, Nat.reduceLeDiff, Nat.reduceLT, Nat.reduceEqDiff, Int.reduceLE, Int.reduceLT, Int.reduceToNat, Int.reduceBEq, Int.reduceBNe, Int.reduceEq, Int.reduceAdd, Int.reduceSub, Int.reduceMul, Int.reduceNeg, Int.cast_ofNat_Int, *, encB] | ((with_reducible refine opK_c ?_); simp -dsimp only [go_sem, ↓reduceIte, reduceCtorEq, Nat.reduceAdd, Nat.reduceMul, Nat.reduceSub, Nat.reduceLeDiff, Nat.reduceLT, Nat.reduceEqDiff, Int.reduceLE, Int.reduceLT, Int.reduceToNat, Int.reduceBEq, Int.reduceBNe, Int.reduceEq, Int.reduceAdd, Int.reduceSub, Int.reduceMul, Int.reduceNeg, Int.cast_ofNat_Int, encB]; first | refine callK_r (by first | assumption | fail) (by first | exact .inl rfl | exact .inr rfl) ?_ | (refine callK_i (by assumption) ?_ ?_ ?_; (solve | (repeat (first | exact DLe.refl _ | exact DLe.nil _ | (refine DLe.tup ?_) | (refine DLe.agg ?_ rfl) | exact trivial | (refine And.intro ?_ ?_)))); (solve | exact .inl rfl | exact .inr rfl))) | fail | omega | exact decide_eq_true (by omega) | exact DLe.refl _)
  have hs8 : ∀ k, ((b.pools.take k).map (usrN x)).sum ≤ 8 * 33 := fun k => by
    have := sum_le (c := usrN x) (n := 33) (l := b.pools.take k) fun p hp => by have := h33 p (List.mem_of_mem_take hp); have := List.countP_le_length (p := usrB x) (l := p.leases); unfold usrN; omega
    have : (b.pools.take k).length ≤ 8 := by rw [List.length_take]; omega
    omega
  refine loopL tab_ok mixed b.pools (fun _ => True) (fun k => [(6, .d (.v (.int .i64 k))), (5, .d (.v (.int .i64 (((b.pools.take k).map (usrN x)).sum : Nat)))), (2, .ptr 0 0), (1, .d (.v (.int .i64 x)))]) (fun _ => [.box 24 ((encB b).map .d)]) trivial (weak_forget _ (by simp) (by (try simp only [encB]); rfl) (by (repeat' (first | exact trivial | (refine ⟨rfl, ?_⟩)))) (by first | rfl | simp only [belowH, belowE, belowC, belowL, belowR, belowP, belowL_d, belowR_d, List.length_cons, List.length_nil, Nat.reduceAdd, Nat.reduceLT, decide_true, Bool.and_self, Bool.and_true]) (by first | rfl | simp only [belowH, belowE, belowC, belowL, belowR, belowP, belowL_d, belowR_d, List.length_cons, List.length_nil, Nat.reduceAdd, Nat.reduceLT, decide_true, Bool.and_self, Bool.and_true])) ?_ ?_
  · intro k p hpk hk _ C hC
    have hkI : (k : Int) < (b.pools.length : Int) := by omega
    have hwr : IntKind.i64.wrap ((k : Int) + 1) = ((k + 1 : Nat) : Int) := by rw [IntKind.wrap_i64]; omega
    have hsn := sum_snoc (c := usrN x) hpk
    have hl33 := h33 p (List.mem_of_getElem? hpk)
    have hs := hs8 k
    generalize ((b.pools.take k).map (usrN x)).sum = S at *
    repeat' (first | (with_reducible refine And.intro ?_ ?_) | (with_reducible refine gK_i (fun _ => ?_) (fun _ => ?_)) | (with_reducible refine condS_i (fun _ => ?_) (fun _ => ?_)) | (with_reducible refine drw_i (by kernel_rfl)) | simp -dsimp only [go_sem, ↓reduceIte, reduceCtorEq, Nat.reduceAdd, Nat.reduceMul, Nat.reduceSub, Nat.reduceLeDiff, Nat.reduceLT, Nat.reduceEqDiff, Int.reduceLE, Int.reduceLT, Int.reduceToNat, Int.reduceBEq, Int.reduceBNe, Int.reduceEq, Int.reduceAdd, Int.reduceSub, Int.reduceMul, Int.reduceNeg, Int.cast_ofNat_Int, *, encB, encPol, hkI, hwr, hpk] | ((with_reducible refine opK_c ?_); simp -dsimp only [go_sem, ↓reduceIte, reduceCtorEq, Nat.reduceAdd, Nat.reduceMul, Nat.reduceSub, Nat.reduceLeDiff, Nat.reduceLT, Nat.reduceEqDiff, Int.reduceLE, Int.reduceLT, Int.reduceToNat, Int.reduceBEq, Int.reduceBNe, Int.reduceEq, Int.reduceAdd, Int.reduceSub, Int.reduceMul, Int.reduceNeg, Int.cast_ofNat_Int, encB, encPol, hkI, hwr, hpk]; first | refine callK_r (by first | assumption | fail) (by first | exact .inl rfl | exact .inr rfl) ?_ | (refine callK_i (by assumption) ?_ ?_ ?_; (solve | (repeat (first | exact DLe.refl _ | exact DLe.nil _ | (refine DLe.tup ?_) | (refine DLe.agg ?_ rfl) | exact trivial | (refine And.intro ?_ ?_)))); (solve | exact .inl rfl | exact .inr rfl))) | fail | omega | exact decide_eq_true (by omega) | exact DLe.refl _)
    refine loopL tab_ok mixed p.leases (fun _ => True) (fun j => [(7, .d (.v (.int .i64 j))), (6, .d (.v (.int .i64 k))), (5, .d (.v (.int .i64 (S + (p.leases.take j).countP (usrB x) : Nat)))), (2, .ptr 0 0), (1, .d (.v (.int .i64 x)))]) (fun _ => [.box 24 ((encB b).map .d)]) trivial (weak_forget _ (by simp) (by (try simp only [encB]); rfl) (by (repeat' (first | exact trivial | (refine ⟨rfl, ?_⟩)))) (by first | rfl | simp only [belowH, belowE, belowC, belowL, belowR, belowP, belowL_d, belowR_d, List.length_cons, List.length_nil, Nat.reduceAdd, Nat.reduceLT, decide_true, Bool.and_self, Bool.and_true]) (by first | rfl | simp only [belowH, belowE, belowC, belowL, belowR, belowP, belowL_d, belowR_d, List.length_cons, List.length_nil, Nat.reduceAdd, Nat.reduceLT, decide_true, Bool.and_self, Bool.and_true])) ?_ ?_
    · intro j l hlj hj _ C hC
      have hjI : (j : Int) < (p.leases.length : Int) := by omega
      have hwj : IntKind.i64.wrap ((j : Int) + 1) = ((j + 1 : Nat) : Int) := by rw [IntKind.wrap_i64]; omega
      have hcn := countP_snoc (f := usrB x) hlj
      have hcl := List.countP_le_length (p := usrB x) (l := p.leases.take j)
      rw [List.length_take] at hcl
      have hho := holds_p l.at_ x
      generalize (p.leases.take j).countP (usrB x) = N at *
      have hwn : IntKind.i64.wrap (((S + N : Nat) : Int) + 1) = ((S + N + 1 : Nat) : Int) := by rw [IntKind.wrap_i64]; omega
      have hub : usrB x l = ((l.kind == 1) && holdP l.at_.at_ l.at_.len x) := rfl
      generalize holdP l.at_.at_ l.at_.len x = H at *
      generalize usrB x l = U at *
      replace hsn := Lib.hid hsn
      have hcU : (p.leases.take (j + 1)).countP (usrB x) = if ((l.kind == 1) && H) = true then N + 1 else N := by rw [hcn, hub]; split <;> rfl
      clear hcn hub
      cases hk1 : (l.kind == 1) with
      | false =>
        rw [hk1, Bool.false_and, if_neg Bool.false_ne_true] at hcU
        replace hcU := Lib.hid hcU
        repeat' (first | (with_reducible refine And.intro ?_ ?_) | (with_reducible refine gK_i (fun _ => ?_) (fun _ => ?_)) | (with_reducible refine condS_i (fun _ => ?_) (fun _ => ?_)) | (with_reducible refine drw_i (by kernel_rfl)) | simp -dsimp only [go_sem, ↓reduceIte, reduceCtorEq, Nat.reduceAdd, Nat.reduceMul, Nat.reduceSub, Nat.reduceLeDiff, Nat.reduceLT, Nat.reduceEqDiff, Int.reduceLE, Int.reduceLT, Int.reduceToNat, Int.reduceBEq, Int.reduceBNe, Int.reduceEq, Int.reduceAdd, Int.reduceSub, Int.reduceMul, Int.reduceNeg, Int.cast_ofNat_Int, *, encB, encPol, encL, encP, hkI, hjI, hwj, hwn, hpk, hlj, undef] | ((with_reducible refine opK_c ?_); simp -dsimp only [go_sem, ↓reduceIte, reduceCtorEq, Nat.reduceAdd, Nat.reduceMul, Nat.reduceSub, Nat.reduceLeDiff, Nat.reduceLT, Nat.reduceEqDiff, Int.reduceLE, Int.reduceLT, Int.reduceToNat, Int.reduceBEq, Int.reduceBNe, Int.reduceEq, Int.reduceAdd, Int.reduceSub, Int.reduceMul, Int.reduceNeg, Int.cast_ofNat_Int, encB, encPol, encL, encP, hkI, hjI, hwj, hwn, hpk, hlj, undef]; first | refine callK_r (by first | assumption | exact hho) (by first | exact .inl rfl | exact .inr rfl) ?_ | (refine callK_i (by assumption) ?_ ?_ ?_; (solve | (repeat (first | exact DLe.refl _ | exact DLe.nil _ | (refine DLe.tup ?_) | (refine DLe.agg ?_ rfl) | exact trivial | (refine And.intro ?_ ?_)))); (solve | exact .inl rfl | exact .inr rfl))) | fail | omega | exact decide_eq_true (by omega) | exact DLe.refl _)
        refine hC _ _ trivial ?_
        rw [hcU.out]; exact weak_forget _ (by simp) (by (try simp only [encB]); rfl) (by (repeat' (first | exact trivial | (refine ⟨rfl, ?_⟩)))) (by first | rfl | simp only [belowH, belowE, belowC, belowL, belowR, belowP, belowL_d, belowR_d, List.length_cons, List.length_nil, Nat.reduceAdd, Nat.reduceLT, decide_true, Bool.and_self, Bool.and_true]) (by first | rfl | simp only [belowH, belowE, belowC, belowL, belowR, belowP, belowL_d, belowR_d, List.length_cons, List.length_nil, Nat.reduceAdd, Nat.reduceLT, decide_true, Bool.and_self, Bool.and_true])
      | true =>
        cases H with
        | false =>
          rw [hk1, Bool.and_false, if_neg Bool.false_ne_true] at hcU
          replace hcU := Lib.hid hcU
          repeat' (first | (with_reducible refine And.intro ?_ ?_) | (with_reducible refine gK_i (fun _ => ?_) (fun _ => ?_)) | (with_reducible refine condS_i (fun _ => ?_) (fun _ => ?_)) | (with_reducible refine drw_i (by kernel_rfl)) | simp -dsimp only [go_sem, ↓reduceIte, reduceCtorEq, Nat.reduceAdd, Nat.reduceMul, Nat.reduceSub, Nat.reduceLeDiff, Nat.reduceLT, Nat.reduceEqDiff, Int.reduceLE, Int.reduceLT, Int.reduceToNat, Int.reduceBEq, Int.reduceBNe, Int.reduceEq, Int.reduceAdd, Int.reduceSub, Int.reduceMul, Int.reduceNeg, Int.cast_ofNat_Int, *, encB, encPol, encL, encP, hkI, hjI, hwj, hwn, hpk, hlj, undef] | ((with_reducible refine opK_c ?_); simp -dsimp only [go_sem, ↓reduceIte, reduceCtorEq, Nat.reduceAdd, Nat.reduceMul, Nat.reduceSub, Nat.reduceLeDiff, Nat.reduceLT, Nat.reduceEqDiff, Int.reduceLE, Int.reduceLT, Int.reduceToNat, Int.reduceBEq, Int.reduceBNe, Int.reduceEq, Int.reduceAdd, Int.reduceSub, Int.reduceMul, Int.reduceNeg, Int.cast_ofNat_Int, encB, encPol, encL, encP, hkI, hjI, hwj, hwn, hpk, hlj, undef]; first | refine callK_r (by first | assumption | exact hho) (by first | exact .inl rfl | exact .inr rfl) ?_ | (refine callK_i (by assumption) ?_ ?_ ?_; (solve | (repeat (first | exact DLe.refl _ | exact DLe.nil _ | (refine DLe.tup ?_) | (refine DLe.agg ?_ rfl) | exact trivial | (refine And.intro ?_ ?_)))); (solve | exact .inl rfl | exact .inr rfl))) | fail | omega | exact decide_eq_true (by omega) | exact DLe.refl _)
          refine hC _ _ trivial ?_
          rw [hcU.out]; exact weak_forget _ (by simp) (by (try simp only [encB]); rfl) (by (repeat' (first | exact trivial | (refine ⟨rfl, ?_⟩)))) (by first | rfl | simp only [belowH, belowE, belowC, belowL, belowR, belowP, belowL_d, belowR_d, List.length_cons, List.length_nil, Nat.reduceAdd, Nat.reduceLT, decide_true, Bool.and_self, Bool.and_true]) (by first | rfl | simp only [belowH, belowE, belowC, belowL, belowR, belowP, belowL_d, belowR_d, List.length_cons, List.length_nil, Nat.reduceAdd, Nat.reduceLT, decide_true, Bool.and_self, Bool.and_true])
        | true =>
          rw [hk1, Bool.and_true, if_pos rfl] at hcU
          replace hcU := Lib.hid hcU
          repeat' (first | (with_reducible refine And.intro ?_ ?_) | (with_reducible refine gK_i (fun _ => ?_) (fun _ => ?_)) | (with_reducible refine condS_i (fun _ => ?_) (fun _ => ?_)) | (with_reducible refine drw_i (by kernel_rfl)) | simp -dsimp only [go_sem, ↓reduceIte, reduceCtorEq, Nat.reduceAdd, Nat.reduceMul, Nat.reduceSub, Nat.reduceLeDiff, Nat.reduceLT, Nat.reduceEqDiff, Int.reduceLE, Int.reduceLT, Int.reduceToNat, Int.reduceBEq, Int.reduceBNe, Int.reduceEq, Int.reduceAdd, Int.reduceSub, Int.reduceMul, Int.reduceNeg, Int.cast_ofNat_Int, *, encB, encPol, encL, encP, hkI, hjI, hwj, hwn, hpk, hlj, undef] | ((with_reducible refine opK_c ?_); simp -dsimp only [go_sem, ↓reduceIte, reduceCtorEq, Nat.reduceAdd, Nat.reduceMul, Nat.reduceSub, Nat.reduceLeDiff, Nat.reduceLT, Nat.reduceEqDiff, Int.reduceLE, Int.reduceLT, Int.reduceToNat, Int.reduceBEq, Int.reduceBNe, Int.reduceEq, Int.reduceAdd, Int.reduceSub, Int.reduceMul, Int.reduceNeg, Int.cast_ofNat_Int, encB, encPol, encL, encP, hkI, hjI, hwj, hwn, hpk, hlj, undef]; first | refine callK_r (by first | assumption | exact hho) (by first | exact .inl rfl | exact .inr rfl) ?_ | (refine callK_i (by assumption) ?_ ?_ ?_; (solve | (repeat (first | exact DLe.refl _ | exact DLe.nil _ | (refine DLe.tup ?_) | (refine DLe.agg ?_ rfl) | exact trivial | (refine And.intro ?_ ?_)))); (solve | exact .inl rfl | exact .inr rfl))) | fail | omega | exact decide_eq_true (by omega) | exact DLe.refl _)
          refine hC _ _ trivial ?_
          rw [hcU.out]; exact weak_forget _ (by simp) (by (try simp only [encB]); rfl) (by (repeat' (first | exact trivial | (refine ⟨rfl, ?_⟩)))) (by first | rfl | simp only [belowH, belowE, belowC, belowL, belowR, belowP, belowL_d, belowR_d, List.length_cons, List.length_nil, Nat.reduceAdd, Nat.reduceLT, decide_true, Bool.and_self, Bool.and_true]) (by first | rfl | simp only [belowH, belowE, belowC, belowL, belowR, belowP, belowL_d, belowR_d, List.length_cons, List.length_nil, Nat.reduceAdd, Nat.reduceLT, decide_true, Bool.and_self, Bool.and_true])
    · intro _ C
      repeat' (first | (with_reducible refine And.intro ?_ ?_) | (with_reducible refine gK_i (fun _ => ?_) (fun _ => ?_)) | (with_reducible refine condS_i (fun _ => ?_) (fun _ => ?_)) | (with_reducible refine drw_i (by kernel_rfl)) | simp -dsimp only [go_sem, ↓reduceIte, reduceCtorEq, Nat.reduceAdd, Nat.reduceMul, Nat.reduceSub, Nat.reduceLeDiff, Nat.reduceLT, Nat.reduceEqDiff, Int.reduceLE, Int.reduceLT, Int.reduceToNat, Int.reduceBEq, Int.reduceBNe, Int.reduceEq, Int.reduceAdd, Int.reduceSub, Int.reduceMul, Int.reduceNeg, Int.cast_ofNat_Int, *, encB, encPol, hpk, hwr, Int.lt_irrefl, List.take_length] | ((with_reducible refine opK_c ?_); simp -dsimp only [go_sem, ↓reduceIte, reduceCtorEq, Nat.reduceAdd, Nat.reduceMul, Nat.reduceSub, Nat.reduceLeDiff, Nat.reduceLT, Nat.reduceEqDiff, Int.reduceLE, Int.reduceLT, Int.reduceToNat, Int.reduceBEq, Int.reduceBNe, Int.reduceEq, Int.reduceAdd, Int.reduceSub, Int.reduceMul, Int.reduceNeg, Int.cast_ofNat_Int, encB, encPol, hpk, hwr, Int.lt_irrefl, List.take_length]; first | refine callK_r (by first | assumption | fail) (by first | exact .inl rfl | exact .inr rfl) ?_ | (refine callK_i (by assumption) ?_ ?_ ?_; (solve | (repeat (first | exact DLe.refl _ | exact DLe.nil _ | (refine DLe.tup ?_) | (refine DLe.agg ?_ rfl) | exact trivial | (refine And.intro ?_ ?_)))); (solve | exact .inl rfl | exact .inr rfl))) | fail | omega | exact decide_eq_true (by omega) | exact DLe.refl _)
      rw [show S + p.leases.countP (usrB x) = ((b.pools.take (k + 1)).map (usrN x)).sum from hsn.symm]
      exact hC _ _ trivial (weak_forget _ (by simp) (by (try simp only [encB]); rfl) (by (repeat' (first | exact trivial | (refine ⟨rfl, ?_⟩)))) (by first | rfl | simp only [belowH, belowE, belowC, belowL, belowR, belowP, belowL_d, belowR_d, List.length_cons, List.length_nil, Nat.reduceAdd, Nat.reduceLT, decide_true, Bool.and_self, Bool.and_true]) (by first | rfl | simp only [belowH, belowE, belowC, belowL, belowR, belowP, belowL_d, belowR_d, List.length_cons, List.length_nil, Nat.reduceAdd, Nat.reduceLT, decide_true, Bool.and_self, Bool.and_true]))
  · intro _ C
    repeat' (first | (with_reducible refine And.intro ?_ ?_) | (with_reducible refine gK_i (fun _ => ?_) (fun _ => ?_)) | (with_reducible refine condS_i (fun _ => ?_) (fun _ => ?_)) | (with_reducible refine drw_i (by kernel_rfl)) | simp -dsimp only [go_sem, ↓reduceIte, reduceCtorEq, Nat.reduceAdd, Nat.reduceMul, Nat.reduceSub, Nat.reduceLeDiff, Nat.reduceLT, Nat.reduceEqDiff, Int.reduceLE, Int.reduceLT, Int.reduceToNat, Int.reduceBEq, Int.reduceBNe, Int.reduceEq, Int.reduceAdd, Int.reduceSub, Int.reduceMul, Int.reduceNeg, Int.cast_ofNat_Int, *, encB, Int.lt_irrefl, List.take_length] | ((with_reducible refine opK_c ?_); simp -dsimp only [go_sem, ↓reduceIte, reduceCtorEq, Nat.reduceAdd, Nat.reduceMul, Nat.reduceSub, Nat.reduceLeDiff, Nat.reduceLT, Nat.reduceEqDiff, Int.reduceLE, Int.reduceLT, Int.reduceToNat, Int.reduceBEq, Int.reduceBNe, Int.reduceEq, Int.reduceAdd, Int.reduceSub, Int.reduceMul, Int.reduceNeg, Int.cast_ofNat_Int, encB, Int.lt_irrefl, List.take_length]; first | refine callK_r (by first | assumption | fail) (by first | exact .inl rfl | exact .inr rfl) ?_ | (refine callK_i (by assumption) ?_ ?_ ?_; (solve | (repeat (first | exact DLe.refl _ | exact DLe.nil _ | (refine DLe.tup ?_) | (refine DLe.agg ?_ rfl) | exact trivial | (refine And.intro ?_ ?_)))); (solve | exact .inl rfl | exact .inr rfl))) | fail | omega | exact decide_eq_true (by omega) | exact DLe.refl _)
    all_goals exact DLe.refl _
set_option maxRecDepth 100000 in
set_option maxHeartbeats 1000000 in
theorem poolApart_p (b : Bok) (id size owner addr : Int) (hz : ∀ p ∈ b.pools, p.leases.length ≤ 3518437208882) (ha1 : -9223372036854775808 ≤ addr) (ha2 : addr ≤ 9223372036854775807) : PSpec Try.prog 8 [.agg (encB b), .v (.int .i64 id), .v (.int .i64 size), .v (.int .i64 owner), .v (.int .i64 addr)] (.v (.bool true)) := by
  have hbeg := poolBegun_p
  have hck := bkCheck_p b hz
  by_cases hc : chkBk b = 0
  case neg =>
    have heb : (chkBk b != 0) = true := by simpa using hc
    generalize chkBk b = K at *
    clear hz
    refine ps_i tab_ok mixed Try.func8 rfl Try.ntmps8 Try.results8 (by kernel_rfl) ?_
    repeat' (first | (with_reducible refine And.intro ?_ ?_) | (with_reducible refine gK_i (fun _ => ?_) (fun _ => ?_)) | (with_reducible refine condS_i (fun _ => ?_) (fun _ => ?_)) | (with_reducible refine drw_i (by kernel_rfl)) | simp -dsimp only [go_sem, ↓reduceIte, reduceCtorEq, Nat.reduceAdd, Nat.reduceMul, Nat.reduceSub, Nat.reduceLeDiff, Nat.reduceLT, Nat.reduceEqDiff, Int.reduceLE, Int.reduceLT, Int.reduceToNat, Int.reduceBEq, Int.reduceBNe, Int.reduceEq, Int.reduceAdd, Int.reduceSub, Int.reduceMul, Int.reduceNeg, Int.cast_ofNat_Int, *, encB, encP, heb, undef] | ((with_reducible refine opK_c ?_); simp -dsimp only [go_sem, ↓reduceIte, reduceCtorEq, Nat.reduceAdd, Nat.reduceMul, Nat.reduceSub, Nat.reduceLeDiff, Nat.reduceLT, Nat.reduceEqDiff, Int.reduceLE, Int.reduceLT, Int.reduceToNat, Int.reduceBEq, Int.reduceBNe, Int.reduceEq, Int.reduceAdd, Int.reduceSub, Int.reduceMul, Int.reduceNeg, Int.cast_ofNat_Int, encB, encP, heb, undef]; first | refine callK_r (by first | assumption | exact hbeg | exact hck) (by first | exact .inl rfl | exact .inr rfl) ?_ | (refine callK_i (by assumption) ?_ ?_ ?_; (solve | (repeat (first | exact DLe.refl _ | exact DLe.nil _ | (refine DLe.tup ?_) | (refine DLe.agg ?_ rfl) | exact trivial | (refine And.intro ?_ ?_)))); (solve | exact .inl rfl | exact .inr rfl))) | fail | omega | exact decide_eq_true (by omega) | exact DLe.refl _)
  have hb := bookP.1 hc
  have hu := users_p b addr hb.n8 (fun p hp => by have := (chkS_ok.1 (hb.mem p hp).2.1).many; simp [usedP] at this; omega)
  have hule := users_le hb addr
  have h1 := take_p b id size owner hz
  have hb1 : decide (((usersN b addr : Nat) : Int) > 1) = false := by simp; omega
  by_cases he : (takeR b id size owner).2.2 = 0
  case neg =>
    have heb : ((takeR b id size owner).2.2 != 0) = true := by simpa using he
    generalize takeR b id size owner = A at *
    rw [hc] at hck
    clear hz hb hule
    refine ps_i tab_ok mixed Try.func8 rfl Try.ntmps8 Try.results8 (by kernel_rfl) ?_
    repeat' (first | (with_reducible refine And.intro ?_ ?_) | (with_reducible refine gK_i (fun _ => ?_) (fun _ => ?_)) | (with_reducible refine condS_i (fun _ => ?_) (fun _ => ?_)) | (with_reducible refine drw_i (by kernel_rfl)) | simp -dsimp only [go_sem, ↓reduceIte, reduceCtorEq, Nat.reduceAdd, Nat.reduceMul, Nat.reduceSub, Nat.reduceLeDiff, Nat.reduceLT, Nat.reduceEqDiff, Int.reduceLE, Int.reduceLT, Int.reduceToNat, Int.reduceBEq, Int.reduceBNe, Int.reduceEq, Int.reduceAdd, Int.reduceSub, Int.reduceMul, Int.reduceNeg, Int.cast_ofNat_Int, *, encB, encP, heb, hb1, undef] | ((with_reducible refine opK_c ?_); simp -dsimp only [go_sem, ↓reduceIte, reduceCtorEq, Nat.reduceAdd, Nat.reduceMul, Nat.reduceSub, Nat.reduceLeDiff, Nat.reduceLT, Nat.reduceEqDiff, Int.reduceLE, Int.reduceLT, Int.reduceToNat, Int.reduceBEq, Int.reduceBNe, Int.reduceEq, Int.reduceAdd, Int.reduceSub, Int.reduceMul, Int.reduceNeg, Int.cast_ofNat_Int, encB, encP, heb, hb1, undef]; first | refine callK_r (by first | assumption | exact h1 | exact hbeg | exact hck | exact hu) (by first | exact .inl rfl | exact .inr rfl) ?_ | (refine callK_i (by assumption) ?_ ?_ ?_; (solve | (repeat (first | exact DLe.refl _ | exact DLe.nil _ | (refine DLe.tup ?_) | (refine DLe.agg ?_ rfl) | exact trivial | (refine And.intro ?_ ?_)))); (solve | exact .inl rfl | exact .inr rfl))) | fail | omega | exact decide_eq_true (by omega) | exact DLe.refl _)
  obtain ⟨p, s, q, t⟩ := take_inv he
  have hm := hb.mem p (poolOf_mem t.pool).1
  obtain ⟨-, -, f1, f2, f3, f4, -⟩ := fitE_inv hm.2.1 hm.2.2 t.fit
  have hqr := (insQ_hi.1 f3).1
  have hqb := Pfx.hi_bd hqr
  have hq0 := Pfx.bd hqr
  have hok := take_ok t
  have hsz : sizeI q.at_ q.len = szI q.len := sizeI_right hqr
  have hs1 : 1 ≤ szI q.len ∧ szI q.len ≤ 65536 := szI_bd hq0.1
  have hch := choose_p addr (szI q.len) ha1 ha2 (by omega)
  have hmod := Int.emod_nonneg (absI addr) (show szI q.len ≠ 0 by omega)
  have hmod2 := Int.emod_lt_of_pos (absI addr) (show 0 < szI q.len by omega)
  have hsi := size_p q
  rw [hsz] at hsi
  have hhas : Has (q.at_ + absI addr % szI q.len) q := by
    unfold Has Pfx.hi
    omega
  obtain ⟨hu0, hu1⟩ := take_users t hhas
  have hus := users_p b (q.at_ + absI addr % szI q.len) hb.n8 (fun p hp => by have := (chkS_ok.1 (hb.mem p hp).2.1).many; simp [usedP] at this; omega)
  have h2 := take_p b id size owner hz
  rw [t.is, t.res, he] at h1
  have hok0 := bookP.2 hok
  have hal : ∀ p' ∈ (updB b id fun p => { p with leases := insL ⟨q, 1, owner, 0⟩ p.leases }).pools, p'.leases.length ≤ 33 := fun p' hp' => by have := (chkS_ok.1 (hok.mem p' hp').2.1).many; simp [usedP] at this; omega
  have hck2 := bkCheck_p _ (fun p hp => by have := hal p hp; omega)
  have hua := users_p _ (q.at_ + absI addr % szI q.len) hok.n8 hal
  rw [hok0] at hck2
  rw [hu0] at hus
  rw [hu1] at hua
  rw [hc] at hck
  have hwr : IntKind.i64.wrap (q.at_ + absI addr % szI q.len) = q.at_ + absI addr % szI q.len := by rw [IntKind.wrap_i64]; omega
  have hmx : (if (1 : Int) < szI q.len then szI q.len else 1) = szI q.len := by split <;> omega
  generalize updB b id (fun p => { p with leases := insL ⟨q, 1, owner, 0⟩ p.leases }) = A at *
  generalize szI q.len = Z at *
  generalize absI addr % Z = Y at *
  generalize usersN b addr = U at *
  clear hz hb hule hok hok0 hal hhas hu0 hu1 hmod hmod2 hsz hq0 hqb hqr f1 f2 f3 f4 hm t he hs1 h2 hc ha1 ha2
  refine ps_i tab_ok mixed Try.func8 rfl Try.ntmps8 Try.results8 (by kernel_rfl) ?_
  repeat' (first | (with_reducible refine And.intro ?_ ?_) | (with_reducible refine gK_i (fun _ => ?_) (fun _ => ?_)) | (with_reducible refine condS_i (fun _ => ?_) (fun _ => ?_)) | (with_reducible refine drw_i (by kernel_rfl)) | simp -dsimp only [go_sem, ↓reduceIte, reduceCtorEq, Nat.reduceAdd, Nat.reduceMul, Nat.reduceSub, Nat.reduceLeDiff, Nat.reduceLT, Nat.reduceEqDiff, Int.reduceLE, Int.reduceLT, Int.reduceToNat, Int.reduceBEq, Int.reduceBNe, Int.reduceEq, Int.reduceAdd, Int.reduceSub, Int.reduceMul, Int.reduceNeg, Int.cast_ofNat_Int, *, encB, encP, hb1, hwr, hmx, undef] | ((with_reducible refine opK_c ?_); simp -dsimp only [go_sem, ↓reduceIte, reduceCtorEq, Nat.reduceAdd, Nat.reduceMul, Nat.reduceSub, Nat.reduceLeDiff, Nat.reduceLT, Nat.reduceEqDiff, Int.reduceLE, Int.reduceLT, Int.reduceToNat, Int.reduceBEq, Int.reduceBNe, Int.reduceEq, Int.reduceAdd, Int.reduceSub, Int.reduceMul, Int.reduceNeg, Int.cast_ofNat_Int, encB, encP, hb1, hwr, hmx, undef]; first | refine callK_r (by first | assumption | exact h1 | exact hbeg | exact hck | exact hck2 | exact hu | exact hus | exact hua | exact hch | exact hsi) (by first | exact .inl rfl | exact .inr rfl) ?_ | (refine callK_i (by assumption) ?_ ?_ ?_; (solve | (repeat (first | exact DLe.refl _ | exact DLe.nil _ | (refine DLe.tup ?_) | (refine DLe.agg ?_ rfl) | exact trivial | (refine And.intro ?_ ?_)))); (solve | exact .inl rfl | exact .inr rfl))) | fail | omega | exact decide_eq_true (by omega) | exact DLe.refl _)
end Go.Proofs.Ytbeocackphfijaa
namespace Go.Proofs.Ytbeocackphfijaa
open Go Go.RowKit Go.Proofs Go.ChangeShapes Go.WideShapes Go.Deep
section
variable {H : Type} {enc : TypeId × Value → H} {P : Program} {w : World} {base : Nat} {spare : Nat → Bool} {held : Bool}
/-- Whatever is read as of type t is an R. -/
def Rd {α : Type} (enc : TypeId × Value → H) (P : Program) (w : World) (base : Nat) (spare : Nat → Bool) (held : Bool) (t : TypeId) (R : List Value → α → Prop) : Prop :=
  ∀ fuel cs x, DataW.trod enc P w base spare held fuel t cs = some x → ∃ a, R cs a
theorem Rd.map {α β : Type} {t : TypeId} {R : List Value → α → Prop} {R' : List Value → β → Prop} (h : Rd enc P w base spare held t R) (f : α → β) (hf : ∀ cs a, R cs a → R' cs (f a)) : Rd enc P w base spare held t R' := by
  intro fuel cs x hx
  obtain ⟨a, ha⟩ := h fuel cs x hx
  exact ⟨f a, hf _ _ ha⟩
def in64 (n : Int) : Prop := -9223372036854775808 ≤ n ∧ n ≤ 9223372036854775807
def IntR (cs : List Value) (n : Int) : Prop := cs = [.int .i64 n] ∧ in64 n
theorem in64_wf {n : Int} (h : (Lit.int .i64 n).wf = true) : in64 n := by
  simp only [Lit.wf, Bool.and_eq_true, decide_eq_true_eq] at h
  have h1 : IntKind.i64.min = -9223372036854775808 := rfl
  have h2 : IntKind.i64.max = 9223372036854775807 := rfl
  rw [h1, h2] at h
  exact h
theorem rd_int {t : TypeId} (ht : P.underlying t = some (.int .i64)) : Rd enc P w base spare held t IntR := by
  intro fuel cs x hx
  obtain ⟨n, h, _, hw⟩ := DataW.trod_int ht hx
  exact ⟨n, h, in64_wf hw⟩
theorem rd_field {α : Type} {t : TypeId} {fs : Array Field} {fuel : Nat} {cs : List Value} {x : DataW H × List MemPlace} (ht : P.underlying t = some (.struct fs)) (h : DataW.trod enc P w base spare held fuel t cs = some x)
    (j : Nat) {f : Field} (hf : fs[j]? = some f) {R : List Value → α → Prop} (hr : Rd enc P w base spare held f.type R) : ∃ a, R ((cs.drop f.offset).take (P.cellsOf f.type)) a := by
  obtain ⟨xs, n, _, _, _, hlen, hg⟩ := DataW.trod_struct ht h
  have h1 := hg j f hf
  have hj : j < xs.length := by rw [hlen]; exact (Array.getElem?_eq_some_iff.1 hf).1
  rw [List.getElem?_eq_getElem hj] at h1
  exact hr _ _ _ h1
theorem rd_len {t : TypeId} {fs : Array Field} {fuel : Nat} {cs : List Value} {x : DataW H × List MemPlace} (ht : P.underlying t = some (.struct fs)) (h : DataW.trod enc P w base spare held fuel t cs = some x) : cs.length = P.cellsOf t := by
  obtain ⟨_, _, _, _, h, _⟩ := DataW.trod_struct ht h
  exact h
theorem pick_list {α : Type} {Q : Nat → α → Prop} : ∀ (n : Nat), (∀ i, i < n → ∃ a, Q i a) → ∃ l : List α, l.length = n ∧ ∀ i (h : i < l.length), Q i l[i]
  | 0, _ => ⟨[], rfl, fun i h => by simp at h⟩
  | n + 1, h => by
    obtain ⟨l, hl, hq⟩ := pick_list n fun i hi => h i (by omega)
    obtain ⟨a, ha⟩ := h n (by omega)
    refine ⟨l ++ [a], by simp [hl], fun i hi => ?_⟩
    rcases Nat.lt_or_ge i l.length with h1 | h1
    · rw [List.getElem_append_left h1]; exact hq i h1
    · have : i = n := by simp at hi; omega
      subst this
      rw [List.getElem_append_right h1]
      simpa using ha
/-- What came in lies below the heap's size. -/
def inW (w : World) : Area := fun b => b < w.heap.size
theorem arg_int {r : Reach} {b0 : Nat} {t : TypeId} {v : Value} {d : DataW H} {p : List MemPlace} (ht : P.underlying t = some (.int .i64)) (hval : Value.okWide P w r b0 t v) (hd : DataW.Trod enc P w base spare held t v d p) : ∃ n, v = .int .i64 n ∧ in64 n := by
  obtain ⟨n, h, _, _, hw⟩ := open_int ht hval hd
  exact ⟨n, h, in64_wf hw⟩
theorem trod_lts {t : TypeId} {v : Value} {d : DataW H} {p : List MemPlace} (h : DataW.Trod enc P w base spare held t v d p) : ∀ x ∈ p, x.block < w.heap.size := by
  obtain ⟨m, hm⟩ := h
  exact DataW.trod_lt m _ _ _ hm
end
end Go.Proofs.Ytbeocackphfijaa
namespace Go.Proofs.Ytbeocackphfijaa
open Go Go.RowKit Go.Proofs Go.ChangeShapes Go.WideShapes Go.Deep
/-- Nothing may be written. -/
def NM : Nat → Prop := fun _ => False
section
variable {H : Type} {enc : TypeId × Value → H} {P : Program} {w : World} {base : Nat} {spare : Nat → Bool} {held : Bool}
def RdW {α : Type} (enc : TypeId × Value → H) (P : Program) (w : World) (base : Nat) (spare : Nat → Bool) (held : Bool) (t : TypeId) (R : List Value → α → Prop) (S : α → Prop) : Prop :=
  ∀ fuel cs x, DataW.trod enc P w base spare held fuel t cs = some x → ∃ a, R cs a ∧ ((∀ n ∈ x.1.weights P t, n ≤ reachBytes) → S a)
theorem rdw_of {α : Type} {t : TypeId} {R : List Value → α → Prop} (h : Rd enc P w base spare held t R) : RdW enc P w base spare held t R (fun _ => True) := by
  intro fuel cs x hx
  obtain ⟨a, ha⟩ := h fuel cs x hx
  exact ⟨a, ha, fun _ => trivial⟩
theorem weights_all {e : TypeId} : ∀ {l : List (DataW H)} {d : DataW H}, d ∈ l → ∀ n ∈ d.weights P e, n ∈ DataW.weightsAll P e l
  | a :: l, d, h, n, hn => by
    simp only [DataW.weightsAll, List.mem_append]
    rcases List.mem_cons.1 h with rfl | h
    · exact .inl hn
    · exact .inr (weights_all h n hn)
theorem rdw_field {α : Type} {t : TypeId} {fs : Array Field} {fuel : Nat} {cs : List Value} {x : DataW H × List MemPlace} (ht : P.underlying t = some (.struct fs)) (h : DataW.trod enc P w base spare held fuel t cs = some x)
    (j : Nat) {f : Field} (hf : fs[j]? = some f) {R : List Value → α → Prop} {S : α → Prop} (hr : RdW enc P w base spare held f.type R S) : ∃ a, R ((cs.drop f.offset).take (P.cellsOf f.type)) a ∧ ((∀ n ∈ x.1.weights P t, n ≤ reachBytes) → S a) := by
  obtain ⟨xs, n, _, rfl, _, hlen, hg⟩ := DataW.trod_struct ht h
  have h1 := hg j f hf
  have hj : j < xs.length := by rw [hlen]; exact (Array.getElem?_eq_some_iff.1 hf).1
  rw [List.getElem?_eq_getElem hj] at h1
  obtain ⟨a, ha, hs⟩ := hr _ _ _ h1
  refine ⟨a, ha, fun hw => hs fun n hn => hw n ?_⟩
  simp only [DataW.weights, ht]
  exact DataW.weights_mem_each (j := j) (t := f.type) (d := (xs[j]).1) (by simp [hf]) (by simp [List.getElem?_eq_getElem hj]) n hn
theorem rdw_slice {α : Type} {t e : TypeId} {k : Nat} {R : List Value → α → Prop} {S : α → Prop} (ht : P.underlying t = some (.slice e)) (hc : P.cellsOf e = k + 1) (he : RdW enc P w base spare held e R S) :
    RdW enc P w base spare held t (fun cs (l : List α) => ∃ v, cs = [v] ∧ IsSl (inW w) w (k + 1) R v l) (fun l => l.length * P.bytesOf e ≤ reachBytes ∧ ∀ a ∈ l, S a) := by
  intro fuel cs x hx
  rcases open_slice ht hx with ⟨rfl, rfl⟩ | ⟨a, len, cap, m, n, D, Pl, rfl, hb, hl, hm, hmm, rfl, hi⟩
  · exact ⟨[], ⟨_, rfl, none, 0, rfl, ⟨Nat.le_refl _, by decide, fun i h => by simp at h⟩⟩, fun _ => ⟨by simp, fun a h => by simp at h⟩⟩
  · have hlm : len ≤ m := by rw [hmm]; split <;> omega
    obtain ⟨l, hll, hq⟩ := pick_list (Q := fun i y => ∃ cs', w.cells? base (a.add (i * P.cellsOf e)) (P.cellsOf e) = some cs' ∧ R cs' y ∧ ((∀ n ∈ (D i).weights P e, n ≤ reachBytes) → S y)) len fun i h => by
      obtain ⟨cs', h1, h2⟩ := hi i (by omega)
      obtain ⟨y, hy, hs⟩ := he _ _ _ h2
      exact ⟨y, cs', h1, hy, hs⟩
    refine ⟨l, ⟨_, rfl, some a, cap, by rw [hll], ⟨by omega, by unfold maxLen at hm; omega, fun i h => ?_⟩⟩, fun hw => ⟨?_, fun y hy => ?_⟩⟩
    · obtain ⟨cs', h1, h2, -⟩ := hq i h
      rw [hc] at h1
      obtain ⟨_, hcl, hat⟩ := World.cells?_some h1
      obtain ⟨b, off, spot⟩ := a
      have hspot : spot = none := by
        obtain ⟨cs0, g1, _⟩ := hq 0 (by omega)
        rw [hc] at g1
        obtain ⟨_, gcl, gat⟩ := World.cells?_some g1
        have g0 := gat (i := 0) (by omega)
        have g0' : w.cell? ⟨b, off, spot⟩ = some (cs0[0]'(by omega)) := by
          have : ((⟨b, off, spot⟩ : Addr).add (0 * (k + 1))).add 0 = ⟨b, off, spot⟩ := by simp [Addr.add]
          rw [this] at g0
          rw [g0]; exact List.getElem?_eq_getElem (by omega)
        exact World.cell?_spot g0'
      subst hspot
      have hadd : ∀ o j, ((⟨b, o, none⟩ : Addr).add j) = ⟨b, o + j, none⟩ := by
        intro o j; unfold Addr.add; split <;> simp_all
      refine ⟨b, off, cs', rfl, ?_, hcl, h2, fun j hj => ?_⟩
      · have := hat (i := 0) (by omega)
        rw [hadd, hadd] at this
        exact lt_of_cell (this.trans (List.getElem?_eq_getElem (by omega)))
      · have := hat (i := j) (by omega)
        rw [hadd, hadd] at this
        rw [this]
        exact List.getElem?_eq_getElem hj
    · have := hw (((List.range len).map D).length + ((List.range (m - len)).map fun j => D (len + j)).length |> (· * P.bytesOf e)) (by simp [DataW.weights, ht])
      simp only [List.length_map, List.length_range] at this
      rw [hll]
      exact Nat.le_trans (Nat.mul_le_mul_right _ (by omega)) this
    · obtain ⟨i, hil, rfl⟩ := List.mem_iff_getElem.1 hy
      obtain ⟨cs', h1, h2, h3⟩ := hq i hil
      refine h3 fun n hn => hw n ?_
      simp only [DataW.weights, ht]
      refine List.mem_cons_of_mem _ (List.mem_append_left _ (weights_all (d := D i) (List.mem_map.2 ⟨i, by simp; omega, rfl⟩) n hn))
theorem argw {α : Type} {R : List Value → α → Prop} {S : α → Prop} {r : Reach} {b0 : Nat} {t : TypeId} {fs : Array Field} {v : Value} {d : DataW H} {p : List MemPlace} (ht : P.underlying t = some (.struct fs)) (hval : Value.okWide P w r b0 t v) (hd : DataW.Trod enc P w base spare held t v d p)
    (hr : RdW enc P w base spare held t R S) : ∃ cs a, v = .agg cs ∧ R cs.toList a ∧ ((∀ n ∈ d.weights P t, n ≤ reachBytes) → S a) := by
  obtain ⟨cs, rfl, _⟩ := okWide_struct ht hval
  obtain ⟨fuel, hf⟩ := hd
  obtain ⟨a, ha, hs⟩ := hr _ _ _ hf
  exact ⟨cs, a, rfl, by simpa [Value.cells] using ha, hs⟩
end
end Go.Proofs.Ytbeocackphfijaa
namespace Go.Proofs.Ytbeocackphfijaa
open Go Go.RowKit Go.Proofs Go.ChangeShapes Go.WideShapes Go.Deep
set_option maxRecDepth 100000
section
variable {H : Type} {enc : TypeId × Value → H} {w : World} {base : Nat} {spare : Nat → Bool} {held : Bool}
theorem Try.sizePfx : Try.prog.cellsOf 26 = 2 := by kernel_rfl
theorem Try.sizeInt1 : Try.prog.cellsOf 3 = 1 := by kernel_rfl
theorem rd_pfx : Rd enc Try.prog w base spare held 26 Pfx.R := by
  intro fuel cs x hx
  have hl := rd_len Try.underlying26 hx
  rw [Try.sizePfx] at hl
  obtain ⟨a, ha⟩ := rd_field Try.underlying26 hx 0 rfl (rd_int Try.underlying3)
  obtain ⟨b, hb⟩ := rd_field Try.underlying26 hx 1 rfl (rd_int Try.underlying3)
  match cs, hl with
  | [c0, c1], _ =>
    simp [Try.sizeInt1, IntR] at ha hb
    exact ⟨⟨a, b⟩, by simp [Pfx.R, ha.1, hb.1]⟩
end
end Go.Proofs.Ytbeocackphfijaa
namespace Go.Proofs.Ytbeocackphfijaa
open Go Go.RowKit Go.Proofs Go.ChangeShapes Go.WideShapes Go.Deep
set_option maxRecDepth 100000
/-- A slice of what reads as data reads as data. -/
theorem isSl_rep {α : Type} {enc : α → List D} {sz : Nat} {w : World} (h0 : 0 < sz) (hen : ∀ a, (enc a).length = sz ∧ ∀ d ∈ enc a, d.one = true) {v : Value} {l : List α} (h : IsSl (inW w) w sz (fun cs a => RepDs NM w (enc a) cs) v l) : RepD NM w (.sl sz (l.map enc)) v := by
  obtain ⟨ao, cap, rfl, hs⟩ := h
  cases l with
  | nil => exact .nil sz ao cap hs.cap_max
  | cons u us =>
    obtain ⟨b, off, cs, rfl, hAb, hl, hR, hcs⟩ := hs.elem 0 (by simp)
    have key : ∀ i (hi : i < (u :: us).length), ∃ cs : List Value, cs.length = sz ∧ RepDs NM w (enc (u :: us)[i]) cs ∧ cellsAt w b (off + i * sz) cs := by
      intro i hi
      obtain ⟨b', off', cs', e, -, hl', hR', hcs'⟩ := hs.elem i hi
      cases e
      exact ⟨cs', hl', hR', hcs'⟩
    have hlen : ((u :: us).map enc).length = (u :: us).length := by simp
    rw [← hlen]
    refine .sl sz ((u :: us).map enc) b off cap (fun i j => (w.cell? ⟨b, off + i * sz + j, none⟩).getD undef) (fun h => h) hAb (by rw [hlen]; exact hs.cap_le) hs.cap_max (fun r hr => ?_) (fun r hr => ?_) (fun i j hi hj => ?_) (fun i j row d hi hj => ?_)
    · obtain ⟨x, -, rfl⟩ := List.mem_map.1 hr; exact (hen x).1
    · obtain ⟨x, -, rfl⟩ := List.mem_map.1 hr; exact (hen x).2
    · obtain ⟨cs', hl', -, hcs'⟩ := key i (by simpa using hi)
      rw [hcs' j (by omega)]; rfl
    · have hi' : i < (u :: us).length := by have := (List.getElem?_eq_some_iff.1 hi).1; simpa using this
      obtain ⟨cs', hl', hR', hcs'⟩ := key i hi'
      rw [List.getElem?_map, List.getElem?_eq_getElem hi'] at hi
      simp only [Option.map_some, Option.some.injEq] at hi
      subst hi
      have hj' : j < cs'.length := by rw [← hR'.1]; exact (List.getElem?_eq_some_iff.1 hj).1
      rw [hcs' j hj']
      exact hR'.2 j d _ hj (List.getElem?_eq_getElem hj')
section
variable {H : Type} {enc : TypeId × Value → H} {w : World} {base : Nat} {spare : Nat → Bool} {held : Bool}
theorem Try.sizeLse : Try.prog.cellsOf 50 = 5 := by kernel_rfl
theorem Try.sizePol : Try.prog.cellsOf 46 = 9 := by kernel_rfl
theorem Try.sizeBok : Try.prog.cellsOf 24 = 2 := by kernel_rfl
theorem Try.sizeRul : Try.prog.cellsOf 28 = 4 := by kernel_rfl
theorem Try.sizeLses : Try.prog.cellsOf 44 = 1 := by kernel_rfl
theorem Try.sizePols : Try.prog.cellsOf 22 = 1 := by kernel_rfl
theorem Try.bytesLse : Try.prog.bytesOf 50 = 40 := by kernel_rfl
theorem repDs_ints (l : List Int) : RepDs NM w (l.map fun n => .v (.int .i64 n)) (l.map fun n => .int .i64 n) := by
  refine ⟨by simp, fun j d x hj hx => ?_⟩
  rw [List.getElem?_map, Option.map_eq_some_iff] at hj hx
  obtain ⟨a, ha, rfl⟩ := hj
  obtain ⟨c, hc, rfl⟩ := hx
  rw [ha] at hc
  obtain rfl := Option.some.inj hc
  exact .v _
theorem rd_lse : Rd enc Try.prog w base spare held 50 fun cs (l : Lse) => cs = [.int .i64 l.at_.at_, .int .i64 l.at_.len, .int .i64 l.kind, .int .i64 l.owner, .int .i64 l.till] := by
  intro fuel cs x hx
  have hl := rd_len Try.underlying50 hx
  rw [Try.sizeLse] at hl
  obtain ⟨p, hp⟩ := rd_field Try.underlying50 hx 0 rfl rd_pfx
  obtain ⟨k, hk⟩ := rd_field Try.underlying50 hx 1 rfl (rd_int Try.underlying3)
  obtain ⟨o, ho⟩ := rd_field Try.underlying50 hx 2 rfl (rd_int Try.underlying3)
  obtain ⟨t, ht⟩ := rd_field Try.underlying50 hx 3 rfl (rd_int Try.underlying3)
  match cs, hl with
  | [c0, c1, c2, c3, c4], _ =>
    simp [Try.sizePfx, Try.sizeInt1, IntR, Pfx.R] at hp hk ho ht
    exact ⟨⟨p, k, o, t⟩, by simp [hp.1, hp.2, hk.1, ho.1, ht.1]⟩
theorem rd_rul : Rd enc Try.prog w base spare held 28 fun cs (r : Rul) => cs = [.int .i64 r.min, .int .i64 r.max, .int .i64 r.usual, .int .i64 r.cool] := by
  intro fuel cs x hx
  have hl := rd_len Try.underlying28 hx
  rw [Try.sizeRul] at hl
  obtain ⟨a, ha⟩ := rd_field Try.underlying28 hx 0 rfl (rd_int Try.underlying3)
  obtain ⟨b, hb⟩ := rd_field Try.underlying28 hx 1 rfl (rd_int Try.underlying3)
  obtain ⟨c, hc⟩ := rd_field Try.underlying28 hx 2 rfl (rd_int Try.underlying3)
  obtain ⟨d, hd⟩ := rd_field Try.underlying28 hx 3 rfl (rd_int Try.underlying3)
  match cs, hl with
  | [c0, c1, c2, c3], _ =>
    simp [Try.sizeInt1, IntR] at ha hb hc hd
    exact ⟨⟨a, b, c, d⟩, by simp [ha.1, hb.1, hc.1, hd.1]⟩
theorem rd_lseD : Rd enc Try.prog w base spare held 50 fun cs (l : Lse) => RepDs NM w (encL l) cs :=
  rd_lse.map id fun cs l h => by rw [h]; exact repDs_ints [l.at_.at_, l.at_.len, l.kind, l.owner, l.till]
theorem rdw_lses : RdW enc Try.prog w base spare held 44 (fun cs (l : List Lse) => ∃ v, cs = [v] ∧ RepD NM w (.sl 5 (l.map encL)) v) (fun l => l.length * 40 ≤ reachBytes) := by
  have h := rdw_slice (enc := enc) (base := base) (spare := spare) (held := held) Try.underlying44 Try.sizeLse (rdw_of (rd_lseD (w := w)))
  intro fuel cs x hx
  obtain ⟨l, ⟨v, rfl, hs⟩, hw⟩ := h fuel cs x hx
  refine ⟨l, ⟨v, rfl, isSl_rep (sz := 5) (by omega) (fun a => ⟨rfl, fun d hd => ?_⟩) hs⟩, fun hh => by have := (hw hh).1; rwa [Try.bytesLse] at this⟩
  simp [encL] at hd
  rcases hd with rfl | rfl | rfl | rfl | rfl <;> rfl
theorem repDs_appR {M : Nat → Prop} {w : World} {ds es : List D} {vs us : List Value} (h : RepDs M w ds vs) (g : RepDs M w es us) : RepDs M w (ds ++ es) (vs ++ us) := by
  refine ⟨by simp [h.1, g.1], fun j d x hj hx => ?_⟩
  rcases Nat.lt_or_ge j ds.length with hlt | hge
  · rw [List.getElem?_append_left hlt] at hj
    rw [List.getElem?_append_left (by rw [← h.1]; exact hlt)] at hx
    exact h.2 j d x hj hx
  · rw [List.getElem?_append_right hge] at hj
    rw [List.getElem?_append_right (by rw [← h.1]; exact hge), ← h.1] at hx
    exact g.2 _ d x hj hx
theorem repDs_one {M : Nat → Prop} {w : World} {d : D} {v : Value} (h : RepD M w d v) : RepDs M w [d] [v] := ⟨rfl, fun j e x hj hx => by
  match j with
  | 0 => cases hj; cases hx; exact h
  | j + 1 => simp at hj⟩
theorem rdw_pol : RdW enc Try.prog w base spare held 46 (fun cs (p : Pol) => RepDs NM w (encPol p) cs) (fun p => p.leases.length * 40 ≤ reachBytes) := by
  intro fuel cs x hx
  have hl := rd_len Try.underlying46 hx
  rw [Try.sizePol] at hl
  obtain ⟨a, ha⟩ := rd_field Try.underlying46 hx 0 rfl (rd_int Try.underlying3)
  obtain ⟨b, hb⟩ := rd_field Try.underlying46 hx 1 rfl (rd_int Try.underlying3)
  obtain ⟨p, hp⟩ := rd_field Try.underlying46 hx 2 rfl rd_pfx
  obtain ⟨r, hr⟩ := rd_field Try.underlying46 hx 3 rfl rd_rul
  obtain ⟨l, hs, hw⟩ := rdw_field Try.underlying46 hx 4 rfl rdw_lses
  match cs, hl with
  | [c0, c1, c2, c3, c4, c5, c6, c7, c8], _ =>
    simp [Try.sizePfx, Try.sizeInt1, Try.sizeRul, Try.sizeLses, IntR, Pfx.R] at ha hb hp hr hs
    refine ⟨⟨a, b, p, r, l⟩, ?_, hw⟩
    rw [ha.1, hb.1, hp.1, hp.2, hr.1, hr.2.1, hr.2.2.1, hr.2.2.2]
    exact repDs_appR (repDs_ints [a, b, p.at_, p.len, r.min, r.max, r.usual, r.cool]) (repDs_one hs)
theorem rdw_pols : RdW enc Try.prog w base spare held 22 (fun cs (l : List Pol) => ∃ v, cs = [v] ∧ RepD NM w (.sl 9 (l.map encPol)) v) (fun l => ∀ p ∈ l, p.leases.length * 40 ≤ reachBytes) := by
  have h := rdw_slice (enc := enc) (base := base) (spare := spare) (held := held) Try.underlying22 Try.sizePol (rdw_pol (w := w))
  intro fuel cs x hx
  obtain ⟨l, ⟨v, rfl, hs⟩, hw⟩ := h fuel cs x hx
  refine ⟨l, ⟨v, rfl, isSl_rep (sz := 9) (by omega) (fun a => ⟨rfl, fun d hd => ?_⟩) hs⟩, fun hh => (hw hh).2⟩
  simp [encPol] at hd
  rcases hd with rfl | rfl | rfl | rfl | rfl | rfl | rfl | rfl | rfl <;> rfl
theorem rdw_bok : RdW enc Try.prog w base spare held 24 (fun cs (b : Bok) => RepDs NM w (encB b) cs) (fun b => ∀ p ∈ b.pools, p.leases.length ≤ 3518437208882) := by
  intro fuel cs x hx
  have hl := rd_len Try.underlying24 hx
  rw [Try.sizeBok] at hl
  obtain ⟨a, ha⟩ := rd_field Try.underlying24 hx 0 rfl (rd_int Try.underlying3)
  obtain ⟨l, hs, hw⟩ := rdw_field Try.underlying24 hx 1 rfl rdw_pols
  match cs, hl with
  | [c0, c1], _ =>
    simp [Try.sizeInt1, Try.sizePols, IntR] at ha hs
    refine ⟨⟨a, l⟩, ?_, fun hh p hp => ?_⟩
    · rw [ha.1]
      exact repDs_appR (repDs_ints [a]) (repDs_one hs)
    · have := hw hh p hp
      unfold reachBytes at this
      omega
end
end Go.Proofs.Ytbeocackphfijaa
namespace Go.Proofs.Ytbeocackphfijaa
open Go Go.RowKit Go.Proofs Go.ChangeShapes Go.WideShapes Go.Deep
theorem repDs_n {M : Nat → Prop} {w : World} : RepDs M w [] [] := ⟨rfl, fun j d x hj _ => by simp at hj⟩
theorem repDs_c {M : Nat → Prop} {w : World} {d : D} {v : Value} {ds : List D} {vs : List Value} (h : RepD M w d v) (g : RepDs M w ds vs) : RepDs M w (d :: ds) (v :: vs) := ⟨by simp [g.1], fun j e x hj hx => by
  cases j with
  | zero => simp at hj hx; subst hj; subst hx; exact h
  | succ j => exact g.2 j e x (by simpa using hj) (by simpa using hx)⟩
theorem rep_agg {w : World} {cs : Array Value} {ds : List D} (h : RepDs NM w ds cs.toList) (h1 : ds.all D.one = true) : RepD NM w (.agg ds) (.agg cs) := by
  have := RepD.agg (M := NM) (w := w) ds cs.toList h.1 (fun d hd => List.all_eq_true.1 h1 d hd) h.2
  simpa using this
theorem law_of {P : Program} {f : Nat} {args : List D} {vs : List Value} {W : World} (hp : PSpec P f args (.v (.bool true))) (hds : RepDs NM W args vs) : Calls P f vs.toArray W fun e w' => e = .returned (.bool true) ∧ Ext W w' := by
  refine (hp.2 NM W vs (fun b h => h.elim) hds).mono ?_
  rintro e w' ⟨v, rfl, hv, hx⟩
  cases hv
  exact ⟨rfl, hx⟩
section
variable {H : Type} {enc : TypeId × Value → H} {w : World} {base : Nat} {spare : Nat → Bool} {held : Bool}
end
end Go.Proofs.Ytbeocackphfijaa
namespace Go.Proofs.Ytbeocackphfijaa
open Go Go.RowKit Go.Proofs Go.ChangeShapes Go.WideShapes Go.ChangeAt
set_option linter.unusedVariables false
theorem poolApart_own : ownKnob Try.prog.godebug = Option.none := by kernel_rfl
theorem poolApart_laidOut : laidOutB Try.prog = true := by kernel_rfl
set_option maxRecDepth 100000 in
theorem poolApart_lifted (os : Os) (started : os.Started) (H : Type) (enc : TypeId × Value → H) :
    ReturnsInHanded {} Try.checked os 8 .any (Rows.poolApartSpec.pre6 enc Try.prog Try.f8 Rows.poolApartRow.domain false) (Rows.poolApartSpec.post enc Try.prog Try.f8 false true false false) := by
  refine returnsInHanded_of_change_sized (C := Try.checked) poolApart_own started (by kernel_rfl) Try.func8
    (ChangeSpec.witness6 (enc := enc) (C := Try.checked) false ⟨#[], #[.agg #[.int .i64 0, .slice none 0 0], .int .i64 0, .int .i64 0, .int .i64 0, .int .i64 0], []⟩ 8 (by kernel_rfl) (by kernel_rfl) (by kernel_rfl) (by kernel_rfl)) ?_
  intro W base args ds gs before hval0 hW hcnd hsz _
  have hval : ∀ (j : Nat) t v, Try.f8.params[j]? = some t → args[j]? = some v → Value.okWide Try.prog W .any base t v := hval0
  have hW' := hW
  obtain ⟨p, q, hA0, hV, rfl, hfz, hnd⟩ := hW
  have hA : DataW.TrodAll enc Try.prog W 0 (fun _ => true) true Try.f8.params.toList args.toList ds p := hA0
  rw [Try.params8] at hA hval
  obtain ⟨v0, vs0, d0, ds0, p0, q0, hargs, rfl, rfl, h0, r0⟩ := trodAll_cons hA
  obtain ⟨v1, vs1, d1, ds1, p1, q1, rfl, rfl, rfl, h1, r1⟩ := trodAll_cons r0
  obtain ⟨v2, vs2, d2, ds2, p2, q2, rfl, rfl, rfl, h2, r2⟩ := trodAll_cons r1
  obtain ⟨v3, vs3, d3, ds3, p3, q3, rfl, rfl, rfl, h3, r3⟩ := trodAll_cons r2
  obtain ⟨v4, vs4, d4, ds4, p4, q4, rfl, rfl, rfl, h4, r4⟩ := trodAll_cons r3
  obtain ⟨rfl, rfl, rfl⟩ := trodAll_nil r4
  obtain rfl : args = #[v0, v1, v2, v3, v4] := by cases args; simp_all
  obtain ⟨rfl, rfl⟩ := trodVars_none hV
  obtain ⟨cs0, a0, rfl, w0, s0⟩ := argw Try.underlying24 (hval 0 24 v0 rfl rfl) h0 rdw_bok
  replace s0 := s0 (fun n hn => of_decide_eq_true (List.all_eq_true.1 hsz _ (DataW.weights_mem_each (j := 0) (t := 24) rfl rfl n hn)))
  obtain ⟨a1, rfl, w1⟩ := arg_int Try.underlying3 (hval 1 3 v1 rfl rfl) h1
  obtain ⟨a2, rfl, w2⟩ := arg_int Try.underlying3 (hval 2 3 v2 rfl rfl) h2
  obtain ⟨a3, rfl, w3⟩ := arg_int Try.underlying3 (hval 3 3 v3 rfl rfl) h3
  obtain ⟨a4, rfl, w4⟩ := arg_int Try.underlying3 (hval 4 3 v4 rfl rfl) h4
  clear hA0 hval0
  refine (law_of (poolApart_p a0 a1 a2 a3 a4 s0 w4.1 w4.2) (vs := [.agg cs0, .int .i64 a1, .int .i64 a2, .int .i64 a3, .int .i64 a4]) (repDs_c (rep_agg w0 rfl) (repDs_c (.v (.int .i64 a1)) (repDs_c (.v (.int .i64 a2)) (repDs_c (.v (.int .i64 a3)) (repDs_c (.v (.int .i64 a4)) repDs_n)))))).mono fun e W' ⟨he, bel⟩ => ?_
  subst he
  exact ⟨_, rfl, _, _, _, [], _, [], hW', trodAll_mk1 (shut_bool Try.underlying4 _), (trodAll_cons_mk (Below.trod poolApart_laidOut (by kernel_rfl) (of_decide_eq_true (by kernel_rfl)) h0 bel (trod_lts h0)) (trodAll_cons_mk (Below.trod poolApart_laidOut (by kernel_rfl) (of_decide_eq_true (by kernel_rfl)) h1 bel (trod_lts h1)) (trodAll_cons_mk (Below.trod poolApart_laidOut (by kernel_rfl) (of_decide_eq_true (by kernel_rfl)) h2 bel (trod_lts h2)) (trodAll_cons_mk (Below.trod poolApart_laidOut (by kernel_rfl) (of_decide_eq_true (by kernel_rfl)) h3 bel (trod_lts h3)) (trodAll_cons_mk (Below.trod poolApart_laidOut (by kernel_rfl) (of_decide_eq_true (by kernel_rfl)) h4 bel (trod_lts h4)) trodAll_mk0))))), rfl, bel.frame _, fun h => by cases h⟩
theorem poolApart_over : Rows.poolApartRow.holds Try.pinned (OpenSpec.ofChange Rows.poolApartSpec) :=
  OpenClaim.holds_of_wide 8 Try.f8 rfl rfl rfl rfl rfl rfl rfl ⟨rfl, rfl, rfl, rfl, rfl⟩ rfl rfl rfl rfl rfl (by kernel_rfl) Try.func8 (by kernel_rfl)
    (of_decide_eq_true (by kernel_rfl)) (by unfold Func.isWrapper; first | (rw [if_pos (by decide +kernel)]; kernel_rfl) | (rw [if_neg (by decide +kernel)]; exact ⟨rfl, rfl⟩))
    (fun os started H enc _ => poolApart_lifted os started H enc)
theorem poolApart_holds : Rows.PoolApartSaid := poolApart_over
#print axioms poolApart_holds
end Go.Proofs.Ytbeocackphfijaa
