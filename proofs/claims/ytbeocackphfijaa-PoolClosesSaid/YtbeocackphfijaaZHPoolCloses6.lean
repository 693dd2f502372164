/- PoolCloses: its statement, for every input, out of its walk. (texts of this work, joined) -/
import Derived.Test.YtbeocackphfijaaZHPoolCloses5
import Derived.Deep.Slices
import Derived.Deep.Fields
import Derived.ChangeSame
import Derived.OpenShut
import Derived.ProofKit
import Derived.Carry
import Derived.ChangeMaps5
import Derived.DataShut
import Derived.SizedLaws
import Derived.Test.YtbeocackphfijaaRows
import Derived.WalkKit
import Derived.ShutString
import Derived.ChangeOld
import Derived.Below
set_option linter.unusedSimpArgs false
set_option linter.unusedVariables false
namespace Go.Proofs.Ytbeocackphfijaa
open Go Go.RowKit
/-- The pools, the first k of which have passed. -/
def passK (b : Bok) (t : Int) (k : Nat) : List Pol := (b.pools.take k).map (passP t) ++ b.pools.drop k
theorem passK_len (b : Bok) (t : Int) (k : Nat) (hk : k ≤ b.pools.length) : (passK b t k).length = b.pools.length := by
  unfold passK; simp; omega
theorem passK_get {b : Bok} {t : Int} {k : Nat} {p : Pol} (hp : b.pools[k]? = some p) : (passK b t k)[k]? = some p := by
  have hk := (List.getElem?_eq_some_iff.1 hp).1
  unfold passK
  rw [List.getElem?_append_right (by simp; omega)]
  simp only [List.length_map, List.length_take, List.getElem?_drop]
  rw [show k + (k - min k b.pools.length) = k by omega, hp]
theorem passK_set {b : Bok} {t : Int} {k : Nat} {p : Pol} (hp : b.pools[k]? = some p) : (passK b t k).set k (passP t p) = passK b t (k + 1) := by
  have hk := (List.getElem?_eq_some_iff.1 hp).1
  unfold passK
  rw [List.set_append_right _ _ (by simp; omega), take_snoc hp, List.map_append, drop_get hp]
  simp only [List.length_map, List.length_take]
  rw [show k - min k b.pools.length = 0 by omega]
  simp
theorem filt_snoc {α : Type} {p : α → Bool} {l : List α} {k : Nat} {x : α} (h : l[k]? = some x) : (l.take (k + 1)).filter p = (l.take k).filter p ++ if p x then [x] else [] := by
  rw [take_snoc h, List.filter_append]
  cases hp : p x <;> simp [hp]
set_option maxRecDepth 100000 in
set_option maxHeartbeats 1000000 in
theorem passOf_p (b : Bok) (n : Int) (hz : ∀ p ∈ b.pools, p.leases.length ≤ 3518437208882) : PSpec Try.prog 24 [.agg (encB b), .v (.int .i64 n)] (.tup [.agg (encB (passR b n).1), .v (.int .i64 (passR b n).2)]) := by
  obtain ⟨R, hR⟩ : ∃ R, R = passR b n := ⟨_, rfl⟩
  rw [← hR]
  replace hR := Lib.hid hR
  have hck := checkBook_p b hz
  by_cases hc : chkBk b = 0
  · have hbk := bookOK hc
    have h8 := hbk.n8
    have ht := hbk.tick
    have hws : IntKind.i64.wrap (1073741824 - b.tick) = 1073741824 - b.tick := by rw [IntKind.wrap_i64]; omega
    have hwi := withinR_p n 1 (1073741824 - b.tick)
    rw [hc] at hck
    by_cases hn : n < 1 ∨ n > 1073741824 - b.tick
    · have hr : R = (Bok.zero, 3) := by rw [hR.out]; unfold passR; rw [if_neg (by simpa using hc), if_pos hn]
      have hd : (decide (1 ≤ n) && decide (n ≤ 1073741824 - b.tick)) = false := by
        rcases hn with h | h
        · simp; omega
        · simp; omega
      rw [hr]
      rw [hd] at hwi
      clear hr hR hd hn hbk hc
      refine ps_i tab_ok mixed Try.func24 rfl Try.ntmps24 Try.results24 (by kernel_rfl) ?_
      repeat' (first | (with_reducible refine And.intro ?_ ?_) | (with_reducible refine gK_i (fun _ => ?_) (fun _ => ?_)) | (with_reducible refine condS_i (fun _ => ?_) (fun _ => ?_)) | (with_reducible refine drw_i (by kernel_rfl)) | simp -dsimp only [go_sem, ↓reduceIte, reduceCtorEq, Nat.reduceAdd, Nat.reduceMul, Nat.reduceSub, Nat.reduceLeDiff, Nat.reduceLT, Nat.reduceEqDiff, Int.reduceLE, Int.reduceLT, Int.reduceToNat, Int.reduceBEq, Int.reduceBNe, Int.reduceEq, Int.reduceAdd, Int.reduceSub, Int.reduceMul, Int.reduceNeg, Int.cast_ofNat_Int, *, encB, hws] | ((with_reducible refine opK_c ?_); simp -dsimp only [go_sem, ↓reduceIte, reduceCtorEq, Nat.reduceAdd, Nat.reduceMul, Nat.reduceSub, Nat.reduceLeDiff, Nat.reduceLT, Nat.reduceEqDiff, Int.reduceLE, Int.reduceLT, Int.reduceToNat, Int.reduceBEq, Int.reduceBNe, Int.reduceEq, Int.reduceAdd, Int.reduceSub, Int.reduceMul, Int.reduceNeg, Int.cast_ofNat_Int, encB, hws]; first | refine callK_r (by first | assumption | exact hck | exact hwi) (by first | exact .inl rfl | exact .inr rfl) ?_ | (refine callK_i (by assumption) ?_ ?_ ?_; (solve | (repeat (first | exact DLe.refl _ | exact DLe.nil _ | (refine DLe.tup ?_) | (refine DLe.agg ?_ rfl) | exact trivial | (refine And.intro ?_ ?_)))); (solve | exact .inl rfl | exact .inr rfl))) | fail | omega | exact decide_eq_true (by omega) | exact DLe.refl _)
      exact (by repeat (first | exact DLe.refl _ | exact DLe.nil _ | (refine DLe.tup ?_) | (refine DLe.agg ?_ rfl) | exact trivial | (refine And.intro ?_ ?_)))
    · have hr : R = (⟨b.tick + n, b.pools.map (passP (b.tick + n))⟩, 0) := by rw [hR.out]; unfold passR; rw [if_neg (by simpa using hc), if_neg hn]
      have hd : (decide (1 ≤ n) && decide (n ≤ 1073741824 - b.tick)) = true := by simp; omega
      have hwt : IntKind.i64.wrap (b.tick + n) = b.tick + n := by rw [IntKind.wrap_i64]; omega
      have hob := ownBook_m b hbk.n8 hbk.l32
      have hl32 := hbk.l32
      rw [hr]
      rw [hd] at hwi
      clear hr hR hd hn hbk hc
      refine ps_i tab_ok mixed Try.func24 rfl Try.ntmps24 Try.results24 (by kernel_rfl) ?_
      repeat' (first | (with_reducible refine And.intro ?_ ?_) | (with_reducible refine gK_i (fun _ => ?_) (fun _ => ?_)) | (with_reducible refine condS_i (fun _ => ?_) (fun _ => ?_)) | (with_reducible refine drw_i (by kernel_rfl)) | simp -dsimp only [go_sem, ↓reduceIte, reduceCtorEq, Nat.reduceAdd, Nat.reduceMul, Nat.reduceSub, Nat.reduceLeDiff, Nat.reduceLT, Nat.reduceEqDiff, Int.reduceLE, Int.reduceLT, Int.reduceToNat, Int.reduceBEq, Int.reduceBNe, Int.reduceEq, Int.reduceAdd, Int.reduceSub, Int.reduceMul, Int.reduceNeg, Int.cast_ofNat_Int, *, encB, hws, hwt] | ((with_reducible refine opK_c ?_); simp -dsimp only [go_sem, ↓reduceIte, reduceCtorEq, Nat.reduceAdd, Nat.reduceMul, Nat.reduceSub, Nat.reduceLeDiff, Nat.reduceLT, Nat.reduceEqDiff, Int.reduceLE, Int.reduceLT, Int.reduceToNat, Int.reduceBEq, Int.reduceBNe, Int.reduceEq, Int.reduceAdd, Int.reduceSub, Int.reduceMul, Int.reduceNeg, Int.cast_ofNat_Int, encB, hws, hwt]; first | refine callK_r (by first | assumption | exact hck | exact hwi) (by first | exact .inl rfl | exact .inr rfl) ?_ | (refine callK_i (by assumption) ?_ ?_ ?_; (solve | (repeat (first | exact DLe.refl _ | exact DLe.nil _ | (refine DLe.tup ?_) | (refine DLe.agg ?_ rfl) | exact trivial | (refine And.intro ?_ ?_)))); (solve | exact .inl rfl | exact .inr rfl))) | (refine opK_M [] (hob) ?_ ?_ ?_ ?_ ?_ ?_; (solve | rfl | simp only [go_sem, ↓reduceIte, reduceCtorEq, Nat.reduceAdd, Nat.reduceMul, Nat.reduceSub, Nat.reduceLeDiff, Nat.reduceLT, Nat.reduceEqDiff, Int.reduceLE, Int.reduceLT, Int.reduceToNat, Int.reduceBEq, Int.reduceBNe, Int.reduceEq, Int.reduceAdd, Int.reduceSub, Int.reduceMul, Int.reduceNeg, Int.cast_ofNat_Int, encB]); (solve | rfl); (solve | decide); (solve | simp); (solve | simp only [go_sem, ↓reduceIte, reduceCtorEq, Nat.reduceAdd, Nat.reduceMul, Nat.reduceSub, Nat.reduceLeDiff, Nat.reduceLT, Nat.reduceEqDiff, Int.reduceLE, Int.reduceLT, Int.reduceToNat, Int.reduceBEq, Int.reduceBNe, Int.reduceEq, Int.reduceAdd, Int.reduceSub, Int.reduceMul, Int.reduceNeg, Int.cast_ofNat_Int, lentOK, encB])) | omega | exact decide_eq_true (by omega) | exact DLe.refl _)
      refine loopN tab_ok mixed b.pools.length (fun _ => True) (fun k => [(8, .d (.v (.int .i64 k))), (7, .ptr 6 0), (5, .d (.v (.int .i64 0))), (4, .ptr 1 0)])
        (fun k => [.box 24 ((encB b).map .d), .box 24 [.d (.v (.int .i64 0)), .d (.v (.slice none 0 0))], .gone, .gone, .gone, .row 46 9 b.pools.length (dRows ((passK b (b.tick + n) k).map encPol)), .box 24 [.d (.v (.int .i64 (b.tick + n))), .own 5 b.pools.length]]) trivial ?_ ?_ ?_
      · exact weak_forget _ (by simp) (by simp only [encB, passK, List.take_zero, List.map_nil, List.nil_append, List.drop_zero]; rfl) (by (repeat' (first | exact trivial | (refine ⟨rfl, ?_⟩)))) (by first | rfl | simp only [belowH, belowE, belowC, belowL, belowR, belowP, belowL_d, belowR_d, List.length_cons, List.length_nil, Nat.reduceAdd, Nat.reduceLT, decide_true, Bool.and_self, Bool.and_true]) (by first | rfl | simp only [belowH, belowE, belowC, belowL, belowR, belowP, belowL_d, belowR_d, List.length_cons, List.length_nil, Nat.reduceAdd, Nat.reduceLT, decide_true, Bool.and_self, Bool.and_true])
      · intro k hk _ C hC
        obtain ⟨p, hp⟩ : ∃ p, b.pools[k]? = some p := ⟨_, List.getElem?_eq_getElem hk⟩
        have hkI : (k : Int) < (b.pools.length : Int) := by omega
        have hwr : IntKind.i64.wrap ((k : Int) + 1) = ((k + 1 : Nat) : Int) := by rw [IntKind.wrap_i64]; omega
        have hg := passK_get (t := b.tick + n) hp
        have hs := passK_set (t := b.tick + n) hp
        have hkl := passK_len b (b.tick + n) k (by omega)
        have hpl := hl32 p (List.mem_of_getElem? hp)
        rw [← hs] at hC
        generalize passK b (b.tick + n) k = ps at *
        have hks : k < ps.length := by omega
        clear hs
        repeat' (first | (with_reducible refine And.intro ?_ ?_) | (with_reducible refine gK_i (fun _ => ?_) (fun _ => ?_)) | (with_reducible refine condS_i (fun _ => ?_) (fun _ => ?_)) | (with_reducible refine drw_i (by kernel_rfl)) | simp -dsimp only [go_sem, ↓reduceIte, reduceCtorEq, Nat.reduceAdd, Nat.reduceMul, Nat.reduceSub, Nat.reduceLeDiff, Nat.reduceLT, Nat.reduceEqDiff, Int.reduceLE, Int.reduceLT, Int.reduceToNat, Int.reduceBEq, Int.reduceBNe, Int.reduceEq, Int.reduceAdd, Int.reduceSub, Int.reduceMul, Int.reduceNeg, Int.cast_ofNat_Int, *, encB, hkI, hwr, hkl] | ((with_reducible refine opK_c ?_); simp -dsimp only [go_sem, ↓reduceIte, reduceCtorEq, Nat.reduceAdd, Nat.reduceMul, Nat.reduceSub, Nat.reduceLeDiff, Nat.reduceLT, Nat.reduceEqDiff, Int.reduceLE, Int.reduceLT, Int.reduceToNat, Int.reduceBEq, Int.reduceBNe, Int.reduceEq, Int.reduceAdd, Int.reduceSub, Int.reduceMul, Int.reduceNeg, Int.cast_ofNat_Int, encB, hkI, hwr, hkl]; first | refine callK_r (by first | assumption | fail) (by first | exact .inl rfl | exact .inr rfl) ?_ | (refine callK_i (by assumption) ?_ ?_ ?_; (solve | (repeat (first | exact DLe.refl _ | exact DLe.nil _ | (refine DLe.tup ?_) | (refine DLe.agg ?_ rfl) | exact trivial | (refine And.intro ?_ ?_)))); (solve | exact .inl rfl | exact .inr rfl))) | fail | omega | exact decide_eq_true (by omega) | exact DLe.refl _)
        refine loopL tab_ok mixed p.leases (fun _ => True) (fun j => [(10, .d (.v (.int .i64 j))), (9, .own 7 ((p.leases.take j).filter fun l => !overB (b.tick + n) l).length), (8, .d (.v (.int .i64 k))), (7, .ptr 6 0), (5, .d (.v (.int .i64 0))), (4, .ptr 1 0)])
          (fun j => [.box 24 ((encB b).map .d), .box 24 [.d (.v (.int .i64 0)), .d (.v (.slice none 0 0))], .gone, .gone, .gone, .row 46 9 b.pools.length (dRows (ps.map encPol)), .box 24 [.d (.v (.int .i64 (b.tick + n))), .own 5 b.pools.length], .row 50 5 ((p.leases.take j).filter fun l => !overB (b.tick + n) l).length (dRows (((p.leases.take j).filter fun l => !overB (b.tick + n) l).map encL))]) trivial ?_ ?_ ?_
        · refine (weak_adopt (by simp) 9 50 5 rfl).trans ?_
          exact weak_forget _ (by simp) (by simp only [encB]; rfl) (by (repeat' (first | exact trivial | (refine ⟨rfl, ?_⟩)))) (by first | rfl | simp only [belowH, belowE, belowC, belowL, belowR, belowP, belowL_d, belowR_d, List.length_cons, List.length_nil, Nat.reduceAdd, Nat.reduceLT, decide_true, Bool.and_self, Bool.and_true]) (by first | rfl | simp only [belowH, belowE, belowC, belowL, belowR, belowP, belowL_d, belowR_d, List.length_cons, List.length_nil, Nat.reduceAdd, Nat.reduceLT, decide_true, Bool.and_self, Bool.and_true])
        · intro j l hlj hj _ C hC
          have hjI : (j : Int) < (p.leases.length : Int) := by omega
          have hwj : IntKind.i64.wrap ((j : Int) + 1) = ((j + 1 : Nat) : Int) := by rw [IntKind.wrap_i64]; omega
          have hfs := filt_snoc (p := fun l => !overB (b.tick + n) l) hlj
          have hln : ((p.leases.take j).filter fun l => !overB (b.tick + n) l).length ≤ j := Nat.le_trans (List.length_filter_le _ _) (by rw [List.length_take]; omega)
          rw [hfs] at hC
          generalize (p.leases.take j).filter (fun l => !overB (b.tick + n) l) = out at *
          have hb1 : out.length + 1 ≤ 100 := by omega
          have hov : overB (b.tick + n) l = ((l.kind == 3) && decide (l.till ≤ b.tick + n)) := rfl
          replace hov := Lib.hid hov
          clear hfs
          cases ho : overB (b.tick + n) l
          all_goals
            rw [ho] at hC
            have hov := hov.out
            rw [ho] at hov
            replace hov := Lib.hid hov
            simp only [Bool.not_false, Bool.not_true, Bool.false_eq_true, if_true, if_false, List.append_nil] at hC
            replace ho := Lib.hid ho
            repeat' (first | (with_reducible refine And.intro ?_ ?_) | (with_reducible refine gK_i (fun _ => ?_) (fun _ => ?_)) | (with_reducible refine condS_i (fun _ => ?_) (fun _ => ?_)) | (with_reducible refine drw_i (by kernel_rfl)) | simp -dsimp only [go_sem, ↓reduceIte, reduceCtorEq, Nat.reduceAdd, Nat.reduceMul, Nat.reduceSub, Nat.reduceLeDiff, Nat.reduceLT, Nat.reduceEqDiff, Int.reduceLE, Int.reduceLT, Int.reduceToNat, Int.reduceBEq, Int.reduceBNe, Int.reduceEq, Int.reduceAdd, Int.reduceSub, Int.reduceMul, Int.reduceNeg, Int.cast_ofNat_Int, *, encB, encPol, encL, hg, hkl, hkI, hjI, hwj, hlj, undef] | ((with_reducible refine opK_c ?_); simp -dsimp only [go_sem, ↓reduceIte, reduceCtorEq, Nat.reduceAdd, Nat.reduceMul, Nat.reduceSub, Nat.reduceLeDiff, Nat.reduceLT, Nat.reduceEqDiff, Int.reduceLE, Int.reduceLT, Int.reduceToNat, Int.reduceBEq, Int.reduceBNe, Int.reduceEq, Int.reduceAdd, Int.reduceSub, Int.reduceMul, Int.reduceNeg, Int.cast_ofNat_Int, encB, encPol, encL, hg, hkl, hkI, hjI, hwj, hlj, undef]; first | refine callK_r (by first | assumption | fail) (by first | exact .inl rfl | exact .inr rfl) ?_ | (refine callK_i (by assumption) ?_ ?_ ?_; (solve | (repeat (first | exact DLe.refl _ | exact DLe.nil _ | (refine DLe.tup ?_) | (refine DLe.agg ?_ rfl) | exact trivial | (refine And.intro ?_ ?_)))); (solve | exact .inl rfl | exact .inr rfl))) | fail | omega | exact decide_eq_true (by omega) | exact DLe.refl _)
            all_goals first
              | (exfalso; have := hov.out; clear hC; grind)
              | exact hC _ _ trivial (weak_forget _ (by simp) (by simp only [encB, encL, List.map_append, List.map_cons, List.map_nil, List.length_append, List.length_cons, List.length_nil]; rfl) (by (repeat' (first | exact trivial | (refine ⟨?_, ?_⟩) | rfl | (simp only [List.length_append, List.length_cons, List.length_nil]; rfl)))) (by first | rfl | simp only [belowH, belowE, belowC, belowL, belowR, belowP, belowL_d, belowR_d, List.length_cons, List.length_nil, Nat.reduceAdd, Nat.reduceLT, decide_true, Bool.and_self, Bool.and_true]) (by first | rfl | simp only [belowH, belowE, belowC, belowL, belowR, belowP, belowL_d, belowR_d, List.length_cons, List.length_nil, Nat.reduceAdd, Nat.reduceLT, decide_true, Bool.and_self, Bool.and_true]))
        · intro _ C1
          rw [List.take_length]
          repeat' (first | (with_reducible refine And.intro ?_ ?_) | (with_reducible refine gK_i (fun _ => ?_) (fun _ => ?_)) | (with_reducible refine condS_i (fun _ => ?_) (fun _ => ?_)) | (with_reducible refine drw_i (by kernel_rfl)) | simp -dsimp only [go_sem, ↓reduceIte, reduceCtorEq, Nat.reduceAdd, Nat.reduceMul, Nat.reduceSub, Nat.reduceLeDiff, Nat.reduceLT, Nat.reduceEqDiff, Int.reduceLE, Int.reduceLT, Int.reduceToNat, Int.reduceBEq, Int.reduceBNe, Int.reduceEq, Int.reduceAdd, Int.reduceSub, Int.reduceMul, Int.reduceNeg, Int.cast_ofNat_Int, *, encB, encPol, hg, hkl, hkI, hwr, Int.lt_irrefl] | ((with_reducible refine opK_c ?_); simp -dsimp only [go_sem, ↓reduceIte, reduceCtorEq, Nat.reduceAdd, Nat.reduceMul, Nat.reduceSub, Nat.reduceLeDiff, Nat.reduceLT, Nat.reduceEqDiff, Int.reduceLE, Int.reduceLT, Int.reduceToNat, Int.reduceBEq, Int.reduceBNe, Int.reduceEq, Int.reduceAdd, Int.reduceSub, Int.reduceMul, Int.reduceNeg, Int.cast_ofNat_Int, encB, encPol, hg, hkl, hkI, hwr, Int.lt_irrefl]; first | refine callK_r (by first | assumption | fail) (by first | exact .inl rfl | exact .inr rfl) ?_ | (refine callK_i (by assumption) ?_ ?_ ?_; (solve | (repeat (first | exact DLe.refl _ | exact DLe.nil _ | (refine DLe.tup ?_) | (refine DLe.agg ?_ rfl) | exact trivial | (refine And.intro ?_ ?_)))); (solve | exact .inl rfl | exact .inr rfl))) | fail | omega | exact decide_eq_true (by omega) | exact DLe.refl _)
          refine hC _ _ trivial ((weak_freeze 7 _ 50 5 _ rfl).trans ?_)
          simp only [fzE, fz, fzL, fzH, fzC, fzR, fzR_app, fzR_d, fzL_d, List.map_cons, List.map_nil, Nat.reduceAdd, Nat.reduceEqDiff, reduceIte, and_true, true_and, and_self, and_false, false_and, Nat.zero_add, Nat.add_zero, reduceCtorEq, fzR_set]
          exact weak_forget [.gone] (by simp) (by rw [← dRows_setrow]; rfl) (by (repeat' (first | exact trivial | (refine ⟨rfl, ?_⟩)))) (by first | rfl | simp only [belowH, belowE, belowC, belowL, belowR, belowP, belowL_d, belowR_d, List.length_cons, List.length_nil, Nat.reduceAdd, Nat.reduceLT, decide_true, Bool.and_self, Bool.and_true]) (by first | rfl | simp only [belowH, belowE, belowC, belowL, belowR, belowP, belowL_d, belowR_d, List.length_cons, List.length_nil, Nat.reduceAdd, Nat.reduceLT, decide_true, Bool.and_self, Bool.and_true])
      · intro _ C
        have he : passK b (b.tick + n) b.pools.length = b.pools.map (passP (b.tick + n)) := by unfold passK; simp
        rw [he]
        repeat' (first | (with_reducible refine And.intro ?_ ?_) | (with_reducible refine gK_i (fun _ => ?_) (fun _ => ?_)) | (with_reducible refine condS_i (fun _ => ?_) (fun _ => ?_)) | (with_reducible refine drw_i (by kernel_rfl)) | simp -dsimp only [go_sem, ↓reduceIte, reduceCtorEq, Nat.reduceAdd, Nat.reduceMul, Nat.reduceSub, Nat.reduceLeDiff, Nat.reduceLT, Nat.reduceEqDiff, Int.reduceLE, Int.reduceLT, Int.reduceToNat, Int.reduceBEq, Int.reduceBNe, Int.reduceEq, Int.reduceAdd, Int.reduceSub, Int.reduceMul, Int.reduceNeg, Int.cast_ofNat_Int, *, encB, Int.lt_irrefl, List.length_map] | ((with_reducible refine opK_c ?_); simp -dsimp only [go_sem, ↓reduceIte, reduceCtorEq, Nat.reduceAdd, Nat.reduceMul, Nat.reduceSub, Nat.reduceLeDiff, Nat.reduceLT, Nat.reduceEqDiff, Int.reduceLE, Int.reduceLT, Int.reduceToNat, Int.reduceBEq, Int.reduceBNe, Int.reduceEq, Int.reduceAdd, Int.reduceSub, Int.reduceMul, Int.reduceNeg, Int.cast_ofNat_Int, encB, Int.lt_irrefl, List.length_map]; first | refine callK_r (by first | assumption | fail) (by first | exact .inl rfl | exact .inr rfl) ?_ | (refine callK_i (by assumption) ?_ ?_ ?_; (solve | (repeat (first | exact DLe.refl _ | exact DLe.nil _ | (refine DLe.tup ?_) | (refine DLe.agg ?_ rfl) | exact trivial | (refine And.intro ?_ ?_)))); (solve | exact .inl rfl | exact .inr rfl))) | fail | omega | exact decide_eq_true (by omega) | exact DLe.refl _)
  · have h1 : (chkBk b != 0) = true := by simpa using hc
    have hr : R = (Bok.zero, chkBk b) := by rw [hR.out]; unfold passR; rw [if_pos hc]
    rw [hr]
    replace hr := Lib.hid hr
    clear hR
    refine ps_i tab_ok mixed Try.func24 rfl Try.ntmps24 Try.results24 (by kernel_rfl) ?_
    repeat' (first | (with_reducible refine And.intro ?_ ?_) | (with_reducible refine gK_i (fun _ => ?_) (fun _ => ?_)) | (with_reducible refine condS_i (fun _ => ?_) (fun _ => ?_)) | (with_reducible refine drw_i (by kernel_rfl)) | simp -dsimp only [go_sem, ↓reduceIte, reduceCtorEq, Nat.reduceAdd, Nat.reduceMul, Nat.reduceSub, Nat.reduceLeDiff, Nat.reduceLT, Nat.reduceEqDiff, Int.reduceLE, Int.reduceLT, Int.reduceToNat, Int.reduceBEq, Int.reduceBNe, Int.reduceEq, Int.reduceAdd, Int.reduceSub, Int.reduceMul, Int.reduceNeg, Int.cast_ofNat_Int, *, encB, encP, h1] | ((with_reducible refine opK_c ?_); simp -dsimp only [go_sem, ↓reduceIte, reduceCtorEq, Nat.reduceAdd, Nat.reduceMul, Nat.reduceSub, Nat.reduceLeDiff, Nat.reduceLT, Nat.reduceEqDiff, Int.reduceLE, Int.reduceLT, Int.reduceToNat, Int.reduceBEq, Int.reduceBNe, Int.reduceEq, Int.reduceAdd, Int.reduceSub, Int.reduceMul, Int.reduceNeg, Int.cast_ofNat_Int, encB, encP, h1]; first | refine callK_r (by first | assumption | exact hck) (by first | exact .inl rfl | exact .inr rfl) ?_ | (refine callK_i (by assumption) ?_ ?_ ?_; (solve | (repeat (first | exact DLe.refl _ | exact DLe.nil _ | (refine DLe.tup ?_) | (refine DLe.agg ?_ rfl) | exact trivial | (refine And.intro ?_ ?_)))); (solve | exact .inl rfl | exact .inr rfl))) | fail | omega | exact decide_eq_true (by omega) | exact DLe.refl _)
    exact (by repeat (first | exact DLe.refl _ | exact DLe.nil _ | (refine DLe.tup ?_) | (refine DLe.agg ?_ rfl) | exact trivial | (refine And.intro ?_ ?_)))
end Go.Proofs.Ytbeocackphfijaa
namespace Go.Proofs.Ytbeocackphfijaa
open Go Go.RowKit
def Small (b : Bok) : Prop := b.pools.length ≤ 1000000000 ∧ ∀ p ∈ b.pools, p.leases.length ≤ 1000000000
set_option maxRecDepth 100000 in
set_option maxHeartbeats 1000000 in
theorem sameBooks_p (b : Bok) (hs : Small b) : PSpec Try.prog 16 [.agg (encB b), .agg (encB b)] (.v (.bool true)) := by
  have hl := hs.1
  refine ps_i tab_ok mixed Try.func16 rfl Try.ntmps16 Try.results16 (by kernel_rfl) ?_
  repeat' (first | (with_reducible refine And.intro ?_ ?_) | (with_reducible refine gK_i (fun _ => ?_) (fun _ => ?_)) | (with_reducible refine condS_i (fun _ => ?_) (fun _ => ?_)) | (with_reducible refine drw_i (by kernel_rfl)) | simp -dsimp only [go_sem, ↓reduceIte, reduceCtorEq, Nat.reduceAdd, Nat.reduceMul, Nat.reduceSub, Nat.reduceLeDiff, Nat.reduceLT, Nat.reduceEqDiff, Int.reduceLE, Int.reduceLT, Int.reduceToNat, Int.reduceBEq, Int.reduceBNe, Int.reduceEq, Int.reduceAdd, Int.reduceSub, Int.reduceMul, Int.reduceNeg, Int.cast_ofNat_Int, *, encB, undef, bne_self_eq_false] | ((with_reducible refine opK_c ?_); simp -dsimp only [go_sem, ↓reduceIte, reduceCtorEq, Nat.reduceAdd, Nat.reduceMul, Nat.reduceSub, Nat.reduceLeDiff, Nat.reduceLT, Nat.reduceEqDiff, Int.reduceLE, Int.reduceLT, Int.reduceToNat, Int.reduceBEq, Int.reduceBNe, Int.reduceEq, Int.reduceAdd, Int.reduceSub, Int.reduceMul, Int.reduceNeg, Int.cast_ofNat_Int, encB, undef, bne_self_eq_false]; first | refine callK_r (by first | assumption | fail) (by first | exact .inl rfl | exact .inr rfl) ?_ | (refine callK_i (by assumption) ?_ ?_ ?_; (solve | (repeat (first | exact DLe.refl _ | exact DLe.nil _ | (refine DLe.tup ?_) | (refine DLe.agg ?_ rfl) | exact trivial | (refine And.intro ?_ ?_)))); (solve | exact .inl rfl | exact .inr rfl))) | fail | omega | exact decide_eq_true (by omega) | exact DLe.refl _)
  refine loopL tab_ok mixed b.pools (fun _ => True) (fun k => [(5, .d (.v (.int .i64 k))), (4, .d (.v (.bool false))), (3, .ptr 1 0), (2, .ptr 0 0)]) (fun _ => [.box 24 ((encB b).map .d), .box 24 ((encB b).map .d)]) trivial (weak_forget _ (by simp) (by (try simp only [encB]); rfl) (by (repeat' (first | exact trivial | (refine ⟨rfl, ?_⟩)))) (by first | rfl | simp only [belowH, belowE, belowC, belowL, belowR, belowP, belowL_d, belowR_d, List.length_cons, List.length_nil, Nat.reduceAdd, Nat.reduceLT, decide_true, Bool.and_self, Bool.and_true]) (by first | rfl | simp only [belowH, belowE, belowC, belowL, belowR, belowP, belowL_d, belowR_d, List.length_cons, List.length_nil, Nat.reduceAdd, Nat.reduceLT, decide_true, Bool.and_self, Bool.and_true])) ?_ ?_
  · intro k p hp hk _ C hC
    have hkI : (k : Int) < (b.pools.length : Int) := by omega
    have hwr : IntKind.i64.wrap ((k : Int) + 1) = ((k + 1 : Nat) : Int) := by rw [IntKind.wrap_i64]; omega
    have hpl := hs.2 p (List.mem_of_getElem? hp)
    repeat' (first | (with_reducible refine And.intro ?_ ?_) | (with_reducible refine gK_i (fun _ => ?_) (fun _ => ?_)) | (with_reducible refine condS_i (fun _ => ?_) (fun _ => ?_)) | (with_reducible refine drw_i (by kernel_rfl)) | simp -dsimp only [go_sem, ↓reduceIte, reduceCtorEq, Nat.reduceAdd, Nat.reduceMul, Nat.reduceSub, Nat.reduceLeDiff, Nat.reduceLT, Nat.reduceEqDiff, Int.reduceLE, Int.reduceLT, Int.reduceToNat, Int.reduceBEq, Int.reduceBNe, Int.reduceEq, Int.reduceAdd, Int.reduceSub, Int.reduceMul, Int.reduceNeg, Int.cast_ofNat_Int, *, encB, encPol, hkI, hwr, hp, undef, bne_self_eq_false] | ((with_reducible refine opK_c ?_); simp -dsimp only [go_sem, ↓reduceIte, reduceCtorEq, Nat.reduceAdd, Nat.reduceMul, Nat.reduceSub, Nat.reduceLeDiff, Nat.reduceLT, Nat.reduceEqDiff, Int.reduceLE, Int.reduceLT, Int.reduceToNat, Int.reduceBEq, Int.reduceBNe, Int.reduceEq, Int.reduceAdd, Int.reduceSub, Int.reduceMul, Int.reduceNeg, Int.cast_ofNat_Int, encB, encPol, hkI, hwr, hp, undef, bne_self_eq_false]; first | refine callK_r (by first | assumption | fail) (by first | exact .inl rfl | exact .inr rfl) ?_ | (refine callK_i (by assumption) ?_ ?_ ?_; (solve | (repeat (first | exact DLe.refl _ | exact DLe.nil _ | (refine DLe.tup ?_) | (refine DLe.agg ?_ rfl) | exact trivial | (refine And.intro ?_ ?_)))); (solve | exact .inl rfl | exact .inr rfl))) | fail | omega | exact decide_eq_true (by omega) | exact DLe.refl _)
    refine loopL tab_ok mixed p.leases (fun _ => True) (fun j => [(8, .d (.v (.int .i64 j))), (7, .ptr 3 0), (6, .ptr 2 0), (5, .d (.v (.int .i64 k))), (4, .d (.v (.bool false))), (3, .ptr 1 0), (2, .ptr 0 0)]) (fun _ => [.box 24 ((encB b).map .d), .box 24 ((encB b).map .d), .box 46 ((encPol p).map .d), .box 46 ((encPol p).map .d)]) trivial (weak_forget _ (by simp) (by (try simp only [encB, encPol]); rfl) (by (repeat' (first | exact trivial | (refine ⟨rfl, ?_⟩)))) (by first | rfl | simp only [belowH, belowE, belowC, belowL, belowR, belowP, belowL_d, belowR_d, List.length_cons, List.length_nil, Nat.reduceAdd, Nat.reduceLT, decide_true, Bool.and_self, Bool.and_true]) (by first | rfl | simp only [belowH, belowE, belowC, belowL, belowR, belowP, belowL_d, belowR_d, List.length_cons, List.length_nil, Nat.reduceAdd, Nat.reduceLT, decide_true, Bool.and_self, Bool.and_true])) ?_ ?_
    · intro j l hlj hj _ C hC
      have hjI : (j : Int) < (p.leases.length : Int) := by omega
      have hwj : IntKind.i64.wrap ((j : Int) + 1) = ((j + 1 : Nat) : Int) := by rw [IntKind.wrap_i64]; omega
      repeat' (first | (with_reducible refine And.intro ?_ ?_) | (with_reducible refine gK_i (fun _ => ?_) (fun _ => ?_)) | (with_reducible refine condS_i (fun _ => ?_) (fun _ => ?_)) | (with_reducible refine drw_i (by kernel_rfl)) | simp -dsimp only [go_sem, ↓reduceIte, reduceCtorEq, Nat.reduceAdd, Nat.reduceMul, Nat.reduceSub, Nat.reduceLeDiff, Nat.reduceLT, Nat.reduceEqDiff, Int.reduceLE, Int.reduceLT, Int.reduceToNat, Int.reduceBEq, Int.reduceBNe, Int.reduceEq, Int.reduceAdd, Int.reduceSub, Int.reduceMul, Int.reduceNeg, Int.cast_ofNat_Int, *, encB, encPol, encL, hjI, hwj, hlj, undef, bne_self_eq_false] | ((with_reducible refine opK_c ?_); simp -dsimp only [go_sem, ↓reduceIte, reduceCtorEq, Nat.reduceAdd, Nat.reduceMul, Nat.reduceSub, Nat.reduceLeDiff, Nat.reduceLT, Nat.reduceEqDiff, Int.reduceLE, Int.reduceLT, Int.reduceToNat, Int.reduceBEq, Int.reduceBNe, Int.reduceEq, Int.reduceAdd, Int.reduceSub, Int.reduceMul, Int.reduceNeg, Int.cast_ofNat_Int, encB, encPol, encL, hjI, hwj, hlj, undef, bne_self_eq_false]; first | refine callK_r (by first | assumption | fail) (by first | exact .inl rfl | exact .inr rfl) ?_ | (refine callK_i (by assumption) ?_ ?_ ?_; (solve | (repeat (first | exact DLe.refl _ | exact DLe.nil _ | (refine DLe.tup ?_) | (refine DLe.agg ?_ rfl) | exact trivial | (refine And.intro ?_ ?_)))); (solve | exact .inl rfl | exact .inr rfl))) | fail | omega | exact decide_eq_true (by omega) | exact DLe.refl _)
      exact hC _ _ trivial (weak_forget _ (by simp) (by (try simp only [encB, encPol]); rfl) (by (repeat' (first | exact trivial | (refine ⟨rfl, ?_⟩)))) (by first | rfl | simp only [belowH, belowE, belowC, belowL, belowR, belowP, belowL_d, belowR_d, List.length_cons, List.length_nil, Nat.reduceAdd, Nat.reduceLT, decide_true, Bool.and_self, Bool.and_true]) (by first | rfl | simp only [belowH, belowE, belowC, belowL, belowR, belowP, belowL_d, belowR_d, List.length_cons, List.length_nil, Nat.reduceAdd, Nat.reduceLT, decide_true, Bool.and_self, Bool.and_true]))
    · intro _ C
      repeat' (first | (with_reducible refine And.intro ?_ ?_) | (with_reducible refine gK_i (fun _ => ?_) (fun _ => ?_)) | (with_reducible refine condS_i (fun _ => ?_) (fun _ => ?_)) | (with_reducible refine drw_i (by kernel_rfl)) | simp -dsimp only [go_sem, ↓reduceIte, reduceCtorEq, Nat.reduceAdd, Nat.reduceMul, Nat.reduceSub, Nat.reduceLeDiff, Nat.reduceLT, Nat.reduceEqDiff, Int.reduceLE, Int.reduceLT, Int.reduceToNat, Int.reduceBEq, Int.reduceBNe, Int.reduceEq, Int.reduceAdd, Int.reduceSub, Int.reduceMul, Int.reduceNeg, Int.cast_ofNat_Int, *, encB, encPol, hkI, hwr, Int.lt_irrefl] | ((with_reducible refine opK_c ?_); simp -dsimp only [go_sem, ↓reduceIte, reduceCtorEq, Nat.reduceAdd, Nat.reduceMul, Nat.reduceSub, Nat.reduceLeDiff, Nat.reduceLT, Nat.reduceEqDiff, Int.reduceLE, Int.reduceLT, Int.reduceToNat, Int.reduceBEq, Int.reduceBNe, Int.reduceEq, Int.reduceAdd, Int.reduceSub, Int.reduceMul, Int.reduceNeg, Int.cast_ofNat_Int, encB, encPol, hkI, hwr, Int.lt_irrefl]; first | refine callK_r (by first | assumption | fail) (by first | exact .inl rfl | exact .inr rfl) ?_ | (refine callK_i (by assumption) ?_ ?_ ?_; (solve | (repeat (first | exact DLe.refl _ | exact DLe.nil _ | (refine DLe.tup ?_) | (refine DLe.agg ?_ rfl) | exact trivial | (refine And.intro ?_ ?_)))); (solve | exact .inl rfl | exact .inr rfl))) | fail | omega | exact decide_eq_true (by omega) | exact DLe.refl _)
      exact hC _ _ trivial (weak_forget _ (by simp) (by (try simp only [encB]); rfl) (by (repeat' (first | exact trivial | (refine ⟨rfl, ?_⟩)))) (by first | rfl | simp only [belowH, belowE, belowC, belowL, belowR, belowP, belowL_d, belowR_d, List.length_cons, List.length_nil, Nat.reduceAdd, Nat.reduceLT, decide_true, Bool.and_self, Bool.and_true]) (by first | rfl | simp only [belowH, belowE, belowC, belowL, belowR, belowP, belowL_d, belowR_d, List.length_cons, List.length_nil, Nat.reduceAdd, Nat.reduceLT, decide_true, Bool.and_self, Bool.and_true]))
  · intro _ C
    repeat' (first | (with_reducible refine And.intro ?_ ?_) | (with_reducible refine gK_i (fun _ => ?_) (fun _ => ?_)) | (with_reducible refine condS_i (fun _ => ?_) (fun _ => ?_)) | (with_reducible refine drw_i (by kernel_rfl)) | simp -dsimp only [go_sem, ↓reduceIte, reduceCtorEq, Nat.reduceAdd, Nat.reduceMul, Nat.reduceSub, Nat.reduceLeDiff, Nat.reduceLT, Nat.reduceEqDiff, Int.reduceLE, Int.reduceLT, Int.reduceToNat, Int.reduceBEq, Int.reduceBNe, Int.reduceEq, Int.reduceAdd, Int.reduceSub, Int.reduceMul, Int.reduceNeg, Int.cast_ofNat_Int, *, encB, Int.lt_irrefl] | ((with_reducible refine opK_c ?_); simp -dsimp only [go_sem, ↓reduceIte, reduceCtorEq, Nat.reduceAdd, Nat.reduceMul, Nat.reduceSub, Nat.reduceLeDiff, Nat.reduceLT, Nat.reduceEqDiff, Int.reduceLE, Int.reduceLT, Int.reduceToNat, Int.reduceBEq, Int.reduceBNe, Int.reduceEq, Int.reduceAdd, Int.reduceSub, Int.reduceMul, Int.reduceNeg, Int.cast_ofNat_Int, encB, Int.lt_irrefl]; first | refine callK_r (by first | assumption | fail) (by first | exact .inl rfl | exact .inr rfl) ?_ | (refine callK_i (by assumption) ?_ ?_ ?_; (solve | (repeat (first | exact DLe.refl _ | exact DLe.nil _ | (refine DLe.tup ?_) | (refine DLe.agg ?_ rfl) | exact trivial | (refine And.intro ?_ ?_)))); (solve | exact .inl rfl | exact .inr rfl))) | fail | omega | exact decide_eq_true (by omega) | exact DLe.refl _)
def looseR : Rul := ⟨8, 16, 12, 3⟩
theorem loose_p : PSpec Try.prog 49 [] (.agg (encR looseR)) := by
  refine ps_i tab_ok mixed Try.func49 rfl Try.ntmps49 Try.results49 (by kernel_rfl) ?_
  repeat' (first | (with_reducible refine And.intro ?_ ?_) | (with_reducible refine gK_i (fun _ => ?_) (fun _ => ?_)) | (with_reducible refine condS_i (fun _ => ?_) (fun _ => ?_)) | (with_reducible refine drw_i (by kernel_rfl)) | simp -dsimp only [go_sem, ↓reduceIte, reduceCtorEq, Nat.reduceAdd, Nat.reduceMul, Nat.reduceSub, Nat.reduceLeDiff, Nat.reduceLT, Nat.reduceEqDiff, Int.reduceLE, Int.reduceLT, Int.reduceToNat, Int.reduceBEq, Int.reduceBNe, Int.reduceEq, Int.reduceAdd, Int.reduceSub, Int.reduceMul, Int.reduceNeg, Int.cast_ofNat_Int, *, encR, looseR] | ((with_reducible refine opK_c ?_); simp -dsimp only [go_sem, ↓reduceIte, reduceCtorEq, Nat.reduceAdd, Nat.reduceMul, Nat.reduceSub, Nat.reduceLeDiff, Nat.reduceLT, Nat.reduceEqDiff, Int.reduceLE, Int.reduceLT, Int.reduceToNat, Int.reduceBEq, Int.reduceBNe, Int.reduceEq, Int.reduceAdd, Int.reduceSub, Int.reduceMul, Int.reduceNeg, Int.cast_ofNat_Int, encR, looseR]; first | refine callK_r (by first | assumption | fail) (by first | exact .inl rfl | exact .inr rfl) ?_ | (refine callK_i (by assumption) ?_ ?_ ?_; (solve | (repeat (first | exact DLe.refl _ | exact DLe.nil _ | (refine DLe.tup ?_) | (refine DLe.agg ?_ rfl) | exact trivial | (refine And.intro ?_ ?_)))); (solve | exact .inl rfl | exact .inr rfl))) | fail | omega | exact decide_eq_true (by omega) | exact DLe.refl _)
def pbA : Pol := ⟨7, 0, ⟨256, 8⟩, looseR, []⟩
def pbB : Pol := { pbA with leases := [⟨⟨256, 12⟩, 1, 5, 0⟩] }
def pbC : Pol := { pbA with leases := [⟨⟨256, 12⟩, 1, 5, 0⟩, ⟨⟨320, 10⟩, 2, 8, 0⟩] }
def pbD : Pol := ⟨8, 7, ⟨320, 10⟩, ⟨11, 14, 12, 0⟩, []⟩
def pbE : Pol := { pbA with leases := [⟨⟨256, 12⟩, 3, 0, 3⟩, ⟨⟨320, 10⟩, 2, 8, 0⟩] }
def pbF : Pol := { pbA with leases := [⟨⟨320, 10⟩, 2, 8, 0⟩] }
theorem pb1 : openR Bok.zero 7 ⟨256, 8⟩ looseR = (⟨0, [pbA]⟩, 0) := by kernel_rfl
theorem pb2 : takeR ⟨0, [pbA]⟩ 7 0 5 = (⟨0, [pbB]⟩, ⟨256, 12⟩, 0) := by kernel_rfl
theorem pb3 : nestR ⟨0, [pbB]⟩ 8 7 10 ⟨11, 14, 12, 0⟩ = (⟨0, [pbC, pbD]⟩, ⟨320, 10⟩, 0) := by kernel_rfl
theorem pb4 : giveR ⟨0, [pbC, pbD]⟩ 7 ⟨256, 12⟩ = (⟨0, [pbE, pbD]⟩, 0) := by kernel_rfl
theorem pb5 : (takeR ⟨0, [pbE, pbD]⟩ 7 12 5).2 = (⟨272, 12⟩, 0) := by kernel_rfl
theorem pb6 : passR ⟨0, [pbE, pbD]⟩ 3 = (⟨3, [pbF, pbD]⟩, 0) := by kernel_rfl
theorem pb7 : (takeR ⟨3, [pbF, pbD]⟩ 7 12 5).2 = (⟨256, 12⟩, 0) := by kernel_rfl
theorem pb8 : closeR ⟨3, [pbF, pbD]⟩ 7 = (Bok.zero, 9) := by kernel_rfl
end Go.Proofs.Ytbeocackphfijaa
namespace Go.Proofs.Ytbeocackphfijaa
open Go Go.RowKit
theorem small_zero : Small Bok.zero := ⟨Nat.zero_le _, fun p hp => by simp [Bok.zero] at hp⟩
theorem small_ok {b : Bok} (h : BookOK b) : b.pools.length ≤ 8 ∧ ∀ p ∈ b.pools, p.leases.length ≤ 32 := ⟨h.n8, h.l32⟩
theorem coolL_len (p : Pol) (i : Nat) (t : Int) : (coolL p i t).length ≤ p.leases.length := by
  unfold coolL
  split
  · rw [List.length_eraseIdx]; split <;> omega
  · split
    · rw [List.length_set]; exact Nat.le_refl _
    · exact Nat.le_refl _
theorem updB_small {b : Bok} {id : Int} {f : Pol → Pol} (h : b.pools.length ≤ 8) (h2 : ∀ p ∈ b.pools, p.leases.length ≤ 32 ∧ (f p).leases.length ≤ 33) : (updB b id f).pools.length ≤ 8 ∧ ∀ p ∈ (updB b id f).pools, p.leases.length ≤ 33 := by
  unfold updB
  refine ⟨by simpa using h, fun p hp => ?_⟩
  obtain ⟨q, hq, rfl⟩ := List.mem_map.1 hp
  split
  · exact (h2 q hq).2
  · have := (h2 q hq).1; omega
theorem closeR_small (b : Bok) (id : Int) : Small (closeR b id).1 := by
  unfold closeR
  split
  · exact small_zero
  · rename_i hc
    have hk := small_ok (bookOK (by simpa using hc))
    split
    · exact small_zero
    · split
      · exact small_zero
      · rename_i p _ _
        have hcl : (closeL b p).length ≤ 8 ∧ ∀ q ∈ closeL b p, q.leases.length ≤ 33 := by
          unfold closeL
          split
          · exact ⟨hk.1, fun q hq => by have := hk.2 q hq; omega⟩
          · split
            · rename_i u _ _ i _
              exact updB_small (b := b) (id := u.id) (f := fun q => { q with leases := coolL q i b.tick }) hk.1 (fun q hq => ⟨hk.2 q hq, by have := hk.2 q hq; have := coolL_len q i b.tick; simp only; omega⟩)
            · exact ⟨hk.1, fun q hq => by have := hk.2 q hq; omega⟩
        exact ⟨by have := List.length_filter_le (fun q : Pol => !(q.id == id)) (closeL b p); simp only; omega, fun q hq => by have := hcl.2 q (List.mem_filter.1 hq).1; omega⟩
theorem passR_small (b : Bok) (n : Int) : Small (passR b n).1 := by
  unfold passR
  split
  · exact small_zero
  · rename_i hc
    have hk := small_ok (bookOK (by simpa using hc))
    split
    · exact small_zero
    · refine ⟨by simp only [List.length_map]; omega, fun q hq => ?_⟩
      obtain ⟨p, hp, rfl⟩ := List.mem_map.1 hq
      have := hk.2 p hp
      have := List.length_filter_le (fun l => !overB (b.tick + n) l) p.leases
      simp only [passP]; omega
set_option maxRecDepth 100000 in
set_option maxHeartbeats 1000000 in
theorem poolBegun_p : PSpec Try.prog 13 [] (.v (.bool true)) := by
  have h0 := loose_p
  have h1 := (open_p Bok.zero 7 ⟨256, 8⟩ looseR (by simp [Bok.zero])).args (ds := [.agg [.v (.int .i64 0), .v (.slice none 0 0)], .v (.int .i64 7), .agg (encP ⟨256, 8⟩), .agg (encR looseR)]) ⟨Bok.zero_le, DLe.refl _, DLe.refl _, DLe.refl _, trivial⟩
  have h2 := take_p ⟨0, [pbA]⟩ 7 0 5 (by simp [pbA])
  have h3 := nest_p ⟨0, [pbB]⟩ 8 7 10 ⟨11, 14, 12, 0⟩ (by simp [pbB, pbA])
  have h4 := give_p ⟨0, [pbC, pbD]⟩ 7 ⟨256, 12⟩ (by simp [pbC, pbA, pbD])
  have h5 := take_p ⟨0, [pbE, pbD]⟩ 7 12 5 (by simp [pbE, pbA, pbD])
  have h6 := pass_p ⟨0, [pbE, pbD]⟩ 3 (by simp [pbE, pbA, pbD])
  have h7 := take_p ⟨3, [pbF, pbD]⟩ 7 12 5 (by simp [pbF, pbA, pbD])
  have h8 := close_p ⟨3, [pbF, pbD]⟩ 7 (by simp [pbF, pbA, pbD])
  rw [pb1] at h1
  rw [pb2] at h2
  rw [pb3] at h3
  rw [pb4] at h4
  rw [show (takeR ⟨0, [pbE, pbD]⟩ 7 12 5).2.1 = ⟨272, 12⟩ from congrArg (·.1) pb5, show (takeR ⟨0, [pbE, pbD]⟩ 7 12 5).2.2 = 0 from congrArg (·.2) pb5] at h5
  rw [pb6] at h6
  rw [show (takeR ⟨3, [pbF, pbD]⟩ 7 12 5).2.1 = ⟨256, 12⟩ from congrArg (·.1) pb7, show (takeR ⟨3, [pbF, pbD]⟩ 7 12 5).2.2 = 0 from congrArg (·.2) pb7] at h7
  rw [pb8] at h8
  generalize (takeR ⟨0, [pbE, pbD]⟩ 7 12 5).1 = B5 at h5
  generalize (takeR ⟨3, [pbF, pbD]⟩ 7 12 5).1 = B7 at h7
  simp only [encB, encP, encR, looseR, Bok.zero, List.map_nil] at h0 h1 h2 h3 h4 h5 h6 h7 h8
  generalize List.map encPol [pbA] = PA at *
  generalize List.map encPol [pbB] = PB at *
  generalize List.map encPol [pbC, pbD] = PC at *
  generalize List.map encPol [pbE, pbD] = PE at *
  generalize List.map encPol [pbF, pbD] = PF at *
  refine ps_i tab_ok mixed Try.func13 rfl Try.ntmps13 Try.results13 (by kernel_rfl) ?_
  repeat' (first | (with_reducible refine And.intro ?_ ?_) | (with_reducible refine gK_i (fun _ => ?_) (fun _ => ?_)) | (with_reducible refine condS_i (fun _ => ?_) (fun _ => ?_)) | (with_reducible refine drw_i (by kernel_rfl)) | simp -dsimp only [go_sem, ↓reduceIte, reduceCtorEq, Nat.reduceAdd, Nat.reduceMul, Nat.reduceSub, Nat.reduceLeDiff, Nat.reduceLT, Nat.reduceEqDiff, Int.reduceLE, Int.reduceLT, Int.reduceToNat, Int.reduceBEq, Int.reduceBNe, Int.reduceEq, Int.reduceAdd, Int.reduceSub, Int.reduceMul, Int.reduceNeg, Int.cast_ofNat_Int, *, undef] | ((with_reducible refine opK_c ?_); simp -dsimp only [go_sem, ↓reduceIte, reduceCtorEq, Nat.reduceAdd, Nat.reduceMul, Nat.reduceSub, Nat.reduceLeDiff, Nat.reduceLT, Nat.reduceEqDiff, Int.reduceLE, Int.reduceLT, Int.reduceToNat, Int.reduceBEq, Int.reduceBNe, Int.reduceEq, Int.reduceAdd, Int.reduceSub, Int.reduceMul, Int.reduceNeg, Int.cast_ofNat_Int, undef]; first | refine callK_r (by first | assumption | exact h0 | exact h1 | exact h2 | exact h3 | exact h4 | exact h5 | exact h6 | exact h7 | exact h8) (by first | exact .inl rfl | exact .inr rfl) ?_ | (refine callK_i (by assumption) ?_ ?_ ?_; (solve | (repeat (first | exact DLe.refl _ | exact DLe.nil _ | (refine DLe.tup ?_) | (refine DLe.agg ?_ rfl) | exact trivial | (refine And.intro ?_ ?_)))); (solve | exact .inl rfl | exact .inr rfl))) | fail | omega | exact decide_eq_true (by omega) | exact DLe.refl _)
end Go.Proofs.Ytbeocackphfijaa
namespace Go.Proofs.Ytbeocackphfijaa
open Go Go.RowKit
set_option maxRecDepth 100000 in
set_option maxHeartbeats 1000000 in
theorem poolCloses_p (b : Bok) (id n : Int) (hz : ∀ p ∈ b.pools, p.leases.length ≤ 3518437208882) : PSpec Try.prog 5 [.agg (encB b), .v (.int .i64 id), .v (.int .i64 n)] (.v (.bool true)) := by
  have h1 := close_p b id hz
  have h2 := pass_p b n hz
  have h3 := closeOf_p b id hz
  have h4 := passOf_p b n hz
  have h5 := poolBegun_p
  have h8 := sameBooks_p _ (closeR_small b id)
  have h9 := sameBooks_p _ (passR_small b n)
  generalize closeR b id = X at *
  generalize passR b n = Y at *
  clear hz
  refine ps_i tab_ok mixed Try.func5 rfl Try.ntmps5 Try.results5 (by kernel_rfl) ?_
  repeat' (first | (with_reducible refine And.intro ?_ ?_) | (with_reducible refine gK_i (fun _ => ?_) (fun _ => ?_)) | (with_reducible refine condS_i (fun _ => ?_) (fun _ => ?_)) | (with_reducible refine drw_i (by kernel_rfl)) | simp -dsimp only [go_sem, ↓reduceIte, reduceCtorEq, Nat.reduceAdd, Nat.reduceMul, Nat.reduceSub, Nat.reduceLeDiff, Nat.reduceLT, Nat.reduceEqDiff, Int.reduceLE, Int.reduceLT, Int.reduceToNat, Int.reduceBEq, Int.reduceBNe, Int.reduceEq, Int.reduceAdd, Int.reduceSub, Int.reduceMul, Int.reduceNeg, Int.cast_ofNat_Int, *, encB, undef, beq_self_eq_true] | ((with_reducible refine opK_c ?_); simp -dsimp only [go_sem, ↓reduceIte, reduceCtorEq, Nat.reduceAdd, Nat.reduceMul, Nat.reduceSub, Nat.reduceLeDiff, Nat.reduceLT, Nat.reduceEqDiff, Int.reduceLE, Int.reduceLT, Int.reduceToNat, Int.reduceBEq, Int.reduceBNe, Int.reduceEq, Int.reduceAdd, Int.reduceSub, Int.reduceMul, Int.reduceNeg, Int.cast_ofNat_Int, encB, undef, beq_self_eq_true]; first | refine callK_r (by first | assumption | exact h1 | exact h2 | exact h3 | exact h4 | exact h5 | exact h8 | exact h9) (by first | exact .inl rfl | exact .inr rfl) ?_ | (refine callK_i (by assumption) ?_ ?_ ?_; (solve | (repeat (first | exact DLe.refl _ | exact DLe.nil _ | (refine DLe.tup ?_) | (refine DLe.agg ?_ rfl) | exact trivial | (refine And.intro ?_ ?_)))); (solve | exact .inl rfl | exact .inr rfl))) | fail | omega | exact decide_eq_true (by omega) | exact DLe.refl _)
end Go.Proofs.Ytbeocackphfijaa
namespace Go.Proofs.Ytbeocackphfijaa
open Go Go.RowKit Go.Proofs Go.ChangeShapes Go.WideShapes Go.Deep
section
variable {H : Type} {enc : TypeId × Value → H} {P : Program} {w : World} {base : Nat} {spare : Nat → Bool} {held : Bool}
/-- Whatever is read as of type t is an R. -/
def Rd {α : Type} (enc : TypeId × Value → H) (P : Program) (w : World) (base : Nat) (spare : Nat → Bool) (held : Bool) (t : TypeId) (R : List Value → α → Prop) : Prop :=
  ∀ fuel cs x, DataW.trod enc P w base spare held fuel t cs = some x → ∃ a, R cs a
theorem Rd.map {α β : Type} {t : TypeId} {R : List Value → α → Prop} {R' : List Value → β → Prop} (h : Rd enc P w base spare held t R) (f : α → β) (hf : ∀ cs a, R cs a → R' cs (f a)) : Rd enc P w base spare held t R' := by
  intro fuel cs x hx
  obtain ⟨a, ha⟩ := h fuel cs x hx
  exact ⟨f a, hf _ _ ha⟩
def in64 (n : Int) : Prop := -9223372036854775808 ≤ n ∧ n ≤ 9223372036854775807
def IntR (cs : List Value) (n : Int) : Prop := cs = [.int .i64 n] ∧ in64 n
theorem in64_wf {n : Int} (h : (Lit.int .i64 n).wf = true) : in64 n := by
  simp only [Lit.wf, Bool.and_eq_true, decide_eq_true_eq] at h
  have h1 : IntKind.i64.min = -9223372036854775808 := rfl
  have h2 : IntKind.i64.max = 9223372036854775807 := rfl
  rw [h1, h2] at h
  exact h
theorem rd_int {t : TypeId} (ht : P.underlying t = some (.int .i64)) : Rd enc P w base spare held t IntR := by
  intro fuel cs x hx
  obtain ⟨n, h, _, hw⟩ := DataW.trod_int ht hx
  exact ⟨n, h, in64_wf hw⟩
theorem rd_field {α : Type} {t : TypeId} {fs : Array Field} {fuel : Nat} {cs : List Value} {x : DataW H × List MemPlace} (ht : P.underlying t = some (.struct fs)) (h : DataW.trod enc P w base spare held fuel t cs = some x)
    (j : Nat) {f : Field} (hf : fs[j]? = some f) {R : List Value → α → Prop} (hr : Rd enc P w base spare held f.type R) : ∃ a, R ((cs.drop f.offset).take (P.cellsOf f.type)) a := by
  obtain ⟨xs, n, _, _, _, hlen, hg⟩ := DataW.trod_struct ht h
  have h1 := hg j f hf
  have hj : j < xs.length := by rw [hlen]; exact (Array.getElem?_eq_some_iff.1 hf).1
  rw [List.getElem?_eq_getElem hj] at h1
  exact hr _ _ _ h1
theorem rd_len {t : TypeId} {fs : Array Field} {fuel : Nat} {cs : List Value} {x : DataW H × List MemPlace} (ht : P.underlying t = some (.struct fs)) (h : DataW.trod enc P w base spare held fuel t cs = some x) : cs.length = P.cellsOf t := by
  obtain ⟨_, _, _, _, h, _⟩ := DataW.trod_struct ht h
  exact h
theorem pick_list {α : Type} {Q : Nat → α → Prop} : ∀ (n : Nat), (∀ i, i < n → ∃ a, Q i a) → ∃ l : List α, l.length = n ∧ ∀ i (h : i < l.length), Q i l[i]
  | 0, _ => ⟨[], rfl, fun i h => by simp at h⟩
  | n + 1, h => by
    obtain ⟨l, hl, hq⟩ := pick_list n fun i hi => h i (by omega)
    obtain ⟨a, ha⟩ := h n (by omega)
    refine ⟨l ++ [a], by simp [hl], fun i hi => ?_⟩
    rcases Nat.lt_or_ge i l.length with h1 | h1
    · rw [List.getElem_append_left h1]; exact hq i h1
    · have : i = n := by simp at hi; omega
      subst this
      rw [List.getElem_append_right h1]
      simpa using ha
/-- What came in lies below the heap's size. -/
def inW (w : World) : Area := fun b => b < w.heap.size
theorem arg_int {r : Reach} {b0 : Nat} {t : TypeId} {v : Value} {d : DataW H} {p : List MemPlace} (ht : P.underlying t = some (.int .i64)) (hval : Value.okWide P w r b0 t v) (hd : DataW.Trod enc P w base spare held t v d p) : ∃ n, v = .int .i64 n ∧ in64 n := by
  obtain ⟨n, h, _, _, hw⟩ := open_int ht hval hd
  exact ⟨n, h, in64_wf hw⟩
theorem trod_lts {t : TypeId} {v : Value} {d : DataW H} {p : List MemPlace} (h : DataW.Trod enc P w base spare held t v d p) : ∀ x ∈ p, x.block < w.heap.size := by
  obtain ⟨m, hm⟩ := h
  exact DataW.trod_lt m _ _ _ hm
end
end Go.Proofs.Ytbeocackphfijaa
namespace Go.Proofs.Ytbeocackphfijaa
open Go Go.RowKit Go.Proofs Go.ChangeShapes Go.WideShapes Go.Deep
/-- Nothing may be written. -/
def NM : Nat → Prop := fun _ => False
section
variable {H : Type} {enc : TypeId × Value → H} {P : Program} {w : World} {base : Nat} {spare : Nat → Bool} {held : Bool}
def RdW {α : Type} (enc : TypeId × Value → H) (P : Program) (w : World) (base : Nat) (spare : Nat → Bool) (held : Bool) (t : TypeId) (R : List Value → α → Prop) (S : α → Prop) : Prop :=
  ∀ fuel cs x, DataW.trod enc P w base spare held fuel t cs = some x → ∃ a, R cs a ∧ ((∀ n ∈ x.1.weights P t, n ≤ reachBytes) → S a)
theorem rdw_of {α : Type} {t : TypeId} {R : List Value → α → Prop} (h : Rd enc P w base spare held t R) : RdW enc P w base spare held t R (fun _ => True) := by
  intro fuel cs x hx
  obtain ⟨a, ha⟩ := h fuel cs x hx
  exact ⟨a, ha, fun _ => trivial⟩
theorem weights_all {e : TypeId} : ∀ {l : List (DataW H)} {d : DataW H}, d ∈ l → ∀ n ∈ d.weights P e, n ∈ DataW.weightsAll P e l
  | a :: l, d, h, n, hn => by
    simp only [DataW.weightsAll, List.mem_append]
    rcases List.mem_cons.1 h with rfl | h
    · exact .inl hn
    · exact .inr (weights_all h n hn)
theorem rdw_field {α : Type} {t : TypeId} {fs : Array Field} {fuel : Nat} {cs : List Value} {x : DataW H × List MemPlace} (ht : P.underlying t = some (.struct fs)) (h : DataW.trod enc P w base spare held fuel t cs = some x)
    (j : Nat) {f : Field} (hf : fs[j]? = some f) {R : List Value → α → Prop} {S : α → Prop} (hr : RdW enc P w base spare held f.type R S) : ∃ a, R ((cs.drop f.offset).take (P.cellsOf f.type)) a ∧ ((∀ n ∈ x.1.weights P t, n ≤ reachBytes) → S a) := by
  obtain ⟨xs, n, _, rfl, _, hlen, hg⟩ := DataW.trod_struct ht h
  have h1 := hg j f hf
  have hj : j < xs.length := by rw [hlen]; exact (Array.getElem?_eq_some_iff.1 hf).1
  rw [List.getElem?_eq_getElem hj] at h1
  obtain ⟨a, ha, hs⟩ := hr _ _ _ h1
  refine ⟨a, ha, fun hw => hs fun n hn => hw n ?_⟩
  simp only [DataW.weights, ht]
  exact DataW.weights_mem_each (j := j) (t := f.type) (d := (xs[j]).1) (by simp [hf]) (by simp [List.getElem?_eq_getElem hj]) n hn
theorem rdw_slice {α : Type} {t e : TypeId} {k : Nat} {R : List Value → α → Prop} {S : α → Prop} (ht : P.underlying t = some (.slice e)) (hc : P.cellsOf e = k + 1) (he : RdW enc P w base spare held e R S) :
    RdW enc P w base spare held t (fun cs (l : List α) => ∃ v, cs = [v] ∧ IsSl (inW w) w (k + 1) R v l) (fun l => l.length * P.bytesOf e ≤ reachBytes ∧ ∀ a ∈ l, S a) := by
  intro fuel cs x hx
  rcases open_slice ht hx with ⟨rfl, rfl⟩ | ⟨a, len, cap, m, n, D, Pl, rfl, hb, hl, hm, hmm, rfl, hi⟩
  · exact ⟨[], ⟨_, rfl, none, 0, rfl, ⟨Nat.le_refl _, by decide, fun i h => by simp at h⟩⟩, fun _ => ⟨by simp, fun a h => by simp at h⟩⟩
  · have hlm : len ≤ m := by rw [hmm]; split <;> omega
    obtain ⟨l, hll, hq⟩ := pick_list (Q := fun i y => ∃ cs', w.cells? base (a.add (i * P.cellsOf e)) (P.cellsOf e) = some cs' ∧ R cs' y ∧ ((∀ n ∈ (D i).weights P e, n ≤ reachBytes) → S y)) len fun i h => by
      obtain ⟨cs', h1, h2⟩ := hi i (by omega)
      obtain ⟨y, hy, hs⟩ := he _ _ _ h2
      exact ⟨y, cs', h1, hy, hs⟩
    refine ⟨l, ⟨_, rfl, some a, cap, by rw [hll], ⟨by omega, by unfold maxLen at hm; omega, fun i h => ?_⟩⟩, fun hw => ⟨?_, fun y hy => ?_⟩⟩
    · obtain ⟨cs', h1, h2, -⟩ := hq i h
      rw [hc] at h1
      obtain ⟨_, hcl, hat⟩ := World.cells?_some h1
      obtain ⟨b, off, spot⟩ := a
      have hspot : spot = none := by
        obtain ⟨cs0, g1, _⟩ := hq 0 (by omega)
        rw [hc] at g1
        obtain ⟨_, gcl, gat⟩ := World.cells?_some g1
        have g0 := gat (i := 0) (by omega)
        have g0' : w.cell? ⟨b, off, spot⟩ = some (cs0[0]'(by omega)) := by
          have : ((⟨b, off, spot⟩ : Addr).add (0 * (k + 1))).add 0 = ⟨b, off, spot⟩ := by simp [Addr.add]
          rw [this] at g0
          rw [g0]; exact List.getElem?_eq_getElem (by omega)
        exact World.cell?_spot g0'
      subst hspot
      have hadd : ∀ o j, ((⟨b, o, none⟩ : Addr).add j) = ⟨b, o + j, none⟩ := by
        intro o j; unfold Addr.add; split <;> simp_all
      refine ⟨b, off, cs', rfl, ?_, hcl, h2, fun j hj => ?_⟩
      · have := hat (i := 0) (by omega)
        rw [hadd, hadd] at this
        exact lt_of_cell (this.trans (List.getElem?_eq_getElem (by omega)))
      · have := hat (i := j) (by omega)
        rw [hadd, hadd] at this
        rw [this]
        exact List.getElem?_eq_getElem hj
    · have := hw (((List.range len).map D).length + ((List.range (m - len)).map fun j => D (len + j)).length |> (· * P.bytesOf e)) (by simp [DataW.weights, ht])
      simp only [List.length_map, List.length_range] at this
      rw [hll]
      exact Nat.le_trans (Nat.mul_le_mul_right _ (by omega)) this
    · obtain ⟨i, hil, rfl⟩ := List.mem_iff_getElem.1 hy
      obtain ⟨cs', h1, h2, h3⟩ := hq i hil
      refine h3 fun n hn => hw n ?_
      simp only [DataW.weights, ht]
      refine List.mem_cons_of_mem _ (List.mem_append_left _ (weights_all (d := D i) (List.mem_map.2 ⟨i, by simp; omega, rfl⟩) n hn))
theorem argw {α : Type} {R : List Value → α → Prop} {S : α → Prop} {r : Reach} {b0 : Nat} {t : TypeId} {fs : Array Field} {v : Value} {d : DataW H} {p : List MemPlace} (ht : P.underlying t = some (.struct fs)) (hval : Value.okWide P w r b0 t v) (hd : DataW.Trod enc P w base spare held t v d p)
    (hr : RdW enc P w base spare held t R S) : ∃ cs a, v = .agg cs ∧ R cs.toList a ∧ ((∀ n ∈ d.weights P t, n ≤ reachBytes) → S a) := by
  obtain ⟨cs, rfl, _⟩ := okWide_struct ht hval
  obtain ⟨fuel, hf⟩ := hd
  obtain ⟨a, ha, hs⟩ := hr _ _ _ hf
  exact ⟨cs, a, rfl, by simpa [Value.cells] using ha, hs⟩
end
end Go.Proofs.Ytbeocackphfijaa
namespace Go.Proofs.Ytbeocackphfijaa
open Go Go.RowKit Go.Proofs Go.ChangeShapes Go.WideShapes Go.Deep
set_option maxRecDepth 100000
section
variable {H : Type} {enc : TypeId × Value → H} {w : World} {base : Nat} {spare : Nat → Bool} {held : Bool}
theorem Try.sizePfx : Try.prog.cellsOf 26 = 2 := by kernel_rfl
theorem Try.sizeInt1 : Try.prog.cellsOf 3 = 1 := by kernel_rfl
theorem rd_pfx : Rd enc Try.prog w base spare held 26 Pfx.R := by
  intro fuel cs x hx
  have hl := rd_len Try.underlying26 hx
  rw [Try.sizePfx] at hl
  obtain ⟨a, ha⟩ := rd_field Try.underlying26 hx 0 rfl (rd_int Try.underlying3)
  obtain ⟨b, hb⟩ := rd_field Try.underlying26 hx 1 rfl (rd_int Try.underlying3)
  match cs, hl with
  | [c0, c1], _ =>
    simp [Try.sizeInt1, IntR] at ha hb
    exact ⟨⟨a, b⟩, by simp [Pfx.R, ha.1, hb.1]⟩
end
end Go.Proofs.Ytbeocackphfijaa
namespace Go.Proofs.Ytbeocackphfijaa
open Go Go.RowKit Go.Proofs Go.ChangeShapes Go.WideShapes Go.Deep
set_option maxRecDepth 100000
/-- A slice of what reads as data reads as data. -/
theorem isSl_rep {α : Type} {enc : α → List D} {sz : Nat} {w : World} (h0 : 0 < sz) (hen : ∀ a, (enc a).length = sz ∧ ∀ d ∈ enc a, d.one = true) {v : Value} {l : List α} (h : IsSl (inW w) w sz (fun cs a => RepDs NM w (enc a) cs) v l) : RepD NM w (.sl sz (l.map enc)) v := by
  obtain ⟨ao, cap, rfl, hs⟩ := h
  cases l with
  | nil => exact .nil sz ao cap hs.cap_max
  | cons u us =>
    obtain ⟨b, off, cs, rfl, hAb, hl, hR, hcs⟩ := hs.elem 0 (by simp)
    have key : ∀ i (hi : i < (u :: us).length), ∃ cs : List Value, cs.length = sz ∧ RepDs NM w (enc (u :: us)[i]) cs ∧ cellsAt w b (off + i * sz) cs := by
      intro i hi
      obtain ⟨b', off', cs', e, -, hl', hR', hcs'⟩ := hs.elem i hi
      cases e
      exact ⟨cs', hl', hR', hcs'⟩
    have hlen : ((u :: us).map enc).length = (u :: us).length := by simp
    rw [← hlen]
    refine .sl sz ((u :: us).map enc) b off cap (fun i j => (w.cell? ⟨b, off + i * sz + j, none⟩).getD undef) (fun h => h) hAb (by rw [hlen]; exact hs.cap_le) hs.cap_max (fun r hr => ?_) (fun r hr => ?_) (fun i j hi hj => ?_) (fun i j row d hi hj => ?_)
    · obtain ⟨x, -, rfl⟩ := List.mem_map.1 hr; exact (hen x).1
    · obtain ⟨x, -, rfl⟩ := List.mem_map.1 hr; exact (hen x).2
    · obtain ⟨cs', hl', -, hcs'⟩ := key i (by simpa using hi)
      rw [hcs' j (by omega)]; rfl
    · have hi' : i < (u :: us).length := by have := (List.getElem?_eq_some_iff.1 hi).1; simpa using this
      obtain ⟨cs', hl', hR', hcs'⟩ := key i hi'
      rw [List.getElem?_map, List.getElem?_eq_getElem hi'] at hi
      simp only [Option.map_some, Option.some.injEq] at hi
      subst hi
      have hj' : j < cs'.length := by rw [← hR'.1]; exact (List.getElem?_eq_some_iff.1 hj).1
      rw [hcs' j hj']
      exact hR'.2 j d _ hj (List.getElem?_eq_getElem hj')
section
variable {H : Type} {enc : TypeId × Value → H} {w : World} {base : Nat} {spare : Nat → Bool} {held : Bool}
theorem Try.sizeLse : Try.prog.cellsOf 50 = 5 := by kernel_rfl
theorem Try.sizePol : Try.prog.cellsOf 46 = 9 := by kernel_rfl
theorem Try.sizeBok : Try.prog.cellsOf 24 = 2 := by kernel_rfl
theorem Try.sizeRul : Try.prog.cellsOf 28 = 4 := by kernel_rfl
theorem Try.sizeLses : Try.prog.cellsOf 44 = 1 := by kernel_rfl
theorem Try.sizePols : Try.prog.cellsOf 22 = 1 := by kernel_rfl
theorem Try.bytesLse : Try.prog.bytesOf 50 = 40 := by kernel_rfl
theorem repDs_ints (l : List Int) : RepDs NM w (l.map fun n => .v (.int .i64 n)) (l.map fun n => .int .i64 n) := by
  refine ⟨by simp, fun j d x hj hx => ?_⟩
  rw [List.getElem?_map, Option.map_eq_some_iff] at hj hx
  obtain ⟨a, ha, rfl⟩ := hj
  obtain ⟨c, hc, rfl⟩ := hx
  rw [ha] at hc
  obtain rfl := Option.some.inj hc
  exact .v _
theorem rd_lse : Rd enc Try.prog w base spare held 50 fun cs (l : Lse) => cs = [.int .i64 l.at_.at_, .int .i64 l.at_.len, .int .i64 l.kind, .int .i64 l.owner, .int .i64 l.till] := by
  intro fuel cs x hx
  have hl := rd_len Try.underlying50 hx
  rw [Try.sizeLse] at hl
  obtain ⟨p, hp⟩ := rd_field Try.underlying50 hx 0 rfl rd_pfx
  obtain ⟨k, hk⟩ := rd_field Try.underlying50 hx 1 rfl (rd_int Try.underlying3)
  obtain ⟨o, ho⟩ := rd_field Try.underlying50 hx 2 rfl (rd_int Try.underlying3)
  obtain ⟨t, ht⟩ := rd_field Try.underlying50 hx 3 rfl (rd_int Try.underlying3)
  match cs, hl with
  | [c0, c1, c2, c3, c4], _ =>
    simp [Try.sizePfx, Try.sizeInt1, IntR, Pfx.R] at hp hk ho ht
    exact ⟨⟨p, k, o, t⟩, by simp [hp.1, hp.2, hk.1, ho.1, ht.1]⟩
theorem rd_rul : Rd enc Try.prog w base spare held 28 fun cs (r : Rul) => cs = [.int .i64 r.min, .int .i64 r.max, .int .i64 r.usual, .int .i64 r.cool] := by
  intro fuel cs x hx
  have hl := rd_len Try.underlying28 hx
  rw [Try.sizeRul] at hl
  obtain ⟨a, ha⟩ := rd_field Try.underlying28 hx 0 rfl (rd_int Try.underlying3)
  obtain ⟨b, hb⟩ := rd_field Try.underlying28 hx 1 rfl (rd_int Try.underlying3)
  obtain ⟨c, hc⟩ := rd_field Try.underlying28 hx 2 rfl (rd_int Try.underlying3)
  obtain ⟨d, hd⟩ := rd_field Try.underlying28 hx 3 rfl (rd_int Try.underlying3)
  match cs, hl with
  | [c0, c1, c2, c3], _ =>
    simp [Try.sizeInt1, IntR] at ha hb hc hd
    exact ⟨⟨a, b, c, d⟩, by simp [ha.1, hb.1, hc.1, hd.1]⟩
theorem rd_lseD : Rd enc Try.prog w base spare held 50 fun cs (l : Lse) => RepDs NM w (encL l) cs :=
  rd_lse.map id fun cs l h => by rw [h]; exact repDs_ints [l.at_.at_, l.at_.len, l.kind, l.owner, l.till]
theorem rdw_lses : RdW enc Try.prog w base spare held 44 (fun cs (l : List Lse) => ∃ v, cs = [v] ∧ RepD NM w (.sl 5 (l.map encL)) v) (fun l => l.length * 40 ≤ reachBytes) := by
  have h := rdw_slice (enc := enc) (base := base) (spare := spare) (held := held) Try.underlying44 Try.sizeLse (rdw_of (rd_lseD (w := w)))
  intro fuel cs x hx
  obtain ⟨l, ⟨v, rfl, hs⟩, hw⟩ := h fuel cs x hx
  refine ⟨l, ⟨v, rfl, isSl_rep (sz := 5) (by omega) (fun a => ⟨rfl, fun d hd => ?_⟩) hs⟩, fun hh => by have := (hw hh).1; rwa [Try.bytesLse] at this⟩
  simp [encL] at hd
  rcases hd with rfl | rfl | rfl | rfl | rfl <;> rfl
theorem repDs_appR {M : Nat → Prop} {w : World} {ds es : List D} {vs us : List Value} (h : RepDs M w ds vs) (g : RepDs M w es us) : RepDs M w (ds ++ es) (vs ++ us) := by
  refine ⟨by simp [h.1, g.1], fun j d x hj hx => ?_⟩
  rcases Nat.lt_or_ge j ds.length with hlt | hge
  · rw [List.getElem?_append_left hlt] at hj
    rw [List.getElem?_append_left (by rw [← h.1]; exact hlt)] at hx
    exact h.2 j d x hj hx
  · rw [List.getElem?_append_right hge] at hj
    rw [List.getElem?_append_right (by rw [← h.1]; exact hge), ← h.1] at hx
    exact g.2 _ d x hj hx
theorem repDs_one {M : Nat → Prop} {w : World} {d : D} {v : Value} (h : RepD M w d v) : RepDs M w [d] [v] := ⟨rfl, fun j e x hj hx => by
  match j with
  | 0 => cases hj; cases hx; exact h
  | j + 1 => simp at hj⟩
theorem rdw_pol : RdW enc Try.prog w base spare held 46 (fun cs (p : Pol) => RepDs NM w (encPol p) cs) (fun p => p.leases.length * 40 ≤ reachBytes) := by
  intro fuel cs x hx
  have hl := rd_len Try.underlying46 hx
  rw [Try.sizePol] at hl
  obtain ⟨a, ha⟩ := rd_field Try.underlying46 hx 0 rfl (rd_int Try.underlying3)
  obtain ⟨b, hb⟩ := rd_field Try.underlying46 hx 1 rfl (rd_int Try.underlying3)
  obtain ⟨p, hp⟩ := rd_field Try.underlying46 hx 2 rfl rd_pfx
  obtain ⟨r, hr⟩ := rd_field Try.underlying46 hx 3 rfl rd_rul
  obtain ⟨l, hs, hw⟩ := rdw_field Try.underlying46 hx 4 rfl rdw_lses
  match cs, hl with
  | [c0, c1, c2, c3, c4, c5, c6, c7, c8], _ =>
    simp [Try.sizePfx, Try.sizeInt1, Try.sizeRul, Try.sizeLses, IntR, Pfx.R] at ha hb hp hr hs
    refine ⟨⟨a, b, p, r, l⟩, ?_, hw⟩
    rw [ha.1, hb.1, hp.1, hp.2, hr.1, hr.2.1, hr.2.2.1, hr.2.2.2]
    exact repDs_appR (repDs_ints [a, b, p.at_, p.len, r.min, r.max, r.usual, r.cool]) (repDs_one hs)
theorem rdw_pols : RdW enc Try.prog w base spare held 22 (fun cs (l : List Pol) => ∃ v, cs = [v] ∧ RepD NM w (.sl 9 (l.map encPol)) v) (fun l => ∀ p ∈ l, p.leases.length * 40 ≤ reachBytes) := by
  have h := rdw_slice (enc := enc) (base := base) (spare := spare) (held := held) Try.underlying22 Try.sizePol (rdw_pol (w := w))
  intro fuel cs x hx
  obtain ⟨l, ⟨v, rfl, hs⟩, hw⟩ := h fuel cs x hx
  refine ⟨l, ⟨v, rfl, isSl_rep (sz := 9) (by omega) (fun a => ⟨rfl, fun d hd => ?_⟩) hs⟩, fun hh => (hw hh).2⟩
  simp [encPol] at hd
  rcases hd with rfl | rfl | rfl | rfl | rfl | rfl | rfl | rfl | rfl <;> rfl
theorem rdw_bok : RdW enc Try.prog w base spare held 24 (fun cs (b : Bok) => RepDs NM w (encB b) cs) (fun b => ∀ p ∈ b.pools, p.leases.length ≤ 3518437208882) := by
  intro fuel cs x hx
  have hl := rd_len Try.underlying24 hx
  rw [Try.sizeBok] at hl
  obtain ⟨a, ha⟩ := rd_field Try.underlying24 hx 0 rfl (rd_int Try.underlying3)
  obtain ⟨l, hs, hw⟩ := rdw_field Try.underlying24 hx 1 rfl rdw_pols
  match cs, hl with
  | [c0, c1], _ =>
    simp [Try.sizeInt1, Try.sizePols, IntR] at ha hs
    refine ⟨⟨a, l⟩, ?_, fun hh p hp => ?_⟩
    · rw [ha.1]
      exact repDs_appR (repDs_ints [a]) (repDs_one hs)
    · have := hw hh p hp
      unfold reachBytes at this
      omega
end
end Go.Proofs.Ytbeocackphfijaa
namespace Go.Proofs.Ytbeocackphfijaa
open Go Go.RowKit Go.Proofs Go.ChangeShapes Go.WideShapes Go.Deep
theorem repDs_n {M : Nat → Prop} {w : World} : RepDs M w [] [] := ⟨rfl, fun j d x hj _ => by simp at hj⟩
theorem repDs_c {M : Nat → Prop} {w : World} {d : D} {v : Value} {ds : List D} {vs : List Value} (h : RepD M w d v) (g : RepDs M w ds vs) : RepDs M w (d :: ds) (v :: vs) := ⟨by simp [g.1], fun j e x hj hx => by
  cases j with
  | zero => simp at hj hx; subst hj; subst hx; exact h
  | succ j => exact g.2 j e x (by simpa using hj) (by simpa using hx)⟩
theorem rep_agg {w : World} {cs : Array Value} {ds : List D} (h : RepDs NM w ds cs.toList) (h1 : ds.all D.one = true) : RepD NM w (.agg ds) (.agg cs) := by
  have := RepD.agg (M := NM) (w := w) ds cs.toList h.1 (fun d hd => List.all_eq_true.1 h1 d hd) h.2
  simpa using this
theorem law_of {P : Program} {f : Nat} {args : List D} {vs : List Value} {W : World} (hp : PSpec P f args (.v (.bool true))) (hds : RepDs NM W args vs) : Calls P f vs.toArray W fun e w' => e = .returned (.bool true) ∧ Ext W w' := by
  refine (hp.2 NM W vs (fun b h => h.elim) hds).mono ?_
  rintro e w' ⟨v, rfl, hv, hx⟩
  cases hv
  exact ⟨rfl, hx⟩
section
variable {H : Type} {enc : TypeId × Value → H} {w : World} {base : Nat} {spare : Nat → Bool} {held : Bool}
end
end Go.Proofs.Ytbeocackphfijaa
namespace Go.Proofs.Ytbeocackphfijaa
open Go Go.RowKit Go.Proofs Go.ChangeShapes Go.WideShapes Go.ChangeAt
set_option linter.unusedVariables false
theorem poolCloses_own : ownKnob Try.prog.godebug = Option.none := by kernel_rfl
theorem poolCloses_laidOut : laidOutB Try.prog = true := by kernel_rfl
set_option maxRecDepth 100000 in
theorem poolCloses_lifted (os : Os) (started : os.Started) (H : Type) (enc : TypeId × Value → H) :
    ReturnsInHanded {} Try.checked os 5 .any (Rows.poolClosesSpec.pre6 enc Try.prog Try.f5 Rows.poolClosesRow.domain false) (Rows.poolClosesSpec.post enc Try.prog Try.f5 false true false false) := by
  refine returnsInHanded_of_change_sized (C := Try.checked) poolCloses_own started (by kernel_rfl) Try.func5
    (ChangeSpec.witness6 (enc := enc) (C := Try.checked) false ⟨#[], #[.agg #[.int .i64 0, .slice none 0 0], .int .i64 0, .int .i64 0], []⟩ 8 (by kernel_rfl) (by kernel_rfl) (by kernel_rfl) (by kernel_rfl)) ?_
  intro W base args ds gs before hval0 hW hcnd hsz _
  have hval : ∀ (j : Nat) t v, Try.f5.params[j]? = some t → args[j]? = some v → Value.okWide Try.prog W .any base t v := hval0
  have hW' := hW
  obtain ⟨p, q, hA0, hV, rfl, hfz, hnd⟩ := hW
  have hA : DataW.TrodAll enc Try.prog W 0 (fun _ => true) true Try.f5.params.toList args.toList ds p := hA0
  rw [Try.params5] at hA hval
  obtain ⟨v0, vs0, d0, ds0, p0, q0, hargs, rfl, rfl, h0, r0⟩ := trodAll_cons hA
  obtain ⟨v1, vs1, d1, ds1, p1, q1, rfl, rfl, rfl, h1, r1⟩ := trodAll_cons r0
  obtain ⟨v2, vs2, d2, ds2, p2, q2, rfl, rfl, rfl, h2, r2⟩ := trodAll_cons r1
  obtain ⟨rfl, rfl, rfl⟩ := trodAll_nil r2
  obtain rfl : args = #[v0, v1, v2] := by cases args; simp_all
  obtain ⟨rfl, rfl⟩ := trodVars_none hV
  obtain ⟨cs0, a0, rfl, w0, s0⟩ := argw Try.underlying24 (hval 0 24 v0 rfl rfl) h0 rdw_bok
  replace s0 := s0 (fun n hn => of_decide_eq_true (List.all_eq_true.1 hsz _ (DataW.weights_mem_each (j := 0) (t := 24) rfl rfl n hn)))
  obtain ⟨a1, rfl, w1⟩ := arg_int Try.underlying3 (hval 1 3 v1 rfl rfl) h1
  obtain ⟨a2, rfl, w2⟩ := arg_int Try.underlying3 (hval 2 3 v2 rfl rfl) h2
  clear hA0 hval0
  refine (law_of (poolCloses_p a0 a1 a2 s0) (vs := [.agg cs0, .int .i64 a1, .int .i64 a2]) (repDs_c (rep_agg w0 rfl) (repDs_c (.v (.int .i64 a1)) (repDs_c (.v (.int .i64 a2)) repDs_n)))).mono fun e W' ⟨he, bel⟩ => ?_
  subst he
  exact ⟨_, rfl, _, _, _, [], _, [], hW', trodAll_mk1 (shut_bool Try.underlying4 _), (trodAll_cons_mk (Below.trod poolCloses_laidOut (by kernel_rfl) (of_decide_eq_true (by kernel_rfl)) h0 bel (trod_lts h0)) (trodAll_cons_mk (Below.trod poolCloses_laidOut (by kernel_rfl) (of_decide_eq_true (by kernel_rfl)) h1 bel (trod_lts h1)) (trodAll_cons_mk (Below.trod poolCloses_laidOut (by kernel_rfl) (of_decide_eq_true (by kernel_rfl)) h2 bel (trod_lts h2)) trodAll_mk0))), rfl, bel.frame _, fun h => by cases h⟩
theorem poolCloses_over : Rows.poolClosesRow.holds Try.pinned (OpenSpec.ofChange Rows.poolClosesSpec) :=
  OpenClaim.holds_of_wide 5 Try.f5 rfl rfl rfl rfl rfl rfl rfl ⟨rfl, rfl, rfl, rfl, rfl⟩ rfl rfl rfl rfl rfl (by kernel_rfl) Try.func5 (by kernel_rfl)
    (of_decide_eq_true (by kernel_rfl)) (by unfold Func.isWrapper; first | (rw [if_pos (by decide +kernel)]; kernel_rfl) | (rw [if_neg (by decide +kernel)]; exact ⟨rfl, rfl⟩))
    (fun os started H enc _ => poolCloses_lifted os started H enc)
theorem poolCloses_holds : Rows.PoolClosesSaid := poolCloses_over
#print axioms poolCloses_holds
end Go.Proofs.Ytbeocackphfijaa
