/- Texts of this work, joined: VpcR1, VpcR2, VpcR3, VpcR4, VpcR5, VpcR6, DatN, Net1, Net2, Net3, Net4, Net5, Net6, Net7, Net8, Net9, NetA, NetB, NetC, NetD, NetE, LN1. -/
import Derived.Test.YtgmbhaclogabeaaGreatZHNetJoins3
set_option linter.unusedSimpArgs false
set_option linter.unusedVariables false
namespace Go.Proofs.YtgmbhaclogabeaaGreat
open Go Go.RowKit
theorem withinR_p (n lo hi : Int) : PSpec Tryz.prog 34 [.v (.int .i64 n), .v (.int .i64 lo), .v (.int .i64 hi)] (.v (.bool (decide (lo ≤ n) && decide (n ≤ hi)))) := by
  refine ps_i tab_ok mixed Tryz.func34 rfl Tryz.ntmps34 Tryz.results34 (by kernel_rfl) ?_
  repeat' (first | (with_reducible refine And.intro ?_ ?_) | (with_reducible refine gK_i (fun _ => ?_) (fun _ => ?_)) | (with_reducible refine condS_i (fun _ => ?_) (fun _ => ?_)) | (with_reducible refine drw_i (by kernel_rfl)) | simp -dsimp only [go_sem, seval, *, bne_self_eq_false] | ((with_reducible refine opK_c ?_); simp -dsimp only [go_sem, seval, bne_self_eq_false]; first | refine callK_r (by first | assumption | fail) (by first | exact .inl rfl | exact .inr rfl) ?_ | (refine callK_i (by assumption) ?_ ?_ ?_; (solve | (repeat (first | exact DLe.refl _ | exact DLe.nil _ | (refine DLe.tup ?_) | (refine DLe.agg ?_ rfl) | exact trivial | (refine And.intro ?_ ?_)))); (solve | exact .inl rfl | exact .inr rfl))) | fail | omega | exact decide_eq_true (by omega) | exact DLe.refl _)
  all_goals exact dle_b (by grind)
/-- The first that is so has been found. -/
theorem idxI_hit {α : Type} {p : α → Bool} {l : List α} {k : Nat} {x : α} (hx : l[k]? = some x) (hp : p x = true) (hno : (l.take k).all (fun y => !p y) = true) : idxI p l = k :=
  idxI_some hx hp fun y hy => by have := List.all_eq_true.1 hno y hy; simpa using this
theorem idxI_no {α : Type} {p : α → Bool} {l : List α} (hno : (l.take l.length).all (fun y => !p y) = true) : idxI p l = -1 :=
  idxI_none fun y hy => by rw [List.take_length] at hno; have := List.all_eq_true.1 hno y hy; simpa using this
theorem no_snoc {α : Type} {p : α → Bool} {l : List α} {k : Nat} {x : α} (hx : l[k]? = some x) (hno : (l.take k).all p = true) (h : p x = true) : (l.take (k + 1)).all p = true := by rw [all_snoc hx, hno, h]; rfl
theorem inRange_p (v : Vpc) (p : Pfx) (hl : v.ranges.length ≤ 1000000000) : PSpec Tryz.prog 65 [.agg (encV v), .agg (encP p)] (.v (.bool (holdsV v p))) := by
  obtain ⟨R, hR⟩ : ∃ R, R = holdsV v p := ⟨_, rfl⟩
  rw [← hR]
  replace hR := Lib.hid hR
  refine ps_i tab_ok mixed Tryz.func65 rfl Tryz.ntmps65 Tryz.results65 (by kernel_rfl) ?_
  repeat' (first | (with_reducible refine And.intro ?_ ?_) | (with_reducible refine gK_i (fun _ => ?_) (fun _ => ?_)) | (with_reducible refine condS_i (fun _ => ?_) (fun _ => ?_)) | (with_reducible refine drw_i (by kernel_rfl)) | simp -dsimp only [go_sem, seval, *, encV, encP] | ((with_reducible refine opK_c ?_); simp -dsimp only [go_sem, seval, encV, encP]; first | refine callK_r (by first | assumption | fail) (by first | exact .inl rfl | exact .inr rfl) ?_ | (refine callK_i (by assumption) ?_ ?_ ?_; (solve | (repeat (first | exact DLe.refl _ | exact DLe.nil _ | (refine DLe.tup ?_) | (refine DLe.agg ?_ rfl) | exact trivial | (refine And.intro ?_ ?_)))); (solve | exact .inl rfl | exact .inr rfl))) | fail | omega | exact decide_eq_true (by omega) | exact DLe.refl _)
  refine loopL tab_ok mixed v.ranges (fun k => (v.ranges.take k).all (fun r => !(insQ p r.at_)) = true) (fun k => [(5, .d (.v (.int .i64 k))), (4, .d (.v (.bool false))), (3, .ptr 1 0), (2, .ptr 0 0)]) (fun _ => [.box 56 ((encV v).map .d), .box 27 ((encP p).map .d)]) rfl (weak_forget _ (by simp) (by (try simp only [encV, encP]); rfl) (by (repeat' (first | exact trivial | (refine ⟨rfl, ?_⟩)))) (by first | rfl | simp only [belowH, belowE, belowC, belowL, belowR, belowP, belowL_d, belowR_d, List.length_cons, List.length_nil, Nat.reduceAdd, Nat.reduceLT, decide_true, Bool.and_self, Bool.and_true]) (by first | rfl | simp only [belowH, belowE, belowC, belowL, belowR, belowP, belowL_d, belowR_d, List.length_cons, List.length_nil, Nat.reduceAdd, Nat.reduceLT, decide_true, Bool.and_self, Bool.and_true])) ?_ ?_
  · intro k r hr hk hI C hC
    have hkI : (k : Int) < (v.ranges.length : Int) := by omega
    have hwr : IntKind.i64.wrap ((k : Int) + 1) = ((k + 1 : Nat) : Int) := by rw [IntKind.wrap_i64]; omega
    have hi := insideOf_p p r.at_
    rw [insR_eq] at hi
    replace hI := Lib.hid hI
    cases h1 : insQ p r.at_ with
    | true =>
      rw [h1] at hi
      have hb : R = true := by rw [hR.out]; exact List.any_eq_true.2 ⟨r, List.mem_of_getElem? hr, h1⟩
      rw [hb]
      replace hb := Lib.hid hb
      repeat' (first | (with_reducible refine And.intro ?_ ?_) | (with_reducible refine gK_i (fun _ => ?_) (fun _ => ?_)) | (with_reducible refine condS_i (fun _ => ?_) (fun _ => ?_)) | (with_reducible refine drw_i (by kernel_rfl)) | simp -dsimp only [go_sem, seval, *, encV, encG, encP, hkI, hwr, hr] | ((with_reducible refine opK_c ?_); simp -dsimp only [go_sem, seval, encV, encG, encP, hkI, hwr, hr]; first | refine callK_r (by first | assumption | exact hi) (by first | exact .inl rfl | exact .inr rfl) ?_ | (refine callK_i (by assumption) ?_ ?_ ?_; (solve | (repeat (first | exact DLe.refl _ | exact DLe.nil _ | (refine DLe.tup ?_) | (refine DLe.agg ?_ rfl) | exact trivial | (refine And.intro ?_ ?_)))); (solve | exact .inl rfl | exact .inr rfl))) | fail | omega | exact decide_eq_true (by omega) | exact DLe.refl _)
      all_goals exact DLe.refl _
    | false =>
      rw [h1] at hi
      have hI2 := Lib.hid (no_snoc (p := fun r : Rng => !(insQ p r.at_)) hr hI.out (by rw [h1]; rfl))
      repeat' (first | (with_reducible refine And.intro ?_ ?_) | (with_reducible refine gK_i (fun _ => ?_) (fun _ => ?_)) | (with_reducible refine condS_i (fun _ => ?_) (fun _ => ?_)) | (with_reducible refine drw_i (by kernel_rfl)) | simp -dsimp only [go_sem, seval, *, encV, encG, encP, hkI, hwr, hr] | ((with_reducible refine opK_c ?_); simp -dsimp only [go_sem, seval, encV, encG, encP, hkI, hwr, hr]; first | refine callK_r (by first | assumption | exact hi) (by first | exact .inl rfl | exact .inr rfl) ?_ | (refine callK_i (by assumption) ?_ ?_ ?_; (solve | (repeat (first | exact DLe.refl _ | exact DLe.nil _ | (refine DLe.tup ?_) | (refine DLe.agg ?_ rfl) | exact trivial | (refine And.intro ?_ ?_)))); (solve | exact .inl rfl | exact .inr rfl))) | fail | omega | exact decide_eq_true (by omega) | exact DLe.refl _)
      exact hC _ _ hI2.out (weak_forget _ (by simp) (by (try simp only [encV, encP]); rfl) (by (repeat' (first | exact trivial | (refine ⟨rfl, ?_⟩)))) (by first | rfl | simp only [belowH, belowE, belowC, belowL, belowR, belowP, belowL_d, belowR_d, List.length_cons, List.length_nil, Nat.reduceAdd, Nat.reduceLT, decide_true, Bool.and_self, Bool.and_true]) (by first | rfl | simp only [belowH, belowE, belowC, belowL, belowR, belowP, belowL_d, belowR_d, List.length_cons, List.length_nil, Nat.reduceAdd, Nat.reduceLT, decide_true, Bool.and_self, Bool.and_true]))
  · intro hI C
    rw [List.take_length] at hI
    have hb : R = false := by rw [hR.out]; unfold holdsV; rw [List.any_eq_false]; intro x hx; have := List.all_eq_true.1 hI x hx; simpa using this
    rw [hb]
    replace hb := Lib.hid hb
    replace hI := Lib.hid hI
    repeat' (first | (with_reducible refine And.intro ?_ ?_) | (with_reducible refine gK_i (fun _ => ?_) (fun _ => ?_)) | (with_reducible refine condS_i (fun _ => ?_) (fun _ => ?_)) | (with_reducible refine drw_i (by kernel_rfl)) | simp -dsimp only [go_sem, seval, *, encV, Int.lt_irrefl] | ((with_reducible refine opK_c ?_); simp -dsimp only [go_sem, seval, encV, Int.lt_irrefl]; first | refine callK_r (by first | assumption | fail) (by first | exact .inl rfl | exact .inr rfl) ?_ | (refine callK_i (by assumption) ?_ ?_ ?_; (solve | (repeat (first | exact DLe.refl _ | exact DLe.nil _ | (refine DLe.tup ?_) | (refine DLe.agg ?_ rfl) | exact trivial | (refine And.intro ?_ ?_)))); (solve | exact .inl rfl | exact .inr rfl))) | fail | omega | exact decide_eq_true (by omega) | exact DLe.refl _)
    all_goals exact DLe.refl _
set_option maxRecDepth 100000 in
theorem innerR_p (s : Sbn) (x : Int) : PSpec Tryz.prog 97 [.agg (encN s), .v (.int .i64 x)] (.v (.bool (innB s.at_ x))) := by
  have hh : PSpec Tryz.prog 133 [.agg (encP s.at_), .v (.int .i64 x)] (.v (.bool (holdB s.at_.at_ s.at_.len x))) := holdsIt_p s.at_ x
  cases h1 : holdB s.at_.at_ s.at_.len x with
  | false =>
    have hr : innB s.at_ x = false := by unfold innB; rw [holdP_eq, h1]; rfl
    rw [h1] at hh
    rw [hr]
    refine ps_i tab_ok mixed Tryz.func97 rfl Tryz.ntmps97 Tryz.results97 (by kernel_rfl) ?_
    repeat' (first | (with_reducible refine And.intro ?_ ?_) | (with_reducible refine gK_i (fun _ => ?_) (fun _ => ?_)) | (with_reducible refine condS_i (fun _ => ?_) (fun _ => ?_)) | (with_reducible refine drw_i (by kernel_rfl)) | simp -dsimp only [go_sem, seval, *, encN, undef] | ((with_reducible refine opK_c ?_); simp -dsimp only [go_sem, seval, encN, undef]; first | refine callK_r (by first | assumption | exact hh) (by first | exact .inl rfl | exact .inr rfl) ?_ | (refine callK_i (by assumption) ?_ ?_ ?_; (solve | (repeat (first | exact DLe.refl _ | exact DLe.nil _ | (refine DLe.tup ?_) | (refine DLe.agg ?_ rfl) | exact trivial | (refine And.intro ?_ ?_)))); (solve | exact .inl rfl | exact .inr rfl))) | fail | omega | exact decide_eq_true (by omega) | exact DLe.refl _)
    all_goals exact DLe.refl _
  | true =>
    have hrt := holdB_iff.1 h1
    have hla := last_p s.at_ (by rw [← Pfx.right]; exact hrt.1)
    have hla2 : lastI s.at_.at_ s.at_.len = s.at_.hi - 1 := rfl
    have hr : innB s.at_ x = ((x != s.at_.at_) && (x != s.at_.hi - 1)) := by
      unfold innB
      rw [holdP_eq, h1, Bool.true_and, Bool.eq_iff_iff]
      have : s.at_.hi = s.at_.at_ + szI s.at_.len := rfl
      simp only [Bool.and_eq_true, decide_eq_true_eq, bne_iff_ne]
      omega
    rw [hla2] at hla
    rw [h1] at hh
    rw [hr]
    have hla : PSpec Tryz.prog 95 [.agg (encP s.at_)] (.v (.int .i64 (s.at_.hi - 1))) := hla
    generalize s.at_.hi - 1 = Z at *
    cases h2 : (x != s.at_.at_) with
    | false =>
      refine ps_i tab_ok mixed Tryz.func97 rfl Tryz.ntmps97 Tryz.results97 (by kernel_rfl) ?_
      repeat' (first | (with_reducible refine And.intro ?_ ?_) | (with_reducible refine gK_i (fun _ => ?_) (fun _ => ?_)) | (with_reducible refine condS_i (fun _ => ?_) (fun _ => ?_)) | (with_reducible refine drw_i (by kernel_rfl)) | simp -dsimp only [go_sem, seval, *, encN, encP, h2, undef] | ((with_reducible refine opK_c ?_); simp -dsimp only [go_sem, seval, encN, encP, h2, undef]; first | refine callK_r (by first | assumption | exact hh) (by first | exact .inl rfl | exact .inr rfl) ?_ | (refine callK_i (by assumption) ?_ ?_ ?_; (solve | (repeat (first | exact DLe.refl _ | exact DLe.nil _ | (refine DLe.tup ?_) | (refine DLe.agg ?_ rfl) | exact trivial | (refine And.intro ?_ ?_)))); (solve | exact .inl rfl | exact .inr rfl))) | fail | omega | exact decide_eq_true (by omega) | exact DLe.refl _)
      all_goals exact DLe.refl _
    | true =>
      refine ps_i tab_ok mixed Tryz.func97 rfl Tryz.ntmps97 Tryz.results97 (by kernel_rfl) ?_
      repeat' (first | (with_reducible refine And.intro ?_ ?_) | (with_reducible refine gK_i (fun _ => ?_) (fun _ => ?_)) | (with_reducible refine condS_i (fun _ => ?_) (fun _ => ?_)) | (with_reducible refine drw_i (by kernel_rfl)) | simp -dsimp only [go_sem, seval, *, encN, encP, h2, undef] | ((with_reducible refine opK_c ?_); simp -dsimp only [go_sem, seval, encN, encP, h2, undef]; first | refine callK_r (by first | assumption | exact hh | exact hla) (by first | exact .inl rfl | exact .inr rfl) ?_ | (refine callK_i (by assumption) ?_ ?_ ?_; (solve | (repeat (first | exact DLe.refl _ | exact DLe.nil _ | (refine DLe.tup ?_) | (refine DLe.agg ?_ rfl) | exact trivial | (refine And.intro ?_ ?_)))); (solve | exact .inl rfl | exact .inr rfl))) | fail | omega | exact decide_eq_true (by omega) | exact DLe.refl _)
      all_goals exact DLe.refl _
/-- Are two rows of numbers the same? -/
theorem sameInts_p (l m : List Int) (hl : l.length ≤ 1000000000) (hm : m.length ≤ 1000000000) : PSpec Tryz.prog 16 [.sl 1 (l.map encA), .sl 1 (m.map encA)] (.v (.bool (decide (l = m)))) := by
  obtain ⟨R, hR⟩ : ∃ R, R = decide (l = m) := ⟨_, rfl⟩
  rw [← hR]
  replace hR := Lib.hid hR
  refine ps_i tab_ok mixed Tryz.func16 rfl Tryz.ntmps16 Tryz.results16 (by kernel_rfl) ?_
  repeat' (first | (with_reducible refine And.intro ?_ ?_) | (with_reducible refine gK_i (fun _ => ?_) (fun _ => ?_)) | (with_reducible refine condS_i (fun _ => ?_) (fun _ => ?_)) | (with_reducible refine drw_i (by kernel_rfl)) | simp -dsimp only [go_sem, seval, *, bne_self_eq_false] | ((with_reducible refine opK_c ?_); simp -dsimp only [go_sem, seval, bne_self_eq_false]; first | refine callK_r (by first | assumption | fail) (by first | exact .inl rfl | exact .inr rfl) ?_ | (refine callK_i (by assumption) ?_ ?_ ?_; (solve | (repeat (first | exact DLe.refl _ | exact DLe.nil _ | (refine DLe.tup ?_) | (refine DLe.agg ?_ rfl) | exact trivial | (refine And.intro ?_ ?_)))); (solve | exact .inl rfl | exact .inr rfl))) | fail | omega | exact decide_eq_true (by omega) | exact DLe.refl _)
  · rename_i h1
    exact dle_b (by rw [hR.out, decide_eq_false]; rintro rfl; simp at h1)
  · rename_i h1
    have hlm : l.length = m.length := by simp at h1; omega
    clear h1
    replace hlm := Lib.hid hlm
    refine loopL tab_ok mixed l (fun k => l.take k = m.take k) (fun k => [(5, .d (.v (.int .i64 k))), (4, .d (.v (.bool false))), (1, .d (.sl 1 (m.map encA))), (0, .d (.sl 1 (l.map encA)))]) (fun _ => []) rfl (weak_forget _ (by simp) (by (try simp only [encA]); rfl) (by (repeat' (first | exact trivial | (refine ⟨rfl, ?_⟩)))) (by first | rfl | simp only [belowH, belowE, belowC, belowL, belowR, belowP, belowL_d, belowR_d, List.length_cons, List.length_nil, Nat.reduceAdd, Nat.reduceLT, decide_true, Bool.and_self, Bool.and_true]) (by first | rfl | simp only [belowH, belowE, belowC, belowL, belowR, belowP, belowL_d, belowR_d, List.length_cons, List.length_nil, Nat.reduceAdd, Nat.reduceLT, decide_true, Bool.and_self, Bool.and_true])) ?_ ?_
    · intro k x hx hk hI C hC
      have hkI : (k : Int) < (l.length : Int) := by omega
      have hwr : IntKind.i64.wrap ((k : Int) + 1) = ((k + 1 : Nat) : Int) := by rw [IntKind.wrap_i64]; omega
      obtain ⟨y, hy⟩ : ∃ y, m[k]? = some y := ⟨_, List.getElem?_eq_getElem (by have := hlm.out; omega)⟩
      replace hI := Lib.hid hI
      cases h1 : (x != y) with
      | true =>
        have hb : R = false := by
          rw [hR.out, decide_eq_false]
          rintro rfl
          rw [hx] at hy
          rw [Option.some.inj hy] at h1; simp at h1
        rw [hb]
        replace hb := Lib.hid hb
        repeat' (first | (with_reducible refine And.intro ?_ ?_) | (with_reducible refine gK_i (fun _ => ?_) (fun _ => ?_)) | (with_reducible refine condS_i (fun _ => ?_) (fun _ => ?_)) | (with_reducible refine drw_i (by kernel_rfl)) | simp -dsimp only [go_sem, seval, *, encA, hkI, hwr, hx, hy, h1] | ((with_reducible refine opK_c ?_); simp -dsimp only [go_sem, seval, encA, hkI, hwr, hx, hy, h1]; first | refine callK_r (by first | assumption | fail) (by first | exact .inl rfl | exact .inr rfl) ?_ | (refine callK_i (by assumption) ?_ ?_ ?_; (solve | (repeat (first | exact DLe.refl _ | exact DLe.nil _ | (refine DLe.tup ?_) | (refine DLe.agg ?_ rfl) | exact trivial | (refine And.intro ?_ ?_)))); (solve | exact .inl rfl | exact .inr rfl))) | fail | omega | exact decide_eq_true (by omega) | exact DLe.refl _)
        all_goals exact DLe.refl _
      | false =>
        have hI2 : l.take (k + 1) = m.take (k + 1) := by rw [take_snoc hx, take_snoc hy, hI.out]; simp at h1; rw [h1]
        replace hI2 := Lib.hid hI2
        repeat' (first | (with_reducible refine And.intro ?_ ?_) | (with_reducible refine gK_i (fun _ => ?_) (fun _ => ?_)) | (with_reducible refine condS_i (fun _ => ?_) (fun _ => ?_)) | (with_reducible refine drw_i (by kernel_rfl)) | simp -dsimp only [go_sem, seval, *, encA, hkI, hwr, hx, hy, h1] | ((with_reducible refine opK_c ?_); simp -dsimp only [go_sem, seval, encA, hkI, hwr, hx, hy, h1]; first | refine callK_r (by first | assumption | fail) (by first | exact .inl rfl | exact .inr rfl) ?_ | (refine callK_i (by assumption) ?_ ?_ ?_; (solve | (repeat (first | exact DLe.refl _ | exact DLe.nil _ | (refine DLe.tup ?_) | (refine DLe.agg ?_ rfl) | exact trivial | (refine And.intro ?_ ?_)))); (solve | exact .inl rfl | exact .inr rfl))) | fail | omega | exact decide_eq_true (by omega) | exact DLe.refl _)
        exact hC _ _ hI2.out (weak_forget _ (by simp) (by (try simp only [encA]); rfl) (by (repeat' (first | exact trivial | (refine ⟨rfl, ?_⟩)))) (by first | rfl | simp only [belowH, belowE, belowC, belowL, belowR, belowP, belowL_d, belowR_d, List.length_cons, List.length_nil, Nat.reduceAdd, Nat.reduceLT, decide_true, Bool.and_self, Bool.and_true]) (by first | rfl | simp only [belowH, belowE, belowC, belowL, belowR, belowP, belowL_d, belowR_d, List.length_cons, List.length_nil, Nat.reduceAdd, Nat.reduceLT, decide_true, Bool.and_self, Bool.and_true]))
    · intro hI C
      have hb : R = true := by
        rw [hR.out, decide_eq_true_eq]
        rw [List.take_length, hlm.out, List.take_length] at hI; exact hI
      rw [hb]
      replace hb := Lib.hid hb
      replace hI := Lib.hid hI
      repeat' (first | (with_reducible refine And.intro ?_ ?_) | (with_reducible refine gK_i (fun _ => ?_) (fun _ => ?_)) | (with_reducible refine condS_i (fun _ => ?_) (fun _ => ?_)) | (with_reducible refine drw_i (by kernel_rfl)) | simp -dsimp only [go_sem, seval, *, Int.lt_irrefl] | ((with_reducible refine opK_c ?_); simp -dsimp only [go_sem, seval, Int.lt_irrefl]; first | refine callK_r (by first | assumption | fail) (by first | exact .inl rfl | exact .inr rfl) ?_ | (refine callK_i (by assumption) ?_ ?_ ?_; (solve | (repeat (first | exact DLe.refl _ | exact DLe.nil _ | (refine DLe.tup ?_) | (refine DLe.agg ?_ rfl) | exact trivial | (refine And.intro ?_ ?_)))); (solve | exact .inl rfl | exact .inr rfl))) | fail | omega | exact decide_eq_true (by omega) | exact DLe.refl _)
      all_goals exact DLe.refl _
end Go.Proofs.YtgmbhaclogabeaaGreat
namespace Go.Proofs.YtgmbhaclogabeaaGreat
open Go Go.RowKit
set_option maxRecDepth 100000 in
set_option maxHeartbeats 1000000 in
theorem vpcMany_p (v : Vpc) (hl : v.subs.length ≤ 9223372036854775807) (hf : ∀ s ∈ v.subs, s.faces.length ≤ 9223372036854775807) : PSpec Tryz.prog 62 [.agg (encV v)] (.v (.bool (manyV v))) := by
  obtain ⟨R, hR⟩ : ∃ R, R = manyV v := ⟨_, rfl⟩
  rw [← hR]
  replace hR := Lib.hid hR
  unfold manyV at hR
  cases h1 : decide ((v.ranges.length : Int) > 4) with
  | true =>
    have hb : R = true := by rw [hR.out, h1]; rfl
    rw [hb]
    replace hb := Lib.hid hb
    refine ps_i tab_ok mixed Tryz.func62 rfl Tryz.ntmps62 Tryz.results62 (by kernel_rfl) ?_
    repeat' (first | (with_reducible refine And.intro ?_ ?_) | (with_reducible refine gK_i (fun _ => ?_) (fun _ => ?_)) | (with_reducible refine condS_i (fun _ => ?_) (fun _ => ?_)) | (with_reducible refine drw_i (by kernel_rfl)) | simp -dsimp only [go_sem, seval, *, encV, h1, undef] | ((with_reducible refine opK_c ?_); simp -dsimp only [go_sem, seval, encV, h1, undef]; first | refine callK_r (by first | assumption | fail) (by first | exact .inl rfl | exact .inr rfl) ?_ | (refine callK_i (by assumption) ?_ ?_ ?_; (solve | (repeat (first | exact DLe.refl _ | exact DLe.nil _ | (refine DLe.tup ?_) | (refine DLe.agg ?_ rfl) | exact trivial | (refine And.intro ?_ ?_)))); (solve | exact .inl rfl | exact .inr rfl))) | fail | omega | exact decide_eq_true (by omega) | exact DLe.refl _)
    all_goals exact DLe.refl _
  | false =>
    cases h2 : decide ((v.subs.length : Int) > 6) with
    | true =>
      have hb : R = true := by rw [hR.out, h1, h2]; rfl
      rw [hb]
      replace hb := Lib.hid hb
      refine ps_i tab_ok mixed Tryz.func62 rfl Tryz.ntmps62 Tryz.results62 (by kernel_rfl) ?_
      repeat' (first | (with_reducible refine And.intro ?_ ?_) | (with_reducible refine gK_i (fun _ => ?_) (fun _ => ?_)) | (with_reducible refine condS_i (fun _ => ?_) (fun _ => ?_)) | (with_reducible refine drw_i (by kernel_rfl)) | simp -dsimp only [go_sem, seval, *, encV, h1, h2, undef] | ((with_reducible refine opK_c ?_); simp -dsimp only [go_sem, seval, encV, h1, h2, undef]; first | refine callK_r (by first | assumption | fail) (by first | exact .inl rfl | exact .inr rfl) ?_ | (refine callK_i (by assumption) ?_ ?_ ?_; (solve | (repeat (first | exact DLe.refl _ | exact DLe.nil _ | (refine DLe.tup ?_) | (refine DLe.agg ?_ rfl) | exact trivial | (refine And.intro ?_ ?_)))); (solve | exact .inl rfl | exact .inr rfl))) | fail | omega | exact decide_eq_true (by omega) | exact DLe.refl _)
      all_goals exact DLe.refl _
    | false =>
      have hR2 : R = v.subs.any manyN := by rw [hR.out, h1, h2]; rfl
      clear hR
      replace hR2 := Lib.hid hR2
      refine ps_i tab_ok mixed Tryz.func62 rfl Tryz.ntmps62 Tryz.results62 (by kernel_rfl) ?_
      repeat' (first | (with_reducible refine And.intro ?_ ?_) | (with_reducible refine gK_i (fun _ => ?_) (fun _ => ?_)) | (with_reducible refine condS_i (fun _ => ?_) (fun _ => ?_)) | (with_reducible refine drw_i (by kernel_rfl)) | simp -dsimp only [go_sem, seval, *, encV, h1, h2, undef] | ((with_reducible refine opK_c ?_); simp -dsimp only [go_sem, seval, encV, h1, h2, undef]; first | refine callK_r (by first | assumption | fail) (by first | exact .inl rfl | exact .inr rfl) ?_ | (refine callK_i (by assumption) ?_ ?_ ?_; (solve | (repeat (first | exact DLe.refl _ | exact DLe.nil _ | (refine DLe.tup ?_) | (refine DLe.agg ?_ rfl) | exact trivial | (refine And.intro ?_ ?_)))); (solve | exact .inl rfl | exact .inr rfl))) | fail | omega | exact decide_eq_true (by omega) | exact DLe.refl _)
      refine loopL tab_ok mixed v.subs (fun k => (v.subs.take k).all (fun s => !(manyN s)) = true) (fun k => [(3, .d (.v (.int .i64 k))), (2, .d (.v (.bool false))), (1, .ptr 0 0)]) (fun _ => [.box 56 ((encV v).map .d)]) rfl (weak_forget _ (by simp) (by (try simp only [encV]); rfl) (by (repeat' (first | exact trivial | (refine ⟨rfl, ?_⟩)))) (by first | rfl | simp only [belowH, belowE, belowC, belowL, belowR, belowP, belowL_d, belowR_d, List.length_cons, List.length_nil, Nat.reduceAdd, Nat.reduceLT, decide_true, Bool.and_self, Bool.and_true]) (by first | rfl | simp only [belowH, belowE, belowC, belowL, belowR, belowP, belowL_d, belowR_d, List.length_cons, List.length_nil, Nat.reduceAdd, Nat.reduceLT, decide_true, Bool.and_self, Bool.and_true])) ?_ ?_
      · intro k s hs hk hI C hC
        have hkI : (k : Int) < (v.subs.length : Int) := by omega
        have hwr : IntKind.i64.wrap ((k : Int) + 1) = ((k + 1 : Nat) : Int) := by rw [IntKind.wrap_i64]; omega
        have hfl := hf s (List.mem_of_getElem? hs)
        have hmn : manyN s = true → R = true := fun h => by rw [hR2.out]; exact List.any_eq_true.2 ⟨s, List.mem_of_getElem? hs, h⟩
        have hst : manyN s = false → (v.subs.take (k + 1)).all (fun s => !(manyN s)) = true := fun h => no_snoc hs hI (by rw [h]; rfl)
        have hmd : manyN s = (decide ((s.faces.length : Int) > 8) || s.faces.any manyF) := rfl
        replace hI := Lib.hid hI
        replace hst := Lib.hid hst
        cases h3 : decide ((s.faces.length : Int) > 8) with
        | true =>
          have hb : R = true := hmn (by rw [hmd, h3]; rfl)
          rw [hb]
          replace hb := Lib.hid hb
          clear hmn hmd
          repeat' (first | (with_reducible refine And.intro ?_ ?_) | (with_reducible refine gK_i (fun _ => ?_) (fun _ => ?_)) | (with_reducible refine condS_i (fun _ => ?_) (fun _ => ?_)) | (with_reducible refine drw_i (by kernel_rfl)) | simp -dsimp only [go_sem, seval, *, encV, encN, hkI, hwr, hs, h3] | ((with_reducible refine opK_c ?_); simp -dsimp only [go_sem, seval, encV, encN, hkI, hwr, hs, h3]; first | refine callK_r (by first | assumption | fail) (by first | exact .inl rfl | exact .inr rfl) ?_ | (refine callK_i (by assumption) ?_ ?_ ?_; (solve | (repeat (first | exact DLe.refl _ | exact DLe.nil _ | (refine DLe.tup ?_) | (refine DLe.agg ?_ rfl) | exact trivial | (refine And.intro ?_ ?_)))); (solve | exact .inl rfl | exact .inr rfl))) | fail | omega | exact decide_eq_true (by omega) | exact DLe.refl _)
          all_goals exact DLe.refl _
        | false =>
          rw [h3, Bool.false_or] at hmd
          replace hmn := Lib.hid hmn
          replace hmd := Lib.hid hmd
          repeat' (first | (with_reducible refine And.intro ?_ ?_) | (with_reducible refine gK_i (fun _ => ?_) (fun _ => ?_)) | (with_reducible refine condS_i (fun _ => ?_) (fun _ => ?_)) | (with_reducible refine drw_i (by kernel_rfl)) | simp -dsimp only [go_sem, seval, *, encV, encN, hkI, hs, h3] | ((with_reducible refine opK_c ?_); simp -dsimp only [go_sem, seval, encV, encN, hkI, hs, h3]; first | refine callK_r (by first | assumption | fail) (by first | exact .inl rfl | exact .inr rfl) ?_ | (refine callK_i (by assumption) ?_ ?_ ?_; (solve | (repeat (first | exact DLe.refl _ | exact DLe.nil _ | (refine DLe.tup ?_) | (refine DLe.agg ?_ rfl) | exact trivial | (refine And.intro ?_ ?_)))); (solve | exact .inl rfl | exact .inr rfl))) | fail | omega | exact decide_eq_true (by omega) | exact DLe.refl _)
          refine loopL tab_ok mixed s.faces (fun j => (s.faces.take j).all (fun f => !(manyF f)) = true) (fun j => [(4, .d (.v (.int .i64 j))), (3, .d (.v (.int .i64 k))), (2, .d (.v (.bool false))), (1, .ptr 0 0)]) (fun _ => [.box 56 ((encV v).map .d)]) rfl (weak_forget _ (by simp) (by (try simp only [encV]); rfl) (by (repeat' (first | exact trivial | (refine ⟨rfl, ?_⟩)))) (by first | rfl | simp only [belowH, belowE, belowC, belowL, belowR, belowP, belowL_d, belowR_d, List.length_cons, List.length_nil, Nat.reduceAdd, Nat.reduceLT, decide_true, Bool.and_self, Bool.and_true]) (by first | rfl | simp only [belowH, belowE, belowC, belowL, belowR, belowP, belowL_d, belowR_d, List.length_cons, List.length_nil, Nat.reduceAdd, Nat.reduceLT, decide_true, Bool.and_self, Bool.and_true])) ?_ ?_
          · intro j f hfj hj hJ C2 hC2
            have hjI : (j : Int) < (s.faces.length : Int) := by omega
            have hwj : IntKind.i64.wrap ((j : Int) + 1) = ((j + 1 : Nat) : Int) := by rw [IntKind.wrap_i64]; omega
            replace hJ := Lib.hid hJ
            cases h4 : decide ((f.addrs.length : Int) > 4) with
            | true =>
              have hb : R = true := hmn.out (by rw [hmd.out]; exact List.any_eq_true.2 ⟨f, List.mem_of_getElem? hfj, h4⟩)
              rw [hb]
              replace hb := Lib.hid hb
              repeat' (first | (with_reducible refine And.intro ?_ ?_) | (with_reducible refine gK_i (fun _ => ?_) (fun _ => ?_)) | (with_reducible refine condS_i (fun _ => ?_) (fun _ => ?_)) | (with_reducible refine drw_i (by kernel_rfl)) | simp -dsimp only [go_sem, seval, *, encV, encN, encF, hkI, hs, hjI, hwj, hfj, h4] | ((with_reducible refine opK_c ?_); simp -dsimp only [go_sem, seval, encV, encN, encF, hkI, hs, hjI, hwj, hfj, h4]; first | refine callK_r (by first | assumption | fail) (by first | exact .inl rfl | exact .inr rfl) ?_ | (refine callK_i (by assumption) ?_ ?_ ?_; (solve | (repeat (first | exact DLe.refl _ | exact DLe.nil _ | (refine DLe.tup ?_) | (refine DLe.agg ?_ rfl) | exact trivial | (refine And.intro ?_ ?_)))); (solve | exact .inl rfl | exact .inr rfl))) | fail | omega | exact decide_eq_true (by omega) | exact DLe.refl _)
              all_goals exact DLe.refl _
            | false =>
              have hJ2 := Lib.hid (no_snoc (p := fun f : Fce => !(manyF f)) hfj hJ.out (by unfold manyF; rw [h4]; rfl))
              repeat' (first | (with_reducible refine And.intro ?_ ?_) | (with_reducible refine gK_i (fun _ => ?_) (fun _ => ?_)) | (with_reducible refine condS_i (fun _ => ?_) (fun _ => ?_)) | (with_reducible refine drw_i (by kernel_rfl)) | simp -dsimp only [go_sem, seval, *, encV, encN, encF, hkI, hs, hjI, hwj, hfj, h4] | ((with_reducible refine opK_c ?_); simp -dsimp only [go_sem, seval, encV, encN, encF, hkI, hs, hjI, hwj, hfj, h4]; first | refine callK_r (by first | assumption | fail) (by first | exact .inl rfl | exact .inr rfl) ?_ | (refine callK_i (by assumption) ?_ ?_ ?_; (solve | (repeat (first | exact DLe.refl _ | exact DLe.nil _ | (refine DLe.tup ?_) | (refine DLe.agg ?_ rfl) | exact trivial | (refine And.intro ?_ ?_)))); (solve | exact .inl rfl | exact .inr rfl))) | fail | omega | exact decide_eq_true (by omega) | exact DLe.refl _)
              exact hC2 _ _ hJ2.out (weak_forget _ (by simp) (by (try simp only [encV]); rfl) (by (repeat' (first | exact trivial | (refine ⟨rfl, ?_⟩)))) (by first | rfl | simp only [belowH, belowE, belowC, belowL, belowR, belowP, belowL_d, belowR_d, List.length_cons, List.length_nil, Nat.reduceAdd, Nat.reduceLT, decide_true, Bool.and_self, Bool.and_true]) (by first | rfl | simp only [belowH, belowE, belowC, belowL, belowR, belowP, belowL_d, belowR_d, List.length_cons, List.length_nil, Nat.reduceAdd, Nat.reduceLT, decide_true, Bool.and_self, Bool.and_true]))
          · intro hJ C2
            rw [List.take_length] at hJ
            have hI2 := hst.out (by rw [hmd.out, List.any_eq_false]; intro x hx; have := List.all_eq_true.1 hJ x hx; simpa using this)
            replace hJ := Lib.hid hJ
            replace hI2 := Lib.hid hI2
            repeat' (first | (with_reducible refine And.intro ?_ ?_) | (with_reducible refine gK_i (fun _ => ?_) (fun _ => ?_)) | (with_reducible refine condS_i (fun _ => ?_) (fun _ => ?_)) | (with_reducible refine drw_i (by kernel_rfl)) | simp -dsimp only [go_sem, seval, *, encV, encN, hkI, hwr, hs, Int.lt_irrefl] | ((with_reducible refine opK_c ?_); simp -dsimp only [go_sem, seval, encV, encN, hkI, hwr, hs, Int.lt_irrefl]; first | refine callK_r (by first | assumption | fail) (by first | exact .inl rfl | exact .inr rfl) ?_ | (refine callK_i (by assumption) ?_ ?_ ?_; (solve | (repeat (first | exact DLe.refl _ | exact DLe.nil _ | (refine DLe.tup ?_) | (refine DLe.agg ?_ rfl) | exact trivial | (refine And.intro ?_ ?_)))); (solve | exact .inl rfl | exact .inr rfl))) | fail | omega | exact decide_eq_true (by omega) | exact DLe.refl _)
            exact hC _ _ hI2.out (weak_forget _ (by simp) (by (try simp only [encV]); rfl) (by (repeat' (first | exact trivial | (refine ⟨rfl, ?_⟩)))) (by first | rfl | simp only [belowH, belowE, belowC, belowL, belowR, belowP, belowL_d, belowR_d, List.length_cons, List.length_nil, Nat.reduceAdd, Nat.reduceLT, decide_true, Bool.and_self, Bool.and_true]) (by first | rfl | simp only [belowH, belowE, belowC, belowL, belowR, belowP, belowL_d, belowR_d, List.length_cons, List.length_nil, Nat.reduceAdd, Nat.reduceLT, decide_true, Bool.and_self, Bool.and_true]))
      · intro hI C
        rw [List.take_length] at hI
        have hb : R = false := by rw [hR2.out, List.any_eq_false]; intro x hx; have := List.all_eq_true.1 hI x hx; simpa using this
        rw [hb]
        replace hb := Lib.hid hb
        replace hI := Lib.hid hI
        repeat' (first | (with_reducible refine And.intro ?_ ?_) | (with_reducible refine gK_i (fun _ => ?_) (fun _ => ?_)) | (with_reducible refine condS_i (fun _ => ?_) (fun _ => ?_)) | (with_reducible refine drw_i (by kernel_rfl)) | simp -dsimp only [go_sem, seval, *, encV, Int.lt_irrefl] | ((with_reducible refine opK_c ?_); simp -dsimp only [go_sem, seval, encV, Int.lt_irrefl]; first | refine callK_r (by first | assumption | fail) (by first | exact .inl rfl | exact .inr rfl) ?_ | (refine callK_i (by assumption) ?_ ?_ ?_; (solve | (repeat (first | exact DLe.refl _ | exact DLe.nil _ | (refine DLe.tup ?_) | (refine DLe.agg ?_ rfl) | exact trivial | (refine And.intro ?_ ?_)))); (solve | exact .inl rfl | exact .inr rfl))) | fail | omega | exact decide_eq_true (by omega) | exact DLe.refl _)
        all_goals exact DLe.refl _
end Go.Proofs.YtgmbhaclogabeaaGreat
namespace Go.Proofs.YtgmbhaclogabeaaGreat
open Go Go.RowKit
theorem facesB_bad {s : Sbn} {f : Fce} (hf : f ∈ s.faces) (h : faceB s.at_ f = false) : facesB s = false := by
  unfold facesB
  rw [show s.faces.all (faceB s.at_) = false from by rw [List.all_eq_false]; exact ⟨f, hf, by rw [h]; simp⟩]; rfl
theorem facesB_rise {s : Sbn} {k : Nat} {x y : Fce} (h0 : 0 < k) (hx : s.faces[k - 1]? = some x) (hy : s.faces[k]? = some y) (h : x.id ≥ y.id) : facesB s = false := by
  have : risB (fun f : Fce => f.id) s.faces = false := by
    rw [Bool.eq_false_iff, ne_eq, risB_at]
    intro hr
    obtain ⟨hl, he⟩ := List.getElem?_eq_some_iff.1 hy
    obtain ⟨hl1, he1⟩ := List.getElem?_eq_some_iff.1 hx
    have h1 := hr (k - 1) (by omega)
    simp only [show k - 1 + 1 = k by omega, he, he1] at h1
    omega
  unfold facesB
  simp only [this, Bool.and_false]
theorem faceB_rise {p : Pfx} {f : Fce} {k : Nat} {x y : Int} (h0 : 0 < k) (hx : f.addrs[k - 1]? = some x) (hy : f.addrs[k]? = some y) (h : x ≥ y) : faceB p f = false := by
  have : risB (fun x => x) f.addrs = false := by
    rw [Bool.eq_false_iff, ne_eq, risB_at]
    intro hr
    obtain ⟨hl, he⟩ := List.getElem?_eq_some_iff.1 hy
    obtain ⟨hl1, he1⟩ := List.getElem?_eq_some_iff.1 hx
    have h1 := hr (k - 1) (by omega)
    simp only [show k - 1 + 1 = k by omega, he, he1] at h1
    omega
  unfold faceB
  simp [this]
theorem facesB_dup {s : Sbn} {k : Nat} {f : Fce} {a : Int} (hf : s.faces[k]? = some f) (ha : a ∈ f.addrs) (hd : a ∈ (s.faces.take k).flatMap (·.addrs)) : facesB s = false := by
  have : ¬ (s.faces.flatMap (·.addrs)).Nodup := by
    intro hn
    rw [← List.take_append_drop k s.faces, drop_get hf, List.flatMap_append, List.flatMap_cons, List.nodup_append] at hn
    exact hn.2.2 a hd a (List.mem_append_left _ ha) rfl
  unfold facesB
  simp [this]
theorem ris_step {α : Type} {key : α → Int} {l : List α} {k : Nat} {y : α} (hy : l[k]? = some y) (h : ∀ j (h : j + 1 < l.length), j + 1 < k → key l[j] < key l[j + 1]) (hs : ∀ x, 0 < k → l[k - 1]? = some x → key x < key y) : ∀ j (h : j + 1 < l.length), j + 1 < k + 1 → key l[j] < key l[j + 1] := by
  intro j hj hjk
  rcases Nat.lt_or_ge (j + 1) k with h1 | h1
  · exact h j hj h1
  · obtain rfl : k = j + 1 := by omega
    obtain ⟨hl, he⟩ := List.getElem?_eq_some_iff.1 hy
    rw [he]
    exact hs _ (by omega) (List.getElem?_eq_getElem (by omega))
set_option maxRecDepth 100000 in
set_option maxHeartbeats 4000000 in
theorem facesFine_p (s : Sbn) (h8 : s.faces.length ≤ 8) (h4 : ∀ f ∈ s.faces, f.addrs.length ≤ 4) : PSpec Tryz.prog 66 [.agg (encN s)] (.v (.bool (facesB s))) := by
  obtain ⟨R, hR⟩ : ∃ R, R = facesB s := ⟨_, rfl⟩
  rw [← hR]
  replace hR := Lib.hid hR
  refine ps_i tab_ok mixed Tryz.func66 rfl Tryz.ntmps66 Tryz.results66 (by kernel_rfl) ?_
  repeat' (first | (with_reducible refine And.intro ?_ ?_) | (with_reducible refine gK_i (fun _ => ?_) (fun _ => ?_)) | (with_reducible refine condS_i (fun _ => ?_) (fun _ => ?_)) | (with_reducible refine drw_i (by kernel_rfl)) | simp -dsimp only [go_sem, seval, *, encN] | ((with_reducible refine opK_c ?_); simp -dsimp only [go_sem, seval, encN]; first | refine callK_r (by first | assumption | fail) (by first | exact .inl rfl | exact .inr rfl) ?_ | (refine callK_i (by assumption) ?_ ?_ ?_; (solve | (repeat (first | exact DLe.refl _ | exact DLe.nil _ | (refine DLe.tup ?_) | (refine DLe.agg ?_ rfl) | exact trivial | (refine And.intro ?_ ?_)))); (solve | exact .inl rfl | exact .inr rfl))) | fail | omega | exact decide_eq_true (by omega) | exact DLe.refl _)
  refine loopG tab_ok mixed (fun m e h => ∃ (k g : Nat) (A : List Int), k ≤ s.faces.length ∧ A = (s.faces.take k).flatMap (·.addrs) ∧ A.length ≤ 4 * k ∧ A.Nodup ∧ (s.faces.take k).all (faceB s.at_) = true ∧ (∀ j (h : j + 1 < s.faces.length), j + 1 < k → s.faces[j].id < s.faces[j + 1].id) ∧ m = s.faces.length - k ∧
    e = [(4, .d (.v (.int .i64 k))), (3, .own 1 g), (2, .d (.v (.bool false))), (1, .ptr 0 0)] ∧ h = [.box 86 ((encN s).map .d), .row 3 1 g (dRows (A.map encA))]) _ _ _ ⟨0, 0, [], Nat.zero_le _, rfl, Nat.zero_le _, List.nodup_nil, rfl, fun j h h1 => by omega, rfl, rfl, rfl⟩ ((weak_adopt (Nat.zero_le _) 3 3 1 rfl).trans (weak_forget _ (by simp) (by (try simp only [encN]); rfl) (by (repeat' (first | exact trivial | (refine ⟨rfl, ?_⟩)))) (by first | rfl | simp only [belowH, belowE, belowC, belowL, belowR, belowP, belowL_d, belowR_d, List.length_cons, List.length_nil, Nat.reduceAdd, Nat.reduceLT, decide_true, Bool.and_self, Bool.and_true]) (by first | rfl | simp only [belowH, belowE, belowC, belowL, belowR, belowP, belowL_d, belowR_d, List.length_cons, List.length_nil, Nat.reduceAdd, Nat.reduceLT, decide_true, Bool.and_self, Bool.and_true]))) ?_
  rintro m e h ⟨k, g, A, hk, hA, hAl, hnd, hall, hris, hm, rfl, rfl⟩ C hC
  replace hm := Lib.hid hm
  replace hA := Lib.hid hA
  replace hnd := Lib.hid hnd
  replace hall := Lib.hid hall
  replace hris := Lib.hid hris
  by_cases hlt : k < s.faces.length
  · have hkI : (k : Int) < (s.faces.length : Int) := by omega
    have hwr : IntKind.i64.wrap ((k : Int) + 1) = ((k + 1 : Nat) : Int) := by rw [IntKind.wrap_i64]; omega
    have hwm : decide ((k : Int) > 0) = true → IntKind.i64.wrap ((k : Int) - 1) = ((k - 1 : Nat) : Int) := fun h => by have := of_decide_eq_true h; rw [IntKind.wrap_i64]; omega
    obtain ⟨f, hf⟩ : ∃ f, s.faces[k]? = some f := ⟨_, List.getElem?_eq_getElem hlt⟩
    obtain ⟨y, hy⟩ : ∃ y, s.faces[k - 1]? = some y := ⟨_, List.getElem?_eq_getElem (by omega)⟩
    have hfm := List.mem_of_getElem? hf
    have hfl := h4 f hfm
    have hw : PSpec Tryz.prog 34 [.v (.int .i64 f.id), .v (.int .i64 1), .v (.int .i64 65536)] (.v (.bool (idOK f.id))) := withinR_p _ _ _
    have hbr : (0 < k ∧ y.id ≥ f.id) → R = false := fun h => by rw [hR.out]; exact facesB_rise h.1 hy hf h.2
    have hbf : faceB s.at_ f = false → R = false := fun h => by rw [hR.out]; exact facesB_bad hfm h
    have hbd : ∀ a ∈ f.addrs, a ∈ A → R = false := fun a h1 h2 => by rw [hR.out]; exact facesB_dup hf h1 (by rw [← hA.out]; exact h2)
    have hfd : faceB s.at_ f = (idOK f.id && (!((f.addrs.length : Int) == 0) && (risB (fun x => x) f.addrs && f.addrs.all (innB s.at_)))) := rfl
    replace hbr := Lib.hid hbr
    replace hbf := Lib.hid hbf
    replace hbd := Lib.hid hbd
    replace hfd := Lib.hid hfd
    cases b1 : idOK f.id with
    | false =>
      have hr : R = false := hbf.out (by rw [hfd.out, b1]; rfl)
      rw [b1] at hw
      rw [hr]
      replace hr := Lib.hid hr
      repeat' (first | (with_reducible refine And.intro ?_ ?_) | (with_reducible refine gK_i (fun _ => ?_) (fun _ => ?_)) | (with_reducible refine condS_i (fun _ => ?_) (fun _ => ?_)) | (with_reducible refine drw_i (by kernel_rfl)) | simp -dsimp only [go_sem, seval, *, encN, encF, hkI, hf, hy, undef] | ((with_reducible refine opK_c ?_); simp -dsimp only [go_sem, seval, encN, encF, hkI, hf, hy, undef]; first | refine callK_r (by first | assumption | exact hw) (by first | exact .inl rfl | exact .inr rfl) ?_ | (refine callK_i (by assumption) ?_ ?_ ?_; (solve | (repeat (first | exact DLe.refl _ | exact DLe.nil _ | (refine DLe.tup ?_) | (refine DLe.agg ?_ rfl) | exact trivial | (refine And.intro ?_ ?_)))); (solve | exact .inl rfl | exact .inr rfl))) | fail | omega | exact decide_eq_true (by omega) | exact DLe.refl _)
      all_goals exact DLe.refl _
    | true =>
      rw [b1] at hw
      cases b2 : ((f.addrs.length : Int) == 0) with
      | true =>
        have hr : R = false := hbf.out (by rw [hfd.out, b1, b2]; rfl)
        rw [hr]
        replace hr := Lib.hid hr
        repeat' (first | (with_reducible refine And.intro ?_ ?_) | (with_reducible refine gK_i (fun _ => ?_) (fun _ => ?_)) | (with_reducible refine condS_i (fun _ => ?_) (fun _ => ?_)) | (with_reducible refine drw_i (by kernel_rfl)) | simp -dsimp only [go_sem, seval, *, encN, encF, hkI, hwm, hf, hy, b2, undef] | ((with_reducible refine opK_c ?_); simp -dsimp only [go_sem, seval, encN, encF, hkI, hwm, hf, hy, b2, undef]; first | refine callK_r (by first | assumption | exact hw) (by first | exact .inl rfl | exact .inr rfl) ?_ | (refine callK_i (by assumption) ?_ ?_ ?_; (solve | (repeat (first | exact DLe.refl _ | exact DLe.nil _ | (refine DLe.tup ?_) | (refine DLe.agg ?_ rfl) | exact trivial | (refine And.intro ?_ ?_)))); (solve | exact .inl rfl | exact .inr rfl))) | fail | omega | exact decide_eq_true (by omega) | exact DLe.refl _)
        all_goals exact DLe.refl _
      | false =>
        repeat' (first | (with_reducible refine And.intro ?_ ?_) | (with_reducible refine gK_i (fun _ => ?_) (fun _ => ?_)) | (with_reducible refine condS_i (fun _ => ?_) (fun _ => ?_)) | (with_reducible refine drw_i (by kernel_rfl)) | simp -dsimp only [go_sem, seval, *, encN, encF, hkI, hwm, hf, hy, b2, undef] | ((with_reducible refine opK_c ?_); simp -dsimp only [go_sem, seval, encN, encF, hkI, hwm, hf, hy, b2, undef]; first | refine callK_r (by first | assumption | exact hw) (by first | exact .inl rfl | exact .inr rfl) ?_ | (refine callK_i (by assumption) ?_ ?_ ?_; (solve | (repeat (first | exact DLe.refl _ | exact DLe.nil _ | (refine DLe.tup ?_) | (refine DLe.agg ?_ rfl) | exact trivial | (refine And.intro ?_ ?_)))); (solve | exact .inl rfl | exact .inr rfl))) | fail | omega | exact decide_eq_true (by omega) | exact DLe.refl _)
        all_goals first
          | (exact dle_b (hbr.out (by clear hw hC; grind)).symm)
          | skip
        all_goals
          have hst : 0 < k → y.id < f.id := by clear hw hC; grind
          replace hst := Lib.hid hst
          refine loopG tab_ok mixed (fun m e h => ∃ (j : Nat), j ≤ f.addrs.length ∧ (f.addrs.take j).all (innB s.at_) = true ∧ (∀ i (h : i + 1 < f.addrs.length), i + 1 < j → f.addrs[i] < f.addrs[i + 1]) ∧ (f.addrs.take j).all (fun a => !(A.contains a)) = true ∧ m = f.addrs.length - j ∧
            e = [(6, .d (.v (.int .i64 j))), (5, .ptr 2 0), (4, .d (.v (.int .i64 k))), (3, .own 1 g), (2, .d (.v (.bool false))), (1, .ptr 0 0)] ∧ h = [.box 86 ((encN s).map .d), .row 3 1 g (dRows (A.map encA)), .box 88 ((encF f).map .d)]) _ _ _ ⟨0, Nat.zero_le _, rfl, fun j h h1 => by omega, rfl, rfl, rfl, rfl⟩ (weak_forget _ (by simp) (by (try simp only [encN, encF]); rfl) (by (repeat' (first | exact trivial | (refine ⟨rfl, ?_⟩)))) (by first | rfl | simp only [belowH, belowE, belowC, belowL, belowR, belowP, belowL_d, belowR_d, List.length_cons, List.length_nil, Nat.reduceAdd, Nat.reduceLT, decide_true, Bool.and_self, Bool.and_true]) (by first | rfl | simp only [belowH, belowE, belowC, belowL, belowR, belowP, belowL_d, belowR_d, List.length_cons, List.length_nil, Nat.reduceAdd, Nat.reduceLT, decide_true, Bool.and_self, Bool.and_true])) ?_
          rintro m2 e h ⟨j, hj, hin, hri2, hno, hm2, rfl, rfl⟩ C2 hC2
          replace hm2 := Lib.hid hm2
          replace hin := Lib.hid hin
          replace hri2 := Lib.hid hri2
          replace hno := Lib.hid hno
          by_cases hlj : j < f.addrs.length
          · have hjI : (j : Int) < (f.addrs.length : Int) := by omega
            have hwj : IntKind.i64.wrap ((j : Int) + 1) = ((j + 1 : Nat) : Int) := by rw [IntKind.wrap_i64]; omega
            have hwi : decide ((j : Int) > 0) = true → IntKind.i64.wrap ((j : Int) - 1) = ((j - 1 : Nat) : Int) := fun h => by have := of_decide_eq_true h; rw [IntKind.wrap_i64]; omega
            obtain ⟨a, ha⟩ : ∃ a, f.addrs[j]? = some a := ⟨_, List.getElem?_eq_getElem hlj⟩
            obtain ⟨b, hb⟩ : ∃ b, f.addrs[j - 1]? = some b := ⟨_, List.getElem?_eq_getElem (by omega)⟩
            have ham := List.mem_of_getElem? ha
            have hnr := innerR_p s a
            have hba : (0 < j ∧ b ≥ a) → R = false := fun h => hbf.out (faceB_rise h.1 hb ha h.2)
            replace hba := Lib.hid hba
            cases b3 : innB s.at_ a with
            | false =>
              have hr : R = false := hbf.out (by rw [hfd.out, show f.addrs.all (innB s.at_) = false from by rw [List.all_eq_false]; exact ⟨a, ham, by rw [b3]; simp⟩]; simp)
              rw [b3] at hnr
              rw [hr]
              replace hr := Lib.hid hr
              repeat' (first | (with_reducible refine And.intro ?_ ?_) | (with_reducible refine gK_i (fun _ => ?_) (fun _ => ?_)) | (with_reducible refine condS_i (fun _ => ?_) (fun _ => ?_)) | (with_reducible refine drw_i (by kernel_rfl)) | simp -dsimp only [go_sem, seval, *, encN, encF, encA, hjI, ha, hb, undef] | ((with_reducible refine opK_c ?_); simp -dsimp only [go_sem, seval, encN, encF, encA, hjI, ha, hb, undef]; first | refine callK_r (by first | assumption | exact hnr) (by first | exact .inl rfl | exact .inr rfl) ?_ | (refine callK_i (by assumption) ?_ ?_ ?_; (solve | (repeat (first | exact DLe.refl _ | exact DLe.nil _ | (refine DLe.tup ?_) | (refine DLe.agg ?_ rfl) | exact trivial | (refine And.intro ?_ ?_)))); (solve | exact .inl rfl | exact .inr rfl))) | fail | omega | exact decide_eq_true (by omega) | exact DLe.refl _)
              all_goals exact DLe.refl _
            | true =>
              rw [b3] at hnr
              repeat' (first | (with_reducible refine And.intro ?_ ?_) | (with_reducible refine gK_i (fun _ => ?_) (fun _ => ?_)) | (with_reducible refine condS_i (fun _ => ?_) (fun _ => ?_)) | (with_reducible refine drw_i (by kernel_rfl)) | simp -dsimp only [go_sem, seval, *, encN, encF, encA, hjI, hwi, ha, hb, undef] | ((with_reducible refine opK_c ?_); simp -dsimp only [go_sem, seval, encN, encF, encA, hjI, hwi, ha, hb, undef]; first | refine callK_r (by first | assumption | exact hnr) (by first | exact .inl rfl | exact .inr rfl) ?_ | (refine callK_i (by assumption) ?_ ?_ ?_; (solve | (repeat (first | exact DLe.refl _ | exact DLe.nil _ | (refine DLe.tup ?_) | (refine DLe.agg ?_ rfl) | exact trivial | (refine And.intro ?_ ?_)))); (solve | exact .inl rfl | exact .inr rfl))) | fail | omega | exact decide_eq_true (by omega) | exact DLe.refl _)
              all_goals first
                | (exact dle_b (hba.out (by clear hw hC hC2 hnr; grind)).symm)
                | skip
              all_goals
                have hsa : 0 < j → b < a := by clear hw hC hC2 hnr; grind
                replace hsa := Lib.hid hsa
                refine loopL tab_ok mixed A (fun q => (A.take q).all (fun x => !(x == a)) = true) (fun q => [(7, .d (.v (.int .i64 q))), (6, .d (.v (.int .i64 j))), (5, .ptr 2 0), (4, .d (.v (.int .i64 k))), (3, .own 1 g), (2, .d (.v (.bool false))), (1, .ptr 0 0)])
                  (fun _ => [.box 86 ((encN s).map .d), .row 3 1 g (dRows (A.map encA)), .box 88 ((encF f).map .d)]) rfl (weak_forget _ (by simp) (by (try simp only [encN, encF]); rfl) (by (repeat' (first | exact trivial | (refine ⟨rfl, ?_⟩)))) (by first | rfl | simp only [belowH, belowE, belowC, belowL, belowR, belowP, belowL_d, belowR_d, List.length_cons, List.length_nil, Nat.reduceAdd, Nat.reduceLT, decide_true, Bool.and_self, Bool.and_true]) (by first | rfl | simp only [belowH, belowE, belowC, belowL, belowR, belowP, belowL_d, belowR_d, List.length_cons, List.length_nil, Nat.reduceAdd, Nat.reduceLT, decide_true, Bool.and_self, Bool.and_true])) ?_ ?_
                · intro q x hx hq hQ C3 hC3
                  have hqI : (q : Int) < (A.length : Int) := by omega
                  have hwq : IntKind.i64.wrap ((q : Int) + 1) = ((q + 1 : Nat) : Int) := by rw [IntKind.wrap_i64]; omega
                  replace hQ := Lib.hid hQ
                  cases b4 : (x == a) with
                  | true =>
                    have hr : R = false := hbd.out a ham (by rw [← eq_of_beq b4]; exact List.mem_of_getElem? hx)
                    rw [hr]
                    replace hr := Lib.hid hr
                    repeat' (first | (with_reducible refine And.intro ?_ ?_) | (with_reducible refine gK_i (fun _ => ?_) (fun _ => ?_)) | (with_reducible refine condS_i (fun _ => ?_) (fun _ => ?_)) | (with_reducible refine drw_i (by kernel_rfl)) | simp -dsimp only [go_sem, seval, *, encN, encF, encA, hqI, hwq, ha, hx, b4, undef] | ((with_reducible refine opK_c ?_); simp -dsimp only [go_sem, seval, encN, encF, encA, hqI, hwq, ha, hx, b4, undef]; first | refine callK_r (by first | assumption | fail) (by first | exact .inl rfl | exact .inr rfl) ?_ | (refine callK_i (by assumption) ?_ ?_ ?_; (solve | (repeat (first | exact DLe.refl _ | exact DLe.nil _ | (refine DLe.tup ?_) | (refine DLe.agg ?_ rfl) | exact trivial | (refine And.intro ?_ ?_)))); (solve | exact .inl rfl | exact .inr rfl))) | fail | omega | exact decide_eq_true (by omega) | exact DLe.refl _)
                    all_goals exact DLe.refl _
                  | false =>
                    have hQ2 := Lib.hid (no_snoc (p := fun x : Int => !(x == a)) hx hQ.out (by rw [b4]; rfl))
                    repeat' (first | (with_reducible refine And.intro ?_ ?_) | (with_reducible refine gK_i (fun _ => ?_) (fun _ => ?_)) | (with_reducible refine condS_i (fun _ => ?_) (fun _ => ?_)) | (with_reducible refine drw_i (by kernel_rfl)) | simp -dsimp only [go_sem, seval, *, encN, encF, encA, hqI, hwq, ha, hx, b4, undef] | ((with_reducible refine opK_c ?_); simp -dsimp only [go_sem, seval, encN, encF, encA, hqI, hwq, ha, hx, b4, undef]; first | refine callK_r (by first | assumption | fail) (by first | exact .inl rfl | exact .inr rfl) ?_ | (refine callK_i (by assumption) ?_ ?_ ?_; (solve | (repeat (first | exact DLe.refl _ | exact DLe.nil _ | (refine DLe.tup ?_) | (refine DLe.agg ?_ rfl) | exact trivial | (refine And.intro ?_ ?_)))); (solve | exact .inl rfl | exact .inr rfl))) | fail | omega | exact decide_eq_true (by omega) | exact DLe.refl _)
                    exact hC3 _ _ hQ2.out (weak_forget _ (by simp) (by (try simp only [encN, encF]); rfl) (by (repeat' (first | exact trivial | (refine ⟨rfl, ?_⟩)))) (by first | rfl | simp only [belowH, belowE, belowC, belowL, belowR, belowP, belowL_d, belowR_d, List.length_cons, List.length_nil, Nat.reduceAdd, Nat.reduceLT, decide_true, Bool.and_self, Bool.and_true]) (by first | rfl | simp only [belowH, belowE, belowC, belowL, belowR, belowP, belowL_d, belowR_d, List.length_cons, List.length_nil, Nat.reduceAdd, Nat.reduceLT, decide_true, Bool.and_self, Bool.and_true]))
                · intro hQ C3
                  rw [List.take_length] at hQ
                  have hna : A.contains a = false := by
                    rw [Bool.eq_false_iff, ne_eq, List.contains_iff_mem]
                    intro hm
                    have := List.all_eq_true.1 hQ a hm
                    simp at this
                  replace hQ := Lib.hid hQ
                  replace hna := Lib.hid hna
                  repeat' (first | (with_reducible refine And.intro ?_ ?_) | (with_reducible refine gK_i (fun _ => ?_) (fun _ => ?_)) | (with_reducible refine condS_i (fun _ => ?_) (fun _ => ?_)) | (with_reducible refine drw_i (by kernel_rfl)) | simp -dsimp only [go_sem, seval, *, encN, encF, hwj, Int.lt_irrefl, undef] | ((with_reducible refine opK_c ?_); simp -dsimp only [go_sem, seval, encN, encF, hwj, Int.lt_irrefl, undef]; first | refine callK_r (by first | assumption | fail) (by first | exact .inl rfl | exact .inr rfl) ?_ | (refine callK_i (by assumption) ?_ ?_ ?_; (solve | (repeat (first | exact DLe.refl _ | exact DLe.nil _ | (refine DLe.tup ?_) | (refine DLe.agg ?_ rfl) | exact trivial | (refine And.intro ?_ ?_)))); (solve | exact .inl rfl | exact .inr rfl))) | fail | omega | exact decide_eq_true (by omega) | exact DLe.refl _)
                  refine hC2 _ _ _ _ _ ?_ ⟨j + 1, hlj, no_snoc ha hin.out b3, ris_step (key := fun x : Int => x) ha hri2.out (fun x h0 hx => by rw [hb] at hx; rw [← Option.some.inj hx]; exact hsa.out h0), no_snoc ha hno.out (by rw [hna.out]; rfl), rfl, rfl, rfl⟩ (weak_forget _ (by simp) (by (try simp only [encN, encF]); rfl) (by (repeat' (first | exact trivial | (refine ⟨rfl, ?_⟩)))) (by first | rfl | simp only [belowH, belowE, belowC, belowL, belowR, belowP, belowL_d, belowR_d, List.length_cons, List.length_nil, Nat.reduceAdd, Nat.reduceLT, decide_true, Bool.and_self, Bool.and_true]) (by first | rfl | simp only [belowH, belowE, belowC, belowL, belowR, belowP, belowL_d, belowR_d, List.length_cons, List.length_nil, Nat.reduceAdd, Nat.reduceLT, decide_true, Bool.and_self, Bool.and_true]))
                  have := hm2.out; omega
          · obtain rfl : j = f.addrs.length := by omega
            have hin := hin.out
            have hno := hno.out
            rw [List.take_length] at hin hno
            have hfb : faceB s.at_ f = true := by
              rw [hfd.out, b1, b2, hin, (risB_at f.addrs).2 (fun i hi => hri2.out i hi (by omega))]; rfl
            have hA2 : A ++ f.addrs = (s.faces.take (k + 1)).flatMap (·.addrs) := by rw [take_snoc hf, List.flatMap_append, ← hA.out]; simp
            have hnf : f.addrs.Nodup := by
              have h1 := (risB_pair (key := fun x : Int => x) f.addrs).1 ((risB_at f.addrs).2 (fun i hi => hri2.out i hi (by omega)))
              exact h1.imp (fun h => by omega)
            have hnd2 : (A ++ f.addrs).Nodup := by
              rw [List.nodup_append]
              refine ⟨hnd.out, hnf, fun x hx y hy e => ?_⟩
              subst e
              have := List.all_eq_true.1 hno x hy
              rw [List.contains_iff_mem.2 hx] at this
              simp at this
            have hbnd : (A.length + f.addrs.length) * 8 ≤ 140737488355328 := by omega
            replace hno := Lib.hid hno
            replace hin := Lib.hid hin
            replace hfb := Lib.hid hfb
            replace hA2 := Lib.hid hA2
            replace hnf := Lib.hid hnf
            replace hnd2 := Lib.hid hnd2
            repeat' (first | (with_reducible refine And.intro ?_ ?_) | (with_reducible refine gK_i (fun _ => ?_) (fun _ => ?_)) | (with_reducible refine condS_i (fun _ => ?_) (fun _ => ?_)) | (with_reducible refine drw_i (by kernel_rfl)) | simp -dsimp only [go_sem, seval, *, encN, encF, hwr, hbnd, Int.lt_irrefl, undef] | ((with_reducible refine opK_c ?_); simp -dsimp only [go_sem, seval, encN, encF, hwr, hbnd, Int.lt_irrefl, undef]; first | refine callK_r (by first | assumption | fail) (by first | exact .inl rfl | exact .inr rfl) ?_ | (refine callK_i (by assumption) ?_ ?_ ?_; (solve | (repeat (first | exact DLe.refl _ | exact DLe.nil _ | (refine DLe.tup ?_) | (refine DLe.agg ?_ rfl) | exact trivial | (refine And.intro ?_ ?_)))); (solve | exact .inl rfl | exact .inr rfl))) | fail | omega | exact decide_eq_true (by omega) | exact DLe.refl _)
            refine hC _ _ _ _ _ ?_ ⟨k + 1, g + 1, A ++ f.addrs, hlt, hA2.out, by rw [List.length_append]; omega, hnd2.out, no_snoc hf hall.out hfb.out, ris_step (key := fun f : Fce => f.id) hf hris.out (fun x h0 hx => by rw [hy] at hx; rw [← Option.some.inj hx]; exact hst.out h0), rfl, rfl, rfl⟩ (weak_forget _ (by simp) (by simp only [encN, encF, List.map_append, List.map_cons, List.map_nil, ← dRows_app]; rfl) (by (repeat' (first | exact trivial | (refine ⟨rfl, ?_⟩)))) (by first | rfl | simp only [belowH, belowE, belowC, belowL, belowR, belowP, belowL_d, belowR_d, List.length_cons, List.length_nil, Nat.reduceAdd, Nat.reduceLT, decide_true, Bool.and_self, Bool.and_true]) (by first | rfl | simp only [belowH, belowE, belowC, belowL, belowR, belowP, belowL_d, belowR_d, List.length_cons, List.length_nil, Nat.reduceAdd, Nat.reduceLT, decide_true, Bool.and_self, Bool.and_true]))
            have := hm.out; omega
  · obtain rfl : k = s.faces.length := by omega
    have hr : R = true := by
      have hall := hall.out
      have hA := hA.out
      rw [List.take_length] at hall hA
      rw [hR.out]
      unfold facesB
      rw [hall, ← hA, (risB_at s.faces).2 (fun i hi => hris.out i hi (by omega))]
      simp [hnd.out]
    rw [hr]
    replace hr := Lib.hid hr
    repeat' (first | (with_reducible refine And.intro ?_ ?_) | (with_reducible refine gK_i (fun _ => ?_) (fun _ => ?_)) | (with_reducible refine condS_i (fun _ => ?_) (fun _ => ?_)) | (with_reducible refine drw_i (by kernel_rfl)) | simp -dsimp only [go_sem, seval, *, encN, Int.lt_irrefl, undef] | ((with_reducible refine opK_c ?_); simp -dsimp only [go_sem, seval, encN, Int.lt_irrefl, undef]; first | refine callK_r (by first | assumption | fail) (by first | exact .inl rfl | exact .inr rfl) ?_ | (refine callK_i (by assumption) ?_ ?_ ?_; (solve | (repeat (first | exact DLe.refl _ | exact DLe.nil _ | (refine DLe.tup ?_) | (refine DLe.agg ?_ rfl) | exact trivial | (refine And.intro ?_ ?_)))); (solve | exact .inl rfl | exact .inr rfl))) | fail | omega | exact decide_eq_true (by omega) | exact DLe.refl _)
    all_goals exact DLe.refl _
end Go.Proofs.YtgmbhaclogabeaaGreat
namespace Go.Proofs.YtgmbhaclogabeaaGreat
open Go Go.RowKit
theorem apaF_iff : ∀ (pre l : List Pfx), apaF pre l = true ↔ l.Pairwise (fun a b => b.meets a = false) ∧ ∀ a ∈ pre, ∀ b ∈ l, b.meets a = false
  | pre, [] => by simp [apaF]
  | pre, p :: l => by
    simp only [apaF, Bool.and_eq_true, Bool.not_eq_true', List.any_eq_false, Bool.not_eq_true, apaF_iff (pre ++ [p]) l, List.pairwise_cons, List.mem_append, List.mem_cons, List.not_mem_nil, or_false]
    constructor
    · rintro ⟨h1, h2, h3⟩
      refine ⟨⟨fun b hb => h3 p (.inr rfl) b hb, h2⟩, fun a ha b hb => ?_⟩
      rcases hb with rfl | hb
      · exact h1 a ha
      · exact h3 a (.inl ha) b hb
    · rintro ⟨⟨h1, h2⟩, h3⟩
      refine ⟨fun x hx => h3 x hx p (.inl rfl), h2, fun a ha b hb => ?_⟩
      rcases ha with ha | rfl
      · exact h3 a ha b (.inr hb)
      · exact h1 b hb
theorem apaF_nil {l : List Pfx} : apaF [] l = true ↔ l.Pairwise (fun a b => b.meets a = false) := by
  rw [apaF_iff]; simp
/-- Right prefixes that rise, where none meets the one ahead of it: none meets another one. -/
theorem apaF_adj {l : List Pfx} (hr : ∀ p ∈ l, p.right = true) (hs : l.Pairwise fun a b => a.at_ < b.at_) (ha : ∀ j (h : j + 1 < l.length), l[j].meets l[j + 1] = false) : apaF [] l = true := by
  rw [apaF_nil, List.pairwise_iff_getElem]
  intro i j hi hj hij
  rw [Bool.eq_false_iff, ne_eq, meets_iff]
  rintro ⟨-, -, h1, h2⟩
  have h3 := ha i (by omega)
  have r1 := hr l[i] (List.getElem_mem hi)
  have r2 := hr l[i + 1] (List.getElem_mem (by omega))
  rw [Bool.eq_false_iff, ne_eq, meets_iff] at h3
  have s1 := List.pairwise_iff_getElem.1 hs i (i + 1) hi (by omega) (by omega)
  have s2 : l[i + 1].at_ ≤ l[j].at_ := by
    rcases Nat.lt_or_ge (i + 1) j with h | h
    · have := List.pairwise_iff_getElem.1 hs (i + 1) j (by omega) hj h; omega
    · obtain rfl : j = i + 1 := by omega
      exact Int.le_refl _
  have b2 := l[i + 1].hi_bd r2
  exact h3 ⟨r1, r2, by omega, by omega⟩
theorem chkV_one {v : Vpc} (hm : manyV v = false) (h : fineV v = false ∨ apaF [] (v.ranges.map (·.at_)) = false ∨ apaF [] (v.subs.map (·.at_)) = false) : chkV v = 1 := by
  unfold chkV
  rw [if_neg (by simp [hm]), if_neg]
  rintro h1
  simp only [Bool.and_eq_true] at h1
  rcases h with h | h | h <;> simp [h] at h1
theorem apaF_bad {l : List Pfx} {i j : Nat} {x y : Pfx} (hij : i < j) (hx : l[i]? = some x) (hy : l[j]? = some y) (h : x.meets y = true) : apaF [] l = false := by
  rw [Bool.eq_false_iff, ne_eq, apaF_nil]
  intro hp
  obtain ⟨h1, rfl⟩ := List.getElem?_eq_some_iff.1 hx
  obtain ⟨h2, rfl⟩ := List.getElem?_eq_some_iff.1 hy
  have := List.pairwise_iff_getElem.1 hp i j h1 h2 hij
  rw [← meetB_eq] at this h
  unfold meetB at this h
  grind
theorem risB_bad {α : Type} {key : α → Int} {l : List α} {k : Nat} {x y : α} (h0 : 0 < k) (hx : l[k - 1]? = some x) (hy : l[k]? = some y) (h : key x ≥ key y) : risB key l = false := by
  rw [Bool.eq_false_iff, ne_eq, risB_at]
  intro hr
  obtain ⟨hl, he⟩ := List.getElem?_eq_some_iff.1 hy
  obtain ⟨hl1, he1⟩ := List.getElem?_eq_some_iff.1 hx
  have h1 := hr (k - 1) (by omega)
  simp only [show k - 1 + 1 = k by omega, he, he1] at h1
  omega
theorem all_bad {α : Type} {p : α → Bool} {l : List α} {x : α} (hx : x ∈ l) (h : p x = false) : l.all p = false := by
  rw [List.all_eq_false]; exact ⟨x, hx, by rw [h]; simp⟩
theorem fineV_bad {v : Vpc} (h : idOK v.id = false ∨ risB (fun r : Rng => r.at_.at_) v.ranges = false ∨ risB (fun s : Sbn => s.id) v.subs = false ∨ v.ranges.all rangeB = false ∨ v.subs.all (subB v) = false) : fineV v = false := by
  unfold fineV
  rcases h with h | h | h | h | h <;> simp [h]
end Go.Proofs.YtgmbhaclogabeaaGreat
namespace Go.Proofs.YtgmbhaclogabeaaGreat
open Go Go.RowKit
theorem adj_step {l : List Rng} {k : Nat} {y : Rng} (hy : l[k]? = some y) (h : ∀ j (h : j + 1 < l.length), j + 1 < k → l[j].at_.at_ < l[j + 1].at_.at_ ∧ l[j].at_.meets l[j + 1].at_ = false) (hs : ∀ x, 0 < k → l[k - 1]? = some x → x.at_.at_ < y.at_.at_ ∧ x.at_.meets y.at_ = false) : ∀ j (h : j + 1 < l.length), j + 1 < k + 1 → l[j].at_.at_ < l[j + 1].at_.at_ ∧ l[j].at_.meets l[j + 1].at_ = false := by
  intro j hj hjk
  rcases Nat.lt_or_ge (j + 1) k with h1 | h1
  · exact h j hj h1
  · obtain rfl : k = j + 1 := by omega
    obtain ⟨hl, he⟩ := List.getElem?_eq_some_iff.1 hy
    rw [he]
    exact hs _ (by omega) (List.getElem?_eq_getElem (by omega))
theorem chkV_zero {v : Vpc} (hm : manyV v = false) (h1 : idOK v.id = true) (h2 : v.ranges.all rangeB = true) (h3 : ∀ j (h : j + 1 < v.ranges.length), v.ranges[j].at_.at_ < v.ranges[j + 1].at_.at_ ∧ v.ranges[j].at_.meets v.ranges[j + 1].at_ = false) (h4 : v.subs.all (subB v) = true) (h5 : ∀ j (h : j + 1 < v.subs.length), v.subs[j].id < v.subs[j + 1].id) (h6 : ∀ (i j : Nat) (x y : Sbn), i < j → v.subs[i]? = some x → v.subs[j]? = some y → x.at_.meets y.at_ = false) : chkV v = 0 := by
  have r1 : risB (fun r : Rng => r.at_.at_) v.ranges = true := (risB_at v.ranges).2 fun j hj => (h3 j hj).1
  have r2 : risB (fun s : Sbn => s.id) v.subs = true := (risB_at v.subs).2 h5
  rw [vpcOK]
  refine ⟨hm, by unfold fineV; rw [h1, r1, r2, h2, h4]; rfl, ?_, ?_⟩
  · refine apaF_adj (fun p hp => ?_) ?_ fun j hj => ?_
    · obtain ⟨r, hr, rfl⟩ := List.mem_map.1 hp
      exact rangeB_right (List.all_eq_true.1 h2 r hr)
    · rw [List.pairwise_map]
      exact (risB_pair v.ranges).1 r1
    · simp only [List.length_map] at hj
      simp only [List.getElem_map]
      exact (h3 j hj).2
  · rw [apaF_nil, List.pairwise_map, List.pairwise_iff_getElem]
    intro i j hi hj hij
    have := h6 i j _ _ hij (List.getElem?_eq_getElem hi) (List.getElem?_eq_getElem hj)
    rw [← meetB_eq] at this ⊢
    unfold meetB at this ⊢
    grind
set_option maxRecDepth 100000 in
set_option maxHeartbeats 4000000 in
theorem checkVpc_p (v : Vpc) (hl : v.subs.length ≤ 9223372036854775807) (hf : ∀ s ∈ v.subs, s.faces.length ≤ 9223372036854775807) : PSpec Tryz.prog 31 [.agg (encV v)] (.v (.int .i64 (chkV v))) := by
  have hmy := vpcMany_p v hl hf
  clear hl hf
  cases hm : manyV v with
  | true =>
    rw [hm] at hmy
    have hr : chkV v = 2 := by unfold chkV; rw [if_pos hm]
    rw [hr]
    refine ps_i tab_ok mixed Tryz.func31 rfl Tryz.ntmps31 Tryz.results31 (by kernel_rfl) ?_
    repeat' (first | (with_reducible refine And.intro ?_ ?_) | (with_reducible refine gK_i (fun _ => ?_) (fun _ => ?_)) | (with_reducible refine condS_i (fun _ => ?_) (fun _ => ?_)) | (with_reducible refine drw_i (by kernel_rfl)) | simp -dsimp only [go_sem, seval, *, encV] | ((with_reducible refine opK_c ?_); simp -dsimp only [go_sem, seval, encV]; first | refine callK_r (by first | assumption | exact hmy) (by first | exact .inl rfl | exact .inr rfl) ?_ | (refine callK_i (by assumption) ?_ ?_ ?_; (solve | (repeat (first | exact DLe.refl _ | exact DLe.nil _ | (refine DLe.tup ?_) | (refine DLe.agg ?_ rfl) | exact trivial | (refine And.intro ?_ ?_)))); (solve | exact .inl rfl | exact .inr rfl))) | fail | omega | exact decide_eq_true (by omega) | exact DLe.refl _)
  | false =>
  obtain ⟨h4, h6, h8⟩ := manyV_ok hm
  rw [hm] at hmy
  have hid : PSpec Tryz.prog 34 [.v (.int .i64 v.id), .v (.int .i64 1), .v (.int .i64 65536)] (.v (.bool (idOK v.id))) := withinR_p _ _ _
  have hone := Lib.hid (fun h => chkV_one hm h)
  have hzero := Lib.hid (fun a b c d e f => chkV_zero hm a b c d e f)
  replace h8 := Lib.hid h8
  replace hm := Lib.hid hm
  obtain ⟨R, hR⟩ : ∃ R, R = chkV v := ⟨_, rfl⟩
  rw [← hR]
  replace hR := Lib.hid hR
  cases b1 : idOK v.id with
  | false =>
    have hr : R = 1 := by rw [hR.out]; exact hone.out (.inl (fineV_bad (.inl b1)))
    rw [b1] at hid
    rw [hr]
    replace hr := Lib.hid hr
    refine ps_i tab_ok mixed Tryz.func31 rfl Tryz.ntmps31 Tryz.results31 (by kernel_rfl) ?_
    repeat' (first | (with_reducible refine And.intro ?_ ?_) | (with_reducible refine gK_i (fun _ => ?_) (fun _ => ?_)) | (with_reducible refine condS_i (fun _ => ?_) (fun _ => ?_)) | (with_reducible refine drw_i (by kernel_rfl)) | simp -dsimp only [go_sem, seval, *, encV] | ((with_reducible refine opK_c ?_); simp -dsimp only [go_sem, seval, encV]; first | refine callK_r (by first | assumption | exact hmy | exact hid) (by first | exact .inl rfl | exact .inr rfl) ?_ | (refine callK_i (by assumption) ?_ ?_ ?_; (solve | (repeat (first | exact DLe.refl _ | exact DLe.nil _ | (refine DLe.tup ?_) | (refine DLe.agg ?_ rfl) | exact trivial | (refine And.intro ?_ ?_)))); (solve | exact .inl rfl | exact .inr rfl))) | fail | omega | exact decide_eq_true (by omega) | exact DLe.refl _)
  | true =>
  rw [b1] at hid
  refine ps_i tab_ok mixed Tryz.func31 rfl Tryz.ntmps31 Tryz.results31 (by kernel_rfl) ?_
  repeat' (first | (with_reducible refine And.intro ?_ ?_) | (with_reducible refine gK_i (fun _ => ?_) (fun _ => ?_)) | (with_reducible refine condS_i (fun _ => ?_) (fun _ => ?_)) | (with_reducible refine drw_i (by kernel_rfl)) | simp -dsimp only [go_sem, seval, *, encV] | ((with_reducible refine opK_c ?_); simp -dsimp only [go_sem, seval, encV]; first | refine callK_r (by first | assumption | exact hmy | exact hid) (by first | exact .inl rfl | exact .inr rfl) ?_ | (refine callK_i (by assumption) ?_ ?_ ?_; (solve | (repeat (first | exact DLe.refl _ | exact DLe.nil _ | (refine DLe.tup ?_) | (refine DLe.agg ?_ rfl) | exact trivial | (refine And.intro ?_ ?_)))); (solve | exact .inl rfl | exact .inr rfl))) | fail | omega | exact decide_eq_true (by omega) | exact DLe.refl _)
  clear hmy hid
  refine loopG tab_ok mixed (fun m e h => ∃ (k : Nat), k ≤ v.ranges.length ∧ (v.ranges.take k).all rangeB = true ∧ (∀ j (h : j + 1 < v.ranges.length), j + 1 < k → v.ranges[j].at_.at_ < v.ranges[j + 1].at_.at_ ∧ v.ranges[j].at_.meets v.ranges[j + 1].at_ = false) ∧ m = v.ranges.length - k ∧ e = [(3, .d (.v (.int .i64 k))), (2, .d (.v (.int .i64 0))), (1, .ptr 0 0)] ∧
    h = [.box 56 ((encV v).map .d)]) _ _ _ ⟨0, Nat.zero_le _, rfl, fun j h h1 => by omega, rfl, rfl, rfl⟩ (weak_forget _ (by simp) (by (try simp only [encV]); rfl) (by (repeat' (first | exact trivial | (refine ⟨rfl, ?_⟩)))) (by first | rfl | simp only [belowH, belowE, belowC, belowL, belowR, belowP, belowL_d, belowR_d, List.length_cons, List.length_nil, Nat.reduceAdd, Nat.reduceLT, decide_true, Bool.and_self, Bool.and_true]) (by first | rfl | simp only [belowH, belowE, belowC, belowL, belowR, belowP, belowL_d, belowR_d, List.length_cons, List.length_nil, Nat.reduceAdd, Nat.reduceLT, decide_true, Bool.and_self, Bool.and_true])) ?_
  rintro m e h ⟨k, hk, hall, hadj, hm0, rfl, rfl⟩ C hC
  replace hm0 := Lib.hid hm0
  replace hall := Lib.hid hall
  replace hadj := Lib.hid hadj
  by_cases hlt : k < v.ranges.length
  · have hkI : (k : Int) < (v.ranges.length : Int) := by omega
    have hwr : IntKind.i64.wrap ((k : Int) + 1) = ((k + 1 : Nat) : Int) := by rw [IntKind.wrap_i64]; omega
    have hwm : decide ((k : Int) > 0) = true → IntKind.i64.wrap ((k : Int) - 1) = ((k - 1 : Nat) : Int) := fun h => by have := of_decide_eq_true h; rw [IntKind.wrap_i64]; omega
    obtain ⟨r, hr⟩ : ∃ r, v.ranges[k]? = some r := ⟨_, List.getElem?_eq_getElem hlt⟩
    obtain ⟨y, hy⟩ : ∃ y, v.ranges[k - 1]? = some y := ⟨_, List.getElem?_eq_getElem (by omega)⟩
    have hrm := List.mem_of_getElem? hr
    have hw : PSpec Tryz.prog 34 [.v (.int .i64 r.pool), .v (.int .i64 1), .v (.int .i64 65536)] (.v (.bool (idOK r.pool))) := withinR_p _ _ _
    have hrt : PSpec Tryz.prog 63 [.agg (encP r.at_)] (.v (.bool (chk r.at_.at_ r.at_.len == 0))) := rightR_p r.at_
    have hme := meet_p y.at_ r.at_
    rw [meetB_eq] at hme
    have hrb : rangeB r = (idOK r.pool && (chk r.at_.at_ r.at_.len == 0)) := rfl
    have hbad : rangeB r = false → R = 1 := fun h => by rw [hR.out]; exact hone.out (.inl (fineV_bad (.inr (.inr (.inr (.inl (all_bad hrm h)))))))
    have hbr : 0 < k ∧ y.at_.at_ ≥ r.at_.at_ → R = 1 := fun h => by rw [hR.out]; exact hone.out (.inl (fineV_bad (.inr (.inl (risB_bad (key := fun r : Rng => r.at_.at_) h.1 hy hr h.2)))))
    have hbm : 0 < k ∧ y.at_.meets r.at_ = true → R = 1 := fun h => by
      rw [hR.out]
      exact hone.out (.inr (.inl (apaF_bad (i := k - 1) (j := k) (by omega) (by rw [List.getElem?_map, hy]; rfl) (by rw [List.getElem?_map, hr]; rfl) h.2)))
    replace hbad := Lib.hid hbad
    replace hbr := Lib.hid hbr
    replace hbm := Lib.hid hbm
    cases b2 : rangeB r with
    | false =>
      have h1 : R = 1 := hbad.out b2
      rw [b2] at hrb
      rw [h1]
      replace h1 := Lib.hid h1
      cases b3 : idOK r.pool with
      | false =>
        rw [b3] at hw
        clear hrb
        repeat' (first | (with_reducible refine And.intro ?_ ?_) | (with_reducible refine gK_i (fun _ => ?_) (fun _ => ?_)) | (with_reducible refine condS_i (fun _ => ?_) (fun _ => ?_)) | (with_reducible refine drw_i (by kernel_rfl)) | simp -dsimp only [go_sem, seval, *, encV, encG, encP, hkI, hr, hy, undef] | ((with_reducible refine opK_c ?_); simp -dsimp only [go_sem, seval, encV, encG, encP, hkI, hr, hy, undef]; first | refine callK_r (by first | assumption | exact hw) (by first | exact .inl rfl | exact .inr rfl) ?_ | (refine callK_i (by assumption) ?_ ?_ ?_; (solve | (repeat (first | exact DLe.refl _ | exact DLe.nil _ | (refine DLe.tup ?_) | (refine DLe.agg ?_ rfl) | exact trivial | (refine And.intro ?_ ?_)))); (solve | exact .inl rfl | exact .inr rfl))) | fail | omega | exact decide_eq_true (by omega) | exact DLe.refl _)
        all_goals exact DLe.refl _
      | true =>
        rw [b3, Bool.true_and] at hrb
        rw [b3] at hw
        have b4 := hrb.symm
        rw [b4] at hrt
        clear hrb
        replace b4 := Lib.hid b4
        repeat' (first | (with_reducible refine And.intro ?_ ?_) | (with_reducible refine gK_i (fun _ => ?_) (fun _ => ?_)) | (with_reducible refine condS_i (fun _ => ?_) (fun _ => ?_)) | (with_reducible refine drw_i (by kernel_rfl)) | simp -dsimp only [go_sem, seval, *, encV, encG, encP, hkI, hr, hy, undef] | ((with_reducible refine opK_c ?_); simp -dsimp only [go_sem, seval, encV, encG, encP, hkI, hr, hy, undef]; first | refine callK_r (by first | assumption | exact hw | exact hrt) (by first | exact .inl rfl | exact .inr rfl) ?_ | (refine callK_i (by assumption) ?_ ?_ ?_; (solve | (repeat (first | exact DLe.refl _ | exact DLe.nil _ | (refine DLe.tup ?_) | (refine DLe.agg ?_ rfl) | exact trivial | (refine And.intro ?_ ?_)))); (solve | exact .inl rfl | exact .inr rfl))) | fail | omega | exact decide_eq_true (by omega) | exact DLe.refl _)
        all_goals exact DLe.refl _
    | true =>
      rw [b2] at hrb
      obtain ⟨b3, b4⟩ := Bool.and_eq_true_iff.1 hrb.symm
      rw [b3] at hw
      rw [b4] at hrt
      clear hrb
      replace b3 := Lib.hid b3
      replace b4 := Lib.hid b4
      cases b5 : y.at_.meets r.at_ with
      | true =>
        rw [b5] at hme
        repeat' (first | (with_reducible refine And.intro ?_ ?_) | (with_reducible refine gK_i (fun _ => ?_) (fun _ => ?_)) | (with_reducible refine condS_i (fun _ => ?_) (fun _ => ?_)) | (with_reducible refine drw_i (by kernel_rfl)) | simp -dsimp only [go_sem, seval, *, encV, encG, encP, hkI, hwm, hr, hy, undef] | ((with_reducible refine opK_c ?_); simp -dsimp only [go_sem, seval, encV, encG, encP, hkI, hwm, hr, hy, undef]; first | refine callK_r (by first | assumption | exact hw | exact hrt | exact hme) (by first | exact .inl rfl | exact .inr rfl) ?_ | (refine callK_i (by assumption) ?_ ?_ ?_; (solve | (repeat (first | exact DLe.refl _ | exact DLe.nil _ | (refine DLe.tup ?_) | (refine DLe.agg ?_ rfl) | exact trivial | (refine And.intro ?_ ?_)))); (solve | exact .inl rfl | exact .inr rfl))) | fail | omega | exact decide_eq_true (by omega) | exact DLe.refl _)
        all_goals first
          | (exact dle_n (hbm.out (by clear hw hC hrt hme; grind)).symm)
          | (refine hC _ _ _ _ _ ?_ ⟨k + 1, hlt, no_snoc hr hall.out b2, adj_step hr hadj.out (fun x h0 hx => ?_), rfl, rfl, rfl⟩ (weak_forget _ (by simp) (by (try simp only [encV]); rfl) (by (repeat' (first | exact trivial | (refine ⟨rfl, ?_⟩)))) (by first | rfl | simp only [belowH, belowE, belowC, belowL, belowR, belowP, belowL_d, belowR_d, List.length_cons, List.length_nil, Nat.reduceAdd, Nat.reduceLT, decide_true, Bool.and_self, Bool.and_true]) (by first | rfl | simp only [belowH, belowE, belowC, belowL, belowR, belowP, belowL_d, belowR_d, List.length_cons, List.length_nil, Nat.reduceAdd, Nat.reduceLT, decide_true, Bool.and_self, Bool.and_true]))
             · have := hm0.out; omega
             · exfalso; clear hw hC hrt hme; grind)
      | false =>
        rw [b5] at hme
        repeat' (first | (with_reducible refine And.intro ?_ ?_) | (with_reducible refine gK_i (fun _ => ?_) (fun _ => ?_)) | (with_reducible refine condS_i (fun _ => ?_) (fun _ => ?_)) | (with_reducible refine drw_i (by kernel_rfl)) | simp -dsimp only [go_sem, seval, *, encV, encG, encP, hkI, hwr, hwm, hr, hy, undef] | ((with_reducible refine opK_c ?_); simp -dsimp only [go_sem, seval, encV, encG, encP, hkI, hwr, hwm, hr, hy, undef]; first | refine callK_r (by first | assumption | exact hw | exact hrt | exact hme) (by first | exact .inl rfl | exact .inr rfl) ?_ | (refine callK_i (by assumption) ?_ ?_ ?_; (solve | (repeat (first | exact DLe.refl _ | exact DLe.nil _ | (refine DLe.tup ?_) | (refine DLe.agg ?_ rfl) | exact trivial | (refine And.intro ?_ ?_)))); (solve | exact .inl rfl | exact .inr rfl))) | fail | omega | exact decide_eq_true (by omega) | exact DLe.refl _)
        all_goals first
          | (exact dle_n (hbr.out (by clear hw hC hrt hme; grind)).symm)
          | (refine hC _ _ _ _ _ ?_ ⟨k + 1, hlt, no_snoc hr hall.out b2, adj_step hr hadj.out (fun x h0 hx => ?_), rfl, rfl, rfl⟩ (weak_forget _ (by simp) (by (try simp only [encV]); rfl) (by (repeat' (first | exact trivial | (refine ⟨rfl, ?_⟩)))) (by first | rfl | simp only [belowH, belowE, belowC, belowL, belowR, belowP, belowL_d, belowR_d, List.length_cons, List.length_nil, Nat.reduceAdd, Nat.reduceLT, decide_true, Bool.and_self, Bool.and_true]) (by first | rfl | simp only [belowH, belowE, belowC, belowL, belowR, belowP, belowL_d, belowR_d, List.length_cons, List.length_nil, Nat.reduceAdd, Nat.reduceLT, decide_true, Bool.and_self, Bool.and_true]))
             · have := hm0.out; omega
             · rw [hy] at hx
               rw [← Option.some.inj hx]
               exact ⟨by clear hw hC hrt hme; grind, b5⟩)
  · obtain rfl : k = v.ranges.length := by omega
    have hall := hall.out
    rw [List.take_length] at hall
    have hadj2 := Lib.hid (fun j hj => hadj.out j hj (by omega))
    replace hall := Lib.hid hall
    clear hadj
    repeat' (first | (with_reducible refine And.intro ?_ ?_) | (with_reducible refine gK_i (fun _ => ?_) (fun _ => ?_)) | (with_reducible refine condS_i (fun _ => ?_) (fun _ => ?_)) | (with_reducible refine drw_i (by kernel_rfl)) | simp -dsimp only [go_sem, seval, *, encV, Int.lt_irrefl, undef] | ((with_reducible refine opK_c ?_); simp -dsimp only [go_sem, seval, encV, Int.lt_irrefl, undef]; first | refine callK_r (by first | assumption | fail) (by first | exact .inl rfl | exact .inr rfl) ?_ | (refine callK_i (by assumption) ?_ ?_ ?_; (solve | (repeat (first | exact DLe.refl _ | exact DLe.nil _ | (refine DLe.tup ?_) | (refine DLe.agg ?_ rfl) | exact trivial | (refine And.intro ?_ ?_)))); (solve | exact .inl rfl | exact .inr rfl))) | fail | omega | exact decide_eq_true (by omega) | exact DLe.refl _)
    refine loopG tab_ok mixed (fun m e h => ∃ (k : Nat), k ≤ v.subs.length ∧ (v.subs.take k).all (subB v) = true ∧ (∀ j (h : j + 1 < v.subs.length), j + 1 < k → v.subs[j].id < v.subs[j + 1].id) ∧ (∀ (i j : Nat) (x y : Sbn), i < j → j < k → v.subs[i]? = some x → v.subs[j]? = some y → x.at_.meets y.at_ = false) ∧ m = v.subs.length - k ∧ e = [(5, .d (.v (.int .i64 k))), (2, .d (.v (.int .i64 0))), (1, .ptr 0 0)] ∧
      h = [.box 56 ((encV v).map .d)]) _ _ _ ⟨0, Nat.zero_le _, rfl, fun j h h1 => by omega, fun i j x y h1 h2 => by omega, rfl, rfl, rfl⟩ (weak_forget _ (by simp) (by (try simp only [encV]); rfl) (by (repeat' (first | exact trivial | (refine ⟨rfl, ?_⟩)))) (by first | rfl | simp only [belowH, belowE, belowC, belowL, belowR, belowP, belowL_d, belowR_d, List.length_cons, List.length_nil, Nat.reduceAdd, Nat.reduceLT, decide_true, Bool.and_self, Bool.and_true]) (by first | rfl | simp only [belowH, belowE, belowC, belowL, belowR, belowP, belowL_d, belowR_d, List.length_cons, List.length_nil, Nat.reduceAdd, Nat.reduceLT, decide_true, Bool.and_self, Bool.and_true])) ?_
    rintro m2 e h ⟨k, hk2, hal2, hris, hmt, hm2, rfl, rfl⟩ C2 hC2
    replace hm2 := Lib.hid hm2
    replace hal2 := Lib.hid hal2
    replace hris := Lib.hid hris
    replace hmt := Lib.hid hmt
    by_cases hls : k < v.subs.length
    · have hkI : (k : Int) < (v.subs.length : Int) := by omega
      have hwr : IntKind.i64.wrap ((k : Int) + 1) = ((k + 1 : Nat) : Int) := by rw [IntKind.wrap_i64]; omega
      have hwm : decide ((k : Int) > 0) = true → IntKind.i64.wrap ((k : Int) - 1) = ((k - 1 : Nat) : Int) := fun h => by have := of_decide_eq_true h; rw [IntKind.wrap_i64]; omega
      obtain ⟨s, hs⟩ : ∃ s, v.subs[k]? = some s := ⟨_, List.getElem?_eq_getElem hls⟩
      obtain ⟨y, hy⟩ : ∃ y, v.subs[k - 1]? = some y := ⟨_, List.getElem?_eq_getElem (by omega)⟩
      have hsm := List.mem_of_getElem? hs
      have hw : PSpec Tryz.prog 34 [.v (.int .i64 s.id), .v (.int .i64 1), .v (.int .i64 65536)] (.v (.bool (idOK s.id))) := withinR_p _ _ _
      have hir := inRange_p v s.at_ (by omega)
      have hff := facesFine_p s (h8.out s hsm).1 (h8.out s hsm).2
      have hsb : subB v s = (idOK s.id && (holdsV v s.at_ && facesB s)) := rfl
      have hbad : subB v s = false → R = 1 := fun h => by rw [hR.out]; exact hone.out (.inl (fineV_bad (.inr (.inr (.inr (.inr (all_bad hsm h)))))))
      have hbr : 0 < k ∧ y.id ≥ s.id → R = 1 := fun h => by rw [hR.out]; exact hone.out (.inl (fineV_bad (.inr (.inr (.inl (risB_bad (key := fun s : Sbn => s.id) h.1 hy hs h.2))))))
      have hbm : ∀ (j : Nat) (x : Sbn), j < k → v.subs[j]? = some x → x.at_.meets s.at_ = true → R = 1 := fun j x hj hx h => by
        rw [hR.out]
        exact hone.out (.inr (.inr (apaF_bad (i := j) (j := k) hj (by rw [List.getElem?_map, hx]; rfl) (by rw [List.getElem?_map, hs]; rfl) h)))
      replace hbad := Lib.hid hbad
      replace hbr := Lib.hid hbr
      replace hbm := Lib.hid hbm
      replace hsb := Lib.hid hsb
      cases b3 : idOK s.id with
      | false =>
        have h1 : R = 1 := hbad.out (by rw [hsb.out, b3]; rfl)
        rw [h1]
        replace h1 := Lib.hid h1
        rw [b3] at hw
        repeat' (first | (with_reducible refine And.intro ?_ ?_) | (with_reducible refine gK_i (fun _ => ?_) (fun _ => ?_)) | (with_reducible refine condS_i (fun _ => ?_) (fun _ => ?_)) | (with_reducible refine drw_i (by kernel_rfl)) | simp -dsimp only [go_sem, seval, *, encV, encN, encP, hkI, hs, hy, undef] | ((with_reducible refine opK_c ?_); simp -dsimp only [go_sem, seval, encV, encN, encP, hkI, hs, hy, undef]; first | refine callK_r (by first | assumption | exact hw) (by first | exact .inl rfl | exact .inr rfl) ?_ | (refine callK_i (by assumption) ?_ ?_ ?_; (solve | (repeat (first | exact DLe.refl _ | exact DLe.nil _ | (refine DLe.tup ?_) | (refine DLe.agg ?_ rfl) | exact trivial | (refine And.intro ?_ ?_)))); (solve | exact .inl rfl | exact .inr rfl))) | fail | omega | exact decide_eq_true (by omega) | exact DLe.refl _)
        all_goals exact DLe.refl _
      | true =>
        rw [b3] at hw
        cases b4 : holdsV v s.at_ with
        | false =>
          have h1 : R = 1 := hbad.out (by rw [hsb.out, b3, b4]; rfl)
          rw [h1]
          replace h1 := Lib.hid h1
          rw [b4] at hir
          repeat' (first | (with_reducible refine And.intro ?_ ?_) | (with_reducible refine gK_i (fun _ => ?_) (fun _ => ?_)) | (with_reducible refine condS_i (fun _ => ?_) (fun _ => ?_)) | (with_reducible refine drw_i (by kernel_rfl)) | simp -dsimp only [go_sem, seval, *, encV, encN, encP, hkI, hs, hy, undef] | ((with_reducible refine opK_c ?_); simp -dsimp only [go_sem, seval, encV, encN, encP, hkI, hs, hy, undef]; first | refine callK_r (by first | assumption | exact hw | exact hir) (by first | exact .inl rfl | exact .inr rfl) ?_ | (refine callK_i (by assumption) ?_ ?_ ?_; (solve | (repeat (first | exact DLe.refl _ | exact DLe.nil _ | (refine DLe.tup ?_) | (refine DLe.agg ?_ rfl) | exact trivial | (refine And.intro ?_ ?_)))); (solve | exact .inl rfl | exact .inr rfl))) | fail | omega | exact decide_eq_true (by omega) | exact DLe.refl _)
          all_goals exact DLe.refl _
        | true =>
          rw [b4] at hir
          cases b5 : facesB s with
          | false =>
            have h1 : R = 1 := hbad.out (by rw [hsb.out, b3, b4, b5]; rfl)
            rw [h1]
            replace h1 := Lib.hid h1
            rw [b5] at hff
            repeat' (first | (with_reducible refine And.intro ?_ ?_) | (with_reducible refine gK_i (fun _ => ?_) (fun _ => ?_)) | (with_reducible refine condS_i (fun _ => ?_) (fun _ => ?_)) | (with_reducible refine drw_i (by kernel_rfl)) | simp -dsimp only [go_sem, seval, *, encV, encN, encP, hkI, hwm, hs, hy, undef] | ((with_reducible refine opK_c ?_); simp -dsimp only [go_sem, seval, encV, encN, encP, hkI, hwm, hs, hy, undef]; first | refine callK_r (by first | assumption | exact hw | exact hir | exact hff) (by first | exact .inl rfl | exact .inr rfl) ?_ | (refine callK_i (by assumption) ?_ ?_ ?_; (solve | (repeat (first | exact DLe.refl _ | exact DLe.nil _ | (refine DLe.tup ?_) | (refine DLe.agg ?_ rfl) | exact trivial | (refine And.intro ?_ ?_)))); (solve | exact .inl rfl | exact .inr rfl))) | fail | omega | exact decide_eq_true (by omega) | exact DLe.refl _)
            all_goals exact DLe.refl _
          | true =>
            rw [b5] at hff
            have b6 : subB v s = true := by rw [hsb.out, b3, b4, b5]; rfl
            replace b6 := Lib.hid b6
            repeat' (first | (with_reducible refine And.intro ?_ ?_) | (with_reducible refine gK_i (fun _ => ?_) (fun _ => ?_)) | (with_reducible refine condS_i (fun _ => ?_) (fun _ => ?_)) | (with_reducible refine drw_i (by kernel_rfl)) | simp -dsimp only [go_sem, seval, *, encV, encN, encP, hkI, hwm, hs, hy, undef] | ((with_reducible refine opK_c ?_); simp -dsimp only [go_sem, seval, encV, encN, encP, hkI, hwm, hs, hy, undef]; first | refine callK_r (by first | assumption | exact hw | exact hir | exact hff) (by first | exact .inl rfl | exact .inr rfl) ?_ | (refine callK_i (by assumption) ?_ ?_ ?_; (solve | (repeat (first | exact DLe.refl _ | exact DLe.nil _ | (refine DLe.tup ?_) | (refine DLe.agg ?_ rfl) | exact trivial | (refine And.intro ?_ ?_)))); (solve | exact .inl rfl | exact .inr rfl))) | fail | omega | exact decide_eq_true (by omega) | exact DLe.refl _)
            all_goals first
              | (exact dle_n (hbr.out (by clear hw hC hC2 hir hff; grind)).symm)
              | skip
            all_goals
              have hst : 0 < k → y.id < s.id := by clear hw hC hC2 hir hff; grind
              replace hst := Lib.hid hst
              refine loopN tab_ok mixed k (fun j => ∀ (i : Nat) (x : Sbn), i < j → v.subs[i]? = some x → x.at_.meets s.at_ = false) (fun j => [(7, .d (.v (.int .i64 j))), (6, .ptr 1 0), (5, .d (.v (.int .i64 k))), (2, .d (.v (.int .i64 0))), (1, .ptr 0 0)]) (fun _ => [.box 56 ((encV v).map .d), .box 86 ((encN s).map .d)]) (fun i x h => absurd h (Nat.not_lt_zero _)) (weak_forget _ (by simp) (by (try simp only [encV, encN]); rfl) (by (repeat' (first | exact trivial | (refine ⟨rfl, ?_⟩)))) (by first | rfl | simp only [belowH, belowE, belowC, belowL, belowR, belowP, belowL_d, belowR_d, List.length_cons, List.length_nil, Nat.reduceAdd, Nat.reduceLT, decide_true, Bool.and_self, Bool.and_true]) (by first | rfl | simp only [belowH, belowE, belowC, belowL, belowR, belowP, belowL_d, belowR_d, List.length_cons, List.length_nil, Nat.reduceAdd, Nat.reduceLT, decide_true, Bool.and_self, Bool.and_true])) ?_ ?_
              · intro j hjk hJ C3 hC3
                have hjI : (j : Int) < (k : Int) := by omega
                have hwj : IntKind.i64.wrap ((j : Int) + 1) = ((j + 1 : Nat) : Int) := by rw [IntKind.wrap_i64]; omega
                obtain ⟨x, hx⟩ : ∃ x, v.subs[j]? = some x := ⟨_, List.getElem?_eq_getElem (by omega)⟩
                have hme := meet_p x.at_ s.at_
                rw [meetB_eq] at hme
                cases b7 : x.at_.meets s.at_ with
                | true =>
                  have h1 : R = 1 := hbm.out j x hjk hx b7
                  rw [h1]
                  replace h1 := Lib.hid h1
                  replace hJ := Lib.hid hJ
                  rw [b7] at hme
                  repeat' (first | (with_reducible refine And.intro ?_ ?_) | (with_reducible refine gK_i (fun _ => ?_) (fun _ => ?_)) | (with_reducible refine condS_i (fun _ => ?_) (fun _ => ?_)) | (with_reducible refine drw_i (by kernel_rfl)) | simp -dsimp only [go_sem, seval, *, encV, encN, encP, hjI, hx, undef] | ((with_reducible refine opK_c ?_); simp -dsimp only [go_sem, seval, encV, encN, encP, hjI, hx, undef]; first | refine callK_r (by first | assumption | exact hme) (by first | exact .inl rfl | exact .inr rfl) ?_ | (refine callK_i (by assumption) ?_ ?_ ?_; (solve | (repeat (first | exact DLe.refl _ | exact DLe.nil _ | (refine DLe.tup ?_) | (refine DLe.agg ?_ rfl) | exact trivial | (refine And.intro ?_ ?_)))); (solve | exact .inl rfl | exact .inr rfl))) | fail | omega | exact decide_eq_true (by omega) | exact DLe.refl _)
                  all_goals exact DLe.refl _
                | false =>
                  have hJ2 : ∀ (i : Nat) (x : Sbn), i < j + 1 → v.subs[i]? = some x → x.at_.meets s.at_ = false := by
                    intro i x' hi hx'
                    rcases Nat.lt_or_ge i j with h | h
                    · exact hJ i x' h hx'
                    · obtain rfl : i = j := by omega
                      rw [hx] at hx'
                      rw [← Option.some.inj hx']; exact b7
                  replace hJ2 := Lib.hid hJ2
                  replace hJ := Lib.hid hJ
                  rw [b7] at hme
                  repeat' (first | (with_reducible refine And.intro ?_ ?_) | (with_reducible refine gK_i (fun _ => ?_) (fun _ => ?_)) | (with_reducible refine condS_i (fun _ => ?_) (fun _ => ?_)) | (with_reducible refine drw_i (by kernel_rfl)) | simp -dsimp only [go_sem, seval, *, encV, encN, encP, hjI, hwj, hx, undef] | ((with_reducible refine opK_c ?_); simp -dsimp only [go_sem, seval, encV, encN, encP, hjI, hwj, hx, undef]; first | refine callK_r (by first | assumption | exact hme) (by first | exact .inl rfl | exact .inr rfl) ?_ | (refine callK_i (by assumption) ?_ ?_ ?_; (solve | (repeat (first | exact DLe.refl _ | exact DLe.nil _ | (refine DLe.tup ?_) | (refine DLe.agg ?_ rfl) | exact trivial | (refine And.intro ?_ ?_)))); (solve | exact .inl rfl | exact .inr rfl))) | fail | omega | exact decide_eq_true (by omega) | exact DLe.refl _)
                  exact hC3 _ _ hJ2.out (weak_forget _ (by simp) (by (try simp only [encV, encN]); rfl) (by (repeat' (first | exact trivial | (refine ⟨rfl, ?_⟩)))) (by first | rfl | simp only [belowH, belowE, belowC, belowL, belowR, belowP, belowL_d, belowR_d, List.length_cons, List.length_nil, Nat.reduceAdd, Nat.reduceLT, decide_true, Bool.and_self, Bool.and_true]) (by first | rfl | simp only [belowH, belowE, belowC, belowL, belowR, belowP, belowL_d, belowR_d, List.length_cons, List.length_nil, Nat.reduceAdd, Nat.reduceLT, decide_true, Bool.and_self, Bool.and_true]))
              · intro hJ C3
                replace hJ := Lib.hid hJ
                repeat' (first | (with_reducible refine And.intro ?_ ?_) | (with_reducible refine gK_i (fun _ => ?_) (fun _ => ?_)) | (with_reducible refine condS_i (fun _ => ?_) (fun _ => ?_)) | (with_reducible refine drw_i (by kernel_rfl)) | simp -dsimp only [go_sem, seval, *, encV, encN, hwr, Int.lt_irrefl, undef] | ((with_reducible refine opK_c ?_); simp -dsimp only [go_sem, seval, encV, encN, hwr, Int.lt_irrefl, undef]; first | refine callK_r (by first | assumption | fail) (by first | exact .inl rfl | exact .inr rfl) ?_ | (refine callK_i (by assumption) ?_ ?_ ?_; (solve | (repeat (first | exact DLe.refl _ | exact DLe.nil _ | (refine DLe.tup ?_) | (refine DLe.agg ?_ rfl) | exact trivial | (refine And.intro ?_ ?_)))); (solve | exact .inl rfl | exact .inr rfl))) | fail | omega | exact decide_eq_true (by omega) | exact DLe.refl _)
                refine hC2 _ _ _ _ _ ?_ ⟨k + 1, hls, no_snoc hs hal2.out b6.out, ris_step (key := fun s : Sbn => s.id) hs hris.out (fun x h0 hx => by rw [hy] at hx; rw [← Option.some.inj hx]; exact hst.out h0), fun i j x z h1 h2 hx hz => ?_, rfl, rfl, rfl⟩ (weak_forget _ (by simp) (by (try simp only [encV]); rfl) (by (repeat' (first | exact trivial | (refine ⟨rfl, ?_⟩)))) (by first | rfl | simp only [belowH, belowE, belowC, belowL, belowR, belowP, belowL_d, belowR_d, List.length_cons, List.length_nil, Nat.reduceAdd, Nat.reduceLT, decide_true, Bool.and_self, Bool.and_true]) (by first | rfl | simp only [belowH, belowE, belowC, belowL, belowR, belowP, belowL_d, belowR_d, List.length_cons, List.length_nil, Nat.reduceAdd, Nat.reduceLT, decide_true, Bool.and_self, Bool.and_true]))
                · have := hm2.out; omega
                · rcases Nat.lt_or_ge j k with h | h
                  · exact hmt.out i j x z h1 h hx hz
                  · obtain rfl : j = k := by omega
                    rw [hs] at hz
                    rw [← Option.some.inj hz]
                    exact hJ.out i x h1 hx
    · obtain rfl : k = v.subs.length := by omega
      have h1 : R = 0 := by
        have hal2 := hal2.out
        rw [List.take_length] at hal2
        rw [hR.out]
        refine hzero.out b1 hall.out hadj2.out hal2 (fun j hj => hris.out j hj (by omega)) (fun i j x y hij hx hy => hmt.out i j x y hij ?_ hx hy)
        exact (List.getElem?_eq_some_iff.1 hy).1
      rw [h1]
      replace h1 := Lib.hid h1
      repeat' (first | (with_reducible refine And.intro ?_ ?_) | (with_reducible refine gK_i (fun _ => ?_) (fun _ => ?_)) | (with_reducible refine condS_i (fun _ => ?_) (fun _ => ?_)) | (with_reducible refine drw_i (by kernel_rfl)) | simp -dsimp only [go_sem, seval, *, encV, Int.lt_irrefl, undef] | ((with_reducible refine opK_c ?_); simp -dsimp only [go_sem, seval, encV, Int.lt_irrefl, undef]; first | refine callK_r (by first | assumption | fail) (by first | exact .inl rfl | exact .inr rfl) ?_ | (refine callK_i (by assumption) ?_ ?_ ?_; (solve | (repeat (first | exact DLe.refl _ | exact DLe.nil _ | (refine DLe.tup ?_) | (refine DLe.agg ?_ rfl) | exact trivial | (refine And.intro ?_ ?_)))); (solve | exact .inl rfl | exact .inr rfl))) | fail | omega | exact decide_eq_true (by omega) | exact DLe.refl _)
      all_goals exact DLe.refl _
end Go.Proofs.YtgmbhaclogabeaaGreat
namespace Go.Proofs.YtgmbhaclogabeaaGreat
open Go Go.RowKit
set_option maxRecDepth 100000 in
set_option maxHeartbeats 2000000 in
theorem ownD_m (v : Vpc) (h4 : v.ranges.length ≤ 4) (h6 : v.subs.length ≤ 6) (h8 : ∀ s ∈ v.subs, s.faces.length ≤ 8 ∧ ∀ f ∈ s.faces, f.addrs.length ≤ 4) :
    MSpec Tryz.prog 67 [.d (.agg (encV v))] [] (.agg [.d (.v (.int .i64 v.id)), .own 2 1, .own 4 v.subs.length]) [.gone, .gone, .row 29 3 1 (dRows (v.ranges.map encG)), .gone, .row 86 4 v.subs.length (dRows (v.subs.map encN))] := by
  replace h8 := Lib.hid h8
  refine ms_i tab_ok mixed Tryz.func67 rfl Tryz.ntmps67 Tryz.results67 (by kernel_rfl) (by simp) (by simp [belowL, belowP]) (by simp [belowH, belowC, belowL, belowP, belowL_d, belowR_d]) ?_
  repeat' (first | (with_reducible refine And.intro ?_ ?_) | (with_reducible refine gK_i (fun _ => ?_) (fun _ => ?_)) | (with_reducible refine condS_i (fun _ => ?_) (fun _ => ?_)) | (with_reducible refine drw_i (by kernel_rfl)) | simp -dsimp only [go_sem, seval, *, encV] | ((with_reducible refine opK_c ?_); simp -dsimp only [go_sem, seval, encV]; first | refine callK_r (by first | assumption | fail) (by first | exact .inl rfl | exact .inr rfl) ?_ | (refine callK_i (by assumption) ?_ ?_ ?_; (solve | (repeat (first | exact DLe.refl _ | exact DLe.nil _ | (refine DLe.tup ?_) | (refine DLe.agg ?_ rfl) | exact trivial | (refine And.intro ?_ ?_)))); (solve | exact .inl rfl | exact .inr rfl))) | fail | omega | exact decide_eq_true (by omega) | exact DLe.refl _)
  refine loopL tab_ok mixed v.subs (fun _ => True) (fun k => [(4, .d (.v (.int .i64 k))), (3, .ptr 3 0), (2, .ptr 1 0), (1, .ptr 0 0)]) (fun k => [.box 56 ((encV v).map .d), .box 56 [.d (.v (.int .i64 0)), .d (.v (.slice none 0 0)), .d (.v (.slice none 0 0))], .row 29 3 1 (dRows (v.ranges.map encG)), .box 56 [.d (.v (.int .i64 v.id)), .own 2 1, .own 4 k], .row 86 4 k (dRows ((v.subs.take k).map encN))]) trivial ?_ ?_ ?_
  · refine (weak_adopt_box (by simp) 3 56 [.d (.v (.int .i64 v.id)), .own 2 1, .d (.v (.slice none 0 0))] 2 86 4 rfl rfl rfl).trans ?_
    exact weak_forget _ (by simp) (by rfl) (by (repeat' (first | exact trivial | (refine ⟨rfl, ?_⟩)))) (by first | rfl | simp only [belowH, belowE, belowC, belowL, belowR, belowP, belowL_d, belowR_d, belowR_zipG, subRow, faceRow, List.length_cons, List.length_nil, Nat.reduceAdd, Nat.reduceLT, decide_true, Bool.and_self, Bool.and_true]) (by first | rfl | simp only [belowH, belowE, belowC, belowL, belowR, belowP, belowL_d, belowR_d, belowR_zipG, subRow, faceRow, List.length_cons, List.length_nil, Nat.reduceAdd, Nat.reduceLT, decide_true, Bool.and_self, Bool.and_true])
  · intro k s hs hk _ CO hCO
    have hkI : (k : Int) < (v.subs.length : Int) := by omega
    have hwr : IntKind.i64.wrap ((k : Int) + 1) = ((k + 1 : Nat) : Int) := by rw [IntKind.wrap_i64]; omega
    have h8s := h8.out s (List.mem_of_getElem? hs)
    have hb1 : k + 1 ≤ 100 := by omega
    have hlk : (List.take k v.subs).length = k := by rw [List.length_take]; omega
    replace hs := Lib.hid hs
    have hs1 := hs.out
    repeat' (first | (with_reducible refine And.intro ?_ ?_) | (with_reducible refine gK_i (fun _ => ?_) (fun _ => ?_)) | (with_reducible refine condS_i (fun _ => ?_) (fun _ => ?_)) | (with_reducible refine drw_i (by kernel_rfl)) | simp -dsimp only [go_sem, seval, *, encV, encN, hkI, hs1] | ((with_reducible refine opK_c ?_); simp -dsimp only [go_sem, seval, encV, encN, hkI, hs1]; first | refine callK_r (by first | assumption | fail) (by first | exact .inl rfl | exact .inr rfl) ?_ | (refine callK_i (by assumption) ?_ ?_ ?_; (solve | (repeat (first | exact DLe.refl _ | exact DLe.nil _ | (refine DLe.tup ?_) | (refine DLe.agg ?_ rfl) | exact trivial | (refine And.intro ?_ ?_)))); (solve | exact .inl rfl | exact .inr rfl))) | fail | omega | exact decide_eq_true (by omega) | exact DLe.refl _)
    refine loopL tab_ok mixed s.faces (fun _ => True) (fun j => [(6, .d (.v (.int .i64 j))), (5, .ptr 5 0), (4, .d (.v (.int .i64 k))), (3, .ptr 3 0), (2, .ptr 1 0), (1, .ptr 0 0)])
      (fun j => [.box 56 ((encV v).map .d), .box 56 [.d (.v (.int .i64 0)), .d (.v (.slice none 0 0)), .d (.v (.slice none 0 0))], .row 29 3 1 (dRows (v.ranges.map encG)), .box 56 [.d (.v (.int .i64 v.id)), .own 2 1, .own 4 k], .row 86 4 k (dRows ((v.subs.take k).map encN)), .box 86 [.d (.v (.int .i64 s.id)), .d (.v (.int .i64 s.at_.at_)), .d (.v (.int .i64 s.at_.len)), .own 6 j], .row 88 2 j (dRows ((s.faces.take j).map encF))]) trivial ?_ ?_ ?_
    · refine (weak_adopt_box (by simp) 5 86 [.d (.v (.int .i64 s.id)), .d (.v (.int .i64 s.at_.at_)), .d (.v (.int .i64 s.at_.len)), .d (.v (.slice none 0 0))] 3 88 2 rfl rfl rfl).trans ?_
      exact weak_forget _ (by simp) (by rfl) (by (repeat' (first | exact trivial | (refine ⟨rfl, ?_⟩)))) (by first | rfl | simp only [belowH, belowE, belowC, belowL, belowR, belowP, belowL_d, belowR_d, belowR_zipG, subRow, faceRow, List.length_cons, List.length_nil, Nat.reduceAdd, Nat.reduceLT, decide_true, Bool.and_self, Bool.and_true]) (by first | rfl | simp only [belowH, belowE, belowC, belowL, belowR, belowP, belowL_d, belowR_d, belowR_zipG, subRow, faceRow, List.length_cons, List.length_nil, Nat.reduceAdd, Nat.reduceLT, decide_true, Bool.and_self, Bool.and_true])
    · intro j f hf hj _ C hC
      have hjI : (j : Int) < (s.faces.length : Int) := by omega
      have hwj : IntKind.i64.wrap ((j : Int) + 1) = ((j + 1 : Nat) : Int) := by rw [IntKind.wrap_i64]; omega
      have hfl := h8s.2 f (List.mem_of_getElem? hf)
      have hb2 : j + 1 ≤ 100 := by omega
      have hlj : (List.take j s.faces).length = j := by rw [List.length_take]; omega
      replace hf := Lib.hid hf
      have hf1 := hf.out
      repeat' (first | (with_reducible refine And.intro ?_ ?_) | (with_reducible refine gK_i (fun _ => ?_) (fun _ => ?_)) | (with_reducible refine condS_i (fun _ => ?_) (fun _ => ?_)) | (with_reducible refine drw_i (by kernel_rfl)) | simp -dsimp only [go_sem, seval, *, encV, encN, encF, hkI, hs1, hjI, hwj, hf1, hb2, hlj, renR_zipG, zipG_len] | ((with_reducible refine opK_c ?_); simp -dsimp only [go_sem, seval, encV, encN, encF, hkI, hs1, hjI, hwj, hf1, hb2, hlj, renR_zipG, zipG_len]; first | refine callK_r (by first | assumption | fail) (by first | exact .inl rfl | exact .inr rfl) ?_ | (refine callK_i (by assumption) ?_ ?_ ?_; (solve | (repeat (first | exact DLe.refl _ | exact DLe.nil _ | (refine DLe.tup ?_) | (refine DLe.agg ?_ rfl) | exact trivial | (refine And.intro ?_ ?_)))); (solve | exact .inl rfl | exact .inr rfl))) | fail | omega | exact decide_eq_true (by omega) | exact DLe.refl _)
      refine hC _ _ trivial ((weak_freeze 8 1 3 1 (f.addrs.map encA) rfl).trans ?_)
      simp only [fzE, fz, fzL, fzH, fzC, fzR, fzR_app, fzR_d, fzL_d, List.map_cons, List.map_nil, Nat.reduceAdd, Nat.reduceEqDiff, reduceIte, and_true, true_and, and_self, and_false, false_and, Nat.zero_add, Nat.add_zero, reduceCtorEq, fzR_zipG]
      exact weak_forget _ (by simp) (by rw [take_snoc hf.out, List.map_append, List.map_cons, List.map_nil, ← dRows_app]; rfl) (by (repeat' (first | exact trivial | (refine ⟨rfl, ?_⟩)))) (by first | rfl | simp only [belowH, belowE, belowC, belowL, belowR, belowP, belowL_d, belowR_d, belowR_zipG, subRow, faceRow, List.length_cons, List.length_nil, Nat.reduceAdd, Nat.reduceLT, decide_true, Bool.and_self, Bool.and_true]) (by first | rfl | simp only [belowH, belowE, belowC, belowL, belowR, belowP, belowL_d, belowR_d, belowR_zipG, subRow, faceRow, List.length_cons, List.length_nil, Nat.reduceAdd, Nat.reduceLT, decide_true, Bool.and_self, Bool.and_true])
    · intro _ C
      repeat' (first | (with_reducible refine And.intro ?_ ?_) | (with_reducible refine gK_i (fun _ => ?_) (fun _ => ?_)) | (with_reducible refine condS_i (fun _ => ?_) (fun _ => ?_)) | (with_reducible refine drw_i (by kernel_rfl)) | simp -dsimp only [go_sem, seval, *, encV, encN, hkI, hs1, hwr, hb1, hlk, Int.lt_irrefl, List.take_length] | ((with_reducible refine opK_c ?_); simp -dsimp only [go_sem, seval, encV, encN, hkI, hs1, hwr, hb1, hlk, Int.lt_irrefl, List.take_length]; first | refine callK_r (by first | assumption | fail) (by first | exact .inl rfl | exact .inr rfl) ?_ | (refine callK_i (by assumption) ?_ ?_ ?_; (solve | (repeat (first | exact DLe.refl _ | exact DLe.nil _ | (refine DLe.tup ?_) | (refine DLe.agg ?_ rfl) | exact trivial | (refine And.intro ?_ ?_)))); (solve | exact .inl rfl | exact .inr rfl))) | fail | omega | exact decide_eq_true (by omega) | exact DLe.refl _)
      refine hCO _ _ trivial ((weak_freeze 6 s.faces.length 88 2 (s.faces.map encF) rfl).trans ?_)
      simp only [fzE, fz, fzL, fzH, fzC, fzR, fzR_app, fzR_d, fzL_d, List.map_cons, List.map_nil, Nat.reduceAdd, Nat.reduceEqDiff, reduceIte, and_true, true_and, and_self, and_false, false_and, Nat.zero_add, Nat.add_zero, reduceCtorEq]
      exact weak_forget _ (by simp) (by rw [take_snoc hs.out, List.map_append, List.map_cons, List.map_nil, ← dRows_app]; rfl) (by (repeat' (first | exact trivial | (refine ⟨rfl, ?_⟩)))) (by first | rfl | simp only [belowH, belowE, belowC, belowL, belowR, belowP, belowL_d, belowR_d, belowR_zipG, subRow, faceRow, List.length_cons, List.length_nil, Nat.reduceAdd, Nat.reduceLT, decide_true, Bool.and_self, Bool.and_true]) (by first | rfl | simp only [belowH, belowE, belowC, belowL, belowR, belowP, belowL_d, belowR_d, belowR_zipG, subRow, faceRow, List.length_cons, List.length_nil, Nat.reduceAdd, Nat.reduceLT, decide_true, Bool.and_self, Bool.and_true])
  · intro _ C
    repeat' (first | (with_reducible refine And.intro ?_ ?_) | (with_reducible refine gK_i (fun _ => ?_) (fun _ => ?_)) | (with_reducible refine condS_i (fun _ => ?_) (fun _ => ?_)) | (with_reducible refine drw_i (by kernel_rfl)) | simp -dsimp only [go_sem, seval, *, encV, Int.lt_irrefl] | ((with_reducible refine opK_c ?_); simp -dsimp only [go_sem, seval, encV, Int.lt_irrefl]; first | refine callK_r (by first | assumption | fail) (by first | exact .inl rfl | exact .inr rfl) ?_ | (refine callK_i (by assumption) ?_ ?_ ?_; (solve | (repeat (first | exact DLe.refl _ | exact DLe.nil _ | (refine DLe.tup ?_) | (refine DLe.agg ?_ rfl) | exact trivial | (refine And.intro ?_ ?_)))); (solve | exact .inl rfl | exact .inr rfl))) | fail | omega | exact decide_eq_true (by omega) | exact DLe.refl _)
    rw [List.take_length]
    refine (weak_gone 0 (by simp)).trans ?_
    refine (weak_gone 1 (by simp [setC])).trans ?_
    exact (weak_gone 3 (by simp [setC])).trans (weak_eq rfl rfl)
end Go.Proofs.YtgmbhaclogabeaaGreat
namespace Go.Proofs.YtgmbhaclogabeaaGreat
open Go Go.RowKit
structure Lnk where
  a : Int
  b : Int
  deriving DecidableEq
structure Net where
  vpcs : List Vpc
  links : List Lnk
  deriving DecidableEq
def encK (l : Lnk) : List D := [.v (.int .i64 l.a), .v (.int .i64 l.b)]
def encT (n : Net) : List D := [.sl 3 (n.vpcs.map encV), .sl 2 (n.links.map encK)]
end Go.Proofs.YtgmbhaclogabeaaGreat
namespace Go.Proofs.YtgmbhaclogabeaaGreat
open Go Go.RowKit
/-- By n steps up from x one comes to r, which is above itself. -/
def HeadIs (ents : List (List Int × Int)) : Nat → Int → Int → Prop
  | 0, x, r => lkE ents [x] = some x ∧ r = x
  | n + 1, x, r => ∃ y, lkE ents [x] = some y ∧ y ≠ x ∧ HeadIs ents n y r
set_option maxRecDepth 100000 in
theorem head_m (ents : List (List Int × Int)) (n : Nat) (x r : Int) (h : HeadIs ents n x r) :
    MSpec Tryz.prog 24 [.mref 0, .d (.v (.int .i64 x))] [.mp 1 false ents] (.d (.v (.int .i64 r))) [.mp 1 false ents] := by
  refine ms_i tab_ok mixed Tryz.func24 rfl Tryz.ntmps24 Tryz.results24 (by kernel_rfl) (by simp) (by simp [belowL, belowP]) (by simp [belowH, belowC, belowL, belowP, belowL_d, belowR_d]) ?_
  repeat' (first | (with_reducible refine And.intro ?_ ?_) | (with_reducible refine gK_i (fun _ => ?_) (fun _ => ?_)) | (with_reducible refine condS_i (fun _ => ?_) (fun _ => ?_)) | (with_reducible refine drw_i (by kernel_rfl)) | simp -dsimp only [go_sem, seval, *, bne_self_eq_false] | ((with_reducible refine opK_c ?_); simp -dsimp only [go_sem, seval, bne_self_eq_false]; first | refine callK_r (by first | assumption | fail) (by first | exact .inl rfl | exact .inr rfl) ?_ | (refine callK_i (by assumption) ?_ ?_ ?_; (solve | (repeat (first | exact DLe.refl _ | exact DLe.nil _ | (refine DLe.tup ?_) | (refine DLe.agg ?_ rfl) | exact trivial | (refine And.intro ?_ ?_)))); (solve | exact .inl rfl | exact .inr rfl))) | fail | omega | exact decide_eq_true (by omega) | exact DLe.refl _)
  refine loopG tab_ok mixed (fun m e h => ∃ (y : Int), HeadIs ents m y r ∧ e = [(4, .d (.v (.int .i64 0))), (1, .d (.v (.int .i64 y))), (0, .mref 0)] ∧ h = [.mp 1 false ents]) _ _ _ ⟨x, h, rfl, rfl⟩ (weak_forget _ (by simp) (by (try simp only [encK]); rfl) (by (repeat' (first | exact trivial | (refine ⟨rfl, ?_⟩)))) (by first | rfl | simp only [belowH, belowE, belowC, belowL, belowR, belowP, belowL_d, belowR_d, List.length_cons, List.length_nil, Nat.reduceAdd, Nat.reduceLT, decide_true, Bool.and_self, Bool.and_true]) (by first | rfl | simp only [belowH, belowE, belowC, belowL, belowR, belowP, belowL_d, belowR_d, List.length_cons, List.length_nil, Nat.reduceAdd, Nat.reduceLT, decide_true, Bool.and_self, Bool.and_true])) ?_
  rintro m e h ⟨y, hy, rfl, rfl⟩ C hC
  cases m with
  | zero =>
    obtain ⟨h1, rfl⟩ := hy
    repeat' (first | (with_reducible refine And.intro ?_ ?_) | (with_reducible refine gK_i (fun _ => ?_) (fun _ => ?_)) | (with_reducible refine condS_i (fun _ => ?_) (fun _ => ?_)) | (with_reducible refine drw_i (by kernel_rfl)) | simp -dsimp only [go_sem, seval, *, h1, bne_self_eq_false, undef] | ((with_reducible refine opK_c ?_); simp -dsimp only [go_sem, seval, h1, bne_self_eq_false, undef]; first | refine callK_r (by first | assumption | fail) (by first | exact .inl rfl | exact .inr rfl) ?_ | (refine callK_i (by assumption) ?_ ?_ ?_; (solve | (repeat (first | exact DLe.refl _ | exact DLe.nil _ | (refine DLe.tup ?_) | (refine DLe.agg ?_ rfl) | exact trivial | (refine And.intro ?_ ?_)))); (solve | exact .inl rfl | exact .inr rfl))) | fail | omega | exact decide_eq_true (by omega) | exact DLe.refl _)
    all_goals exact weak_eq rfl rfl
  | succ m =>
    obtain ⟨z, h1, h2, h3⟩ := hy
    have hne : (z != y) = true := by simpa using h2
    replace h3 := Lib.hid h3
    replace h2 := Lib.hid h2
    repeat' (first | (with_reducible refine And.intro ?_ ?_) | (with_reducible refine gK_i (fun _ => ?_) (fun _ => ?_)) | (with_reducible refine condS_i (fun _ => ?_) (fun _ => ?_)) | (with_reducible refine drw_i (by kernel_rfl)) | simp -dsimp only [go_sem, seval, *, h1, hne, undef] | ((with_reducible refine opK_c ?_); simp -dsimp only [go_sem, seval, h1, hne, undef]; first | refine callK_r (by first | assumption | fail) (by first | exact .inl rfl | exact .inr rfl) ?_ | (refine callK_i (by assumption) ?_ ?_ ?_; (solve | (repeat (first | exact DLe.refl _ | exact DLe.nil _ | (refine DLe.tup ?_) | (refine DLe.agg ?_ rfl) | exact trivial | (refine And.intro ?_ ?_)))); (solve | exact .inl rfl | exact .inr rfl))) | fail | omega | exact decide_eq_true (by omega) | exact DLe.refl _)
    exact hC _ _ _ _ _ (Nat.lt_succ_self _) ⟨z, h3.out, rfl, rfl⟩ (weak_forget _ (by simp) (by (try simp only [encK]); rfl) (by (repeat' (first | exact trivial | (refine ⟨rfl, ?_⟩)))) (by first | rfl | simp only [belowH, belowE, belowC, belowL, belowR, belowP, belowL_d, belowR_d, List.length_cons, List.length_nil, Nat.reduceAdd, Nat.reduceLT, decide_true, Bool.and_self, Bool.and_true]) (by first | rfl | simp only [belowH, belowE, belowC, belowL, belowR, belowP, belowL_d, belowR_d, List.length_cons, List.length_nil, Nat.reduceAdd, Nat.reduceLT, decide_true, Bool.and_self, Bool.and_true]))
end Go.Proofs.YtgmbhaclogabeaaGreat
namespace Go.Proofs.YtgmbhaclogabeaaGreat
open Go Go.RowKit
/-- Does a range of the one meet one of the other? -/
def clashV (v w : Vpc) : Bool := v.ranges.any fun r => w.ranges.any fun q => r.at_.meets q.at_
theorem clash11_p (q r : Rng) : PSpec Tryz.prog 93 [.agg (encG q), .ept (encG r)] (.v (.bool (r.at_.meets q.at_))) := by
  have hm : PSpec Tryz.prog 58 [.agg (encP r.at_), .agg (encP q.at_)] (.v (.bool (r.at_.meets q.at_))) := meets_p _ _
  refine ps_i tab_ok mixed Tryz.func93 rfl Tryz.ntmps93 Tryz.results93 (by kernel_rfl) ?_
  repeat' (first | (with_reducible refine And.intro ?_ ?_) | (with_reducible refine gK_i (fun _ => ?_) (fun _ => ?_)) | (with_reducible refine condS_i (fun _ => ?_) (fun _ => ?_)) | (with_reducible refine drw_i (by kernel_rfl)) | simp -dsimp only [go_sem, seval, *, encG, encP] | ((with_reducible refine opK_c ?_); simp -dsimp only [go_sem, seval, encG, encP]; first | refine callK_r (by first | assumption | exact hm) (by first | exact .inl rfl | exact .inr rfl) ?_ | (refine callK_i (by assumption) ?_ ?_ ?_; (solve | (repeat (first | exact DLe.refl _ | exact DLe.nil _ | (refine DLe.tup ?_) | (refine DLe.agg ?_ rfl) | exact trivial | (refine And.intro ?_ ?_)))); (solve | exact .inl rfl | exact .inr rfl))) | fail | omega | exact decide_eq_true (by omega) | exact DLe.refl _)
theorem clash1_p (r : Rng) (w : Vpc) (hw : w.ranges.length ≤ 1000000000) : PSpec Tryz.prog 92 [.agg (encG r), .ept (encV w)] (.v (.bool (w.ranges.any fun q => r.at_.meets q.at_))) := by
  have hc := cntf_Range encG_len (fun q => r.at_.meets q.at_) w.ranges 93 [.ept (encG r)] hw (fun q _ => clash11_p q r)
  refine ps_i tab_ok mixed Tryz.func92 rfl Tryz.ntmps92 Tryz.results92 (by kernel_rfl) ?_
  repeat' (first | (with_reducible refine And.intro ?_ ?_) | (with_reducible refine gK_i (fun _ => ?_) (fun _ => ?_)) | (with_reducible refine condS_i (fun _ => ?_) (fun _ => ?_)) | (with_reducible refine drw_i (by kernel_rfl)) | simp -dsimp only [go_sem, seval, *, encV, encG] | ((with_reducible refine opK_c ?_); simp -dsimp only [go_sem, seval, encV, encG]; first | refine callK_r (by first | assumption | exact hc) (by first | exact .inl rfl | exact .inr rfl) ?_ | (refine callK_i (by assumption) ?_ ?_ ?_; (solve | (repeat (first | exact DLe.refl _ | exact DLe.nil _ | (refine DLe.tup ?_) | (refine DLe.agg ?_ rfl) | exact trivial | (refine And.intro ?_ ?_)))); (solve | exact .inl rfl | exact .inr rfl))) | fail | omega | exact decide_eq_true (by omega) | exact DLe.refl _)
theorem clash_p (v w : Vpc) (hv : v.ranges.length ≤ 1000000000) (hw : w.ranges.length ≤ 1000000000) : PSpec Tryz.prog 61 [.agg (encV v), .agg (encV w)] (.v (.bool (clashV v w))) := by
  have hc := cntf_Range encG_len (fun r => w.ranges.any fun q => r.at_.meets q.at_) v.ranges 92 [.ept (encV w)] hv (fun r _ => clash1_p r w hw)
  refine ps_i tab_ok mixed Tryz.func61 rfl Tryz.ntmps61 Tryz.results61 (by kernel_rfl) ?_
  repeat' (first | (with_reducible refine And.intro ?_ ?_) | (with_reducible refine gK_i (fun _ => ?_) (fun _ => ?_)) | (with_reducible refine condS_i (fun _ => ?_) (fun _ => ?_)) | (with_reducible refine drw_i (by kernel_rfl)) | simp -dsimp only [go_sem, seval, *, encV] | ((with_reducible refine opK_c ?_); simp -dsimp only [go_sem, seval, encV]; first | refine callK_r (by first | assumption | exact hc) (by first | exact .inl rfl | exact .inr rfl) ?_ | (refine callK_i (by assumption) ?_ ?_ ?_; (solve | (repeat (first | exact DLe.refl _ | exact DLe.nil _ | (refine DLe.tup ?_) | (refine DLe.agg ?_ rfl) | exact trivial | (refine And.intro ?_ ?_)))); (solve | exact .inl rfl | exact .inr rfl))) | fail | omega | exact decide_eq_true (by omega) | exact DLe.refl _)
end Go.Proofs.YtgmbhaclogabeaaGreat
namespace Go.Proofs.YtgmbhaclogabeaaGreat
open Go Go.RowKit
/-- The first that is not 0. -/
def orI : List Int → Int
  | [] => 0
  | x :: l => if x = 0 then orI l else x
theorem orI_drop {l : List Int} {k : Nat} {x : Int} (h : l[k]? = some x) : orI (l.drop k) = if x = 0 then orI (l.drop (k + 1)) else x := by rw [drop_get h, orI]
theorem or_p (l : List Int) (hl : l.length ≤ 1000000000) : PSpec Tryz.prog 76 [.sl 1 (l.map encA)] (.v (.int .i64 (orI l))) := by
  obtain ⟨R, hR⟩ : ∃ R, R = orI l := ⟨_, rfl⟩
  rw [← hR]
  replace hR := Lib.hid hR
  refine ps_i tab_ok mixed Tryz.func76 rfl Tryz.ntmps76 Tryz.results76 (by kernel_rfl) ?_
  repeat' (first | (with_reducible refine And.intro ?_ ?_) | (with_reducible refine gK_i (fun _ => ?_) (fun _ => ?_)) | (with_reducible refine condS_i (fun _ => ?_) (fun _ => ?_)) | (with_reducible refine drw_i (by kernel_rfl)) | simp -dsimp only [go_sem, seval, *, bne_self_eq_false] | ((with_reducible refine opK_c ?_); simp -dsimp only [go_sem, seval, bne_self_eq_false]; first | refine callK_r (by first | assumption | fail) (by first | exact .inl rfl | exact .inr rfl) ?_ | (refine callK_i (by assumption) ?_ ?_ ?_; (solve | (repeat (first | exact DLe.refl _ | exact DLe.nil _ | (refine DLe.tup ?_) | (refine DLe.agg ?_ rfl) | exact trivial | (refine And.intro ?_ ?_)))); (solve | exact .inl rfl | exact .inr rfl))) | fail | omega | exact decide_eq_true (by omega) | exact DLe.refl _)
  refine loopL tab_ok mixed l (fun k => orI l = orI (l.drop k)) (fun k => [(8, .d (.v (.int .i64 k))), (7, .d (.v (.int .i64 l.length))), (6, .d (.sl 1 (l.map encA))), (3, .d (.v (.int .i64 0))), (2, .d (.v (.int .i64 0)))]) (fun _ => []) rfl (weak_forget _ (by simp) (by (try simp only [encA]); rfl) (by (repeat' (first | exact trivial | (refine ⟨rfl, ?_⟩)))) (by first | rfl | simp only [belowH, belowE, belowC, belowL, belowR, belowP, belowL_d, belowR_d, List.length_cons, List.length_nil, Nat.reduceAdd, Nat.reduceLT, decide_true, Bool.and_self, Bool.and_true]) (by first | rfl | simp only [belowH, belowE, belowC, belowL, belowR, belowP, belowL_d, belowR_d, List.length_cons, List.length_nil, Nat.reduceAdd, Nat.reduceLT, decide_true, Bool.and_self, Bool.and_true])) ?_ ?_
  · intro k x hx hk hI C hC
    have hkI : (k : Int) < (l.length : Int) := by omega
    have hwr : IntKind.i64.wrap ((k : Int) + 1) = ((k + 1 : Nat) : Int) := by rw [IntKind.wrap_i64]; omega
    rw [orI_drop hx] at hI
    by_cases h0 : x = 0
    · rw [if_pos h0] at hI
      have hne : (x != 0) = false := by simp [h0]
      replace hI := Lib.hid hI
      replace h0 := Lib.hid h0
      repeat' (first | (with_reducible refine And.intro ?_ ?_) | (with_reducible refine gK_i (fun _ => ?_) (fun _ => ?_)) | (with_reducible refine condS_i (fun _ => ?_) (fun _ => ?_)) | (with_reducible refine drw_i (by kernel_rfl)) | simp -dsimp only [go_sem, seval, *, encA, hkI, hwr, hx, hne] | ((with_reducible refine opK_c ?_); simp -dsimp only [go_sem, seval, encA, hkI, hwr, hx, hne]; first | refine callK_r (by first | assumption | fail) (by first | exact .inl rfl | exact .inr rfl) ?_ | (refine callK_i (by assumption) ?_ ?_ ?_; (solve | (repeat (first | exact DLe.refl _ | exact DLe.nil _ | (refine DLe.tup ?_) | (refine DLe.agg ?_ rfl) | exact trivial | (refine And.intro ?_ ?_)))); (solve | exact .inl rfl | exact .inr rfl))) | fail | omega | exact decide_eq_true (by omega) | exact DLe.refl _)
      exact hC _ _ hI.out (weak_forget _ (by simp) (by (try simp only [encA]); rfl) (by (repeat' (first | exact trivial | (refine ⟨rfl, ?_⟩)))) (by first | rfl | simp only [belowH, belowE, belowC, belowL, belowR, belowP, belowL_d, belowR_d, List.length_cons, List.length_nil, Nat.reduceAdd, Nat.reduceLT, decide_true, Bool.and_self, Bool.and_true]) (by first | rfl | simp only [belowH, belowE, belowC, belowL, belowR, belowP, belowL_d, belowR_d, List.length_cons, List.length_nil, Nat.reduceAdd, Nat.reduceLT, decide_true, Bool.and_self, Bool.and_true]))
    · rw [if_neg h0] at hI
      have hne : (x != 0) = true := by simpa using h0
      have hr : R = x := by rw [hR.out, hI]
      rw [hr]
      replace hr := Lib.hid hr
      replace hI := Lib.hid hI
      replace h0 := Lib.hid h0
      repeat' (first | (with_reducible refine And.intro ?_ ?_) | (with_reducible refine gK_i (fun _ => ?_) (fun _ => ?_)) | (with_reducible refine condS_i (fun _ => ?_) (fun _ => ?_)) | (with_reducible refine drw_i (by kernel_rfl)) | simp -dsimp only [go_sem, seval, *, encA, hkI, hwr, hx, hne] | ((with_reducible refine opK_c ?_); simp -dsimp only [go_sem, seval, encA, hkI, hwr, hx, hne]; first | refine callK_r (by first | assumption | fail) (by first | exact .inl rfl | exact .inr rfl) ?_ | (refine callK_i (by assumption) ?_ ?_ ?_; (solve | (repeat (first | exact DLe.refl _ | exact DLe.nil _ | (refine DLe.tup ?_) | (refine DLe.agg ?_ rfl) | exact trivial | (refine And.intro ?_ ?_)))); (solve | exact .inl rfl | exact .inr rfl))) | fail | omega | exact decide_eq_true (by omega) | exact DLe.refl _)
      all_goals exact DLe.refl _
  · intro hI C
    rw [List.drop_length] at hI
    have hr : R = 0 := by rw [hR.out, hI]; rfl
    rw [hr]
    replace hr := Lib.hid hr
    replace hI := Lib.hid hI
    repeat' (first | (with_reducible refine And.intro ?_ ?_) | (with_reducible refine gK_i (fun _ => ?_) (fun _ => ?_)) | (with_reducible refine condS_i (fun _ => ?_) (fun _ => ?_)) | (with_reducible refine drw_i (by kernel_rfl)) | simp -dsimp only [go_sem, seval, *, Int.lt_irrefl] | ((with_reducible refine opK_c ?_); simp -dsimp only [go_sem, seval, Int.lt_irrefl]; first | refine callK_r (by first | assumption | fail) (by first | exact .inl rfl | exact .inr rfl) ?_ | (refine callK_i (by assumption) ?_ ?_ ?_; (solve | (repeat (first | exact DLe.refl _ | exact DLe.nil _ | (refine DLe.tup ?_) | (refine DLe.agg ?_ rfl) | exact trivial | (refine And.intro ?_ ?_)))); (solve | exact .inl rfl | exact .inr rfl))) | fail | omega | exact decide_eq_true (by omega) | exact DLe.refl _)
    all_goals exact DLe.refl _
end Go.Proofs.YtgmbhaclogabeaaGreat
namespace Go.Proofs.YtgmbhaclogabeaaGreat
open Go Go.RowKit
def ordK (l m : Lnk) : Int := orI [cmpI l.a m.a, cmpI l.b m.b]
set_option maxRecDepth 100000 in
theorem order_p (l m : Lnk) : PSpec Tryz.prog 38 [.agg (encK l), .agg (encK m)] (.v (.int .i64 (ordK l m))) := by
  have h1 := compare_p l.a m.a
  have h2 := compare_p l.b m.b
  have h3 := or_p [cmpI l.a m.a, cmpI l.b m.b] (by simp)
  simp only [List.map_cons, List.map_nil, encA] at h3
  unfold ordK
  generalize cmpI l.a m.a = A at *
  generalize cmpI l.b m.b = B at *
  refine ps_i tab_ok mixed Tryz.func38 rfl Tryz.ntmps38 Tryz.results38 (by kernel_rfl) ?_
  repeat' (first | (with_reducible refine And.intro ?_ ?_) | (with_reducible refine gK_i (fun _ => ?_) (fun _ => ?_)) | (with_reducible refine condS_i (fun _ => ?_) (fun _ => ?_)) | (with_reducible refine drw_i (by kernel_rfl)) | simp -dsimp only [go_sem, seval, *, encK, encA, undef] | ((with_reducible refine opK_c ?_); simp -dsimp only [go_sem, seval, encK, encA, undef]; first | refine callK_r (by first | assumption | exact h1 | exact h2 | exact h3) (by first | exact .inl rfl | exact .inr rfl) ?_ | (refine callK_i (by assumption) ?_ ?_ ?_; (solve | (repeat (first | exact DLe.refl _ | exact DLe.nil _ | (refine DLe.tup ?_) | (refine DLe.agg ?_ rfl) | exact trivial | (refine And.intro ?_ ?_)))); (solve | exact .inl rfl | exact .inr rfl))) | fail | omega | exact decide_eq_true (by omega) | exact DLe.refl _)
def lnk (a b : Int) : Lnk := ⟨if b < a then b else a, if a < b then b else a⟩
set_option maxRecDepth 100000 in
theorem link_p (a b : Int) : PSpec Tryz.prog 41 [.v (.int .i64 a), .v (.int .i64 b)] (.agg (encK (lnk a b))) := by
  refine ps_i tab_ok mixed Tryz.func41 rfl Tryz.ntmps41 Tryz.results41 (by kernel_rfl) ?_
  repeat' (first | (with_reducible refine And.intro ?_ ?_) | (with_reducible refine gK_i (fun _ => ?_) (fun _ => ?_)) | (with_reducible refine condS_i (fun _ => ?_) (fun _ => ?_)) | (with_reducible refine drw_i (by kernel_rfl)) | simp -dsimp only [go_sem, seval, *, encK, lnk, undef] | ((with_reducible refine opK_c ?_); simp -dsimp only [go_sem, seval, encK, lnk, undef]; first | refine callK_r (by first | assumption | fail) (by first | exact .inl rfl | exact .inr rfl) ?_ | (refine callK_i (by assumption) ?_ ?_ ?_; (solve | (repeat (first | exact DLe.refl _ | exact DLe.nil _ | (refine DLe.tup ?_) | (refine DLe.agg ?_ rfl) | exact trivial | (refine And.intro ?_ ?_)))); (solve | exact .inl rfl | exact .inr rfl))) | fail | omega | exact decide_eq_true (by omega) | exact DLe.refl _)
  all_goals exact DLe.refl _
theorem find1_p (v : Vpc) (id : Int) : PSpec Tryz.prog 46 [.agg (encV v), .v (.int .i64 id)] (.v (.int .i64 (cmpI v.id id))) := by
  have h1 := compare_p v.id id
  refine ps_i tab_ok mixed Tryz.func46 rfl Tryz.ntmps46 Tryz.results46 (by kernel_rfl) ?_
  repeat' (first | (with_reducible refine And.intro ?_ ?_) | (with_reducible refine gK_i (fun _ => ?_) (fun _ => ?_)) | (with_reducible refine condS_i (fun _ => ?_) (fun _ => ?_)) | (with_reducible refine drw_i (by kernel_rfl)) | simp -dsimp only [go_sem, seval, *, encV] | ((with_reducible refine opK_c ?_); simp -dsimp only [go_sem, seval, encV]; first | refine callK_r (by first | assumption | exact h1) (by first | exact .inl rfl | exact .inr rfl) ?_ | (refine callK_i (by assumption) ?_ ?_ ?_; (solve | (repeat (first | exact DLe.refl _ | exact DLe.nil _ | (refine DLe.tup ?_) | (refine DLe.agg ?_ rfl) | exact trivial | (refine And.intro ?_ ?_)))); (solve | exact .inl rfl | exact .inr rfl))) | fail | omega | exact decide_eq_true (by omega) | exact DLe.refl _)
set_option maxHeartbeats 1000000 in
theorem bsrf_Vpc {α : Type} {enc : α → List D} (henc : ∀ x, (enc x).length = 3) (key : α → Int) (l : List α) (t : Int) (g : Nat) (caps : List D) (hl : l.length ≤ 1000000000) (hs : l.Pairwise fun a b => key a < key b) (hc : ∀ x ∈ l, PSpec Tryz.prog g (.agg (enc x) :: .v (.int .i64 t) :: caps) (.v (.int .i64 (cmpI (key x) t)))) :
    PSpec Tryz.prog 45 [.sl 3 (l.map enc), .v (.int .i64 t), .clo g caps] (.tup [.v (.int .i64 (lbN key t l)), .v (.bool (lbB key t l))]) := by
  refine ps_i tab_ok mixed Tryz.func45 rfl Tryz.ntmps45 Tryz.results45 (by kernel_rfl) ?_
  repeat' (first | (with_reducible refine And.intro ?_ ?_) | (with_reducible refine gK_i (fun _ => ?_) (fun _ => ?_)) | (with_reducible refine condS_i (fun _ => ?_) (fun _ => ?_)) | (with_reducible refine drw_i (by kernel_rfl)) | simp -dsimp only [go_sem, seval, *, bne_self_eq_false] | ((with_reducible refine opK_c ?_); simp -dsimp only [go_sem, seval, bne_self_eq_false]; first | refine callK_r (by first | assumption | fail) (by first | exact .inl rfl | exact .inr rfl) ?_ | (refine callK_i (by assumption) ?_ ?_ ?_; (solve | (repeat (first | exact DLe.refl _ | exact DLe.nil _ | (refine DLe.tup ?_) | (refine DLe.agg ?_ rfl) | exact trivial | (refine And.intro ?_ ?_)))); (solve | exact .inl rfl | exact .inr rfl))) | fail | omega | exact decide_eq_true (by omega) | exact DLe.refl _)
  refine loopG tab_ok mixed (fun m e h => ∃ i j : Nat, i ≤ j ∧ j ≤ l.length ∧ (∀ q (hq : q < l.length), q < i → key l[q] < t) ∧ (∀ q (hq : q < l.length), j ≤ q → t ≤ key l[q]) ∧ m = j - i ∧
    e = [(10, .d (.v (.int .i64 j))), (9, .d (.v (.int .i64 i))), (8, .d (.v (.int .i64 l.length))), (7, .d (.v (.bool false))), (6, .d (.v (.int .i64 0))), (2, .d (.clo g caps)), (1, .d (.v (.int .i64 t))), (0, .d (.sl 3 (l.map enc)))] ∧ h = []) _ _ _ ⟨0, l.length, Nat.zero_le _, Nat.le_refl _, fun q hq h => absurd h (Nat.not_lt_zero _), fun q hq h => by omega, rfl, rfl, rfl⟩ ?_ ?_
  · exact weak_forget [] (by simp) rfl ⟨rfl, rfl, rfl, rfl, rfl, rfl, rfl, rfl, trivial⟩ (by first | rfl | simp only [belowH, belowE, belowC, belowL, belowR, belowP, belowL_d, belowR_d, List.length_cons, List.length_nil, Nat.reduceAdd, Nat.reduceLT, decide_true, Bool.and_self, Bool.and_true]) (by first | rfl | simp only [belowH, belowE, belowC, belowL, belowR, belowP, belowL_d, belowR_d, List.length_cons, List.length_nil, Nat.reduceAdd, Nat.reduceLT, decide_true, Bool.and_self, Bool.and_true])
  · rintro m e h ⟨i, j, hij, hj, hlo, hhi, rfl, rfl, rfl⟩ CL hCL
    by_cases hlt : i < j
    · obtain ⟨q, hq⟩ : ∃ q, q = (i + j) / 2 := ⟨_, rfl⟩
      have hql : q < l.length := by omega
      obtain ⟨x, hx⟩ : ∃ x, l[q]? = some x := ⟨_, List.getElem?_eq_getElem hql⟩
      have hxe : l[q] = x := by rw [List.getElem?_eq_getElem hql] at hx; exact Option.some.inj hx
      have hltI : (i : Int) < (j : Int) := by omega
      have hw1 : IntKind.i64.wrap ((i : Int) + (j : Int)) = ((i + j : Nat) : Int) := by rw [IntKind.wrap_i64]; omega
      have hw2 : IntKind.u64.wrap ((i + j : Nat) : Int) = ((i + j : Nat) : Int) := by rw [wrap_u64]; omega
      have hsh : (((i + j : Nat) : Int)).fdiv (2 ^ min 1 64) = (q : Int) := by
        rw [hq, show (min 1 64 : Nat) = 1 from rfl, Int.pow_succ, Int.pow_zero, Int.one_mul, Int.fdiv_eq_ediv_of_nonneg _ (by omega)]
        omega
      have hw3 : IntKind.i64.wrap (q : Int) = (q : Int) := by rw [IntKind.wrap_i64]; omega
      have hw4 : IntKind.i64.wrap ((q : Int) + 1) = ((q + 1 : Nat) : Int) := by rw [IntKind.wrap_i64]; omega
      have hlen := henc x
      have htk : (enc x).take 3 = enc x := List.take_of_length_le (by omega)
      have hcx := hc x (List.mem_of_getElem? hx)
      have hcm := cmpI_neg (key x) t
      have hqd : i ≤ q ∧ q < j := by omega
      replace hq := Lib.hid hq
      by_cases hk : key x < t
      · have hkI : decide (key x < t) = true := by simpa using hk
        repeat' (first | (with_reducible refine And.intro ?_ ?_) | (with_reducible refine gK_i (fun _ => ?_) (fun _ => ?_)) | (with_reducible refine condS_i (fun _ => ?_) (fun _ => ?_)) | (with_reducible refine drw_i (by kernel_rfl)) | simp -dsimp only [go_sem, seval, *, hx, hltI, hw1, hw2, hw3, hw4, hsh, htk, hlen, hcm, hkI, vwL_d, tcL_d] | ((with_reducible refine opK_c ?_); simp -dsimp only [go_sem, seval, hx, hltI, hw1, hw2, hw3, hw4, hsh, htk, hlen, hcm, hkI, vwL_d, tcL_d]; first | refine callK_r (by first | assumption | exact hcx) (by first | exact .inl rfl | exact .inr rfl) ?_ | (refine callK_i (by assumption) ?_ ?_ ?_; (solve | (repeat (first | exact DLe.refl _ | exact DLe.nil _ | (refine DLe.tup ?_) | (refine DLe.agg ?_ rfl) | exact trivial | (refine And.intro ?_ ?_)))); (solve | exact .inl rfl | exact .inr rfl))) | fail | omega | exact decide_eq_true (by omega) | exact DLe.refl _)
        refine hCL _ _ _ _ _ ?_ ⟨q + 1, j, by omega, hj, ?_, hhi, rfl, rfl, rfl⟩ (weak_forget [] (by simp) rfl ⟨rfl, rfl, rfl, rfl, rfl, rfl, rfl, rfl, trivial⟩ (by first | rfl | simp only [belowH, belowE, belowC, belowL, belowR, belowP, belowL_d, belowR_d, List.length_cons, List.length_nil, Nat.reduceAdd, Nat.reduceLT, decide_true, Bool.and_self, Bool.and_true]) (by first | rfl | simp only [belowH, belowE, belowC, belowL, belowR, belowP, belowL_d, belowR_d, List.length_cons, List.length_nil, Nat.reduceAdd, Nat.reduceLT, decide_true, Bool.and_self, Bool.and_true]))
        · omega
        · intro q' hq' hlt'
          rcases Nat.lt_or_ge q' q with h1 | h1
          · have := List.pairwise_iff_getElem.1 hs q' q hq' hql h1
            rw [hxe] at this; omega
          · obtain rfl : q' = q := by omega
            rw [hxe]; exact hk
      · have hkI : decide (key x < t) = false := by simpa using hk
        repeat' (first | (with_reducible refine And.intro ?_ ?_) | (with_reducible refine gK_i (fun _ => ?_) (fun _ => ?_)) | (with_reducible refine condS_i (fun _ => ?_) (fun _ => ?_)) | (with_reducible refine drw_i (by kernel_rfl)) | simp -dsimp only [go_sem, seval, *, hx, hltI, hw1, hw2, hw3, hw4, hsh, htk, hlen, hcm, hkI, vwL_d, tcL_d] | ((with_reducible refine opK_c ?_); simp -dsimp only [go_sem, seval, hx, hltI, hw1, hw2, hw3, hw4, hsh, htk, hlen, hcm, hkI, vwL_d, tcL_d]; first | refine callK_r (by first | assumption | exact hcx) (by first | exact .inl rfl | exact .inr rfl) ?_ | (refine callK_i (by assumption) ?_ ?_ ?_; (solve | (repeat (first | exact DLe.refl _ | exact DLe.nil _ | (refine DLe.tup ?_) | (refine DLe.agg ?_ rfl) | exact trivial | (refine And.intro ?_ ?_)))); (solve | exact .inl rfl | exact .inr rfl))) | fail | omega | exact decide_eq_true (by omega) | exact DLe.refl _)
        refine hCL _ _ _ _ _ ?_ ⟨i, q, by omega, by omega, hlo, ?_, rfl, rfl, rfl⟩ (weak_forget [] (by simp) rfl ⟨rfl, rfl, rfl, rfl, rfl, rfl, rfl, rfl, trivial⟩ (by first | rfl | simp only [belowH, belowE, belowC, belowL, belowR, belowP, belowL_d, belowR_d, List.length_cons, List.length_nil, Nat.reduceAdd, Nat.reduceLT, decide_true, Bool.and_self, Bool.and_true]) (by first | rfl | simp only [belowH, belowE, belowC, belowL, belowR, belowP, belowL_d, belowR_d, List.length_cons, List.length_nil, Nat.reduceAdd, Nat.reduceLT, decide_true, Bool.and_self, Bool.and_true]))
        · omega
        · intro q' hq' hlt'
          rcases Nat.lt_or_ge q q' with h1 | h1
          · have := List.pairwise_iff_getElem.1 hs q q' hql hq' h1
            rw [hxe] at this; omega
          · obtain rfl : q' = q := by omega
            rw [hxe]; omega
    · obtain rfl : i = j := by omega
      have hlb := lbN_eq hj hlo hhi
      have hlbB : lbB key t l = match l[i]? with | some x => key x == t | none => false := by unfold lbB; rw [hlb]; all_goals (cases l[i]? <;> rfl)
      replace hlb := Lib.hid hlb
      replace hlbB := Lib.hid hlbB
      by_cases hin : i < l.length
      · obtain ⟨x, hx⟩ : ∃ x, l[i]? = some x := ⟨_, List.getElem?_eq_getElem hin⟩
        have hinI : decide ((i : Int) < (l.length : Int)) = true := by simpa using hin
        have hlen := henc x
        have htk : (enc x).take 3 = enc x := List.take_of_length_le (by omega)
        have hcx := hc x (List.mem_of_getElem? hx)
        have hcz := cmpI_zero (key x) t
        repeat' (first | (with_reducible refine And.intro ?_ ?_) | (with_reducible refine gK_i (fun _ => ?_) (fun _ => ?_)) | (with_reducible refine condS_i (fun _ => ?_) (fun _ => ?_)) | (with_reducible refine drw_i (by kernel_rfl)) | simp -dsimp only [go_sem, seval, *, Int.lt_irrefl, hx, hinI, htk, hlen, hcz, vwL_d, tcL_d] | ((with_reducible refine opK_c ?_); simp -dsimp only [go_sem, seval, Int.lt_irrefl, hx, hinI, htk, hlen, hcz, vwL_d, tcL_d]; first | refine callK_r (by first | assumption | exact hcx) (by first | exact .inl rfl | exact .inr rfl) ?_ | (refine callK_i (by assumption) ?_ ?_ ?_; (solve | (repeat (first | exact DLe.refl _ | exact DLe.nil _ | (refine DLe.tup ?_) | (refine DLe.agg ?_ rfl) | exact trivial | (refine And.intro ?_ ?_)))); (solve | exact .inl rfl | exact .inr rfl))) | fail | omega | exact decide_eq_true (by omega) | exact DLe.refl _)
        all_goals rw [hlbB.out, hx, hlb.out]
        all_goals exact DLe.refl _
      · have hinI : decide ((i : Int) < (l.length : Int)) = false := by simpa using hin
        repeat' (first | (with_reducible refine And.intro ?_ ?_) | (with_reducible refine gK_i (fun _ => ?_) (fun _ => ?_)) | (with_reducible refine condS_i (fun _ => ?_) (fun _ => ?_)) | (with_reducible refine drw_i (by kernel_rfl)) | simp -dsimp only [go_sem, seval, *, Int.lt_irrefl, hinI] | ((with_reducible refine opK_c ?_); simp -dsimp only [go_sem, seval, Int.lt_irrefl, hinI]; first | refine callK_r (by first | assumption | fail) (by first | exact .inl rfl | exact .inr rfl) ?_ | (refine callK_i (by assumption) ?_ ?_ ?_; (solve | (repeat (first | exact DLe.refl _ | exact DLe.nil _ | (refine DLe.tup ?_) | (refine DLe.agg ?_ rfl) | exact trivial | (refine And.intro ?_ ?_)))); (solve | exact .inl rfl | exact .inr rfl))) | fail | omega | exact decide_eq_true (by omega) | exact DLe.refl _)
        all_goals rw [hlbB.out, hlb.out, List.getElem?_eq_none (by omega)]
        all_goals exact DLe.refl _
end Go.Proofs.YtgmbhaclogabeaaGreat
namespace Go.Proofs.YtgmbhaclogabeaaGreat
open Go Go.RowKit
def findN (n : Net) (id : Int) : Option Vpc := n.vpcs.find? fun v => v.id == id
def findND (o : Option Vpc) : D := match o with | some v => .tup [.ept (encV v), .v (.bool true)] | none => .tup [.v (.pointer none), .v (.bool false)]
theorem lb_hit {l : List Vpc} {id : Int} (hs : l.Pairwise fun a b => a.id < b.id) {v : Vpc} (hv : l[lbN (fun v : Vpc => v.id) id l]? = some v) (he : v.id = id) : l.find? (fun v => v.id == id) = some v := by
  rw [List.find?_eq_some_iff_getElem]
  obtain ⟨hlt, hg⟩ := List.getElem?_eq_some_iff.1 hv
  refine ⟨by simpa using he, _, hlt, hg, fun j hj => ?_⟩
  have := List.pairwise_iff_getElem.1 hs j _ (by omega) hlt hj
  rw [hg] at this
  simp
  omega
theorem lb_miss {l : List Vpc} {id : Int} (hs : l.Pairwise fun a b => a.id < b.id) (h : lbB (fun v : Vpc => v.id) id l = false) : l.find? (fun v => v.id == id) = none := by
  rw [List.find?_eq_none]
  intro v hv he
  have he2 : v.id = id := by simpa using he
  obtain ⟨j, hj, rfl⟩ := List.mem_iff_getElem.1 hv
  have h1 : lbN (fun v : Vpc => v.id) id l = j := lbN_eq (by omega) (fun q hq hqj => by
    have := List.pairwise_iff_getElem.1 hs q j hq hj hqj
    show l[q].id < id
    omega) (fun q hq hjq => by
    show id ≤ l[q].id
    rcases Nat.lt_or_ge j q with h | h
    · have := List.pairwise_iff_getElem.1 hs j q hj hq h; omega
    · obtain rfl : q = j := by omega
      omega)
  unfold lbB at h
  rw [h1, List.getElem?_eq_getElem hj] at h
  simp [he2] at h
def findNP (o : Option Vpc) : PV := .d (findND o)
set_option maxRecDepth 100000 in
theorem nfindB_m (n : Net) (id : Int) (hl : n.vpcs.length ≤ 1000000000) (hs : n.vpcs.Pairwise fun a b => a.id < b.id) : MSpec Tryz.prog 22 [.ptr 0 0, .d (.v (.int .i64 id))] [.box 25 ((encT n).map .d)] (findNP (findN n id)) [.box 25 ((encT n).map .d)] := by
  have hb := bsrf_Vpc encV_len (fun v : Vpc => v.id) n.vpcs id 46 [] hl hs (fun v _ => find1_p v id)
  unfold findN
  cases hB : lbB (fun v : Vpc => v.id) id n.vpcs with
  | false =>
    rw [lb_miss hs hB]
    rw [hB] at hb
    clear hs
    refine ms_i tab_ok mixed Tryz.func22 rfl Tryz.ntmps22 Tryz.results22 (by kernel_rfl) (by simp) (by simp [belowL, belowP]) (by simp [belowH, belowC, belowL, belowP, belowL_d, belowR_d]) ?_
    repeat' (first | (with_reducible refine And.intro ?_ ?_) | (with_reducible refine gK_i (fun _ => ?_) (fun _ => ?_)) | (with_reducible refine condS_i (fun _ => ?_) (fun _ => ?_)) | (with_reducible refine drw_i (by kernel_rfl)) | simp -dsimp only [go_sem, seval, *, encT, undef] | ((with_reducible refine opK_c ?_); simp -dsimp only [go_sem, seval, encT, undef]; first | refine callK_r (by first | assumption | exact hb) (by first | exact .inl rfl | exact .inr rfl) ?_ | (refine callK_i (by assumption) ?_ ?_ ?_; (solve | (repeat (first | exact DLe.refl _ | exact DLe.nil _ | (refine DLe.tup ?_) | (refine DLe.agg ?_ rfl) | exact trivial | (refine And.intro ?_ ?_)))); (solve | exact .inl rfl | exact .inr rfl))) | fail | omega | exact decide_eq_true (by omega) | exact DLe.refl _)
    all_goals exact weak_eq rfl rfl
  | true =>
    obtain ⟨v, hv, he⟩ : ∃ v, n.vpcs[lbN (fun v : Vpc => v.id) id n.vpcs]? = some v ∧ v.id = id := by
      unfold lbB at hB
      cases hq : n.vpcs[lbN (fun v : Vpc => v.id) id n.vpcs]? with
      | none => rw [hq] at hB; cases hB
      | some v => rw [hq] at hB; exact ⟨v, rfl, by simpa using hB⟩
    rw [lb_hit hs hv he]
    rw [hB] at hb
    clear hs
    replace he := Lib.hid he
    have hlt := (List.getElem?_eq_some_iff.1 hv).1
    generalize lbN (fun v : Vpc => v.id) id n.vpcs = k at *
    refine ms_i tab_ok mixed Tryz.func22 rfl Tryz.ntmps22 Tryz.results22 (by kernel_rfl) (by simp) (by simp [belowL, belowP]) (by simp [belowH, belowC, belowL, belowP, belowL_d, belowR_d]) ?_
    repeat' (first | (with_reducible refine And.intro ?_ ?_) | (with_reducible refine gK_i (fun _ => ?_) (fun _ => ?_)) | (with_reducible refine condS_i (fun _ => ?_) (fun _ => ?_)) | (with_reducible refine drw_i (by kernel_rfl)) | simp -dsimp only [go_sem, seval, *, encT, hv, undef] | ((with_reducible refine opK_c ?_); simp -dsimp only [go_sem, seval, encT, hv, undef]; first | refine callK_r (by first | assumption | exact hb) (by first | exact .inl rfl | exact .inr rfl) ?_ | (refine callK_i (by assumption) ?_ ?_ ?_; (solve | (repeat (first | exact DLe.refl _ | exact DLe.nil _ | (refine DLe.tup ?_) | (refine DLe.agg ?_ rfl) | exact trivial | (refine And.intro ?_ ?_)))); (solve | exact .inl rfl | exact .inr rfl))) | fail | omega | exact decide_eq_true (by omega) | exact DLe.refl _)
    all_goals exact weak_eq rfl rfl
end Go.Proofs.YtgmbhaclogabeaaGreat
namespace Go.Proofs.YtgmbhaclogabeaaGreat
open Go Go.RowKit
theorem head_up {ents : List (List Int × Int)} {a b r : Int} (hb : lkE ents [b] = some b) (hr : r ≠ b) : ∀ {n : Nat} {x : Int}, HeadIs ents n x r → HeadIs (upE ents [b] a) n x r
  | 0, x, h => by
    obtain ⟨h1, rfl⟩ := h
    exact ⟨by rw [lkE_up, if_neg (by simpa using fun e => hr e.symm)]; exact h1, rfl⟩
  | n + 1, x, h => by
    obtain ⟨y, h1, h2, h3⟩ := h
    have hx : b ≠ x := fun e => by subst e; rw [hb] at h1; exact h2 (Option.some.inj h1).symm
    exact ⟨y, by rw [lkE_up, if_neg (by simpa using hx)]; exact h1, h2, head_up hb hr h3⟩
theorem head_up2 {ents : List (List Int × Int)} {a b : Int} (ha : lkE ents [a] = some a) (hb : lkE ents [b] = some b) (hab : a ≠ b) : ∀ {n : Nat} {x : Int}, HeadIs ents n x b → HeadIs (upE ents [b] a) (n + 1) x a
  | 0, x, h => by
    obtain ⟨h1, rfl⟩ := h
    exact ⟨a, by rw [lkE_up, if_pos rfl], hab, by rw [lkE_up, if_neg (by simpa using fun e => hab e.symm)]; exact ha, rfl⟩
  | n + 1, x, h => by
    obtain ⟨y, h1, h2, h3⟩ := h
    have hx : b ≠ x := fun e => by subst e; rw [hb] at h1; exact h2 (Option.some.inj h1).symm
    exact ⟨y, by rw [lkE_up, if_neg (by simpa using hx)]; exact h1, h2, head_up2 ha hb hab h3⟩
theorem head_same {ents : List (List Int × Int)} {b r : Int} (hb : lkE ents [b] = some b) : ∀ {n : Nat} {x : Int}, HeadIs ents n x r → HeadIs (upE ents [b] b) n x r
  | 0, x, h => by
    obtain ⟨h1, rfl⟩ := h
    refine ⟨?_, rfl⟩
    rw [lkE_up]
    split
    · rename_i e; simp at e; rw [e]
    · exact h1
  | n + 1, x, h => by
    obtain ⟨y, h1, h2, h3⟩ := h
    refine ⟨y, ?_, h2, head_same hb h3⟩
    rw [lkE_up, if_neg]
    · exact h1
    · intro e; simp at e; subst e; rw [hb] at h1; exact h2 (Option.some.inj h1).symm
/-- A map of groups, and the heads that it tells. -/
def GrpOK (ids : List Int) (ents : List (List Int × Int)) (F : Int → Int) : Prop := ∀ x ∈ ids, (∃ n, HeadIs ents n x (F x)) ∧ F x ∈ ids ∧ lkE ents [F x] = some (F x)
def stepF (F : Int → Int) (l : Lnk) : Int → Int := fun x => if F x = F l.b then F l.a else F x
def stepG (s : List (List Int × Int) × (Int → Int)) (l : Lnk) : List (List Int × Int) × (Int → Int) := (upE s.1 [s.2 l.b] (s.2 l.a), stepF s.2 l)
theorem grp_step {ids : List Int} {ents : List (List Int × Int)} {F : Int → Int} {l : Lnk} (h : GrpOK ids ents F) (ha : l.a ∈ ids) (hb : l.b ∈ ids) : GrpOK ids (upE ents [F l.b] (F l.a)) (stepF F l) := by
  obtain ⟨-, fa, ra⟩ := h l.a ha
  obtain ⟨-, fb, rb⟩ := h l.b hb
  intro x hx
  obtain ⟨⟨n, hn⟩, fx, rx⟩ := h x hx
  unfold stepF
  by_cases hab : F l.a = F l.b
  · rw [hab]
    by_cases hxb : F x = F l.b
    · rw [if_pos hxb, ← hxb]
      exact ⟨⟨n, head_same rx hn⟩, fx, by rw [lkE_up, if_pos rfl]⟩
    · rw [if_neg hxb]
      exact ⟨⟨n, head_same rb hn⟩, fx, by rw [lkE_up, if_neg (by simpa using fun e => hxb e.symm)]; exact rx⟩
  · by_cases hxb : F x = F l.b
    · rw [if_pos hxb]
      rw [hxb] at hn
      exact ⟨⟨n + 1, head_up2 ra rb hab hn⟩, fa, by rw [lkE_up, if_neg (by simpa using fun e => hab e.symm)]; exact ra⟩
    · rw [if_neg hxb]
      exact ⟨⟨n, head_up rb hxb hn⟩, fx, by rw [lkE_up, if_neg (by simpa using fun e => hxb e.symm)]; exact rx⟩
end Go.Proofs.YtgmbhaclogabeaaGreat
namespace Go.Proofs.YtgmbhaclogabeaaGreat
open Go Go.RowKit
def ents0 (vs : List Vpc) : List (List Int × Int) := vs.foldl (fun e v => upE e [v.id] v.id) []
theorem foldl_snoc {α β : Type} {f : β → α → β} {b : β} {l : List α} {k : Nat} {x : α} (h : l[k]? = some x) : (l.take (k + 1)).foldl f b = f ((l.take k).foldl f b) x := by rw [take_snoc h, List.foldl_append]; rfl
theorem ents0_at (l : List Vpc) (e : List (List Int × Int)) (x : Int) : lkE (l.foldl (fun e v => upE e [v.id] v.id) e) [x] = if x ∈ l.map (·.id) then some x else lkE e [x] := by
  induction l generalizing e with
  | nil => simp
  | cons v l ih =>
    rw [List.foldl_cons, ih, lkE_up]
    by_cases h1 : x ∈ l.map (·.id)
    · rw [if_pos h1, if_pos (by simp only [List.map_cons, List.mem_cons]; exact .inr h1)]
    · rw [if_neg h1]
      by_cases h2 : v.id = x
      · subst h2; simp
      · rw [if_neg (by simpa using h2), if_neg]
        simp only [List.map_cons, List.mem_cons, not_or]
        exact ⟨fun e => h2 e.symm, h1⟩
theorem grp_0 (vs : List Vpc) : GrpOK (vs.map (·.id)) (ents0 vs) (fun x => x) := fun x hx => by
  have := ents0_at vs [] x
  rw [if_pos hx] at this
  exact ⟨⟨0, this, rfl⟩, hx, this⟩
def stN (n : Net) : List (List Int × Int) × (Int → Int) := n.links.foldl stepG (ents0 n.vpcs, fun x => x)
theorem grp_k {n : Net} (hl : ∀ l ∈ n.links, l.a ∈ n.vpcs.map (·.id) ∧ l.b ∈ n.vpcs.map (·.id)) (k : Nat) : GrpOK (n.vpcs.map (·.id)) ((n.links.take k).foldl stepG (ents0 n.vpcs, fun x => x)).1 ((n.links.take k).foldl stepG (ents0 n.vpcs, fun x => x)).2 := by
  induction k with
  | zero => exact grp_0 n.vpcs
  | succ k ih =>
    by_cases hk : k < n.links.length
    · have hx := List.getElem?_eq_getElem hk
      rw [foldl_snoc hx]
      have := hl _ (List.getElem_mem hk)
      exact grp_step ih this.1 this.2
    · rw [List.take_of_length_le (by omega)] at ih ⊢
      exact ih
end Go.Proofs.YtgmbhaclogabeaaGreat
namespace Go.Proofs.YtgmbhaclogabeaaGreat
open Go Go.RowKit
set_option maxRecDepth 100000 in
set_option maxHeartbeats 1000000 in
theorem of_m (n : Net) (h1 : n.vpcs.length ≤ 1000000000) (h2 : n.links.length ≤ 1000000000) (hl : ∀ l ∈ n.links, l.a ∈ n.vpcs.map (·.id) ∧ l.b ∈ n.vpcs.map (·.id)) :
    MSpec Tryz.prog 23 [.d (.ept (encT n))] [] (.mref 0) [.mp 1 false (stN n).1] := by
  have hg := Lib.hid (grp_k hl)
  replace hl := Lib.hid hl
  refine ms_i tab_ok mixed Tryz.func23 rfl Tryz.ntmps23 Tryz.results23 (by kernel_rfl) (by simp) (by simp [belowL, belowP]) (by simp [belowH, belowC, belowL, belowP, belowL_d, belowR_d]) ?_
  repeat' (first | (with_reducible refine And.intro ?_ ?_) | (with_reducible refine gK_i (fun _ => ?_) (fun _ => ?_)) | (with_reducible refine condS_i (fun _ => ?_) (fun _ => ?_)) | (with_reducible refine drw_i (by kernel_rfl)) | simp -dsimp only [go_sem, seval, *, encT] | ((with_reducible refine opK_c ?_); simp -dsimp only [go_sem, seval, encT]; first | refine callK_r (by first | assumption | fail) (by first | exact .inl rfl | exact .inr rfl) ?_ | (refine callK_i (by assumption) ?_ ?_ ?_; (solve | (repeat (first | exact DLe.refl _ | exact DLe.nil _ | (refine DLe.tup ?_) | (refine DLe.agg ?_ rfl) | exact trivial | (refine And.intro ?_ ?_)))); (solve | exact .inl rfl | exact .inr rfl))) | fail | omega | exact decide_eq_true (by omega) | exact DLe.refl _)
  refine loopL tab_ok mixed n.vpcs (fun _ => True) (fun k => [(14, .d (.v (.int .i64 k))), (13, .d (.v (.int .i64 n.vpcs.length))), (12, .d (.sl 3 (n.vpcs.map encV))), (3, .mref 0), (0, .d (.ept (encT n)))]) (fun k => [.mp 1 false (ents0 (n.vpcs.take k))]) trivial (weak_forget _ (by simp) (by (try simp only [encT]); rfl) (by (repeat' (first | exact trivial | (refine ⟨rfl, ?_⟩)))) (by first | rfl | simp only [belowH, belowE, belowC, belowL, belowR, belowP, belowL_d, belowR_d, List.length_cons, List.length_nil, Nat.reduceAdd, Nat.reduceLT, decide_true, Bool.and_self, Bool.and_true]) (by first | rfl | simp only [belowH, belowE, belowC, belowL, belowR, belowP, belowL_d, belowR_d, List.length_cons, List.length_nil, Nat.reduceAdd, Nat.reduceLT, decide_true, Bool.and_self, Bool.and_true])) ?_ ?_
  · intro k v hv hk _ C hC
    have hkI : (k : Int) < (n.vpcs.length : Int) := by omega
    have hwr : IntKind.i64.wrap ((k : Int) + 1) = ((k + 1 : Nat) : Int) := by rw [IntKind.wrap_i64]; omega
    have hs : ents0 (n.vpcs.take (k + 1)) = upE (ents0 (n.vpcs.take k)) [v.id] v.id := foldl_snoc hv
    replace hs := Lib.hid hs
    repeat' (first | (with_reducible refine And.intro ?_ ?_) | (with_reducible refine gK_i (fun _ => ?_) (fun _ => ?_)) | (with_reducible refine condS_i (fun _ => ?_) (fun _ => ?_)) | (with_reducible refine drw_i (by kernel_rfl)) | simp -dsimp only [go_sem, seval, *, encT, encV, hkI, hwr, hv, undef] | ((with_reducible refine opK_c ?_); simp -dsimp only [go_sem, seval, encT, encV, hkI, hwr, hv, undef]; first | refine callK_r (by first | assumption | fail) (by first | exact .inl rfl | exact .inr rfl) ?_ | (refine callK_i (by assumption) ?_ ?_ ?_; (solve | (repeat (first | exact DLe.refl _ | exact DLe.nil _ | (refine DLe.tup ?_) | (refine DLe.agg ?_ rfl) | exact trivial | (refine And.intro ?_ ?_)))); (solve | exact .inl rfl | exact .inr rfl))) | fail | omega | exact decide_eq_true (by omega) | exact DLe.refl _)
    exact hC _ _ trivial (weak_forget _ (by simp) (by rw [hs.out]; rfl) (by (repeat' (first | exact trivial | (refine ⟨rfl, ?_⟩)))) (by first | rfl | simp only [belowH, belowE, belowC, belowL, belowR, belowP, belowL_d, belowR_d, List.length_cons, List.length_nil, Nat.reduceAdd, Nat.reduceLT, decide_true, Bool.and_self, Bool.and_true]) (by first | rfl | simp only [belowH, belowE, belowC, belowL, belowR, belowP, belowL_d, belowR_d, List.length_cons, List.length_nil, Nat.reduceAdd, Nat.reduceLT, decide_true, Bool.and_self, Bool.and_true]))
  · intro _ C
    rw [List.take_length]
    repeat' (first | (with_reducible refine And.intro ?_ ?_) | (with_reducible refine gK_i (fun _ => ?_) (fun _ => ?_)) | (with_reducible refine condS_i (fun _ => ?_) (fun _ => ?_)) | (with_reducible refine drw_i (by kernel_rfl)) | simp -dsimp only [go_sem, seval, *, encT, Int.lt_irrefl, undef] | ((with_reducible refine opK_c ?_); simp -dsimp only [go_sem, seval, encT, Int.lt_irrefl, undef]; first | refine callK_r (by first | assumption | fail) (by first | exact .inl rfl | exact .inr rfl) ?_ | (refine callK_i (by assumption) ?_ ?_ ?_; (solve | (repeat (first | exact DLe.refl _ | exact DLe.nil _ | (refine DLe.tup ?_) | (refine DLe.agg ?_ rfl) | exact trivial | (refine And.intro ?_ ?_)))); (solve | exact .inl rfl | exact .inr rfl))) | fail | omega | exact decide_eq_true (by omega) | exact DLe.refl _)
    refine loopL tab_ok mixed n.links (fun _ => True) (fun k => [(29, .d (.v (.int .i64 k))), (28, .d (.v (.int .i64 n.links.length))), (27, .d (.sl 2 (n.links.map encK))), (3, .mref 0)]) (fun k => [.mp 1 false ((n.links.take k).foldl stepG (ents0 n.vpcs, fun x => x)).1]) trivial (weak_forget _ (by simp) (by (try simp only [encT]); rfl) (by (repeat' (first | exact trivial | (refine ⟨rfl, ?_⟩)))) (by first | rfl | simp only [belowH, belowE, belowC, belowL, belowR, belowP, belowL_d, belowR_d, List.length_cons, List.length_nil, Nat.reduceAdd, Nat.reduceLT, decide_true, Bool.and_self, Bool.and_true]) (by first | rfl | simp only [belowH, belowE, belowC, belowL, belowR, belowP, belowL_d, belowR_d, List.length_cons, List.length_nil, Nat.reduceAdd, Nat.reduceLT, decide_true, Bool.and_self, Bool.and_true])) ?_ ?_
    · intro k l hlk hk _ C hC
      have hkI : (k : Int) < (n.links.length : Int) := by omega
      have hwr : IntKind.i64.wrap ((k : Int) + 1) = ((k + 1 : Nat) : Int) := by rw [IntKind.wrap_i64]; omega
      have hs : ((n.links.take (k + 1)).foldl stepG (ents0 n.vpcs, fun x => x)).1 = upE ((n.links.take k).foldl stepG (ents0 n.vpcs, fun x => x)).1 [((n.links.take k).foldl stepG (ents0 n.vpcs, fun x => x)).2 l.b] (((n.links.take k).foldl stepG (ents0 n.vpcs, fun x => x)).2 l.a) := by rw [foldl_snoc hlk]; rfl
      have hm := hl.out l (List.mem_of_getElem? hlk)
      obtain ⟨⟨na, ha⟩, -, -⟩ := hg.out k l.a hm.1
      obtain ⟨⟨nb, hb⟩, -, -⟩ := hg.out k l.b hm.2
      generalize (n.links.take k).foldl stepG (ents0 n.vpcs, fun x => x) = S at *
      have hma := head_m S.1 na l.a (S.2 l.a) ha
      have hmb := head_m S.1 nb l.b (S.2 l.b) hb
      clear ha hb hm
      replace hs := Lib.hid hs
      repeat' (first | (with_reducible refine And.intro ?_ ?_) | (with_reducible refine gK_i (fun _ => ?_) (fun _ => ?_)) | (with_reducible refine condS_i (fun _ => ?_) (fun _ => ?_)) | (with_reducible refine drw_i (by kernel_rfl)) | simp -dsimp only [go_sem, seval, *, encT, encK, hkI, hwr, hlk, undef] | ((with_reducible refine opK_c ?_); simp -dsimp only [go_sem, seval, encT, encK, hkI, hwr, hlk, undef]; first | refine callK_r (by first | assumption | fail) (by first | exact .inl rfl | exact .inr rfl) ?_ | (refine callK_i (by assumption) ?_ ?_ ?_; (solve | (repeat (first | exact DLe.refl _ | exact DLe.nil _ | (refine DLe.tup ?_) | (refine DLe.agg ?_ rfl) | exact trivial | (refine And.intro ?_ ?_)))); (solve | exact .inl rfl | exact .inr rfl))) | (refine opK_M [0] (hmb) ?_ ?_ ?_ ?_ ?_ ?_; (solve | rfl | simp only [go_sem, seval, encK]); (solve | rfl); (solve | decide); (solve | simp); (solve | simp only [go_sem, seval, lentOK, encK])) | (refine opK_M [0] (hma) ?_ ?_ ?_ ?_ ?_ ?_; (solve | rfl | simp only [go_sem, seval, encK]); (solve | rfl); (solve | decide); (solve | simp); (solve | simp only [go_sem, seval, lentOK, encK])) | omega | exact decide_eq_true (by omega) | exact DLe.refl _)
      exact hC _ _ trivial (weak_forget _ (by simp) (by rw [hs.out]; rfl) (by (repeat' (first | exact trivial | (refine ⟨rfl, ?_⟩)))) (by first | rfl | simp only [belowH, belowE, belowC, belowL, belowR, belowP, belowL_d, belowR_d, List.length_cons, List.length_nil, Nat.reduceAdd, Nat.reduceLT, decide_true, Bool.and_self, Bool.and_true]) (by first | rfl | simp only [belowH, belowE, belowC, belowL, belowR, belowP, belowL_d, belowR_d, List.length_cons, List.length_nil, Nat.reduceAdd, Nat.reduceLT, decide_true, Bool.and_self, Bool.and_true]))
    · intro _ C
      rw [List.take_length]
      repeat' (first | (with_reducible refine And.intro ?_ ?_) | (with_reducible refine gK_i (fun _ => ?_) (fun _ => ?_)) | (with_reducible refine condS_i (fun _ => ?_) (fun _ => ?_)) | (with_reducible refine drw_i (by kernel_rfl)) | simp -dsimp only [go_sem, seval, *, encT, Int.lt_irrefl, undef] | ((with_reducible refine opK_c ?_); simp -dsimp only [go_sem, seval, encT, Int.lt_irrefl, undef]; first | refine callK_r (by first | assumption | fail) (by first | exact .inl rfl | exact .inr rfl) ?_ | (refine callK_i (by assumption) ?_ ?_ ?_; (solve | (repeat (first | exact DLe.refl _ | exact DLe.nil _ | (refine DLe.tup ?_) | (refine DLe.agg ?_ rfl) | exact trivial | (refine And.intro ?_ ?_)))); (solve | exact .inl rfl | exact .inr rfl))) | fail | omega | exact decide_eq_true (by omega) | exact DLe.refl _)
      all_goals exact weak_eq rfl rfl
set_option maxRecDepth 100000 in
set_option maxHeartbeats 1000000 in
theorem ofB_m (n : Net) (h1 : n.vpcs.length ≤ 1000000000) (h2 : n.links.length ≤ 1000000000) (hl : ∀ l ∈ n.links, l.a ∈ n.vpcs.map (·.id) ∧ l.b ∈ n.vpcs.map (·.id)) :
    MSpec Tryz.prog 23 [.ptr 0 0] [.box 25 ((encT n).map .d)] (.mref 1) [.box 25 ((encT n).map .d),.mp 1 false (stN n).1] := by
  have hg := Lib.hid (grp_k hl)
  replace hl := Lib.hid hl
  refine ms_i tab_ok mixed Tryz.func23 rfl Tryz.ntmps23 Tryz.results23 (by kernel_rfl) (by simp) (by simp [belowL, belowP]) (by simp [belowH, belowC, belowL, belowP, belowL_d, belowR_d]) ?_
  repeat' (first | (with_reducible refine And.intro ?_ ?_) | (with_reducible refine gK_i (fun _ => ?_) (fun _ => ?_)) | (with_reducible refine condS_i (fun _ => ?_) (fun _ => ?_)) | (with_reducible refine drw_i (by kernel_rfl)) | simp -dsimp only [go_sem, seval, *, encT] | ((with_reducible refine opK_c ?_); simp -dsimp only [go_sem, seval, encT]; first | refine callK_r (by first | assumption | fail) (by first | exact .inl rfl | exact .inr rfl) ?_ | (refine callK_i (by assumption) ?_ ?_ ?_; (solve | (repeat (first | exact DLe.refl _ | exact DLe.nil _ | (refine DLe.tup ?_) | (refine DLe.agg ?_ rfl) | exact trivial | (refine And.intro ?_ ?_)))); (solve | exact .inl rfl | exact .inr rfl))) | fail | omega | exact decide_eq_true (by omega) | exact DLe.refl _)
  refine loopL tab_ok mixed n.vpcs (fun _ => True) (fun k => [(14, .d (.v (.int .i64 k))), (13, .d (.v (.int .i64 n.vpcs.length))), (12, .d (.sl 3 (n.vpcs.map encV))), (3, .mref 1), (0, .ptr 0 0)]) (fun k => [.box 25 ((encT n).map .d),.mp 1 false (ents0 (n.vpcs.take k))]) trivial (weak_forget _ (by simp) (by (try simp only [encT]); rfl) (by (repeat' (first | exact trivial | (refine ⟨rfl, ?_⟩)))) (by first | rfl | simp only [belowH, belowE, belowC, belowL, belowR, belowP, belowL_d, belowR_d, List.length_cons, List.length_nil, Nat.reduceAdd, Nat.reduceLT, decide_true, Bool.and_self, Bool.and_true]) (by first | rfl | simp only [belowH, belowE, belowC, belowL, belowR, belowP, belowL_d, belowR_d, List.length_cons, List.length_nil, Nat.reduceAdd, Nat.reduceLT, decide_true, Bool.and_self, Bool.and_true])) ?_ ?_
  · intro k v hv hk _ C hC
    have hkI : (k : Int) < (n.vpcs.length : Int) := by omega
    have hwr : IntKind.i64.wrap ((k : Int) + 1) = ((k + 1 : Nat) : Int) := by rw [IntKind.wrap_i64]; omega
    have hs : ents0 (n.vpcs.take (k + 1)) = upE (ents0 (n.vpcs.take k)) [v.id] v.id := foldl_snoc hv
    replace hs := Lib.hid hs
    repeat' (first | (with_reducible refine And.intro ?_ ?_) | (with_reducible refine gK_i (fun _ => ?_) (fun _ => ?_)) | (with_reducible refine condS_i (fun _ => ?_) (fun _ => ?_)) | (with_reducible refine drw_i (by kernel_rfl)) | simp -dsimp only [go_sem, seval, *, encT, encV, hkI, hwr, hv, undef] | ((with_reducible refine opK_c ?_); simp -dsimp only [go_sem, seval, encT, encV, hkI, hwr, hv, undef]; first | refine callK_r (by first | assumption | fail) (by first | exact .inl rfl | exact .inr rfl) ?_ | (refine callK_i (by assumption) ?_ ?_ ?_; (solve | (repeat (first | exact DLe.refl _ | exact DLe.nil _ | (refine DLe.tup ?_) | (refine DLe.agg ?_ rfl) | exact trivial | (refine And.intro ?_ ?_)))); (solve | exact .inl rfl | exact .inr rfl))) | fail | omega | exact decide_eq_true (by omega) | exact DLe.refl _)
    exact hC _ _ trivial (weak_forget _ (by simp) (by rw [hs.out]; rfl) (by (repeat' (first | exact trivial | (refine ⟨rfl, ?_⟩)))) (by first | rfl | simp only [belowH, belowE, belowC, belowL, belowR, belowP, belowL_d, belowR_d, List.length_cons, List.length_nil, Nat.reduceAdd, Nat.reduceLT, decide_true, Bool.and_self, Bool.and_true]) (by first | rfl | simp only [belowH, belowE, belowC, belowL, belowR, belowP, belowL_d, belowR_d, List.length_cons, List.length_nil, Nat.reduceAdd, Nat.reduceLT, decide_true, Bool.and_self, Bool.and_true]))
  · intro _ C
    rw [List.take_length]
    repeat' (first | (with_reducible refine And.intro ?_ ?_) | (with_reducible refine gK_i (fun _ => ?_) (fun _ => ?_)) | (with_reducible refine condS_i (fun _ => ?_) (fun _ => ?_)) | (with_reducible refine drw_i (by kernel_rfl)) | simp -dsimp only [go_sem, seval, *, encT, Int.lt_irrefl, undef] | ((with_reducible refine opK_c ?_); simp -dsimp only [go_sem, seval, encT, Int.lt_irrefl, undef]; first | refine callK_r (by first | assumption | fail) (by first | exact .inl rfl | exact .inr rfl) ?_ | (refine callK_i (by assumption) ?_ ?_ ?_; (solve | (repeat (first | exact DLe.refl _ | exact DLe.nil _ | (refine DLe.tup ?_) | (refine DLe.agg ?_ rfl) | exact trivial | (refine And.intro ?_ ?_)))); (solve | exact .inl rfl | exact .inr rfl))) | fail | omega | exact decide_eq_true (by omega) | exact DLe.refl _)
    refine loopL tab_ok mixed n.links (fun _ => True) (fun k => [(29, .d (.v (.int .i64 k))), (28, .d (.v (.int .i64 n.links.length))), (27, .d (.sl 2 (n.links.map encK))), (3, .mref 1)]) (fun k => [.box 25 ((encT n).map .d),.mp 1 false ((n.links.take k).foldl stepG (ents0 n.vpcs, fun x => x)).1]) trivial (weak_forget _ (by simp) (by (try simp only [encT]); rfl) (by (repeat' (first | exact trivial | (refine ⟨rfl, ?_⟩)))) (by first | rfl | simp only [belowH, belowE, belowC, belowL, belowR, belowP, belowL_d, belowR_d, List.length_cons, List.length_nil, Nat.reduceAdd, Nat.reduceLT, decide_true, Bool.and_self, Bool.and_true]) (by first | rfl | simp only [belowH, belowE, belowC, belowL, belowR, belowP, belowL_d, belowR_d, List.length_cons, List.length_nil, Nat.reduceAdd, Nat.reduceLT, decide_true, Bool.and_self, Bool.and_true])) ?_ ?_
    · intro k l hlk hk _ C hC
      have hkI : (k : Int) < (n.links.length : Int) := by omega
      have hwr : IntKind.i64.wrap ((k : Int) + 1) = ((k + 1 : Nat) : Int) := by rw [IntKind.wrap_i64]; omega
      have hs : ((n.links.take (k + 1)).foldl stepG (ents0 n.vpcs, fun x => x)).1 = upE ((n.links.take k).foldl stepG (ents0 n.vpcs, fun x => x)).1 [((n.links.take k).foldl stepG (ents0 n.vpcs, fun x => x)).2 l.b] (((n.links.take k).foldl stepG (ents0 n.vpcs, fun x => x)).2 l.a) := by rw [foldl_snoc hlk]; rfl
      have hm := hl.out l (List.mem_of_getElem? hlk)
      obtain ⟨⟨na, ha⟩, -, -⟩ := hg.out k l.a hm.1
      obtain ⟨⟨nb, hb⟩, -, -⟩ := hg.out k l.b hm.2
      generalize (n.links.take k).foldl stepG (ents0 n.vpcs, fun x => x) = S at *
      have hma := head_m S.1 na l.a (S.2 l.a) ha
      have hmb := head_m S.1 nb l.b (S.2 l.b) hb
      clear ha hb hm
      replace hs := Lib.hid hs
      repeat' (first | (with_reducible refine And.intro ?_ ?_) | (with_reducible refine gK_i (fun _ => ?_) (fun _ => ?_)) | (with_reducible refine condS_i (fun _ => ?_) (fun _ => ?_)) | (with_reducible refine drw_i (by kernel_rfl)) | simp -dsimp only [go_sem, seval, *, encT, encK, hkI, hwr, hlk, undef] | ((with_reducible refine opK_c ?_); simp -dsimp only [go_sem, seval, encT, encK, hkI, hwr, hlk, undef]; first | refine callK_r (by first | assumption | fail) (by first | exact .inl rfl | exact .inr rfl) ?_ | (refine callK_i (by assumption) ?_ ?_ ?_; (solve | (repeat (first | exact DLe.refl _ | exact DLe.nil _ | (refine DLe.tup ?_) | (refine DLe.agg ?_ rfl) | exact trivial | (refine And.intro ?_ ?_)))); (solve | exact .inl rfl | exact .inr rfl))) | (refine opK_M [1] (hmb) ?_ ?_ ?_ ?_ ?_ ?_; (solve | rfl | simp only [go_sem, seval, encK]); (solve | rfl); (solve | decide); (solve | simp); (solve | simp only [go_sem, seval, lentOK, encK])) | (refine opK_M [1] (hma) ?_ ?_ ?_ ?_ ?_ ?_; (solve | rfl | simp only [go_sem, seval, encK]); (solve | rfl); (solve | decide); (solve | simp); (solve | simp only [go_sem, seval, lentOK, encK])) | omega | exact decide_eq_true (by omega) | exact DLe.refl _)
      exact hC _ _ trivial (weak_forget _ (by simp) (by rw [hs.out]; rfl) (by (repeat' (first | exact trivial | (refine ⟨rfl, ?_⟩)))) (by first | rfl | simp only [belowH, belowE, belowC, belowL, belowR, belowP, belowL_d, belowR_d, List.length_cons, List.length_nil, Nat.reduceAdd, Nat.reduceLT, decide_true, Bool.and_self, Bool.and_true]) (by first | rfl | simp only [belowH, belowE, belowC, belowL, belowR, belowP, belowL_d, belowR_d, List.length_cons, List.length_nil, Nat.reduceAdd, Nat.reduceLT, decide_true, Bool.and_self, Bool.and_true]))
    · intro _ C
      rw [List.take_length]
      repeat' (first | (with_reducible refine And.intro ?_ ?_) | (with_reducible refine gK_i (fun _ => ?_) (fun _ => ?_)) | (with_reducible refine condS_i (fun _ => ?_) (fun _ => ?_)) | (with_reducible refine drw_i (by kernel_rfl)) | simp -dsimp only [go_sem, seval, *, encT, Int.lt_irrefl, undef] | ((with_reducible refine opK_c ?_); simp -dsimp only [go_sem, seval, encT, Int.lt_irrefl, undef]; first | refine callK_r (by first | assumption | fail) (by first | exact .inl rfl | exact .inr rfl) ?_ | (refine callK_i (by assumption) ?_ ?_ ?_; (solve | (repeat (first | exact DLe.refl _ | exact DLe.nil _ | (refine DLe.tup ?_) | (refine DLe.agg ?_ rfl) | exact trivial | (refine And.intro ?_ ?_)))); (solve | exact .inl rfl | exact .inr rfl))) | fail | omega | exact decide_eq_true (by omega) | exact DLe.refl _)
      all_goals exact weak_eq rfl rfl
end Go.Proofs.YtgmbhaclogabeaaGreat
namespace Go.Proofs.YtgmbhaclogabeaaGreat
open Go Go.RowKit
def headN (n : Net) : Int → Int := (stN n).2
/-- Two networks of one group that clash. -/
def foeN (n : Net) (v w : Vpc) : Bool := (headN n v.id == headN n w.id) && clashV v w
/-- Is there peace in a net? -/
def peaceN (n : Net) : Bool := (List.range n.vpcs.length).all fun k => match n.vpcs[k]? with | some v => (n.vpcs.take k).all fun w => !foeN n v w | none => true
theorem peace_bad {n : Net} {i j : Nat} {v w : Vpc} (hij : j < i) (hv : n.vpcs[i]? = some v) (hw : n.vpcs[j]? = some w) (h : foeN n v w = true) : peaceN n = false := by
  unfold peaceN
  rw [List.all_eq_false]
  refine ⟨i, List.mem_range.2 (List.getElem?_eq_some_iff.1 hv).1, ?_⟩
  rw [hv]
  simp only [Bool.not_eq_true, List.all_eq_false]
  exact ⟨w, List.mem_of_getElem? (i := j) (by rw [List.getElem?_take_of_lt hij]; exact hw), by rw [h]; simp⟩
theorem peace_good {n : Net} (h : ∀ (i : Nat) (v w : Vpc), n.vpcs[i]? = some v → w ∈ n.vpcs.take i → foeN n v w = false) : peaceN n = true := by
  unfold peaceN
  rw [List.all_eq_true]
  intro i hi
  have hl := List.mem_range.1 hi
  rw [List.getElem?_eq_getElem hl]
  simp only [List.all_eq_true]
  intro w hw
  rw [h i _ w (List.getElem?_eq_getElem hl) hw]; rfl
end Go.Proofs.YtgmbhaclogabeaaGreat
namespace Go.Proofs.YtgmbhaclogabeaaGreat
open Go Go.RowKit
set_option maxRecDepth 100000 in
set_option maxHeartbeats 1000000 in
theorem peace_p (n : Net) (h1 : n.vpcs.length ≤ 1000000000) (h2 : n.links.length ≤ 1000000000) (hr : ∀ v ∈ n.vpcs, v.ranges.length ≤ 1000000000) (hl : ∀ l ∈ n.links, l.a ∈ n.vpcs.map (·.id) ∧ l.b ∈ n.vpcs.map (·.id)) :
    PSpec Tryz.prog 30 [.ept (encT n)] (.v (.bool (peaceN n))) := by
  have hof := of_m n h1 h2 hl
  have hg : ∀ x ∈ n.vpcs.map (·.id), ∃ k, HeadIs (stN n).1 k x (headN n x) := fun x hx => by
    have := (grp_k hl n.links.length x (by exact hx)).1
    rwa [List.take_length] at this
  replace hg := Lib.hid hg
  replace hr := Lib.hid hr
  clear hl
  obtain ⟨R, hR⟩ : ∃ R, R = peaceN n := ⟨_, rfl⟩
  rw [← hR]
  replace hR := Lib.hid hR
  generalize (stN n).1 = E at *
  refine ps_i tab_ok mixed Tryz.func30 rfl Tryz.ntmps30 Tryz.results30 (by kernel_rfl) ?_
  repeat' (first | (with_reducible refine And.intro ?_ ?_) | (with_reducible refine gK_i (fun _ => ?_) (fun _ => ?_)) | (with_reducible refine condS_i (fun _ => ?_) (fun _ => ?_)) | (with_reducible refine drw_i (by kernel_rfl)) | simp -dsimp only [go_sem, seval, *, encT] | ((with_reducible refine opK_c ?_); simp -dsimp only [go_sem, seval, encT]; first | refine callK_r (by first | assumption | fail) (by first | exact .inl rfl | exact .inr rfl) ?_ | (refine callK_i (by assumption) ?_ ?_ ?_; (solve | (repeat (first | exact DLe.refl _ | exact DLe.nil _ | (refine DLe.tup ?_) | (refine DLe.agg ?_ rfl) | exact trivial | (refine And.intro ?_ ?_)))); (solve | exact .inl rfl | exact .inr rfl))) | (refine opK_M [] (hof) ?_ ?_ ?_ ?_ ?_ ?_; (solve | rfl | simp only [go_sem, seval, encT]); (solve | rfl); (solve | decide); (solve | simp); (solve | simp only [go_sem, seval, lentOK, encT])) | omega | exact decide_eq_true (by omega) | exact DLe.refl _)
  clear hof
  refine loopL tab_ok mixed n.vpcs (fun k => ∀ (i : Nat) (v w : Vpc), i < k → n.vpcs[i]? = some v → w ∈ n.vpcs.take i → foeN n v w = false) (fun k => [(15, .d (.v (.int .i64 k))), (14, .d (.v (.int .i64 n.vpcs.length))), (13, .d (.sl 3 (n.vpcs.map encV))), (3, .mref 0), (2, .d (.v (.bool false))), (0, .d (.ept (encT n)))]) (fun _ => [.mp 1 false E]) (fun i v w h => absurd h (Nat.not_lt_zero _)) (weak_forget _ (by simp) (by (try simp only [encT]); rfl) (by (repeat' (first | exact trivial | (refine ⟨rfl, ?_⟩)))) (by first | rfl | simp only [belowH, belowE, belowC, belowL, belowR, belowP, belowL_d, belowR_d, List.length_cons, List.length_nil, Nat.reduceAdd, Nat.reduceLT, decide_true, Bool.and_self, Bool.and_true]) (by first | rfl | simp only [belowH, belowE, belowC, belowL, belowR, belowP, belowL_d, belowR_d, List.length_cons, List.length_nil, Nat.reduceAdd, Nat.reduceLT, decide_true, Bool.and_self, Bool.and_true])) ?_ ?_
  · intro k v hv hk hI C hC
    have hkI : (k : Int) < (n.vpcs.length : Int) := by omega
    have hwr : IntKind.i64.wrap ((k : Int) + 1) = ((k + 1 : Nat) : Int) := by rw [IntKind.wrap_i64]; omega
    have hkl : k ≤ n.vpcs.length := by omega
    have hvm := List.mem_of_getElem? hv
    have hrv := hr.out v hvm
    obtain ⟨nv, hhv⟩ := hg.out v.id (List.mem_map.2 ⟨v, hvm, rfl⟩)
    have hmv := head_m E nv v.id (headN n v.id) hhv
    have hlt : (n.vpcs.take k).length = k := by rw [List.length_take]; omega
    have hlt2 : ((n.vpcs.map encV).take k).length = k := by rw [← List.map_take, List.length_map]; exact hlt
    clear hhv
    replace hI := Lib.hid hI
    repeat' (first | (with_reducible refine And.intro ?_ ?_) | (with_reducible refine gK_i (fun _ => ?_) (fun _ => ?_)) | (with_reducible refine condS_i (fun _ => ?_) (fun _ => ?_)) | (with_reducible refine drw_i (by kernel_rfl)) | simp -dsimp only [go_sem, seval, *, encT, encV, hkI, hv, hkl, hlt2, undef] | ((with_reducible refine opK_c ?_); simp -dsimp only [go_sem, seval, encT, encV, hkI, hv, hkl, hlt2, undef]; first | refine callK_r (by first | assumption | fail) (by first | exact .inl rfl | exact .inr rfl) ?_ | (refine callK_i (by assumption) ?_ ?_ ?_; (solve | (repeat (first | exact DLe.refl _ | exact DLe.nil _ | (refine DLe.tup ?_) | (refine DLe.agg ?_ rfl) | exact trivial | (refine And.intro ?_ ?_)))); (solve | exact .inl rfl | exact .inr rfl))) | fail | omega | exact decide_eq_true (by omega) | exact DLe.refl _)
    refine loopL tab_ok mixed (n.vpcs.take k) (fun j => ∀ w ∈ (n.vpcs.take k).take j, foeN n v w = false) (fun j => [(27, .d (.v (.int .i64 j))), (26, .d (.v (.int .i64 k))), (25, .d (.sl 3 ((n.vpcs.map encV).take k))), (5, .ptr 1 0), (15, .d (.v (.int .i64 k))), (14, .d (.v (.int .i64 n.vpcs.length))), (13, .d (.sl 3 (n.vpcs.map encV))), (3, .mref 0), (2, .d (.v (.bool false))), (0, .d (.ept (encT n)))]) (fun _ => [.mp 1 false E, .box 56 ((encV v).map .d)]) (fun w hw => by simp at hw) (weak_forget _ (by simp) (by (try simp only [encT, encV]); rfl) (by (repeat' (first | exact trivial | (refine ⟨rfl, ?_⟩)))) (by first | rfl | simp only [belowH, belowE, belowC, belowL, belowR, belowP, belowL_d, belowR_d, List.length_cons, List.length_nil, Nat.reduceAdd, Nat.reduceLT, decide_true, Bool.and_self, Bool.and_true]) (by first | rfl | simp only [belowH, belowE, belowC, belowL, belowR, belowP, belowL_d, belowR_d, List.length_cons, List.length_nil, Nat.reduceAdd, Nat.reduceLT, decide_true, Bool.and_self, Bool.and_true])) ?_ ?_
    · intro j w hw hj hJ C2 hC2
      have hjI : (j : Int) < (k : Int) := by omega
      have hw3 : ((n.vpcs.map encV).take k)[j]? = some (encV w) := by rw [← List.map_take, List.getElem?_map, hw]; rfl
      have hwj : IntKind.i64.wrap ((j : Int) + 1) = ((j + 1 : Nat) : Int) := by rw [IntKind.wrap_i64]; omega
      have hjk : j < k := by omega
      have hw2 : n.vpcs[j]? = some w := by rw [List.getElem?_take_of_lt hjk] at hw; exact hw
      have hwm := List.mem_of_getElem? hw2
      have hrw := hr.out w hwm
      obtain ⟨nw, hhw⟩ := hg.out w.id (List.mem_map.2 ⟨w, hwm, rfl⟩)
      have hmw := head_m E nw w.id (headN n w.id) hhw
      have hcl := clash_p v w hrv hrw
      have hbad : foeN n v w = true → R = false := fun h => by rw [hR.out]; exact peace_bad hjk hv hw2 h
      have hstep : foeN n v w = false → ∀ u ∈ (n.vpcs.take k).take (j + 1), foeN n v u = false := fun h u hu => by
        rw [take_snoc hw] at hu
        rcases List.mem_append.1 hu with hu | hu
        · exact hJ u hu
        · rw [List.mem_singleton.1 hu]; exact h
      have hfd : foeN n v w = ((headN n v.id == headN n w.id) && clashV v w) := rfl
      clear hhw hlt hlt2
      replace hbad := Lib.hid hbad
      replace hstep := Lib.hid hstep
      replace hfd := Lib.hid hfd
      replace hJ := Lib.hid hJ
      replace hw := Lib.hid hw
      generalize (n.vpcs.map encV).take k = L at *
      cases e1 : (headN n v.id == headN n w.id) with
      | false =>
        have hf := Lib.hid (hstep.out (by rw [hfd.out, e1]; rfl))
        repeat' (first | (with_reducible refine And.intro ?_ ?_) | (with_reducible refine gK_i (fun _ => ?_) (fun _ => ?_)) | (with_reducible refine condS_i (fun _ => ?_) (fun _ => ?_)) | (with_reducible refine drw_i (by kernel_rfl)) | simp -dsimp only [go_sem, seval, *, encV, hjI, hwj, hw3, e1, undef] | ((with_reducible refine opK_c ?_); simp -dsimp only [go_sem, seval, encV, hjI, hwj, hw3, e1, undef]; first | refine callK_r (by first | assumption | fail) (by first | exact .inl rfl | exact .inr rfl) ?_ | (refine callK_i (by assumption) ?_ ?_ ?_; (solve | (repeat (first | exact DLe.refl _ | exact DLe.nil _ | (refine DLe.tup ?_) | (refine DLe.agg ?_ rfl) | exact trivial | (refine And.intro ?_ ?_)))); (solve | exact .inl rfl | exact .inr rfl))) | (refine opK_M [0] (hmv) ?_ ?_ ?_ ?_ ?_ ?_; (solve | rfl | simp only [go_sem, seval, encV]); (solve | rfl); (solve | decide); (solve | simp); (solve | simp only [go_sem, seval, lentOK, encV])) | (refine opK_M [0] (hmw) ?_ ?_ ?_ ?_ ?_ ?_; (solve | rfl | simp only [go_sem, seval, encV]); (solve | rfl); (solve | decide); (solve | simp); (solve | simp only [go_sem, seval, lentOK, encV])) | omega | exact decide_eq_true (by omega) | exact DLe.refl _)
        exact hC2 _ _ hf.out (weak_forget _ (by simp) (by (try simp only [encT, encV]); rfl) (by (repeat' (first | exact trivial | (refine ⟨rfl, ?_⟩)))) (by first | rfl | simp only [belowH, belowE, belowC, belowL, belowR, belowP, belowL_d, belowR_d, List.length_cons, List.length_nil, Nat.reduceAdd, Nat.reduceLT, decide_true, Bool.and_self, Bool.and_true]) (by first | rfl | simp only [belowH, belowE, belowC, belowL, belowR, belowP, belowL_d, belowR_d, List.length_cons, List.length_nil, Nat.reduceAdd, Nat.reduceLT, decide_true, Bool.and_self, Bool.and_true]))
      | true =>
        cases e2 : clashV v w with
        | true =>
          have hb : R = false := hbad.out (by rw [hfd.out, e1, e2]; rfl)
          rw [hb]
          replace hb := Lib.hid hb
          rw [e2] at hcl
          repeat' (first | (with_reducible refine And.intro ?_ ?_) | (with_reducible refine gK_i (fun _ => ?_) (fun _ => ?_)) | (with_reducible refine condS_i (fun _ => ?_) (fun _ => ?_)) | (with_reducible refine drw_i (by kernel_rfl)) | simp -dsimp only [go_sem, seval, *, encV, hjI, hwj, hw3, e1, undef] | ((with_reducible refine opK_c ?_); simp -dsimp only [go_sem, seval, encV, hjI, hwj, hw3, e1, undef]; first | refine callK_r (by first | assumption | exact hcl) (by first | exact .inl rfl | exact .inr rfl) ?_ | (refine callK_i (by assumption) ?_ ?_ ?_; (solve | (repeat (first | exact DLe.refl _ | exact DLe.nil _ | (refine DLe.tup ?_) | (refine DLe.agg ?_ rfl) | exact trivial | (refine And.intro ?_ ?_)))); (solve | exact .inl rfl | exact .inr rfl))) | (refine opK_M [0] (hmv) ?_ ?_ ?_ ?_ ?_ ?_; (solve | rfl | simp only [go_sem, seval, encV]); (solve | rfl); (solve | decide); (solve | simp); (solve | simp only [go_sem, seval, lentOK, encV])) | (refine opK_M [0] (hmw) ?_ ?_ ?_ ?_ ?_ ?_; (solve | rfl | simp only [go_sem, seval, encV]); (solve | rfl); (solve | decide); (solve | simp); (solve | simp only [go_sem, seval, lentOK, encV])) | omega | exact decide_eq_true (by omega) | exact DLe.refl _)
          all_goals exact DLe.refl _
        | false =>
          have hf := Lib.hid (hstep.out (by rw [hfd.out, e1, e2]; rfl))
          rw [e2] at hcl
          repeat' (first | (with_reducible refine And.intro ?_ ?_) | (with_reducible refine gK_i (fun _ => ?_) (fun _ => ?_)) | (with_reducible refine condS_i (fun _ => ?_) (fun _ => ?_)) | (with_reducible refine drw_i (by kernel_rfl)) | simp -dsimp only [go_sem, seval, *, encV, hjI, hwj, hw3, e1, undef] | ((with_reducible refine opK_c ?_); simp -dsimp only [go_sem, seval, encV, hjI, hwj, hw3, e1, undef]; first | refine callK_r (by first | assumption | exact hcl) (by first | exact .inl rfl | exact .inr rfl) ?_ | (refine callK_i (by assumption) ?_ ?_ ?_; (solve | (repeat (first | exact DLe.refl _ | exact DLe.nil _ | (refine DLe.tup ?_) | (refine DLe.agg ?_ rfl) | exact trivial | (refine And.intro ?_ ?_)))); (solve | exact .inl rfl | exact .inr rfl))) | (refine opK_M [0] (hmv) ?_ ?_ ?_ ?_ ?_ ?_; (solve | rfl | simp only [go_sem, seval, encV]); (solve | rfl); (solve | decide); (solve | simp); (solve | simp only [go_sem, seval, lentOK, encV])) | (refine opK_M [0] (hmw) ?_ ?_ ?_ ?_ ?_ ?_; (solve | rfl | simp only [go_sem, seval, encV]); (solve | rfl); (solve | decide); (solve | simp); (solve | simp only [go_sem, seval, lentOK, encV])) | omega | exact decide_eq_true (by omega) | exact DLe.refl _)
          exact hC2 _ _ hf.out (weak_forget _ (by simp) (by (try simp only [encT, encV]); rfl) (by (repeat' (first | exact trivial | (refine ⟨rfl, ?_⟩)))) (by first | rfl | simp only [belowH, belowE, belowC, belowL, belowR, belowP, belowL_d, belowR_d, List.length_cons, List.length_nil, Nat.reduceAdd, Nat.reduceLT, decide_true, Bool.and_self, Bool.and_true]) (by first | rfl | simp only [belowH, belowE, belowC, belowL, belowR, belowP, belowL_d, belowR_d, List.length_cons, List.length_nil, Nat.reduceAdd, Nat.reduceLT, decide_true, Bool.and_self, Bool.and_true]))
    · intro hJ C2
      rw [List.take_length] at hJ
      have hI2 : ∀ (i : Nat) (u w : Vpc), i < k + 1 → n.vpcs[i]? = some u → w ∈ n.vpcs.take i → foeN n u w = false := fun i u w hi hu hw => by
        rcases Nat.lt_or_ge i k with h | h
        · exact hI.out i u w h hu hw
        · obtain rfl : i = k := by omega
          rw [hv] at hu
          rw [← Option.some.inj hu]
          exact hJ w hw
      replace hI2 := Lib.hid hI2
      replace hJ := Lib.hid hJ
      rw [hlt]
      repeat' (first | (with_reducible refine And.intro ?_ ?_) | (with_reducible refine gK_i (fun _ => ?_) (fun _ => ?_)) | (with_reducible refine condS_i (fun _ => ?_) (fun _ => ?_)) | (with_reducible refine drw_i (by kernel_rfl)) | simp -dsimp only [go_sem, seval, *, encT, hwr, Int.lt_irrefl, undef] | ((with_reducible refine opK_c ?_); simp -dsimp only [go_sem, seval, encT, hwr, Int.lt_irrefl, undef]; first | refine callK_r (by first | assumption | fail) (by first | exact .inl rfl | exact .inr rfl) ?_ | (refine callK_i (by assumption) ?_ ?_ ?_; (solve | (repeat (first | exact DLe.refl _ | exact DLe.nil _ | (refine DLe.tup ?_) | (refine DLe.agg ?_ rfl) | exact trivial | (refine And.intro ?_ ?_)))); (solve | exact .inl rfl | exact .inr rfl))) | fail | omega | exact decide_eq_true (by omega) | exact DLe.refl _)
      exact hC _ _ hI2.out (weak_forget _ (by simp) (by (try simp only [encT]); rfl) (by (repeat' (first | exact trivial | (refine ⟨rfl, ?_⟩)))) (by first | rfl | simp only [belowH, belowE, belowC, belowL, belowR, belowP, belowL_d, belowR_d, List.length_cons, List.length_nil, Nat.reduceAdd, Nat.reduceLT, decide_true, Bool.and_self, Bool.and_true]) (by first | rfl | simp only [belowH, belowE, belowC, belowL, belowR, belowP, belowL_d, belowR_d, List.length_cons, List.length_nil, Nat.reduceAdd, Nat.reduceLT, decide_true, Bool.and_self, Bool.and_true]))
  · intro hI C
    have hb : R = true := by
      rw [hR.out]
      exact peace_good fun i v w hv hw => hI i v w (List.getElem?_eq_some_iff.1 hv).1 hv hw
    rw [hb]
    replace hb := Lib.hid hb
    replace hI := Lib.hid hI
    repeat' (first | (with_reducible refine And.intro ?_ ?_) | (with_reducible refine gK_i (fun _ => ?_) (fun _ => ?_)) | (with_reducible refine condS_i (fun _ => ?_) (fun _ => ?_)) | (with_reducible refine drw_i (by kernel_rfl)) | simp -dsimp only [go_sem, seval, *, encT, Int.lt_irrefl, undef] | ((with_reducible refine opK_c ?_); simp -dsimp only [go_sem, seval, encT, Int.lt_irrefl, undef]; first | refine callK_r (by first | assumption | fail) (by first | exact .inl rfl | exact .inr rfl) ?_ | (refine callK_i (by assumption) ?_ ?_ ?_; (solve | (repeat (first | exact DLe.refl _ | exact DLe.nil _ | (refine DLe.tup ?_) | (refine DLe.agg ?_ rfl) | exact trivial | (refine And.intro ?_ ?_)))); (solve | exact .inl rfl | exact .inr rfl))) | fail | omega | exact decide_eq_true (by omega) | exact DLe.refl _)
    all_goals exact DLe.refl _
end Go.Proofs.YtgmbhaclogabeaaGreat
namespace Go.Proofs.YtgmbhaclogabeaaGreat
open Go Go.RowKit
def lnkB (n : Net) (l : Lnk) : Bool := (findN n l.a).isSome && ((findN n l.b).isSome && decide (l.a < l.b))
def risK : List Lnk → Bool
  | l :: m :: ls => decide (ordK l m < 0) && risK (m :: ls)
  | _ => true
theorem risK_at : ∀ (l : List Lnk), risK l = true ↔ ∀ j (h : j + 1 < l.length), ordK l[j] l[j + 1] < 0
  | [] => by simp [risK]
  | [a] => by simp [risK]
  | a :: b :: l => by
    have ih := risK_at (b :: l)
    simp only [risK, Bool.and_eq_true, decide_eq_true_eq, ih]
    constructor
    · rintro ⟨h1, h2⟩ j hj
      cases j with
      | zero => exact h1
      | succ j => exact h2 j (by simpa using hj)
    · intro h
      exact ⟨h 0 (by simp), fun j hj => h (j + 1) (by simpa using hj)⟩
def vpcsB (n : Net) : Bool := n.vpcs.all (fun v => chkV v == 0) && risB (·.id) n.vpcs
def chkT (n : Net) : Int := if n.vpcs.length > 6 ∨ n.links.length > 12 then 2 else if vpcsB n && (n.links.all (lnkB n) && (risK n.links && peaceN n)) then 0 else 1
theorem find_ids {n : Net} {x : Int} (h : (findN n x).isSome = true) : x ∈ n.vpcs.map (·.id) := by
  obtain ⟨v, hv⟩ := Option.isSome_iff_exists.1 h
  unfold findN at hv
  have h1 := List.mem_of_find?_eq_some hv
  have h2 := List.find?_some hv
  exact List.mem_map.2 ⟨v, h1, by simpa using h2⟩
theorem chkT_one {n : Net} (h0 : ¬ (n.vpcs.length > 6 ∨ n.links.length > 12)) (h : vpcsB n = false ∨ n.links.all (lnkB n) = false ∨ risK n.links = false ∨ peaceN n = false) : chkT n = 1 := by
  unfold chkT
  rw [if_neg h0]
  rcases h with h | h | h | h <;> simp [h]
theorem chkT_zero {n : Net} (h0 : ¬ (n.vpcs.length > 6 ∨ n.links.length > 12)) (h1 : vpcsB n = true) (h2 : n.links.all (lnkB n) = true) (h3 : risK n.links = true) (h4 : peaceN n = true) : chkT n = 0 := by
  unfold chkT
  rw [if_neg h0, h1, h2, h3, h4]; rfl
end Go.Proofs.YtgmbhaclogabeaaGreat
namespace Go.Proofs.YtgmbhaclogabeaaGreat
open Go Go.RowKit
def lastV (l : List Vpc) : Int := (l.getLast?.map (·.id)).getD 0
theorem lastV_snoc (l : List Vpc) (v : Vpc) : lastV (l ++ [v]) = v.id := by simp [lastV]
theorem lastV_pair {l : List Vpc} (hs : l.Pairwise fun a b => a.id < b.id) {v : Vpc} (h : lastV l < v.id) : (l ++ [v]).Pairwise fun a b => a.id < b.id := by
  rw [List.pairwise_append]
  refine ⟨hs, by simp, fun a ha b hb => ?_⟩
  rw [List.mem_singleton.1 hb]
  rcases List.eq_nil_or_concat l with rfl | ⟨l', x, rfl⟩
  · cases ha
  · rw [List.concat_eq_append] at *
    rw [lastV_snoc] at h
    rw [List.pairwise_append] at hs
    rcases List.mem_append.1 ha with ha | ha
    · have := hs.2.2 a ha x (by simp); omega
    · rw [List.mem_singleton.1 ha]; exact h
theorem lastV_bad {l : List Vpc} {v : Vpc} (hv : 1 ≤ v.id) (h : v.id ≤ lastV l) : ¬ (l ++ [v]).Pairwise fun a b => a.id < b.id := by
  intro hp
  rw [List.pairwise_append] at hp
  rcases List.eq_nil_or_concat l with rfl | ⟨l', x, rfl⟩
  · simp [lastV] at h; omega
  · rw [List.concat_eq_append] at *
    rw [lastV_snoc] at h
    have := hp.2.2 x (by simp) v (by simp); omega
theorem vpcsB_take {n : Net} (h : vpcsB n = true) (k : Nat) : (∀ v ∈ n.vpcs.take k, chkV v = 0) ∧ (n.vpcs.take k).Pairwise fun a b => a.id < b.id := by
  unfold vpcsB at h
  simp only [Bool.and_eq_true, List.all_eq_true, risB_pair, beq_iff_eq] at h
  exact ⟨fun v hv => h.1 v (List.mem_of_mem_take hv), h.2.sublist (List.take_sublist _ _)⟩
theorem vpcsB_of {n : Net} (h1 : ∀ v ∈ n.vpcs, chkV v = 0) (h2 : n.vpcs.Pairwise fun a b => a.id < b.id) : vpcsB n = true := by
  unfold vpcsB
  simp only [Bool.and_eq_true, List.all_eq_true, risB_pair, beq_iff_eq]
  exact ⟨h1, h2⟩
theorem risK_snoc : ∀ (l : List Lnk) (x : Lnk), risK (l ++ [x]) = (risK l && (match l.getLast? with | some y => decide (ordK y x < 0) | none => true))
  | [], x => rfl
  | [a], x => by simp [risK]
  | a :: b :: l, x => by
    have ih := risK_snoc (b :: l) x
    have e : (a :: b :: l).getLast? = (b :: l).getLast? := by simp [List.getLast?_cons_cons]
    rw [List.cons_append, List.cons_append, risK, ← List.cons_append, ih, e, risK, Bool.and_assoc]
theorem risK_take {l : List Lnk} (h : risK l = true) (k : Nat) : risK (l.take k) = true := by
  rw [risK_at] at h ⊢
  intro j hj
  rw [List.getElem_take, List.getElem_take]
  exact h j (by rw [List.length_take] at hj; omega)
theorem last_take {α : Type} {l : List α} {j : Nat} {y : α} (h : l[j]? = some y) : (l.take (j + 1)).getLast? = some y := by rw [take_snoc h]; simp
set_option maxRecDepth 100000 in
set_option maxHeartbeats 2000000 in
theorem ncheck_p (n : Net) : PSpec Tryz.prog 15 [.agg (encT n)] (.v (.int .i64 (chkT n))) := by
  obtain ⟨R, hR⟩ : ∃ R, R = chkT n := ⟨_, rfl⟩
  rw [← hR]
  replace hR := Lib.hid hR
  by_cases h6 : n.vpcs.length > 6
  · have h6I : decide ((n.vpcs.length : Int) > 6) = true := by simp; omega
    have hr : R = 2 := by rw [hR.out, chkT, if_pos (.inl h6)]
    rw [hr]
    replace hr := Lib.hid hr
    refine ps_i tab_ok mixed Tryz.func15 rfl Tryz.ntmps15 Tryz.results15 (by kernel_rfl) ?_
    repeat' (first | (with_reducible refine And.intro ?_ ?_) | (with_reducible refine gK_i (fun _ => ?_) (fun _ => ?_)) | (with_reducible refine condS_i (fun _ => ?_) (fun _ => ?_)) | (with_reducible refine drw_i (by kernel_rfl)) | simp -dsimp only [go_sem, seval, *, encT, h6I, undef] | ((with_reducible refine opK_c ?_); simp -dsimp only [go_sem, seval, encT, h6I, undef]; first | refine callK_r (by first | assumption | fail) (by first | exact .inl rfl | exact .inr rfl) ?_ | (refine callK_i (by assumption) ?_ ?_ ?_; (solve | (repeat (first | exact DLe.refl _ | exact DLe.nil _ | (refine DLe.tup ?_) | (refine DLe.agg ?_ rfl) | exact trivial | (refine And.intro ?_ ?_)))); (solve | exact .inl rfl | exact .inr rfl))) | fail | omega | exact decide_eq_true (by omega) | exact DLe.refl _)
    all_goals exact DLe.refl _
  by_cases h12 : n.links.length > 12
  · have h6I : decide ((n.vpcs.length : Int) > 6) = false := by simp; omega
    have h12I : decide ((n.links.length : Int) > 12) = true := by simp; omega
    have hr : R = 2 := by rw [hR.out, chkT, if_pos (.inr h12)]
    rw [hr]
    replace hr := Lib.hid hr
    refine ps_i tab_ok mixed Tryz.func15 rfl Tryz.ntmps15 Tryz.results15 (by kernel_rfl) ?_
    repeat' (first | (with_reducible refine And.intro ?_ ?_) | (with_reducible refine gK_i (fun _ => ?_) (fun _ => ?_)) | (with_reducible refine condS_i (fun _ => ?_) (fun _ => ?_)) | (with_reducible refine drw_i (by kernel_rfl)) | simp -dsimp only [go_sem, seval, *, encT, h6I, h12I, undef] | ((with_reducible refine opK_c ?_); simp -dsimp only [go_sem, seval, encT, h6I, h12I, undef]; first | refine callK_r (by first | assumption | fail) (by first | exact .inl rfl | exact .inr rfl) ?_ | (refine callK_i (by assumption) ?_ ?_ ?_; (solve | (repeat (first | exact DLe.refl _ | exact DLe.nil _ | (refine DLe.tup ?_) | (refine DLe.agg ?_ rfl) | exact trivial | (refine And.intro ?_ ?_)))); (solve | exact .inl rfl | exact .inr rfl))) | fail | omega | exact decide_eq_true (by omega) | exact DLe.refl _)
    all_goals exact DLe.refl _
  have h6I : decide ((n.vpcs.length : Int) > 6) = false := by simp; omega
  have h12I : decide ((n.links.length : Int) > 12) = false := by simp; omega
  have hno : ¬ (n.vpcs.length > 6 ∨ n.links.length > 12) := by omega
  refine ps_i tab_ok mixed Tryz.func15 rfl Tryz.ntmps15 Tryz.results15 (by kernel_rfl) ?_
  repeat' (first | (with_reducible refine And.intro ?_ ?_) | (with_reducible refine gK_i (fun _ => ?_) (fun _ => ?_)) | (with_reducible refine condS_i (fun _ => ?_) (fun _ => ?_)) | (with_reducible refine drw_i (by kernel_rfl)) | simp -dsimp only [go_sem, seval, *, encT, h6I, h12I, undef] | ((with_reducible refine opK_c ?_); simp -dsimp only [go_sem, seval, encT, h6I, h12I, undef]; first | refine callK_r (by first | assumption | fail) (by first | exact .inl rfl | exact .inr rfl) ?_ | (refine callK_i (by assumption) ?_ ?_ ?_; (solve | (repeat (first | exact DLe.refl _ | exact DLe.nil _ | (refine DLe.tup ?_) | (refine DLe.agg ?_ rfl) | exact trivial | (refine And.intro ?_ ?_)))); (solve | exact .inl rfl | exact .inr rfl))) | fail | omega | exact decide_eq_true (by omega) | exact DLe.refl _)
  refine loopL tab_ok mixed n.vpcs (fun k => (∀ v ∈ n.vpcs.take k, chkV v = 0) ∧ (n.vpcs.take k).Pairwise fun a b => a.id < b.id) (fun k => [(25, .d (.v (.int .i64 k))), (24, .d (.v (.int .i64 n.vpcs.length))), (23, .d (.sl 3 (n.vpcs.map encV))), (3, .d (.v (.int .i64 (lastV (n.vpcs.take k))))), (2, .d (.v (.int .i64 0))), (1, .ptr 0 0)]) (fun _ => [.box 25 ((encT n).map .d)]) (by simp) (weak_forget _ (by simp) (by (try simp only [encT]); rfl) (by (repeat' (first | exact trivial | (refine ⟨rfl, ?_⟩)))) (by first | rfl | simp only [belowH, belowE, belowC, belowL, belowR, belowP, belowL_d, belowR_d, List.length_cons, List.length_nil, Nat.reduceAdd, Nat.reduceLT, decide_true, Bool.and_self, Bool.and_true]) (by first | rfl | simp only [belowH, belowE, belowC, belowL, belowR, belowP, belowL_d, belowR_d, List.length_cons, List.length_nil, Nat.reduceAdd, Nat.reduceLT, decide_true, Bool.and_self, Bool.and_true])) ?_ ?_
  · intro k v hv hk hI C hC
    have hkI : (k : Int) < (n.vpcs.length : Int) := by omega
    have hwr : IntKind.i64.wrap ((k : Int) + 1) = ((k + 1 : Nat) : Int) := by rw [IntKind.wrap_i64]; omega
    have htk := take_snoc hv
    have hls : lastV (n.vpcs.take (k + 1)) = v.id := by rw [htk, lastV_snoc]
    have hcv := vcheck_p v
    obtain ⟨LA, hLA⟩ : ∃ x, x = lastV (n.vpcs.take k) := ⟨_, rfl⟩
    rw [← hLA]
    by_cases hc : chkV v = 0
    · have hid : 1 ≤ v.id := by have := (vpcOK_of hc).id; simp [idOK] at this; exact this.1
      rw [hc] at hcv
      by_cases hle : v.id ≤ LA
      · have hr : R = 1 := by
          rw [hR.out]
          refine chkT_one hno (.inl ?_)
          cases hb : vpcsB n with
          | false => rfl
          | true =>
            have := (vpcsB_take hb (k + 1)).2
            rw [htk] at this
            exact absurd this (lastV_bad hid (by rw [← hLA]; exact hle))
        rw [hr]
        clear hr hI hid hC hLA hls htk
        replace hc := Lib.hid hc
        repeat' (first | (with_reducible refine And.intro ?_ ?_) | (with_reducible refine gK_i (fun _ => ?_) (fun _ => ?_)) | (with_reducible refine condS_i (fun _ => ?_) (fun _ => ?_)) | (with_reducible refine drw_i (by kernel_rfl)) | simp -dsimp only [go_sem, seval, *, encT, encV, hkI, hv, hle, undef] | ((with_reducible refine opK_c ?_); simp -dsimp only [go_sem, seval, encT, encV, hkI, hv, hle, undef]; first | refine callK_r (by first | assumption | exact hcv) (by first | exact .inl rfl | exact .inr rfl) ?_ | (refine callK_i (by assumption) ?_ ?_ ?_; (solve | (repeat (first | exact DLe.refl _ | exact DLe.nil _ | (refine DLe.tup ?_) | (refine DLe.agg ?_ rfl) | exact trivial | (refine And.intro ?_ ?_)))); (solve | exact .inl rfl | exact .inr rfl))) | fail | omega | exact decide_eq_true (by omega) | exact DLe.refl _)
        all_goals exact DLe.refl _
      · have hI2 : (∀ v ∈ n.vpcs.take (k + 1), chkV v = 0) ∧ (n.vpcs.take (k + 1)).Pairwise fun a b => a.id < b.id := by
          rw [htk]
          exact ⟨fun u hu => by
            rcases List.mem_append.1 hu with hu | hu
            · exact hI.1 u hu
            · rw [List.mem_singleton.1 hu]; exact hc, lastV_pair hI.2 (by rw [← hLA]; omega)⟩
        have hlb : decide (v.id ≤ LA) = false := by simpa using hle
        clear hI hid htk
        replace hc := Lib.hid hc
        replace hle := Lib.hid hle
        replace hI2 := Lib.hid hI2
        replace hls := Lib.hid hls
        replace hLA := Lib.hid hLA
        repeat' (first | (with_reducible refine And.intro ?_ ?_) | (with_reducible refine gK_i (fun _ => ?_) (fun _ => ?_)) | (with_reducible refine condS_i (fun _ => ?_) (fun _ => ?_)) | (with_reducible refine drw_i (by kernel_rfl)) | simp -dsimp only [go_sem, seval, *, encT, encV, hkI, hwr, hv, hlb, undef] | ((with_reducible refine opK_c ?_); simp -dsimp only [go_sem, seval, encT, encV, hkI, hwr, hv, hlb, undef]; first | refine callK_r (by first | assumption | exact hcv) (by first | exact .inl rfl | exact .inr rfl) ?_ | (refine callK_i (by assumption) ?_ ?_ ?_; (solve | (repeat (first | exact DLe.refl _ | exact DLe.nil _ | (refine DLe.tup ?_) | (refine DLe.agg ?_ rfl) | exact trivial | (refine And.intro ?_ ?_)))); (solve | exact .inl rfl | exact .inr rfl))) | fail | omega | exact decide_eq_true (by omega) | exact DLe.refl _)
        refine hC _ _ hI2.out ?_
        simp only [hls.out]
        exact weak_forget _ (by simp) (by (try simp only [encT]); rfl) (by (repeat' (first | exact trivial | (refine ⟨rfl, ?_⟩)))) (by first | rfl | simp only [belowH, belowE, belowC, belowL, belowR, belowP, belowL_d, belowR_d, List.length_cons, List.length_nil, Nat.reduceAdd, Nat.reduceLT, decide_true, Bool.and_self, Bool.and_true]) (by first | rfl | simp only [belowH, belowE, belowC, belowL, belowR, belowP, belowL_d, belowR_d, List.length_cons, List.length_nil, Nat.reduceAdd, Nat.reduceLT, decide_true, Bool.and_self, Bool.and_true])
    · have hr : R = 1 := by
        rw [hR.out]
        refine chkT_one hno (.inl ?_)
        cases hb : vpcsB n with
        | false => rfl
        | true => exact absurd ((vpcsB_take hb (k + 1)).1 v (by rw [htk]; simp)) hc
      have hcb : (chkV v != 0) = true := by simpa using hc
      rw [hr]
      clear hr hI hC hLA hls htk
      replace hc := Lib.hid hc
      repeat' (first | (with_reducible refine And.intro ?_ ?_) | (with_reducible refine gK_i (fun _ => ?_) (fun _ => ?_)) | (with_reducible refine condS_i (fun _ => ?_) (fun _ => ?_)) | (with_reducible refine drw_i (by kernel_rfl)) | simp -dsimp only [go_sem, seval, *, encT, encV, hkI, hv, hcb, undef] | ((with_reducible refine opK_c ?_); simp -dsimp only [go_sem, seval, encT, encV, hkI, hv, hcb, undef]; first | refine callK_r (by first | assumption | exact hcv) (by first | exact .inl rfl | exact .inr rfl) ?_ | (refine callK_i (by assumption) ?_ ?_ ?_; (solve | (repeat (first | exact DLe.refl _ | exact DLe.nil _ | (refine DLe.tup ?_) | (refine DLe.agg ?_ rfl) | exact trivial | (refine And.intro ?_ ?_)))); (solve | exact .inl rfl | exact .inr rfl))) | fail | omega | exact decide_eq_true (by omega) | exact DLe.refl _)
      all_goals exact DLe.refl _
  · intro hI C
    rw [List.take_length] at hI ⊢
    have hvB := vpcsB_of hI.1 hI.2
    have hso := hI.2
    generalize lastV n.vpcs = LA
    replace hI := Lib.hid hI
    replace hso := Lib.hid hso
    replace hvB := Lib.hid hvB
    repeat' (first | (with_reducible refine And.intro ?_ ?_) | (with_reducible refine gK_i (fun _ => ?_) (fun _ => ?_)) | (with_reducible refine condS_i (fun _ => ?_) (fun _ => ?_)) | (with_reducible refine drw_i (by kernel_rfl)) | simp -dsimp only [go_sem, seval, *, encT, Int.lt_irrefl, undef] | ((with_reducible refine opK_c ?_); simp -dsimp only [go_sem, seval, encT, Int.lt_irrefl, undef]; first | refine callK_r (by first | assumption | fail) (by first | exact .inl rfl | exact .inr rfl) ?_ | (refine callK_i (by assumption) ?_ ?_ ?_; (solve | (repeat (first | exact DLe.refl _ | exact DLe.nil _ | (refine DLe.tup ?_) | (refine DLe.agg ?_ rfl) | exact trivial | (refine And.intro ?_ ?_)))); (solve | exact .inl rfl | exact .inr rfl))) | fail | omega | exact decide_eq_true (by omega) | exact DLe.refl _)
    refine loopL tab_ok mixed n.links (fun k => (∀ l ∈ n.links.take k, lnkB n l = true) ∧ risK (n.links.take k) = true) (fun k => [(44, .d (.v (.int .i64 k))), (43, .d (.v (.int .i64 n.links.length))), (42, .d (.sl 2 (n.links.map encK))), (2, .d (.v (.int .i64 0))), (1, .ptr 0 0)]) (fun _ => [.box 25 ((encT n).map .d)]) (by simp [risK]) (weak_forget _ (by simp) (by (try simp only [encT]); rfl) (by (repeat' (first | exact trivial | (refine ⟨rfl, ?_⟩)))) (by first | rfl | simp only [belowH, belowE, belowC, belowL, belowR, belowP, belowL_d, belowR_d, List.length_cons, List.length_nil, Nat.reduceAdd, Nat.reduceLT, decide_true, Bool.and_self, Bool.and_true]) (by first | rfl | simp only [belowH, belowE, belowC, belowL, belowR, belowP, belowL_d, belowR_d, List.length_cons, List.length_nil, Nat.reduceAdd, Nat.reduceLT, decide_true, Bool.and_self, Bool.and_true])) ?_ ?_
    · intro k l hl hk hJ C hC
      have hkI : (k : Int) < (n.links.length : Int) := by omega
      have hwr : IntKind.i64.wrap ((k : Int) + 1) = ((k + 1 : Nat) : Int) := by rw [IntKind.wrap_i64]; omega
      have htk := take_snoc hl
      have hfa := nfindB_m n l.a (by omega) hso.out
      have hfb := nfindB_m n l.b (by omega) hso.out
      have hbad : lnkB n l = false → R = 1 := fun h => by
        rw [hR.out]
        refine chkT_one hno (.inr (.inl ?_))
        rw [List.all_eq_false]
        exact ⟨l, List.mem_of_getElem? hl, by simp [h]⟩
      have hlb : lnkB n l = ((findN n l.a).isSome && ((findN n l.b).isSome && decide (l.a < l.b))) := rfl
      have hgood : lnkB n l = true → risK (n.links.take (k + 1)) = true → (∀ l ∈ n.links.take (k + 1), lnkB n l = true) ∧ risK (n.links.take (k + 1)) = true := fun h g => by
        refine ⟨?_, g⟩
        rw [htk]
        intro u hu
        rcases List.mem_append.1 hu with hu | hu
        · exact hJ.1 u hu
        · rw [List.mem_singleton.1 hu]; exact h
      have hbad2 : risK (n.links.take (k + 1)) = false → R = 1 := fun h => by
        rw [hR.out]
        refine chkT_one hno (.inr (.inr (.inl ?_)))
        cases hb : risK n.links with
        | false => rfl
        | true => rw [risK_take hb] at h; cases h
      have hrk := risK_snoc (n.links.take k) l
      rw [← htk, hJ.2, Bool.true_and] at hrk
      clear htk
      replace hJ := Lib.hid hJ
      replace hbad := Lib.hid hbad
      replace hbad2 := Lib.hid hbad2
      replace hgood := Lib.hid hgood
      cases ea : findN n l.a with
      | none =>
        rw [ea] at hfa hlb
        have hr : R = 1 := hbad.out (by rw [hlb]; rfl)
        rw [hr]
        clear hr hlb hrk
        replace ea := Lib.hid ea
        cases eb : findN n l.b with
        | none =>
          rw [eb] at hfb
          replace eb := Lib.hid eb
          repeat' (first | (with_reducible refine And.intro ?_ ?_) | (with_reducible refine gK_i (fun _ => ?_) (fun _ => ?_)) | (with_reducible refine condS_i (fun _ => ?_) (fun _ => ?_)) | (with_reducible refine drw_i (by kernel_rfl)) | simp -dsimp only [go_sem, seval, *, encT, encK, findNP, findND, hkI, hl, undef] | ((with_reducible refine opK_c ?_); simp -dsimp only [go_sem, seval, encT, encK, findNP, findND, hkI, hl, undef]; first | refine callK_r (by first | assumption | fail) (by first | exact .inl rfl | exact .inr rfl) ?_ | (refine callK_i (by assumption) ?_ ?_ ?_; (solve | (repeat (first | exact DLe.refl _ | exact DLe.nil _ | (refine DLe.tup ?_) | (refine DLe.agg ?_ rfl) | exact trivial | (refine And.intro ?_ ?_)))); (solve | exact .inl rfl | exact .inr rfl))) | (refine opK_M [0] (hfa) ?_ ?_ ?_ ?_ ?_ ?_; (solve | rfl | simp only [go_sem, seval, encT, findNP, findND]); (solve | rfl); (solve | decide); (solve | simp); (solve | simp only [go_sem, seval, lentOK, encT, findNP, findND])) | (refine opK_M [0] (hfb) ?_ ?_ ?_ ?_ ?_ ?_; (solve | rfl | simp only [go_sem, seval, encT, findNP, findND]); (solve | rfl); (solve | decide); (solve | simp); (solve | simp only [go_sem, seval, lentOK, encT, findNP, findND])) | omega | exact decide_eq_true (by omega) | exact DLe.refl _)
          all_goals exact DLe.refl _
        | some w =>
          rw [eb] at hfb
          replace eb := Lib.hid eb
          repeat' (first | (with_reducible refine And.intro ?_ ?_) | (with_reducible refine gK_i (fun _ => ?_) (fun _ => ?_)) | (with_reducible refine condS_i (fun _ => ?_) (fun _ => ?_)) | (with_reducible refine drw_i (by kernel_rfl)) | simp -dsimp only [go_sem, seval, *, encT, encK, findNP, findND, hkI, hl, undef] | ((with_reducible refine opK_c ?_); simp -dsimp only [go_sem, seval, encT, encK, findNP, findND, hkI, hl, undef]; first | refine callK_r (by first | assumption | fail) (by first | exact .inl rfl | exact .inr rfl) ?_ | (refine callK_i (by assumption) ?_ ?_ ?_; (solve | (repeat (first | exact DLe.refl _ | exact DLe.nil _ | (refine DLe.tup ?_) | (refine DLe.agg ?_ rfl) | exact trivial | (refine And.intro ?_ ?_)))); (solve | exact .inl rfl | exact .inr rfl))) | (refine opK_M [0] (hfa) ?_ ?_ ?_ ?_ ?_ ?_; (solve | rfl | simp only [go_sem, seval, encT, findNP, findND]); (solve | rfl); (solve | decide); (solve | simp); (solve | simp only [go_sem, seval, lentOK, encT, findNP, findND])) | (refine opK_M [0] (hfb) ?_ ?_ ?_ ?_ ?_ ?_; (solve | rfl | simp only [go_sem, seval, encT, findNP, findND]); (solve | rfl); (solve | decide); (solve | simp); (solve | simp only [go_sem, seval, lentOK, encT, findNP, findND])) | omega | exact decide_eq_true (by omega) | exact DLe.refl _)
          all_goals exact DLe.refl _
      | some v =>
        rw [ea] at hfa hlb
        replace ea := Lib.hid ea
        cases eb : findN n l.b with
        | none =>
          rw [eb] at hfb hlb
          have hr : R = 1 := hbad.out (by rw [hlb]; rfl)
          rw [hr]
          clear hr hlb hrk
          replace eb := Lib.hid eb
          repeat' (first | (with_reducible refine And.intro ?_ ?_) | (with_reducible refine gK_i (fun _ => ?_) (fun _ => ?_)) | (with_reducible refine condS_i (fun _ => ?_) (fun _ => ?_)) | (with_reducible refine drw_i (by kernel_rfl)) | simp -dsimp only [go_sem, seval, *, encT, encK, findNP, findND, hkI, hl, undef] | ((with_reducible refine opK_c ?_); simp -dsimp only [go_sem, seval, encT, encK, findNP, findND, hkI, hl, undef]; first | refine callK_r (by first | assumption | fail) (by first | exact .inl rfl | exact .inr rfl) ?_ | (refine callK_i (by assumption) ?_ ?_ ?_; (solve | (repeat (first | exact DLe.refl _ | exact DLe.nil _ | (refine DLe.tup ?_) | (refine DLe.agg ?_ rfl) | exact trivial | (refine And.intro ?_ ?_)))); (solve | exact .inl rfl | exact .inr rfl))) | (refine opK_M [0] (hfa) ?_ ?_ ?_ ?_ ?_ ?_; (solve | rfl | simp only [go_sem, seval, encT, findNP, findND]); (solve | rfl); (solve | decide); (solve | simp); (solve | simp only [go_sem, seval, lentOK, encT, findNP, findND])) | (refine opK_M [0] (hfb) ?_ ?_ ?_ ?_ ?_ ?_; (solve | rfl | simp only [go_sem, seval, encT, findNP, findND]); (solve | rfl); (solve | decide); (solve | simp); (solve | simp only [go_sem, seval, lentOK, encT, findNP, findND])) | omega | exact decide_eq_true (by omega) | exact DLe.refl _)
          all_goals exact DLe.refl _
        | some w =>
          rw [eb] at hfb hlb
          replace eb := Lib.hid eb
          by_cases hab : l.a < l.b
          · have hge : decide (l.a ≥ l.b) = false := by simp; omega
            have hlt : lnkB n l = true := by rw [hlb]; simp [hab]
            clear hlb
            replace hlt := Lib.hid hlt
            by_cases hk0 : k = 0
            · have hkz : decide ((k : Int) > 0) = false := by simp; omega
              have hg := hgood.out hlt.out (by rw [hrk, hk0]; rfl)
              clear hrk
              replace hg := Lib.hid hg
              replace hk0 := Lib.hid hk0
              replace hab := Lib.hid hab
              repeat' (first | (with_reducible refine And.intro ?_ ?_) | (with_reducible refine gK_i (fun _ => ?_) (fun _ => ?_)) | (with_reducible refine condS_i (fun _ => ?_) (fun _ => ?_)) | (with_reducible refine drw_i (by kernel_rfl)) | simp -dsimp only [go_sem, seval, *, encT, encK, findNP, findND, hkI, hwr, hl, hge, hkz, undef] | ((with_reducible refine opK_c ?_); simp -dsimp only [go_sem, seval, encT, encK, findNP, findND, hkI, hwr, hl, hge, hkz, undef]; first | refine callK_r (by first | assumption | fail) (by first | exact .inl rfl | exact .inr rfl) ?_ | (refine callK_i (by assumption) ?_ ?_ ?_; (solve | (repeat (first | exact DLe.refl _ | exact DLe.nil _ | (refine DLe.tup ?_) | (refine DLe.agg ?_ rfl) | exact trivial | (refine And.intro ?_ ?_)))); (solve | exact .inl rfl | exact .inr rfl))) | (refine opK_M [0] (hfa) ?_ ?_ ?_ ?_ ?_ ?_; (solve | rfl | simp only [go_sem, seval, encT, findNP, findND]); (solve | rfl); (solve | decide); (solve | simp); (solve | simp only [go_sem, seval, lentOK, encT, findNP, findND])) | (refine opK_M [0] (hfb) ?_ ?_ ?_ ?_ ?_ ?_; (solve | rfl | simp only [go_sem, seval, encT, findNP, findND]); (solve | rfl); (solve | decide); (solve | simp); (solve | simp only [go_sem, seval, lentOK, encT, findNP, findND])) | omega | exact decide_eq_true (by omega) | exact DLe.refl _)
              exact hC _ _ hg.out (weak_forget _ (by simp) (by (try simp only [encT]); rfl) (by (repeat' (first | exact trivial | (refine ⟨rfl, ?_⟩)))) (by first | rfl | simp only [belowH, belowE, belowC, belowL, belowR, belowP, belowL_d, belowR_d, List.length_cons, List.length_nil, Nat.reduceAdd, Nat.reduceLT, decide_true, Bool.and_self, Bool.and_true]) (by first | rfl | simp only [belowH, belowE, belowC, belowL, belowR, belowP, belowL_d, belowR_d, List.length_cons, List.length_nil, Nat.reduceAdd, Nat.reduceLT, decide_true, Bool.and_self, Bool.and_true]))
            · obtain ⟨j, hj⟩ : ∃ j, k = j + 1 := ⟨k - 1, by omega⟩
              obtain ⟨y, hy⟩ : ∃ y, n.links[j]? = some y := ⟨_, List.getElem?_eq_getElem (by omega)⟩
              have hkz : decide ((k : Int) > 0) = true := by simp; omega
              have hw1 : IntKind.i64.wrap ((k : Int) - 1) = (j : Int) := by rw [IntKind.wrap_i64]; omega
              have hjI : (j : Int) < (n.links.length : Int) := by omega
              have hor := order_p y l
              rw [hj, last_take hy] at hrk
              simp only at hrk
              rw [← hj] at hrk
              replace hj := Lib.hid hj
              replace hk0 := Lib.hid hk0
              replace hab := Lib.hid hab
              by_cases ho : ordK y l < 0
              · have hg := hgood.out hlt.out (by rw [hrk]; simpa using ho)
                have hob : decide (ordK y l ≥ 0) = false := by simpa using ho
                clear hrk
                replace hg := Lib.hid hg
                replace ho := Lib.hid ho
                generalize ordK y l = O at *
                repeat' (first | (with_reducible refine And.intro ?_ ?_) | (with_reducible refine gK_i (fun _ => ?_) (fun _ => ?_)) | (with_reducible refine condS_i (fun _ => ?_) (fun _ => ?_)) | (with_reducible refine drw_i (by kernel_rfl)) | simp -dsimp only [go_sem, seval, *, encT, encK, findNP, findND, hkI, hwr, hl, hge, hkz, hw1, hjI, hy, hob, undef] | ((with_reducible refine opK_c ?_); simp -dsimp only [go_sem, seval, encT, encK, findNP, findND, hkI, hwr, hl, hge, hkz, hw1, hjI, hy, hob, undef]; first | refine callK_r (by first | assumption | exact hor) (by first | exact .inl rfl | exact .inr rfl) ?_ | (refine callK_i (by assumption) ?_ ?_ ?_; (solve | (repeat (first | exact DLe.refl _ | exact DLe.nil _ | (refine DLe.tup ?_) | (refine DLe.agg ?_ rfl) | exact trivial | (refine And.intro ?_ ?_)))); (solve | exact .inl rfl | exact .inr rfl))) | (refine opK_M [0] (hfa) ?_ ?_ ?_ ?_ ?_ ?_; (solve | rfl | simp only [go_sem, seval, encT, findNP, findND]); (solve | rfl); (solve | decide); (solve | simp); (solve | simp only [go_sem, seval, lentOK, encT, findNP, findND])) | (refine opK_M [0] (hfb) ?_ ?_ ?_ ?_ ?_ ?_; (solve | rfl | simp only [go_sem, seval, encT, findNP, findND]); (solve | rfl); (solve | decide); (solve | simp); (solve | simp only [go_sem, seval, lentOK, encT, findNP, findND])) | omega | exact decide_eq_true (by omega) | exact DLe.refl _)
                exact hC _ _ hg.out (weak_forget _ (by simp) (by (try simp only [encT]); rfl) (by (repeat' (first | exact trivial | (refine ⟨rfl, ?_⟩)))) (by first | rfl | simp only [belowH, belowE, belowC, belowL, belowR, belowP, belowL_d, belowR_d, List.length_cons, List.length_nil, Nat.reduceAdd, Nat.reduceLT, decide_true, Bool.and_self, Bool.and_true]) (by first | rfl | simp only [belowH, belowE, belowC, belowL, belowR, belowP, belowL_d, belowR_d, List.length_cons, List.length_nil, Nat.reduceAdd, Nat.reduceLT, decide_true, Bool.and_self, Bool.and_true]))
              · have hr : R = 1 := hbad2.out (by rw [hrk]; simpa using ho)
                have hob : decide (ordK y l ≥ 0) = true := by simpa using ho
                rw [hr]
                clear hrk hr
                replace ho := Lib.hid ho
                generalize ordK y l = O at *
                repeat' (first | (with_reducible refine And.intro ?_ ?_) | (with_reducible refine gK_i (fun _ => ?_) (fun _ => ?_)) | (with_reducible refine condS_i (fun _ => ?_) (fun _ => ?_)) | (with_reducible refine drw_i (by kernel_rfl)) | simp -dsimp only [go_sem, seval, *, encT, encK, findNP, findND, hkI, hwr, hl, hge, hkz, hw1, hjI, hy, hob, undef] | ((with_reducible refine opK_c ?_); simp -dsimp only [go_sem, seval, encT, encK, findNP, findND, hkI, hwr, hl, hge, hkz, hw1, hjI, hy, hob, undef]; first | refine callK_r (by first | assumption | exact hor) (by first | exact .inl rfl | exact .inr rfl) ?_ | (refine callK_i (by assumption) ?_ ?_ ?_; (solve | (repeat (first | exact DLe.refl _ | exact DLe.nil _ | (refine DLe.tup ?_) | (refine DLe.agg ?_ rfl) | exact trivial | (refine And.intro ?_ ?_)))); (solve | exact .inl rfl | exact .inr rfl))) | (refine opK_M [0] (hfa) ?_ ?_ ?_ ?_ ?_ ?_; (solve | rfl | simp only [go_sem, seval, encT, findNP, findND]); (solve | rfl); (solve | decide); (solve | simp); (solve | simp only [go_sem, seval, lentOK, encT, findNP, findND])) | (refine opK_M [0] (hfb) ?_ ?_ ?_ ?_ ?_ ?_; (solve | rfl | simp only [go_sem, seval, encT, findNP, findND]); (solve | rfl); (solve | decide); (solve | simp); (solve | simp only [go_sem, seval, lentOK, encT, findNP, findND])) | omega | exact decide_eq_true (by omega) | exact DLe.refl _)
                all_goals exact DLe.refl _
          · have hge : decide (l.a ≥ l.b) = true := by simp; omega
            have hr : R = 1 := hbad.out (by rw [hlb]; simp; omega)
            rw [hr]
            clear hr hlb hrk
            replace hab := Lib.hid hab
            repeat' (first | (with_reducible refine And.intro ?_ ?_) | (with_reducible refine gK_i (fun _ => ?_) (fun _ => ?_)) | (with_reducible refine condS_i (fun _ => ?_) (fun _ => ?_)) | (with_reducible refine drw_i (by kernel_rfl)) | simp -dsimp only [go_sem, seval, *, encT, encK, findNP, findND, hkI, hl, hge, undef] | ((with_reducible refine opK_c ?_); simp -dsimp only [go_sem, seval, encT, encK, findNP, findND, hkI, hl, hge, undef]; first | refine callK_r (by first | assumption | fail) (by first | exact .inl rfl | exact .inr rfl) ?_ | (refine callK_i (by assumption) ?_ ?_ ?_; (solve | (repeat (first | exact DLe.refl _ | exact DLe.nil _ | (refine DLe.tup ?_) | (refine DLe.agg ?_ rfl) | exact trivial | (refine And.intro ?_ ?_)))); (solve | exact .inl rfl | exact .inr rfl))) | (refine opK_M [0] (hfa) ?_ ?_ ?_ ?_ ?_ ?_; (solve | rfl | simp only [go_sem, seval, encT, findNP, findND]); (solve | rfl); (solve | decide); (solve | simp); (solve | simp only [go_sem, seval, lentOK, encT, findNP, findND])) | (refine opK_M [0] (hfb) ?_ ?_ ?_ ?_ ?_ ?_; (solve | rfl | simp only [go_sem, seval, encT, findNP, findND]); (solve | rfl); (solve | decide); (solve | simp); (solve | simp only [go_sem, seval, lentOK, encT, findNP, findND])) | omega | exact decide_eq_true (by omega) | exact DLe.refl _)
            all_goals exact DLe.refl _
    · intro hJ C
      rw [List.take_length] at hJ
      have hpe := peace_p n (by omega) (by omega) (fun v hv => by have := (vpcOK_of (hI.out.1 v hv)).n4; omega) (fun l hl => by
        have := hJ.1 l hl
        unfold lnkB at this
        simp only [Bool.and_eq_true] at this
        exact ⟨find_ids this.1, find_ids this.2.1⟩)
      have hr : R = if peaceN n = true then 0 else 1 := by
        rw [hR.out]
        split
        · rename_i hp
          exact chkT_zero hno hvB.out (by rw [List.all_eq_true]; exact hJ.1) hJ.2 hp
        · rename_i hp
          exact chkT_one hno (.inr (.inr (.inr (by simpa using hp))))
      rw [hr]
      clear hr
      replace hJ := Lib.hid hJ
      cases hp : peaceN n with
      | true =>
        rw [hp] at hpe
        replace hp := Lib.hid hp
        repeat' (first | (with_reducible refine And.intro ?_ ?_) | (with_reducible refine gK_i (fun _ => ?_) (fun _ => ?_)) | (with_reducible refine condS_i (fun _ => ?_) (fun _ => ?_)) | (with_reducible refine drw_i (by kernel_rfl)) | simp -dsimp only [go_sem, seval, *, encT, Int.lt_irrefl, undef] | ((with_reducible refine opK_c ?_); simp -dsimp only [go_sem, seval, encT, Int.lt_irrefl, undef]; first | refine callK_r (by first | assumption | exact hpe) (by first | exact .inl rfl | exact .inr rfl) ?_ | (refine callK_i (by assumption) ?_ ?_ ?_; (solve | (repeat (first | exact DLe.refl _ | exact DLe.nil _ | (refine DLe.tup ?_) | (refine DLe.agg ?_ rfl) | exact trivial | (refine And.intro ?_ ?_)))); (solve | exact .inl rfl | exact .inr rfl))) | fail | omega | exact decide_eq_true (by omega) | exact DLe.refl _)
        all_goals exact DLe.refl _
      | false =>
        rw [hp] at hpe
        replace hp := Lib.hid hp
        repeat' (first | (with_reducible refine And.intro ?_ ?_) | (with_reducible refine gK_i (fun _ => ?_) (fun _ => ?_)) | (with_reducible refine condS_i (fun _ => ?_) (fun _ => ?_)) | (with_reducible refine drw_i (by kernel_rfl)) | simp -dsimp only [go_sem, seval, *, encT, Int.lt_irrefl, undef] | ((with_reducible refine opK_c ?_); simp -dsimp only [go_sem, seval, encT, Int.lt_irrefl, undef]; first | refine callK_r (by first | assumption | exact hpe) (by first | exact .inl rfl | exact .inr rfl) ?_ | (refine callK_i (by assumption) ?_ ?_ ?_; (solve | (repeat (first | exact DLe.refl _ | exact DLe.nil _ | (refine DLe.tup ?_) | (refine DLe.agg ?_ rfl) | exact trivial | (refine And.intro ?_ ?_)))); (solve | exact .inl rfl | exact .inr rfl))) | fail | omega | exact decide_eq_true (by omega) | exact DLe.refl _)
        all_goals exact DLe.refl _
end Go.Proofs.YtgmbhaclogabeaaGreat
namespace Go.Proofs.YtgmbhaclogabeaaGreat
open Go Go.RowKit
theorem clone_Link {α : Type} (enc : α → List D) (l : List α) (hl : l.length ≤ 1000000000) :
    MSpec Tryz.prog 47 [.d (.sl 2 (l.map enc))] [] (.own 0 1) [.row 68 2 1 (dRows (l.map enc))] := by
  cases l with
  | nil =>
    refine ms_empty (pl := []) (ql := []) fun ao cap => ?_
    cases ao with
    | none =>
      simp only [List.nil_append]
      refine ms_i tab_ok mixed Tryz.func47 rfl Tryz.ntmps47 Tryz.results47 (by kernel_rfl) (by simp) (by simp [belowL, belowP]) (by simp [belowH, belowC, belowL, belowP, belowL_d, belowR_d]) ?_
      repeat' (first | (with_reducible refine And.intro ?_ ?_) | (with_reducible refine gK_i (fun _ => ?_) (fun _ => ?_)) | (with_reducible refine condS_i (fun _ => ?_) (fun _ => ?_)) | (with_reducible refine drw_i (by kernel_rfl)) | simp -dsimp only [go_sem, seval, *, Option.isNone_none, Option.isSome_some] | ((with_reducible refine opK_c ?_); simp -dsimp only [go_sem, seval, Option.isNone_none, Option.isSome_some]; first | refine callK_r (by first | assumption | fail) (by first | exact .inl rfl | exact .inr rfl) ?_ | refine callK_i (by assumption) (by repeat (first | exact DLe.refl _ | exact DLe.nil _ | (refine DLe.tup ?_) | (refine DLe.agg ?_ rfl) | exact trivial | (refine And.intro ?_ ?_))) (by first | exact .inl rfl | exact .inr rfl) ?_) | omega | exact decide_eq_true (by omega) | exact DLe.refl _)
      refine weak_ret_adopt (h := []) (Nat.le_refl _) 68 2 ?_
      exact (weak_ret_bump 0 0 68 2 [] rfl (weak_eq rfl rfl))
    | some a =>
      simp only [List.nil_append]
      refine ms_i tab_ok mixed Tryz.func47 rfl Tryz.ntmps47 Tryz.results47 (by kernel_rfl) (by simp) (by simp [belowL, belowP]) (by simp [belowH, belowC, belowL, belowP, belowL_d, belowR_d]) ?_
      repeat' (first | (with_reducible refine And.intro ?_ ?_) | (with_reducible refine gK_i (fun _ => ?_) (fun _ => ?_)) | (with_reducible refine condS_i (fun _ => ?_) (fun _ => ?_)) | (with_reducible refine drw_i (by kernel_rfl)) | simp -dsimp only [go_sem, seval, *, Option.isNone_some, Option.isSome_some] | ((with_reducible refine opK_c ?_); simp -dsimp only [go_sem, seval, Option.isNone_some, Option.isSome_some]; first | refine callK_r (by first | assumption | fail) (by first | exact .inl rfl | exact .inr rfl) ?_ | refine callK_i (by assumption) (by repeat (first | exact DLe.refl _ | exact DLe.nil _ | (refine DLe.tup ?_) | (refine DLe.agg ?_ rfl) | exact trivial | (refine And.intro ?_ ?_))) (by first | exact .inl rfl | exact .inr rfl) ?_) | omega | exact decide_eq_true (by omega) | exact DLe.refl _)
      exact weak_eq rfl rfl
  | cons x l =>
    simp only [List.length_cons] at hl
    refine ms_i tab_ok mixed Tryz.func47 rfl Tryz.ntmps47 Tryz.results47 (by kernel_rfl) (by simp) (by simp [belowL, belowP]) (by simp [belowH, belowC, belowL, belowP, belowL_d, belowR_d]) ?_
    repeat' (first | (with_reducible refine And.intro ?_ ?_) | (with_reducible refine gK_i (fun _ => ?_) (fun _ => ?_)) | (with_reducible refine condS_i (fun _ => ?_) (fun _ => ?_)) | (with_reducible refine drw_i (by kernel_rfl)) | simp -dsimp only [go_sem, seval, *, Option.isNone_some, Option.isSome_some] | ((with_reducible refine opK_c ?_); simp -dsimp only [go_sem, seval, Option.isNone_some, Option.isSome_some]; first | refine callK_r (by first | assumption | fail) (by first | exact .inl rfl | exact .inr rfl) ?_ | refine callK_i (by assumption) (by repeat (first | exact DLe.refl _ | exact DLe.nil _ | (refine DLe.tup ?_) | (refine DLe.agg ?_ rfl) | exact trivial | (refine And.intro ?_ ?_))) (by first | exact .inl rfl | exact .inr rfl) ?_) | omega | exact decide_eq_true (by omega) | exact DLe.refl _)
    all_goals first | omega | exact weak_eq rfl rfl
structure NetOK (n : Net) : Prop where
  n6 : n.vpcs.length ≤ 6
  n12 : n.links.length ≤ 12
  vp : ∀ v ∈ n.vpcs, chkV v = 0
  rise : n.vpcs.Pairwise fun a b => a.id < b.id
  lk : ∀ l ∈ n.links, lnkB n l = true
  rk : risK n.links = true
  pe : peaceN n = true
theorem netOK {n : Net} : chkT n = 0 ↔ NetOK n := by
  constructor
  · intro h
    unfold chkT at h
    split at h
    · cases h
    · rename_i h0
      split at h
      · rename_i h1
        simp only [Bool.and_eq_true] at h1
        have := vpcsB_take h1.1 n.vpcs.length
        rw [List.take_length] at this
        exact ⟨by omega, by omega, this.1, this.2, by simpa using h1.2.1, h1.2.2.1, h1.2.2.2⟩
      · cases h
  · rintro ⟨a, b, c, d, e, f, g⟩
    exact chkT_zero (by omega) (vpcsB_of c d) (by simpa using e) f g
theorem NetOK.ids {n : Net} (h : NetOK n) : ∀ l ∈ n.links, l.a ∈ n.vpcs.map (·.id) ∧ l.b ∈ n.vpcs.map (·.id) := fun l hl => by
  have := h.lk l hl
  unfold lnkB at this
  simp only [Bool.and_eq_true] at this
  exact ⟨find_ids this.1, find_ids this.2.1⟩
theorem nbeginE_m (n : Net) (h : chkT n ≠ 0) :
    MSpec Tryz.prog 25 [.d (.agg (encT n))] [] (.tup [.ptr 1 0, .d (.v (.int .i64 (chkT n)))]) [.gone, .box 25 [.d (.v (.slice none 0 0)), .d (.v (.slice none 0 0))]] := by
  have hc := ncheck_p n
  have h1 : (chkT n != 0) = true := by simpa using h
  refine ms_i tab_ok mixed Tryz.func25 rfl Tryz.ntmps25 Tryz.results25 (by kernel_rfl) (by simp) (by simp [belowL, belowP]) (by simp [belowH, belowC, belowL, belowP, belowL_d, belowR_d]) ?_
  repeat' (first | (with_reducible refine And.intro ?_ ?_) | (with_reducible refine gK_i (fun _ => ?_) (fun _ => ?_)) | (with_reducible refine condS_i (fun _ => ?_) (fun _ => ?_)) | (with_reducible refine drw_i (by kernel_rfl)) | simp -dsimp only [go_sem, seval, *, encT, h1] | ((with_reducible refine opK_c ?_); simp -dsimp only [go_sem, seval, encT, h1]; first | refine callK_r (by first | assumption | exact hc) (by first | exact .inl rfl | exact .inr rfl) ?_ | (refine callK_i (by assumption) ?_ ?_ ?_; (solve | (repeat (first | exact DLe.refl _ | exact DLe.nil _ | (refine DLe.tup ?_) | (refine DLe.agg ?_ rfl) | exact trivial | (refine And.intro ?_ ?_)))); (solve | exact .inl rfl | exact .inr rfl))) | fail | omega | exact decide_eq_true (by omega) | exact DLe.refl _)
  exact (weak_gone 0 (by simp)).trans (weak_eq rfl rfl)
set_option maxRecDepth 100000 in
set_option maxHeartbeats 2000000 in
theorem nbegin_m (n : Net) (h : chkT n = 0) :
    MSpec Tryz.prog 25 [.d (.agg (encT n))] [] (.tup [.ptr 2 0, .d (.v (.int .i64 0))]) [.gone, .row 68 2 1 (dRows (n.links.map encK)), .box 25 [.own 3 n.vpcs.length, .own 1 1], .row 56 3 n.vpcs.length (dRows (n.vpcs.map encV))] := by
  have hc := ncheck_p n
  rw [h] at hc
  have hok := netOK.1 h
  have n6 := hok.n6
  have hvp := Lib.hid hok.vp
  have hclk := clone_Link encK n.links (by have := hok.n12; omega)
  clear hok
  replace h := Lib.hid h
  refine ms_i tab_ok mixed Tryz.func25 rfl Tryz.ntmps25 Tryz.results25 (by kernel_rfl) (by simp) (by simp [belowL, belowP]) (by simp [belowH, belowC, belowL, belowP, belowL_d, belowR_d]) ?_
  repeat' (first | (with_reducible refine And.intro ?_ ?_) | (with_reducible refine gK_i (fun _ => ?_) (fun _ => ?_)) | (with_reducible refine condS_i (fun _ => ?_) (fun _ => ?_)) | (with_reducible refine drw_i (by kernel_rfl)) | simp -dsimp only [go_sem, seval, *, encT] | ((with_reducible refine opK_c ?_); simp -dsimp only [go_sem, seval, encT]; first | refine callK_r (by first | assumption | exact hc) (by first | exact .inl rfl | exact .inr rfl) ?_ | (refine callK_i (by assumption) ?_ ?_ ?_; (solve | (repeat (first | exact DLe.refl _ | exact DLe.nil _ | (refine DLe.tup ?_) | (refine DLe.agg ?_ rfl) | exact trivial | (refine And.intro ?_ ?_)))); (solve | exact .inl rfl | exact .inr rfl))) | (refine opK_M [] (hclk) ?_ ?_ ?_ ?_ ?_ ?_; (solve | rfl | simp only [go_sem, seval, encT]); (solve | rfl); (solve | decide); (solve | simp); (solve | simp only [go_sem, seval, lentOK, encT])) | omega | exact decide_eq_true (by omega) | exact DLe.refl _)
  refine loopL tab_ok mixed n.vpcs (fun _ => True) (fun k => [(29, .d (.v (.int .i64 k))), (28, .d (.v (.int .i64 n.vpcs.length))), (27, .d (.sl 3 (n.vpcs.map encV))), (5, .ptr 2 0)])
    (fun k => [.gone, .row 68 2 1 (dRows (n.links.map encK)), .box 25 [.own 3 k, .own 1 1], .row 56 3 k (dRows ((n.vpcs.take k).map encV))]) trivial ?_ ?_ ?_
  · refine (weak_gone 0 (by simp)).trans ((weak_adopt_box (by simp) 2 25 [.d (.v (.slice none 0 0)), .own 1 1] 0 56 3 rfl rfl rfl).trans ?_)
    exact weak_forget _ (by simp) (by rfl) (by (repeat' (first | exact trivial | (refine ⟨rfl, ?_⟩)))) (by first | rfl | simp only [belowH, belowE, belowC, belowL, belowR, belowP, belowL_d, belowR_d, belowR_zipG, subRow, faceRow, List.length_cons, List.length_nil, Nat.reduceAdd, Nat.reduceLT, decide_true, Bool.and_self, Bool.and_true]) (by first | rfl | simp only [belowH, belowE, belowC, belowL, belowR, belowP, belowL_d, belowR_d, belowR_zipG, subRow, faceRow, List.length_cons, List.length_nil, Nat.reduceAdd, Nat.reduceLT, decide_true, Bool.and_self, Bool.and_true])
  · intro k v hv hk _ CN hCN
    have hkI : (k : Int) < (n.vpcs.length : Int) := by omega
    have hwr : IntKind.i64.wrap ((k : Int) + 1) = ((k + 1 : Nat) : Int) := by rw [IntKind.wrap_i64]; omega
    have hb0 : k + 1 ≤ 100 := by omega
    have hlv : (List.take k n.vpcs).length = k := by rw [List.length_take]; omega
    have hvk := vpcOK_of (hvp.out v (List.mem_of_getElem? hv))
    have h6 := hvk.n6
    have h8 := Lib.hid hvk.n8
    have hclr := clone_Range encG v.ranges (by have := hvk.n4; omega)
    clear hvk
    replace hv := Lib.hid hv
    have hv1 := hv.out
    repeat' (first | (with_reducible refine And.intro ?_ ?_) | (with_reducible refine gK_i (fun _ => ?_) (fun _ => ?_)) | (with_reducible refine condS_i (fun _ => ?_) (fun _ => ?_)) | (with_reducible refine drw_i (by kernel_rfl)) | simp -dsimp only [go_sem, seval, *, encV, hkI, hv1] | ((with_reducible refine opK_c ?_); simp -dsimp only [go_sem, seval, encV, hkI, hv1]; first | refine callK_r (by first | assumption | fail) (by first | exact .inl rfl | exact .inr rfl) ?_ | (refine callK_i (by assumption) ?_ ?_ ?_; (solve | (repeat (first | exact DLe.refl _ | exact DLe.nil _ | (refine DLe.tup ?_) | (refine DLe.agg ?_ rfl) | exact trivial | (refine And.intro ?_ ?_)))); (solve | exact .inl rfl | exact .inr rfl))) | (refine opK_M [] (hclr) ?_ ?_ ?_ ?_ ?_ ?_; (solve | rfl | simp only [go_sem, seval, encV]); (solve | rfl); (solve | decide); (solve | simp); (solve | simp only [go_sem, seval, lentOK, encV])) | omega | exact decide_eq_true (by omega) | exact DLe.refl _)
    refine loopL tab_ok mixed v.subs (fun _ => True) (fun j => [(42, .d (.v (.int .i64 j))), (41, .d (.v (.int .i64 v.subs.length))), (40, .d (.sl 4 (v.subs.map encN))), (8, .ptr 6 0), (29, .d (.v (.int .i64 k))), (28, .d (.v (.int .i64 n.vpcs.length))), (27, .d (.sl 3 (n.vpcs.map encV))), (5, .ptr 2 0)])
      (fun j => [.gone, .row 68 2 1 (dRows (n.links.map encK)), .box 25 [.own 3 k, .own 1 1], .row 56 3 k (dRows ((n.vpcs.take k).map encV)), .gone, .row 29 3 1 (dRows (v.ranges.map encG)), .box 56 [.d (.v (.int .i64 v.id)), .own 5 1, .own 7 j], .row 86 4 j (dRows ((v.subs.take j).map encN))]) trivial ?_ ?_ ?_
    · refine (weak_gone 4 (by simp)).trans ((weak_adopt_box (by simp) 6 56 [.d (.v (.int .i64 v.id)), .own 5 1, .d (.v (.slice none 0 0))] 2 86 4 rfl rfl rfl).trans ?_)
      exact weak_forget _ (by simp) (by rfl) (by (repeat' (first | exact trivial | (refine ⟨rfl, ?_⟩)))) (by first | rfl | simp only [belowH, belowE, belowC, belowL, belowR, belowP, belowL_d, belowR_d, belowR_zipG, subRow, faceRow, List.length_cons, List.length_nil, Nat.reduceAdd, Nat.reduceLT, decide_true, Bool.and_self, Bool.and_true]) (by first | rfl | simp only [belowH, belowE, belowC, belowL, belowR, belowP, belowL_d, belowR_d, belowR_zipG, subRow, faceRow, List.length_cons, List.length_nil, Nat.reduceAdd, Nat.reduceLT, decide_true, Bool.and_self, Bool.and_true])
    · intro j s hs hj _ CO hCO
      have hjI : (j : Int) < (v.subs.length : Int) := by omega
      have hwj : IntKind.i64.wrap ((j : Int) + 1) = ((j + 1 : Nat) : Int) := by rw [IntKind.wrap_i64]; omega
      have h8s := h8.out s (List.mem_of_getElem? hs)
      have hb1 : j + 1 ≤ 100 := by omega
      have hlk : (List.take j v.subs).length = j := by rw [List.length_take]; omega
      replace hs := Lib.hid hs
      have hs1 := hs.out
      repeat' (first | (with_reducible refine And.intro ?_ ?_) | (with_reducible refine gK_i (fun _ => ?_) (fun _ => ?_)) | (with_reducible refine condS_i (fun _ => ?_) (fun _ => ?_)) | (with_reducible refine drw_i (by kernel_rfl)) | simp -dsimp only [go_sem, seval, *, encV, encN, hjI, hs1] | ((with_reducible refine opK_c ?_); simp -dsimp only [go_sem, seval, encV, encN, hjI, hs1]; first | refine callK_r (by first | assumption | fail) (by first | exact .inl rfl | exact .inr rfl) ?_ | (refine callK_i (by assumption) ?_ ?_ ?_; (solve | (repeat (first | exact DLe.refl _ | exact DLe.nil _ | (refine DLe.tup ?_) | (refine DLe.agg ?_ rfl) | exact trivial | (refine And.intro ?_ ?_)))); (solve | exact .inl rfl | exact .inr rfl))) | fail | omega | exact decide_eq_true (by omega) | exact DLe.refl _)
      refine loopL tab_ok mixed s.faces (fun _ => True) (fun i => [(54, .d (.v (.int .i64 i))), (53, .d (.v (.int .i64 s.faces.length))), (52, .d (.sl 2 (s.faces.map encF))), (11, .ptr 9 0), (42, .d (.v (.int .i64 j))), (41, .d (.v (.int .i64 v.subs.length))), (40, .d (.sl 4 (v.subs.map encN))), (8, .ptr 6 0), (29, .d (.v (.int .i64 k))), (28, .d (.v (.int .i64 n.vpcs.length))), (27, .d (.sl 3 (n.vpcs.map encV))), (5, .ptr 2 0)])
        (fun i => [.gone, .row 68 2 1 (dRows (n.links.map encK)), .box 25 [.own 3 k, .own 1 1], .row 56 3 k (dRows ((n.vpcs.take k).map encV)), .gone, .row 29 3 1 (dRows (v.ranges.map encG)), .box 56 [.d (.v (.int .i64 v.id)), .own 5 1, .own 7 j], .row 86 4 j (dRows ((v.subs.take j).map encN)), .gone, .box 86 [.d (.v (.int .i64 s.id)), .d (.v (.int .i64 s.at_.at_)), .d (.v (.int .i64 s.at_.len)), .own 10 i], .row 88 2 i (dRows ((s.faces.take i).map encF))]) trivial ?_ ?_ ?_
      · refine (weak_gone 8 (by simp)).trans ((weak_adopt_box (by simp) 9 86 [.d (.v (.int .i64 s.id)), .d (.v (.int .i64 s.at_.at_)), .d (.v (.int .i64 s.at_.len)), .d (.v (.slice none 0 0))] 3 88 2 rfl rfl rfl).trans ?_)
        exact weak_forget _ (by simp) (by rfl) (by (repeat' (first | exact trivial | (refine ⟨rfl, ?_⟩)))) (by first | rfl | simp only [belowH, belowE, belowC, belowL, belowR, belowP, belowL_d, belowR_d, belowR_zipG, subRow, faceRow, List.length_cons, List.length_nil, Nat.reduceAdd, Nat.reduceLT, decide_true, Bool.and_self, Bool.and_true]) (by first | rfl | simp only [belowH, belowE, belowC, belowL, belowR, belowP, belowL_d, belowR_d, belowR_zipG, subRow, faceRow, List.length_cons, List.length_nil, Nat.reduceAdd, Nat.reduceLT, decide_true, Bool.and_self, Bool.and_true])
      · intro i f hf hi _ C hC
        have hiI : (i : Int) < (s.faces.length : Int) := by omega
        have hwi : IntKind.i64.wrap ((i : Int) + 1) = ((i + 1 : Nat) : Int) := by rw [IntKind.wrap_i64]; omega
        have hfl := h8s.2 f (List.mem_of_getElem? hf)
        have hb2 : i + 1 ≤ 100 := by omega
        have hli : (List.take i s.faces).length = i := by rw [List.length_take]; omega
        replace hf := Lib.hid hf
        have hf1 := hf.out
        repeat' (first | (with_reducible refine And.intro ?_ ?_) | (with_reducible refine gK_i (fun _ => ?_) (fun _ => ?_)) | (with_reducible refine condS_i (fun _ => ?_) (fun _ => ?_)) | (with_reducible refine drw_i (by kernel_rfl)) | simp -dsimp only [go_sem, seval, *, encN, encF, hiI, hwi, hf1, hb2, hli] | ((with_reducible refine opK_c ?_); simp -dsimp only [go_sem, seval, encN, encF, hiI, hwi, hf1, hb2, hli]; first | refine callK_r (by first | assumption | fail) (by first | exact .inl rfl | exact .inr rfl) ?_ | (refine callK_i (by assumption) ?_ ?_ ?_; (solve | (repeat (first | exact DLe.refl _ | exact DLe.nil _ | (refine DLe.tup ?_) | (refine DLe.agg ?_ rfl) | exact trivial | (refine And.intro ?_ ?_)))); (solve | exact .inl rfl | exact .inr rfl))) | (refine opK_M [] (clone_int f.addrs (by omega)) ?_ ?_ ?_ ?_ ?_ ?_; (solve | rfl | simp only [go_sem, seval, encF]); (solve | rfl); (solve | decide); (solve | simp); (solve | simp only [go_sem, seval, lentOK, encF])) | omega | exact decide_eq_true (by omega) | exact DLe.refl _)
        refine hC _ _ trivial ((weak_freeze 12 1 3 1 (f.addrs.map encA) rfl).trans ?_)
        simp only [fzE, fz, fzL, fzH, fzC, fzR, fzR_app, fzR_d, fzL_d, List.map_cons, List.map_nil, Nat.reduceAdd, Nat.reduceEqDiff, reduceIte, and_true, true_and, and_self, and_false, false_and, Nat.zero_add, Nat.add_zero, reduceCtorEq]
        exact weak_forget _ (by simp) (by rw [take_snoc hf.out, List.map_append, List.map_cons, List.map_nil, ← dRows_app]; rfl) (by (repeat' (first | exact trivial | (refine ⟨rfl, ?_⟩)))) (by first | rfl | simp only [belowH, belowE, belowC, belowL, belowR, belowP, belowL_d, belowR_d, belowR_zipG, subRow, faceRow, List.length_cons, List.length_nil, Nat.reduceAdd, Nat.reduceLT, decide_true, Bool.and_self, Bool.and_true]) (by first | rfl | simp only [belowH, belowE, belowC, belowL, belowR, belowP, belowL_d, belowR_d, belowR_zipG, subRow, faceRow, List.length_cons, List.length_nil, Nat.reduceAdd, Nat.reduceLT, decide_true, Bool.and_self, Bool.and_true])
      · intro _ C
        repeat' (first | (with_reducible refine And.intro ?_ ?_) | (with_reducible refine gK_i (fun _ => ?_) (fun _ => ?_)) | (with_reducible refine condS_i (fun _ => ?_) (fun _ => ?_)) | (with_reducible refine drw_i (by kernel_rfl)) | simp -dsimp only [go_sem, seval, *, encN, hwj, hb1, hlk, Int.lt_irrefl, List.take_length] | ((with_reducible refine opK_c ?_); simp -dsimp only [go_sem, seval, encN, hwj, hb1, hlk, Int.lt_irrefl, List.take_length]; first | refine callK_r (by first | assumption | fail) (by first | exact .inl rfl | exact .inr rfl) ?_ | (refine callK_i (by assumption) ?_ ?_ ?_; (solve | (repeat (first | exact DLe.refl _ | exact DLe.nil _ | (refine DLe.tup ?_) | (refine DLe.agg ?_ rfl) | exact trivial | (refine And.intro ?_ ?_)))); (solve | exact .inl rfl | exact .inr rfl))) | fail | omega | exact decide_eq_true (by omega) | exact DLe.refl _)
        refine hCO _ _ trivial ((weak_freeze 10 s.faces.length 88 2 (s.faces.map encF) rfl).trans ?_)
        simp only [fzE, fz, fzL, fzH, fzC, fzR, fzR_app, fzR_d, fzL_d, List.map_cons, List.map_nil, Nat.reduceAdd, Nat.reduceEqDiff, reduceIte, and_true, true_and, and_self, and_false, false_and, Nat.zero_add, Nat.add_zero, reduceCtorEq]
        exact weak_forget _ (by simp) (by rw [take_snoc hs.out, List.map_append, List.map_cons, List.map_nil, ← dRows_app]; rfl) (by (repeat' (first | exact trivial | (refine ⟨rfl, ?_⟩)))) (by first | rfl | simp only [belowH, belowE, belowC, belowL, belowR, belowP, belowL_d, belowR_d, belowR_zipG, subRow, faceRow, List.length_cons, List.length_nil, Nat.reduceAdd, Nat.reduceLT, decide_true, Bool.and_self, Bool.and_true]) (by first | rfl | simp only [belowH, belowE, belowC, belowL, belowR, belowP, belowL_d, belowR_d, belowR_zipG, subRow, faceRow, List.length_cons, List.length_nil, Nat.reduceAdd, Nat.reduceLT, decide_true, Bool.and_self, Bool.and_true])
    · intro _ C
      repeat' (first | (with_reducible refine And.intro ?_ ?_) | (with_reducible refine gK_i (fun _ => ?_) (fun _ => ?_)) | (with_reducible refine condS_i (fun _ => ?_) (fun _ => ?_)) | (with_reducible refine drw_i (by kernel_rfl)) | simp -dsimp only [go_sem, seval, *, encV, hwr, hb0, hlv, Int.lt_irrefl, List.take_length] | ((with_reducible refine opK_c ?_); simp -dsimp only [go_sem, seval, encV, hwr, hb0, hlv, Int.lt_irrefl, List.take_length]; first | refine callK_r (by first | assumption | fail) (by first | exact .inl rfl | exact .inr rfl) ?_ | (refine callK_i (by assumption) ?_ ?_ ?_; (solve | (repeat (first | exact DLe.refl _ | exact DLe.nil _ | (refine DLe.tup ?_) | (refine DLe.agg ?_ rfl) | exact trivial | (refine And.intro ?_ ?_)))); (solve | exact .inl rfl | exact .inr rfl))) | fail | omega | exact decide_eq_true (by omega) | exact DLe.refl _)
      refine hCN _ _ trivial ((weak_freeze 7 v.subs.length 86 4 (v.subs.map encN) rfl).trans ?_)
      simp only [fzE, fz, fzL, fzH, fzC, fzR, fzR_app, fzR_d, fzL_d, List.map_cons, List.map_nil, Nat.reduceAdd, Nat.reduceEqDiff, reduceIte, and_true, true_and, and_self, and_false, false_and, Nat.zero_add, Nat.add_zero, reduceCtorEq]
      refine (weak_freeze 5 1 29 3 (v.ranges.map encG) rfl).trans ?_
      simp only [fzE, fz, fzL, fzH, fzC, fzR, fzR_app, fzR_d, fzL_d, List.map_cons, List.map_nil, Nat.reduceAdd, Nat.reduceEqDiff, reduceIte, and_true, true_and, and_self, and_false, false_and, Nat.zero_add, Nat.add_zero, reduceCtorEq]
      exact weak_forget _ (by simp) (by rw [take_snoc hv.out, List.map_append, List.map_cons, List.map_nil, ← dRows_app]; rfl) (by (repeat' (first | exact trivial | (refine ⟨rfl, ?_⟩)))) (by first | rfl | simp only [belowH, belowE, belowC, belowL, belowR, belowP, belowL_d, belowR_d, belowR_zipG, subRow, faceRow, List.length_cons, List.length_nil, Nat.reduceAdd, Nat.reduceLT, decide_true, Bool.and_self, Bool.and_true]) (by first | rfl | simp only [belowH, belowE, belowC, belowL, belowR, belowP, belowL_d, belowR_d, belowR_zipG, subRow, faceRow, List.length_cons, List.length_nil, Nat.reduceAdd, Nat.reduceLT, decide_true, Bool.and_self, Bool.and_true])
  · intro _ C
    repeat' (first | (with_reducible refine And.intro ?_ ?_) | (with_reducible refine gK_i (fun _ => ?_) (fun _ => ?_)) | (with_reducible refine condS_i (fun _ => ?_) (fun _ => ?_)) | (with_reducible refine drw_i (by kernel_rfl)) | simp -dsimp only [go_sem, seval, *, Int.lt_irrefl, List.take_length] | ((with_reducible refine opK_c ?_); simp -dsimp only [go_sem, seval, Int.lt_irrefl, List.take_length]; first | refine callK_r (by first | assumption | fail) (by first | exact .inl rfl | exact .inr rfl) ?_ | (refine callK_i (by assumption) ?_ ?_ ?_; (solve | (repeat (first | exact DLe.refl _ | exact DLe.nil _ | (refine DLe.tup ?_) | (refine DLe.agg ?_ rfl) | exact trivial | (refine And.intro ?_ ?_)))); (solve | exact .inl rfl | exact .inr rfl))) | fail | omega | exact decide_eq_true (by omega) | exact DLe.refl _)
    exact weak_eq rfl rfl
end Go.Proofs.YtgmbhaclogabeaaGreat
namespace Go.Proofs.YtgmbhaclogabeaaGreat
open Go Go.RowKit
def Net.zero : Net := ⟨[], []⟩
theorem findIdx_of {l : List Vpc} {id : Int} {o : Option Vpc} (h : l.find? (fun v => v.id == id) = o) : match o with | some v => ∃ i, l.findIdx? (fun v => v.id == id) = some i ∧ l[i]? = some v ∧ v.id = id | none => l.findIdx? (fun v => v.id == id) = none := by
  cases o with
  | none =>
    rw [List.find?_eq_none] at h
    exact List.findIdx?_eq_none_iff.2 fun v hv => by simpa using h v hv
  | some v =>
    obtain ⟨h1, i, hi, h2, h3⟩ := List.find?_eq_some_iff_getElem.1 h
    refine ⟨i, ?_, by rw [List.getElem?_eq_getElem hi, h2], by simpa using h1⟩
    rw [List.findIdx?_eq_some_iff_getElem]
    exact ⟨hi, by rw [h2]; exact h1, fun j hj => by simpa using h3 j hj⟩
/-- The place of a network. -/
def vpcIx (n : Net) (id : Int) : Option Nat := n.vpcs.findIdx? fun v => v.id == id
theorem vpcIx_some {n : Net} {id : Int} {i : Nat} (h : vpcIx n id = some i) : ∃ v, n.vpcs[i]? = some v ∧ v.id = id ∧ i < n.vpcs.length ∧ findN n id = some v := by
  cases hf : findN n id with
  | none => have := findIdx_of hf; unfold vpcIx at h; rw [h] at this; cases this
  | some v =>
    obtain ⟨j, h1, h2, h3⟩ := findIdx_of hf
    unfold vpcIx at h
    rw [h] at h1
    cases h1
    exact ⟨v, h2, h3, (List.getElem?_eq_some_iff.1 h2).1, rfl⟩
theorem vpcIx_none {n : Net} {id : Int} (h : vpcIx n id = none) : findN n id = none := by
  cases hf : findN n id with
  | none => rfl
  | some v =>
    obtain ⟨j, h1, -⟩ := findIdx_of hf
    unfold vpcIx at h
    rw [h] at h1
    cases h1
theorem lbv_at {α : Type} {key : α → Int} {l : List α} {i : Nat} {q : α} (hs : l.Pairwise fun a b => key a < key b) (hq : l[i]? = some q) : lbN key (key q) l = i ∧ lbB key (key q) l = true := by
  obtain ⟨hi, rfl⟩ := List.getElem?_eq_some_iff.1 hq
  have h1 : lbN key (key l[i]) l = i := lbN_eq (Nat.le_of_lt hi) (fun k hk hki => List.pairwise_iff_getElem.1 hs k i hk hi hki) (fun k hk hki => by
    rcases Nat.lt_or_ge i k with h | h
    · have := List.pairwise_iff_getElem.1 hs i k hi hk h; omega
    · obtain rfl : k = i := by omega
      exact Int.le_refl _)
  refine ⟨h1, ?_⟩
  unfold lbB
  rw [h1, hq]; simp
set_option maxRecDepth 100000 in
theorem nfind_m (n : Net) (id : Int) (gv gl i : Nat) (v : Vpc) (hv : n.vpcs[i]? = some v) (he : v.id = id) (h6 : n.vpcs.length ≤ 6) (hs : n.vpcs.Pairwise fun a b => a.id < b.id) :
    MSpec Tryz.prog 22 [.ptr 0 0, .d (.v (.int .i64 id))] [.box 25 [.own 1 gv, .own 2 gl], .row 56 3 gv (dRows (n.vpcs.map encV)), .row 68 2 gl (dRows (n.links.map encK))] (.tup [.rp 1 gv 3 i 0, .d (.v (.bool true))])
      [.box 25 [.own 1 gv, .own 2 gl], .row 56 3 gv (dRows (n.vpcs.map encV)), .row 68 2 gl (dRows (n.links.map encK))] := by
  have hb := bsrf_Vpc encV_len (fun v : Vpc => v.id) n.vpcs id 46 [] (by omega) hs (fun v _ => find1_p v id)
  subst he
  obtain ⟨e1, e2⟩ := lbv_at (key := fun v : Vpc => v.id) hs hv
  rw [e1, e2] at hb
  have hi := (List.getElem?_eq_some_iff.1 hv).1
  have hiI : (0 : Int) ≤ (i : Int) := by omega
  clear hs e1 e2
  replace hv := Lib.hid hv
  refine ms_i tab_ok mixed Tryz.func22 rfl Tryz.ntmps22 Tryz.results22 (by kernel_rfl) (by simp) (by simp [belowL, belowP]) (by simp [belowH, belowC, belowL, belowP, belowL_d, belowR_d]) ?_
  repeat' (first | (with_reducible refine And.intro ?_ ?_) | (with_reducible refine gK_i (fun _ => ?_) (fun _ => ?_)) | (with_reducible refine condS_i (fun _ => ?_) (fun _ => ?_)) | (with_reducible refine drw_i (by kernel_rfl)) | simp -dsimp only [go_sem, seval, *, hiI, hi, undef] | ((with_reducible refine opK_c ?_); simp -dsimp only [go_sem, seval, hiI, hi, undef]; first | refine callK_r (by first | assumption | exact hb) (by first | exact .inl rfl | exact .inr rfl) ?_ | (refine callK_i (by assumption) ?_ ?_ ?_; (solve | (repeat (first | exact DLe.refl _ | exact DLe.nil _ | (refine DLe.tup ?_) | (refine DLe.agg ?_ rfl) | exact trivial | (refine And.intro ?_ ?_)))); (solve | exact .inl rfl | exact .inr rfl))) | fail | omega | exact decide_eq_true (by omega) | exact DLe.refl _)
  exact weak_eq rfl rfl
set_option maxRecDepth 100000 in
theorem nfind0_m (n : Net) (id : Int) (gv gl : Nat) (hf : findN n id = none) (h6 : n.vpcs.length ≤ 6) (hs : n.vpcs.Pairwise fun a b => a.id < b.id) :
    MSpec Tryz.prog 22 [.ptr 0 0, .d (.v (.int .i64 id))] [.box 25 [.own 1 gv, .own 2 gl], .row 56 3 gv (dRows (n.vpcs.map encV)), .row 68 2 gl (dRows (n.links.map encK))] (.d (.tup [.v (.pointer none), .v (.bool false)]))
      [.box 25 [.own 1 gv, .own 2 gl], .row 56 3 gv (dRows (n.vpcs.map encV)), .row 68 2 gl (dRows (n.links.map encK))] := by
  have hb := bsrf_Vpc encV_len (fun v : Vpc => v.id) n.vpcs id 46 [] (by omega) hs (fun v _ => find1_p v id)
  have e2 : lbB (fun v : Vpc => v.id) id n.vpcs = false := by
    cases hB : lbB (fun v : Vpc => v.id) id n.vpcs with
    | false => rfl
    | true =>
      unfold lbB at hB
      cases hq : n.vpcs[lbN (fun v : Vpc => v.id) id n.vpcs]? with
      | none => rw [hq] at hB; cases hB
      | some v =>
        have := lb_hit hs hq (by rw [hq] at hB; simpa using hB)
        unfold findN at hf
        rw [hf] at this
        cases this
  rw [e2] at hb
  clear hs e2 hf
  refine ms_i tab_ok mixed Tryz.func22 rfl Tryz.ntmps22 Tryz.results22 (by kernel_rfl) (by simp) (by simp [belowL, belowP]) (by simp [belowH, belowC, belowL, belowP, belowL_d, belowR_d]) ?_
  repeat' (first | (with_reducible refine And.intro ?_ ?_) | (with_reducible refine gK_i (fun _ => ?_) (fun _ => ?_)) | (with_reducible refine condS_i (fun _ => ?_) (fun _ => ?_)) | (with_reducible refine drw_i (by kernel_rfl)) | simp -dsimp only [go_sem, seval, *, undef] | ((with_reducible refine opK_c ?_); simp -dsimp only [go_sem, seval, undef]; first | refine callK_r (by first | assumption | exact hb) (by first | exact .inl rfl | exact .inr rfl) ?_ | (refine callK_i (by assumption) ?_ ?_ ?_; (solve | (repeat (first | exact DLe.refl _ | exact DLe.nil _ | (refine DLe.tup ?_) | (refine DLe.agg ?_ rfl) | exact trivial | (refine And.intro ?_ ?_)))); (solve | exact .inl rfl | exact .inr rfl))) | fail | omega | exact decide_eq_true (by omega) | exact DLe.refl _)
  exact weak_eq rfl rfl
theorem nfindz_p (id : Int) : PSpec Tryz.prog 22 [.ept [.v (.slice none 0 0), .v (.slice none 0 0)], .v (.int .i64 id)] (.tup [.v (.pointer none), .v (.bool false)]) := by
  have hb := (bsrf_Vpc encV_len (fun v : Vpc => v.id) [] id 46 [] (by simp) (by simp) (fun v _ => find1_p v id)).args (ds := [.v (.slice none 0 0), .v (.int .i64 id), .clo 46 []]) ⟨DLe.nil _, DLe.refl _, DLe.refl _, trivial⟩
  have e : lbB (fun v : Vpc => v.id) id [] = false := rfl
  rw [e] at hb
  refine ps_i tab_ok mixed Tryz.func22 rfl Tryz.ntmps22 Tryz.results22 (by kernel_rfl) ?_
  repeat' (first | (with_reducible refine And.intro ?_ ?_) | (with_reducible refine gK_i (fun _ => ?_) (fun _ => ?_)) | (with_reducible refine condS_i (fun _ => ?_) (fun _ => ?_)) | (with_reducible refine drw_i (by kernel_rfl)) | simp -dsimp only [go_sem, seval, *, undef] | ((with_reducible refine opK_c ?_); simp -dsimp only [go_sem, seval, undef]; first | refine callK_r (by first | assumption | exact hb) (by first | exact .inl rfl | exact .inr rfl) ?_ | (refine callK_i (by assumption) ?_ ?_ ?_; (solve | (repeat (first | exact DLe.refl _ | exact DLe.nil _ | (refine DLe.tup ?_) | (refine DLe.agg ?_ rfl) | exact trivial | (refine And.intro ?_ ?_)))); (solve | exact .inl rfl | exact .inr rfl))) | fail | omega | exact decide_eq_true (by omega) | exact DLe.refl _)
end Go.Proofs.YtgmbhaclogabeaaGreat
namespace Go.Proofs.YtgmbhaclogabeaaGreat
open Go Go.RowKit
theorem eqK_list (x y : Lnk) : ([x.a, x.b] == [y.a, y.b]) = decide (x = y) := by
  rw [Bool.eq_iff_iff]
  cases x; cases y
  simp
set_option maxHeartbeats 1000000 in
theorem index_Link (l : List Lnk) (x : Lnk) (hl : l.length ≤ 1000000000) :
    PSpec Tryz.prog 43 [.sl 2 (l.map encK), .agg (encK x)] (.v (.int .i64 (idxI (fun y => decide (x = y)) l))) := by
  refine ps_i tab_ok mixed Tryz.func43 rfl Tryz.ntmps43 Tryz.results43 (by kernel_rfl) ?_
  repeat' (first | (with_reducible refine And.intro ?_ ?_) | (with_reducible refine gK_i (fun _ => ?_) (fun _ => ?_)) | (with_reducible refine condS_i (fun _ => ?_) (fun _ => ?_)) | (with_reducible refine drw_i (by kernel_rfl)) | simp -dsimp only [go_sem, seval, *, encK, bne_self_eq_false] | ((with_reducible refine opK_c ?_); simp -dsimp only [go_sem, seval, encK, bne_self_eq_false]; first | refine callK_r (by first | assumption | fail) (by first | exact .inl rfl | exact .inr rfl) ?_ | (refine callK_i (by assumption) ?_ ?_ ?_; (solve | (repeat (first | exact DLe.refl _ | exact DLe.nil _ | (refine DLe.tup ?_) | (refine DLe.agg ?_ rfl) | exact trivial | (refine And.intro ?_ ?_)))); (solve | exact .inl rfl | exact .inr rfl))) | fail | omega | exact decide_eq_true (by omega) | exact DLe.refl _)
  refine loopG tab_ok mixed (fun m e h => ∃ k : Nat, k ≤ l.length ∧ (∀ y ∈ l.take k, decide (x = y) = false) ∧ m = l.length - k ∧ e = [(8, .d (.v (.int .i64 k))), (7, .d (.v (.int .i64 l.length))), (4, .d (.v (.int .i64 0))), (3, .ptr 0 0), (0, .d (.sl 2 (l.map encK)))] ∧ h = [.box 68 ((encK x).map .d)]) _ _ _ ⟨0, Nat.zero_le _, by simp, rfl, rfl, rfl⟩ (weak_forget _ (by simp) (by (try simp only [encK]); rfl) (by (repeat' (first | exact trivial | (refine ⟨rfl, ?_⟩)))) (by first | rfl | simp only [belowH, belowE, belowC, belowL, belowR, belowP, belowL_d, belowR_d, List.length_cons, List.length_nil, Nat.reduceAdd, Nat.reduceLT, decide_true, Bool.and_self, Bool.and_true]) (by first | rfl | simp only [belowH, belowE, belowC, belowL, belowR, belowP, belowL_d, belowR_d, List.length_cons, List.length_nil, Nat.reduceAdd, Nat.reduceLT, decide_true, Bool.and_self, Bool.and_true])) ?_
  rintro m e h ⟨k, hk, hno, rfl, rfl, rfl⟩ CL hCL
  by_cases hlt : k < l.length
  · obtain ⟨y, hy⟩ : ∃ y, l[k]? = some y := ⟨_, List.getElem?_eq_getElem hlt⟩
    have hltI : (k : Int) < (l.length : Int) := by omega
    have hwr : IntKind.i64.wrap ((k : Int) + 1) = ((k + 1 : Nat) : Int) := by rw [IntKind.wrap_i64]; omega
    have he := eqK_list x y
    cases hp : decide (x = y) with
    | false =>
      rw [hp] at he
      have hno2 : ∀ z ∈ l.take (k + 1), decide (x = z) = false := fun z hz => by
        rw [take_snoc hy] at hz
        rcases List.mem_append.1 hz with hz | hz
        · exact hno z hz
        · rw [List.mem_singleton] at hz; rw [hz]; exact hp
      replace hno2 := Lib.hid hno2
      replace hno := Lib.hid hno
      replace hp := Lib.hid hp
      repeat' (first | (with_reducible refine And.intro ?_ ?_) | (with_reducible refine gK_i (fun _ => ?_) (fun _ => ?_)) | (with_reducible refine condS_i (fun _ => ?_) (fun _ => ?_)) | (with_reducible refine drw_i (by kernel_rfl)) | simp -dsimp only [go_sem, seval, *, encK, hy, hltI, hwr, he] | ((with_reducible refine opK_c ?_); simp -dsimp only [go_sem, seval, encK, hy, hltI, hwr, he]; first | refine callK_r (by first | assumption | fail) (by first | exact .inl rfl | exact .inr rfl) ?_ | (refine callK_i (by assumption) ?_ ?_ ?_; (solve | (repeat (first | exact DLe.refl _ | exact DLe.nil _ | (refine DLe.tup ?_) | (refine DLe.agg ?_ rfl) | exact trivial | (refine And.intro ?_ ?_)))); (solve | exact .inl rfl | exact .inr rfl))) | fail | omega | exact decide_eq_true (by omega) | exact DLe.refl _)
      refine hCL _ _ _ _ _ ?_ ⟨k + 1, hlt, hno2.out, rfl, rfl, rfl⟩ (weak_forget _ (by simp) (by (try simp only [encK]); rfl) (by (repeat' (first | exact trivial | (refine ⟨rfl, ?_⟩)))) (by first | rfl | simp only [belowH, belowE, belowC, belowL, belowR, belowP, belowL_d, belowR_d, List.length_cons, List.length_nil, Nat.reduceAdd, Nat.reduceLT, decide_true, Bool.and_self, Bool.and_true]) (by first | rfl | simp only [belowH, belowE, belowC, belowL, belowR, belowP, belowL_d, belowR_d, List.length_cons, List.length_nil, Nat.reduceAdd, Nat.reduceLT, decide_true, Bool.and_self, Bool.and_true]))
      omega
    | true =>
      rw [hp] at he
      have hidx : idxI (fun y => decide (x = y)) l = k := idxI_some hy hp hno
      rw [hidx]
      replace hidx := Lib.hid hidx
      replace hno := Lib.hid hno
      replace hp := Lib.hid hp
      repeat' (first | (with_reducible refine And.intro ?_ ?_) | (with_reducible refine gK_i (fun _ => ?_) (fun _ => ?_)) | (with_reducible refine condS_i (fun _ => ?_) (fun _ => ?_)) | (with_reducible refine drw_i (by kernel_rfl)) | simp -dsimp only [go_sem, seval, *, encK, hy, hltI, hwr, he] | ((with_reducible refine opK_c ?_); simp -dsimp only [go_sem, seval, encK, hy, hltI, hwr, he]; first | refine callK_r (by first | assumption | fail) (by first | exact .inl rfl | exact .inr rfl) ?_ | (refine callK_i (by assumption) ?_ ?_ ?_; (solve | (repeat (first | exact DLe.refl _ | exact DLe.nil _ | (refine DLe.tup ?_) | (refine DLe.agg ?_ rfl) | exact trivial | (refine And.intro ?_ ?_)))); (solve | exact .inl rfl | exact .inr rfl))) | fail | omega | exact decide_eq_true (by omega) | exact DLe.refl _)
      all_goals exact DLe.refl _
  · obtain rfl : k = l.length := by omega
    rw [List.take_length] at hno
    rw [idxI_none hno]
    replace hno := Lib.hid hno
    repeat' (first | (with_reducible refine And.intro ?_ ?_) | (with_reducible refine gK_i (fun _ => ?_) (fun _ => ?_)) | (with_reducible refine condS_i (fun _ => ?_) (fun _ => ?_)) | (with_reducible refine drw_i (by kernel_rfl)) | simp -dsimp only [go_sem, seval, *, encK, Int.lt_irrefl] | ((with_reducible refine opK_c ?_); simp -dsimp only [go_sem, seval, encK, Int.lt_irrefl]; first | refine callK_r (by first | assumption | fail) (by first | exact .inl rfl | exact .inr rfl) ?_ | (refine callK_i (by assumption) ?_ ?_ ?_; (solve | (repeat (first | exact DLe.refl _ | exact DLe.nil _ | (refine DLe.tup ?_) | (refine DLe.agg ?_ rfl) | exact trivial | (refine And.intro ?_ ?_)))); (solve | exact .inl rfl | exact .inr rfl))) | fail | omega | exact decide_eq_true (by omega) | exact DLe.refl _)
    all_goals exact DLe.refl _
theorem contains_Link (l : List Lnk) (x : Lnk) (hl : l.length ≤ 1000000000) :
    PSpec Tryz.prog 40 [.sl 2 (l.map encK), .agg (encK x)] (.v (.bool (l.any fun y => decide (x = y)))) := by
  have hi := index_Link l x hl
  have hany := idxI_any (fun y => decide (x = y)) l
  refine ps_i tab_ok mixed Tryz.func40 rfl Tryz.ntmps40 Tryz.results40 (by kernel_rfl) ?_
  repeat' (first | (with_reducible refine And.intro ?_ ?_) | (with_reducible refine gK_i (fun _ => ?_) (fun _ => ?_)) | (with_reducible refine condS_i (fun _ => ?_) (fun _ => ?_)) | (with_reducible refine drw_i (by kernel_rfl)) | simp -dsimp only [go_sem, seval, *, encK, hany] | ((with_reducible refine opK_c ?_); simp -dsimp only [go_sem, seval, encK, hany]; first | refine callK_r (by first | assumption | exact hi) (by first | exact .inl rfl | exact .inr rfl) ?_ | (refine callK_i (by assumption) ?_ ?_ ?_; (solve | (repeat (first | exact DLe.refl _ | exact DLe.nil _ | (refine DLe.tup ?_) | (refine DLe.agg ?_ rfl) | exact trivial | (refine And.intro ?_ ?_)))); (solve | exact .inl rfl | exact .inr rfl))) | fail | omega | exact decide_eq_true (by omega) | exact DLe.refl _)
  all_goals exact DLe.refl _
theorem delete_Link {α : Type} {enc : α → List D} (l : List α) (i j g : Nat) (hi : i < l.length) (hj : j = i + 1) :
    MSpec Tryz.prog 44 [.own 0 g, .d (.v (.int .i64 i)), .d (.v (.int .i64 j))] [.row 68 2 g (dRows (l.map enc))] (.own 0 (g + 1)) [.row 68 2 (g + 1) (dRows ((l.eraseIdx i).map enc))] := by
  have h1 : ((i : Int) == (j : Int)) = false := by simp; omega
  have hne : ¬ dRows (l.map enc) = [] := by cases l <;> simp [dRows] at hi ⊢
  have hle : (i : Int) ≤ (j : Int) := by omega
  have hle2 : (j : Int) ≤ (l.length : Int) := by omega
  have hlm : (l.map enc).length = l.length := List.length_map _
  have h2 := del_len (dRows (l.map enc)) i j l.length (by rw [dRows_len, hlm]; exact hi) hj (by rw [dRows_len, hlm])
  rw [dRows_len, hlm] at h2
  have hj1 := Lib.hid hj
  clear hj
  have hj2 : j ≤ l.length := by have := hj1.out; omega
  have hmin : min (l.length - j) (l.length - j) = l.length - j := Nat.min_self _
  have hlt : i + (l.length - j) ≤ l.length := by have := hj1.out; omega
  have hk1 : l.length - (i + (l.length - j)) = 1 := by have := hj1.out; omega
  have hk2 : i + (l.length - j) + 1 ≤ l.length := by have := hj1.out; omega
  have hne2 : ¬ setAt (dRows (l.map enc)) i (((dRows (l.map enc)).drop j).take (l.length - j)) = [] := by
    intro h
    rw [h] at h2; simp at h2; omega
  refine ms_i tab_ok mixed Tryz.func44 rfl Tryz.ntmps44 Tryz.results44 (by kernel_rfl) (by simp) (by simp [belowL, belowP]) (by simp [belowH, belowC, belowL, belowP, belowL_d, belowR_d]) ?_
  repeat' (first | (with_reducible refine And.intro ?_ ?_) | (with_reducible refine gK_i (fun _ => ?_) (fun _ => ?_)) | (with_reducible refine condS_i (fun _ => ?_) (fun _ => ?_)) | (with_reducible refine drw_i (by kernel_rfl)) | simp -dsimp only [go_sem, seval, *, h1, hne, Nat.sub_zero, List.length_take, List.length_drop] | ((with_reducible refine opK_c ?_); simp -dsimp only [go_sem, seval, h1, hne, Nat.sub_zero, List.length_take, List.length_drop]; first | refine callK_r (by first | assumption | fail) (by first | exact .inl rfl | exact .inr rfl) ?_ | refine callK_i (by assumption) (by repeat (first | exact DLe.refl _ | exact DLe.nil _ | (refine DLe.tup ?_) | (refine DLe.agg ?_ rfl) | exact trivial | (refine And.intro ?_ ?_))) (by first | exact .inl rfl | exact .inr rfl) ?_) | omega | exact decide_eq_true (by omega) | exact DLe.refl _)
  rw [map_erase]
  exact del_weak (by rw [hlm]; exact hi) hj1.out hlm.symm
end Go.Proofs.YtgmbhaclogabeaaGreat
