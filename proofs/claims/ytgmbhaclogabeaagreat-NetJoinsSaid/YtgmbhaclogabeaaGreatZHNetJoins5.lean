/- Texts of this work, joined: NetR1, NetP, NetF, NetR2, NetR3, LN2, MixG, LN3, NetG, W5, VpcBb, NetR5, NetR6. -/
import Derived.Test.YtgmbhaclogabeaaGreatZHNetJoins4
import Derived.Sort.Grow
set_option linter.unusedSimpArgs false
set_option linter.unusedVariables false
namespace Go.Proofs.YtgmbhaclogabeaaGreat
open Go Go.RowKit
theorem vpcAt_p (n : Net) (id : Int) (hl : n.vpcs.length ≤ 1000000000) : PSpec Tryz.prog 10 [.agg (encT n), .v (.int .i64 id)] (.v (.int .i64 (idxI (fun v => v.id == id) n.vpcs))) := by
  refine ps_i tab_ok mixed Tryz.func10 rfl Tryz.ntmps10 Tryz.results10 (by kernel_rfl) ?_
  repeat' (first | (with_reducible refine And.intro ?_ ?_) | (with_reducible refine gK_i (fun _ => ?_) (fun _ => ?_)) | (with_reducible refine condS_i (fun _ => ?_) (fun _ => ?_)) | (with_reducible refine drw_i (by kernel_rfl)) | simp -dsimp only [go_sem, seval, *, encT] | ((with_reducible refine opK_c ?_); simp -dsimp only [go_sem, seval, encT]; first | refine callK_r (by first | assumption | fail) (by first | exact .inl rfl | exact .inr rfl) ?_ | (refine callK_i (by assumption) ?_ ?_ ?_; (solve | (repeat (first | exact DLe.refl _ | exact DLe.nil _ | (refine DLe.tup ?_) | (refine DLe.agg ?_ rfl) | exact trivial | (refine And.intro ?_ ?_)))); (solve | exact .inl rfl | exact .inr rfl))) | fail | omega | exact decide_eq_true (by omega) | exact DLe.refl _)
  refine loopL tab_ok mixed n.vpcs (fun k => (n.vpcs.take k).all (fun v => !(v.id == id)) = true) (fun k => [(5, .d (.v (.int .i64 k))), (4, .d (.v (.int .i64 0))), (2, .ptr 0 0), (1, .d (.v (.int .i64 id)))]) (fun _ => [.box 25 ((encT n).map .d)]) rfl (weak_forget _ (by simp) (by (try simp only [encT]); rfl) (by (repeat' (first | exact trivial | (refine ⟨rfl, ?_⟩)))) (by first | rfl | simp only [belowH, belowE, belowC, belowL, belowR, belowP, belowL_d, belowR_d, List.length_cons, List.length_nil, Nat.reduceAdd, Nat.reduceLT, decide_true, Bool.and_self, Bool.and_true]) (by first | rfl | simp only [belowH, belowE, belowC, belowL, belowR, belowP, belowL_d, belowR_d, List.length_cons, List.length_nil, Nat.reduceAdd, Nat.reduceLT, decide_true, Bool.and_self, Bool.and_true])) ?_ ?_
  · intro k p hp hk hI C hC
    have hkI : (k : Int) < (n.vpcs.length : Int) := by omega
    have hwr : IntKind.i64.wrap ((k : Int) + 1) = ((k + 1 : Nat) : Int) := by rw [IntKind.wrap_i64]; omega
    replace hI := Lib.hid hI
    repeat' (first | (with_reducible refine And.intro ?_ ?_) | (with_reducible refine gK_i (fun _ => ?_) (fun _ => ?_)) | (with_reducible refine condS_i (fun _ => ?_) (fun _ => ?_)) | (with_reducible refine drw_i (by kernel_rfl)) | simp -dsimp only [go_sem, seval, *, encT, encV, hkI, hwr, hp] | ((with_reducible refine opK_c ?_); simp -dsimp only [go_sem, seval, encT, encV, hkI, hwr, hp]; first | refine callK_r (by first | assumption | fail) (by first | exact .inl rfl | exact .inr rfl) ?_ | (refine callK_i (by assumption) ?_ ?_ ?_; (solve | (repeat (first | exact DLe.refl _ | exact DLe.nil _ | (refine DLe.tup ?_) | (refine DLe.agg ?_ rfl) | exact trivial | (refine And.intro ?_ ?_)))); (solve | exact .inl rfl | exact .inr rfl))) | fail | omega | exact decide_eq_true (by omega) | exact DLe.refl _)
    · rename_i h1
      exact dle_n (idxI_hit hp (by simpa using h1) hI.out).symm
    · rename_i h1
      exact hC _ _ (no_snoc hp hI.out (by simpa using h1)) (weak_forget _ (by simp) (by (try simp only [encT]); rfl) (by (repeat' (first | exact trivial | (refine ⟨rfl, ?_⟩)))) (by first | rfl | simp only [belowH, belowE, belowC, belowL, belowR, belowP, belowL_d, belowR_d, List.length_cons, List.length_nil, Nat.reduceAdd, Nat.reduceLT, decide_true, Bool.and_self, Bool.and_true]) (by first | rfl | simp only [belowH, belowE, belowC, belowL, belowR, belowP, belowL_d, belowR_d, List.length_cons, List.length_nil, Nat.reduceAdd, Nat.reduceLT, decide_true, Bool.and_self, Bool.and_true]))
  · intro hI C
    replace hI := Lib.hid hI
    repeat' (first | (with_reducible refine And.intro ?_ ?_) | (with_reducible refine gK_i (fun _ => ?_) (fun _ => ?_)) | (with_reducible refine condS_i (fun _ => ?_) (fun _ => ?_)) | (with_reducible refine drw_i (by kernel_rfl)) | simp -dsimp only [go_sem, seval, *, encT, Int.lt_irrefl] | ((with_reducible refine opK_c ?_); simp -dsimp only [go_sem, seval, encT, Int.lt_irrefl]; first | refine callK_r (by first | assumption | fail) (by first | exact .inl rfl | exact .inr rfl) ?_ | (refine callK_i (by assumption) ?_ ?_ ?_; (solve | (repeat (first | exact DLe.refl _ | exact DLe.nil _ | (refine DLe.tup ?_) | (refine DLe.agg ?_ rfl) | exact trivial | (refine And.intro ?_ ?_)))); (solve | exact .inl rfl | exact .inr rfl))) | fail | omega | exact decide_eq_true (by omega) | exact DLe.refl _)
    exact dle_n (idxI_no hI.out).symm
theorem vpcAt_ix (n : Net) (id : Int) : idxI (fun v => v.id == id) n.vpcs = match vpcIx n id with | some i => (i : Int) | none => -1 := rfl
/-- Does a link join two networks? -/
def linkedN (n : Net) (a b : Int) : Bool := n.links.any fun y => decide (y = lnk a b)
theorem linkedR_p (n : Net) (a b : Int) (hl : n.links.length ≤ 1000000000) : PSpec Tryz.prog 33 [.agg (encT n), .v (.int .i64 a), .v (.int .i64 b)] (.v (.bool (linkedN n a b))) := by
  obtain ⟨R, hR⟩ : ∃ R, R = linkedN n a b := ⟨_, rfl⟩
  rw [← hR]
  replace hR := Lib.hid hR
  refine ps_i tab_ok mixed Tryz.func33 rfl Tryz.ntmps33 Tryz.results33 (by kernel_rfl) ?_
  repeat' (first | (with_reducible refine And.intro ?_ ?_) | (with_reducible refine gK_i (fun _ => ?_) (fun _ => ?_)) | (with_reducible refine condS_i (fun _ => ?_) (fun _ => ?_)) | (with_reducible refine drw_i (by kernel_rfl)) | simp -dsimp only [go_sem, seval, *, encT] | ((with_reducible refine opK_c ?_); simp -dsimp only [go_sem, seval, encT]; first | refine callK_r (by first | assumption | fail) (by first | exact .inl rfl | exact .inr rfl) ?_ | (refine callK_i (by assumption) ?_ ?_ ?_; (solve | (repeat (first | exact DLe.refl _ | exact DLe.nil _ | (refine DLe.tup ?_) | (refine DLe.agg ?_ rfl) | exact trivial | (refine And.intro ?_ ?_)))); (solve | exact .inl rfl | exact .inr rfl))) | fail | omega | exact decide_eq_true (by omega) | exact DLe.refl _)
  refine loopL tab_ok mixed n.links (fun k => (n.links.take k).all (fun y => !decide (y = lnk a b)) = true) (fun k => [(7, .d (.v (.int .i64 k))), (6, .d (.v (.bool false))), (3, .ptr 0 0), (2, .d (.v (.int .i64 b))), (1, .d (.v (.int .i64 a)))]) (fun _ => [.box 25 ((encT n).map .d)]) rfl (weak_forget _ (by simp) (by (try simp only [encT]); rfl) (by (repeat' (first | exact trivial | (refine ⟨rfl, ?_⟩)))) (by first | rfl | simp only [belowH, belowE, belowC, belowL, belowR, belowP, belowL_d, belowR_d, List.length_cons, List.length_nil, Nat.reduceAdd, Nat.reduceLT, decide_true, Bool.and_self, Bool.and_true]) (by first | rfl | simp only [belowH, belowE, belowC, belowL, belowR, belowP, belowL_d, belowR_d, List.length_cons, List.length_nil, Nat.reduceAdd, Nat.reduceLT, decide_true, Bool.and_self, Bool.and_true])) ?_ ?_
  · intro k p hp hk hI C hC
    have hkI : (k : Int) < (n.links.length : Int) := by omega
    have hwr : IntKind.i64.wrap ((k : Int) + 1) = ((k + 1 : Nat) : Int) := by rw [IntKind.wrap_i64]; omega
    have he : ([p.a, p.b] == [if b < a then b else a, if a < b then b else a]) = decide (p = lnk a b) := eqK_list p (lnk a b)
    have hyes : decide (p = lnk a b) = true → R = true := fun h => by rw [hR.out]; exact List.any_eq_true.2 ⟨p, List.mem_of_getElem? hp, h⟩
    have hno : decide (p = lnk a b) = false → (n.links.take (k + 1)).all (fun y => !decide (y = lnk a b)) = true := fun h => no_snoc hp hI (by simpa using h)
    generalize decide (p = lnk a b) = t at *
    replace hI := Lib.hid hI
    replace hyes := Lib.hid hyes
    replace hno := Lib.hid hno
    cases t with
    | true =>
      have hr := hyes.out rfl
      rw [hr]
      replace hr := Lib.hid hr
      repeat' (first | (with_reducible refine And.intro ?_ ?_) | (with_reducible refine gK_i (fun _ => ?_) (fun _ => ?_)) | (with_reducible refine condS_i (fun _ => ?_) (fun _ => ?_)) | (with_reducible refine drw_i (by kernel_rfl)) | simp -dsimp only [go_sem, seval, *, encT, encK, hkI, hwr, hp, he] | ((with_reducible refine opK_c ?_); simp -dsimp only [go_sem, seval, encT, encK, hkI, hwr, hp, he]; first | refine callK_r (by first | assumption | fail) (by first | exact .inl rfl | exact .inr rfl) ?_ | (refine callK_i (by assumption) ?_ ?_ ?_; (solve | (repeat (first | exact DLe.refl _ | exact DLe.nil _ | (refine DLe.tup ?_) | (refine DLe.agg ?_ rfl) | exact trivial | (refine And.intro ?_ ?_)))); (solve | exact .inl rfl | exact .inr rfl))) | fail | omega | exact decide_eq_true (by omega) | exact DLe.refl _)
      all_goals exact DLe.refl _
    | false =>
      repeat' (first | (with_reducible refine And.intro ?_ ?_) | (with_reducible refine gK_i (fun _ => ?_) (fun _ => ?_)) | (with_reducible refine condS_i (fun _ => ?_) (fun _ => ?_)) | (with_reducible refine drw_i (by kernel_rfl)) | simp -dsimp only [go_sem, seval, *, encT, encK, hkI, hwr, hp, he] | ((with_reducible refine opK_c ?_); simp -dsimp only [go_sem, seval, encT, encK, hkI, hwr, hp, he]; first | refine callK_r (by first | assumption | fail) (by first | exact .inl rfl | exact .inr rfl) ?_ | (refine callK_i (by assumption) ?_ ?_ ?_; (solve | (repeat (first | exact DLe.refl _ | exact DLe.nil _ | (refine DLe.tup ?_) | (refine DLe.agg ?_ rfl) | exact trivial | (refine And.intro ?_ ?_)))); (solve | exact .inl rfl | exact .inr rfl))) | fail | omega | exact decide_eq_true (by omega) | exact DLe.refl _)
      exact hC _ _ (hno.out rfl) (weak_forget _ (by simp) (by (try simp only [encT]); rfl) (by (repeat' (first | exact trivial | (refine ⟨rfl, ?_⟩)))) (by first | rfl | simp only [belowH, belowE, belowC, belowL, belowR, belowP, belowL_d, belowR_d, List.length_cons, List.length_nil, Nat.reduceAdd, Nat.reduceLT, decide_true, Bool.and_self, Bool.and_true]) (by first | rfl | simp only [belowH, belowE, belowC, belowL, belowR, belowP, belowL_d, belowR_d, List.length_cons, List.length_nil, Nat.reduceAdd, Nat.reduceLT, decide_true, Bool.and_self, Bool.and_true]))
  · intro hI C
    have hr : R = false := by
      rw [hR.out]
      unfold linkedN
      rw [List.take_length, List.all_eq_true] at hI
      rw [List.any_eq_false]
      intro y hy
      have := hI y hy
      simpa using this
    rw [hr]
    replace hr := Lib.hid hr
    replace hI := Lib.hid hI
    repeat' (first | (with_reducible refine And.intro ?_ ?_) | (with_reducible refine gK_i (fun _ => ?_) (fun _ => ?_)) | (with_reducible refine condS_i (fun _ => ?_) (fun _ => ?_)) | (with_reducible refine drw_i (by kernel_rfl)) | simp -dsimp only [go_sem, seval, *, encT, Int.lt_irrefl] | ((with_reducible refine opK_c ?_); simp -dsimp only [go_sem, seval, encT, Int.lt_irrefl]; first | refine callK_r (by first | assumption | fail) (by first | exact .inl rfl | exact .inr rfl) ?_ | (refine callK_i (by assumption) ?_ ?_ ?_; (solve | (repeat (first | exact DLe.refl _ | exact DLe.nil _ | (refine DLe.tup ?_) | (refine DLe.agg ?_ rfl) | exact trivial | (refine And.intro ?_ ?_)))); (solve | exact .inl rfl | exact .inr rfl))) | fail | omega | exact decide_eq_true (by omega) | exact DLe.refl _)
    all_goals exact DLe.refl _
set_option maxHeartbeats 1000000 in
theorem clashR_p (v w : Vpc) (hv : v.ranges.length ≤ 1000000000) (hw : w.ranges.length ≤ 1000000000) : PSpec Tryz.prog 32 [.agg (encV v), .agg (encV w)] (.v (.bool (clashV v w))) := by
  obtain ⟨R, hR⟩ : ∃ R, R = clashV v w := ⟨_, rfl⟩
  rw [← hR]
  replace hR := Lib.hid hR
  refine ps_i tab_ok mixed Tryz.func32 rfl Tryz.ntmps32 Tryz.results32 (by kernel_rfl) ?_
  repeat' (first | (with_reducible refine And.intro ?_ ?_) | (with_reducible refine gK_i (fun _ => ?_) (fun _ => ?_)) | (with_reducible refine condS_i (fun _ => ?_) (fun _ => ?_)) | (with_reducible refine drw_i (by kernel_rfl)) | simp -dsimp only [go_sem, seval, *, encV] | ((with_reducible refine opK_c ?_); simp -dsimp only [go_sem, seval, encV]; first | refine callK_r (by first | assumption | fail) (by first | exact .inl rfl | exact .inr rfl) ?_ | (refine callK_i (by assumption) ?_ ?_ ?_; (solve | (repeat (first | exact DLe.refl _ | exact DLe.nil _ | (refine DLe.tup ?_) | (refine DLe.agg ?_ rfl) | exact trivial | (refine And.intro ?_ ?_)))); (solve | exact .inl rfl | exact .inr rfl))) | fail | omega | exact decide_eq_true (by omega) | exact DLe.refl _)
  refine loopL tab_ok mixed v.ranges (fun k => (v.ranges.take k).all (fun r => !(w.ranges.any fun q => r.at_.meets q.at_)) = true) (fun k => [(5, .d (.v (.int .i64 k))), (4, .d (.v (.bool false))), (3, .ptr 1 0), (2, .ptr 0 0)]) (fun _ => [.box 56 ((encV v).map .d), .box 56 ((encV w).map .d)]) rfl (weak_forget _ (by simp) (by (try simp only [encV]); rfl) (by (repeat' (first | exact trivial | (refine ⟨rfl, ?_⟩)))) (by first | rfl | simp only [belowH, belowE, belowC, belowL, belowR, belowP, belowL_d, belowR_d, List.length_cons, List.length_nil, Nat.reduceAdd, Nat.reduceLT, decide_true, Bool.and_self, Bool.and_true]) (by first | rfl | simp only [belowH, belowE, belowC, belowL, belowR, belowP, belowL_d, belowR_d, List.length_cons, List.length_nil, Nat.reduceAdd, Nat.reduceLT, decide_true, Bool.and_self, Bool.and_true])) ?_ ?_
  · intro k r hr0 hk hI C hC
    have hkI : (k : Int) < (v.ranges.length : Int) := by omega
    have hwr : IntKind.i64.wrap ((k : Int) + 1) = ((k + 1 : Nat) : Int) := by rw [IntKind.wrap_i64]; omega
    have hsn : (w.ranges.any fun q => r.at_.meets q.at_) = false → (v.ranges.take (k + 1)).all (fun r => !(w.ranges.any fun q => r.at_.meets q.at_)) = true := fun h => no_snoc hr0 hI (by rw [h]; rfl)
    have hyes : (w.ranges.any fun q => r.at_.meets q.at_) = true → R = true := fun h => by rw [hR.out]; exact List.any_eq_true.2 ⟨r, List.mem_of_getElem? hr0, h⟩
    replace hI := Lib.hid hI
    replace hsn := Lib.hid hsn
    replace hyes := Lib.hid hyes
    repeat' (first | (with_reducible refine And.intro ?_ ?_) | (with_reducible refine gK_i (fun _ => ?_) (fun _ => ?_)) | (with_reducible refine condS_i (fun _ => ?_) (fun _ => ?_)) | (with_reducible refine drw_i (by kernel_rfl)) | simp -dsimp only [go_sem, seval, *, encV, hkI] | ((with_reducible refine opK_c ?_); simp -dsimp only [go_sem, seval, encV, hkI]; first | refine callK_r (by first | assumption | fail) (by first | exact .inl rfl | exact .inr rfl) ?_ | (refine callK_i (by assumption) ?_ ?_ ?_; (solve | (repeat (first | exact DLe.refl _ | exact DLe.nil _ | (refine DLe.tup ?_) | (refine DLe.agg ?_ rfl) | exact trivial | (refine And.intro ?_ ?_)))); (solve | exact .inl rfl | exact .inr rfl))) | fail | omega | exact decide_eq_true (by omega) | exact DLe.refl _)
    refine loopL tab_ok mixed w.ranges (fun j => (w.ranges.take j).all (fun q => !(r.at_.meets q.at_)) = true) (fun j => [(6, .d (.v (.int .i64 j))), (5, .d (.v (.int .i64 k))), (4, .d (.v (.bool false))), (3, .ptr 1 0), (2, .ptr 0 0)]) (fun _ => [.box 56 ((encV v).map .d), .box 56 ((encV w).map .d)]) rfl (weak_forget _ (by simp) (by (try simp only [encV]); rfl) (by (repeat' (first | exact trivial | (refine ⟨rfl, ?_⟩)))) (by first | rfl | simp only [belowH, belowE, belowC, belowL, belowR, belowP, belowL_d, belowR_d, List.length_cons, List.length_nil, Nat.reduceAdd, Nat.reduceLT, decide_true, Bool.and_self, Bool.and_true]) (by first | rfl | simp only [belowH, belowE, belowC, belowL, belowR, belowP, belowL_d, belowR_d, List.length_cons, List.length_nil, Nat.reduceAdd, Nat.reduceLT, decide_true, Bool.and_self, Bool.and_true])) ?_ ?_
    · intro j q hq hj hJ C2 hC2
      have hjI : (j : Int) < (w.ranges.length : Int) := by omega
      have hwj : IntKind.i64.wrap ((j : Int) + 1) = ((j + 1 : Nat) : Int) := by rw [IntKind.wrap_i64]; omega
      have hme := meet_p r.at_ q.at_
      rw [meetB_eq] at hme
      cases b : r.at_.meets q.at_ with
      | true =>
        have hr := hyes.out (List.any_eq_true.2 ⟨q, List.mem_of_getElem? hq, b⟩)
        rw [b] at hme
        rw [hr]
        replace hr := Lib.hid hr
        replace hJ := Lib.hid hJ
        repeat' (first | (with_reducible refine And.intro ?_ ?_) | (with_reducible refine gK_i (fun _ => ?_) (fun _ => ?_)) | (with_reducible refine condS_i (fun _ => ?_) (fun _ => ?_)) | (with_reducible refine drw_i (by kernel_rfl)) | simp -dsimp only [go_sem, seval, *, encV, encG, encP, hkI, hjI, hr0, hq] | ((with_reducible refine opK_c ?_); simp -dsimp only [go_sem, seval, encV, encG, encP, hkI, hjI, hr0, hq]; first | refine callK_r (by first | assumption | exact hme) (by first | exact .inl rfl | exact .inr rfl) ?_ | (refine callK_i (by assumption) ?_ ?_ ?_; (solve | (repeat (first | exact DLe.refl _ | exact DLe.nil _ | (refine DLe.tup ?_) | (refine DLe.agg ?_ rfl) | exact trivial | (refine And.intro ?_ ?_)))); (solve | exact .inl rfl | exact .inr rfl))) | fail | omega | exact decide_eq_true (by omega) | exact DLe.refl _)
        all_goals exact DLe.refl _
      | false =>
        rw [b] at hme
        have hn := no_snoc hq hJ (by rw [b]; rfl)
        replace hn := Lib.hid hn
        replace hJ := Lib.hid hJ
        repeat' (first | (with_reducible refine And.intro ?_ ?_) | (with_reducible refine gK_i (fun _ => ?_) (fun _ => ?_)) | (with_reducible refine condS_i (fun _ => ?_) (fun _ => ?_)) | (with_reducible refine drw_i (by kernel_rfl)) | simp -dsimp only [go_sem, seval, *, encV, encG, encP, hkI, hjI, hwj, hr0, hq] | ((with_reducible refine opK_c ?_); simp -dsimp only [go_sem, seval, encV, encG, encP, hkI, hjI, hwj, hr0, hq]; first | refine callK_r (by first | assumption | exact hme) (by first | exact .inl rfl | exact .inr rfl) ?_ | (refine callK_i (by assumption) ?_ ?_ ?_; (solve | (repeat (first | exact DLe.refl _ | exact DLe.nil _ | (refine DLe.tup ?_) | (refine DLe.agg ?_ rfl) | exact trivial | (refine And.intro ?_ ?_)))); (solve | exact .inl rfl | exact .inr rfl))) | fail | omega | exact decide_eq_true (by omega) | exact DLe.refl _)
        exact hC2 _ _ hn.out (weak_forget _ (by simp) (by (try simp only [encV]); rfl) (by (repeat' (first | exact trivial | (refine ⟨rfl, ?_⟩)))) (by first | rfl | simp only [belowH, belowE, belowC, belowL, belowR, belowP, belowL_d, belowR_d, List.length_cons, List.length_nil, Nat.reduceAdd, Nat.reduceLT, decide_true, Bool.and_self, Bool.and_true]) (by first | rfl | simp only [belowH, belowE, belowC, belowL, belowR, belowP, belowL_d, belowR_d, List.length_cons, List.length_nil, Nat.reduceAdd, Nat.reduceLT, decide_true, Bool.and_self, Bool.and_true]))
    · intro hJ C2
      have hn := hsn.out (by
        rw [List.take_length, List.all_eq_true] at hJ
        rw [List.any_eq_false]
        intro q hq
        have := hJ q hq
        simpa using this)
      replace hJ := Lib.hid hJ
      replace hn := Lib.hid hn
      repeat' (first | (with_reducible refine And.intro ?_ ?_) | (with_reducible refine gK_i (fun _ => ?_) (fun _ => ?_)) | (with_reducible refine condS_i (fun _ => ?_) (fun _ => ?_)) | (with_reducible refine drw_i (by kernel_rfl)) | simp -dsimp only [go_sem, seval, *, encV, hwr, Int.lt_irrefl] | ((with_reducible refine opK_c ?_); simp -dsimp only [go_sem, seval, encV, hwr, Int.lt_irrefl]; first | refine callK_r (by first | assumption | fail) (by first | exact .inl rfl | exact .inr rfl) ?_ | (refine callK_i (by assumption) ?_ ?_ ?_; (solve | (repeat (first | exact DLe.refl _ | exact DLe.nil _ | (refine DLe.tup ?_) | (refine DLe.agg ?_ rfl) | exact trivial | (refine And.intro ?_ ?_)))); (solve | exact .inl rfl | exact .inr rfl))) | fail | omega | exact decide_eq_true (by omega) | exact DLe.refl _)
      exact hC _ _ hn.out (weak_forget _ (by simp) (by (try simp only [encV]); rfl) (by (repeat' (first | exact trivial | (refine ⟨rfl, ?_⟩)))) (by first | rfl | simp only [belowH, belowE, belowC, belowL, belowR, belowP, belowL_d, belowR_d, List.length_cons, List.length_nil, Nat.reduceAdd, Nat.reduceLT, decide_true, Bool.and_self, Bool.and_true]) (by first | rfl | simp only [belowH, belowE, belowC, belowL, belowR, belowP, belowL_d, belowR_d, List.length_cons, List.length_nil, Nat.reduceAdd, Nat.reduceLT, decide_true, Bool.and_self, Bool.and_true]))
  · intro hI C
    have hr : R = false := by
      rw [hR.out]
      rw [List.take_length, List.all_eq_true] at hI
      unfold clashV
      rw [List.any_eq_false]
      intro y hy
      have := hI y hy
      simpa using this
    rw [hr]
    replace hr := Lib.hid hr
    replace hI := Lib.hid hI
    repeat' (first | (with_reducible refine And.intro ?_ ?_) | (with_reducible refine gK_i (fun _ => ?_) (fun _ => ?_)) | (with_reducible refine condS_i (fun _ => ?_) (fun _ => ?_)) | (with_reducible refine drw_i (by kernel_rfl)) | simp -dsimp only [go_sem, seval, *, encV, Int.lt_irrefl] | ((with_reducible refine opK_c ?_); simp -dsimp only [go_sem, seval, encV, Int.lt_irrefl]; first | refine callK_r (by first | assumption | fail) (by first | exact .inl rfl | exact .inr rfl) ?_ | (refine callK_i (by assumption) ?_ ?_ ?_; (solve | (repeat (first | exact DLe.refl _ | exact DLe.nil _ | (refine DLe.tup ?_) | (refine DLe.agg ?_ rfl) | exact trivial | (refine And.intro ?_ ?_)))); (solve | exact .inl rfl | exact .inr rfl))) | fail | omega | exact decide_eq_true (by omega) | exact DLe.refl _)
    all_goals exact DLe.refl _
set_option maxRecDepth 100000 in
set_option maxHeartbeats 1000000 in
theorem ownNet_m (n : Net) (h6 : n.vpcs.length ≤ 6) (h12 : n.links.length ≤ 12) (hv : ∀ v ∈ n.vpcs, chkV v = 0) :
    MSpec Tryz.prog 35 [.d (.agg (encT n))] [] (.agg [.own 4 n.vpcs.length, .own 2 1]) [.gone, .gone, .row 68 2 1 (dRows (n.links.map encK)), .gone, .row 56 3 n.vpcs.length (dRows (n.vpcs.map encV))] := by
  replace hv := Lib.hid hv
  refine ms_i tab_ok mixed Tryz.func35 rfl Tryz.ntmps35 Tryz.results35 (by kernel_rfl) (by simp) (by simp [belowL, belowP]) (by simp [belowH, belowC, belowL, belowP, belowL_d, belowR_d]) ?_
  repeat' (first | (with_reducible refine And.intro ?_ ?_) | (with_reducible refine gK_i (fun _ => ?_) (fun _ => ?_)) | (with_reducible refine condS_i (fun _ => ?_) (fun _ => ?_)) | (with_reducible refine drw_i (by kernel_rfl)) | simp -dsimp only [go_sem, seval, *, encT] | ((with_reducible refine opK_c ?_); simp -dsimp only [go_sem, seval, encT]; first | refine callK_r (by first | assumption | fail) (by first | exact .inl rfl | exact .inr rfl) ?_ | (refine callK_i (by assumption) ?_ ?_ ?_; (solve | (repeat (first | exact DLe.refl _ | exact DLe.nil _ | (refine DLe.tup ?_) | (refine DLe.agg ?_ rfl) | exact trivial | (refine And.intro ?_ ?_)))); (solve | exact .inl rfl | exact .inr rfl))) | fail | omega | exact decide_eq_true (by omega) | exact DLe.refl _)
  refine loopL tab_ok mixed n.vpcs (fun _ => True) (fun k => [(4, .d (.v (.int .i64 k))), (3, .ptr 3 0), (2, .ptr 1 0), (1, .ptr 0 0)])
    (fun k => [.box 25 ((encT n).map .d), .box 25 [.d (.v (.slice none 0 0)), .d (.v (.slice none 0 0))], .row 68 2 1 (dRows (n.links.map encK)), .box 25 [.own 4 k, .own 2 1], .row 56 3 k (dRows ((n.vpcs.take k).map encV))]) trivial ?_ ?_ ?_
  · refine (weak_adopt_box (by simp) 3 25 [.d (.v (.slice none 0 0)), .own 2 1] 0 56 3 rfl rfl rfl).trans ?_
    exact weak_forget _ (by simp) (by rfl) (by (repeat' (first | exact trivial | (refine ⟨rfl, ?_⟩)))) (by first | rfl | simp only [belowH, belowE, belowC, belowL, belowR, belowP, belowL_d, belowR_d, belowR_zipG, subRow, faceRow, List.length_cons, List.length_nil, Nat.reduceAdd, Nat.reduceLT, decide_true, Bool.and_self, Bool.and_true]) (by first | rfl | simp only [belowH, belowE, belowC, belowL, belowR, belowP, belowL_d, belowR_d, belowR_zipG, subRow, faceRow, List.length_cons, List.length_nil, Nat.reduceAdd, Nat.reduceLT, decide_true, Bool.and_self, Bool.and_true])
  · intro k v hv0 hk _ C hC
    have hkI : (k : Int) < (n.vpcs.length : Int) := by omega
    have hwr : IntKind.i64.wrap ((k : Int) + 1) = ((k + 1 : Nat) : Int) := by rw [IntKind.wrap_i64]; omega
    have hb0 : k + 1 ≤ 100 := by omega
    have hlv : (List.take k n.vpcs).length = k := by rw [List.length_take]; omega
    have hvk := vpcOK_of (hv.out v (List.mem_of_getElem? hv0))
    have hob := ownD_m v hvk.n4 hvk.n6 hvk.n8
    clear hvk
    replace hv0 := Lib.hid hv0
    have hv1 := hv0.out
    repeat' (first | (with_reducible refine And.intro ?_ ?_) | (with_reducible refine gK_i (fun _ => ?_) (fun _ => ?_)) | (with_reducible refine condS_i (fun _ => ?_) (fun _ => ?_)) | (with_reducible refine drw_i (by kernel_rfl)) | simp -dsimp only [go_sem, seval, *, encT, encV, hkI, hwr, hv1, hb0, hlv] | ((with_reducible refine opK_c ?_); simp -dsimp only [go_sem, seval, encT, encV, hkI, hwr, hv1, hb0, hlv]; first | refine callK_r (by first | assumption | fail) (by first | exact .inl rfl | exact .inr rfl) ?_ | (refine callK_i (by assumption) ?_ ?_ ?_; (solve | (repeat (first | exact DLe.refl _ | exact DLe.nil _ | (refine DLe.tup ?_) | (refine DLe.agg ?_ rfl) | exact trivial | (refine And.intro ?_ ?_)))); (solve | exact .inl rfl | exact .inr rfl))) | (refine opK_M [] (hob) ?_ ?_ ?_ ?_ ?_ ?_; (solve | rfl | simp only [go_sem, seval, encV]); (solve | rfl); (solve | decide); (solve | simp); (solve | simp only [go_sem, seval, lentOK, encV])) | omega | exact decide_eq_true (by omega) | exact DLe.refl _)
    refine hC _ _ trivial ((weak_freeze 9 v.subs.length 86 4 (v.subs.map encN) rfl).trans ?_)
    simp only [fzE, fz, fzL, fzH, fzC, fzR, fzR_app, fzR_d, fzL_d, List.map_cons, List.map_nil, Nat.reduceAdd, Nat.reduceEqDiff, reduceIte, and_true, true_and, and_self, and_false, false_and, Nat.zero_add, Nat.add_zero, reduceCtorEq]
    refine (weak_freeze 7 1 29 3 (v.ranges.map encG) rfl).trans ?_
    simp only [fzE, fz, fzL, fzH, fzC, fzR, fzR_app, fzR_d, fzL_d, List.map_cons, List.map_nil, Nat.reduceAdd, Nat.reduceEqDiff, reduceIte, and_true, true_and, and_self, and_false, false_and, Nat.zero_add, Nat.add_zero, reduceCtorEq]
    exact weak_forget _ (by simp) (by rw [take_snoc hv0.out, List.map_append, List.map_cons, List.map_nil, ← dRows_app]; rfl) (by (repeat' (first | exact trivial | (refine ⟨rfl, ?_⟩)))) (by first | rfl | simp only [belowH, belowE, belowC, belowL, belowR, belowP, belowL_d, belowR_d, belowR_zipG, subRow, faceRow, List.length_cons, List.length_nil, Nat.reduceAdd, Nat.reduceLT, decide_true, Bool.and_self, Bool.and_true]) (by first | rfl | simp only [belowH, belowE, belowC, belowL, belowR, belowP, belowL_d, belowR_d, belowR_zipG, subRow, faceRow, List.length_cons, List.length_nil, Nat.reduceAdd, Nat.reduceLT, decide_true, Bool.and_self, Bool.and_true])
  · intro _ C
    repeat' (first | (with_reducible refine And.intro ?_ ?_) | (with_reducible refine gK_i (fun _ => ?_) (fun _ => ?_)) | (with_reducible refine condS_i (fun _ => ?_) (fun _ => ?_)) | (with_reducible refine drw_i (by kernel_rfl)) | simp -dsimp only [go_sem, seval, *, encT, Int.lt_irrefl, List.take_length] | ((with_reducible refine opK_c ?_); simp -dsimp only [go_sem, seval, encT, Int.lt_irrefl, List.take_length]; first | refine callK_r (by first | assumption | fail) (by first | exact .inl rfl | exact .inr rfl) ?_ | (refine callK_i (by assumption) ?_ ?_ ?_; (solve | (repeat (first | exact DLe.refl _ | exact DLe.nil _ | (refine DLe.tup ?_) | (refine DLe.agg ?_ rfl) | exact trivial | (refine And.intro ?_ ?_)))); (solve | exact .inl rfl | exact .inr rfl))) | fail | omega | exact decide_eq_true (by omega) | exact DLe.refl _)
    refine (weak_gone 0 (by simp)).trans ?_
    refine (weak_gone 1 (by simp [setC])).trans ?_
    exact (weak_gone 3 (by simp [setC])).trans (weak_eq rfl rfl)
end Go.Proofs.YtgmbhaclogabeaaGreat
namespace Go.Proofs.YtgmbhaclogabeaaGreat
open Go Go.RowKit
def stepI (lk : Nat → Nat → Bool) (i k : Nat) (l : List Bool) : List Bool := l.set k (l.getD k false || (l.getD i false && lk i k))
def rowI (lk : Nat → Nat → Bool) (l : List Bool) (i : Nat) : Nat → List Bool
  | 0 => l
  | k + 1 => stepI lk i k (rowI lk l i k)
def turnI (lk : Nat → Nat → Bool) (l : List Bool) : Nat → List Bool
  | 0 => l
  | i + 1 => rowI lk (turnI lk l i) i l.length
def closeI (lk : Nat → Nat → Bool) (l : List Bool) : Nat → List Bool
  | 0 => l
  | t + 1 => turnI lk (closeI lk l t) l.length
def leB : List Bool → List Bool → Prop
  | [], [] => True
  | a :: l, b :: m => (a = true → b = true) ∧ leB l m
  | _, _ => False
theorem leB_refl : ∀ l, leB l l
  | [] => trivial
  | _ :: l => ⟨id, leB_refl l⟩
theorem leB_trans : ∀ {l m k : List Bool}, leB l m → leB m k → leB l k
  | [], [], [], _, _ => trivial
  | _ :: _, _ :: _, _ :: _, ⟨h1, h2⟩, ⟨g1, g2⟩ => ⟨fun h => g1 (h1 h), leB_trans h2 g2⟩
theorem leB_anti : ∀ {l m : List Bool}, leB l m → leB m l → l = m
  | [], [], _, _ => rfl
  | a :: l, b :: m, ⟨h1, h2⟩, ⟨g1, g2⟩ => by
    rw [leB_anti h2 g2]
    cases a <;> cases b <;> simp_all
theorem leB_len : ∀ {l m : List Bool}, leB l m → m.length = l.length
  | [], [], _ => rfl
  | _ :: _, _ :: _, ⟨_, h⟩ => by simp [leB_len h]
theorem leB_get : ∀ {l m : List Bool}, leB l m → ∀ {k}, l.getD k false = true → m.getD k false = true
  | [], [], _, _, h => h
  | _ :: _, _ :: _, ⟨h1, _⟩, 0, h => by simpa using h1 (by simpa using h)
  | _ :: _, _ :: _, ⟨_, h2⟩, k + 1, h => by simpa using leB_get h2 (k := k) (by simpa using h)
theorem leB_count : ∀ {l m : List Bool}, leB l m → l = m ∨ l.count true < m.count true
  | [], [], _ => .inl rfl
  | a :: l, b :: m, ⟨h1, h2⟩ => by
    rcases leB_count h2 with rfl | h
    · cases a <;> cases b <;> simp_all
    · right
      cases a <;> cases b <;> simp_all <;> omega
theorem leB_set : ∀ (l : List Bool) (k : Nat) (b : Bool), leB l (l.set k (l.getD k false || b))
  | [], _, _ => by simp [leB]
  | a :: l, 0, b => by simp only [List.set_cons_zero, List.getD_cons_zero]; exact ⟨fun h => by simp [h], leB_refl l⟩
  | a :: l, k + 1, b => by simp only [List.set_cons_succ, List.getD_cons_succ]; exact ⟨id, leB_set l k b⟩
section
variable (lk : Nat → Nat → Bool)
theorem gsl_step (i k : Nat) (l : List Bool) : leB l (stepI lk i k l) := leB_set l k _
theorem gsl_row (l : List Bool) (i : Nat) : ∀ k d, leB (rowI lk l i k) (rowI lk l i (k + d))
  | _, 0 => leB_refl _
  | k, d + 1 => leB_trans (gsl_row l i k d) (gsl_step lk i (k + d) _)
theorem gsl_turn (l : List Bool) : ∀ i d, leB (turnI lk l i) (turnI lk l (i + d))
  | _, 0 => leB_refl _
  | i, d + 1 => leB_trans (gsl_turn l i d) (by have := gsl_row lk (turnI lk l (i + d)) (i + d) 0 l.length; rw [Nat.zero_add] at this; exact this)
theorem gsl_tlen (l : List Bool) (i : Nat) : (turnI lk l i).length = l.length := leB_len (by have := gsl_turn lk l 0 i; rw [Nat.zero_add] at this; exact this)
theorem gsl_rlen (l : List Bool) (i k : Nat) : (rowI lk l i k).length = l.length := leB_len (by have := gsl_row lk l i 0 k; rw [Nat.zero_add] at this; exact this)
theorem gsl_close (l : List Bool) : ∀ t, leB l (closeI lk l t)
  | 0 => leB_refl _
  | t + 1 => leB_trans (gsl_close l t) (by have h := leB_len (gsl_close l t); have := gsl_turn lk (closeI lk l t) 0 l.length; rw [Nat.zero_add] at this; exact this)
theorem gsl_clen (l : List Bool) (t : Nat) : (closeI lk l t).length = l.length := leB_len (gsl_close lk l t)
/-- A turn that changes nothing has nothing to do. -/
theorem turn_fix {l : List Bool} (h : turnI lk l l.length = l) {i k : Nat} (hi : i < l.length) (hk : k < l.length) (h1 : l.getD i false = true) (h2 : lk i k = true) : l.getD k false = true := by
  have a1 := gsl_turn lk l 0 i
  have a2 := gsl_turn lk l i (l.length - i)
  rw [Nat.zero_add] at a1
  rw [show i + (l.length - i) = l.length by omega, h] at a2
  have e1 : turnI lk l i = l := leB_anti a2 a1
  have a3 := gsl_turn lk l i 1
  have a4 := gsl_turn lk l (i + 1) (l.length - (i + 1))
  rw [show i + 1 + (l.length - (i + 1)) = l.length by omega, h] at a4
  have e2 : turnI lk l (i + 1) = l := by rw [e1] at a3; exact leB_anti a4 a3
  simp only [turnI, e1] at e2
  have b1 := gsl_row lk l i 0 k
  have b2 := gsl_row lk l i k (l.length - k)
  rw [Nat.zero_add] at b1
  rw [show k + (l.length - k) = l.length by omega, e2] at b2
  have e3 : rowI lk l i k = l := leB_anti b2 b1
  have b3 := gsl_row lk l i k 1
  have b4 := gsl_row lk l i (k + 1) (l.length - (k + 1))
  rw [show k + 1 + (l.length - (k + 1)) = l.length by omega, e2] at b4
  have e4 : rowI lk l i (k + 1) = l := by rw [e3] at b3; exact leB_anti b4 b3
  simp only [rowI, e3, stepI] at e4
  rw [← e4, h1, h2]
  simp [List.getD_eq_getElem?_getD, hk]
theorem close_fix (l : List Bool) (hc : 0 < l.count true) : ∀ t, turnI lk (closeI lk l t) l.length = closeI lk l t ∨ t < (closeI lk l t).count true
  | 0 => .inr hc
  | t + 1 => by
    rcases close_fix l hc t with h | h
    · left
      simp only [closeI, h]
    · have hl := gsl_clen lk l t
      have hle := gsl_turn lk (closeI lk l t) 0 l.length
      rw [Nat.zero_add] at hle
      rcases leB_count (show leB (closeI lk l t) (closeI lk l (t + 1)) from hle) with he | he
      · left
        have e2 : closeI lk l (t + 1) = turnI lk (closeI lk l t) l.length := rfl
        rw [← he]
        rw [← e2, ← he]
      · right; omega
theorem close_closed (l : List Bool) (hc : 0 < l.count true) {i k : Nat} (hi : i < l.length) (hk : k < l.length) (h1 : (closeI lk l l.length).getD i false = true) (h2 : lk i k = true) : (closeI lk l l.length).getD k false = true := by
  have hl := gsl_clen lk l l.length
  rcases close_fix lk l hc l.length with h | h
  · exact turn_fix lk (by rw [hl]; exact h) (by rw [hl]; exact hi) (by rw [hl]; exact hk) h1 h2
  · have := List.count_le_length (a := true) (l := closeI lk l l.length)
    omega
/-- What holds of what is in at first, and goes along the links, holds of all that comes in. -/
theorem gss_step {G : Nat → Prop} (hG : ∀ i k, G i → lk i k = true → G k) {l : List Bool} (h : ∀ k, l.getD k false = true → G k) (i k : Nat) : ∀ j, (stepI lk i k l).getD j false = true → G j := by
  intro j hj
  unfold stepI at hj
  rw [List.getD_eq_getElem?_getD, List.getElem?_set] at hj
  split at hj
  · rename_i e
    subst e
    split at hj
    · simp only [Option.getD_some, Bool.or_eq_true, Bool.and_eq_true] at hj
      rcases hj with hj | hj
      · exact h _ hj
      · exact hG i k (h _ hj.1) hj.2
    · simp at hj
  · exact h j (by rw [List.getD_eq_getElem?_getD]; exact hj)
theorem gss_row {G : Nat → Prop} (hG : ∀ i k, G i → lk i k = true → G k) {l : List Bool} (h : ∀ k, l.getD k false = true → G k) (i : Nat) : ∀ k j, (rowI lk l i k).getD j false = true → G j
  | 0 => h
  | k + 1 => gss_step lk hG (gss_row hG h i k) i k
theorem gss_turn {G : Nat → Prop} (hG : ∀ i k, G i → lk i k = true → G k) {l : List Bool} (h : ∀ k, l.getD k false = true → G k) : ∀ i j, (turnI lk l i).getD j false = true → G j
  | 0 => h
  | i + 1 => gss_row lk hG (gss_turn hG h i) i _
theorem gss_close {G : Nat → Prop} (hG : ∀ i k, G i → lk i k = true → G k) {l : List Bool} (h : ∀ k, l.getD k false = true → G k) : ∀ t j, (closeI lk l t).getD j false = true → G j
  | 0 => h
  | t + 1 => gss_turn lk hG (gss_close hG h t) _
end
def heads (L : List Lnk) : Int → Int := L.foldl stepF (fun x => x)
theorem stepF_keep {F : Int → Int} {x y : Int} (h : F x = F y) (l : Lnk) : stepF F l x = stepF F l y := by unfold stepF; rw [h]
theorem foldF_keep {x y : Int} : ∀ (L : List Lnk) (F : Int → Int), F x = F y → L.foldl stepF F x = L.foldl stepF F y
  | [], _, h => h
  | l :: L, F, h => foldF_keep L _ (stepF_keep h l)
theorem foldF_link {l : Lnk} : ∀ (L : List Lnk) (F : Int → Int), l ∈ L → L.foldl stepF F l.a = L.foldl stepF F l.b
  | m :: L, F, h => by
    rcases List.mem_cons.1 h with rfl | h
    · refine foldF_keep L _ ?_
      unfold stepF
      rw [if_pos rfl]
      split <;> rfl
    · exact foldF_link L _ h
theorem heads_link {L : List Lnk} {l : Lnk} (h : l ∈ L) : heads L l.a = heads L l.b := foldF_link L _ h
theorem foldF_sound {S : Int → Prop} : ∀ (L : List Lnk) (F : Int → Int), (∀ l ∈ L, S l.a ↔ S l.b) → (∀ x y, F x = F y → (S x ↔ S y)) → ∀ x y, L.foldl stepF F x = L.foldl stepF F y → (S x ↔ S y)
  | [], _, _, hF, x, y, h => hF x y h
  | l :: L, F, hL, hF, x, y, h => by
    refine foldF_sound L (stepF F l) (fun m hm => hL m (List.mem_cons_of_mem _ hm)) (fun u v huv => ?_) x y h
    have hl := hL l (by simp)
    unfold stepF at huv
    by_cases h1 : F u = F l.b
    · by_cases h2 : F v = F l.b
      · exact hF u v (h1.trans h2.symm)
      · rw [if_pos h1, if_neg h2] at huv
        exact (hF u l.b h1).trans (hl.symm.trans (hF l.a v huv))
    · by_cases h2 : F v = F l.b
      · rw [if_neg h1, if_pos h2] at huv
        exact (hF u l.a huv).trans (hl.trans (hF v l.b h2).symm)
      · rw [if_neg h1, if_neg h2] at huv
        exact hF u v huv
theorem heads_sound {S : Int → Prop} {L : List Lnk} (hL : ∀ l ∈ L, S l.a ↔ S l.b) {x y : Int} (h : heads L x = heads L y) : S x ↔ S y :=
  foldF_sound L _ hL (fun x y h => by rw [h]) x y h
theorem heads_same {L M : List Lnk} (h : ∀ l, l ∈ L ↔ l ∈ M) {x y : Int} : heads L x = heads L y ↔ heads M x = heads M y := by
  have key : ∀ {L M : List Lnk}, (∀ l, l ∈ L ↔ l ∈ M) → heads L x = heads L y → heads M x = heads M y := fun {L M} h e =>
    ((heads_sound (S := fun z => heads M z = heads M y) (L := L) (fun l hl => by
      have := heads_link ((h l).1 hl)
      rw [this]) e).2 rfl)
  exact ⟨key h, key fun l => (h l).symm⟩
theorem heads_snoc (L : List Lnk) (l : Lnk) : heads (L ++ [l]) = stepF (heads L) l := by unfold heads; rw [List.foldl_append]; rfl
theorem stepF_iff {F : Int → Int} {l : Lnk} {x y : Int} : stepF F l x = stepF F l y ↔ F x = F y ∨ (F x = F l.a ∧ F y = F l.b) ∨ (F x = F l.b ∧ F y = F l.a) := by
  unfold stepF
  by_cases h1 : F x = F l.b <;> by_cases h2 : F y = F l.b
  · rw [if_pos h1, if_pos h2]; simp [h1, h2]
  · rw [if_pos h1, if_neg h2]
    constructor
    · intro h; exact .inr (.inr ⟨h1, h.symm⟩)
    · rintro (h | h | h)
      · exact absurd (h.symm.trans h1) h2
      · exact absurd h.2 h2
      · exact h.2.symm
  · rw [if_neg h1, if_pos h2]
    constructor
    · intro h; exact .inr (.inl ⟨h, h2⟩)
    · rintro (h | h | h)
      · exact absurd (h.trans h2) h1
      · exact h.1
      · exact absurd h.1 h1
  · rw [if_neg h1, if_neg h2]
    constructor
    · intro h; exact .inl h
    · rintro (h | h | h)
      · exact h
      · exact absurd h.2 h2
      · exact absurd h.1 h1
theorem lnk_of {l : Lnk} (h : l.a < l.b) : lnk l.a l.b = l ∧ lnk l.b l.a = l := by
  unfold lnk
  rw [if_neg (by omega), if_pos h, if_pos h, if_neg (by omega)]
  exact ⟨rfl, rfl⟩
theorem lnk_head {L : List Lnk} {a b : Int} (h : lnk a b ∈ L) : heads L a = heads L b := by
  have := heads_link h
  unfold lnk at this
  by_cases h1 : b < a
  · rw [if_pos h1, if_neg (by omega)] at this; exact this.symm
  · rw [if_neg h1] at this
    split at this
    · exact this
    · have : a = b := by omega
      rw [this]
def lkB (L : List Lnk) (ids : List Int) (i k : Nat) : Bool := decide (lnk (ids.getD i 0) (ids.getD k 0) ∈ L)
theorem close_heads {L : List Lnk} {ids : List Int} (hn : ids.Nodup) (hl : ∀ l ∈ L, l.a ∈ ids ∧ l.b ∈ ids ∧ l.a < l.b) {i k : Nat} (hi : i < ids.length) (hk : k < ids.length) :
    (closeI (lkB L ids) ((List.replicate ids.length false).set i true) ids.length).getD k false = (heads L (ids.getD k 0) == heads L (ids.getD i 0)) := by
  have hlen : ((List.replicate ids.length false).set i true).length = ids.length := by simp
  have hcnt : 0 < ((List.replicate ids.length false).set i true).count true := by
    rw [List.count_pos_iff, List.mem_iff_getElem]
    exact ⟨i, by simpa using hi, by simp⟩
  have hini : ∀ j, ((List.replicate ids.length false).set i true).getD j false = true → j = i := by
    intro j hj
    rw [List.getD_eq_getElem?_getD, List.getElem?_set] at hj
    split at hj
    · rename_i e; exact e.symm
    · rw [List.getElem?_replicate] at hj
      split at hj <;> simp at hj
  have hcl := fun (i k : Nat) => close_closed (lkB L ids) _ hcnt (i := i) (k := k)
  rw [hlen] at hcl
  rw [Bool.eq_iff_iff, beq_iff_eq]
  constructor
  · intro h
    exact gss_close (lkB L ids) (G := fun j => heads L (ids.getD j 0) = heads L (ids.getD i 0)) (fun u v hu huv => by
      unfold lkB at huv
      rw [decide_eq_true_eq] at huv
      show heads L _ = _
      rw [← lnk_head huv]; exact hu) (fun j hj => by rw [hini j hj]) _ k h
  · intro h
    have hmem : ∀ x ∈ ids, ∃ j, j < ids.length ∧ ids.getD j 0 = x := fun x hx => by
      obtain ⟨j, hj, rfl⟩ := List.mem_iff_getElem.1 hx
      exact ⟨j, hj, by simp [List.getD_eq_getElem?_getD, hj]⟩
    have hS := heads_sound (L := L) (S := fun x => ∃ j, j < ids.length ∧ ids.getD j 0 = x ∧ (closeI (lkB L ids) ((List.replicate ids.length false).set i true) ids.length).getD j false = true) (fun l hll => by
      obtain ⟨ha, hb, hab⟩ := hl l hll
      obtain ⟨u, hu, eu⟩ := hmem _ ha
      obtain ⟨v, hv, ev⟩ := hmem _ hb
      constructor
      · rintro ⟨j, hj, ej, h2⟩
        refine ⟨v, hv, ev, hcl j v hj hv h2 ?_⟩
        unfold lkB
        rw [ej, ev, (lnk_of hab).1, decide_eq_true_eq]
        exact hll
      · rintro ⟨j, hj, ej, h2⟩
        refine ⟨u, hu, eu, hcl j u hj hu h2 ?_⟩
        unfold lkB
        rw [ej, eu, (lnk_of hab).2, decide_eq_true_eq]
        exact hll) h
    obtain ⟨j, hj, ej, h2⟩ := hS.2 ⟨i, hi, rfl, leB_get (gsl_close _ _ _) (by simp [List.getD_eq_getElem?_getD, hi])⟩
    have : j = k := by
      have e1 : ids[j] = ids[k] := by simpa [List.getD_eq_getElem?_getD, hj, hk] using ej
      rcases Nat.lt_trichotomy j k with h | h | h
      · exact absurd e1 (List.pairwise_iff_getElem.1 hn j k hj hk h)
      · exact h
      · exact absurd e1.symm (List.pairwise_iff_getElem.1 hn k j hk hj h)
    rw [← this]
    exact h2
theorem headN_eq (n : Net) : headN n = heads n.links := by
  unfold headN stN heads
  have key : ∀ (L : List Lnk) (s : List (List Int × Int) × (Int → Int)), (L.foldl stepG s).2 = L.foldl stepF s.2 := by
    intro L
    induction L with
    | nil => intro s; rfl
    | cons l L ih => intro s; rw [List.foldl_cons, List.foldl_cons, ih]; rfl
  exact key _ _
end Go.Proofs.YtgmbhaclogabeaaGreat
namespace Go.Proofs.YtgmbhaclogabeaaGreat
open Go Go.RowKit
/-- A group's networks. -/
def grpN (n : Net) (id : Int) : List Int := (n.vpcs.filter fun v => headN n v.id == headN n id).map (·.id)
def groupN (n : Net) (id : Int) : List Int × Int := if chkT n ≠ 0 then ([], chkT n) else if findN n id = none then ([], 5) else (grpN n id, 0)
set_option maxRecDepth 100000 in
set_option maxHeartbeats 1000000 in
theorem ngroup_p (n : Net) (id : Int) : PSpec Tryz.prog 6 [.agg (encT n), .v (.int .i64 id)] (.tup [.sl 1 ((groupN n id).1.map encA), .v (.int .i64 (groupN n id).2)]) := by
  obtain ⟨R, hR⟩ : ∃ R, R = groupN n id := ⟨_, rfl⟩
  rw [← hR]
  replace hR := Lib.hid hR
  have hck := ncheck_p n
  by_cases hc : chkT n = 0
  · have hok := netOK.1 hc
    have hfd := nfindB_m n id (by have := hok.n6; omega) hok.rise
    have hR2 : R = if findN n id = none then ([], 5) else (grpN n id, 0) := by rw [hR.out]; unfold groupN; rw [if_neg (by simpa using hc)]
    rw [hc] at hck
    cases hf : findN n id with
    | none =>
      rw [hf] at hfd hR2
      have hr : R = ([], 5) := by rw [hR2]; rfl
      rw [hr]
      clear hr hR2 hok
      replace hf := Lib.hid hf
      replace hc := Lib.hid hc
      refine ps_i tab_ok mixed Tryz.func6 rfl Tryz.ntmps6 Tryz.results6 (by kernel_rfl) ?_
      repeat' (first | (with_reducible refine And.intro ?_ ?_) | (with_reducible refine gK_i (fun _ => ?_) (fun _ => ?_)) | (with_reducible refine condS_i (fun _ => ?_) (fun _ => ?_)) | (with_reducible refine drw_i (by kernel_rfl)) | simp -dsimp only [go_sem, seval, *, encT, findNP, findND, undef] | ((with_reducible refine opK_c ?_); simp -dsimp only [go_sem, seval, encT, findNP, findND, undef]; first | refine callK_r (by first | assumption | exact hck) (by first | exact .inl rfl | exact .inr rfl) ?_ | (refine callK_i (by assumption) ?_ ?_ ?_; (solve | (repeat (first | exact DLe.refl _ | exact DLe.nil _ | (refine DLe.tup ?_) | (refine DLe.agg ?_ rfl) | exact trivial | (refine And.intro ?_ ?_)))); (solve | exact .inl rfl | exact .inr rfl))) | (refine opK_M [0] (hfd) ?_ ?_ ?_ ?_ ?_ ?_; (solve | rfl | simp only [go_sem, seval, encT, findNP, findND]); (solve | rfl); (solve | decide); (solve | simp); (solve | simp only [go_sem, seval, lentOK, encT, findNP, findND])) | omega | exact decide_eq_true (by omega) | exact DLe.refl _)
      all_goals exact (by repeat (first | exact DLe.refl _ | exact DLe.nil _ | (refine DLe.tup ?_) | (refine DLe.agg ?_ rfl) | exact trivial | (refine And.intro ?_ ?_)))
    | some w =>
      rw [hf] at hfd hR2
      have hr : R = (grpN n id, 0) := by rw [hR2]; rfl
      rw [hr]
      have hof := ofB_m n (by have := hok.n6; omega) (by have := hok.n12; omega) hok.ids
      have hg : ∀ x ∈ n.vpcs.map (·.id), ∃ k, HeadIs (stN n).1 k x (headN n x) := fun x hx => by
        have := (grp_k hok.ids n.links.length x (by exact hx)).1
        rwa [List.take_length] at this
      obtain ⟨nv, hhv⟩ := hg id (find_ids (by rw [hf]; rfl))
      have h6 := hok.n6
      have hgr : ∀ k, (List.take k n.vpcs).filter (fun v => headN n v.id == headN n id) = (List.take k n.vpcs).filter (fun v => headN n v.id == headN n id) := fun _ => rfl
      clear hr hR2 hok
      replace hf := Lib.hid hf
      replace hc := Lib.hid hc
      replace hg := Lib.hid hg
      unfold grpN
      generalize (stN n).1 = E at *
      have hmi := head_m E nv id (headN n id) hhv
      clear hhv hgr
      refine ps_i tab_ok mixed Tryz.func6 rfl Tryz.ntmps6 Tryz.results6 (by kernel_rfl) ?_
      repeat' (first | (with_reducible refine And.intro ?_ ?_) | (with_reducible refine gK_i (fun _ => ?_) (fun _ => ?_)) | (with_reducible refine condS_i (fun _ => ?_) (fun _ => ?_)) | (with_reducible refine drw_i (by kernel_rfl)) | simp -dsimp only [go_sem, seval, *, encT, findNP, findND, undef] | ((with_reducible refine opK_c ?_); simp -dsimp only [go_sem, seval, encT, findNP, findND, undef]; first | refine callK_r (by first | assumption | exact hck) (by first | exact .inl rfl | exact .inr rfl) ?_ | (refine callK_i (by assumption) ?_ ?_ ?_; (solve | (repeat (first | exact DLe.refl _ | exact DLe.nil _ | (refine DLe.tup ?_) | (refine DLe.agg ?_ rfl) | exact trivial | (refine And.intro ?_ ?_)))); (solve | exact .inl rfl | exact .inr rfl))) | (refine opK_M [0] (hfd) ?_ ?_ ?_ ?_ ?_ ?_; (solve | rfl | simp only [go_sem, seval, encT, findNP, findND]); (solve | rfl); (solve | decide); (solve | simp); (solve | simp only [go_sem, seval, lentOK, encT, findNP, findND])) | (refine opK_M [0] (hof) ?_ ?_ ?_ ?_ ?_ ?_; (solve | rfl | simp only [go_sem, seval, encT]); (solve | rfl); (solve | decide); (solve | simp); (solve | simp only [go_sem, seval, lentOK, encT])) | omega | exact decide_eq_true (by omega) | exact DLe.refl _)
      clear hof hfd hck
      refine loopG tab_ok mixed (fun m e h => ∃ (k g : Nat), k ≤ n.vpcs.length ∧ m = n.vpcs.length - k ∧ e = [(29, .d (.v (.int .i64 k))), (28, .d (.v (.int .i64 n.vpcs.length))), (27, .d (.sl 3 (n.vpcs.map encV))), (10, .own 2 g), (9, .mref 1), (4, .d (.v (.slice none 0 0))), (1, .d (.v (.int .i64 id)))] ∧
        h = [.gone, .mp 1 false E, .row 3 1 g (dRows ((((n.vpcs.take k).filter fun v => headN n v.id == headN n id).map (·.id)).map encA))]) _ _ _ ⟨0, 0, Nat.zero_le _, rfl, rfl, rfl⟩ ?_ ?_
      · refine (weak_gone 0 (by simp)).trans ((weak_adopt (by simp [setC]) 10 3 1 rfl).trans ?_)
        exact weak_forget _ (by simp) (by rfl) (by (repeat' (first | exact trivial | (refine ⟨rfl, ?_⟩)))) (by first | rfl | simp only [belowH, belowE, belowC, belowL, belowR, belowP, belowL_d, belowR_d, belowR_zipG, subRow, faceRow, List.length_cons, List.length_nil, Nat.reduceAdd, Nat.reduceLT, decide_true, Bool.and_self, Bool.and_true]) (by first | rfl | simp only [belowH, belowE, belowC, belowL, belowR, belowP, belowL_d, belowR_d, belowR_zipG, subRow, faceRow, List.length_cons, List.length_nil, Nat.reduceAdd, Nat.reduceLT, decide_true, Bool.and_self, Bool.and_true])
      rintro m e h ⟨k, g, hk, hm, rfl, rfl⟩ C hC
      by_cases hlt : k < n.vpcs.length
      · have hkI : (k : Int) < (n.vpcs.length : Int) := by omega
        have hwr : IntKind.i64.wrap ((k : Int) + 1) = ((k + 1 : Nat) : Int) := by rw [IntKind.wrap_i64]; omega
        obtain ⟨v, hv⟩ : ∃ v, n.vpcs[k]? = some v := ⟨_, List.getElem?_eq_getElem hlt⟩
        obtain ⟨nw, hhw⟩ := hg.out v.id (List.mem_map.2 ⟨v, List.mem_of_getElem? hv, rfl⟩)
        have hmw := head_m E nw v.id (headN n v.id) hhw
        have hfl : ((n.vpcs.take k).filter fun v => headN n v.id == headN n id).length ≤ k := by
          have := List.length_filter_le (fun v : Vpc => headN n v.id == headN n id) (n.vpcs.take k)
          rw [List.length_take] at this; omega
        have hbd : ((n.vpcs.take k).filter fun v => headN n v.id == headN n id).length + 1 ≤ 100 := by omega
        have hst : (n.vpcs.take (k + 1)).filter (fun v => headN n v.id == headN n id) = (n.vpcs.take k).filter (fun v => headN n v.id == headN n id) ++ if (headN n v.id == headN n id) = true then [v] else [] := by
          rw [take_snoc hv, List.filter_append]
          congr 1
          cases hb : headN n v.id == headN n id <;> simp [hb]
        clear hhw
        replace hst := Lib.hid hst
        replace hfl := Lib.hid hfl
        replace hm := Lib.hid hm
        generalize (n.vpcs.take k).filter (fun v => headN n v.id == headN n id) = L at *
        cases e1 : (headN n v.id == headN n id) with
        | false =>
          rw [e1] at hst
          repeat' (first | (with_reducible refine And.intro ?_ ?_) | (with_reducible refine gK_i (fun _ => ?_) (fun _ => ?_)) | (with_reducible refine condS_i (fun _ => ?_) (fun _ => ?_)) | (with_reducible refine drw_i (by kernel_rfl)) | simp -dsimp only [go_sem, seval, *, encT, encV, hkI, hwr, hv, e1, undef] | ((with_reducible refine opK_c ?_); simp -dsimp only [go_sem, seval, encT, encV, hkI, hwr, hv, e1, undef]; first | refine callK_r (by first | assumption | fail) (by first | exact .inl rfl | exact .inr rfl) ?_ | (refine callK_i (by assumption) ?_ ?_ ?_; (solve | (repeat (first | exact DLe.refl _ | exact DLe.nil _ | (refine DLe.tup ?_) | (refine DLe.agg ?_ rfl) | exact trivial | (refine And.intro ?_ ?_)))); (solve | exact .inl rfl | exact .inr rfl))) | (refine opK_M [1] (hmw) ?_ ?_ ?_ ?_ ?_ ?_; (solve | rfl | simp only [go_sem, seval, encV]); (solve | rfl); (solve | decide); (solve | simp); (solve | simp only [go_sem, seval, lentOK, encV])) | (refine opK_M [1] (hmi) ?_ ?_ ?_ ?_ ?_ ?_; (solve | rfl | simp only [go_sem, seval, encV]); (solve | rfl); (solve | decide); (solve | simp); (solve | simp only [go_sem, seval, lentOK, encV])) | omega | exact decide_eq_true (by omega) | exact DLe.refl _)
          refine hC _ _ _ _ _ ?_ ⟨k + 1, g, hlt, rfl, rfl, rfl⟩ (weak_forget _ (by simp) (by rw [hst.out]; simp only [Bool.false_eq_true, if_false, List.append_nil]; rfl) (by (repeat' (first | exact trivial | (refine ⟨rfl, ?_⟩)))) (by first | rfl | simp only [belowH, belowE, belowC, belowL, belowR, belowP, belowL_d, belowR_d, belowR_zipG, subRow, faceRow, List.length_cons, List.length_nil, Nat.reduceAdd, Nat.reduceLT, decide_true, Bool.and_self, Bool.and_true]) (by first | rfl | simp only [belowH, belowE, belowC, belowL, belowR, belowP, belowL_d, belowR_d, belowR_zipG, subRow, faceRow, List.length_cons, List.length_nil, Nat.reduceAdd, Nat.reduceLT, decide_true, Bool.and_self, Bool.and_true]))
          have := hm.out; omega
        | true =>
          rw [e1] at hst
          repeat' (first | (with_reducible refine And.intro ?_ ?_) | (with_reducible refine gK_i (fun _ => ?_) (fun _ => ?_)) | (with_reducible refine condS_i (fun _ => ?_) (fun _ => ?_)) | (with_reducible refine drw_i (by kernel_rfl)) | simp -dsimp only [go_sem, seval, *, encT, encV, hkI, hwr, hv, e1, hbd, undef] | ((with_reducible refine opK_c ?_); simp -dsimp only [go_sem, seval, encT, encV, hkI, hwr, hv, e1, hbd, undef]; first | refine callK_r (by first | assumption | fail) (by first | exact .inl rfl | exact .inr rfl) ?_ | (refine callK_i (by assumption) ?_ ?_ ?_; (solve | (repeat (first | exact DLe.refl _ | exact DLe.nil _ | (refine DLe.tup ?_) | (refine DLe.agg ?_ rfl) | exact trivial | (refine And.intro ?_ ?_)))); (solve | exact .inl rfl | exact .inr rfl))) | (refine opK_M [1] (hmw) ?_ ?_ ?_ ?_ ?_ ?_; (solve | rfl | simp only [go_sem, seval, encV]); (solve | rfl); (solve | decide); (solve | simp); (solve | simp only [go_sem, seval, lentOK, encV])) | (refine opK_M [1] (hmi) ?_ ?_ ?_ ?_ ?_ ?_; (solve | rfl | simp only [go_sem, seval, encV]); (solve | rfl); (solve | decide); (solve | simp); (solve | simp only [go_sem, seval, lentOK, encV])) | omega | exact decide_eq_true (by omega) | exact DLe.refl _)
          refine hC _ _ _ _ _ ?_ ⟨k + 1, g + 1, hlt, rfl, rfl, rfl⟩ (weak_forget _ (by simp) (by rw [hst.out]; simp only [if_true, List.map_append, List.map_cons, List.map_nil, ← dRows_app]; rfl) (by (repeat' (first | exact trivial | (refine ⟨rfl, ?_⟩)))) (by first | rfl | simp only [belowH, belowE, belowC, belowL, belowR, belowP, belowL_d, belowR_d, belowR_zipG, subRow, faceRow, List.length_cons, List.length_nil, Nat.reduceAdd, Nat.reduceLT, decide_true, Bool.and_self, Bool.and_true]) (by first | rfl | simp only [belowH, belowE, belowC, belowL, belowR, belowP, belowL_d, belowR_d, belowR_zipG, subRow, faceRow, List.length_cons, List.length_nil, Nat.reduceAdd, Nat.reduceLT, decide_true, Bool.and_self, Bool.and_true]))
          have := hm.out; omega
      · obtain rfl : k = n.vpcs.length := by omega
        rw [List.take_length]
        replace hm := Lib.hid hm
        repeat' (first | (with_reducible refine And.intro ?_ ?_) | (with_reducible refine gK_i (fun _ => ?_) (fun _ => ?_)) | (with_reducible refine condS_i (fun _ => ?_) (fun _ => ?_)) | (with_reducible refine drw_i (by kernel_rfl)) | simp -dsimp only [go_sem, seval, *, Int.lt_irrefl, undef] | ((with_reducible refine opK_c ?_); simp -dsimp only [go_sem, seval, Int.lt_irrefl, undef]; first | refine callK_r (by first | assumption | fail) (by first | exact .inl rfl | exact .inr rfl) ?_ | (refine callK_i (by assumption) ?_ ?_ ?_; (solve | (repeat (first | exact DLe.refl _ | exact DLe.nil _ | (refine DLe.tup ?_) | (refine DLe.agg ?_ rfl) | exact trivial | (refine And.intro ?_ ?_)))); (solve | exact .inl rfl | exact .inr rfl))) | fail | omega | exact decide_eq_true (by omega) | exact DLe.refl _)
        all_goals exact (by repeat (first | exact DLe.refl _ | exact DLe.nil _ | (refine DLe.tup ?_) | (refine DLe.agg ?_ rfl) | exact trivial | (refine And.intro ?_ ?_)))
  · have hr : R = ([], chkT n) := by rw [hR.out]; unfold groupN; rw [if_pos hc]
    have h1 : (chkT n != 0) = true := by simpa using hc
    rw [hr]
    replace hr := Lib.hid hr
    refine ps_i tab_ok mixed Tryz.func6 rfl Tryz.ntmps6 Tryz.results6 (by kernel_rfl) ?_
    repeat' (first | (with_reducible refine And.intro ?_ ?_) | (with_reducible refine gK_i (fun _ => ?_) (fun _ => ?_)) | (with_reducible refine condS_i (fun _ => ?_) (fun _ => ?_)) | (with_reducible refine drw_i (by kernel_rfl)) | simp -dsimp only [go_sem, seval, *, encT, h1] | ((with_reducible refine opK_c ?_); simp -dsimp only [go_sem, seval, encT, h1]; first | refine callK_r (by first | assumption | exact hck) (by first | exact .inl rfl | exact .inr rfl) ?_ | (refine callK_i (by assumption) ?_ ?_ ?_; (solve | (repeat (first | exact DLe.refl _ | exact DLe.nil _ | (refine DLe.tup ?_) | (refine DLe.agg ?_ rfl) | exact trivial | (refine And.intro ?_ ?_)))); (solve | exact .inl rfl | exact .inr rfl))) | fail | omega | exact decide_eq_true (by omega) | exact DLe.refl _)
    all_goals exact (by repeat (first | exact DLe.refl _ | exact DLe.nil _ | (refine DLe.tup ?_) | (refine DLe.agg ?_ rfl) | exact trivial | (refine And.intro ?_ ?_)))
/-- Grow's answer. -/
def growN (n : Net) (id : Int) (r : Rng) : Net × Int :=
  if chkT n ≠ 0 then (Net.zero, chkT n) else
  match vpcIx n id with
  | none => (Net.zero, 5)
  | some i => match n.vpcs[i]? with
    | none => (Net.zero, 5)
    | some v => if (growV v r).2 ≠ 0 then (Net.zero, (growV v r).2) else if peaceN { n with vpcs := n.vpcs.set i (growV v r).1 } = true then ({ n with vpcs := n.vpcs.set i (growV v r).1 }, 0) else (Net.zero, 9)
/-- What grows keeps its Id, and stays right. -/
theorem growV_ok {v : Vpc} {r : Rng} (h : (growV v r).2 = 0) : (growV v r).1.id = v.id ∧ (growV v r).1.ranges.length ≤ 5 := by
  unfold growV at h ⊢
  split
  · rename_i h1; rw [if_pos h1] at h; exact absurd h h1
  · rename_i h1
    rw [if_neg h1] at h
    have hk := vpcOK_of (by simpa using h1)
    split
    · rename_i h2
      rw [if_pos h2] at h
      exact absurd h h2
    · refine ⟨rfl, ?_⟩
      simp only
      rw [insK_len]
      have := hk.n4; omega
set_option maxRecDepth 100000 in
set_option maxHeartbeats 1000000 in
theorem ngrow_p (n : Net) (id : Int) (r : Rng) : PSpec Tryz.prog 8 [.agg (encT n), .v (.int .i64 id), .agg (encG r)] (.tup [.agg (encT (growN n id r).1), .v (.int .i64 (growN n id r).2)]) := by
  obtain ⟨R, hR⟩ : ∃ R, R = growN n id r := ⟨_, rfl⟩
  rw [← hR]
  replace hR := Lib.hid hR
  by_cases hc : chkT n = 0
  · have hok := netOK.1 hc
    have hbg := nbegin_m n hc
    cases hx : vpcIx n id with
    | none =>
      have hfd := nfind0_m n id n.vpcs.length 1 (vpcIx_none hx) hok.n6 hok.rise
      have hr : R = (Net.zero, 5) := by rw [hR.out]; unfold growN; rw [if_neg (by simpa using hc), hx]
      rw [hr]
      clear hr hR hok hx hc
      refine ps_i tab_ok mixed Tryz.func8 rfl Tryz.ntmps8 Tryz.results8 (by kernel_rfl) ?_
      repeat' (first | (with_reducible refine And.intro ?_ ?_) | (with_reducible refine gK_i (fun _ => ?_) (fun _ => ?_)) | (with_reducible refine condS_i (fun _ => ?_) (fun _ => ?_)) | (with_reducible refine drw_i (by kernel_rfl)) | simp -dsimp only [go_sem, seval, *, encT, undef] | ((with_reducible refine opK_c ?_); simp -dsimp only [go_sem, seval, encT, undef]; first | refine callK_r (by first | assumption | fail) (by first | exact .inl rfl | exact .inr rfl) ?_ | (refine callK_i (by assumption) ?_ ?_ ?_; (solve | (repeat (first | exact DLe.refl _ | exact DLe.nil _ | (refine DLe.tup ?_) | (refine DLe.agg ?_ rfl) | exact trivial | (refine And.intro ?_ ?_)))); (solve | exact .inl rfl | exact .inr rfl))) | (refine opK_M [] (hbg) ?_ ?_ ?_ ?_ ?_ ?_; (solve | rfl | simp only [go_sem, seval, encT]); (solve | rfl); (solve | decide); (solve | simp); (solve | simp only [go_sem, seval, lentOK, encT])) | (refine opK_M [5, 6, 4] (hfd) ?_ ?_ ?_ ?_ ?_ ?_; (solve | rfl | simp only [go_sem, seval, encT]); (solve | rfl); (solve | decide); (solve | simp); (solve | simp only [go_sem, seval, lentOK, encT])) | omega | exact decide_eq_true (by omega) | exact DLe.refl _)
      all_goals exact (by repeat (first | exact DLe.refl _ | exact DLe.nil _ | (refine DLe.tup ?_) | (refine DLe.agg ?_ rfl) | exact trivial | (refine And.intro ?_ ?_)))
    | some i =>
      obtain ⟨v, hv, he, hi, hfs⟩ := vpcIx_some hx
      have hfd := nfind_m n id n.vpcs.length 1 i v hv he hok.n6 hok.rise
      have hgp := vgrow_p v r
      replace he := Lib.hid he
      have hiI : (0 : Int) ≤ (i : Int) := by omega
      by_cases hg : (growV v r).2 = 0
      · have hgo := growV_ok hg
        have hpe := peace_p { n with vpcs := n.vpcs.set i (growV v r).1 } (by have := hok.n6; simp; omega) (by have := hok.n12; simp; omega) (fun u hu => by
          rcases List.mem_or_eq_of_mem_set hu with hu | rfl
          · have := (vpcOK_of (hok.vp u hu)).n4; omega
          · have := hgo.2; omega) (by
          have e : (n.vpcs.set i (growV v r).1).map (·.id) = n.vpcs.map (·.id) := by
            rw [List.map_set, hgo.1]
            apply List.ext_getElem?
            intro j
            rw [List.getElem?_set]
            split
            · rename_i hj
              subst hj
              rw [List.length_map, if_pos hi, List.getElem?_map, hv]; rfl
            · rfl
          simp only [e]
          exact hok.ids)
        have hR2 : R = if peaceN { n with vpcs := n.vpcs.set i (growV v r).1 } = true then ({ n with vpcs := n.vpcs.set i (growV v r).1 }, 0) else (Net.zero, 9) := by
          rw [hR.out]; unfold growN; rw [if_neg (by simpa using hc), hx]; simp only [hv]; rw [if_neg (by simpa using hg)]
        rw [hg] at hgp
        clear hR hok hx hc hgo hg hfs
        generalize (growV v r).1 = w at *
        have hrow : (dRows (n.vpcs.map encV)).set i [.d (.v (.int .i64 w.id)), .d (.sl 3 (w.ranges.map encG)), .d (.sl 4 (w.subs.map encN))] = dRows ((n.vpcs.set i w).map encV) := dRows_setrow encV n.vpcs i w
        cases hp : peaceN { n with vpcs := n.vpcs.set i w } with
        | true =>
          rw [hp] at hpe hR2
          have hr : R = ({ n with vpcs := n.vpcs.set i w }, 0) := by rw [hR2]; rfl
          rw [hr]
          clear hr hR2 hp
          refine ps_i tab_ok mixed Tryz.func8 rfl Tryz.ntmps8 Tryz.results8 (by kernel_rfl) ?_
          repeat' (first | (with_reducible refine And.intro ?_ ?_) | (with_reducible refine gK_i (fun _ => ?_) (fun _ => ?_)) | (with_reducible refine condS_i (fun _ => ?_) (fun _ => ?_)) | (with_reducible refine drw_i (by kernel_rfl)) | simp -dsimp only [go_sem, seval, *, encT, encV, encG, hv, hi, hiI, hrow, undef] | ((with_reducible refine opK_c ?_); simp -dsimp only [go_sem, seval, encT, encV, encG, hv, hi, hiI, hrow, undef]; first | refine callK_r (by first | assumption | exact hgp | exact hpe) (by first | exact .inl rfl | exact .inr rfl) ?_ | (refine callK_i (by assumption) ?_ ?_ ?_; (solve | (repeat (first | exact DLe.refl _ | exact DLe.nil _ | (refine DLe.tup ?_) | (refine DLe.agg ?_ rfl) | exact trivial | (refine And.intro ?_ ?_)))); (solve | exact .inl rfl | exact .inr rfl))) | (refine opK_M [] (hbg) ?_ ?_ ?_ ?_ ?_ ?_; (solve | rfl | simp only [go_sem, seval, encT]); (solve | rfl); (solve | decide); (solve | simp); (solve | simp only [go_sem, seval, lentOK, encT])) | (refine opK_M [5, 6, 4] (hfd) ?_ ?_ ?_ ?_ ?_ ?_; (solve | rfl | simp only [go_sem, seval, encT]); (solve | rfl); (solve | decide); (solve | simp); (solve | simp only [go_sem, seval, lentOK, encT])) | omega | exact decide_eq_true (by omega) | exact DLe.refl _)
          all_goals exact (by repeat (first | exact DLe.refl _ | exact DLe.nil _ | (refine DLe.tup ?_) | (refine DLe.agg ?_ rfl) | exact trivial | (refine And.intro ?_ ?_)))
        | false =>
          rw [hp] at hpe hR2
          have hr : R = (Net.zero, 9) := by rw [hR2]; rfl
          rw [hr]
          clear hr hR2 hp
          refine ps_i tab_ok mixed Tryz.func8 rfl Tryz.ntmps8 Tryz.results8 (by kernel_rfl) ?_
          repeat' (first | (with_reducible refine And.intro ?_ ?_) | (with_reducible refine gK_i (fun _ => ?_) (fun _ => ?_)) | (with_reducible refine condS_i (fun _ => ?_) (fun _ => ?_)) | (with_reducible refine drw_i (by kernel_rfl)) | simp -dsimp only [go_sem, seval, *, encT, encV, encG, hv, hi, hiI, hrow, undef] | ((with_reducible refine opK_c ?_); simp -dsimp only [go_sem, seval, encT, encV, encG, hv, hi, hiI, hrow, undef]; first | refine callK_r (by first | assumption | exact hgp | exact hpe) (by first | exact .inl rfl | exact .inr rfl) ?_ | (refine callK_i (by assumption) ?_ ?_ ?_; (solve | (repeat (first | exact DLe.refl _ | exact DLe.nil _ | (refine DLe.tup ?_) | (refine DLe.agg ?_ rfl) | exact trivial | (refine And.intro ?_ ?_)))); (solve | exact .inl rfl | exact .inr rfl))) | (refine opK_M [] (hbg) ?_ ?_ ?_ ?_ ?_ ?_; (solve | rfl | simp only [go_sem, seval, encT]); (solve | rfl); (solve | decide); (solve | simp); (solve | simp only [go_sem, seval, lentOK, encT])) | (refine opK_M [5, 6, 4] (hfd) ?_ ?_ ?_ ?_ ?_ ?_; (solve | rfl | simp only [go_sem, seval, encT]); (solve | rfl); (solve | decide); (solve | simp); (solve | simp only [go_sem, seval, lentOK, encT])) | omega | exact decide_eq_true (by omega) | exact DLe.refl _)
          all_goals exact (by repeat (first | exact DLe.refl _ | exact DLe.nil _ | (refine DLe.tup ?_) | (refine DLe.agg ?_ rfl) | exact trivial | (refine And.intro ?_ ?_)))
      · have hr : R = (Net.zero, (growV v r).2) := by
          rw [hR.out]; unfold growN; rw [if_neg (by simpa using hc), hx]; simp only [hv]; rw [if_pos hg]
        have hgb : ((growV v r).2 != 0) = true := by simpa using hg
        rw [hr]
        clear hr hR hok hx hc hg hfs
        generalize (growV v r).1 = w at *
        generalize (growV v r).2 = E at *
        refine ps_i tab_ok mixed Tryz.func8 rfl Tryz.ntmps8 Tryz.results8 (by kernel_rfl) ?_
        repeat' (first | (with_reducible refine And.intro ?_ ?_) | (with_reducible refine gK_i (fun _ => ?_) (fun _ => ?_)) | (with_reducible refine condS_i (fun _ => ?_) (fun _ => ?_)) | (with_reducible refine drw_i (by kernel_rfl)) | simp -dsimp only [go_sem, seval, *, encT, encV, encG, hv, hi, hiI, hgb, undef] | ((with_reducible refine opK_c ?_); simp -dsimp only [go_sem, seval, encT, encV, encG, hv, hi, hiI, hgb, undef]; first | refine callK_r (by first | assumption | exact hgp) (by first | exact .inl rfl | exact .inr rfl) ?_ | (refine callK_i (by assumption) ?_ ?_ ?_; (solve | (repeat (first | exact DLe.refl _ | exact DLe.nil _ | (refine DLe.tup ?_) | (refine DLe.agg ?_ rfl) | exact trivial | (refine And.intro ?_ ?_)))); (solve | exact .inl rfl | exact .inr rfl))) | (refine opK_M [] (hbg) ?_ ?_ ?_ ?_ ?_ ?_; (solve | rfl | simp only [go_sem, seval, encT]); (solve | rfl); (solve | decide); (solve | simp); (solve | simp only [go_sem, seval, lentOK, encT])) | (refine opK_M [5, 6, 4] (hfd) ?_ ?_ ?_ ?_ ?_ ?_; (solve | rfl | simp only [go_sem, seval, encT]); (solve | rfl); (solve | decide); (solve | simp); (solve | simp only [go_sem, seval, lentOK, encT])) | omega | exact decide_eq_true (by omega) | exact DLe.refl _)
        all_goals exact (by repeat (first | exact DLe.refl _ | exact DLe.nil _ | (refine DLe.tup ?_) | (refine DLe.agg ?_ rfl) | exact trivial | (refine And.intro ?_ ?_)))
  · have hbg := nbeginE_m n hc
    have h1 : (chkT n != 0) = true := by simpa using hc
    have hr : R = (Net.zero, chkT n) := by rw [hR.out]; unfold growN; rw [if_pos hc]
    rw [hr]
    replace hr := Lib.hid hr
    refine ps_i tab_ok mixed Tryz.func8 rfl Tryz.ntmps8 Tryz.results8 (by kernel_rfl) ?_
    repeat' (first | (with_reducible refine And.intro ?_ ?_) | (with_reducible refine gK_i (fun _ => ?_) (fun _ => ?_)) | (with_reducible refine condS_i (fun _ => ?_) (fun _ => ?_)) | (with_reducible refine drw_i (by kernel_rfl)) | simp -dsimp only [go_sem, seval, *, encT, h1] | ((with_reducible refine opK_c ?_); simp -dsimp only [go_sem, seval, encT, h1]; first | refine callK_r (by first | assumption | fail) (by first | exact .inl rfl | exact .inr rfl) ?_ | (refine callK_i (by assumption) ?_ ?_ ?_; (solve | (repeat (first | exact DLe.refl _ | exact DLe.nil _ | (refine DLe.tup ?_) | (refine DLe.agg ?_ rfl) | exact trivial | (refine And.intro ?_ ?_)))); (solve | exact .inl rfl | exact .inr rfl))) | (refine opK_M [] (hbg) ?_ ?_ ?_ ?_ ?_ ?_; (solve | rfl | simp only [go_sem, seval, encT]); (solve | rfl); (solve | decide); (solve | simp); (solve | simp only [go_sem, seval, lentOK, encT])) | omega | exact decide_eq_true (by omega) | exact DLe.refl _)
    all_goals exact (by repeat (first | exact DLe.refl _ | exact DLe.nil _ | (refine DLe.tup ?_) | (refine DLe.agg ?_ rfl) | exact trivial | (refine And.intro ?_ ?_)))
/-- Part's answer. -/
def partN (n : Net) (a b : Int) : Net × Int :=
  if chkT n ≠ 0 then (Net.zero, chkT n) else
  match n.links.findIdx? (fun l => decide (lnk a b = l)) with
  | none => (Net.zero, 5)
  | some i => ({ n with links := n.links.eraseIdx i }, 0)
set_option maxRecDepth 100000 in
set_option maxHeartbeats 1000000 in
theorem npart_p (n : Net) (a b : Int) : PSpec Tryz.prog 19 [.agg (encT n), .v (.int .i64 a), .v (.int .i64 b)] (.tup [.agg (encT (partN n a b).1), .v (.int .i64 (partN n a b).2)]) := by
  obtain ⟨R, hR⟩ : ∃ R, R = partN n a b := ⟨_, rfl⟩
  rw [← hR]
  replace hR := Lib.hid hR
  by_cases hc : chkT n = 0
  · have hok := netOK.1 hc
    have hbg := nbegin_m n hc
    have hlk := link_p a b
    have hix := index_Link n.links (lnk a b) (by have := hok.n12; omega)
    unfold idxI at hix
    cases hf : n.links.findIdx? (fun l => decide (lnk a b = l)) with
    | none =>
      rw [hf] at hix
      have hr : R = (Net.zero, 5) := by rw [hR.out]; unfold partN; rw [if_neg (by simpa using hc), hf]
      rw [hr]
      clear hr hR hf hc hok
      generalize lnk a b = LK at *
      refine ps_i tab_ok mixed Tryz.func19 rfl Tryz.ntmps19 Tryz.results19 (by kernel_rfl) ?_
      repeat' (first | (with_reducible refine And.intro ?_ ?_) | (with_reducible refine gK_i (fun _ => ?_) (fun _ => ?_)) | (with_reducible refine condS_i (fun _ => ?_) (fun _ => ?_)) | (with_reducible refine drw_i (by kernel_rfl)) | simp -dsimp only [go_sem, seval, *, encT, encK, undef] | ((with_reducible refine opK_c ?_); simp -dsimp only [go_sem, seval, encT, encK, undef]; first | refine callK_r (by first | assumption | exact hlk | exact hix) (by first | exact .inl rfl | exact .inr rfl) ?_ | (refine callK_i (by assumption) ?_ ?_ ?_; (solve | (repeat (first | exact DLe.refl _ | exact DLe.nil _ | (refine DLe.tup ?_) | (refine DLe.agg ?_ rfl) | exact trivial | (refine And.intro ?_ ?_)))); (solve | exact .inl rfl | exact .inr rfl))) | (refine opK_M [] (hbg) ?_ ?_ ?_ ?_ ?_ ?_; (solve | rfl | simp only [go_sem, seval, encT]); (solve | rfl); (solve | decide); (solve | simp); (solve | simp only [go_sem, seval, lentOK, encT])) | omega | exact decide_eq_true (by omega) | exact DLe.refl _)
      all_goals exact (by repeat (first | exact DLe.refl _ | exact DLe.nil _ | (refine DLe.tup ?_) | (refine DLe.agg ?_ rfl) | exact trivial | (refine And.intro ?_ ?_)))
    | some i =>
      rw [hf] at hix
      have hi : i < n.links.length := (List.findIdx?_eq_some_iff_getElem.1 hf).1
      have hi0 : decide ((i : Int) < 0) = false := by simp
      have hd := delete_Link (enc := encK) n.links i (i + 1) 1 hi rfl
      have hwr : IntKind.i64.wrap ((i : Int) + 1) = ((i + 1 : Nat) : Int) := by rw [IntKind.wrap_i64]; have := hok.n12; omega
      have hr : R = ({ n with links := n.links.eraseIdx i }, 0) := by rw [hR.out]; unfold partN; rw [if_neg (by simpa using hc), hf]
      rw [hr]
      clear hr hR hf hc hok
      generalize lnk a b = LK at *
      refine ps_i tab_ok mixed Tryz.func19 rfl Tryz.ntmps19 Tryz.results19 (by kernel_rfl) ?_
      repeat' (first | (with_reducible refine And.intro ?_ ?_) | (with_reducible refine gK_i (fun _ => ?_) (fun _ => ?_)) | (with_reducible refine condS_i (fun _ => ?_) (fun _ => ?_)) | (with_reducible refine drw_i (by kernel_rfl)) | simp -dsimp only [go_sem, seval, *, encT, encK, hi0, hwr, hi, undef] | ((with_reducible refine opK_c ?_); simp -dsimp only [go_sem, seval, encT, encK, hi0, hwr, hi, undef]; first | refine callK_r (by first | assumption | exact hlk | exact hix) (by first | exact .inl rfl | exact .inr rfl) ?_ | (refine callK_i (by assumption) ?_ ?_ ?_; (solve | (repeat (first | exact DLe.refl _ | exact DLe.nil _ | (refine DLe.tup ?_) | (refine DLe.agg ?_ rfl) | exact trivial | (refine And.intro ?_ ?_)))); (solve | exact .inl rfl | exact .inr rfl))) | (refine opK_M [] (hbg) ?_ ?_ ?_ ?_ ?_ ?_; (solve | rfl | simp only [go_sem, seval, encT]); (solve | rfl); (solve | decide); (solve | simp); (solve | simp only [go_sem, seval, lentOK, encT])) | (refine opK_M [3] (hd) ?_ ?_ ?_ ?_ ?_ ?_; (solve | rfl | simp only [go_sem, seval, encK]); (solve | rfl); (solve | decide); (solve | simp); (solve | simp only [go_sem, seval, lentOK, encK])) | omega | exact decide_eq_true (by omega) | exact DLe.refl _)
      all_goals exact (by repeat (first | exact DLe.refl _ | exact DLe.nil _ | (refine DLe.tup ?_) | (refine DLe.agg ?_ rfl) | exact trivial | (refine And.intro ?_ ?_)))
  · have hbg := nbeginE_m n hc
    have h1 : (chkT n != 0) = true := by simpa using hc
    have hr : R = (Net.zero, chkT n) := by rw [hR.out]; unfold partN; rw [if_pos hc]
    rw [hr]
    replace hr := Lib.hid hr
    refine ps_i tab_ok mixed Tryz.func19 rfl Tryz.ntmps19 Tryz.results19 (by kernel_rfl) ?_
    repeat' (first | (with_reducible refine And.intro ?_ ?_) | (with_reducible refine gK_i (fun _ => ?_) (fun _ => ?_)) | (with_reducible refine condS_i (fun _ => ?_) (fun _ => ?_)) | (with_reducible refine drw_i (by kernel_rfl)) | simp -dsimp only [go_sem, seval, *, encT, h1] | ((with_reducible refine opK_c ?_); simp -dsimp only [go_sem, seval, encT, h1]; first | refine callK_r (by first | assumption | fail) (by first | exact .inl rfl | exact .inr rfl) ?_ | (refine callK_i (by assumption) ?_ ?_ ?_; (solve | (repeat (first | exact DLe.refl _ | exact DLe.nil _ | (refine DLe.tup ?_) | (refine DLe.agg ?_ rfl) | exact trivial | (refine And.intro ?_ ?_)))); (solve | exact .inl rfl | exact .inr rfl))) | (refine opK_M [] (hbg) ?_ ?_ ?_ ?_ ?_ ?_; (solve | rfl | simp only [go_sem, seval, encT]); (solve | rfl); (solve | decide); (solve | simp); (solve | simp only [go_sem, seval, lentOK, encT])) | omega | exact decide_eq_true (by omega) | exact DLe.refl _)
    all_goals exact (by repeat (first | exact DLe.refl _ | exact DLe.nil _ | (refine DLe.tup ?_) | (refine DLe.agg ?_ rfl) | exact trivial | (refine And.intro ?_ ?_)))
end Go.Proofs.YtgmbhaclogabeaaGreat
namespace Go.Proofs.YtgmbhaclogabeaaGreat
open Go Go.RowKit
def encBo (b : Bool) : List D := [.v (.bool b)]
theorem bo_repl (n : Nat) (b : Bool) : List.replicate n [PV.d (.v (.bool b))] = dRows ((List.replicate n b).map encBo) := by simp [dRows, encBo, List.map_replicate]
theorem bo_set (l : List Bool) (i : Nat) (b : Bool) : (dRows (l.map encBo)).set i [.d (.v (.bool b))] = dRows ((l.set i b).map encBo) := dRows_setrow encBo l i b
theorem lkB_eq {n : Net} {i k : Nat} {v w : Vpc} (hv : n.vpcs[i]? = some v) (hw : n.vpcs[k]? = some w) : lkB n.links (n.vpcs.map (·.id)) i k = linkedN n v.id w.id := by
  have e1 : (n.vpcs.map (·.id)).getD i 0 = v.id := by simp [List.getD_eq_getElem?_getD, hv]
  have e2 : (n.vpcs.map (·.id)).getD k 0 = w.id := by simp [List.getD_eq_getElem?_getD, hw]
  unfold lkB linkedN
  rw [e1, e2, Bool.eq_iff_iff, decide_eq_true_eq, List.any_eq_true]
  simp
theorem ids_nodup {n : Net} (hr : n.vpcs.Pairwise fun a b => a.id < b.id) : (n.vpcs.map (·.id)).Nodup := by
  unfold List.Nodup
  rw [List.pairwise_map]
  exact hr.imp fun h => by omega
set_option maxRecDepth 100000 in
set_option maxHeartbeats 2000000 in
theorem groupR_p (n : Net) (id : Int) (i0 : Nat) (hx : vpcIx n id = some i0) (h6 : n.vpcs.length ≤ 6) (h12 : n.links.length ≤ 12) (hr : n.vpcs.Pairwise fun a b => a.id < b.id) (hl : ∀ l ∈ n.links, l.a ∈ n.vpcs.map (·.id) ∧ l.b ∈ n.vpcs.map (·.id) ∧ l.a < l.b) :
    PSpec Tryz.prog 11 [.agg (encT n), .v (.int .i64 id)] (.sl 1 ((grpN n id).map encA)) := by
  obtain ⟨v0, hv0, he0, hi0, hfs⟩ := vpcIx_some hx
  have hat := vpcAt_p n id (by omega)
  rw [vpcAt_ix, hx] at hat
  simp only at hat
  obtain ⟨lk, hlk⟩ : ∃ lk, lk = lkB n.links (n.vpcs.map (·.id)) := ⟨_, rfl⟩
  obtain ⟨l0, hl0⟩ : ∃ l0, l0 = (List.replicate n.vpcs.length false).set i0 true := ⟨_, rfl⟩
  have hll : l0.length = n.vpcs.length := by rw [hl0]; simp
  have hfin : ∀ (k : Nat) (v : Vpc), n.vpcs[k]? = some v → (closeI lk l0 n.vpcs.length)[k]? = some (headN n v.id == headN n id) := fun k v hv => by
    have hk := (List.getElem?_eq_some_iff.1 hv).1
    have h := close_heads (L := n.links) (ids := n.vpcs.map (·.id)) (ids_nodup hr) hl (i := i0) (k := k) (by simpa using hi0) (by simpa using hk)
    have e1 : (n.vpcs.map (·.id)).getD k 0 = v.id := by simp [List.getD_eq_getElem?_getD, hv]
    have e2 : (n.vpcs.map (·.id)).getD i0 0 = id := by simp [List.getD_eq_getElem?_getD, hv0, he0]
    rw [e1, e2, List.length_map, ← hlk, ← hl0, ← headN_eq] at h
    have hk2 : k < (closeI lk l0 n.vpcs.length).length := by rw [gsl_clen, hll]; exact hk
    rw [← h, List.getD_eq_getElem?_getD, List.getElem?_eq_getElem hk2]; rfl
  have hpos : 0 < n.vpcs.length := by omega
  have hposI : 0 < (n.vpcs.length : Int) := by omega
  have hset : (dRows ((List.replicate n.vpcs.length false).map encBo)).set i0 [.d (.v (.bool true))] = dRows (l0.map encBo) := by rw [bo_set, ← hl0]
  have hiI : (0 : Int) ≤ (i0 : Int) := by omega
  have hrp : (List.replicate n.vpcs.length false)[i0]? = some false := by rw [List.getElem?_replicate, if_pos hi0]
  have hgr : grpN n id = (n.vpcs.filter fun v => headN n v.id == headN n id).map (·.id) := rfl
  rw [hgr]
  clear hgr hx hfs hl hr
  replace hfin := Lib.hid hfin
  replace hl0 := Lib.hid hl0
  replace he0 := Lib.hid he0
  replace hlk := Lib.hid hlk
  refine ps_i tab_ok mixed Tryz.func11 rfl Tryz.ntmps11 Tryz.results11 (by kernel_rfl) ?_
  repeat' (first | (with_reducible refine And.intro ?_ ?_) | (with_reducible refine gK_i (fun _ => ?_) (fun _ => ?_)) | (with_reducible refine condS_i (fun _ => ?_) (fun _ => ?_)) | (with_reducible refine drw_i (by kernel_rfl)) | simp -dsimp only [go_sem, seval, *, encT, encBo, hrp, bo_repl, hposI, hi0, hiI, hset, List.length_replicate] | ((with_reducible refine opK_c ?_); simp -dsimp only [go_sem, seval, encT, encBo, hrp, bo_repl, hposI, hi0, hiI, hset, List.length_replicate]; first | refine callK_r (by first | assumption | exact hat) (by first | exact .inl rfl | exact .inr rfl) ?_ | (refine callK_i (by assumption) ?_ ?_ ?_; (solve | (repeat (first | exact DLe.refl _ | exact DLe.nil _ | (refine DLe.tup ?_) | (refine DLe.agg ?_ rfl) | exact trivial | (refine And.intro ?_ ?_)))); (solve | exact .inl rfl | exact .inr rfl))) | fail | omega | exact decide_eq_true (by omega) | exact DLe.refl _)
  clear hat hset hv0 hrp
  refine loopN tab_ok mixed n.vpcs.length (fun _ => True) (fun t => [(6, .d (.v (.int .i64 t))), (5, .own 1 0), (4, .d (.v (.slice none 0 0))), (2, .ptr 0 0)])
    (fun t => [.box 25 ((encT n).map .d), .row 4 1 0 (dRows ((closeI lk l0 t).map encBo))]) trivial (weak_forget _ (by simp) (by (try simp only [encT]); rfl) (by (repeat' (first | exact trivial | (refine ⟨rfl, ?_⟩)))) (by first | rfl | simp only [belowH, belowE, belowC, belowL, belowR, belowP, belowL_d, belowR_d, List.length_cons, List.length_nil, Nat.reduceAdd, Nat.reduceLT, decide_true, Bool.and_self, Bool.and_true]) (by first | rfl | simp only [belowH, belowE, belowC, belowL, belowR, belowP, belowL_d, belowR_d, List.length_cons, List.length_nil, Nat.reduceAdd, Nat.reduceLT, decide_true, Bool.and_self, Bool.and_true])) ?_ ?_
  · intro t ht _ CT hCT
    have htI : (t : Int) < (n.vpcs.length : Int) := by omega
    have hwt : IntKind.i64.wrap ((t : Int) + 1) = ((t + 1 : Nat) : Int) := by rw [IntKind.wrap_i64]; omega
    have hlt := gsl_clen lk l0 t
    rw [hll] at hlt
    have hct : closeI lk l0 (t + 1) = turnI lk (closeI lk l0 t) n.vpcs.length := by show turnI lk (closeI lk l0 t) l0.length = _; rw [hll]
    replace hct := Lib.hid hct
    generalize closeI lk l0 t = A at *
    repeat' (first | (with_reducible refine And.intro ?_ ?_) | (with_reducible refine gK_i (fun _ => ?_) (fun _ => ?_)) | (with_reducible refine condS_i (fun _ => ?_) (fun _ => ?_)) | (with_reducible refine drw_i (by kernel_rfl)) | simp -dsimp only [go_sem, seval, *, encT, htI, hlt] | ((with_reducible refine opK_c ?_); simp -dsimp only [go_sem, seval, encT, htI, hlt]; first | refine callK_r (by first | assumption | fail) (by first | exact .inl rfl | exact .inr rfl) ?_ | (refine callK_i (by assumption) ?_ ?_ ?_; (solve | (repeat (first | exact DLe.refl _ | exact DLe.nil _ | (refine DLe.tup ?_) | (refine DLe.agg ?_ rfl) | exact trivial | (refine And.intro ?_ ?_)))); (solve | exact .inl rfl | exact .inr rfl))) | fail | omega | exact decide_eq_true (by omega) | exact DLe.refl _)
    refine loopN tab_ok mixed n.vpcs.length (fun _ => True) (fun i => [(7, .d (.v (.int .i64 i))), (6, .d (.v (.int .i64 t))), (5, .own 1 0), (4, .d (.v (.slice none 0 0))), (2, .ptr 0 0)])
      (fun i => [.box 25 ((encT n).map .d), .row 4 1 0 (dRows ((turnI lk A i).map encBo))]) trivial (weak_forget _ (by simp) (by (try simp only [encT]); rfl) (by (repeat' (first | exact trivial | (refine ⟨rfl, ?_⟩)))) (by first | rfl | simp only [belowH, belowE, belowC, belowL, belowR, belowP, belowL_d, belowR_d, List.length_cons, List.length_nil, Nat.reduceAdd, Nat.reduceLT, decide_true, Bool.and_self, Bool.and_true]) (by first | rfl | simp only [belowH, belowE, belowC, belowL, belowR, belowP, belowL_d, belowR_d, List.length_cons, List.length_nil, Nat.reduceAdd, Nat.reduceLT, decide_true, Bool.and_self, Bool.and_true])) ?_ ?_
    · intro i hi _ CI hCI
      have hiI2 : (i : Int) < (n.vpcs.length : Int) := by omega
      have hwi : IntKind.i64.wrap ((i : Int) + 1) = ((i + 1 : Nat) : Int) := by rw [IntKind.wrap_i64]; omega
      have hlt2 := gsl_tlen lk A i
      rw [hlt] at hlt2
      have hct2 : turnI lk A (i + 1) = rowI lk (turnI lk A i) i n.vpcs.length := by show rowI lk (turnI lk A i) i A.length = _; rw [hlt]
      replace hct2 := Lib.hid hct2
      obtain ⟨vi, hvi⟩ : ∃ v, n.vpcs[i]? = some v := ⟨_, List.getElem?_eq_getElem hi⟩
      generalize turnI lk A i = B at *
      repeat' (first | (with_reducible refine And.intro ?_ ?_) | (with_reducible refine gK_i (fun _ => ?_) (fun _ => ?_)) | (with_reducible refine condS_i (fun _ => ?_) (fun _ => ?_)) | (with_reducible refine drw_i (by kernel_rfl)) | simp -dsimp only [go_sem, seval, *, encT, hiI2, hlt2] | ((with_reducible refine opK_c ?_); simp -dsimp only [go_sem, seval, encT, hiI2, hlt2]; first | refine callK_r (by first | assumption | fail) (by first | exact .inl rfl | exact .inr rfl) ?_ | (refine callK_i (by assumption) ?_ ?_ ?_; (solve | (repeat (first | exact DLe.refl _ | exact DLe.nil _ | (refine DLe.tup ?_) | (refine DLe.agg ?_ rfl) | exact trivial | (refine And.intro ?_ ?_)))); (solve | exact .inl rfl | exact .inr rfl))) | fail | omega | exact decide_eq_true (by omega) | exact DLe.refl _)
      refine loopN tab_ok mixed n.vpcs.length (fun _ => True) (fun k => [(8, .d (.v (.int .i64 k))), (7, .d (.v (.int .i64 i))), (6, .d (.v (.int .i64 t))), (5, .own 1 0), (4, .d (.v (.slice none 0 0))), (2, .ptr 0 0)])
        (fun k => [.box 25 ((encT n).map .d), .row 4 1 0 (dRows ((rowI lk B i k).map encBo))]) trivial (weak_forget _ (by simp) (by (try simp only [encT]); rfl) (by (repeat' (first | exact trivial | (refine ⟨rfl, ?_⟩)))) (by first | rfl | simp only [belowH, belowE, belowC, belowL, belowR, belowP, belowL_d, belowR_d, List.length_cons, List.length_nil, Nat.reduceAdd, Nat.reduceLT, decide_true, Bool.and_self, Bool.and_true]) (by first | rfl | simp only [belowH, belowE, belowC, belowL, belowR, belowP, belowL_d, belowR_d, List.length_cons, List.length_nil, Nat.reduceAdd, Nat.reduceLT, decide_true, Bool.and_self, Bool.and_true])) ?_ ?_
      · intro k hk _ C hC
        have hkI : (k : Int) < (n.vpcs.length : Int) := by omega
        have hwk : IntKind.i64.wrap ((k : Int) + 1) = ((k + 1 : Nat) : Int) := by rw [IntKind.wrap_i64]; omega
        have hlt3 := gsl_rlen lk B i k
        rw [hlt2] at hlt3
        have hst : rowI lk B i (k + 1) = stepI lk i k (rowI lk B i k) := rfl
        obtain ⟨vk, hvk⟩ : ∃ v, n.vpcs[k]? = some v := ⟨_, List.getElem?_eq_getElem hk⟩
        have hlq := linkedR_p n vi.id vk.id (by omega)
        have hlb : lk i k = linkedN n vi.id vk.id := by rw [hlk.out]; exact lkB_eq hvi hvk
        generalize rowI lk B i k = M at *
        obtain ⟨bk, hbk⟩ : ∃ b, M[k]? = some b := ⟨_, List.getElem?_eq_getElem (by omega)⟩
        obtain ⟨bi, hbi⟩ : ∃ b, M[i]? = some b := ⟨_, List.getElem?_eq_getElem (by omega)⟩
        have hst2 : stepI lk i k M = M.set k (bk || (bi && linkedN n vi.id vk.id)) := by unfold stepI; rw [hlb]; simp [List.getD_eq_getElem?_getD, hbk, hbi]
        generalize linkedN n vi.id vk.id = q at *
        have hrow := fun b => bo_set M k b
        clear hlb
        replace hst := Lib.hid hst
        replace hst2 := Lib.hid hst2
        cases bk with
        | true =>
          repeat' (first | (with_reducible refine And.intro ?_ ?_) | (with_reducible refine gK_i (fun _ => ?_) (fun _ => ?_)) | (with_reducible refine condS_i (fun _ => ?_) (fun _ => ?_)) | (with_reducible refine drw_i (by kernel_rfl)) | simp -dsimp only [go_sem, seval, *, encT, encV, encBo, hkI, hwk, hlt3, hbk, hrow, undef] | ((with_reducible refine opK_c ?_); simp -dsimp only [go_sem, seval, encT, encV, encBo, hkI, hwk, hlt3, hbk, hrow, undef]; first | refine callK_r (by first | assumption | fail) (by first | exact .inl rfl | exact .inr rfl) ?_ | (refine callK_i (by assumption) ?_ ?_ ?_; (solve | (repeat (first | exact DLe.refl _ | exact DLe.nil _ | (refine DLe.tup ?_) | (refine DLe.agg ?_ rfl) | exact trivial | (refine And.intro ?_ ?_)))); (solve | exact .inl rfl | exact .inr rfl))) | fail | omega | exact decide_eq_true (by omega) | exact DLe.refl _)
          refine hC _ _ trivial ?_
          rw [hst.out, hst2.out]
          exact weak_forget _ (by simp) (by rfl) (by (repeat' (first | exact trivial | (refine ⟨rfl, ?_⟩)))) (by first | rfl | simp only [belowH, belowE, belowC, belowL, belowR, belowP, belowL_d, belowR_d, List.length_cons, List.length_nil, Nat.reduceAdd, Nat.reduceLT, decide_true, Bool.and_self, Bool.and_true]) (by first | rfl | simp only [belowH, belowE, belowC, belowL, belowR, belowP, belowL_d, belowR_d, List.length_cons, List.length_nil, Nat.reduceAdd, Nat.reduceLT, decide_true, Bool.and_self, Bool.and_true])
        | false =>
          cases bi with
          | false =>
            repeat' (first | (with_reducible refine And.intro ?_ ?_) | (with_reducible refine gK_i (fun _ => ?_) (fun _ => ?_)) | (with_reducible refine condS_i (fun _ => ?_) (fun _ => ?_)) | (with_reducible refine drw_i (by kernel_rfl)) | simp -dsimp only [go_sem, seval, *, encT, encV, encBo, hkI, hiI2, hwk, hlt3, hbk, hbi, hrow, undef] | ((with_reducible refine opK_c ?_); simp -dsimp only [go_sem, seval, encT, encV, encBo, hkI, hiI2, hwk, hlt3, hbk, hbi, hrow, undef]; first | refine callK_r (by first | assumption | fail) (by first | exact .inl rfl | exact .inr rfl) ?_ | (refine callK_i (by assumption) ?_ ?_ ?_; (solve | (repeat (first | exact DLe.refl _ | exact DLe.nil _ | (refine DLe.tup ?_) | (refine DLe.agg ?_ rfl) | exact trivial | (refine And.intro ?_ ?_)))); (solve | exact .inl rfl | exact .inr rfl))) | fail | omega | exact decide_eq_true (by omega) | exact DLe.refl _)
            refine hC _ _ trivial ?_
            rw [hst.out, hst2.out]
            exact weak_forget _ (by simp) (by rfl) (by (repeat' (first | exact trivial | (refine ⟨rfl, ?_⟩)))) (by first | rfl | simp only [belowH, belowE, belowC, belowL, belowR, belowP, belowL_d, belowR_d, List.length_cons, List.length_nil, Nat.reduceAdd, Nat.reduceLT, decide_true, Bool.and_self, Bool.and_true]) (by first | rfl | simp only [belowH, belowE, belowC, belowL, belowR, belowP, belowL_d, belowR_d, List.length_cons, List.length_nil, Nat.reduceAdd, Nat.reduceLT, decide_true, Bool.and_self, Bool.and_true])
          | true =>
            repeat' (first | (with_reducible refine And.intro ?_ ?_) | (with_reducible refine gK_i (fun _ => ?_) (fun _ => ?_)) | (with_reducible refine condS_i (fun _ => ?_) (fun _ => ?_)) | (with_reducible refine drw_i (by kernel_rfl)) | simp -dsimp only [go_sem, seval, *, encT, encV, encBo, hkI, hiI2, hwk, hlt3, hbk, hbi, hrow, hvi, hvk, undef] | ((with_reducible refine opK_c ?_); simp -dsimp only [go_sem, seval, encT, encV, encBo, hkI, hiI2, hwk, hlt3, hbk, hbi, hrow, hvi, hvk, undef]; first | refine callK_r (by first | assumption | exact hlq) (by first | exact .inl rfl | exact .inr rfl) ?_ | (refine callK_i (by assumption) ?_ ?_ ?_; (solve | (repeat (first | exact DLe.refl _ | exact DLe.nil _ | (refine DLe.tup ?_) | (refine DLe.agg ?_ rfl) | exact trivial | (refine And.intro ?_ ?_)))); (solve | exact .inl rfl | exact .inr rfl))) | fail | omega | exact decide_eq_true (by omega) | exact DLe.refl _)
            refine hC _ _ trivial ?_
            rw [hst.out, hst2.out]
            exact weak_forget _ (by simp) (by rfl) (by (repeat' (first | exact trivial | (refine ⟨rfl, ?_⟩)))) (by first | rfl | simp only [belowH, belowE, belowC, belowL, belowR, belowP, belowL_d, belowR_d, List.length_cons, List.length_nil, Nat.reduceAdd, Nat.reduceLT, decide_true, Bool.and_self, Bool.and_true]) (by first | rfl | simp only [belowH, belowE, belowC, belowL, belowR, belowP, belowL_d, belowR_d, List.length_cons, List.length_nil, Nat.reduceAdd, Nat.reduceLT, decide_true, Bool.and_self, Bool.and_true])
      · intro _ C
        have hlt4 := gsl_rlen lk B i n.vpcs.length
        rw [hlt2] at hlt4
        repeat' (first | (with_reducible refine And.intro ?_ ?_) | (with_reducible refine gK_i (fun _ => ?_) (fun _ => ?_)) | (with_reducible refine condS_i (fun _ => ?_) (fun _ => ?_)) | (with_reducible refine drw_i (by kernel_rfl)) | simp -dsimp only [go_sem, seval, *, encT, hwi, hlt4, Int.lt_irrefl] | ((with_reducible refine opK_c ?_); simp -dsimp only [go_sem, seval, encT, hwi, hlt4, Int.lt_irrefl]; first | refine callK_r (by first | assumption | fail) (by first | exact .inl rfl | exact .inr rfl) ?_ | (refine callK_i (by assumption) ?_ ?_ ?_; (solve | (repeat (first | exact DLe.refl _ | exact DLe.nil _ | (refine DLe.tup ?_) | (refine DLe.agg ?_ rfl) | exact trivial | (refine And.intro ?_ ?_)))); (solve | exact .inl rfl | exact .inr rfl))) | fail | omega | exact decide_eq_true (by omega) | exact DLe.refl _)
        refine hCI _ _ trivial ?_
        rw [hct2.out]
        exact weak_forget _ (by simp) (by (try simp only [encT]); rfl) (by (repeat' (first | exact trivial | (refine ⟨rfl, ?_⟩)))) (by first | rfl | simp only [belowH, belowE, belowC, belowL, belowR, belowP, belowL_d, belowR_d, List.length_cons, List.length_nil, Nat.reduceAdd, Nat.reduceLT, decide_true, Bool.and_self, Bool.and_true]) (by first | rfl | simp only [belowH, belowE, belowC, belowL, belowR, belowP, belowL_d, belowR_d, List.length_cons, List.length_nil, Nat.reduceAdd, Nat.reduceLT, decide_true, Bool.and_self, Bool.and_true])
    · intro _ C
      have hlt4 := gsl_tlen lk A n.vpcs.length
      rw [hlt] at hlt4
      repeat' (first | (with_reducible refine And.intro ?_ ?_) | (with_reducible refine gK_i (fun _ => ?_) (fun _ => ?_)) | (with_reducible refine condS_i (fun _ => ?_) (fun _ => ?_)) | (with_reducible refine drw_i (by kernel_rfl)) | simp -dsimp only [go_sem, seval, *, encT, hwt, hlt4, Int.lt_irrefl] | ((with_reducible refine opK_c ?_); simp -dsimp only [go_sem, seval, encT, hwt, hlt4, Int.lt_irrefl]; first | refine callK_r (by first | assumption | fail) (by first | exact .inl rfl | exact .inr rfl) ?_ | (refine callK_i (by assumption) ?_ ?_ ?_; (solve | (repeat (first | exact DLe.refl _ | exact DLe.nil _ | (refine DLe.tup ?_) | (refine DLe.agg ?_ rfl) | exact trivial | (refine And.intro ?_ ?_)))); (solve | exact .inl rfl | exact .inr rfl))) | fail | omega | exact decide_eq_true (by omega) | exact DLe.refl _)
      refine hCT _ _ trivial ?_
      rw [hct.out]
      exact weak_forget _ (by simp) (by (try simp only [encT]); rfl) (by (repeat' (first | exact trivial | (refine ⟨rfl, ?_⟩)))) (by first | rfl | simp only [belowH, belowE, belowC, belowL, belowR, belowP, belowL_d, belowR_d, List.length_cons, List.length_nil, Nat.reduceAdd, Nat.reduceLT, decide_true, Bool.and_self, Bool.and_true]) (by first | rfl | simp only [belowH, belowE, belowC, belowL, belowR, belowP, belowL_d, belowR_d, List.length_cons, List.length_nil, Nat.reduceAdd, Nat.reduceLT, decide_true, Bool.and_self, Bool.and_true])
  · intro _ C
    have hlt4 := gsl_clen lk l0 n.vpcs.length
    rw [hll] at hlt4
    generalize closeI lk l0 n.vpcs.length = M at *
    repeat' (first | (with_reducible refine And.intro ?_ ?_) | (with_reducible refine gK_i (fun _ => ?_) (fun _ => ?_)) | (with_reducible refine condS_i (fun _ => ?_) (fun _ => ?_)) | (with_reducible refine drw_i (by kernel_rfl)) | simp -dsimp only [go_sem, seval, *, encT, hlt4, Int.lt_irrefl] | ((with_reducible refine opK_c ?_); simp -dsimp only [go_sem, seval, encT, hlt4, Int.lt_irrefl]; first | refine callK_r (by first | assumption | fail) (by first | exact .inl rfl | exact .inr rfl) ?_ | (refine callK_i (by assumption) ?_ ?_ ?_; (solve | (repeat (first | exact DLe.refl _ | exact DLe.nil _ | (refine DLe.tup ?_) | (refine DLe.agg ?_ rfl) | exact trivial | (refine And.intro ?_ ?_)))); (solve | exact .inl rfl | exact .inr rfl))) | fail | omega | exact decide_eq_true (by omega) | exact DLe.refl _)
    refine loopG tab_ok mixed (fun m e h => ∃ (k g : Nat), k ≤ n.vpcs.length ∧ m = n.vpcs.length - k ∧ e = [(10, .d (.v (.int .i64 k))), (9, .own 2 g), (5, .own 1 0), (4, .d (.v (.slice none 0 0))), (2, .ptr 0 0)] ∧
      h = [.box 25 ((encT n).map .d), .row 4 1 0 (dRows (M.map encBo)), .row 3 1 g (dRows ((((n.vpcs.take k).filter fun v => headN n v.id == headN n id).map (·.id)).map encA))]) _ _ _ ⟨0, 0, Nat.zero_le _, rfl, rfl, rfl⟩ ?_ ?_
    · refine (weak_adopt (by simp) 9 3 1 rfl).trans ?_
      exact weak_forget _ (by simp) (by (try simp only [encT]); rfl) (by (repeat' (first | exact trivial | (refine ⟨rfl, ?_⟩)))) (by first | rfl | simp only [belowH, belowE, belowC, belowL, belowR, belowP, belowL_d, belowR_d, List.length_cons, List.length_nil, Nat.reduceAdd, Nat.reduceLT, decide_true, Bool.and_self, Bool.and_true]) (by first | rfl | simp only [belowH, belowE, belowC, belowL, belowR, belowP, belowL_d, belowR_d, List.length_cons, List.length_nil, Nat.reduceAdd, Nat.reduceLT, decide_true, Bool.and_self, Bool.and_true])
    · rintro m e h ⟨k, g, hk, hm, rfl, rfl⟩ C hC
      by_cases hlt : k < n.vpcs.length
      · have hkI : (k : Int) < (n.vpcs.length : Int) := by omega
        have hwr : IntKind.i64.wrap ((k : Int) + 1) = ((k + 1 : Nat) : Int) := by rw [IntKind.wrap_i64]; omega
        obtain ⟨v, hv⟩ : ∃ v, n.vpcs[k]? = some v := ⟨_, List.getElem?_eq_getElem hlt⟩
        have hbk := hfin.out k v hv
        have hfl : ((n.vpcs.take k).filter fun v => headN n v.id == headN n id).length ≤ k := by
          have := List.length_filter_le (fun v : Vpc => headN n v.id == headN n id) (n.vpcs.take k)
          rw [List.length_take] at this; omega
        have hbd : ((n.vpcs.take k).filter fun v => headN n v.id == headN n id).length + 1 ≤ 100 := by omega
        have hst : (n.vpcs.take (k + 1)).filter (fun v => headN n v.id == headN n id) = (n.vpcs.take k).filter (fun v => headN n v.id == headN n id) ++ if (headN n v.id == headN n id) = true then [v] else [] := by
          rw [take_snoc hv, List.filter_append]
          congr 1
          cases hb : headN n v.id == headN n id <;> simp [hb]
        replace hst := Lib.hid hst
        replace hfl := Lib.hid hfl
        replace hm := Lib.hid hm
        generalize (n.vpcs.take k).filter (fun v => headN n v.id == headN n id) = L at *
        cases e1 : (headN n v.id == headN n id) with
        | false =>
          rw [e1] at hst hbk
          repeat' (first | (with_reducible refine And.intro ?_ ?_) | (with_reducible refine gK_i (fun _ => ?_) (fun _ => ?_)) | (with_reducible refine condS_i (fun _ => ?_) (fun _ => ?_)) | (with_reducible refine drw_i (by kernel_rfl)) | simp -dsimp only [go_sem, seval, *, encT, encV, encBo, hkI, hwr, hlt4, hv, hbk, undef] | ((with_reducible refine opK_c ?_); simp -dsimp only [go_sem, seval, encT, encV, encBo, hkI, hwr, hlt4, hv, hbk, undef]; first | refine callK_r (by first | assumption | fail) (by first | exact .inl rfl | exact .inr rfl) ?_ | (refine callK_i (by assumption) ?_ ?_ ?_; (solve | (repeat (first | exact DLe.refl _ | exact DLe.nil _ | (refine DLe.tup ?_) | (refine DLe.agg ?_ rfl) | exact trivial | (refine And.intro ?_ ?_)))); (solve | exact .inl rfl | exact .inr rfl))) | fail | omega | exact decide_eq_true (by omega) | exact DLe.refl _)
          refine hC _ _ _ _ _ ?_ ⟨k + 1, g, hlt, rfl, rfl, rfl⟩ (weak_forget _ (by simp) (by rw [hst.out]; simp only [Bool.false_eq_true, if_false, List.append_nil]; rfl) (by (repeat' (first | exact trivial | (refine ⟨rfl, ?_⟩)))) (by first | rfl | simp only [belowH, belowE, belowC, belowL, belowR, belowP, belowL_d, belowR_d, belowR_zipG, subRow, faceRow, List.length_cons, List.length_nil, Nat.reduceAdd, Nat.reduceLT, decide_true, Bool.and_self, Bool.and_true]) (by first | rfl | simp only [belowH, belowE, belowC, belowL, belowR, belowP, belowL_d, belowR_d, belowR_zipG, subRow, faceRow, List.length_cons, List.length_nil, Nat.reduceAdd, Nat.reduceLT, decide_true, Bool.and_self, Bool.and_true]))
          have := hm.out; omega
        | true =>
          rw [e1] at hst hbk
          repeat' (first | (with_reducible refine And.intro ?_ ?_) | (with_reducible refine gK_i (fun _ => ?_) (fun _ => ?_)) | (with_reducible refine condS_i (fun _ => ?_) (fun _ => ?_)) | (with_reducible refine drw_i (by kernel_rfl)) | simp -dsimp only [go_sem, seval, *, encT, encV, encBo, hkI, hwr, hlt4, hv, hbk, hbd, undef] | ((with_reducible refine opK_c ?_); simp -dsimp only [go_sem, seval, encT, encV, encBo, hkI, hwr, hlt4, hv, hbk, hbd, undef]; first | refine callK_r (by first | assumption | fail) (by first | exact .inl rfl | exact .inr rfl) ?_ | (refine callK_i (by assumption) ?_ ?_ ?_; (solve | (repeat (first | exact DLe.refl _ | exact DLe.nil _ | (refine DLe.tup ?_) | (refine DLe.agg ?_ rfl) | exact trivial | (refine And.intro ?_ ?_)))); (solve | exact .inl rfl | exact .inr rfl))) | fail | omega | exact decide_eq_true (by omega) | exact DLe.refl _)
          refine hC _ _ _ _ _ ?_ ⟨k + 1, g + 1, hlt, rfl, rfl, rfl⟩ (weak_forget _ (by simp) (by rw [hst.out]; simp only [if_true, List.map_append, List.map_cons, List.map_nil, ← dRows_app]; rfl) (by (repeat' (first | exact trivial | (refine ⟨rfl, ?_⟩)))) (by first | rfl | simp only [belowH, belowE, belowC, belowL, belowR, belowP, belowL_d, belowR_d, belowR_zipG, subRow, faceRow, List.length_cons, List.length_nil, Nat.reduceAdd, Nat.reduceLT, decide_true, Bool.and_self, Bool.and_true]) (by first | rfl | simp only [belowH, belowE, belowC, belowL, belowR, belowP, belowL_d, belowR_d, belowR_zipG, subRow, faceRow, List.length_cons, List.length_nil, Nat.reduceAdd, Nat.reduceLT, decide_true, Bool.and_self, Bool.and_true]))
          have := hm.out; omega
      · obtain rfl : k = n.vpcs.length := by omega
        rw [List.take_length]
        replace hm := Lib.hid hm
        repeat' (first | (with_reducible refine And.intro ?_ ?_) | (with_reducible refine gK_i (fun _ => ?_) (fun _ => ?_)) | (with_reducible refine condS_i (fun _ => ?_) (fun _ => ?_)) | (with_reducible refine drw_i (by kernel_rfl)) | simp -dsimp only [go_sem, seval, *, encT, hlt4, Int.lt_irrefl, undef] | ((with_reducible refine opK_c ?_); simp -dsimp only [go_sem, seval, encT, hlt4, Int.lt_irrefl, undef]; first | refine callK_r (by first | assumption | fail) (by first | exact .inl rfl | exact .inr rfl) ?_ | (refine callK_i (by assumption) ?_ ?_ ?_; (solve | (repeat (first | exact DLe.refl _ | exact DLe.nil _ | (refine DLe.tup ?_) | (refine DLe.agg ?_ rfl) | exact trivial | (refine And.intro ?_ ?_)))); (solve | exact .inl rfl | exact .inr rfl))) | fail | omega | exact decide_eq_true (by omega) | exact DLe.refl _)
        all_goals exact (by repeat (first | exact DLe.refl _ | exact DLe.nil _ | (refine DLe.tup ?_) | (refine DLe.agg ?_ rfl) | exact trivial | (refine And.intro ?_ ?_)))
end Go.Proofs.YtgmbhaclogabeaaGreat
namespace Go.Proofs.YtgmbhaclogabeaaGreat
open Go Go.RowKit
theorem ordK_lt (y l : Lnk) : ordK y l < 0 ↔ y.a < l.a ∨ (y.a = l.a ∧ y.b < l.b) := by
  unfold ordK
  simp only [orI, cmpI]
  repeat' split
  all_goals omega
theorem clashV_comm (v w : Vpc) : clashV v w = clashV w v := by
  have key : ∀ v w : Vpc, clashV v w = true → clashV w v = true := fun v w h => by
    unfold clashV at h ⊢
    obtain ⟨r, hr, h⟩ := List.any_eq_true.1 h
    obtain ⟨q, hq, h⟩ := List.any_eq_true.1 h
    exact List.any_eq_true.2 ⟨q, hq, List.any_eq_true.2 ⟨r, hr, by rw [meets_comm]; exact h⟩⟩
  rw [Bool.eq_iff_iff]
  exact ⟨key v w, key w v⟩
theorem foeN_comm (n : Net) (v w : Vpc) : foeN n v w = foeN n w v := by
  unfold foeN
  rw [clashV_comm v w, Bool.beq_comm]
/-- Two networks at two places that are at war. -/
theorem peace_war {n : Net} {i j : Nat} {v w : Vpc} (hij : i ≠ j) (hv : n.vpcs[i]? = some v) (hw : n.vpcs[j]? = some w) (h : foeN n v w = true) : peaceN n = false := by
  rcases Nat.lt_or_gt_of_ne hij with hlt | hlt
  · exact peace_bad hlt hw hv (by rw [foeN_comm]; exact h)
  · exact peace_bad hlt hv hw h
theorem rise_ne {n : Net} (hr : n.vpcs.Pairwise fun a b => a.id < b.id) {i : Nat} {v w : Vpc} (hv : n.vpcs[i]? = some v) (hw : w ∈ n.vpcs.take i) : w.id ≠ v.id := by
  obtain ⟨j, hj, rfl⟩ := List.mem_iff_getElem.1 hw
  rw [List.getElem_take]
  obtain ⟨hi, rfl⟩ := List.getElem?_eq_some_iff.1 hv
  have := List.pairwise_iff_getElem.1 hr j i (by rw [List.length_take] at hj; omega) hi (by rw [List.length_take] at hj; omega)
  omega
theorem vpcIx_at {n : Net} (hr : n.vpcs.Pairwise fun a b => a.id < b.id) {j : Nat} {w : Vpc} (hw : n.vpcs[j]? = some w) : vpcIx n w.id = some j := by
  unfold vpcIx
  rw [List.findIdx?_eq_some_iff_getElem]
  obtain ⟨hj, rfl⟩ := List.getElem?_eq_some_iff.1 hw
  refine ⟨hj, by simp, fun i hi => ?_⟩
  have := List.pairwise_iff_getElem.1 hr i j (by omega) hj hi
  simp
  omega
/-- Who is in a group. -/
theorem grp_at {n : Net} (hr : n.vpcs.Pairwise fun a b => a.id < b.id) {id x : Int} {k : Nat} (h : (grpN n id)[k]? = some x) : ∃ j w, n.vpcs[j]? = some w ∧ w.id = x ∧ vpcIx n x = some j ∧ headN n x = headN n id := by
  have hm := List.mem_of_getElem? h
  unfold grpN at hm
  obtain ⟨w, hw, rfl⟩ := List.mem_map.1 hm
  rw [List.mem_filter, beq_iff_eq] at hw
  obtain ⟨j, hj⟩ := List.mem_iff_getElem?.1 hw.1
  exact ⟨j, w, hj, rfl, vpcIx_at hr hj, hw.2⟩
theorem grp_mem {n : Net} {id : Int} {w : Vpc} (hw : w ∈ n.vpcs) (h : headN n w.id = headN n id) : w.id ∈ grpN n id := by
  unfold grpN
  exact List.mem_map.2 ⟨w, List.mem_filter.2 ⟨hw, by simpa using h⟩, rfl⟩
theorem grp_len (n : Net) (id : Int) : (grpN n id).length ≤ n.vpcs.length := by
  unfold grpN
  rw [List.length_map]
  exact List.length_filter_le _ _
theorem lnkB_ix {n : Net} (l : Lnk) : lnkB n l = ((vpcIx n l.a).isSome && ((vpcIx n l.b).isSome && decide (l.a < l.b))) := by
  have key : ∀ x, (findN n x).isSome = (vpcIx n x).isSome := fun x => by
    cases h : vpcIx n x with
    | none => rw [vpcIx_none h]; rfl
    | some i => obtain ⟨v, -, -, -, h2⟩ := vpcIx_some h; rw [h2]; rfl
  unfold lnkB
  rw [key, key]
def NetZ (n : Net) : Prop := ∀ v ∈ n.vpcs, v.subs.length ≤ 9223372036854775807 ∧ ∀ s ∈ v.subs, s.faces.length ≤ 9223372036854775807
set_option maxRecDepth 100000 in
set_option maxHeartbeats 4000000 in
theorem checkNet_p (n : Net) (hz : NetZ n) : PSpec Tryz.prog 9 [.agg (encT n)] (.v (.int .i64 (chkT n))) := by
  obtain ⟨R, hR⟩ : ∃ R, R = chkT n := ⟨_, rfl⟩
  rw [← hR]
  replace hR := Lib.hid hR
  replace hz := Lib.hid hz
  by_cases h6 : n.vpcs.length > 6
  · have h6I : decide ((n.vpcs.length : Int) > 6) = true := by simp; omega
    have hr : R = 2 := by rw [hR.out, chkT, if_pos (.inl h6)]
    rw [hr]
    replace hr := Lib.hid hr
    refine ps_i tab_ok mixed Tryz.func9 rfl Tryz.ntmps9 Tryz.results9 (by kernel_rfl) ?_
    repeat' (first | (with_reducible refine And.intro ?_ ?_) | (with_reducible refine gK_i (fun _ => ?_) (fun _ => ?_)) | (with_reducible refine condS_i (fun _ => ?_) (fun _ => ?_)) | (with_reducible refine drw_i (by kernel_rfl)) | simp -dsimp only [go_sem, seval, *, encT, h6I, undef] | ((with_reducible refine opK_c ?_); simp -dsimp only [go_sem, seval, encT, h6I, undef]; first | refine callK_r (by first | assumption | fail) (by first | exact .inl rfl | exact .inr rfl) ?_ | (refine callK_i (by assumption) ?_ ?_ ?_; (solve | (repeat (first | exact DLe.refl _ | exact DLe.nil _ | (refine DLe.tup ?_) | (refine DLe.agg ?_ rfl) | exact trivial | (refine And.intro ?_ ?_)))); (solve | exact .inl rfl | exact .inr rfl))) | fail | omega | exact decide_eq_true (by omega) | exact DLe.refl _)
    all_goals exact DLe.refl _
  by_cases h12 : n.links.length > 12
  · have h6I : decide ((n.vpcs.length : Int) > 6) = false := by simp; omega
    have h12I : decide ((n.links.length : Int) > 12) = true := by simp; omega
    have hr : R = 2 := by rw [hR.out, chkT, if_pos (.inr h12)]
    rw [hr]
    replace hr := Lib.hid hr
    refine ps_i tab_ok mixed Tryz.func9 rfl Tryz.ntmps9 Tryz.results9 (by kernel_rfl) ?_
    repeat' (first | (with_reducible refine And.intro ?_ ?_) | (with_reducible refine gK_i (fun _ => ?_) (fun _ => ?_)) | (with_reducible refine condS_i (fun _ => ?_) (fun _ => ?_)) | (with_reducible refine drw_i (by kernel_rfl)) | simp -dsimp only [go_sem, seval, *, encT, h6I, h12I, undef] | ((with_reducible refine opK_c ?_); simp -dsimp only [go_sem, seval, encT, h6I, h12I, undef]; first | refine callK_r (by first | assumption | fail) (by first | exact .inl rfl | exact .inr rfl) ?_ | (refine callK_i (by assumption) ?_ ?_ ?_; (solve | (repeat (first | exact DLe.refl _ | exact DLe.nil _ | (refine DLe.tup ?_) | (refine DLe.agg ?_ rfl) | exact trivial | (refine And.intro ?_ ?_)))); (solve | exact .inl rfl | exact .inr rfl))) | fail | omega | exact decide_eq_true (by omega) | exact DLe.refl _)
    all_goals exact DLe.refl _
  have h6I : decide ((n.vpcs.length : Int) > 6) = false := by simp; omega
  have h12I : decide ((n.links.length : Int) > 12) = false := by simp; omega
  have hno : ¬ (n.vpcs.length > 6 ∨ n.links.length > 12) := by omega
  refine ps_i tab_ok mixed Tryz.func9 rfl Tryz.ntmps9 Tryz.results9 (by kernel_rfl) ?_
  repeat' (first | (with_reducible refine And.intro ?_ ?_) | (with_reducible refine gK_i (fun _ => ?_) (fun _ => ?_)) | (with_reducible refine condS_i (fun _ => ?_) (fun _ => ?_)) | (with_reducible refine drw_i (by kernel_rfl)) | simp -dsimp only [go_sem, seval, *, encT, h6I, h12I, undef] | ((with_reducible refine opK_c ?_); simp -dsimp only [go_sem, seval, encT, h6I, h12I, undef]; first | refine callK_r (by first | assumption | fail) (by first | exact .inl rfl | exact .inr rfl) ?_ | (refine callK_i (by assumption) ?_ ?_ ?_; (solve | (repeat (first | exact DLe.refl _ | exact DLe.nil _ | (refine DLe.tup ?_) | (refine DLe.agg ?_ rfl) | exact trivial | (refine And.intro ?_ ?_)))); (solve | exact .inl rfl | exact .inr rfl))) | fail | omega | exact decide_eq_true (by omega) | exact DLe.refl _)
  refine loopL tab_ok mixed n.vpcs (fun k => (∀ v ∈ n.vpcs.take k, chkV v = 0) ∧ (n.vpcs.take k).Pairwise fun a b => a.id < b.id) (fun k => [(3, .d (.v (.int .i64 k))), (2, .d (.v (.int .i64 0))), (1, .ptr 0 0)]) (fun _ => [.box 25 ((encT n).map .d)]) (by simp) (weak_forget _ (by simp) (by (try simp only [encT]); rfl) (by (repeat' (first | exact trivial | (refine ⟨rfl, ?_⟩)))) (by first | rfl | simp only [belowH, belowE, belowC, belowL, belowR, belowP, belowL_d, belowR_d, List.length_cons, List.length_nil, Nat.reduceAdd, Nat.reduceLT, decide_true, Bool.and_self, Bool.and_true]) (by first | rfl | simp only [belowH, belowE, belowC, belowL, belowR, belowP, belowL_d, belowR_d, List.length_cons, List.length_nil, Nat.reduceAdd, Nat.reduceLT, decide_true, Bool.and_self, Bool.and_true])) ?_ ?_
  · intro k v hv hk hI C hC
    have hkI : (k : Int) < (n.vpcs.length : Int) := by omega
    have hwr : IntKind.i64.wrap ((k : Int) + 1) = ((k + 1 : Nat) : Int) := by rw [IntKind.wrap_i64]; omega
    have htk := take_snoc hv
    have hzv := hz.out v (List.mem_of_getElem? hv)
    have hcv := checkVpc_p v hzv.1 hzv.2
    clear hzv
    by_cases hc : chkV v = 0
    · have hid : 1 ≤ v.id := by have := (vpcOK_of hc).id; simp [idOK] at this; exact this.1
      rw [hc] at hcv
      have hI2 : (lastV (n.vpcs.take k) < v.id) → (∀ v ∈ n.vpcs.take (k + 1), chkV v = 0) ∧ (n.vpcs.take (k + 1)).Pairwise fun a b => a.id < b.id := fun h => by
        rw [htk]
        exact ⟨fun u hu => by
          rcases List.mem_append.1 hu with hu | hu
          · exact hI.1 u hu
          · rw [List.mem_singleton.1 hu]; exact hc, lastV_pair hI.2 h⟩
      have hbad : v.id ≤ lastV (n.vpcs.take k) → R = 1 := fun h => by
        rw [hR.out]
        refine chkT_one hno (.inl ?_)
        cases hb : vpcsB n with
        | false => rfl
        | true =>
          have := (vpcsB_take hb (k + 1)).2
          rw [htk] at this
          exact absurd this (lastV_bad hid h)
      clear hI htk
      replace hc := Lib.hid hc
      replace hI2 := Lib.hid hI2
      replace hbad := Lib.hid hbad
      by_cases hk0 : k = 0
      · have hkz : decide ((k : Int) > 0) = false := by simp; omega
        have hg := hI2.out (by rw [hk0]; simp [lastV]; omega)
        replace hg := Lib.hid hg
        replace hk0 := Lib.hid hk0
        repeat' (first | (with_reducible refine And.intro ?_ ?_) | (with_reducible refine gK_i (fun _ => ?_) (fun _ => ?_)) | (with_reducible refine condS_i (fun _ => ?_) (fun _ => ?_)) | (with_reducible refine drw_i (by kernel_rfl)) | simp -dsimp only [go_sem, seval, *, encT, encV, hkI, hwr, hv, hkz, undef] | ((with_reducible refine opK_c ?_); simp -dsimp only [go_sem, seval, encT, encV, hkI, hwr, hv, hkz, undef]; first | refine callK_r (by first | assumption | exact hcv) (by first | exact .inl rfl | exact .inr rfl) ?_ | (refine callK_i (by assumption) ?_ ?_ ?_; (solve | (repeat (first | exact DLe.refl _ | exact DLe.nil _ | (refine DLe.tup ?_) | (refine DLe.agg ?_ rfl) | exact trivial | (refine And.intro ?_ ?_)))); (solve | exact .inl rfl | exact .inr rfl))) | fail | omega | exact decide_eq_true (by omega) | exact DLe.refl _)
        exact hC _ _ hg.out (weak_forget _ (by simp) (by (try simp only [encT]); rfl) (by (repeat' (first | exact trivial | (refine ⟨rfl, ?_⟩)))) (by first | rfl | simp only [belowH, belowE, belowC, belowL, belowR, belowP, belowL_d, belowR_d, List.length_cons, List.length_nil, Nat.reduceAdd, Nat.reduceLT, decide_true, Bool.and_self, Bool.and_true]) (by first | rfl | simp only [belowH, belowE, belowC, belowL, belowR, belowP, belowL_d, belowR_d, List.length_cons, List.length_nil, Nat.reduceAdd, Nat.reduceLT, decide_true, Bool.and_self, Bool.and_true]))
      · obtain ⟨j, hj⟩ : ∃ j, k = j + 1 := ⟨k - 1, by omega⟩
        obtain ⟨u, hu⟩ : ∃ u, n.vpcs[j]? = some u := ⟨_, List.getElem?_eq_getElem (by omega)⟩
        have hkz : decide ((k : Int) > 0) = true := by simp; omega
        have hw1 : IntKind.i64.wrap ((k : Int) - 1) = (j : Int) := by rw [IntKind.wrap_i64]; omega
        have hjI : (j : Int) < (n.vpcs.length : Int) := by omega
        have hls : lastV (n.vpcs.take k) = u.id := by rw [hj]; unfold lastV; rw [last_take hu]; rfl
        replace hj := Lib.hid hj
        replace hk0 := Lib.hid hk0
        by_cases ho : u.id ≥ v.id
        · have hr : R = 1 := hbad.out (by rw [hls]; exact ho)
          rw [hr]
          replace hr := Lib.hid hr
          replace hls := Lib.hid hls
          repeat' (first | (with_reducible refine And.intro ?_ ?_) | (with_reducible refine gK_i (fun _ => ?_) (fun _ => ?_)) | (with_reducible refine condS_i (fun _ => ?_) (fun _ => ?_)) | (with_reducible refine drw_i (by kernel_rfl)) | simp -dsimp only [go_sem, seval, *, encT, encV, hkI, hwr, hv, hkz, hw1, hjI, hu, ho, undef] | ((with_reducible refine opK_c ?_); simp -dsimp only [go_sem, seval, encT, encV, hkI, hwr, hv, hkz, hw1, hjI, hu, ho, undef]; first | refine callK_r (by first | assumption | exact hcv) (by first | exact .inl rfl | exact .inr rfl) ?_ | (refine callK_i (by assumption) ?_ ?_ ?_; (solve | (repeat (first | exact DLe.refl _ | exact DLe.nil _ | (refine DLe.tup ?_) | (refine DLe.agg ?_ rfl) | exact trivial | (refine And.intro ?_ ?_)))); (solve | exact .inl rfl | exact .inr rfl))) | fail | omega | exact decide_eq_true (by omega) | exact DLe.refl _)
          all_goals exact DLe.refl _
        · have hg := hI2.out (by rw [hls]; omega)
          have hob : decide (u.id ≥ v.id) = false := by simpa using ho
          replace hls := Lib.hid hls
          replace hg := Lib.hid hg
          replace ho := Lib.hid ho
          repeat' (first | (with_reducible refine And.intro ?_ ?_) | (with_reducible refine gK_i (fun _ => ?_) (fun _ => ?_)) | (with_reducible refine condS_i (fun _ => ?_) (fun _ => ?_)) | (with_reducible refine drw_i (by kernel_rfl)) | simp -dsimp only [go_sem, seval, *, encT, encV, hkI, hwr, hv, hkz, hw1, hjI, hu, hob, undef] | ((with_reducible refine opK_c ?_); simp -dsimp only [go_sem, seval, encT, encV, hkI, hwr, hv, hkz, hw1, hjI, hu, hob, undef]; first | refine callK_r (by first | assumption | exact hcv) (by first | exact .inl rfl | exact .inr rfl) ?_ | (refine callK_i (by assumption) ?_ ?_ ?_; (solve | (repeat (first | exact DLe.refl _ | exact DLe.nil _ | (refine DLe.tup ?_) | (refine DLe.agg ?_ rfl) | exact trivial | (refine And.intro ?_ ?_)))); (solve | exact .inl rfl | exact .inr rfl))) | fail | omega | exact decide_eq_true (by omega) | exact DLe.refl _)
          exact hC _ _ hg.out (weak_forget _ (by simp) (by (try simp only [encT]); rfl) (by (repeat' (first | exact trivial | (refine ⟨rfl, ?_⟩)))) (by first | rfl | simp only [belowH, belowE, belowC, belowL, belowR, belowP, belowL_d, belowR_d, List.length_cons, List.length_nil, Nat.reduceAdd, Nat.reduceLT, decide_true, Bool.and_self, Bool.and_true]) (by first | rfl | simp only [belowH, belowE, belowC, belowL, belowR, belowP, belowL_d, belowR_d, List.length_cons, List.length_nil, Nat.reduceAdd, Nat.reduceLT, decide_true, Bool.and_self, Bool.and_true]))
    · have hr : R = 1 := by
        rw [hR.out]
        refine chkT_one hno (.inl ?_)
        cases hb : vpcsB n with
        | false => rfl
        | true => exact absurd ((vpcsB_take hb (k + 1)).1 v (by rw [htk]; simp)) hc
      have hcb : (chkV v != 0) = true := by simpa using hc
      rw [hr]
      clear hr hI hC htk
      replace hc := Lib.hid hc
      repeat' (first | (with_reducible refine And.intro ?_ ?_) | (with_reducible refine gK_i (fun _ => ?_) (fun _ => ?_)) | (with_reducible refine condS_i (fun _ => ?_) (fun _ => ?_)) | (with_reducible refine drw_i (by kernel_rfl)) | simp -dsimp only [go_sem, seval, *, encT, encV, hkI, hv, hcb, undef] | ((with_reducible refine opK_c ?_); simp -dsimp only [go_sem, seval, encT, encV, hkI, hv, hcb, undef]; first | refine callK_r (by first | assumption | exact hcv) (by first | exact .inl rfl | exact .inr rfl) ?_ | (refine callK_i (by assumption) ?_ ?_ ?_; (solve | (repeat (first | exact DLe.refl _ | exact DLe.nil _ | (refine DLe.tup ?_) | (refine DLe.agg ?_ rfl) | exact trivial | (refine And.intro ?_ ?_)))); (solve | exact .inl rfl | exact .inr rfl))) | fail | omega | exact decide_eq_true (by omega) | exact DLe.refl _)
      all_goals exact DLe.refl _
  · intro hI C
    rw [List.take_length] at hI
    have hvB := vpcsB_of hI.1 hI.2
    have hso := hI.2
    replace hI := Lib.hid hI
    replace hso := Lib.hid hso
    replace hvB := Lib.hid hvB
    repeat' (first | (with_reducible refine And.intro ?_ ?_) | (with_reducible refine gK_i (fun _ => ?_) (fun _ => ?_)) | (with_reducible refine condS_i (fun _ => ?_) (fun _ => ?_)) | (with_reducible refine drw_i (by kernel_rfl)) | simp -dsimp only [go_sem, seval, *, encT, Int.lt_irrefl, undef] | ((with_reducible refine opK_c ?_); simp -dsimp only [go_sem, seval, encT, Int.lt_irrefl, undef]; first | refine callK_r (by first | assumption | fail) (by first | exact .inl rfl | exact .inr rfl) ?_ | (refine callK_i (by assumption) ?_ ?_ ?_; (solve | (repeat (first | exact DLe.refl _ | exact DLe.nil _ | (refine DLe.tup ?_) | (refine DLe.agg ?_ rfl) | exact trivial | (refine And.intro ?_ ?_)))); (solve | exact .inl rfl | exact .inr rfl))) | fail | omega | exact decide_eq_true (by omega) | exact DLe.refl _)
    refine loopL tab_ok mixed n.links (fun k => (∀ l ∈ n.links.take k, lnkB n l = true) ∧ risK (n.links.take k) = true) (fun k => [(4, .d (.v (.int .i64 k))), (2, .d (.v (.int .i64 0))), (1, .ptr 0 0)]) (fun _ => [.box 25 ((encT n).map .d)]) (by simp [risK]) (weak_forget _ (by simp) (by (try simp only [encT]); rfl) (by (repeat' (first | exact trivial | (refine ⟨rfl, ?_⟩)))) (by first | rfl | simp only [belowH, belowE, belowC, belowL, belowR, belowP, belowL_d, belowR_d, List.length_cons, List.length_nil, Nat.reduceAdd, Nat.reduceLT, decide_true, Bool.and_self, Bool.and_true]) (by first | rfl | simp only [belowH, belowE, belowC, belowL, belowR, belowP, belowL_d, belowR_d, List.length_cons, List.length_nil, Nat.reduceAdd, Nat.reduceLT, decide_true, Bool.and_self, Bool.and_true])) ?_ ?_
    · intro k l hl hk hJ C hC
      have hkI : (k : Int) < (n.links.length : Int) := by omega
      have hwr : IntKind.i64.wrap ((k : Int) + 1) = ((k + 1 : Nat) : Int) := by rw [IntKind.wrap_i64]; omega
      have htk := take_snoc hl
      have hfa := vpcAt_p n l.a (by omega)
      have hfb := vpcAt_p n l.b (by omega)
      rw [vpcAt_ix] at hfa hfb
      have hbad : lnkB n l = false → R = 1 := fun h => by
        rw [hR.out]
        refine chkT_one hno (.inr (.inl ?_))
        rw [List.all_eq_false]
        exact ⟨l, List.mem_of_getElem? hl, by simp [h]⟩
      have hlb := lnkB_ix (n := n) l
      have hgood : lnkB n l = true → risK (n.links.take (k + 1)) = true → (∀ l ∈ n.links.take (k + 1), lnkB n l = true) ∧ risK (n.links.take (k + 1)) = true := fun h g => by
        refine ⟨?_, g⟩
        rw [htk]
        intro u hu
        rcases List.mem_append.1 hu with hu | hu
        · exact hJ.1 u hu
        · rw [List.mem_singleton.1 hu]; exact h
      have hbad2 : risK (n.links.take (k + 1)) = false → R = 1 := fun h => by
        rw [hR.out]
        refine chkT_one hno (.inr (.inr (.inl ?_)))
        cases hb : risK n.links with
        | false => rfl
        | true => rw [risK_take hb] at h; cases h
      have hrk := risK_snoc (n.links.take k) l
      rw [← htk, hJ.2, Bool.true_and] at hrk
      have hm1 : decide ((-1 : Int) < 0) = true := rfl
      clear htk
      replace hJ := Lib.hid hJ
      replace hbad := Lib.hid hbad
      replace hbad2 := Lib.hid hbad2
      replace hgood := Lib.hid hgood
      by_cases hab : l.a < l.b
      · have hge : decide (l.a ≥ l.b) = false := by simp; omega
        cases ea : vpcIx n l.a with
        | none =>
          rw [ea] at hfa hlb
          simp only at hfa
          have hr : R = 1 := hbad.out (by rw [hlb]; rfl)
          rw [hr]
          clear hr hlb hrk hfb
          replace ea := Lib.hid ea
          replace hab := Lib.hid hab
          repeat' (first | (with_reducible refine And.intro ?_ ?_) | (with_reducible refine gK_i (fun _ => ?_) (fun _ => ?_)) | (with_reducible refine condS_i (fun _ => ?_) (fun _ => ?_)) | (with_reducible refine drw_i (by kernel_rfl)) | simp -dsimp only [go_sem, seval, *, encT, encK, hkI, hl, hge, hm1, undef] | ((with_reducible refine opK_c ?_); simp -dsimp only [go_sem, seval, encT, encK, hkI, hl, hge, hm1, undef]; first | refine callK_r (by first | assumption | exact hfa) (by first | exact .inl rfl | exact .inr rfl) ?_ | (refine callK_i (by assumption) ?_ ?_ ?_; (solve | (repeat (first | exact DLe.refl _ | exact DLe.nil _ | (refine DLe.tup ?_) | (refine DLe.agg ?_ rfl) | exact trivial | (refine And.intro ?_ ?_)))); (solve | exact .inl rfl | exact .inr rfl))) | fail | omega | exact decide_eq_true (by omega) | exact DLe.refl _)
          all_goals exact DLe.refl _
        | some ia =>
          rw [ea] at hfa hlb
          simp only at hfa
          have hia : decide ((ia : Int) < 0) = false := by simp
          replace ea := Lib.hid ea
          cases eb : vpcIx n l.b with
          | none =>
            rw [eb] at hfb hlb
            simp only at hfb
            have hr : R = 1 := hbad.out (by rw [hlb]; rfl)
            rw [hr]
            clear hr hlb hrk
            replace eb := Lib.hid eb
            replace hab := Lib.hid hab
            repeat' (first | (with_reducible refine And.intro ?_ ?_) | (with_reducible refine gK_i (fun _ => ?_) (fun _ => ?_)) | (with_reducible refine condS_i (fun _ => ?_) (fun _ => ?_)) | (with_reducible refine drw_i (by kernel_rfl)) | simp -dsimp only [go_sem, seval, *, encT, encK, hkI, hl, hge, hm1, hia, undef] | ((with_reducible refine opK_c ?_); simp -dsimp only [go_sem, seval, encT, encK, hkI, hl, hge, hm1, hia, undef]; first | refine callK_r (by first | assumption | exact hfa | exact hfb) (by first | exact .inl rfl | exact .inr rfl) ?_ | (refine callK_i (by assumption) ?_ ?_ ?_; (solve | (repeat (first | exact DLe.refl _ | exact DLe.nil _ | (refine DLe.tup ?_) | (refine DLe.agg ?_ rfl) | exact trivial | (refine And.intro ?_ ?_)))); (solve | exact .inl rfl | exact .inr rfl))) | fail | omega | exact decide_eq_true (by omega) | exact DLe.refl _)
            all_goals exact DLe.refl _
          | some ib =>
            rw [eb] at hfb hlb
            simp only at hfb
            have hib : decide ((ib : Int) < 0) = false := by simp
            replace eb := Lib.hid eb
            have hlt : lnkB n l = true := by rw [hlb]; simp [hab]
            clear hlb
            replace hlt := Lib.hid hlt
            replace hab := Lib.hid hab
            by_cases hk0 : k = 0
            · have hkz : decide ((k : Int) > 0) = false := by simp; omega
              have hg := hgood.out hlt.out (by rw [hrk, hk0]; rfl)
              clear hrk
              replace hg := Lib.hid hg
              replace hk0 := Lib.hid hk0
              repeat' (first | (with_reducible refine And.intro ?_ ?_) | (with_reducible refine gK_i (fun _ => ?_) (fun _ => ?_)) | (with_reducible refine condS_i (fun _ => ?_) (fun _ => ?_)) | (with_reducible refine drw_i (by kernel_rfl)) | simp -dsimp only [go_sem, seval, *, encT, encK, hkI, hwr, hl, hge, hkz, hia, hib, undef] | ((with_reducible refine opK_c ?_); simp -dsimp only [go_sem, seval, encT, encK, hkI, hwr, hl, hge, hkz, hia, hib, undef]; first | refine callK_r (by first | assumption | exact hfa | exact hfb) (by first | exact .inl rfl | exact .inr rfl) ?_ | (refine callK_i (by assumption) ?_ ?_ ?_; (solve | (repeat (first | exact DLe.refl _ | exact DLe.nil _ | (refine DLe.tup ?_) | (refine DLe.agg ?_ rfl) | exact trivial | (refine And.intro ?_ ?_)))); (solve | exact .inl rfl | exact .inr rfl))) | fail | omega | exact decide_eq_true (by omega) | exact DLe.refl _)
              exact hC _ _ hg.out (weak_forget _ (by simp) (by (try simp only [encT]); rfl) (by (repeat' (first | exact trivial | (refine ⟨rfl, ?_⟩)))) (by first | rfl | simp only [belowH, belowE, belowC, belowL, belowR, belowP, belowL_d, belowR_d, List.length_cons, List.length_nil, Nat.reduceAdd, Nat.reduceLT, decide_true, Bool.and_self, Bool.and_true]) (by first | rfl | simp only [belowH, belowE, belowC, belowL, belowR, belowP, belowL_d, belowR_d, List.length_cons, List.length_nil, Nat.reduceAdd, Nat.reduceLT, decide_true, Bool.and_self, Bool.and_true]))
            · obtain ⟨j, hj⟩ : ∃ j, k = j + 1 := ⟨k - 1, by omega⟩
              obtain ⟨y, hy⟩ : ∃ y, n.links[j]? = some y := ⟨_, List.getElem?_eq_getElem (by omega)⟩
              have hkz : decide ((k : Int) > 0) = true := by simp; omega
              have hw1 : IntKind.i64.wrap ((k : Int) - 1) = (j : Int) := by rw [IntKind.wrap_i64]; omega
              have hjI : (j : Int) < (n.links.length : Int) := by omega
              have hol := ordK_lt y l
              rw [hj, last_take hy] at hrk
              simp only at hrk
              rw [← hj] at hrk
              replace hj := Lib.hid hj
              replace hk0 := Lib.hid hk0
              by_cases ho : ordK y l < 0
              · have hg := hgood.out hlt.out (by rw [hrk]; simpa using ho)
                have hcs := hol.1 ho
                clear hrk hol ho
                replace hg := Lib.hid hg
                by_cases hlt2 : y.a < l.a
                · have e1 : decide (y.a > l.a) = false := by simp; omega
                  have e2 : (y.a == l.a) = false := by simp; omega
                  clear hcs hlt2
                  repeat' (first | (with_reducible refine And.intro ?_ ?_) | (with_reducible refine gK_i (fun _ => ?_) (fun _ => ?_)) | (with_reducible refine condS_i (fun _ => ?_) (fun _ => ?_)) | (with_reducible refine drw_i (by kernel_rfl)) | simp -dsimp only [go_sem, seval, *, encT, encK, hkI, hwr, hl, hge, hkz, hw1, hjI, hy, hia, hib, e1, e2, undef] | ((with_reducible refine opK_c ?_); simp -dsimp only [go_sem, seval, encT, encK, hkI, hwr, hl, hge, hkz, hw1, hjI, hy, hia, hib, e1, e2, undef]; first | refine callK_r (by first | assumption | exact hfa | exact hfb) (by first | exact .inl rfl | exact .inr rfl) ?_ | (refine callK_i (by assumption) ?_ ?_ ?_; (solve | (repeat (first | exact DLe.refl _ | exact DLe.nil _ | (refine DLe.tup ?_) | (refine DLe.agg ?_ rfl) | exact trivial | (refine And.intro ?_ ?_)))); (solve | exact .inl rfl | exact .inr rfl))) | fail | omega | exact decide_eq_true (by omega) | exact DLe.refl _)
                  exact hC _ _ hg.out (weak_forget _ (by simp) (by (try simp only [encT]); rfl) (by (repeat' (first | exact trivial | (refine ⟨rfl, ?_⟩)))) (by first | rfl | simp only [belowH, belowE, belowC, belowL, belowR, belowP, belowL_d, belowR_d, List.length_cons, List.length_nil, Nat.reduceAdd, Nat.reduceLT, decide_true, Bool.and_self, Bool.and_true]) (by first | rfl | simp only [belowH, belowE, belowC, belowL, belowR, belowP, belowL_d, belowR_d, List.length_cons, List.length_nil, Nat.reduceAdd, Nat.reduceLT, decide_true, Bool.and_self, Bool.and_true]))
                · have e1 : decide (y.a > l.a) = false := by simp; omega
                  have e2 : (y.a == l.a) = true := by simp; omega
                  have e3 : decide (y.b ≥ l.b) = false := by simp; omega
                  clear hcs hlt2
                  repeat' (first | (with_reducible refine And.intro ?_ ?_) | (with_reducible refine gK_i (fun _ => ?_) (fun _ => ?_)) | (with_reducible refine condS_i (fun _ => ?_) (fun _ => ?_)) | (with_reducible refine drw_i (by kernel_rfl)) | simp -dsimp only [go_sem, seval, *, encT, encK, hkI, hwr, hl, hge, hkz, hw1, hjI, hy, hia, hib, e1, e2, e3, undef] | ((with_reducible refine opK_c ?_); simp -dsimp only [go_sem, seval, encT, encK, hkI, hwr, hl, hge, hkz, hw1, hjI, hy, hia, hib, e1, e2, e3, undef]; first | refine callK_r (by first | assumption | exact hfa | exact hfb) (by first | exact .inl rfl | exact .inr rfl) ?_ | (refine callK_i (by assumption) ?_ ?_ ?_; (solve | (repeat (first | exact DLe.refl _ | exact DLe.nil _ | (refine DLe.tup ?_) | (refine DLe.agg ?_ rfl) | exact trivial | (refine And.intro ?_ ?_)))); (solve | exact .inl rfl | exact .inr rfl))) | fail | omega | exact decide_eq_true (by omega) | exact DLe.refl _)
                  exact hC _ _ hg.out (weak_forget _ (by simp) (by (try simp only [encT]); rfl) (by (repeat' (first | exact trivial | (refine ⟨rfl, ?_⟩)))) (by first | rfl | simp only [belowH, belowE, belowC, belowL, belowR, belowP, belowL_d, belowR_d, List.length_cons, List.length_nil, Nat.reduceAdd, Nat.reduceLT, decide_true, Bool.and_self, Bool.and_true]) (by first | rfl | simp only [belowH, belowE, belowC, belowL, belowR, belowP, belowL_d, belowR_d, List.length_cons, List.length_nil, Nat.reduceAdd, Nat.reduceLT, decide_true, Bool.and_self, Bool.and_true]))
              · have hr : R = 1 := hbad2.out (by rw [hrk]; simpa using ho)
                have hcs : ¬ (y.a < l.a ∨ (y.a = l.a ∧ y.b < l.b)) := fun h => ho (hol.2 h)
                rw [hr]
                clear hrk hr hol ho
                by_cases hlt2 : y.a > l.a
                · have e1 : decide (y.a > l.a) = true := by simpa using hlt2
                  clear hcs hlt2
                  repeat' (first | (with_reducible refine And.intro ?_ ?_) | (with_reducible refine gK_i (fun _ => ?_) (fun _ => ?_)) | (with_reducible refine condS_i (fun _ => ?_) (fun _ => ?_)) | (with_reducible refine drw_i (by kernel_rfl)) | simp -dsimp only [go_sem, seval, *, encT, encK, hkI, hwr, hl, hge, hkz, hw1, hjI, hy, hia, hib, e1, undef] | ((with_reducible refine opK_c ?_); simp -dsimp only [go_sem, seval, encT, encK, hkI, hwr, hl, hge, hkz, hw1, hjI, hy, hia, hib, e1, undef]; first | refine callK_r (by first | assumption | exact hfa | exact hfb) (by first | exact .inl rfl | exact .inr rfl) ?_ | (refine callK_i (by assumption) ?_ ?_ ?_; (solve | (repeat (first | exact DLe.refl _ | exact DLe.nil _ | (refine DLe.tup ?_) | (refine DLe.agg ?_ rfl) | exact trivial | (refine And.intro ?_ ?_)))); (solve | exact .inl rfl | exact .inr rfl))) | fail | omega | exact decide_eq_true (by omega) | exact DLe.refl _)
                  all_goals exact DLe.refl _
                · have e1 : decide (y.a > l.a) = false := by simpa using hlt2
                  have e2 : (y.a == l.a) = true := by simp; omega
                  have e3 : decide (y.b ≥ l.b) = true := by simp; omega
                  clear hcs hlt2
                  repeat' (first | (with_reducible refine And.intro ?_ ?_) | (with_reducible refine gK_i (fun _ => ?_) (fun _ => ?_)) | (with_reducible refine condS_i (fun _ => ?_) (fun _ => ?_)) | (with_reducible refine drw_i (by kernel_rfl)) | simp -dsimp only [go_sem, seval, *, encT, encK, hkI, hwr, hl, hge, hkz, hw1, hjI, hy, hia, hib, e1, e2, e3, undef] | ((with_reducible refine opK_c ?_); simp -dsimp only [go_sem, seval, encT, encK, hkI, hwr, hl, hge, hkz, hw1, hjI, hy, hia, hib, e1, e2, e3, undef]; first | refine callK_r (by first | assumption | exact hfa | exact hfb) (by first | exact .inl rfl | exact .inr rfl) ?_ | (refine callK_i (by assumption) ?_ ?_ ?_; (solve | (repeat (first | exact DLe.refl _ | exact DLe.nil _ | (refine DLe.tup ?_) | (refine DLe.agg ?_ rfl) | exact trivial | (refine And.intro ?_ ?_)))); (solve | exact .inl rfl | exact .inr rfl))) | fail | omega | exact decide_eq_true (by omega) | exact DLe.refl _)
                  all_goals exact DLe.refl _
      · have hge : decide (l.a ≥ l.b) = true := by simp; omega
        have hr : R = 1 := hbad.out (by rw [hlb]; simp; omega)
        rw [hr]
        clear hr hlb hrk hfa hfb
        replace hab := Lib.hid hab
        repeat' (first | (with_reducible refine And.intro ?_ ?_) | (with_reducible refine gK_i (fun _ => ?_) (fun _ => ?_)) | (with_reducible refine condS_i (fun _ => ?_) (fun _ => ?_)) | (with_reducible refine drw_i (by kernel_rfl)) | simp -dsimp only [go_sem, seval, *, encT, encK, hkI, hl, hge, undef] | ((with_reducible refine opK_c ?_); simp -dsimp only [go_sem, seval, encT, encK, hkI, hl, hge, undef]; first | refine callK_r (by first | assumption | fail) (by first | exact .inl rfl | exact .inr rfl) ?_ | (refine callK_i (by assumption) ?_ ?_ ?_; (solve | (repeat (first | exact DLe.refl _ | exact DLe.nil _ | (refine DLe.tup ?_) | (refine DLe.agg ?_ rfl) | exact trivial | (refine And.intro ?_ ?_)))); (solve | exact .inl rfl | exact .inr rfl))) | fail | omega | exact decide_eq_true (by omega) | exact DLe.refl _)
        all_goals exact DLe.refl _
    · intro hJ C
      rw [List.take_length] at hJ
      have hids : ∀ l ∈ n.links, l.a ∈ n.vpcs.map (·.id) ∧ l.b ∈ n.vpcs.map (·.id) ∧ l.a < l.b := fun l hl => by
        have := hJ.1 l hl
        unfold lnkB at this
        simp only [Bool.and_eq_true, decide_eq_true_eq] at this
        exact ⟨find_ids this.1, find_ids this.2.1, this.2.2⟩
      replace hJ := Lib.hid hJ
      replace hids := Lib.hid hids
      repeat' (first | (with_reducible refine And.intro ?_ ?_) | (with_reducible refine gK_i (fun _ => ?_) (fun _ => ?_)) | (with_reducible refine condS_i (fun _ => ?_) (fun _ => ?_)) | (with_reducible refine drw_i (by kernel_rfl)) | simp -dsimp only [go_sem, seval, *, encT, Int.lt_irrefl, undef] | ((with_reducible refine opK_c ?_); simp -dsimp only [go_sem, seval, encT, Int.lt_irrefl, undef]; first | refine callK_r (by first | assumption | fail) (by first | exact .inl rfl | exact .inr rfl) ?_ | (refine callK_i (by assumption) ?_ ?_ ?_; (solve | (repeat (first | exact DLe.refl _ | exact DLe.nil _ | (refine DLe.tup ?_) | (refine DLe.agg ?_ rfl) | exact trivial | (refine And.intro ?_ ?_)))); (solve | exact .inl rfl | exact .inr rfl))) | fail | omega | exact decide_eq_true (by omega) | exact DLe.refl _)
      refine loopL tab_ok mixed n.vpcs (fun k => ∀ v ∈ n.vpcs.take k, ∀ w ∈ n.vpcs, w.id ≠ v.id → foeN n v w = false) (fun k => [(6, .d (.v (.int .i64 k))), (2, .d (.v (.int .i64 0))), (1, .ptr 0 0)]) (fun _ => [.box 25 ((encT n).map .d)]) (by simp) (weak_forget _ (by simp) (by (try simp only [encT]); rfl) (by (repeat' (first | exact trivial | (refine ⟨rfl, ?_⟩)))) (by first | rfl | simp only [belowH, belowE, belowC, belowL, belowR, belowP, belowL_d, belowR_d, List.length_cons, List.length_nil, Nat.reduceAdd, Nat.reduceLT, decide_true, Bool.and_self, Bool.and_true]) (by first | rfl | simp only [belowH, belowE, belowC, belowL, belowR, belowP, belowL_d, belowR_d, List.length_cons, List.length_nil, Nat.reduceAdd, Nat.reduceLT, decide_true, Bool.and_self, Bool.and_true])) ?_ ?_
      · intro k v hv hk hK C hC
        have hkI : (k : Int) < (n.vpcs.length : Int) := by omega
        have hwr : IntKind.i64.wrap ((k : Int) + 1) = ((k + 1 : Nat) : Int) := by rw [IntKind.wrap_i64]; omega
        have hgp := groupR_p n v.id k (vpcIx_at hso.out hv) (by omega) (by omega) hso.out hids.out
        have hgl := grp_len n v.id
        have hst : (∀ w ∈ n.vpcs, w.id ≠ v.id → foeN n v w = false) → ∀ v ∈ n.vpcs.take (k + 1), ∀ w ∈ n.vpcs, w.id ≠ v.id → foeN n v w = false := fun h u hu => by
          rw [take_snoc hv] at hu
          rcases List.mem_append.1 hu with hu | hu
          · exact hK u hu
          · rw [List.mem_singleton.1 hu]; exact h
        have hgm : ∀ w ∈ n.vpcs, headN n w.id = headN n v.id → w.id ∈ grpN n v.id := fun w hw h => grp_mem hw h
        have hga : ∀ (k : Nat) (x : Int), (grpN n v.id)[k]? = some x → ∃ j w, n.vpcs[j]? = some w ∧ w.id = x ∧ vpcIx n x = some j ∧ headN n x = headN n v.id := fun k x h => grp_at hso.out h
        replace hK := Lib.hid hK
        replace hst := Lib.hid hst
        replace hgm := Lib.hid hgm
        replace hga := Lib.hid hga
        generalize grpN n v.id = G at *
        repeat' (first | (with_reducible refine And.intro ?_ ?_) | (with_reducible refine gK_i (fun _ => ?_) (fun _ => ?_)) | (with_reducible refine condS_i (fun _ => ?_) (fun _ => ?_)) | (with_reducible refine drw_i (by kernel_rfl)) | simp -dsimp only [go_sem, seval, *, encT, encV, hkI, hv, undef] | ((with_reducible refine opK_c ?_); simp -dsimp only [go_sem, seval, encT, encV, hkI, hv, undef]; first | refine callK_r (by first | assumption | exact hgp) (by first | exact .inl rfl | exact .inr rfl) ?_ | (refine callK_i (by assumption) ?_ ?_ ?_; (solve | (repeat (first | exact DLe.refl _ | exact DLe.nil _ | (refine DLe.tup ?_) | (refine DLe.agg ?_ rfl) | exact trivial | (refine And.intro ?_ ?_)))); (solve | exact .inl rfl | exact .inr rfl))) | fail | omega | exact decide_eq_true (by omega) | exact DLe.refl _)
        refine loopL tab_ok mixed G (fun j => ∀ w ∈ n.vpcs, w.id ∈ G.take j → w.id ≠ v.id → foeN n v w = false) (fun j => [(8, .d (.v (.int .i64 j))), (7, .d (.sl 1 (G.map encA))), (6, .d (.v (.int .i64 k))), (2, .d (.v (.int .i64 0))), (1, .ptr 0 0)]) (fun _ => [.box 25 ((encT n).map .d)]) (by simp) (weak_forget _ (by simp) (by (try simp only [encT]); rfl) (by (repeat' (first | exact trivial | (refine ⟨rfl, ?_⟩)))) (by first | rfl | simp only [belowH, belowE, belowC, belowL, belowR, belowP, belowL_d, belowR_d, List.length_cons, List.length_nil, Nat.reduceAdd, Nat.reduceLT, decide_true, Bool.and_self, Bool.and_true]) (by first | rfl | simp only [belowH, belowE, belowC, belowL, belowR, belowP, belowL_d, belowR_d, List.length_cons, List.length_nil, Nat.reduceAdd, Nat.reduceLT, decide_true, Bool.and_self, Bool.and_true])) ?_ ?_
        · intro j x hx hj hL C2 hC2
          have hjI : (j : Int) < (G.length : Int) := by omega
          have hwj : IntKind.i64.wrap ((j : Int) + 1) = ((j + 1 : Nat) : Int) := by rw [IntKind.wrap_i64]; omega
          obtain ⟨q, w, hw, hwx, hqx, hhx⟩ := hga.out j x hx
          have hL2 : (x ≠ v.id → foeN n v w = false) → ∀ w ∈ n.vpcs, w.id ∈ G.take (j + 1) → w.id ≠ v.id → foeN n v w = false := fun h u hu hug hne => by
            rw [take_snoc hx] at hug
            rcases List.mem_append.1 hug with hug | hug
            · exact hL u hu hug hne
            · have e1 : u.id = x := List.mem_singleton.1 hug
              obtain ⟨p, hp⟩ := List.mem_iff_getElem?.1 hu
              have e2 := vpcIx_at hso.out hp
              rw [e1, hqx] at e2
              cases e2
              rw [hw] at hp
              cases hp
              exact h (by rw [← e1]; exact hne)
          by_cases hxv : x = v.id
          · have e1 : (x != v.id) = false := by simpa using hxv
            have hn := hL2 fun h => absurd hxv h
            clear hL2 hL
            replace hn := Lib.hid hn
            replace hxv := Lib.hid hxv
            replace hwx := Lib.hid hwx
            repeat' (first | (with_reducible refine And.intro ?_ ?_) | (with_reducible refine gK_i (fun _ => ?_) (fun _ => ?_)) | (with_reducible refine condS_i (fun _ => ?_) (fun _ => ?_)) | (with_reducible refine drw_i (by kernel_rfl)) | simp -dsimp only [go_sem, seval, *, encT, encV, encA, hkI, hjI, hwj, hv, hx, e1, undef] | ((with_reducible refine opK_c ?_); simp -dsimp only [go_sem, seval, encT, encV, encA, hkI, hjI, hwj, hv, hx, e1, undef]; first | refine callK_r (by first | assumption | fail) (by first | exact .inl rfl | exact .inr rfl) ?_ | (refine callK_i (by assumption) ?_ ?_ ?_; (solve | (repeat (first | exact DLe.refl _ | exact DLe.nil _ | (refine DLe.tup ?_) | (refine DLe.agg ?_ rfl) | exact trivial | (refine And.intro ?_ ?_)))); (solve | exact .inl rfl | exact .inr rfl))) | fail | omega | exact decide_eq_true (by omega) | exact DLe.refl _)
            exact hC2 _ _ hn.out (weak_forget _ (by simp) (by (try simp only [encT]); rfl) (by (repeat' (first | exact trivial | (refine ⟨rfl, ?_⟩)))) (by first | rfl | simp only [belowH, belowE, belowC, belowL, belowR, belowP, belowL_d, belowR_d, List.length_cons, List.length_nil, Nat.reduceAdd, Nat.reduceLT, decide_true, Bool.and_self, Bool.and_true]) (by first | rfl | simp only [belowH, belowE, belowC, belowL, belowR, belowP, belowL_d, belowR_d, List.length_cons, List.length_nil, Nat.reduceAdd, Nat.reduceLT, decide_true, Bool.and_self, Bool.and_true]))
          · have e1 : (x != v.id) = true := by simpa using hxv
            have hat := vpcAt_p n x (by omega)
            rw [vpcAt_ix, hqx] at hat
            simp only at hat
            have hrv := (vpcOK_of (hI.out.1 v (List.mem_of_getElem? hv))).n4
            have hrw := (vpcOK_of (hI.out.1 w (List.mem_of_getElem? hw))).n4
            have hcl := clashR_p v w (by omega) (by omega)
            have hq0 : (0 : Int) ≤ (q : Int) := by omega
            have hql : (q : Int) < (n.vpcs.length : Int) := by have := (List.getElem?_eq_some_iff.1 hw).1; omega
            have hfe : foeN n v w = clashV v w := by unfold foeN; rw [hwx, hhx]; simp
            have hkq : k ≠ q := fun e => by subst e; rw [hv] at hw; cases hw; exact hxv hwx.symm
            clear hrv hrw
            replace hwx := Lib.hid hwx
            replace hkq := Lib.hid hkq
            replace hqx := Lib.hid hqx
            replace hhx := Lib.hid hhx
            replace hL := Lib.hid hL
            cases b : clashV v w with
            | true =>
              have hr : R = 1 := by
                rw [hR.out]
                exact chkT_one hno (.inr (.inr (.inr (peace_war hkq.out hv hw (by rw [hfe]; exact b)))))
              rw [b] at hcl
              rw [hr]
              clear hr hL2 hfe b
              replace hxv := Lib.hid hxv
              repeat' (first | (with_reducible refine And.intro ?_ ?_) | (with_reducible refine gK_i (fun _ => ?_) (fun _ => ?_)) | (with_reducible refine condS_i (fun _ => ?_) (fun _ => ?_)) | (with_reducible refine drw_i (by kernel_rfl)) | simp -dsimp only [go_sem, seval, *, encT, encV, encA, hkI, hjI, hwj, hv, hx, hw, e1, hq0, hql, undef] | ((with_reducible refine opK_c ?_); simp -dsimp only [go_sem, seval, encT, encV, encA, hkI, hjI, hwj, hv, hx, hw, e1, hq0, hql, undef]; first | refine callK_r (by first | assumption | exact hat | exact hcl) (by first | exact .inl rfl | exact .inr rfl) ?_ | (refine callK_i (by assumption) ?_ ?_ ?_; (solve | (repeat (first | exact DLe.refl _ | exact DLe.nil _ | (refine DLe.tup ?_) | (refine DLe.agg ?_ rfl) | exact trivial | (refine And.intro ?_ ?_)))); (solve | exact .inl rfl | exact .inr rfl))) | fail | omega | exact decide_eq_true (by omega) | exact DLe.refl _)
              all_goals exact DLe.refl _
            | false =>
              have hn := hL2 fun _ => by rw [hfe]; exact b
              rw [b] at hcl
              clear hL2 hfe b
              replace hn := Lib.hid hn
              replace hxv := Lib.hid hxv
              repeat' (first | (with_reducible refine And.intro ?_ ?_) | (with_reducible refine gK_i (fun _ => ?_) (fun _ => ?_)) | (with_reducible refine condS_i (fun _ => ?_) (fun _ => ?_)) | (with_reducible refine drw_i (by kernel_rfl)) | simp -dsimp only [go_sem, seval, *, encT, encV, encA, hkI, hjI, hwj, hv, hx, hw, e1, hq0, hql, undef] | ((with_reducible refine opK_c ?_); simp -dsimp only [go_sem, seval, encT, encV, encA, hkI, hjI, hwj, hv, hx, hw, e1, hq0, hql, undef]; first | refine callK_r (by first | assumption | exact hat | exact hcl) (by first | exact .inl rfl | exact .inr rfl) ?_ | (refine callK_i (by assumption) ?_ ?_ ?_; (solve | (repeat (first | exact DLe.refl _ | exact DLe.nil _ | (refine DLe.tup ?_) | (refine DLe.agg ?_ rfl) | exact trivial | (refine And.intro ?_ ?_)))); (solve | exact .inl rfl | exact .inr rfl))) | fail | omega | exact decide_eq_true (by omega) | exact DLe.refl _)
              exact hC2 _ _ hn.out (weak_forget _ (by simp) (by (try simp only [encT]); rfl) (by (repeat' (first | exact trivial | (refine ⟨rfl, ?_⟩)))) (by first | rfl | simp only [belowH, belowE, belowC, belowL, belowR, belowP, belowL_d, belowR_d, List.length_cons, List.length_nil, Nat.reduceAdd, Nat.reduceLT, decide_true, Bool.and_self, Bool.and_true]) (by first | rfl | simp only [belowH, belowE, belowC, belowL, belowR, belowP, belowL_d, belowR_d, List.length_cons, List.length_nil, Nat.reduceAdd, Nat.reduceLT, decide_true, Bool.and_self, Bool.and_true]))
        · intro hL C2
          rw [List.take_length] at hL
          have hn := hst.out fun w hw hne => by
            by_cases hh : headN n w.id = headN n v.id
            · exact hL w hw (hgm.out w hw hh) hne
            · unfold foeN
              have : (headN n v.id == headN n w.id) = false := by simpa using fun e => hh e.symm
              rw [this]; rfl
          replace hL := Lib.hid hL
          replace hn := Lib.hid hn
          repeat' (first | (with_reducible refine And.intro ?_ ?_) | (with_reducible refine gK_i (fun _ => ?_) (fun _ => ?_)) | (with_reducible refine condS_i (fun _ => ?_) (fun _ => ?_)) | (with_reducible refine drw_i (by kernel_rfl)) | simp -dsimp only [go_sem, seval, *, encT, hwr, Int.lt_irrefl, undef] | ((with_reducible refine opK_c ?_); simp -dsimp only [go_sem, seval, encT, hwr, Int.lt_irrefl, undef]; first | refine callK_r (by first | assumption | fail) (by first | exact .inl rfl | exact .inr rfl) ?_ | (refine callK_i (by assumption) ?_ ?_ ?_; (solve | (repeat (first | exact DLe.refl _ | exact DLe.nil _ | (refine DLe.tup ?_) | (refine DLe.agg ?_ rfl) | exact trivial | (refine And.intro ?_ ?_)))); (solve | exact .inl rfl | exact .inr rfl))) | fail | omega | exact decide_eq_true (by omega) | exact DLe.refl _)
          exact hC _ _ hn.out (weak_forget _ (by simp) (by (try simp only [encT]); rfl) (by (repeat' (first | exact trivial | (refine ⟨rfl, ?_⟩)))) (by first | rfl | simp only [belowH, belowE, belowC, belowL, belowR, belowP, belowL_d, belowR_d, List.length_cons, List.length_nil, Nat.reduceAdd, Nat.reduceLT, decide_true, Bool.and_self, Bool.and_true]) (by first | rfl | simp only [belowH, belowE, belowC, belowL, belowR, belowP, belowL_d, belowR_d, List.length_cons, List.length_nil, Nat.reduceAdd, Nat.reduceLT, decide_true, Bool.and_self, Bool.and_true]))
      · intro hK C
        rw [List.take_length] at hK
        have hr : R = 0 := by
          rw [hR.out]
          refine chkT_zero hno hvB.out (by rw [List.all_eq_true]; exact hJ.out.1) hJ.out.2 (peace_good fun i v w hv hw => ?_)
          exact hK v (List.mem_of_getElem? hv) w (List.mem_of_mem_take hw) (rise_ne hso.out hv hw)
        rw [hr]
        replace hr := Lib.hid hr
        replace hK := Lib.hid hK
        repeat' (first | (with_reducible refine And.intro ?_ ?_) | (with_reducible refine gK_i (fun _ => ?_) (fun _ => ?_)) | (with_reducible refine condS_i (fun _ => ?_) (fun _ => ?_)) | (with_reducible refine drw_i (by kernel_rfl)) | simp -dsimp only [go_sem, seval, *, encT, Int.lt_irrefl, undef] | ((with_reducible refine opK_c ?_); simp -dsimp only [go_sem, seval, encT, Int.lt_irrefl, undef]; first | refine callK_r (by first | assumption | fail) (by first | exact .inl rfl | exact .inr rfl) ?_ | (refine callK_i (by assumption) ?_ ?_ ?_; (solve | (repeat (first | exact DLe.refl _ | exact DLe.nil _ | (refine DLe.tup ?_) | (refine DLe.agg ?_ rfl) | exact trivial | (refine And.intro ?_ ?_)))); (solve | exact .inl rfl | exact .inr rfl))) | fail | omega | exact decide_eq_true (by omega) | exact DLe.refl _)
        all_goals exact DLe.refl _
end Go.Proofs.YtgmbhaclogabeaaGreat
namespace Go.Proofs.YtgmbhaclogabeaaGreat
open Go Go.RowKit Go.Proofs Go.Shelf
set_option maxRecDepth 100000
theorem cl_Vpc (x y : SRow HP0 3) (W : World) : Calls Tryz.prog 27 #[.agg x.xs.toArray, .agg y.xs.toArray] W fun e w' => e = .returned (.int .i64 (cfS x y)) ∧ ∃ q os', w' = Sort.grow (W.drewN q) os' := by
  obtain ⟨xs, xl, x1, a, xh⟩ := x
  obtain ⟨ys, yl, y1, b, yh⟩ := y
  match xs, xl, ys, yl with
  | [u0, u1, u2], _, [v0, v1, v2], _ =>
    simp [HP0] at xh yh
    subst xh
    subst yh
    have hc := compare_any a b
    unfold cfS
    simp only
    generalize cmpI a b = r at *
    replace hc := Lib.hid hc
    clear x1 y1
    go_enter Tryz.func27, Tryz.ntmps27
    go_wp2_with fail
    refine (hc.out _).mono ?_
    rintro e w1 ⟨rfl, rfl⟩
    go_wp2_with fail
    go_ret
    exact ⟨ret_int rfl, 0, _, by rw [Sort.alloc_eq_grow, Sort.alloc_eq_grow, Sort.grow_grow]; rfl⟩
theorem sort_Vpc {l l' : List Vpc} (g : Nat) (hl0 : l ≠ []) (hp : l'.Perm l) (hs : l'.Pairwise fun x y => (fun v : Vpc => v.id) x < (fun v : Vpc => v.id) y) (hsz : l.length ≤ 1000000) :
    MSpec Tryz.prog 26 [.own 0 g, .d (.clo 27 [])] [.row 56 3 g (dRows (l.map encV))] (.d (.tup [])) [.row 56 3 g (dRows (l'.map encV))] :=
  sort_ms Tryz.sortVpc rfl (fnok_of Tryz.func26 (by kernel_rfl) rfl) Tryz.isAgg56 Tryz.sizeOf56 (enters_of Tryz.func27 (by kernel_rfl) rfl) cl_Vpc encV (fun v : Vpc => v.id) (fun _ => rfl) hl0 hp hs hsz
end Go.Proofs.YtgmbhaclogabeaaGreat
namespace Go.Proofs.YtgmbhaclogabeaaGreat
open Go Go.RowKit
structure GwB where
  n : Nat
  os : Array Obj
def EG (w w' : World) : Prop := ∃ p : GwB, w' = Sort.grow (w.drewN p.n) p.os
theorem EG.refl (w : World) : EG w w := ⟨⟨0, #[]⟩, by rw [Sort.grow_empty]; rfl⟩
theorem EG.trans {w w' w'' : World} (h : EG w w') (g : EG w' w'') : EG w w'' := by
  obtain ⟨⟨n, os⟩, rfl⟩ := h
  obtain ⟨⟨m, os'⟩, rfl⟩ := g
  exact ⟨⟨n + m, os ++ os'⟩, by show Sort.grow (Sort.grow ((w.drewN n).drewN m) os) os' = _; rw [Sort.grow_grow, World.drewN_drewN]⟩
theorem EG.drew (w : World) : EG w w.drew := ⟨⟨1, #[]⟩, by rw [Sort.grow_empty]; rfl⟩
theorem EG.alloc (w : World) (o : Obj) : EG w (w.alloc o) := ⟨⟨0, #[o]⟩, Sort.alloc_eq_grow w o⟩
theorem EG.ext {w w' : World} (h : EG w w') : Ext w w' := by
  obtain ⟨⟨n, os⟩, rfl⟩ := h
  exact ⟨rfl, rfl, rfl, by simp [Sort.grow], fun k hk => by simp [Sort.grow, Array.getElem?_append, hk]⟩
def qPostG (W : World) (R : Value → Prop) (e : Ending) (w' : World) : Prop := (∃ u, e = .returned u ∧ R u) ∧ EG W w'
def qUpG (P : Program) (W w : World) (R : Value → Prop) : Result Next → Prop
  | .ok (.value u) w' => w' = w ∧ R u
  | .ok .skip w' => w' = w ∧ R undef
  | .ok (.enter f args) w' => w' = w ∧ Calls P f args w (qPostG W R)
  | _ => False
attribute [go_sem] qUpG
section
variable {P : Program} {W : World}
theorem qUp_quietG {w : World} {v : Value} {r : Result Next} (h : ∀ R : Value → Prop, R v → qUpG P W w R r) : Oper.quietUpon P (EG W) w v r := by
  have h1 := h (· = v) rfl
  unfold qUpG at h1
  unfold Oper.quietUpon
  split at h1
  · exact h1
  · exact ⟨h1.1, h1.2.symm⟩
  · refine ⟨h1.1, h1.2.mono ?_⟩
    rintro e w' ⟨⟨u, rfl, rfl⟩, hw⟩
    exact ⟨rfl, hw⟩
  · exact h1.elim
end
section
variable {P : Program} {ops : Array Oper} {Q : Exit → Act → World → Prop}
/-- Whatever order is picked, from every world that extends W. -/
def GOG (P : Program) (ops : Array Oper) (Q : Exit → Act → World → Prop) : Nat → Array Bool → Act → World → Prop
  | 0, listed, a, W => Region.ready .any ops listed = [] ∧ ∀ w, EG W w → Q .normal a w
  | fuel + 1, listed, a, W => ∀ w, EG W w → (Region.ready .any ops listed = [] → Q .normal a w) ∧
      ∀ i ∈ Region.ready .any ops listed, wpOp P ops Q i (fun a' w' => EG w w' ∧ GOG P ops Q fuel (listed.setIfInBounds i true) a' w') a w
theorem GOG.world : ∀ {fuel : Nat} {listed : Array Bool} {a : Act} {W W' : World}, EG W W' → GOG P ops Q fuel listed a W → GOG P ops Q fuel listed a W'
  | 0, _, _, _, _, hx, h => ⟨h.1, fun w hw => h.2 w (EG.trans hx hw)⟩
  | _ + 1, _, _, _, _, hx, h => fun w hw => h w (EG.trans hx hw)
theorem GOG.any : ∀ {fuel : Nat} {listed : Array Bool} {a : Act} {W : World}, GOG P ops Q fuel listed a W → wpAny P .any ops Q fuel listed a W
  | 0, _, _, _, h => ⟨h.1, h.2 _ (EG.refl _)⟩
  | _ + 1, _, _, W, h => ⟨(h W (EG.refl _)).1, fun i hi => wpOp_mono (fun _ _ h' => GOG.any h'.2) ((h W (EG.refl _)).2 i hi)⟩
/-- In every world that extends W operation o yields v, and at most extends it. -/
def QYG (P : Program) (ops : Array Oper) (W : World) (o : Oper) (v : Value) (a : Act) : Prop :=
  (Region.wanted o (yielded ops a.tmps) = true ∧ ∀ w, EG W w → o.quietAt P a (EG w) w v) ∨
  (Region.wanted o (yielded ops a.tmps) = false ∧ v = undef)
theorem QYG.world {W W' : World} {o : Oper} {v : Value} {a : Act} (hx : EG W W') (h : QYG P ops W o v a) : QYG P ops W' o v a :=
  h.imp (fun ⟨h1, h2⟩ => ⟨h1, fun w hw => h2 w (EG.trans hx hw)⟩) id
theorem QYG.of_same {W : World} {o : Oper} {v : Value} {a a' : Act} (hy : QYG P ops W o v a) (he : execOp a'.eval o = execOp a.eval o)
    (hw : Region.wanted o (yielded ops a'.tmps) = Region.wanted o (yielded ops a.tmps)) : QYG P ops W o v a' := by
  unfold QYG Oper.quietAt at *
  rw [he, hw]
  exact hy
theorem QYG.wpOp {W : World} {i : Nat} {o : Oper} {v : Value} {a : Act} (hi : ops[i]? = some o) (hy : QYG P ops W o v a) {K : Act → World → Prop} {w : World} (hw : EG W w) (h : ∀ w', EG w w' → K (a.put o.dst v) w') : wpOp P ops Q i K a w := by
  unfold Go.wpOp
  simp only [hi]
  rcases hy with ⟨hwa, hv⟩ | ⟨hwa, rfl⟩
  · simp only [hwa, if_true]
    left
    exact Oper.wp_of_quiet (C := EG w) (K := fun a' => a' = a.put o.dst v) (EG.refl _) (fun a' w' hw' ha => ha ▸ h w' hw') ⟨v, fun w'' hw'' => by
      have := hv w'' (EG.trans hw hw'')
      unfold Oper.quietAt at *
      generalize (execOp a.eval o).run P w'' = r at *
      cases r with
      | ok n u => cases n <;> simp only [Oper.quietUpon] at this ⊢ <;> first | exact this | exact ⟨this.1, this.2.mono fun _ _ ⟨e1, e2⟩ => ⟨e1, EG.trans hw'' e2⟩⟩
      | halt x u => simp only [Oper.quietUpon] at this, rfl⟩
  · simp only [hwa, Bool.false_eq_true, if_false]
    exact h w (EG.refl _)
theorem wpOp_putQG {W : World} {j : Nat} {oi oj : Oper} {v : Value} (hj : ops[j]? = some oj) (hap : oi.apart ops oj = true)
    (hsi : ∀ cs b, oi.op ≠ .select cs b) (hsj : ∀ cs b, oj.op ≠ .select cs b)
    (hQ : ∀ c a w, Q (.panic c) (a.put oi.dst v) w → Q (.panic c) a w) {K : Act → World → Prop} {a : Act} {w : World}
    (hy : QYG P ops W oi v a) (h : wpOp P ops Q j K (a.put oi.dst v) w) :
    wpOp P ops Q j (fun a' w' => QYG P ops W oi v a' ∧ K (a'.put oi.dst v) w') a w := by
  obtain ⟨h1, h2, h3⟩ := Oper.apart_spec hap
  have keep : ∀ (a : Act), QYG P ops W oi v a → ∀ u, QYG P ops W oi v (a.put oj.dst u) := fun a hy u =>
    hy.of_same (execOp_put oi hsi a oj.dst u h3) (wanted_put oi a oj.dst u h3)
  have keepD : ∀ d, QYG P ops W oi v { a with defers := d :: a.defers } := fun d => hy.of_same rfl rfl
  unfold wpOp at *
  simp only [hj] at *
  rw [wanted_put oj a oi.dst v h1] at h
  split
  · rename_i hw
    simp only [hw, if_true] at h
    rcases h with h | ⟨hasks, hlets⟩
    case inr => exact .inr ⟨by unfold Oper.asks at *; rw [execOp_put oj hsj a oi.dst v h1] at hasks; exact hasks, hlets⟩
    refine .inl ?_
    unfold Oper.wp at *
    rw [execOp_put oj hsj a oi.dst v h1] at h
    generalize (execOp a.eval oj).run P w = r at *
    cases r with
    | ok n w' =>
      cases n <;> simp only [Oper.upon] at h ⊢
      case value u => exact ⟨keep a hy u, by rw [← Act.put_comm a v u h2]; exact h⟩
      case skip => exact ⟨keep a hy _, by rw [← Act.put_comm a v undef h2]; exact h⟩
      case defer d =>
        refine ⟨keep _ (keepD d) _, ?_⟩
        rw [← Act.put_comm _ v undef h2, ← Act.put_defers]
        exact h
      case enter f args =>
        refine Calls.mono h fun e w'' he => ?_
        cases e with
        | returned u => exact ⟨keep a hy u, by rw [← Act.put_comm a v u h2]; exact he⟩
        | panicked c => exact hQ _ _ _ he
        | outgrown => exact he
      case row row args => exact Rows.mono h fun u w'' he => ⟨keep a hy u, by rw [← Act.put_comm a v u h2]; exact he⟩
    | halt x w' =>
      cases x <;> simp only [Oper.upon] at h ⊢
      case panic u => exact hQ _ _ _ h
  · rename_i hw
    simp only [hw] at h
    exact ⟨keep a hy _, by rw [← Act.put_comm a v undef h2]; exact h⟩
theorem GO_firstG {i : Nat} {oi : Oper} {v : Value} (hi : ops[i]? = some oi) (hsel : ∀ (j : Nat) (o : Oper) cs b, ops[j]? = some o → o.op ≠ .select cs b)
    (hQ : ∀ c a w, Q (.panic c) (a.put oi.dst v) w → Q (.panic c) a w) :
    ∀ (fuel : Nat) (listed : Array Bool) (a : Act) (W : World),
      (∀ j oj, ops[j]? = some oj → j ≠ i → listed.getD j true = false → (∀ e ∈ oj.after, Region.binds .any e = true → e.on ≠ i) → oi.apart ops oj = true) →
      i ∈ Region.ready .any ops listed → QYG P ops W oi v a →
      GOG P ops Q fuel (listed.setIfInBounds i true) (a.put oi.dst v) W → GOG P ops Q (fuel + 1) listed a W := by
  intro fuel
  induction fuel with
  | zero =>
    intro listed a W _ hr hy H w hw
    refine ⟨fun h => (by rw [h] at hr; cases hr), fun j hj => ?_⟩
    by_cases hji : j = i
    · subst hji; exact hy.wpOp hi hw fun w' hw' => ⟨hw', H.world (EG.trans hw hw')⟩
    · have := ready_mono hj hji
      rw [H.1] at this
      cases this
  | succ fuel ih =>
    intro listed a W hfree hr hy H w hw
    refine ⟨fun h => (by rw [h] at hr; cases hr), fun j hj => ?_⟩
    by_cases hji : j = i
    · subst hji; exact hy.wpOp hi hw fun w' hw' => ⟨hw', H.world (EG.trans hw hw')⟩
    · have h1 := (H w hw).2 j (ready_mono hj hji)
      obtain ⟨hjun, oj, hoj, hall⟩ := mem_ready.1 hj
      have hnot : ∀ e ∈ oj.after, Region.binds .any e = true → e.on ≠ i := fun e he hb heq => by
        have h1 := hall e he hb
        have h0 := (mem_ready.1 hr).1
        rw [heq] at h1
        rcases Nat.lt_or_ge i listed.size with h' | h'
        · simp [h'] at h0 h1; rw [h0] at h1; cases h1
        · simp [Array.getElem?_eq_none h'] at h1
      have h2 := wpOp_putQG hoj (hfree j oj hoj hji hjun hnot) (fun cs b => hsel i oi cs b hi) (fun cs b => hsel j oj cs b hoj) hQ (hy.world hw) h1
      have hfree' : ∀ k ok, ops[k]? = some ok → k ≠ i → (listed.setIfInBounds j true).getD k true = false →
          (∀ e ∈ ok.after, Region.binds .any e = true → e.on ≠ i) → oi.apart ops ok = true := fun k ok hk hki hun hno => by
        refine hfree k ok hk hki ?_ hno
        by_cases hjk : j = k
        · subst hjk; exact hjun
        · rw [getD_set_ne true hjk] at hun; exact hun
      refine wpOp_mono (fun a' w' h3 => ⟨h3.2.1, ih (listed.setIfInBounds j true) a' w' hfree' (ready_mono hr (Ne.symm hji)) (h3.1.world h3.2.1) ?_⟩) h2
      rw [Array.setIfInBounds_comm _ _ hji]
      exact h3.2.2
/-- The walk in the order of the text. -/
def wpMixG (P : Program) (ops : Array Oper) (Q : Exit → Act → World → Prop) : List Oper → Nat → Array Bool → Act → World → Prop
  | [], _, _, a, W => ∀ w, EG W w → Q .normal a w
  | o :: rest, k, listed, a, W =>
    (∃ v, QYG P ops W o v a ∧ wpMixG P ops Q rest (k + 1) (listed.setIfInBounds k true) (a.put o.dst v) W) ∨
    (Region.ready .any ops listed = [k] ∧ Region.wanted o (yielded ops a.tmps) = true ∧ ∀ w, EG W w → o.wp P a w (fun a' w' => EG w w' ∧ wpMixG P ops Q rest (k + 1) (listed.setIfInBounds k true) a' w') Q)
theorem mix_soundG (hs : Region.noSelect ops = true) (hQ : ∀ c a d v w, Q (.panic c) (a.put d v) w → Q (.panic c) a w) : ∀ (l : List Oper) (k : Nat) (listed : Array Bool) (a : Act) (W : World), (∀ j, l[j]? = ops[k + j]?) →
    Region.lexFrom .any ops l.length k listed = true → wpMixG P ops Q l k listed a W → GOG P ops Q l.length listed a W
  | [], _, _, _, _, _, hB, h => ⟨by simpa [Region.lexFrom] using hB, h⟩
  | o :: l, k, listed, a, W, hl, hB, h => by
    have h0 : ops[k]? = some o := by simpa using (hl 0).symm
    simp only [List.length_cons, Region.lexFrom, Bool.and_eq_true] at hB
    obtain ⟨⟨hr, hf⟩, hB'⟩ := hB
    have hl' : ∀ j, l[j]? = ops[k + 1 + j]? := fun j => by have := hl (j + 1); simpa [Nat.add_assoc, Nat.add_comm 1 j] using this
    rcases h with ⟨v, hy, hK⟩ | ⟨hone, hwa, hK⟩
    · exact GO_firstG h0 (Region.noSelect_spec hs) (fun c a w => hQ c a _ _ w) l.length listed a W (Region.free_spec h0 hf) (by simpa using hr) hy (mix_soundG hs hQ l (k + 1) _ _ _ hl' hB' hK)
    · intro w hw
      refine ⟨fun h => by rw [hone] at h; simp at h, fun i hi => ?_⟩
      rw [hone] at hi
      obtain rfl : i = k := by simpa using hi
      unfold wpOp
      simp only [h0, hwa, if_true]
      left
      exact Oper.wp_mono (fun a' w' h' => ⟨h'.1, mix_soundG hs hQ l (i + 1) _ _ _ hl' hB' h'.2⟩) (hK w hw)
theorem region_mixG {id : Nat} {a : Act} {w : World} {l : List Oper} (hm : P.follows .mixedOrders = true) (hB : Region.lexB .any l.toArray = true) (hQ : ∀ c a d v w, Q (.panic c) (a.put d v) w → Q (.panic c) a w)
    (h : wpMixG P l.toArray Q l 0 (Array.replicate l.length false) a w) : (Code.region id l.toArray true).wp P Q a w := by
  simp only [Region.lexB, Bool.and_eq_true] at hB
  refine wp_region_any hm ?_
  have h2 := mix_soundG hB.1 hQ l 0 (Array.replicate l.length false) a w (by simp) (by simpa using hB.2) h
  have h3 := (h2.world (EG.drew w : EG w w.drew)).any
  simpa using h3
section
variable {o : Oper} {rest : List Oper} {k : Nat} {listed : Array Bool} {a : Act} {W : World}
theorem mix_nilG (h : ∀ w, EG W w → Q .normal a w) : wpMixG P ops Q [] k listed a W := h
theorem mix_takeG {v : Value} (hw : Region.wanted o (yielded ops a.tmps) = true) (h : ∀ w, EG W w → ∀ R : Value → Prop, R v → qUpG P w w R ((execOp a.eval o).run P w))
    (hn : wpMixG P ops Q rest (k + 1) (listed.setIfInBounds k true) (a.put o.dst v) W) : wpMixG P ops Q (o :: rest) k listed a W :=
  .inl ⟨v, .inl ⟨hw, fun w hw => qUp_quietG (h w hw)⟩, hn⟩
theorem mix_aloneG (hr : Region.ready .any ops listed = [k]) (hw : Region.wanted o (yielded ops a.tmps) = true)
    (h : ∀ w, EG W w → ∀ K : Act → World → Prop, (∀ a' w', EG w w' → wpMixG P ops Q rest (k + 1) (listed.setIfInBounds k true) a' w' → K a' w') → o.wp P a w K Q) : wpMixG P ops Q (o :: rest) k listed a W :=
  .inr ⟨hr, hw, fun w hw => h w hw _ fun _ _ h1 h2 => ⟨h1, h2⟩⟩
end
theorem mcall_sameG {f : FuncId} {args : Array Value} {w : World} {R : Value → Prop} {v : Value} (h : Calls P f args w fun e w' => e = .returned v ∧ w = w') (hR : R v) : Calls P f args w (qPostG w R) :=
  h.mono fun _ _ ⟨he, hx⟩ => ⟨⟨v, he, hR⟩, hx ▸ EG.refl _⟩
end
end Go.Proofs.YtgmbhaclogabeaaGreat
namespace Go.Proofs.YtgmbhaclogabeaaGreat
open Go Go.RowKit Go.Proofs Go.Shelf
set_option maxRecDepth 100000
/-- A link's key. -/
def lkey (l : Lnk) : Int := l.a * 65537 + l.b
/-- A link's cells, and its key. -/
def HP2 (xs : List Value) (k : Int) : Prop := ∃ a b : Int, xs = [.int .i64 a, .int .i64 b] ∧ k = a * 65537 + b ∧ 1 ≤ b ∧ b ≤ 65536
@[reducible] def srow2_inh : Inhabited (SRow HP2 (1 + 1)) := ⟨⟨[.int .i64 0, .int .i64 1], rfl, fun v hv => by simp at hv; rcases hv with rfl | rfl <;> rfl, 1, 0, 1, rfl, by omega, by omega, by omega⟩⟩
theorem cmpI_two {a b c d : Int} (h1 : 1 ≤ b) (h2 : b ≤ 65536) (h3 : 1 ≤ d) (h4 : d ≤ 65536) : orI [cmpI a c, cmpI b d] = cmpI (a * 65537 + b) (c * 65537 + d) := by
  simp only [orI, cmpI]
  repeat' split
  all_goals omega
/-- cmp.Or of two. -/
theorem or2_any (x y : Int) (b : Nat) (W : World) (hx : W.cell? ⟨b, 0, none⟩ = some (.int .i64 x)) (hy : W.cell? ⟨b, 1, none⟩ = some (.int .i64 y)) :
    Calls Tryz.prog 76 #[.slice (some ⟨b, 0, none⟩) 2 2] W fun e w' => e = .returned (.int .i64 (orI [x, y])) ∧ w' = W := by
  have lb := lt_of_cell hx
  go_enter Tryz.func76, Tryz.ntmps76
  go_wp2_with fail
  go_loopw [5, 8] (fun _ s8 wr => ∃ k : Nat, s8 = .int .i64 k ∧ ((k = 0) ∨ (k = 1 ∧ x = 0) ∨ (k = 2 ∧ x = 0 ∧ y = 0)) ∧ wr = W) (fun _ s8 _ => 2 - (intOf s8).toNat)
  case atStart => exact ⟨0, rfl, .inl rfl, rfl⟩
  case round =>
    obtain ⟨k, rfl, hk, rfl⟩ := hrel
    rcases hk with rfl | ⟨rfl, h0⟩ | ⟨rfl, h0, h1⟩
    · by_cases h0 : x = 0
      · have hb : (x != 0) = false := by simp [h0]
        replace h0 := Lib.hid h0
        go_wp2_with fail
        go_roundw
        case rel => exact ⟨1, by go_num, .inr (.inl ⟨rfl, h0.out⟩), trivial⟩
        case measure => simp [intOf]
      · have hb : (x != 0) = true := by simpa using h0
        replace h0 := Lib.hid h0
        go_wp2_with fail
        go_ret
        exact ⟨ret_int (by simp [orI, h0.out]), rfl⟩
    · by_cases h1 : y = 0
      · have hb : (y != 0) = false := by simp [h1]
        replace h0 := Lib.hid h0
        replace h1 := Lib.hid h1
        go_wp2_with fail
        go_roundw
        case rel => exact ⟨2, by go_num, .inr (.inr ⟨rfl, h0.out, h1.out⟩), trivial⟩
        case measure => simp [intOf]
      · have hb : (y != 0) = true := by simpa using h1
        replace h0 := Lib.hid h0
        replace h1 := Lib.hid h1
        go_wp2_with fail
        go_ret
        exact ⟨ret_int (by simp [orI, h0.out, h1.out]), rfl⟩
    · replace h0 := Lib.hid h0
      replace h1 := Lib.hid h1
      go_wp2_with fail
      go_ret
      exact ⟨ret_int (by simp [orI, h0.out, h1.out]), rfl⟩
set_option maxHeartbeats 1000000 in
theorem cl_Link (x y : SRow HP2 (1 + 1)) (W : World) : Calls Tryz.prog 38 #[.agg x.xs.toArray, .agg y.xs.toArray] W fun e w' => e = .returned (.int .i64 (cfS x y)) ∧ ∃ q os', w' = Sort.grow (W.drewN q) os' := by
  obtain ⟨xs, xl, x1, kx, a, b, rfl, rfl, hb1, hb2⟩ := x
  obtain ⟨ys, yl, y1, ky, c, d, rfl, rfl, hd1, hd2⟩ := y
  unfold cfS
  simp only
  rw [← cmpI_two hb1 hb2 hd1 hd2]
  have h1 : ∀ W, Calls Tryz.prog 28 #[.int .i64 a, .int .i64 c] W fun e w' => e = .returned (.int .i64 (cmpI a c)) ∧ W = w' := fun W => (compare_any a c W).mono fun _ _ ⟨e1, e2⟩ => ⟨e1, e2.symm⟩
  have h2 : ∀ W, Calls Tryz.prog 28 #[.int .i64 b, .int .i64 d] W fun e w' => e = .returned (.int .i64 (cmpI b d)) ∧ W = w' := fun W => (compare_any b d W).mono fun _ _ ⟨e1, e2⟩ => ⟨e1, e2.symm⟩
  generalize cmpI a c = A at *
  generalize cmpI b d = B at *
  clear x1 y1 xl yl hb1 hb2 hd1 hd2
  have key : Calls Tryz.prog 38 #[.agg #[.int .i64 a, .int .i64 b], .agg #[.int .i64 c, .int .i64 d]] W fun e w' => e = .returned (.int .i64 (orI [A, B])) ∧ EG W w' := by
    have hw0 : EG W ((W.alloc (.cells #[.int .i64 a, .int .i64 b] 68)).alloc (.cells #[.int .i64 c, .int .i64 d] 68)) := (EG.alloc W _).trans (EG.alloc _ _)
    go_enter Tryz.func38, Tryz.ntmps38
    go_wp2_with fail
    refine region_mixG (by kernel_rfl) (by kernel_rfl) (fun _ _ d _ _ h => by cases d <;> exact h) ?_
    repeat (apply mix_takeG; (first | exact want_0 rfl | exact want_b rfl rfl rfl (by with_reducible rfl)); intro wq hwq R hR; (have hwq := hwq.ext; (have hcc := (bcell hwq).1; (try simp only [World.size_alloc, World.size_setCell, World.size_drew, World.heap_drewN] at hcc)); go_simp; first | exact hR | (go_at_call 28; with_reducible (first | exact mcall_sameG (h1 _) hR | exact mcall_sameG (h2 _) hR))); simp only [Act.put, List.setIfInBounds_toArray, List.set_cons_zero, List.set_cons_succ])
    refine mix_aloneG (by kernel_rfl) (want_0 rfl) (fun w3 hw3 K2 hK => ?_)
    go_simp
    refine hK _ _ (EG.alloc _ _) ?_
    clear hK K2
    refine mix_aloneG (by kernel_rfl) (want_0 rfl) (fun w4 hw4 K3 hK => ?_)
    have hc0 : w4.cell? ⟨w3.heap.size, 0, none⟩ = some (.int .i64 A) := keepCell hw4.ext (by simp)
    have hc1 : w4.cell? ⟨w3.heap.size, 1, none⟩ = some (.int .i64 B) := keepCell hw4.ext (by simp)
    go_simp
    go_at_call 76
    refine (or2_any A B _ w4 hc0 hc1).mono ?_
    rintro e w5 ⟨rfl, rfl⟩
    go_simp
    refine hK _ _ (EG.refl _) ?_
    clear hK K3
    apply mix_takeG
    · exact want_0 rfl
    · intro wq hwq R hR
      go_simp
      exact hR
    simp only [Act.put, List.setIfInBounds_toArray, List.set_cons_zero, List.set_cons_succ]
    refine mix_nilG ?_
    intro w6 hw6
    trace_state
    go_wp2_with fail
    go_ret
    exact ⟨ret_int rfl, hw0.trans (hw3.trans ((EG.alloc _ _).trans (hw4.trans hw6)))⟩
  refine key.mono fun e w' ⟨he, ⟨⟨q, os⟩, hw⟩⟩ => ⟨he, q, os, hw⟩
theorem sort_Link {l l' : List Lnk} (g : Nat) (hb : ∀ x ∈ l, 1 ≤ x.b ∧ x.b ≤ 65536) (hl0 : l ≠ []) (hp : l'.Perm l) (hs : l'.Pairwise fun x y => lkey x < lkey y) (hsz : l.length ≤ 1000000) :
    MSpec Tryz.prog 42 [.own 0 g, .d (.clo 38 [])] [.row 68 2 g (dRows (l.map encK))] (.d (.tup [])) [.row 68 2 g (dRows (l'.map encK))] :=
  sort_hs srow2_inh Tryz.sortLink rfl (fnok_of Tryz.func42 (by kernel_rfl) rfl) Tryz.isAgg68 Tryz.sizeOf68 (enters_of Tryz.func38 (by kernel_rfl) rfl) cl_Link encK lkey (fun x hx vs hl hr => by
    match vs, hl with
    | [u, v], _ =>
      obtain ⟨M, w, r0⟩ := hr 0 _ u rfl rfl
      obtain ⟨M2, w2, r1⟩ := hr 1 _ v rfl rfl
      cases r0
      cases r1
      exact ⟨x.a, x.b, rfl, rfl, hb x hx⟩) hl0 hp hs hsz
end Go.Proofs.YtgmbhaclogabeaaGreat
namespace Go.Proofs.YtgmbhaclogabeaaGreat
open Go Go.RowKit
def makeErr (n : Net) (id : Int) : Int := if idOK id = false then 3 else if (findN n id).isSome = true then 6 else if n.vpcs.length = 6 then 2 else 0
/-- Make's answer. -/
def makeN (n : Net) (id : Int) : Net × Int :=
  if chkT n ≠ 0 then (Net.zero, chkT n) else if makeErr n id ≠ 0 then (Net.zero, makeErr n id) else ({ n with vpcs := insK (·.id) ⟨id, [], []⟩ n.vpcs }, 0)
theorem findN_none {n : Net} {id : Int} (h : findN n id = none) : ∀ v ∈ n.vpcs, v.id ≠ id := fun v hv => by
  have := List.find?_eq_none.1 h v hv
  simpa using this
set_option maxRecDepth 100000 in
set_option maxHeartbeats 1000000 in
theorem nmake_p (n : Net) (id : Int) : PSpec Tryz.prog 7 [.agg (encT n), .v (.int .i64 id)] (.tup [.agg (encT (makeN n id).1), .v (.int .i64 (makeN n id).2)]) := by
  obtain ⟨R, hR⟩ : ∃ R, R = makeN n id := ⟨_, rfl⟩
  rw [← hR]
  replace hR := Lib.hid hR
  by_cases hc : chkT n = 0
  · have hok := netOK.1 hc
    have hbg := nbegin_m n hc
    have hl6 : ((n.vpcs.length : Int) == 6) = decide (n.vpcs.length = 6) := by rw [Bool.eq_iff_iff]; simp; omega
    cases hx : vpcIx n id with
    | some i =>
      obtain ⟨v, hv, he, hi, hfs⟩ := vpcIx_some hx
      have hfd := nfind_m n id n.vpcs.length 1 i v hv he hok.n6 hok.rise
      have hr : R = (Net.zero, if idOK id = false then 3 else 6) := by
        rw [hR.out]; unfold makeN makeErr; rw [if_neg (by simpa using hc), hfs]
        cases idOK id <;> simp
      rw [hr]
      have hid : idOK id = (decide (1 ≤ id) && decide (id ≤ 65536)) := rfl
      rw [hid]
      clear hr hR hok hx hc hfs hv he hid
      refine ps_i tab_ok mixed Tryz.func7 rfl Tryz.ntmps7 Tryz.results7 (by kernel_rfl) ?_
      repeat' (first | (with_reducible refine And.intro ?_ ?_) | (with_reducible refine gK_i (fun _ => ?_) (fun _ => ?_)) | (with_reducible refine condS_i (fun _ => ?_) (fun _ => ?_)) | (with_reducible refine drw_i (by kernel_rfl)) | simp -dsimp only [go_sem, seval, *, encT, undef] | ((with_reducible refine opK_c ?_); simp -dsimp only [go_sem, seval, encT, undef]; first | refine callK_r (by first | assumption | fail) (by first | exact .inl rfl | exact .inr rfl) ?_ | (refine callK_i (by assumption) ?_ ?_ ?_; (solve | (repeat (first | exact DLe.refl _ | exact DLe.nil _ | (refine DLe.tup ?_) | (refine DLe.agg ?_ rfl) | exact trivial | (refine And.intro ?_ ?_)))); (solve | exact .inl rfl | exact .inr rfl))) | (refine opK_M [] (hbg) ?_ ?_ ?_ ?_ ?_ ?_; (solve | rfl | simp only [go_sem, seval, encT]); (solve | rfl); (solve | decide); (solve | simp); (solve | simp only [go_sem, seval, lentOK, encT])) | (refine opK_M [4, 5, 3] (hfd) ?_ ?_ ?_ ?_ ?_ ?_; (solve | rfl | simp only [go_sem, seval, encT]); (solve | rfl); (solve | decide); (solve | simp); (solve | simp only [go_sem, seval, lentOK, encT])) | omega | exact decide_eq_true (by omega) | exact DLe.refl _)
      all_goals first
        | (exfalso; grind)
        | (rw [if_pos (by grind)]; exact (by repeat (first | exact DLe.refl _ | exact DLe.nil _ | (refine DLe.tup ?_) | (refine DLe.agg ?_ rfl) | exact trivial | (refine And.intro ?_ ?_))))
        | (rw [if_neg (by grind)]; exact (by repeat (first | exact DLe.refl _ | exact DLe.nil _ | (refine DLe.tup ?_) | (refine DLe.agg ?_ rfl) | exact trivial | (refine And.intro ?_ ?_))))
    | none =>
      have hfd := nfind0_m n id n.vpcs.length 1 (vpcIx_none hx) hok.n6 hok.rise
      have hn := vpcIx_none hx
      by_cases hbad : makeErr n id ≠ 0
      · have hr : R = (Net.zero, makeErr n id) := by rw [hR.out]; unfold makeN; rw [if_neg (by simpa using hc), if_pos hbad]
        have hme : makeErr n id = if idOK id = false then 3 else if n.vpcs.length = 6 then 2 else 0 := by unfold makeErr; rw [hn]; rfl
        rw [hr]
        have hid : idOK id = (decide (1 ≤ id) && decide (id ≤ 65536)) := rfl
        rw [hme] at hbad ⊢
        rw [hid] at hbad ⊢
        clear hr hR hok hx hc hid hn hme
        replace hbad := Lib.hid hbad
        refine ps_i tab_ok mixed Tryz.func7 rfl Tryz.ntmps7 Tryz.results7 (by kernel_rfl) ?_
        repeat' (first | (with_reducible refine And.intro ?_ ?_) | (with_reducible refine gK_i (fun _ => ?_) (fun _ => ?_)) | (with_reducible refine condS_i (fun _ => ?_) (fun _ => ?_)) | (with_reducible refine drw_i (by kernel_rfl)) | simp -dsimp only [go_sem, seval, *, encT, hl6, undef] | ((with_reducible refine opK_c ?_); simp -dsimp only [go_sem, seval, encT, hl6, undef]; first | refine callK_r (by first | assumption | fail) (by first | exact .inl rfl | exact .inr rfl) ?_ | (refine callK_i (by assumption) ?_ ?_ ?_; (solve | (repeat (first | exact DLe.refl _ | exact DLe.nil _ | (refine DLe.tup ?_) | (refine DLe.agg ?_ rfl) | exact trivial | (refine And.intro ?_ ?_)))); (solve | exact .inl rfl | exact .inr rfl))) | (refine opK_M [] (hbg) ?_ ?_ ?_ ?_ ?_ ?_; (solve | rfl | simp only [go_sem, seval, encT]); (solve | rfl); (solve | decide); (solve | simp); (solve | simp only [go_sem, seval, lentOK, encT])) | (refine opK_M [4, 5, 3] (hfd) ?_ ?_ ?_ ?_ ?_ ?_; (solve | rfl | simp only [go_sem, seval, encT]); (solve | rfl); (solve | decide); (solve | simp); (solve | simp only [go_sem, seval, lentOK, encT])) | omega | exact decide_eq_true (by omega) | exact DLe.refl _)
        all_goals have hb2 := hbad.out
        all_goals clear hbad hfd hbg
        all_goals first
          | (exfalso; grind)
          | (rw [if_pos (by grind)]; exact (by repeat (first | exact DLe.refl _ | exact DLe.nil _ | (refine DLe.tup ?_) | (refine DLe.agg ?_ rfl) | exact trivial | (refine And.intro ?_ ?_))))
          | (rw [if_neg (by grind), if_pos (by grind)]; exact (by repeat (first | exact DLe.refl _ | exact DLe.nil _ | (refine DLe.tup ?_) | (refine DLe.agg ?_ rfl) | exact trivial | (refine And.intro ?_ ?_))))
      · have hr : R = ({ n with vpcs := insK (·.id) ⟨id, [], []⟩ n.vpcs }, 0) := by rw [hR.out]; unfold makeN; rw [if_neg (by simpa using hc), if_neg hbad]
        have hg : makeErr n id = 0 := by simpa using hbad
        obtain ⟨g1, g2⟩ : idOK id = true ∧ n.vpcs.length ≠ 6 := by unfold makeErr at hg; rw [hn] at hg; grind
        have g3 : 1 ≤ id ∧ id ≤ 65536 := by simpa [idOK] using g1
        have h6 := hok.n6
        have hso := sort_Vpc (l := n.vpcs ++ [⟨id, [], []⟩]) (l' := insK (·.id) ⟨id, [], []⟩ n.vpcs) (n.vpcs.length + 1) (by simp) (insK_perm _ _ _) (insK_sorted hok.rise fun v hv => findN_none hn v hv) (by simp; omega)
        have hl4 : ((n.vpcs.length : Int) == 6) = false := by simp; omega
        have hb1 : n.vpcs.length + 1 ≤ 100 := by omega
        have hlo : decide (id < 1) = false := by simp; omega
        have hhi : decide (id > 65536) = false := by simp; omega
        simp only [List.map_append, List.map_cons, List.map_nil] at hso
        have hso := hso.leh (rles_mid (A := n.vpcs.map encV) (B := []) (r := [.v (.int .i64 id), .v (.slice none 0 0), .v (.slice none 0 0)]) (by repeat (first | exact DLe.refl _ | exact DLe.nil _ | (refine DLe.tup ?_) | (refine DLe.agg ?_ rfl) | exact trivial | (refine And.intro ?_ ?_)))) (by have := dRows_one2 (enc := encV) (fun _ => rfl) (n.vpcs ++ [⟨id, [], []⟩]); simpa using this) (belowR_d _ _)
        rw [hr]
        clear hr hR hok hx hc hn hbad hg g1 g2 g3
        refine ps_i tab_ok mixed Tryz.func7 rfl Tryz.ntmps7 Tryz.results7 (by kernel_rfl) ?_
        repeat' (first | (with_reducible refine And.intro ?_ ?_) | (with_reducible refine gK_i (fun _ => ?_) (fun _ => ?_)) | (with_reducible refine condS_i (fun _ => ?_) (fun _ => ?_)) | (with_reducible refine drw_i (by kernel_rfl)) | simp -dsimp only [go_sem, seval, *, encT, encV, hl4, hlo, hhi, hb1, undef] | ((with_reducible refine opK_c ?_); simp -dsimp only [go_sem, seval, encT, encV, hl4, hlo, hhi, hb1, undef]; first | refine callK_r (by first | assumption | fail) (by first | exact .inl rfl | exact .inr rfl) ?_ | (refine callK_i (by assumption) ?_ ?_ ?_; (solve | (repeat (first | exact DLe.refl _ | exact DLe.nil _ | (refine DLe.tup ?_) | (refine DLe.agg ?_ rfl) | exact trivial | (refine And.intro ?_ ?_)))); (solve | exact .inl rfl | exact .inr rfl))) | (refine opK_M [] (hbg) ?_ ?_ ?_ ?_ ?_ ?_; (solve | rfl | simp only [go_sem, seval, encT]); (solve | rfl); (solve | decide); (solve | simp); (solve | simp only [go_sem, seval, lentOK, encT])) | (refine opK_M [4, 5, 3] (hfd) ?_ ?_ ?_ ?_ ?_ ?_; (solve | rfl | simp only [go_sem, seval, encT]); (solve | rfl); (solve | decide); (solve | simp); (solve | simp only [go_sem, seval, lentOK, encT])) | (refine opK_M [5] (hso) ?_ ?_ ?_ ?_ ?_ ?_; (solve | rfl | simp only [go_sem, seval, encV]); (solve | rfl); (solve | decide); (solve | simp); (solve | simp only [go_sem, seval, lentOK, encV])) | omega | exact decide_eq_true (by omega) | exact DLe.refl _)
        all_goals exact (by repeat (first | exact DLe.refl _ | exact DLe.nil _ | (refine DLe.tup ?_) | (refine DLe.agg ?_ rfl) | exact trivial | (refine And.intro ?_ ?_)))
  · have hbg := nbeginE_m n hc
    have hfz := nfindz_p id
    have h1 : (chkT n != 0) = true := by simpa using hc
    have hr : R = (Net.zero, chkT n) := by rw [hR.out]; unfold makeN; rw [if_pos hc]
    rw [hr]
    replace hr := Lib.hid hr
    refine ps_i tab_ok mixed Tryz.func7 rfl Tryz.ntmps7 Tryz.results7 (by kernel_rfl) ?_
    repeat' (first | (with_reducible refine And.intro ?_ ?_) | (with_reducible refine gK_i (fun _ => ?_) (fun _ => ?_)) | (with_reducible refine condS_i (fun _ => ?_) (fun _ => ?_)) | (with_reducible refine drw_i (by kernel_rfl)) | simp -dsimp only [go_sem, seval, *, encT, h1] | ((with_reducible refine opK_c ?_); simp -dsimp only [go_sem, seval, encT, h1]; first | refine callK_r (by first | assumption | exact hfz) (by first | exact .inl rfl | exact .inr rfl) ?_ | (refine callK_i (by assumption) ?_ ?_ ?_; (solve | (repeat (first | exact DLe.refl _ | exact DLe.nil _ | (refine DLe.tup ?_) | (refine DLe.agg ?_ rfl) | exact trivial | (refine And.intro ?_ ?_)))); (solve | exact .inl rfl | exact .inr rfl))) | (refine opK_M [] (hbg) ?_ ?_ ?_ ?_ ?_ ?_; (solve | rfl | simp only [go_sem, seval, encT]); (solve | rfl); (solve | decide); (solve | simp); (solve | simp only [go_sem, seval, lentOK, encT])) | omega | exact decide_eq_true (by omega) | exact DLe.refl _)
    all_goals exact (by repeat (first | exact DLe.refl _ | exact DLe.nil _ | (refine DLe.tup ?_) | (refine DLe.agg ?_ rfl) | exact trivial | (refine And.intro ?_ ?_)))
def joinErr (n : Net) (a b : Int) : Int :=
  if a = b then 3 else if findN n a = none ∨ findN n b = none then 5 else if lnk a b ∈ n.links then 6 else
  if peaceN { n with links := insK lkey (lnk a b) n.links } = false then 9 else if n.links.length + 1 > 12 then 2 else 0
/-- Join's answer. -/
def joinN (n : Net) (a b : Int) : Net × Int :=
  if chkT n ≠ 0 then (Net.zero, chkT n) else if joinErr n a b ≠ 0 then (Net.zero, joinErr n a b) else ({ n with links := insK lkey (lnk a b) n.links }, 0)
/-- A link's ends are Ids. -/
theorem NetOK.bd {n : Net} (h : NetOK n) {x : Int} (hx : x ∈ n.vpcs.map (·.id)) : 1 ≤ x ∧ x ≤ 65536 := by
  obtain ⟨v, hv, rfl⟩ := List.mem_map.1 hx
  have := (vpcOK_of (h.vp v hv)).id
  simpa [idOK] using this
theorem ordK_key {l m : Lnk} (h1 : 1 ≤ l.b ∧ l.b ≤ 65536) (h2 : 1 ≤ m.b ∧ m.b ≤ 65536) : ordK l m = cmpI (lkey l) (lkey m) := cmpI_two h1.1 h1.2 h2.1 h2.2
theorem NetOK.lsort {n : Net} (h : NetOK n) : n.links.Pairwise fun a b => lkey a < lkey b := by
  have hb : ∀ l ∈ n.links, 1 ≤ l.b ∧ l.b ≤ 65536 := fun l hl => h.bd (h.ids l hl).2
  have := (risK_at n.links).1 h.rk
  have step : ∀ j (hj : j + 1 < n.links.length), lkey n.links[j] < lkey n.links[j + 1] := fun j hj => by
    have h1 := this j hj
    rw [ordK_key (hb _ (List.getElem_mem _)) (hb _ (List.getElem_mem _))] at h1
    unfold cmpI at h1
    split at h1
    · assumption
    · split at h1 <;> omega
  rw [List.pairwise_iff_getElem]
  intro i j hi hj hij
  obtain ⟨d, rfl⟩ : ∃ d, j = i + 1 + d := ⟨j - i - 1, by omega⟩
  induction d with
  | zero => exact step i hj
  | succ d ih =>
    have h1 := ih (by omega) (by omega)
    have h2 := step (i + 1 + d) (by omega)
    exact Int.lt_trans h1 h2
theorem lnk_cases (a b : Int) : (lnk a b = ⟨a, b⟩ ∧ a ≤ b) ∨ (lnk a b = ⟨b, a⟩ ∧ b ≤ a) := by
  unfold lnk
  rcases Int.lt_trichotomy a b with h | h | h
  · left; rw [if_neg (by omega), if_pos h]; exact ⟨rfl, by omega⟩
  · subst h; left; simp
  · right; rw [if_pos h, if_neg (by omega)]; exact ⟨rfl, by omega⟩
theorem lkey_inj {l m : Lnk} (h1 : 1 ≤ l.b ∧ l.b ≤ 65536) (h2 : 1 ≤ m.b ∧ m.b ≤ 65536) (h : lkey l = lkey m) : l = m := by
  unfold lkey at h
  cases l; cases m
  simp only at *
  simp only [Lnk.mk.injEq]
  omega
set_option maxRecDepth 100000 in
set_option maxHeartbeats 2000000 in
theorem njoin_p (n : Net) (a b : Int) : PSpec Tryz.prog 18 [.agg (encT n), .v (.int .i64 a), .v (.int .i64 b)] (.tup [.agg (encT (joinN n a b).1), .v (.int .i64 (joinN n a b).2)]) := by
  obtain ⟨R, hR⟩ : ∃ R, R = joinN n a b := ⟨_, rfl⟩
  rw [← hR]
  replace hR := Lib.hid hR
  by_cases hc : chkT n = 0
  · have hok := netOK.1 hc
    have hbg := nbegin_m n hc
    have hlk := link_p a b
    have hR1 : R = if joinErr n a b ≠ 0 then (Net.zero, joinErr n a b) else ({ n with links := insK lkey (lnk a b) n.links }, 0) := by rw [hR.out]; unfold joinN; rw [if_neg (by simpa using hc)]
    cases hxa : vpcIx n a with
    | none =>
      have hfa := nfind0_m n a n.vpcs.length 1 (vpcIx_none hxa) hok.n6 hok.rise
      have hr : R = (Net.zero, if a = b then 3 else 5) := by
        rw [hR1, show joinErr n a b = if a = b then 3 else 5 by unfold joinErr; rw [vpcIx_none hxa]; simp]
        split <;> simp
      have hab : (a == b) = decide (a = b) := rfl
      rw [hr]
      cases hxb : vpcIx n b with
      | none =>
        have hfb := nfind0_m n b n.vpcs.length 1 (vpcIx_none hxb) hok.n6 hok.rise
        clear hr hR hR1 hok hxa hxb hc
        refine ps_i tab_ok mixed Tryz.func18 rfl Tryz.ntmps18 Tryz.results18 (by kernel_rfl) ?_
        repeat' (first | (with_reducible refine And.intro ?_ ?_) | (with_reducible refine gK_i (fun _ => ?_) (fun _ => ?_)) | (with_reducible refine condS_i (fun _ => ?_) (fun _ => ?_)) | (with_reducible refine drw_i (by kernel_rfl)) | simp -dsimp only [go_sem, seval, *, encT, undef] | ((with_reducible refine opK_c ?_); simp -dsimp only [go_sem, seval, encT, undef]; first | refine callK_r (by first | assumption | fail) (by first | exact .inl rfl | exact .inr rfl) ?_ | (refine callK_i (by assumption) ?_ ?_ ?_; (solve | (repeat (first | exact DLe.refl _ | exact DLe.nil _ | (refine DLe.tup ?_) | (refine DLe.agg ?_ rfl) | exact trivial | (refine And.intro ?_ ?_)))); (solve | exact .inl rfl | exact .inr rfl))) | (refine opK_M [] (hbg) ?_ ?_ ?_ ?_ ?_ ?_; (solve | rfl | simp only [go_sem, seval, encT]); (solve | rfl); (solve | decide); (solve | simp); (solve | simp only [go_sem, seval, lentOK, encT])) | (refine opK_M [4, 5, 3] (hfa) ?_ ?_ ?_ ?_ ?_ ?_; (solve | rfl | simp only [go_sem, seval, encT]); (solve | rfl); (solve | decide); (solve | simp); (solve | simp only [go_sem, seval, lentOK, encT])) | (refine opK_M [4, 5, 3] (hfb) ?_ ?_ ?_ ?_ ?_ ?_; (solve | rfl | simp only [go_sem, seval, encT]); (solve | rfl); (solve | decide); (solve | simp); (solve | simp only [go_sem, seval, lentOK, encT])) | omega | exact decide_eq_true (by omega) | exact DLe.refl _)
        all_goals first
          | (exfalso; grind)
          | (rw [if_pos (by grind)]; exact (by repeat (first | exact DLe.refl _ | exact DLe.nil _ | (refine DLe.tup ?_) | (refine DLe.agg ?_ rfl) | exact trivial | (refine And.intro ?_ ?_))))
          | (rw [if_neg (by grind)]; exact (by repeat (first | exact DLe.refl _ | exact DLe.nil _ | (refine DLe.tup ?_) | (refine DLe.agg ?_ rfl) | exact trivial | (refine And.intro ?_ ?_))))
      | some j =>
        obtain ⟨v, hv, he, hi, hfs⟩ := vpcIx_some hxb
        have hfb := nfind_m n b n.vpcs.length 1 j v hv he hok.n6 hok.rise
        clear hr hR hR1 hok hxa hxb hc hv he hfs hi
        refine ps_i tab_ok mixed Tryz.func18 rfl Tryz.ntmps18 Tryz.results18 (by kernel_rfl) ?_
        repeat' (first | (with_reducible refine And.intro ?_ ?_) | (with_reducible refine gK_i (fun _ => ?_) (fun _ => ?_)) | (with_reducible refine condS_i (fun _ => ?_) (fun _ => ?_)) | (with_reducible refine drw_i (by kernel_rfl)) | simp -dsimp only [go_sem, seval, *, encT, undef] | ((with_reducible refine opK_c ?_); simp -dsimp only [go_sem, seval, encT, undef]; first | refine callK_r (by first | assumption | fail) (by first | exact .inl rfl | exact .inr rfl) ?_ | (refine callK_i (by assumption) ?_ ?_ ?_; (solve | (repeat (first | exact DLe.refl _ | exact DLe.nil _ | (refine DLe.tup ?_) | (refine DLe.agg ?_ rfl) | exact trivial | (refine And.intro ?_ ?_)))); (solve | exact .inl rfl | exact .inr rfl))) | (refine opK_M [] (hbg) ?_ ?_ ?_ ?_ ?_ ?_; (solve | rfl | simp only [go_sem, seval, encT]); (solve | rfl); (solve | decide); (solve | simp); (solve | simp only [go_sem, seval, lentOK, encT])) | (refine opK_M [4, 5, 3] (hfa) ?_ ?_ ?_ ?_ ?_ ?_; (solve | rfl | simp only [go_sem, seval, encT]); (solve | rfl); (solve | decide); (solve | simp); (solve | simp only [go_sem, seval, lentOK, encT])) | (refine opK_M [4, 5, 3] (hfb) ?_ ?_ ?_ ?_ ?_ ?_; (solve | rfl | simp only [go_sem, seval, encT]); (solve | rfl); (solve | decide); (solve | simp); (solve | simp only [go_sem, seval, lentOK, encT])) | omega | exact decide_eq_true (by omega) | exact DLe.refl _)
        all_goals first
          | (exfalso; grind)
          | (rw [if_pos (by grind)]; exact (by repeat (first | exact DLe.refl _ | exact DLe.nil _ | (refine DLe.tup ?_) | (refine DLe.agg ?_ rfl) | exact trivial | (refine And.intro ?_ ?_))))
          | (rw [if_neg (by grind)]; exact (by repeat (first | exact DLe.refl _ | exact DLe.nil _ | (refine DLe.tup ?_) | (refine DLe.agg ?_ rfl) | exact trivial | (refine And.intro ?_ ?_))))
    | some i =>
      obtain ⟨u, hu, hea, hia, hfsa⟩ := vpcIx_some hxa
      have hfa := nfind_m n a n.vpcs.length 1 i u hu hea hok.n6 hok.rise
      cases hxb : vpcIx n b with
      | none =>
        have hfb := nfind0_m n b n.vpcs.length 1 (vpcIx_none hxb) hok.n6 hok.rise
        have hr : R = (Net.zero, if a = b then 3 else 5) := by
          rw [hR1, show joinErr n a b = if a = b then 3 else 5 by unfold joinErr; rw [vpcIx_none hxb]; simp]
          split <;> simp
        rw [hr]
        clear hr hR hR1 hok hxa hxb hc hu hea hia hfsa
        refine ps_i tab_ok mixed Tryz.func18 rfl Tryz.ntmps18 Tryz.results18 (by kernel_rfl) ?_
        repeat' (first | (with_reducible refine And.intro ?_ ?_) | (with_reducible refine gK_i (fun _ => ?_) (fun _ => ?_)) | (with_reducible refine condS_i (fun _ => ?_) (fun _ => ?_)) | (with_reducible refine drw_i (by kernel_rfl)) | simp -dsimp only [go_sem, seval, *, encT, undef] | ((with_reducible refine opK_c ?_); simp -dsimp only [go_sem, seval, encT, undef]; first | refine callK_r (by first | assumption | fail) (by first | exact .inl rfl | exact .inr rfl) ?_ | (refine callK_i (by assumption) ?_ ?_ ?_; (solve | (repeat (first | exact DLe.refl _ | exact DLe.nil _ | (refine DLe.tup ?_) | (refine DLe.agg ?_ rfl) | exact trivial | (refine And.intro ?_ ?_)))); (solve | exact .inl rfl | exact .inr rfl))) | (refine opK_M [] (hbg) ?_ ?_ ?_ ?_ ?_ ?_; (solve | rfl | simp only [go_sem, seval, encT]); (solve | rfl); (solve | decide); (solve | simp); (solve | simp only [go_sem, seval, lentOK, encT])) | (refine opK_M [4, 5, 3] (hfa) ?_ ?_ ?_ ?_ ?_ ?_; (solve | rfl | simp only [go_sem, seval, encT]); (solve | rfl); (solve | decide); (solve | simp); (solve | simp only [go_sem, seval, lentOK, encT])) | (refine opK_M [4, 5, 3] (hfb) ?_ ?_ ?_ ?_ ?_ ?_; (solve | rfl | simp only [go_sem, seval, encT]); (solve | rfl); (solve | decide); (solve | simp); (solve | simp only [go_sem, seval, lentOK, encT])) | omega | exact decide_eq_true (by omega) | exact DLe.refl _)
        all_goals first
          | (exfalso; grind)
          | (rw [if_pos (by grind)]; exact (by repeat (first | exact DLe.refl _ | exact DLe.nil _ | (refine DLe.tup ?_) | (refine DLe.agg ?_ rfl) | exact trivial | (refine And.intro ?_ ?_))))
          | (rw [if_neg (by grind)]; exact (by repeat (first | exact DLe.refl _ | exact DLe.nil _ | (refine DLe.tup ?_) | (refine DLe.agg ?_ rfl) | exact trivial | (refine And.intro ?_ ?_))))
      | some j =>
        obtain ⟨v, hv, heb, hib, hfsb⟩ := vpcIx_some hxb
        have hfb := nfind_m n b n.vpcs.length 1 j v hv heb hok.n6 hok.rise
        by_cases hab : a = b
        · have hr : R = (Net.zero, 3) := by rw [hR1, show joinErr n a b = 3 by unfold joinErr; rw [if_pos hab]]; rfl
          rw [hr]
          clear hr hR hR1 hok hxa hxb hc hu hea hia hfsa hv heb hib hfsb
          have habI : (a == b) = true := by simpa using hab
          replace hab := Lib.hid hab
          refine ps_i tab_ok mixed Tryz.func18 rfl Tryz.ntmps18 Tryz.results18 (by kernel_rfl) ?_
          repeat' (first | (with_reducible refine And.intro ?_ ?_) | (with_reducible refine gK_i (fun _ => ?_) (fun _ => ?_)) | (with_reducible refine condS_i (fun _ => ?_) (fun _ => ?_)) | (with_reducible refine drw_i (by kernel_rfl)) | simp -dsimp only [go_sem, seval, *, encT, habI, undef] | ((with_reducible refine opK_c ?_); simp -dsimp only [go_sem, seval, encT, habI, undef]; first | refine callK_r (by first | assumption | fail) (by first | exact .inl rfl | exact .inr rfl) ?_ | (refine callK_i (by assumption) ?_ ?_ ?_; (solve | (repeat (first | exact DLe.refl _ | exact DLe.nil _ | (refine DLe.tup ?_) | (refine DLe.agg ?_ rfl) | exact trivial | (refine And.intro ?_ ?_)))); (solve | exact .inl rfl | exact .inr rfl))) | (refine opK_M [] (hbg) ?_ ?_ ?_ ?_ ?_ ?_; (solve | rfl | simp only [go_sem, seval, encT]); (solve | rfl); (solve | decide); (solve | simp); (solve | simp only [go_sem, seval, lentOK, encT])) | (refine opK_M [4, 5, 3] (hfa) ?_ ?_ ?_ ?_ ?_ ?_; (solve | rfl | simp only [go_sem, seval, encT]); (solve | rfl); (solve | decide); (solve | simp); (solve | simp only [go_sem, seval, lentOK, encT])) | (refine opK_M [4, 5, 3] (hfb) ?_ ?_ ?_ ?_ ?_ ?_; (solve | rfl | simp only [go_sem, seval, encT]); (solve | rfl); (solve | decide); (solve | simp); (solve | simp only [go_sem, seval, lentOK, encT])) | omega | exact decide_eq_true (by omega) | exact DLe.refl _)
          all_goals exact (by repeat (first | exact DLe.refl _ | exact DLe.nil _ | (refine DLe.tup ?_) | (refine DLe.agg ?_ rfl) | exact trivial | (refine And.intro ?_ ?_)))
        · have habI : (a == b) = false := by simpa using hab
          have hct := contains_Link n.links (lnk a b) (by have := hok.n12; omega)
          have hany : (n.links.any fun y => decide (lnk a b = y)) = decide (lnk a b ∈ n.links) := by
            rw [Bool.eq_iff_iff, List.any_eq_true]
            simp
          rw [hany] at hct
          have hR2 : R = if lnk a b ∈ n.links then (Net.zero, 6) else if peaceN { n with links := insK lkey (lnk a b) n.links } = false then (Net.zero, 9) else if n.links.length + 1 > 12 then (Net.zero, 2) else ({ n with links := insK lkey (lnk a b) n.links }, 0) := by
            rw [hR1]; unfold joinErr; rw [if_neg hab, hfsa, hfsb]; simp only [reduceCtorEq, or_self, if_false]
            split
            · rfl
            · split
              · rfl
              · split <;> rfl
          by_cases hin : lnk a b ∈ n.links
          · have hr : R = (Net.zero, 6) := by rw [hR2, if_pos hin]
            rw [hr]
            rw [decide_eq_true hin] at hct
            clear hr hR hR1 hR2 hok hxa hxb hc hu hea hia hfsa hv heb hib hfsb hany hin
            generalize lnk a b = LK at *
            replace hab := Lib.hid hab
            refine ps_i tab_ok mixed Tryz.func18 rfl Tryz.ntmps18 Tryz.results18 (by kernel_rfl) ?_
            repeat' (first | (with_reducible refine And.intro ?_ ?_) | (with_reducible refine gK_i (fun _ => ?_) (fun _ => ?_)) | (with_reducible refine condS_i (fun _ => ?_) (fun _ => ?_)) | (with_reducible refine drw_i (by kernel_rfl)) | simp -dsimp only [go_sem, seval, *, encT, encK, habI, undef] | ((with_reducible refine opK_c ?_); simp -dsimp only [go_sem, seval, encT, encK, habI, undef]; first | refine callK_r (by first | assumption | exact hlk | exact hct) (by first | exact .inl rfl | exact .inr rfl) ?_ | (refine callK_i (by assumption) ?_ ?_ ?_; (solve | (repeat (first | exact DLe.refl _ | exact DLe.nil _ | (refine DLe.tup ?_) | (refine DLe.agg ?_ rfl) | exact trivial | (refine And.intro ?_ ?_)))); (solve | exact .inl rfl | exact .inr rfl))) | (refine opK_M [] (hbg) ?_ ?_ ?_ ?_ ?_ ?_; (solve | rfl | simp only [go_sem, seval, encT]); (solve | rfl); (solve | decide); (solve | simp); (solve | simp only [go_sem, seval, lentOK, encT])) | (refine opK_M [4, 5, 3] (hfa) ?_ ?_ ?_ ?_ ?_ ?_; (solve | rfl | simp only [go_sem, seval, encT]); (solve | rfl); (solve | decide); (solve | simp); (solve | simp only [go_sem, seval, lentOK, encT])) | (refine opK_M [4, 5, 3] (hfb) ?_ ?_ ?_ ?_ ?_ ?_; (solve | rfl | simp only [go_sem, seval, encT]); (solve | rfl); (solve | decide); (solve | simp); (solve | simp only [go_sem, seval, lentOK, encT])) | omega | exact decide_eq_true (by omega) | exact DLe.refl _)
            all_goals exact (by repeat (first | exact DLe.refl _ | exact DLe.nil _ | (refine DLe.tup ?_) | (refine DLe.agg ?_ rfl) | exact trivial | (refine And.intro ?_ ?_)))
          · rw [if_neg hin] at hR2
            rw [decide_eq_false hin] at hct
            have hma : a ∈ n.vpcs.map (·.id) := find_ids (by rw [hfsa]; rfl)
            have hmb : b ∈ n.vpcs.map (·.id) := find_ids (by rw [hfsb]; rfl)
            have hlb : ∀ l ∈ n.links, 1 ≤ l.b ∧ l.b ≤ 65536 := fun l hl => hok.bd (hok.ids l hl).2
            have hlm : (lnk a b).a ∈ n.vpcs.map (·.id) ∧ (lnk a b).b ∈ n.vpcs.map (·.id) := by
              rcases lnk_cases a b with ⟨e, -⟩ | ⟨e, -⟩
              · rw [e]; exact ⟨hma, hmb⟩
              · rw [e]; exact ⟨hmb, hma⟩
            have hlkb := hok.bd hlm.2
            have hso := sort_Link (l := n.links ++ [lnk a b]) (l' := insK lkey (lnk a b) n.links) 2 (fun l hl => by
              rcases List.mem_append.1 hl with hl | hl
              · exact hlb l hl
              · rw [List.mem_singleton.1 hl]; exact hlkb) (by simp) (insK_perm _ _ _) (insK_sorted hok.lsort fun y hy e => hin (by rw [← lkey_inj (hlb y hy) hlkb e]; exact hy)) (by have := hok.n12; simp; omega)
            have hpe := peace_p { n with links := insK lkey (lnk a b) n.links } (by have := hok.n6; simp; omega) (by have := hok.n12; simp only [insK_len]; omega) (fun v hv => by have := (vpcOK_of (hok.vp v hv)).n4; omega) (fun l hl => by
              rcases insK_mem.1 hl with rfl | hl
              · exact hlm
              · exact hok.ids l hl)
            have h12 := hok.n12
            have hb1 : n.links.length + 1 ≤ 100 := by omega
            have hsl : (insK lkey (lnk a b) n.links).length = n.links.length + 1 := insK_len _ _ _
            have hlI : ((n.links.length + 1 : Nat) : Int) > 12 ↔ n.links.length + 1 > 12 := by omega
            simp only [List.map_append, List.map_cons, List.map_nil] at hso
            clear hR hR1 hok hxa hxb hc hu hea hia hfsa hv heb hib hfsb hany hin hma hmb hlb hlm hlkb
            generalize insK lkey (lnk a b) n.links = LS at *
            generalize lnk a b = LK at *
            replace hab := Lib.hid hab
            cases hp : peaceN { n with links := LS } with
            | false =>
              have hr : R = (Net.zero, 9) := by rw [hR2, if_pos hp]
              rw [hp] at hpe
              rw [hr]
              clear hr hR2 hp hlI
              refine ps_i tab_ok mixed Tryz.func18 rfl Tryz.ntmps18 Tryz.results18 (by kernel_rfl) ?_
              repeat' (first | (with_reducible refine And.intro ?_ ?_) | (with_reducible refine gK_i (fun _ => ?_) (fun _ => ?_)) | (with_reducible refine condS_i (fun _ => ?_) (fun _ => ?_)) | (with_reducible refine drw_i (by kernel_rfl)) | simp -dsimp only [go_sem, seval, *, encT, encK, habI, hb1, undef] | ((with_reducible refine opK_c ?_); simp -dsimp only [go_sem, seval, encT, encK, habI, hb1, undef]; first | refine callK_r (by first | assumption | exact hlk | exact hct | exact hpe) (by first | exact .inl rfl | exact .inr rfl) ?_ | (refine callK_i (by assumption) ?_ ?_ ?_; (solve | (repeat (first | exact DLe.refl _ | exact DLe.nil _ | (refine DLe.tup ?_) | (refine DLe.agg ?_ rfl) | exact trivial | (refine And.intro ?_ ?_)))); (solve | exact .inl rfl | exact .inr rfl))) | (refine opK_M [] (hbg) ?_ ?_ ?_ ?_ ?_ ?_; (solve | rfl | simp only [go_sem, seval, encT]); (solve | rfl); (solve | decide); (solve | simp); (solve | simp only [go_sem, seval, lentOK, encT])) | (refine opK_M [4, 5, 3] (hfa) ?_ ?_ ?_ ?_ ?_ ?_; (solve | rfl | simp only [go_sem, seval, encT]); (solve | rfl); (solve | decide); (solve | simp); (solve | simp only [go_sem, seval, lentOK, encT])) | (refine opK_M [4, 5, 3] (hfb) ?_ ?_ ?_ ?_ ?_ ?_; (solve | rfl | simp only [go_sem, seval, encT]); (solve | rfl); (solve | decide); (solve | simp); (solve | simp only [go_sem, seval, lentOK, encT])) | (refine opK_M [3] (hso) ?_ ?_ ?_ ?_ ?_ ?_; (solve | rfl | simp only [go_sem, seval, encK]); (solve | rfl); (solve | decide); (solve | simp); (solve | simp only [go_sem, seval, lentOK, encK])) | omega | exact decide_eq_true (by omega) | exact DLe.refl _)
              all_goals exact (by repeat (first | exact DLe.refl _ | exact DLe.nil _ | (refine DLe.tup ?_) | (refine DLe.agg ?_ rfl) | exact trivial | (refine And.intro ?_ ?_)))
            | true =>
              rw [hp] at hpe
              by_cases hbig : n.links.length + 1 > 12
              · have hr : R = (Net.zero, 2) := by rw [hR2, if_neg (by simp [hp]), if_pos hbig]
                have hbI : decide ((LS.length : Int) > 12) = true := by rw [hsl]; exact decide_eq_true (hlI.2 hbig)
                rw [hr]
                clear hr hR2 hp hlI hbig
                replace hsl := Lib.hid hsl
                refine ps_i tab_ok mixed Tryz.func18 rfl Tryz.ntmps18 Tryz.results18 (by kernel_rfl) ?_
                repeat' (first | (with_reducible refine And.intro ?_ ?_) | (with_reducible refine gK_i (fun _ => ?_) (fun _ => ?_)) | (with_reducible refine condS_i (fun _ => ?_) (fun _ => ?_)) | (with_reducible refine drw_i (by kernel_rfl)) | simp -dsimp only [go_sem, seval, *, encT, encK, habI, hb1, hbI, undef] | ((with_reducible refine opK_c ?_); simp -dsimp only [go_sem, seval, encT, encK, habI, hb1, hbI, undef]; first | refine callK_r (by first | assumption | exact hlk | exact hct | exact hpe) (by first | exact .inl rfl | exact .inr rfl) ?_ | (refine callK_i (by assumption) ?_ ?_ ?_; (solve | (repeat (first | exact DLe.refl _ | exact DLe.nil _ | (refine DLe.tup ?_) | (refine DLe.agg ?_ rfl) | exact trivial | (refine And.intro ?_ ?_)))); (solve | exact .inl rfl | exact .inr rfl))) | (refine opK_M [] (hbg) ?_ ?_ ?_ ?_ ?_ ?_; (solve | rfl | simp only [go_sem, seval, encT]); (solve | rfl); (solve | decide); (solve | simp); (solve | simp only [go_sem, seval, lentOK, encT])) | (refine opK_M [4, 5, 3] (hfa) ?_ ?_ ?_ ?_ ?_ ?_; (solve | rfl | simp only [go_sem, seval, encT]); (solve | rfl); (solve | decide); (solve | simp); (solve | simp only [go_sem, seval, lentOK, encT])) | (refine opK_M [4, 5, 3] (hfb) ?_ ?_ ?_ ?_ ?_ ?_; (solve | rfl | simp only [go_sem, seval, encT]); (solve | rfl); (solve | decide); (solve | simp); (solve | simp only [go_sem, seval, lentOK, encT])) | (refine opK_M [3] (hso) ?_ ?_ ?_ ?_ ?_ ?_; (solve | rfl | simp only [go_sem, seval, encK]); (solve | rfl); (solve | decide); (solve | simp); (solve | simp only [go_sem, seval, lentOK, encK])) | omega | exact decide_eq_true (by omega) | exact DLe.refl _)
                all_goals exact (by repeat (first | exact DLe.refl _ | exact DLe.nil _ | (refine DLe.tup ?_) | (refine DLe.agg ?_ rfl) | exact trivial | (refine And.intro ?_ ?_)))
              · have hr : R = ({ n with links := LS }, 0) := by rw [hR2, if_neg (by simp [hp]), if_neg hbig]
                have hbI : decide ((LS.length : Int) > 12) = false := by rw [hsl]; exact decide_eq_false (fun h => hbig (hlI.1 h))
                rw [hr]
                clear hr hR2 hp hlI hbig
                replace hsl := Lib.hid hsl
                refine ps_i tab_ok mixed Tryz.func18 rfl Tryz.ntmps18 Tryz.results18 (by kernel_rfl) ?_
                repeat' (first | (with_reducible refine And.intro ?_ ?_) | (with_reducible refine gK_i (fun _ => ?_) (fun _ => ?_)) | (with_reducible refine condS_i (fun _ => ?_) (fun _ => ?_)) | (with_reducible refine drw_i (by kernel_rfl)) | simp -dsimp only [go_sem, seval, *, encT, encK, habI, hb1, hbI, undef] | ((with_reducible refine opK_c ?_); simp -dsimp only [go_sem, seval, encT, encK, habI, hb1, hbI, undef]; first | refine callK_r (by first | assumption | exact hlk | exact hct | exact hpe) (by first | exact .inl rfl | exact .inr rfl) ?_ | (refine callK_i (by assumption) ?_ ?_ ?_; (solve | (repeat (first | exact DLe.refl _ | exact DLe.nil _ | (refine DLe.tup ?_) | (refine DLe.agg ?_ rfl) | exact trivial | (refine And.intro ?_ ?_)))); (solve | exact .inl rfl | exact .inr rfl))) | (refine opK_M [] (hbg) ?_ ?_ ?_ ?_ ?_ ?_; (solve | rfl | simp only [go_sem, seval, encT]); (solve | rfl); (solve | decide); (solve | simp); (solve | simp only [go_sem, seval, lentOK, encT])) | (refine opK_M [4, 5, 3] (hfa) ?_ ?_ ?_ ?_ ?_ ?_; (solve | rfl | simp only [go_sem, seval, encT]); (solve | rfl); (solve | decide); (solve | simp); (solve | simp only [go_sem, seval, lentOK, encT])) | (refine opK_M [4, 5, 3] (hfb) ?_ ?_ ?_ ?_ ?_ ?_; (solve | rfl | simp only [go_sem, seval, encT]); (solve | rfl); (solve | decide); (solve | simp); (solve | simp only [go_sem, seval, lentOK, encT])) | (refine opK_M [3] (hso) ?_ ?_ ?_ ?_ ?_ ?_; (solve | rfl | simp only [go_sem, seval, encK]); (solve | rfl); (solve | decide); (solve | simp); (solve | simp only [go_sem, seval, lentOK, encK])) | omega | exact decide_eq_true (by omega) | exact DLe.refl _)
                all_goals exact (by repeat (first | exact DLe.refl _ | exact DLe.nil _ | (refine DLe.tup ?_) | (refine DLe.agg ?_ rfl) | exact trivial | (refine And.intro ?_ ?_)))
  · have hbg := nbeginE_m n hc
    have h1 : (chkT n != 0) = true := by simpa using hc
    have hr : R = (Net.zero, chkT n) := by rw [hR.out]; unfold joinN; rw [if_pos hc]
    rw [hr]
    replace hr := Lib.hid hr
    refine ps_i tab_ok mixed Tryz.func18 rfl Tryz.ntmps18 Tryz.results18 (by kernel_rfl) ?_
    repeat' (first | (with_reducible refine And.intro ?_ ?_) | (with_reducible refine gK_i (fun _ => ?_) (fun _ => ?_)) | (with_reducible refine condS_i (fun _ => ?_) (fun _ => ?_)) | (with_reducible refine drw_i (by kernel_rfl)) | simp -dsimp only [go_sem, seval, *, encT, h1] | ((with_reducible refine opK_c ?_); simp -dsimp only [go_sem, seval, encT, h1]; first | refine callK_r (by first | assumption | fail) (by first | exact .inl rfl | exact .inr rfl) ?_ | (refine callK_i (by assumption) ?_ ?_ ?_; (solve | (repeat (first | exact DLe.refl _ | exact DLe.nil _ | (refine DLe.tup ?_) | (refine DLe.agg ?_ rfl) | exact trivial | (refine And.intro ?_ ?_)))); (solve | exact .inl rfl | exact .inr rfl))) | (refine opK_M [] (hbg) ?_ ?_ ?_ ?_ ?_ ?_; (solve | rfl | simp only [go_sem, seval, encT]); (solve | rfl); (solve | decide); (solve | simp); (solve | simp only [go_sem, seval, lentOK, encT])) | omega | exact decide_eq_true (by omega) | exact DLe.refl _)
    all_goals exact (by repeat (first | exact DLe.refl _ | exact DLe.nil _ | (refine DLe.tup ?_) | (refine DLe.agg ?_ rfl) | exact trivial | (refine And.intro ?_ ?_)))
end Go.Proofs.YtgmbhaclogabeaaGreat
namespace Go.Proofs.YtgmbhaclogabeaaGreat
open Go Go.RowKit
def rdl : List (List D) → List (List D) → Prop
  | [], [] => True
  | r :: l, s :: m => dles r s ∧ rdl l m
  | _, _ => False
theorem rdl_at : ∀ {l m : List (List D)}, rdl l m → l.length = m.length ∧ ∀ (j : Nat) (a b : List D), l[j]? = some a → m[j]? = some b → dles a b
  | [], [], _ => ⟨rfl, fun j a b h => by simp at h⟩
  | [], _ :: _, h => h.elim
  | _ :: _, [], h => h.elim
  | r :: l, s :: m, ⟨h1, h2⟩ => by
    obtain ⟨q1, q2⟩ := rdl_at h2
    refine ⟨by simp [q1], fun j a b ha hb => ?_⟩
    cases j with
    | zero => simp at ha hb; subst ha; subst hb; exact h1
    | succ j => exact q2 j a b (by simpa using ha) (by simpa using hb)
theorem DLe.sl {sz : Nat} {l m : List (List D)} (h : rdl l m) (h1 : ∀ r ∈ m, ∀ d ∈ r, d.one = true) : DLe (.sl sz l) (.sl sz m) := fun M w v hr => by
  obtain ⟨q1, q2⟩ := rdl_at h
  cases hr with
  | nil _ ao cap hm =>
    have : m = [] := List.eq_nil_of_length_eq_zero (by rw [← q1]; rfl)
    subst this
    exact .nil sz ao cap hm
  | sl _ rows b off cap f hM hb hc hm hr _ hcell hrep =>
    rw [q1]
    have row : ∀ (i : Nat) (s : List D), m[i]? = some s → ∃ r, l[i]? = some r ∧ dles r s := fun i s hs => by
      obtain ⟨hlt, -⟩ := List.getElem?_eq_some_iff.1 hs
      exact ⟨l[i]'(by omega), List.getElem?_eq_getElem (by omega), q2 i _ s (List.getElem?_eq_getElem (by omega)) hs⟩
    refine .sl sz m b off cap f hM hb (by omega) hm (fun s hs => ?_) h1 (fun i j hi hj => hcell i j (by omega) hj) (fun i j s d hs hd => ?_)
    · obtain ⟨i, hi, rfl⟩ := List.mem_iff_getElem.1 hs
      obtain ⟨r, e1, e2⟩ := row i _ (List.getElem?_eq_getElem hi)
      rw [← (dles_at e2).1]
      exact hr r (List.mem_of_getElem? e1)
    · obtain ⟨r, e1, e2⟩ := row i s hs
      obtain ⟨p1, p2⟩ := dles_at e2
      obtain ⟨hlt, -⟩ := List.getElem?_eq_some_iff.1 hd
      exact p2 j _ d (List.getElem?_eq_getElem (by omega)) hd M w _ (hrep i j r _ e1 (List.getElem?_eq_getElem (by omega)))
end Go.Proofs.YtgmbhaclogabeaaGreat
namespace Go.Proofs.YtgmbhaclogabeaaGreat
open Go Go.RowKit
/-- One more from behind: so far. -/
def BubI {α : Type} (key : α → Int) (x : α) (l : List α) (q : Nat) (out : List α) : Prop := q ≤ l.length ∧ out = l.take q ++ x :: l.drop q ∧ ∀ y ∈ l.drop q, key x < key y
section
variable {α : Type} {key : α → Int} {x y : α} {l out : List α} {q : Nat}
theorem bub_0 : BubI key x l l.length (l ++ [x]) := ⟨Nat.le_refl _, by simp, by simp⟩
theorem bub_x (h : BubI key x l q out) : out[q]? = some x := by
  rw [h.2.1, List.getElem?_append_right (by rw [List.length_take]; omega), List.length_take, show q - min q l.length = 0 by have := h.1; omega]; rfl
theorem bub_y (h : BubI key x l q out) (h0 : 0 < q) (hy : l[q - 1]? = some y) : out[q - 1]? = some y := by
  rw [h.2.1, List.getElem?_append_left (by rw [List.length_take]; have := h.1; omega), List.getElem?_take_of_lt (by omega), hy]
theorem bub_s (h : BubI key x l q out) (h0 : 0 < q) (hy : l[q - 1]? = some y) (hg : key y > key x) : BubI key x l (q - 1) ((out.set (q - 1) x).set q y) := by
  obtain ⟨h1, h2, h3⟩ := h
  obtain ⟨hlt, he⟩ := List.getElem?_eq_some_iff.1 hy
  obtain ⟨n, rfl⟩ : ∃ n, q = n + 1 := ⟨q - 1, by omega⟩
  simp only [Nat.add_sub_cancel] at hy hlt he ⊢
  have hd := drop_get hy
  have ht := take_snoc hy
  refine ⟨by omega, ?_, fun z hz => ?_⟩
  · rw [h2, ht, hd]
    have hl : (l.take n).length = n := by rw [List.length_take]; omega
    rw [List.append_assoc, List.set_append_right _ _ (by omega), hl, Nat.sub_self, List.set_append_right _ _ (by omega), hl]
    simp
  · rw [hd] at hz
    rcases List.mem_cons.1 hz with rfl | hz
    · exact hg
    · exact h3 z hz
theorem bub_e (h : BubI key x l q out) (hs : l.Pairwise fun a b => key a < key b) (hl : ∀ y, 0 < q → l[q - 1]? = some y → key y < key x) : out = insK key x l := by
  obtain ⟨h1, h2, h3⟩ := h
  have : lbN key (key x) l = q := by
    refine lbN_eq h1 (fun j hj hjq => ?_) (fun j hj hqj => ?_)
    · have e1 := hl l[q - 1] (by omega) (List.getElem?_eq_getElem (by omega))
      rcases Nat.lt_or_ge j (q - 1) with h | h
      · have := List.pairwise_iff_getElem.1 hs j (q - 1) hj (by omega) h; omega
      · obtain rfl : j = q - 1 := by omega
        exact e1
    · have := h3 l[j] (List.mem_iff_getElem.2 ⟨j - q, by rw [List.length_drop]; omega, by rw [List.getElem_drop]; congr 1; omega⟩)
      omega
  unfold insK
  rw [this, h2]
end
theorem filt_snoc {α : Type} {f : α → Bool} {l : List α} {k : Nat} {x : α} (h : l[k]? = some x) : (l.take (k + 1)).filter f = if f x then (l.take k).filter f ++ [x] else (l.take k).filter f := by
  rw [take_snoc h, List.filter_append]
  cases hx : f x <;> simp [hx]
end Go.Proofs.YtgmbhaclogabeaaGreat
namespace Go.Proofs.YtgmbhaclogabeaaGreat
open Go Go.RowKit
/-- Would two groups clash? -/
def warN (n : Net) (a b : Int) : Bool := n.vpcs.any fun v => (headN n v.id == headN n a) && n.vpcs.any fun w => (headN n w.id == headN n b) && ((v.id != w.id) && clashV v w)
theorem war_hit {n : Net} {a b : Int} {v w : Vpc} (hv : v ∈ n.vpcs) (hw : w ∈ n.vpcs) (h1 : headN n v.id = headN n a) (h2 : headN n w.id = headN n b) (h3 : v.id ≠ w.id) (h4 : clashV v w = true) : warN n a b = true :=
  List.any_eq_true.2 ⟨v, hv, by simp only [h1, beq_self_eq_true, Bool.true_and]; exact List.any_eq_true.2 ⟨w, hw, by simp [h2, h3, h4]⟩⟩
theorem war_not {n : Net} {a b : Int} (h : warN n a b = false) {v w : Vpc} (hv : v ∈ n.vpcs) (hw : w ∈ n.vpcs) (h1 : headN n v.id = headN n a) (h2 : headN n w.id = headN n b) (h3 : v.id ≠ w.id) : clashV v w = false := by
  cases hb : clashV v w with
  | false => rfl
  | true => rw [war_hit hv hw h1 h2 h3 hb] at h; cases h
theorem join_head {n : Net} {l : Lnk} {x y : Int} {links : List Lnk} (hp : links.Perm (n.links ++ [l])) : headN { n with links := links } x = headN { n with links := links } y ↔ stepF (headN n) l x = stepF (headN n) l y := by
  rw [headN_eq, headN_eq, ← heads_snoc]
  exact heads_same fun m => hp.mem_iff
theorem lnk_heads {n : Net} (a b : Int) {x y : Int} : stepF (headN n) (lnk a b) x = stepF (headN n) (lnk a b) y ↔ headN n x = headN n y ∨ (headN n x = headN n a ∧ headN n y = headN n b) ∨ (headN n x = headN n b ∧ headN n y = headN n a) := by
  rw [stepF_iff]
  rcases lnk_cases a b with ⟨e, -⟩ | ⟨e, -⟩
  · rw [e]
  · rw [e]
    constructor
    · rintro (h | h | h)
      · exact .inl h
      · exact .inr (.inr h)
      · exact .inr (.inl h)
    · rintro (h | h | h)
      · exact .inl h
      · exact .inr (.inr h)
      · exact .inr (.inl h)
theorem idx_ne {n : Net} {i j : Nat} {v w : Vpc} (hv : n.vpcs[i]? = some v) (hw : n.vpcs[j]? = some w) (h : v.id ≠ w.id) : i ≠ j := fun e => by
  subst e; rw [hv] at hw; cases hw; exact h rfl
theorem join_peace {n : Net} (hok : NetOK n) (a b : Int) : peaceN { n with links := insK lkey (lnk a b) n.links } = !warN n a b := by
  have hjh := fun x y => join_head (n := n) (l := lnk a b) (x := x) (y := y) (insK_perm lkey (lnk a b) n.links)
  cases hw : warN n a b with
  | true =>
    unfold warN at hw
    obtain ⟨v, hv, h⟩ := List.any_eq_true.1 hw
    rw [Bool.and_eq_true, beq_iff_eq] at h
    obtain ⟨h1, h⟩ := h
    obtain ⟨w, hw, h⟩ := List.any_eq_true.1 h
    simp only [Bool.and_eq_true, beq_iff_eq, bne_iff_ne, ne_eq] at h
    obtain ⟨h2, h3, h4⟩ := h
    obtain ⟨i, hi⟩ := List.mem_iff_getElem?.1 hv
    obtain ⟨j, hj⟩ := List.mem_iff_getElem?.1 hw
    refine peace_war (n := { n with links := insK lkey (lnk a b) n.links }) (idx_ne hi hj h3) hi hj ?_
    unfold foeN
    rw [h4, Bool.and_true, beq_iff_eq, hjh, lnk_heads]
    exact .inr (.inl ⟨h1, h2⟩)
  | false =>
    refine peace_good (n := { n with links := insK lkey (lnk a b) n.links }) fun i v w hv hwm => ?_
    have hne := rise_ne hok.rise hv hwm
    have hv1 := List.mem_of_getElem? hv
    have hw1 := List.mem_of_mem_take hwm
    unfold foeN
    cases hc : clashV v w with
    | false => rw [Bool.and_false]
    | true =>
      rw [Bool.and_true, beq_eq_false_iff_ne, ne_eq, hjh, lnk_heads]
      rintro (h | h | h)
      · obtain ⟨j, hj⟩ := List.mem_iff_getElem?.1 hw1
        have := peace_war (n := n) (idx_ne (n := n) hj hv hne).symm hv hj (by unfold foeN; rw [hc, h]; simp)
        rw [hok.pe] at this
        cases this
      · have := war_not hw hv1 hw1 h.1 h.2 hne.symm
        rw [hc] at this; cases this
      · have := war_not hw hw1 hv1 h.2 h.1 hne
        rw [clashV_comm, hc] at this; cases this
theorem lkey_lt {y l : Lnk} (h1 : 1 ≤ y.b ∧ y.b ≤ 65536) (h2 : 1 ≤ l.b ∧ l.b ≤ 65536) : lkey y < lkey l ↔ y.a < l.a ∨ (y.a = l.a ∧ y.b < l.b) := by
  unfold lkey
  constructor <;> intro h <;> omega
theorem linkedN_eq (n : Net) (a b : Int) : linkedN n a b = decide (lnk a b ∈ n.links) := by
  unfold linkedN
  rw [Bool.eq_iff_iff, List.any_eq_true]
  simp
theorem erase_filter {l : List Lnk} (hn : l.Nodup) {x : Lnk} {i : Nat} (h : l.findIdx? (fun y => decide (x = y)) = some i) : l.filter (fun y => !decide (y = x)) = l.eraseIdx i := by
  obtain ⟨hi, he, -⟩ := List.findIdx?_eq_some_iff_getElem.1 h
  have he : x = l[i] := by simpa using he
  subst he
  have e1 : l = l.take i ++ l[i] :: l.drop (i + 1) := by rw [← List.drop_eq_getElem_cons hi, List.take_append_drop]
  have hd : ∀ j (hj : j < l.length), j ≠ i → l[j] ≠ l[i] := fun j hj hji he => by
    rcases Nat.lt_or_gt_of_ne hji with h | h
    · exact List.pairwise_iff_getElem.1 hn j i hj hi h he
    · exact List.pairwise_iff_getElem.1 hn i j hi hj h he.symm
  have key : ∀ (A B : List Lnk) (x : Lnk), (∀ y ∈ A, y ≠ x) → (∀ y ∈ B, y ≠ x) → (A ++ x :: B).filter (fun y => !decide (y = x)) = A ++ B := fun A B x hA hB => by
    rw [List.filter_append, List.filter_cons]
    simp only [decide_true, Bool.not_true, Bool.false_eq_true, if_false]
    rw [List.filter_eq_self.2 (fun y hy => by simpa using hA y hy), List.filter_eq_self.2 (fun y hy => by simpa using hB y hy)]
  refine (congrArg (List.filter _) e1).trans ((key _ _ _ (fun y hy => ?_) fun y hy => ?_).trans (List.eraseIdx_eq_take_drop_succ l i).symm)
  · obtain ⟨j, hj, rfl⟩ := List.mem_iff_getElem.1 hy
    rw [List.getElem_take]
    rw [List.length_take] at hj
    exact hd j (by omega) (by omega)
  · obtain ⟨j, hj, rfl⟩ := List.mem_iff_getElem.1 hy
    rw [List.getElem_drop]
    rw [List.length_drop] at hj
    exact hd (i + 1 + j) (by omega) (by omega)
theorem links_nodup {n : Net} (hok : NetOK n) : n.links.Nodup := hok.lsort.imp fun h e => by rw [e] at h; omega
set_option maxRecDepth 100000 in
set_option maxHeartbeats 2000000 in
theorem partNet_p (n : Net) (a b : Int) (hz : NetZ n) : PSpec Tryz.prog 21 [.agg (encT n), .v (.int .i64 a), .v (.int .i64 b)] (.tup [.agg (encT (partN n a b).1), .v (.int .i64 (partN n a b).2)]) := by
  obtain ⟨R, hR⟩ : ∃ R, R = partN n a b := ⟨_, rfl⟩
  rw [← hR]
  replace hR := Lib.hid hR
  have hck := checkNet_p n hz
  by_cases hc : chkT n = 0
  · have hok := netOK.1 hc
    have h12 := hok.n12
    have hob := ownNet_m n hok.n6 hok.n12 hok.vp
    have hlq := linkedR_p n a b (by omega)
    rw [linkedN_eq] at hlq
    rw [hc] at hck
    have hmem : lnk a b ∈ n.links ↔ (n.links.findIdx? (fun l => decide (lnk a b = l))).isSome = true := by
      rw [List.findIdx?_isSome, List.any_eq_true]
      simp
    cases hf : n.links.findIdx? (fun l => decide (lnk a b = l)) with
    | none =>
      have hnm : lnk a b ∉ n.links := fun h => by rw [hmem, hf] at h; cases h
      have hr : R = (Net.zero, 5) := by rw [hR.out]; unfold partN; rw [if_neg (by simpa using hc), hf]
      rw [decide_eq_false hnm] at hlq
      rw [hr]
      clear hr hR hf hc hok hnm hmem
      refine ps_i tab_ok mixed Tryz.func21 rfl Tryz.ntmps21 Tryz.results21 (by kernel_rfl) ?_
      repeat' (first | (with_reducible refine And.intro ?_ ?_) | (with_reducible refine gK_i (fun _ => ?_) (fun _ => ?_)) | (with_reducible refine condS_i (fun _ => ?_) (fun _ => ?_)) | (with_reducible refine drw_i (by kernel_rfl)) | simp -dsimp only [go_sem, seval, *, encT, undef] | ((with_reducible refine opK_c ?_); simp -dsimp only [go_sem, seval, encT, undef]; first | refine callK_r (by first | assumption | exact hck | exact hlq) (by first | exact .inl rfl | exact .inr rfl) ?_ | (refine callK_i (by assumption) ?_ ?_ ?_; (solve | (repeat (first | exact DLe.refl _ | exact DLe.nil _ | (refine DLe.tup ?_) | (refine DLe.agg ?_ rfl) | exact trivial | (refine And.intro ?_ ?_)))); (solve | exact .inl rfl | exact .inr rfl))) | fail | omega | exact decide_eq_true (by omega) | exact DLe.refl _)
      all_goals exact (by repeat (first | exact DLe.refl _ | exact DLe.nil _ | (refine DLe.tup ?_) | (refine DLe.agg ?_ rfl) | exact trivial | (refine And.intro ?_ ?_)))
    | some i =>
      have hym : lnk a b ∈ n.links := by rw [hmem, hf]; rfl
      have hr : R = ({ n with links := n.links.filter fun y => !decide (y = lnk a b) }, 0) := by rw [hR.out]; unfold partN; rw [if_neg (by simpa using hc), hf, erase_filter (links_nodup hok) hf]
      rw [decide_eq_true hym] at hlq
      replace hr := Lib.hid hr
      clear hR hf hc hok hym hmem
      refine ps_i tab_ok mixed Tryz.func21 rfl Tryz.ntmps21 Tryz.results21 (by kernel_rfl) ?_
      repeat' (first | (with_reducible refine And.intro ?_ ?_) | (with_reducible refine gK_i (fun _ => ?_) (fun _ => ?_)) | (with_reducible refine condS_i (fun _ => ?_) (fun _ => ?_)) | (with_reducible refine drw_i (by kernel_rfl)) | simp -dsimp only [go_sem, seval, *, encT, undef] | ((with_reducible refine opK_c ?_); simp -dsimp only [go_sem, seval, encT, undef]; first | refine callK_r (by first | assumption | exact hck | exact hlq) (by first | exact .inl rfl | exact .inr rfl) ?_ | (refine callK_i (by assumption) ?_ ?_ ?_; (solve | (repeat (first | exact DLe.refl _ | exact DLe.nil _ | (refine DLe.tup ?_) | (refine DLe.agg ?_ rfl) | exact trivial | (refine And.intro ?_ ?_)))); (solve | exact .inl rfl | exact .inr rfl))) | (refine opK_M [] (hob) ?_ ?_ ?_ ?_ ?_ ?_; (solve | rfl | simp only [go_sem, seval, encT]); (solve | rfl); (solve | decide); (solve | simp); (solve | simp only [go_sem, seval, lentOK, encT])) | omega | exact decide_eq_true (by omega) | exact DLe.refl _)
      clear hob hck hlq
      refine loopG tab_ok mixed (fun m e h => ∃ (k g : Nat), k ≤ n.links.length ∧ m = n.links.length - k ∧
        e = [(10, .d (.v (.int .i64 k))), (9, .ptr 7 0), (7, .d (.v (.int .i64 0))), (6, .ptr 1 0), (3, .ptr 0 0), (2, .d (.v (.int .i64 b))), (1, .d (.v (.int .i64 a)))] ∧ h = [.box 25 ((encT n).map .d), .box 25 [.d (.v (.slice none 0 0)), .d (.v (.slice none 0 0))], .gone, .gone, .row 68 2 1 (dRows (n.links.map encK)), .gone, .row 56 3 n.vpcs.length (dRows (n.vpcs.map encV)), .box 25 [.own 6 n.vpcs.length, .own 8 g], .row 68 2 g (dRows (((n.links.take k).filter fun y => !decide (y = lnk a b)).map encK))]) _ _ _ ⟨0, 0, Nat.zero_le _, rfl, rfl, rfl⟩ ?_ ?_
      · refine (weak_adopt_box (by simp) 7 25 [.own 6 n.vpcs.length, .d (.v (.slice none 0 0))] 1 68 2 rfl rfl rfl).trans ?_
        exact weak_forget _ (by simp) (by (try simp only [encT]); rfl) (by (repeat' (first | exact trivial | (refine ⟨rfl, ?_⟩)))) (by first | rfl | simp only [belowH, belowE, belowC, belowL, belowR, belowP, belowL_d, belowR_d, List.length_cons, List.length_nil, Nat.reduceAdd, Nat.reduceLT, decide_true, Bool.and_self, Bool.and_true]) (by first | rfl | simp only [belowH, belowE, belowC, belowL, belowR, belowP, belowL_d, belowR_d, List.length_cons, List.length_nil, Nat.reduceAdd, Nat.reduceLT, decide_true, Bool.and_self, Bool.and_true])
      · rintro m e h ⟨k, g, hk, hm, rfl, rfl⟩ C hC
        replace hm := Lib.hid hm
        by_cases hlt : k < n.links.length
        · have hkI : (k : Int) < (n.links.length : Int) := by omega
          have hwr : IntKind.i64.wrap ((k : Int) + 1) = ((k + 1 : Nat) : Int) := by rw [IntKind.wrap_i64]; omega
          obtain ⟨y, hy⟩ : ∃ y, n.links[k]? = some y := ⟨_, List.getElem?_eq_getElem hlt⟩
          have he : ([y.a, y.b] != [if b < a then b else a, if a < b then b else a]) = !decide (y = lnk a b) := congrArg (fun t => !t) (eqK_list y (lnk a b))
          have hfl : ((n.links.take k).filter fun y => !decide (y = lnk a b)).length ≤ k := by
            have := List.length_filter_le (fun y => !decide (y = lnk a b)) (n.links.take k)
            rw [List.length_take] at this; omega
          have hb1 : ((n.links.take k).filter fun y => !decide (y = lnk a b)).length + 1 ≤ 100 := by omega
          have hst := filt_snoc (f := fun y => !decide (y = lnk a b)) hy
          replace hst := Lib.hid hst
          replace hfl := Lib.hid hfl
          generalize (n.links.take k).filter (fun y => !decide (y = lnk a b)) = L at *
          cases b1 : decide (y = lnk a b) with
          | true =>
            rw [b1] at hst he
            repeat' (first | (with_reducible refine And.intro ?_ ?_) | (with_reducible refine gK_i (fun _ => ?_) (fun _ => ?_)) | (with_reducible refine condS_i (fun _ => ?_) (fun _ => ?_)) | (with_reducible refine drw_i (by kernel_rfl)) | simp -dsimp only [go_sem, seval, *, encT, encK, hkI, hwr, hy, he, undef] | ((with_reducible refine opK_c ?_); simp -dsimp only [go_sem, seval, encT, encK, hkI, hwr, hy, he, undef]; first | refine callK_r (by first | assumption | fail) (by first | exact .inl rfl | exact .inr rfl) ?_ | (refine callK_i (by assumption) ?_ ?_ ?_; (solve | (repeat (first | exact DLe.refl _ | exact DLe.nil _ | (refine DLe.tup ?_) | (refine DLe.agg ?_ rfl) | exact trivial | (refine And.intro ?_ ?_)))); (solve | exact .inl rfl | exact .inr rfl))) | fail | omega | exact decide_eq_true (by omega) | exact DLe.refl _)
            refine hC _ _ _ _ _ ?_ ⟨k + 1, g, hlt, rfl, rfl, rfl⟩ (weak_forget _ (by simp) (by rw [hst.out]; simp only [encT, Bool.not_true, Bool.false_eq_true, if_false]; rfl) (by (repeat' (first | exact trivial | (refine ⟨rfl, ?_⟩)))) (by first | rfl | simp only [belowH, belowE, belowC, belowL, belowR, belowP, belowL_d, belowR_d, List.length_cons, List.length_nil, Nat.reduceAdd, Nat.reduceLT, decide_true, Bool.and_self, Bool.and_true]) (by first | rfl | simp only [belowH, belowE, belowC, belowL, belowR, belowP, belowL_d, belowR_d, List.length_cons, List.length_nil, Nat.reduceAdd, Nat.reduceLT, decide_true, Bool.and_self, Bool.and_true]))
            have := hm.out; omega
          | false =>
            rw [b1] at hst he
            repeat' (first | (with_reducible refine And.intro ?_ ?_) | (with_reducible refine gK_i (fun _ => ?_) (fun _ => ?_)) | (with_reducible refine condS_i (fun _ => ?_) (fun _ => ?_)) | (with_reducible refine drw_i (by kernel_rfl)) | simp -dsimp only [go_sem, seval, *, encT, encK, hkI, hwr, hy, he, hb1, undef] | ((with_reducible refine opK_c ?_); simp -dsimp only [go_sem, seval, encT, encK, hkI, hwr, hy, he, hb1, undef]; first | refine callK_r (by first | assumption | fail) (by first | exact .inl rfl | exact .inr rfl) ?_ | (refine callK_i (by assumption) ?_ ?_ ?_; (solve | (repeat (first | exact DLe.refl _ | exact DLe.nil _ | (refine DLe.tup ?_) | (refine DLe.agg ?_ rfl) | exact trivial | (refine And.intro ?_ ?_)))); (solve | exact .inl rfl | exact .inr rfl))) | fail | omega | exact decide_eq_true (by omega) | exact DLe.refl _)
            refine hC _ _ _ _ _ ?_ ⟨k + 1, g + 1, hlt, rfl, rfl, rfl⟩ (weak_forget _ (by simp) (by rw [hst.out]; simp only [encT, Bool.not_false, if_true, List.map_append, List.map_cons, List.map_nil, ← dRows_app]; rfl) (by (repeat' (first | exact trivial | (refine ⟨rfl, ?_⟩)))) (by first | rfl | simp only [belowH, belowE, belowC, belowL, belowR, belowP, belowL_d, belowR_d, List.length_cons, List.length_nil, Nat.reduceAdd, Nat.reduceLT, decide_true, Bool.and_self, Bool.and_true]) (by first | rfl | simp only [belowH, belowE, belowC, belowL, belowR, belowP, belowL_d, belowR_d, List.length_cons, List.length_nil, Nat.reduceAdd, Nat.reduceLT, decide_true, Bool.and_self, Bool.and_true]))
            have := hm.out; omega
        · obtain rfl : k = n.links.length := by omega
          rw [List.take_length]
          have hr2 := hr.out
          rw [hr2]
          replace hr2 := Lib.hid hr2
          clear hC
          repeat' (first | (with_reducible refine And.intro ?_ ?_) | (with_reducible refine gK_i (fun _ => ?_) (fun _ => ?_)) | (with_reducible refine condS_i (fun _ => ?_) (fun _ => ?_)) | (with_reducible refine drw_i (by kernel_rfl)) | simp -dsimp only [go_sem, seval, *, encT, Int.lt_irrefl, undef] | ((with_reducible refine opK_c ?_); simp -dsimp only [go_sem, seval, encT, Int.lt_irrefl, undef]; first | refine callK_r (by first | assumption | fail) (by first | exact .inl rfl | exact .inr rfl) ?_ | (refine callK_i (by assumption) ?_ ?_ ?_; (solve | (repeat (first | exact DLe.refl _ | exact DLe.nil _ | (refine DLe.tup ?_) | (refine DLe.agg ?_ rfl) | exact trivial | (refine And.intro ?_ ?_)))); (solve | exact .inl rfl | exact .inr rfl))) | fail | omega | exact decide_eq_true (by omega) | exact DLe.refl _)
          all_goals exact (by repeat (first | exact DLe.refl _ | exact DLe.nil _ | (refine DLe.tup ?_) | (refine DLe.agg ?_ rfl) | exact trivial | (refine And.intro ?_ ?_)))
  · have h1 : (chkT n != 0) = true := by simpa using hc
    have hr : R = (Net.zero, chkT n) := by rw [hR.out]; unfold partN; rw [if_pos hc]
    rw [hr]
    replace hr := Lib.hid hr
    clear hR
    refine ps_i tab_ok mixed Tryz.func21 rfl Tryz.ntmps21 Tryz.results21 (by kernel_rfl) ?_
    repeat' (first | (with_reducible refine And.intro ?_ ?_) | (with_reducible refine gK_i (fun _ => ?_) (fun _ => ?_)) | (with_reducible refine condS_i (fun _ => ?_) (fun _ => ?_)) | (with_reducible refine drw_i (by kernel_rfl)) | simp -dsimp only [go_sem, seval, *, encT, h1] | ((with_reducible refine opK_c ?_); simp -dsimp only [go_sem, seval, encT, h1]; first | refine callK_r (by first | assumption | exact hck) (by first | exact .inl rfl | exact .inr rfl) ?_ | (refine callK_i (by assumption) ?_ ?_ ?_; (solve | (repeat (first | exact DLe.refl _ | exact DLe.nil _ | (refine DLe.tup ?_) | (refine DLe.agg ?_ rfl) | exact trivial | (refine And.intro ?_ ?_)))); (solve | exact .inl rfl | exact .inr rfl))) | fail | omega | exact decide_eq_true (by omega) | exact DLe.refl _)
    exact (by repeat (first | exact DLe.refl _ | exact DLe.nil _ | (refine DLe.tup ?_) | (refine DLe.agg ?_ rfl) | exact trivial | (refine And.intro ?_ ?_)))
end Go.Proofs.YtgmbhaclogabeaaGreat
namespace Go.Proofs.YtgmbhaclogabeaaGreat
open Go Go.RowKit
set_option maxRecDepth 100000 in
set_option maxHeartbeats 4000000 in
theorem joinNet_p (n : Net) (a b : Int) (hz : NetZ n) : PSpec Tryz.prog 20 [.agg (encT n), .v (.int .i64 a), .v (.int .i64 b)] (.tup [.agg (encT (joinN n a b).1), .v (.int .i64 (joinN n a b).2)]) := by
  obtain ⟨R, hR⟩ : ∃ R, R = joinN n a b := ⟨_, rfl⟩
  rw [← hR]
  replace hR := Lib.hid hR
  have hck := checkNet_p n hz
  by_cases hc : chkT n = 0
  · have hok := netOK.1 hc
    have h6 := hok.n6
    have h12 := hok.n12
    have hR1 : R = if joinErr n a b ≠ 0 then (Net.zero, joinErr n a b) else ({ n with links := insK lkey (lnk a b) n.links }, 0) := by rw [hR.out]; unfold joinN; rw [if_neg (by simpa using hc)]
    rw [hc] at hck
    by_cases hab : a = b
    · have habI : (a == b) = true := by simpa using hab
      have hr : R = (Net.zero, 3) := by rw [hR1, show joinErr n a b = 3 by unfold joinErr; rw [if_pos hab]]; rfl
      rw [hr]
      clear hr hR hR1 hok hc
      replace hab := Lib.hid hab
      refine ps_i tab_ok mixed Tryz.func20 rfl Tryz.ntmps20 Tryz.results20 (by kernel_rfl) ?_
      repeat' (first | (with_reducible refine And.intro ?_ ?_) | (with_reducible refine gK_i (fun _ => ?_) (fun _ => ?_)) | (with_reducible refine condS_i (fun _ => ?_) (fun _ => ?_)) | (with_reducible refine drw_i (by kernel_rfl)) | simp -dsimp only [go_sem, seval, *, encT, habI, undef] | ((with_reducible refine opK_c ?_); simp -dsimp only [go_sem, seval, encT, habI, undef]; first | refine callK_r (by first | assumption | exact hck) (by first | exact .inl rfl | exact .inr rfl) ?_ | (refine callK_i (by assumption) ?_ ?_ ?_; (solve | (repeat (first | exact DLe.refl _ | exact DLe.nil _ | (refine DLe.tup ?_) | (refine DLe.agg ?_ rfl) | exact trivial | (refine And.intro ?_ ?_)))); (solve | exact .inl rfl | exact .inr rfl))) | fail | omega | exact decide_eq_true (by omega) | exact DLe.refl _)
      all_goals exact (by repeat (first | exact DLe.refl _ | exact DLe.nil _ | (refine DLe.tup ?_) | (refine DLe.agg ?_ rfl) | exact trivial | (refine And.intro ?_ ?_)))
    have habI : (a == b) = false := by simpa using hab
    have hfa := vpcAt_p n a (by omega)
    have hfb := vpcAt_p n b (by omega)
    rw [vpcAt_ix] at hfa hfb
    have hm1 : decide ((-1 : Int) < 0) = true := rfl
    cases hxa : vpcIx n a with
    | none =>
      rw [hxa] at hfa
      simp only at hfa
      have hr : R = (Net.zero, 5) := by rw [hR1, show joinErr n a b = 5 by unfold joinErr; rw [if_neg hab, vpcIx_none hxa]; simp]; rfl
      rw [hr]
      clear hr hR hR1 hok hc hxa hfb
      replace hab := Lib.hid hab
      refine ps_i tab_ok mixed Tryz.func20 rfl Tryz.ntmps20 Tryz.results20 (by kernel_rfl) ?_
      repeat' (first | (with_reducible refine And.intro ?_ ?_) | (with_reducible refine gK_i (fun _ => ?_) (fun _ => ?_)) | (with_reducible refine condS_i (fun _ => ?_) (fun _ => ?_)) | (with_reducible refine drw_i (by kernel_rfl)) | simp -dsimp only [go_sem, seval, *, encT, habI, hm1, undef] | ((with_reducible refine opK_c ?_); simp -dsimp only [go_sem, seval, encT, habI, hm1, undef]; first | refine callK_r (by first | assumption | exact hck | exact hfa) (by first | exact .inl rfl | exact .inr rfl) ?_ | (refine callK_i (by assumption) ?_ ?_ ?_; (solve | (repeat (first | exact DLe.refl _ | exact DLe.nil _ | (refine DLe.tup ?_) | (refine DLe.agg ?_ rfl) | exact trivial | (refine And.intro ?_ ?_)))); (solve | exact .inl rfl | exact .inr rfl))) | fail | omega | exact decide_eq_true (by omega) | exact DLe.refl _)
      all_goals exact (by repeat (first | exact DLe.refl _ | exact DLe.nil _ | (refine DLe.tup ?_) | (refine DLe.agg ?_ rfl) | exact trivial | (refine And.intro ?_ ?_)))
    | some ia =>
    rw [hxa] at hfa
    simp only at hfa
    obtain ⟨va, hva, hea, hia, hfsa⟩ := vpcIx_some hxa
    have hia0 : decide ((ia : Int) < 0) = false := by simp
    cases hxb : vpcIx n b with
    | none =>
      rw [hxb] at hfb
      simp only at hfb
      have hr : R = (Net.zero, 5) := by rw [hR1, show joinErr n a b = 5 by unfold joinErr; rw [if_neg hab, vpcIx_none hxb]; simp]; rfl
      rw [hr]
      clear hr hR hR1 hok hc hxa hxb hva hea hfsa
      replace hab := Lib.hid hab
      refine ps_i tab_ok mixed Tryz.func20 rfl Tryz.ntmps20 Tryz.results20 (by kernel_rfl) ?_
      repeat' (first | (with_reducible refine And.intro ?_ ?_) | (with_reducible refine gK_i (fun _ => ?_) (fun _ => ?_)) | (with_reducible refine condS_i (fun _ => ?_) (fun _ => ?_)) | (with_reducible refine drw_i (by kernel_rfl)) | simp -dsimp only [go_sem, seval, *, encT, habI, hm1, hia0, undef] | ((with_reducible refine opK_c ?_); simp -dsimp only [go_sem, seval, encT, habI, hm1, hia0, undef]; first | refine callK_r (by first | assumption | exact hck | exact hfa | exact hfb) (by first | exact .inl rfl | exact .inr rfl) ?_ | (refine callK_i (by assumption) ?_ ?_ ?_; (solve | (repeat (first | exact DLe.refl _ | exact DLe.nil _ | (refine DLe.tup ?_) | (refine DLe.agg ?_ rfl) | exact trivial | (refine And.intro ?_ ?_)))); (solve | exact .inl rfl | exact .inr rfl))) | fail | omega | exact decide_eq_true (by omega) | exact DLe.refl _)
      all_goals exact (by repeat (first | exact DLe.refl _ | exact DLe.nil _ | (refine DLe.tup ?_) | (refine DLe.agg ?_ rfl) | exact trivial | (refine And.intro ?_ ?_)))
    | some ib =>
    rw [hxb] at hfb
    simp only at hfb
    obtain ⟨vb, hvb, heb, hib, hfsb⟩ := vpcIx_some hxb
    have hib0 : decide ((ib : Int) < 0) = false := by simp
    have hlq := linkedR_p n a b (by omega)
    rw [linkedN_eq] at hlq
    have hpe := join_peace hok a b
    have hR2 : R = if lnk a b ∈ n.links then (Net.zero, 6) else if warN n a b = true then (Net.zero, 9) else if n.links.length + 1 > 12 then (Net.zero, 2) else ({ n with links := insK lkey (lnk a b) n.links }, 0) := by
      rw [hR1]; unfold joinErr; rw [if_neg hab, hfsa, hfsb, hpe]; simp only [reduceCtorEq, or_self, if_false]
      split
      · rfl
      · cases warN n a b
        · simp only [Bool.not_false, Bool.true_eq_false, if_false]
          split <;> rfl
        · rfl
    clear hR hR1 hpe
    by_cases hin : lnk a b ∈ n.links
    · have hr : R = (Net.zero, 6) := by rw [hR2, if_pos hin]
      rw [decide_eq_true hin] at hlq
      rw [hr]
      clear hr hR2 hok hc hxa hxb hva hea hfsa hvb heb hfsb hin
      replace hab := Lib.hid hab
      refine ps_i tab_ok mixed Tryz.func20 rfl Tryz.ntmps20 Tryz.results20 (by kernel_rfl) ?_
      repeat' (first | (with_reducible refine And.intro ?_ ?_) | (with_reducible refine gK_i (fun _ => ?_) (fun _ => ?_)) | (with_reducible refine condS_i (fun _ => ?_) (fun _ => ?_)) | (with_reducible refine drw_i (by kernel_rfl)) | simp -dsimp only [go_sem, seval, *, encT, habI, hia0, hib0, undef] | ((with_reducible refine opK_c ?_); simp -dsimp only [go_sem, seval, encT, habI, hia0, hib0, undef]; first | refine callK_r (by first | assumption | exact hck | exact hfa | exact hfb | exact hlq) (by first | exact .inl rfl | exact .inr rfl) ?_ | (refine callK_i (by assumption) ?_ ?_ ?_; (solve | (repeat (first | exact DLe.refl _ | exact DLe.nil _ | (refine DLe.tup ?_) | (refine DLe.agg ?_ rfl) | exact trivial | (refine And.intro ?_ ?_)))); (solve | exact .inl rfl | exact .inr rfl))) | fail | omega | exact decide_eq_true (by omega) | exact DLe.refl _)
      all_goals exact (by repeat (first | exact DLe.refl _ | exact DLe.nil _ | (refine DLe.tup ?_) | (refine DLe.agg ?_ rfl) | exact trivial | (refine And.intro ?_ ?_)))
    rw [if_neg hin] at hR2
    rw [decide_eq_false hin] at hlq
    have hidl : ∀ l ∈ n.links, l.a ∈ n.vpcs.map (·.id) ∧ l.b ∈ n.vpcs.map (·.id) ∧ l.a < l.b := fun l hl => by
      have := hok.lk l hl
      unfold lnkB at this
      simp only [Bool.and_eq_true, decide_eq_true_eq] at this
      exact ⟨find_ids this.1, find_ids this.2.1, this.2.2⟩
    have hga := groupR_p n a ia hxa h6 h12 hok.rise hidl
    have hgb := groupR_p n b ib hxb h6 h12 hok.rise hidl
    have hgla := grp_len n a
    have hglb := grp_len n b
    have hata : ∀ (k : Nat) (x : Int), (grpN n a)[k]? = some x → ∃ j w, n.vpcs[j]? = some w ∧ w.id = x ∧ vpcIx n x = some j ∧ headN n x = headN n a := fun k x h => grp_at hok.rise h
    have hatb : ∀ (k : Nat) (x : Int), (grpN n b)[k]? = some x → ∃ j w, n.vpcs[j]? = some w ∧ w.id = x ∧ vpcIx n x = some j ∧ headN n x = headN n b := fun k x h => grp_at hok.rise h
    have hema : ∀ w ∈ n.vpcs, headN n w.id = headN n a → w.id ∈ grpN n a := fun w hw h => grp_mem hw h
    have hemb : ∀ w ∈ n.vpcs, headN n w.id = headN n b → w.id ∈ grpN n b := fun w hw h => grp_mem hw h
    have hob := ownNet_m n hok.n6 hok.n12 hok.vp
    have hsid : ∀ (i j : Nat) (u v : Vpc), n.vpcs[i]? = some u → n.vpcs[j]? = some v → u.id = v.id → u = v := fun i j u v hu hv h => by
      have e1 := vpcIx_at hok.rise hu
      have e2 := vpcIx_at hok.rise hv
      rw [h, e2] at e1
      cases e1
      rw [hu] at hv
      exact Option.some.inj hv
    have hlb : ∀ l ∈ n.links, 1 ≤ l.b ∧ l.b ≤ 65536 := fun l hl => hok.bd (hok.ids l hl).2
    have hlkb : 1 ≤ (lnk a b).b ∧ (lnk a b).b ≤ 65536 := by
      have h1 := hok.bd (find_ids (n := n) (x := a) (by rw [hfsa]; rfl))
      have h2 := hok.bd (find_ids (n := n) (x := b) (by rw [hfsb]; rfl))
      rcases lnk_cases a b with ⟨e, -⟩ | ⟨e, -⟩
      · rw [e]; exact h2
      · rw [e]; exact h1
    have hsrt := hok.lsort
    have hne : ∀ y ∈ n.links, lkey y ≠ lkey (lnk a b) := fun y hy e => hin (by rw [← lkey_inj (hlb y hy) hlkb e]; exact hy)
    have hrg : ∀ (j : Nat) (w : Vpc), n.vpcs[j]? = some w → w.ranges.length ≤ 4 := fun j w hw => (vpcOK_of (hok.vp w (List.mem_of_getElem? hw))).n4
    have hnm : ∀ (i j : Nat) (v w : Vpc), n.vpcs[i]? = some v → n.vpcs[j]? = some w → headN n v.id = headN n a → headN n w.id = headN n b → v.id ≠ w.id → clashV v w = true → warN n a b = true := fun i j v w hv hw h1 h2 h3 h4 => war_hit (List.mem_of_getElem? hv) (List.mem_of_getElem? hw) h1 h2 h3 h4
    clear hok hc hxa hxb hva hea hfsa hvb heb hfsb hin hidl
    replace hR2 := Lib.hid hR2
    replace hata := Lib.hid hata
    replace hatb := Lib.hid hatb
    replace hema := Lib.hid hema
    replace hemb := Lib.hid hemb
    replace hlb := Lib.hid hlb
    replace hlkb := Lib.hid hlkb
    replace hsrt := Lib.hid hsrt
    replace hne := Lib.hid hne
    replace hrg := Lib.hid hrg
    replace hnm := Lib.hid hnm
    replace hsid := Lib.hid hsid
    replace hab := Lib.hid hab
    obtain ⟨GA, hGA⟩ : ∃ GA, GA = grpN n a := ⟨_, rfl⟩
    obtain ⟨GB, hGB⟩ : ∃ GB, GB = grpN n b := ⟨_, rfl⟩
    rw [← hGA] at hga hgla hata hema
    rw [← hGB] at hgb hglb hatb hemb
    clear hGA hGB
    refine ps_i tab_ok mixed Tryz.func20 rfl Tryz.ntmps20 Tryz.results20 (by kernel_rfl) ?_
    repeat' (first | (with_reducible refine And.intro ?_ ?_) | (with_reducible refine gK_i (fun _ => ?_) (fun _ => ?_)) | (with_reducible refine condS_i (fun _ => ?_) (fun _ => ?_)) | (with_reducible refine drw_i (by kernel_rfl)) | simp -dsimp only [go_sem, seval, *, encT, habI, hia0, hib0, undef] | ((with_reducible refine opK_c ?_); simp -dsimp only [go_sem, seval, encT, habI, hia0, hib0, undef]; first | refine callK_r (by first | assumption | exact hck | exact hfa | exact hfb | exact hlq | exact hga | exact hgb) (by first | exact .inl rfl | exact .inr rfl) ?_ | (refine callK_i (by assumption) ?_ ?_ ?_; (solve | (repeat (first | exact DLe.refl _ | exact DLe.nil _ | (refine DLe.tup ?_) | (refine DLe.agg ?_ rfl) | exact trivial | (refine And.intro ?_ ?_)))); (solve | exact .inl rfl | exact .inr rfl))) | fail | omega | exact decide_eq_true (by omega) | exact DLe.refl _)
    clear hck hfa hfb hlq hga hgb
    refine loopL tab_ok mixed GA (fun i => ∀ v ∈ n.vpcs, ∀ w ∈ n.vpcs, v.id ∈ GA.take i → w.id ∈ GB → v.id ≠ w.id → clashV v w = false) (fun i => [(11, .d (.v (.int .i64 i))), (10, .d (.sl 1 (GB.map encA))), (9, .d (.sl 1 (GA.map encA))), (7, .d (.v (.int .i64 0))), (6, .ptr 1 0), (3, .ptr 0 0), (2, .d (.v (.int .i64 b))), (1, .d (.v (.int .i64 a)))]) (fun _ => [.box 25 ((encT n).map .d), .box 25 [.d (.v (.slice none 0 0)), .d (.v (.slice none 0 0))]]) (by simp) (weak_forget _ (by simp) (by (try simp only [encT]); rfl) (by (repeat' (first | exact trivial | (refine ⟨rfl, ?_⟩)))) (by first | rfl | simp only [belowH, belowE, belowC, belowL, belowR, belowP, belowL_d, belowR_d, List.length_cons, List.length_nil, Nat.reduceAdd, Nat.reduceLT, decide_true, Bool.and_self, Bool.and_true]) (by first | rfl | simp only [belowH, belowE, belowC, belowL, belowR, belowP, belowL_d, belowR_d, List.length_cons, List.length_nil, Nat.reduceAdd, Nat.reduceLT, decide_true, Bool.and_self, Bool.and_true])) ?_ ?_
    · intro i x hx hi hI C hC
      have hiI : (i : Int) < (GA.length : Int) := by omega
      have hwi : IntKind.i64.wrap ((i : Int) + 1) = ((i + 1 : Nat) : Int) := by rw [IntKind.wrap_i64]; omega
      obtain ⟨p, v, hv, hvx, hpx, hhx⟩ := hata.out i x hx
      have hst : (∀ w ∈ n.vpcs, w.id ∈ GB → v.id ≠ w.id → clashV v w = false) → ∀ v ∈ n.vpcs, ∀ w ∈ n.vpcs, v.id ∈ GA.take (i + 1) → w.id ∈ GB → v.id ≠ w.id → clashV v w = false := fun h u hu w hw hug hwg hne => by
        rw [take_snoc hx] at hug
        rcases List.mem_append.1 hug with hug | hug
        · exact hI u hu w hw hug hwg hne
        · have e1 : u.id = x := List.mem_singleton.1 hug
          obtain ⟨q, hq⟩ := List.mem_iff_getElem?.1 hu
          have e3 : u = v := hsid.out q p u v hq hv (e1.trans hvx.symm)
          rw [e3] at hne ⊢
          exact h w hw hwg hne
      replace hI := Lib.hid hI
      replace hst := Lib.hid hst
      repeat' (first | (with_reducible refine And.intro ?_ ?_) | (with_reducible refine gK_i (fun _ => ?_) (fun _ => ?_)) | (with_reducible refine condS_i (fun _ => ?_) (fun _ => ?_)) | (with_reducible refine drw_i (by kernel_rfl)) | simp -dsimp only [go_sem, seval, *, encT, hiI] | ((with_reducible refine opK_c ?_); simp -dsimp only [go_sem, seval, encT, hiI]; first | refine callK_r (by first | assumption | fail) (by first | exact .inl rfl | exact .inr rfl) ?_ | (refine callK_i (by assumption) ?_ ?_ ?_; (solve | (repeat (first | exact DLe.refl _ | exact DLe.nil _ | (refine DLe.tup ?_) | (refine DLe.agg ?_ rfl) | exact trivial | (refine And.intro ?_ ?_)))); (solve | exact .inl rfl | exact .inr rfl))) | fail | omega | exact decide_eq_true (by omega) | exact DLe.refl _)
      refine loopL tab_ok mixed GB (fun j => ∀ w ∈ n.vpcs, w.id ∈ GB.take j → v.id ≠ w.id → clashV v w = false) (fun j => [(12, .d (.v (.int .i64 j))), (11, .d (.v (.int .i64 i))), (10, .d (.sl 1 (GB.map encA))), (9, .d (.sl 1 (GA.map encA))), (7, .d (.v (.int .i64 0))), (6, .ptr 1 0), (3, .ptr 0 0), (2, .d (.v (.int .i64 b))), (1, .d (.v (.int .i64 a)))]) (fun _ => [.box 25 ((encT n).map .d), .box 25 [.d (.v (.slice none 0 0)), .d (.v (.slice none 0 0))]]) (by simp) (weak_forget _ (by simp) (by (try simp only [encT]); rfl) (by (repeat' (first | exact trivial | (refine ⟨rfl, ?_⟩)))) (by first | rfl | simp only [belowH, belowE, belowC, belowL, belowR, belowP, belowL_d, belowR_d, List.length_cons, List.length_nil, Nat.reduceAdd, Nat.reduceLT, decide_true, Bool.and_self, Bool.and_true]) (by first | rfl | simp only [belowH, belowE, belowC, belowL, belowR, belowP, belowL_d, belowR_d, List.length_cons, List.length_nil, Nat.reduceAdd, Nat.reduceLT, decide_true, Bool.and_self, Bool.and_true])) ?_ ?_
      · intro j y hy hj hJ C2 hC2
        have hjI : (j : Int) < (GB.length : Int) := by omega
        have hwj : IntKind.i64.wrap ((j : Int) + 1) = ((j + 1 : Nat) : Int) := by rw [IntKind.wrap_i64]; omega
        obtain ⟨q, w, hw, hwy, hqy, hhy⟩ := hatb.out j y hy
        have hJ2 : (x ≠ y → clashV v w = false) → ∀ w ∈ n.vpcs, w.id ∈ GB.take (j + 1) → v.id ≠ w.id → clashV v w = false := fun h u hu hug hne => by
          rw [take_snoc hy] at hug
          rcases List.mem_append.1 hug with hug | hug
          · exact hJ u hu hug hne
          · have e1 : u.id = y := List.mem_singleton.1 hug
            obtain ⟨r, hr⟩ := List.mem_iff_getElem?.1 hu
            have e3 : u = w := hsid.out r q u w hr hw (e1.trans hwy.symm)
            rw [e3] at hne ⊢
            exact h (by rw [← hvx, ← hwy]; exact hne)
        by_cases hxy : x = y
        · have e1 : (x != y) = false := by simpa using hxy
          have hn := hJ2 fun h => absurd hxy h
          clear hJ2 hJ
          replace hn := Lib.hid hn
          replace hxy := Lib.hid hxy
          replace hvx := Lib.hid hvx
          replace hwy := Lib.hid hwy
          repeat' (first | (with_reducible refine And.intro ?_ ?_) | (with_reducible refine gK_i (fun _ => ?_) (fun _ => ?_)) | (with_reducible refine condS_i (fun _ => ?_) (fun _ => ?_)) | (with_reducible refine drw_i (by kernel_rfl)) | simp -dsimp only [go_sem, seval, *, encT, encA, hiI, hjI, hwj, hx, hy, e1, undef] | ((with_reducible refine opK_c ?_); simp -dsimp only [go_sem, seval, encT, encA, hiI, hjI, hwj, hx, hy, e1, undef]; first | refine callK_r (by first | assumption | fail) (by first | exact .inl rfl | exact .inr rfl) ?_ | (refine callK_i (by assumption) ?_ ?_ ?_; (solve | (repeat (first | exact DLe.refl _ | exact DLe.nil _ | (refine DLe.tup ?_) | (refine DLe.agg ?_ rfl) | exact trivial | (refine And.intro ?_ ?_)))); (solve | exact .inl rfl | exact .inr rfl))) | fail | omega | exact decide_eq_true (by omega) | exact DLe.refl _)
          exact hC2 _ _ hn.out (weak_forget _ (by simp) (by (try simp only [encT]); rfl) (by (repeat' (first | exact trivial | (refine ⟨rfl, ?_⟩)))) (by first | rfl | simp only [belowH, belowE, belowC, belowL, belowR, belowP, belowL_d, belowR_d, List.length_cons, List.length_nil, Nat.reduceAdd, Nat.reduceLT, decide_true, Bool.and_self, Bool.and_true]) (by first | rfl | simp only [belowH, belowE, belowC, belowL, belowR, belowP, belowL_d, belowR_d, List.length_cons, List.length_nil, Nat.reduceAdd, Nat.reduceLT, decide_true, Bool.and_self, Bool.and_true]))
        · have e1 : (x != y) = true := by simpa using hxy
          have hatx := vpcAt_p n x (by omega)
          have haty := vpcAt_p n y (by omega)
          rw [vpcAt_ix, hpx] at hatx
          rw [vpcAt_ix, hqy] at haty
          simp only at hatx haty
          have hr1 := hrg.out p v hv
          have hr2 := hrg.out q w hw
          have hcl := clashR_p v w (by omega) (by omega)
          have hp0 : (0 : Int) ≤ (p : Int) := by omega
          have hq0 : (0 : Int) ≤ (q : Int) := by omega
          have hpl : (p : Int) < (n.vpcs.length : Int) := by have := (List.getElem?_eq_some_iff.1 hv).1; omega
          have hql : (q : Int) < (n.vpcs.length : Int) := by have := (List.getElem?_eq_some_iff.1 hw).1; omega
          clear hr1 hr2
          replace hJ := Lib.hid hJ
          replace hpx := Lib.hid hpx
          replace hqy := Lib.hid hqy
          cases hb : clashV v w with
          | true =>
            have hr : R = (Net.zero, 9) := by
              rw [hR2.out, if_pos (hnm.out p q v w hv hw (by rw [hvx]; exact hhx) (by rw [hwy]; exact hhy) (by rw [hvx, hwy]; exact hxy) hb)]
            rw [hb] at hcl
            rw [hr]
            clear hr hJ2 hb hhx hhy
            replace hxy := Lib.hid hxy
            replace hvx := Lib.hid hvx
            replace hwy := Lib.hid hwy
            repeat' (first | (with_reducible refine And.intro ?_ ?_) | (with_reducible refine gK_i (fun _ => ?_) (fun _ => ?_)) | (with_reducible refine condS_i (fun _ => ?_) (fun _ => ?_)) | (with_reducible refine drw_i (by kernel_rfl)) | simp -dsimp only [go_sem, seval, *, encT, encV, encA, hiI, hjI, hwj, hx, hy, hv, hw, e1, hp0, hq0, hpl, hql, undef] | ((with_reducible refine opK_c ?_); simp -dsimp only [go_sem, seval, encT, encV, encA, hiI, hjI, hwj, hx, hy, hv, hw, e1, hp0, hq0, hpl, hql, undef]; first | refine callK_r (by first | assumption | exact hatx | exact haty | exact hcl) (by first | exact .inl rfl | exact .inr rfl) ?_ | (refine callK_i (by assumption) ?_ ?_ ?_; (solve | (repeat (first | exact DLe.refl _ | exact DLe.nil _ | (refine DLe.tup ?_) | (refine DLe.agg ?_ rfl) | exact trivial | (refine And.intro ?_ ?_)))); (solve | exact .inl rfl | exact .inr rfl))) | fail | omega | exact decide_eq_true (by omega) | exact DLe.refl _)
            all_goals exact (by repeat (first | exact DLe.refl _ | exact DLe.nil _ | (refine DLe.tup ?_) | (refine DLe.agg ?_ rfl) | exact trivial | (refine And.intro ?_ ?_)))
          | false =>
            have hn := hJ2 fun _ => hb
            rw [hb] at hcl
            clear hJ2 hb hhx hhy
            replace hn := Lib.hid hn
            replace hxy := Lib.hid hxy
            replace hvx := Lib.hid hvx
            replace hwy := Lib.hid hwy
            repeat' (first | (with_reducible refine And.intro ?_ ?_) | (with_reducible refine gK_i (fun _ => ?_) (fun _ => ?_)) | (with_reducible refine condS_i (fun _ => ?_) (fun _ => ?_)) | (with_reducible refine drw_i (by kernel_rfl)) | simp -dsimp only [go_sem, seval, *, encT, encV, encA, hiI, hjI, hwj, hx, hy, hv, hw, e1, hp0, hq0, hpl, hql, undef] | ((with_reducible refine opK_c ?_); simp -dsimp only [go_sem, seval, encT, encV, encA, hiI, hjI, hwj, hx, hy, hv, hw, e1, hp0, hq0, hpl, hql, undef]; first | refine callK_r (by first | assumption | exact hatx | exact haty | exact hcl) (by first | exact .inl rfl | exact .inr rfl) ?_ | (refine callK_i (by assumption) ?_ ?_ ?_; (solve | (repeat (first | exact DLe.refl _ | exact DLe.nil _ | (refine DLe.tup ?_) | (refine DLe.agg ?_ rfl) | exact trivial | (refine And.intro ?_ ?_)))); (solve | exact .inl rfl | exact .inr rfl))) | fail | omega | exact decide_eq_true (by omega) | exact DLe.refl _)
            exact hC2 _ _ hn.out (weak_forget _ (by simp) (by (try simp only [encT]); rfl) (by (repeat' (first | exact trivial | (refine ⟨rfl, ?_⟩)))) (by first | rfl | simp only [belowH, belowE, belowC, belowL, belowR, belowP, belowL_d, belowR_d, List.length_cons, List.length_nil, Nat.reduceAdd, Nat.reduceLT, decide_true, Bool.and_self, Bool.and_true]) (by first | rfl | simp only [belowH, belowE, belowC, belowL, belowR, belowP, belowL_d, belowR_d, List.length_cons, List.length_nil, Nat.reduceAdd, Nat.reduceLT, decide_true, Bool.and_self, Bool.and_true]))
      · intro hJ C2
        rw [List.take_length] at hJ
        have hn := hst.out hJ
        replace hJ := Lib.hid hJ
        replace hn := Lib.hid hn
        replace hvx := Lib.hid hvx
        repeat' (first | (with_reducible refine And.intro ?_ ?_) | (with_reducible refine gK_i (fun _ => ?_) (fun _ => ?_)) | (with_reducible refine condS_i (fun _ => ?_) (fun _ => ?_)) | (with_reducible refine drw_i (by kernel_rfl)) | simp -dsimp only [go_sem, seval, *, encT, hwi, Int.lt_irrefl] | ((with_reducible refine opK_c ?_); simp -dsimp only [go_sem, seval, encT, hwi, Int.lt_irrefl]; first | refine callK_r (by first | assumption | fail) (by first | exact .inl rfl | exact .inr rfl) ?_ | (refine callK_i (by assumption) ?_ ?_ ?_; (solve | (repeat (first | exact DLe.refl _ | exact DLe.nil _ | (refine DLe.tup ?_) | (refine DLe.agg ?_ rfl) | exact trivial | (refine And.intro ?_ ?_)))); (solve | exact .inl rfl | exact .inr rfl))) | fail | omega | exact decide_eq_true (by omega) | exact DLe.refl _)
        exact hC _ _ hn.out (weak_forget _ (by simp) (by (try simp only [encT]); rfl) (by (repeat' (first | exact trivial | (refine ⟨rfl, ?_⟩)))) (by first | rfl | simp only [belowH, belowE, belowC, belowL, belowR, belowP, belowL_d, belowR_d, List.length_cons, List.length_nil, Nat.reduceAdd, Nat.reduceLT, decide_true, Bool.and_self, Bool.and_true]) (by first | rfl | simp only [belowH, belowE, belowC, belowL, belowR, belowP, belowL_d, belowR_d, List.length_cons, List.length_nil, Nat.reduceAdd, Nat.reduceLT, decide_true, Bool.and_self, Bool.and_true]))
    · intro hI C
      rw [List.take_length] at hI
      have hwar : warN n a b = false := by
        cases hw : warN n a b with
        | false => rfl
        | true =>
          unfold warN at hw
          obtain ⟨v, hv, h⟩ := List.any_eq_true.1 hw
          rw [Bool.and_eq_true, beq_iff_eq] at h
          obtain ⟨h1, h⟩ := h
          obtain ⟨w, hw, h⟩ := List.any_eq_true.1 h
          simp only [Bool.and_eq_true, beq_iff_eq, bne_iff_ne, ne_eq] at h
          obtain ⟨h2, h3, h4⟩ := h
          rw [hI v hv w hw (hema.out v hv h1) (hemb.out w hw h2) h3] at h4
          cases h4
      have hR3 : R = if n.links.length + 1 > 12 then (Net.zero, 2) else ({ n with links := insK lkey (lnk a b) n.links }, 0) := by rw [hR2.out, hwar, if_neg (by simp)]
      clear hI hwar hema hemb hata hatb hnm
      by_cases h12b : n.links.length = 12
      · have hd : decide ((n.links.length : Int) ≥ 12) = true := by simp; omega
        have hr : R = (Net.zero, 2) := by rw [hR3, if_pos (by omega)]
        rw [hr]
        clear hr hR3
        replace h12b := Lib.hid h12b
        repeat' (first | (with_reducible refine And.intro ?_ ?_) | (with_reducible refine gK_i (fun _ => ?_) (fun _ => ?_)) | (with_reducible refine condS_i (fun _ => ?_) (fun _ => ?_)) | (with_reducible refine drw_i (by kernel_rfl)) | simp -dsimp only [go_sem, seval, *, encT, hd, Int.lt_irrefl, undef] | ((with_reducible refine opK_c ?_); simp -dsimp only [go_sem, seval, encT, hd, Int.lt_irrefl, undef]; first | refine callK_r (by first | assumption | fail) (by first | exact .inl rfl | exact .inr rfl) ?_ | (refine callK_i (by assumption) ?_ ?_ ?_; (solve | (repeat (first | exact DLe.refl _ | exact DLe.nil _ | (refine DLe.tup ?_) | (refine DLe.agg ?_ rfl) | exact trivial | (refine And.intro ?_ ?_)))); (solve | exact .inl rfl | exact .inr rfl))) | fail | omega | exact decide_eq_true (by omega) | exact DLe.refl _)
        all_goals exact (by repeat (first | exact DLe.refl _ | exact DLe.nil _ | (refine DLe.tup ?_) | (refine DLe.agg ?_ rfl) | exact trivial | (refine And.intro ?_ ?_)))
      · have hd : decide ((n.links.length : Int) ≥ 12) = false := by simp; omega
        have hr : R = ({ n with links := insK lkey (lnk a b) n.links }, 0) := by rw [hR3, if_neg (by omega)]
        have hb1 : n.links.length + 1 ≤ 100 := by omega
        have hwl : IntKind.i64.wrap (((n.links.length + 1 : Nat) : Int) - 1) = (n.links.length : Int) := by rw [IntKind.wrap_i64]; omega
        clear hR3
        replace hr := Lib.hid hr
        replace h12b := Lib.hid h12b
        have hla : lnk a b = ⟨if b < a then b else a, if a < b then b else a⟩ := rfl
        repeat' (first | (with_reducible refine And.intro ?_ ?_) | (with_reducible refine gK_i (fun _ => ?_) (fun _ => ?_)) | (with_reducible refine condS_i (fun _ => ?_) (fun _ => ?_)) | (with_reducible refine drw_i (by kernel_rfl)) | simp -dsimp only [go_sem, seval, *, encT, hd, hb1, hwl, Int.lt_irrefl, undef] | ((with_reducible refine opK_c ?_); simp -dsimp only [go_sem, seval, encT, hd, hb1, hwl, Int.lt_irrefl, undef]; first | refine callK_r (by first | assumption | fail) (by first | exact .inl rfl | exact .inr rfl) ?_ | (refine callK_i (by assumption) ?_ ?_ ?_; (solve | (repeat (first | exact DLe.refl _ | exact DLe.nil _ | (refine DLe.tup ?_) | (refine DLe.agg ?_ rfl) | exact trivial | (refine And.intro ?_ ?_)))); (solve | exact .inl rfl | exact .inr rfl))) | (refine opK_M [] (hob) ?_ ?_ ?_ ?_ ?_ ?_; (solve | rfl | simp only [go_sem, seval, encT]); (solve | rfl); (solve | decide); (solve | simp); (solve | simp only [go_sem, seval, lentOK, encT])) | omega | exact decide_eq_true (by omega) | exact DLe.refl _)
        clear hob
        refine loopG tab_ok mixed (fun m e h => ∃ (q : Nat) (out : List Lnk), BubI lkey (lnk a b) n.links q out ∧ out.length = n.links.length + 1 ∧ m = q ∧ e = [(14, .d (.v (.int .i64 q))), (13, .ptr 7 0), (7, .d (.v (.int .i64 0))), (6, .ptr 1 0)] ∧
          h = [.box 25 ((encT n).map .d), .box 25 [.d (.v (.slice none 0 0)), .d (.v (.slice none 0 0))], .gone, .gone, .row 68 2 2 (dRows (out.map encK)), .gone, .row 56 3 n.vpcs.length (dRows (n.vpcs.map encV)), .box 25 [.own 6 n.vpcs.length, .own 4 2]]) _ _ _ ⟨n.links.length, n.links ++ [lnk a b], bub_0, by simp, rfl, rfl, rfl⟩ (weak_forget _ (by simp) (by rw [List.map_append]; rfl) (by (repeat' (first | exact trivial | (refine ⟨rfl, ?_⟩)))) (by first | rfl | simp only [belowH, belowE, belowC, belowL, belowR, belowP, belowL_d, belowR_d, belowR_zipG, subRow, faceRow, List.length_cons, List.length_nil, Nat.reduceAdd, Nat.reduceLT, decide_true, Bool.and_self, Bool.and_true]) (by first | rfl | simp only [belowH, belowE, belowC, belowL, belowR, belowP, belowL_d, belowR_d, belowR_zipG, subRow, faceRow, List.length_cons, List.length_nil, Nat.reduceAdd, Nat.reduceLT, decide_true, Bool.and_self, Bool.and_true])) ?_
        rintro m e h ⟨q, out, hbu, hol, hm, rfl, rfl⟩ C2 hC2
        clear hla
        generalize lnk a b = LK at *
        have hql := hbu.1
        have hx := bub_x hbu
        replace hbu := Lib.hid hbu
        replace hm := Lib.hid hm
        by_cases h0 : 0 < q
        · have hq0 : decide ((q : Int) > 0) = true := by simp; omega
          obtain ⟨y, hy⟩ : ∃ y, n.links[q - 1]? = some y := ⟨_, List.getElem?_eq_getElem (by omega)⟩
          have hy2 := bub_y hbu.out h0 hy
          have hwm : IntKind.i64.wrap ((q : Int) - 1) = ((q - 1 : Nat) : Int) := by rw [IntKind.wrap_i64]; omega
          have hq2 : q < out.length := by omega
          have hq3 : q - 1 < out.length := by omega
          have hkl := lkey_lt (hlb.out y (List.mem_of_getElem? hy)) hlkb.out
          have hkn := hne.out y (List.mem_of_getElem? hy)
          replace hol := Lib.hid hol
          replace h0 := Lib.hid h0
          replace hy := Lib.hid hy
          by_cases hlt : lkey y < lkey LK
          · have he := bub_e hbu.out hsrt.out (fun z _ hz => by
              rw [hy.out] at hz
              rw [← Option.some.inj hz]
              exact hlt)
            have hr2 := hr.out
            rw [← he] at hr2
            rw [hr2]
            have hcs := hkl.1 hlt
            clear hkl hkn hlt
            replace hr2 := Lib.hid hr2
            replace he := Lib.hid he
            by_cases hla : y.a < LK.a
            · have e1 : decide (y.a < LK.a) = true := by simpa using hla
              clear hcs hla
              repeat' (first | (with_reducible refine And.intro ?_ ?_) | (with_reducible refine gK_i (fun _ => ?_) (fun _ => ?_)) | (with_reducible refine condS_i (fun _ => ?_) (fun _ => ?_)) | (with_reducible refine drw_i (by kernel_rfl)) | simp -dsimp only [go_sem, seval, *, encT, encK, hq0, hx, hy2, hwm, e1, undef] | ((with_reducible refine opK_c ?_); simp -dsimp only [go_sem, seval, encT, encK, hq0, hx, hy2, hwm, e1, undef]; first | refine callK_r (by first | assumption | fail) (by first | exact .inl rfl | exact .inr rfl) ?_ | (refine callK_i (by assumption) ?_ ?_ ?_; (solve | (repeat (first | exact DLe.refl _ | exact DLe.nil _ | (refine DLe.tup ?_) | (refine DLe.agg ?_ rfl) | exact trivial | (refine And.intro ?_ ?_)))); (solve | exact .inl rfl | exact .inr rfl))) | fail | omega | exact decide_eq_true (by omega) | exact DLe.refl _)
              all_goals exact (by repeat (first | exact DLe.refl _ | exact DLe.nil _ | (refine DLe.tup ?_) | (refine DLe.agg ?_ rfl) | exact trivial | (refine And.intro ?_ ?_)))
            · have e1 : decide (y.a < LK.a) = false := by simpa using hla
              have e2 : (y.a == LK.a) = true := by simp; omega
              have e3 : decide (y.b < LK.b) = true := by simp; omega
              clear hcs hla
              repeat' (first | (with_reducible refine And.intro ?_ ?_) | (with_reducible refine gK_i (fun _ => ?_) (fun _ => ?_)) | (with_reducible refine condS_i (fun _ => ?_) (fun _ => ?_)) | (with_reducible refine drw_i (by kernel_rfl)) | simp -dsimp only [go_sem, seval, *, encT, encK, hq0, hx, hy2, hwm, e1, e2, e3, undef] | ((with_reducible refine opK_c ?_); simp -dsimp only [go_sem, seval, encT, encK, hq0, hx, hy2, hwm, e1, e2, e3, undef]; first | refine callK_r (by first | assumption | fail) (by first | exact .inl rfl | exact .inr rfl) ?_ | (refine callK_i (by assumption) ?_ ?_ ?_; (solve | (repeat (first | exact DLe.refl _ | exact DLe.nil _ | (refine DLe.tup ?_) | (refine DLe.agg ?_ rfl) | exact trivial | (refine And.intro ?_ ?_)))); (solve | exact .inl rfl | exact .inr rfl))) | fail | omega | exact decide_eq_true (by omega) | exact DLe.refl _)
              all_goals exact (by repeat (first | exact DLe.refl _ | exact DLe.nil _ | (refine DLe.tup ?_) | (refine DLe.agg ?_ rfl) | exact trivial | (refine And.intro ?_ ?_)))
          · have hcs : ¬ (y.a < LK.a ∨ (y.a = LK.a ∧ y.b < LK.b)) := fun h => hlt (hkl.2 h)
            have hb2 := bub_s hbu.out h0.out hy.out (show lkey y > lkey LK by omega)
            clear hkl hkn hlt
            replace hb2 := Lib.hid hb2
            have e1 : decide (y.a < LK.a) = false := by simp; omega
            have hsn : ∀ X : List PV, ((dRows (out.map encK)).set (q - 1) X)[q]? = some [.d (.v (.int .i64 LK.a)), .d (.v (.int .i64 LK.b))] := fun X => by
              rw [List.getElem?_set_ne (by have := h0.out; omega), dRows_get, List.getElem?_map, hx]; rfl
            by_cases hla : y.a = LK.a
            · have e2 : (y.a == LK.a) = true := by simpa using hla
              have e3 : decide (y.b < LK.b) = false := by simp; omega
              clear hcs hla
              repeat' (first | (with_reducible refine And.intro ?_ ?_) | (with_reducible refine gK_i (fun _ => ?_) (fun _ => ?_)) | (with_reducible refine condS_i (fun _ => ?_) (fun _ => ?_)) | (with_reducible refine drw_i (by kernel_rfl)) | simp -dsimp only [go_sem, seval, *, encT, encK, hq0, hx, hy2, hwm, e1, e2, e3, hsn, undef] | ((with_reducible refine opK_c ?_); simp -dsimp only [go_sem, seval, encT, encK, hq0, hx, hy2, hwm, e1, e2, e3, hsn, undef]; first | refine callK_r (by first | assumption | fail) (by first | exact .inl rfl | exact .inr rfl) ?_ | (refine callK_i (by assumption) ?_ ?_ ?_; (solve | (repeat (first | exact DLe.refl _ | exact DLe.nil _ | (refine DLe.tup ?_) | (refine DLe.agg ?_ rfl) | exact trivial | (refine And.intro ?_ ?_)))); (solve | exact .inl rfl | exact .inr rfl))) | fail | omega | exact decide_eq_true (by omega) | exact DLe.refl _)
              refine hC2 _ _ _ _ _ ?_ ⟨q - 1, (out.set (q - 1) LK).set q y, hb2.out, by rw [List.length_set, List.length_set]; exact hol.out, rfl, rfl, rfl⟩ (weak_forget _ (by simp) (by simp only [List.map_set, dRows]; rfl) (by (repeat' (first | exact trivial | (refine ⟨rfl, ?_⟩)))) (by first | rfl | simp only [belowH, belowE, belowC, belowL, belowR, belowP, belowL_d, belowR_d, belowR_zipG, subRow, faceRow, List.length_cons, List.length_nil, Nat.reduceAdd, Nat.reduceLT, decide_true, Bool.and_self, Bool.and_true]) (by first | rfl | simp only [belowH, belowE, belowC, belowL, belowR, belowP, belowL_d, belowR_d, belowR_zipG, subRow, faceRow, List.length_cons, List.length_nil, Nat.reduceAdd, Nat.reduceLT, decide_true, Bool.and_self, Bool.and_true]))
              have := hm.out; have := h0.out; omega
            · have e2 : (y.a == LK.a) = false := by simpa using hla
              clear hcs hla
              repeat' (first | (with_reducible refine And.intro ?_ ?_) | (with_reducible refine gK_i (fun _ => ?_) (fun _ => ?_)) | (with_reducible refine condS_i (fun _ => ?_) (fun _ => ?_)) | (with_reducible refine drw_i (by kernel_rfl)) | simp -dsimp only [go_sem, seval, *, encT, encK, hq0, hx, hy2, hwm, e1, e2, hsn, undef] | ((with_reducible refine opK_c ?_); simp -dsimp only [go_sem, seval, encT, encK, hq0, hx, hy2, hwm, e1, e2, hsn, undef]; first | refine callK_r (by first | assumption | fail) (by first | exact .inl rfl | exact .inr rfl) ?_ | (refine callK_i (by assumption) ?_ ?_ ?_; (solve | (repeat (first | exact DLe.refl _ | exact DLe.nil _ | (refine DLe.tup ?_) | (refine DLe.agg ?_ rfl) | exact trivial | (refine And.intro ?_ ?_)))); (solve | exact .inl rfl | exact .inr rfl))) | fail | omega | exact decide_eq_true (by omega) | exact DLe.refl _)
              refine hC2 _ _ _ _ _ ?_ ⟨q - 1, (out.set (q - 1) LK).set q y, hb2.out, by rw [List.length_set, List.length_set]; exact hol.out, rfl, rfl, rfl⟩ (weak_forget _ (by simp) (by simp only [List.map_set, dRows]; rfl) (by (repeat' (first | exact trivial | (refine ⟨rfl, ?_⟩)))) (by first | rfl | simp only [belowH, belowE, belowC, belowL, belowR, belowP, belowL_d, belowR_d, belowR_zipG, subRow, faceRow, List.length_cons, List.length_nil, Nat.reduceAdd, Nat.reduceLT, decide_true, Bool.and_self, Bool.and_true]) (by first | rfl | simp only [belowH, belowE, belowC, belowL, belowR, belowP, belowL_d, belowR_d, belowR_zipG, subRow, faceRow, List.length_cons, List.length_nil, Nat.reduceAdd, Nat.reduceLT, decide_true, Bool.and_self, Bool.and_true]))
              have := hm.out; have := h0.out; omega
        · have hq0 : decide ((q : Int) > 0) = false := by simp; omega
          have he := bub_e hbu.out hsrt.out (fun z h _ => absurd h h0)
          have hr2 := hr.out
          rw [← he] at hr2
          rw [hr2]
          replace hr2 := Lib.hid hr2
          replace he := Lib.hid he
          replace h0 := Lib.hid h0
          replace hol := Lib.hid hol
          repeat' (first | (with_reducible refine And.intro ?_ ?_) | (with_reducible refine gK_i (fun _ => ?_) (fun _ => ?_)) | (with_reducible refine condS_i (fun _ => ?_) (fun _ => ?_)) | (with_reducible refine drw_i (by kernel_rfl)) | simp -dsimp only [go_sem, seval, *, encT, encK, hq0, undef] | ((with_reducible refine opK_c ?_); simp -dsimp only [go_sem, seval, encT, encK, hq0, undef]; first | refine callK_r (by first | assumption | fail) (by first | exact .inl rfl | exact .inr rfl) ?_ | (refine callK_i (by assumption) ?_ ?_ ?_; (solve | (repeat (first | exact DLe.refl _ | exact DLe.nil _ | (refine DLe.tup ?_) | (refine DLe.agg ?_ rfl) | exact trivial | (refine And.intro ?_ ?_)))); (solve | exact .inl rfl | exact .inr rfl))) | fail | omega | exact decide_eq_true (by omega) | exact DLe.refl _)
          all_goals exact (by repeat (first | exact DLe.refl _ | exact DLe.nil _ | (refine DLe.tup ?_) | (refine DLe.agg ?_ rfl) | exact trivial | (refine And.intro ?_ ?_)))
  · have h1 : (chkT n != 0) = true := by simpa using hc
    have hr : R = (Net.zero, chkT n) := by rw [hR.out]; unfold joinN; rw [if_pos hc]
    rw [hr]
    replace hr := Lib.hid hr
    clear hR
    refine ps_i tab_ok mixed Tryz.func20 rfl Tryz.ntmps20 Tryz.results20 (by kernel_rfl) ?_
    repeat' (first | (with_reducible refine And.intro ?_ ?_) | (with_reducible refine gK_i (fun _ => ?_) (fun _ => ?_)) | (with_reducible refine condS_i (fun _ => ?_) (fun _ => ?_)) | (with_reducible refine drw_i (by kernel_rfl)) | simp -dsimp only [go_sem, seval, *, encT, h1] | ((with_reducible refine opK_c ?_); simp -dsimp only [go_sem, seval, encT, h1]; first | refine callK_r (by first | assumption | exact hck) (by first | exact .inl rfl | exact .inr rfl) ?_ | (refine callK_i (by assumption) ?_ ?_ ?_; (solve | (repeat (first | exact DLe.refl _ | exact DLe.nil _ | (refine DLe.tup ?_) | (refine DLe.agg ?_ rfl) | exact trivial | (refine And.intro ?_ ?_)))); (solve | exact .inl rfl | exact .inr rfl))) | fail | omega | exact decide_eq_true (by omega) | exact DLe.refl _)
    exact (by repeat (first | exact DLe.refl _ | exact DLe.nil _ | (refine DLe.tup ?_) | (refine DLe.agg ?_ rfl) | exact trivial | (refine And.intro ?_ ?_)))
end Go.Proofs.YtgmbhaclogabeaaGreat
