/- Texts of this work, joined: NetC, NetD, NetE, LN1, NetR1, NetP, NetF, NetR2, NetR3, LN2, MixG, LN3. -/
import Derived.Test.YtgmbhaclogabeaaGreatZHNetGrows4
import Derived.Sort.Grow
set_option linter.unusedSimpArgs false
set_option linter.unusedVariables false
namespace Go.Proofs.YtgmbhaclogabeaaGreat
open Go Go.RowKit
def lastV (l : List Vpc) : Int := (l.getLast?.map (·.id)).getD 0
theorem lastV_snoc (l : List Vpc) (v : Vpc) : lastV (l ++ [v]) = v.id := by simp [lastV]
theorem lastV_pair {l : List Vpc} (hs : l.Pairwise fun a b => a.id < b.id) {v : Vpc} (h : lastV l < v.id) : (l ++ [v]).Pairwise fun a b => a.id < b.id := by
  rw [List.pairwise_append]
  refine ⟨hs, by simp, fun a ha b hb => ?_⟩
  rw [List.mem_singleton.1 hb]
  rcases List.eq_nil_or_concat l with rfl | ⟨l', x, rfl⟩
  · cases ha
  · rw [List.concat_eq_append] at *
    rw [lastV_snoc] at h
    rw [List.pairwise_append] at hs
    rcases List.mem_append.1 ha with ha | ha
    · have := hs.2.2 a ha x (by simp); omega
    · rw [List.mem_singleton.1 ha]; exact h
theorem lastV_bad {l : List Vpc} {v : Vpc} (hv : 1 ≤ v.id) (h : v.id ≤ lastV l) : ¬ (l ++ [v]).Pairwise fun a b => a.id < b.id := by
  intro hp
  rw [List.pairwise_append] at hp
  rcases List.eq_nil_or_concat l with rfl | ⟨l', x, rfl⟩
  · simp [lastV] at h; omega
  · rw [List.concat_eq_append] at *
    rw [lastV_snoc] at h
    have := hp.2.2 x (by simp) v (by simp); omega
theorem vpcsB_take {n : Net} (h : vpcsB n = true) (k : Nat) : (∀ v ∈ n.vpcs.take k, chkV v = 0) ∧ (n.vpcs.take k).Pairwise fun a b => a.id < b.id := by
  unfold vpcsB at h
  simp only [Bool.and_eq_true, List.all_eq_true, risB_pair, beq_iff_eq] at h
  exact ⟨fun v hv => h.1 v (List.mem_of_mem_take hv), h.2.sublist (List.take_sublist _ _)⟩
theorem vpcsB_of {n : Net} (h1 : ∀ v ∈ n.vpcs, chkV v = 0) (h2 : n.vpcs.Pairwise fun a b => a.id < b.id) : vpcsB n = true := by
  unfold vpcsB
  simp only [Bool.and_eq_true, List.all_eq_true, risB_pair, beq_iff_eq]
  exact ⟨h1, h2⟩
theorem risK_snoc : ∀ (l : List Lnk) (x : Lnk), risK (l ++ [x]) = (risK l && (match l.getLast? with | some y => decide (ordK y x < 0) | none => true))
  | [], x => rfl
  | [a], x => by simp [risK]
  | a :: b :: l, x => by
    have ih := risK_snoc (b :: l) x
    have e : (a :: b :: l).getLast? = (b :: l).getLast? := by simp [List.getLast?_cons_cons]
    rw [List.cons_append, List.cons_append, risK, ← List.cons_append, ih, e, risK, Bool.and_assoc]
theorem risK_take {l : List Lnk} (h : risK l = true) (k : Nat) : risK (l.take k) = true := by
  rw [risK_at] at h ⊢
  intro j hj
  rw [List.getElem_take, List.getElem_take]
  exact h j (by rw [List.length_take] at hj; omega)
theorem last_take {α : Type} {l : List α} {j : Nat} {y : α} (h : l[j]? = some y) : (l.take (j + 1)).getLast? = some y := by rw [take_snoc h]; simp
set_option maxRecDepth 100000 in
set_option maxHeartbeats 2000000 in
theorem ncheck_p (n : Net) : PSpec Tryz.prog 15 [.agg (encT n)] (.v (.int .i64 (chkT n))) := by
  obtain ⟨R, hR⟩ : ∃ R, R = chkT n := ⟨_, rfl⟩
  rw [← hR]
  replace hR := Lib.hid hR
  by_cases h6 : n.vpcs.length > 6
  · have h6I : decide ((n.vpcs.length : Int) > 6) = true := by simp; omega
    have hr : R = 2 := by rw [hR.out, chkT, if_pos (.inl h6)]
    rw [hr]
    replace hr := Lib.hid hr
    refine ps_i tab_ok mixed Tryz.func15 rfl Tryz.ntmps15 Tryz.results15 (by kernel_rfl) ?_
    repeat' (first | (with_reducible refine And.intro ?_ ?_) | (with_reducible refine gK_i (fun _ => ?_) (fun _ => ?_)) | (with_reducible refine condS_i (fun _ => ?_) (fun _ => ?_)) | (with_reducible refine drw_i (by kernel_rfl)) | simp -dsimp only [go_sem, seval, *, encT, h6I, undef] | ((with_reducible refine opK_c ?_); simp -dsimp only [go_sem, seval, encT, h6I, undef]; first | refine callK_r (by first | assumption | fail) (by first | exact .inl rfl | exact .inr rfl) ?_ | (refine callK_i (by assumption) ?_ ?_ ?_; (solve | (repeat (first | exact DLe.refl _ | exact DLe.nil _ | (refine DLe.tup ?_) | (refine DLe.agg ?_ rfl) | exact trivial | (refine And.intro ?_ ?_)))); (solve | exact .inl rfl | exact .inr rfl))) | fail | omega | exact decide_eq_true (by omega) | exact DLe.refl _)
    all_goals exact DLe.refl _
  by_cases h12 : n.links.length > 12
  · have h6I : decide ((n.vpcs.length : Int) > 6) = false := by simp; omega
    have h12I : decide ((n.links.length : Int) > 12) = true := by simp; omega
    have hr : R = 2 := by rw [hR.out, chkT, if_pos (.inr h12)]
    rw [hr]
    replace hr := Lib.hid hr
    refine ps_i tab_ok mixed Tryz.func15 rfl Tryz.ntmps15 Tryz.results15 (by kernel_rfl) ?_
    repeat' (first | (with_reducible refine And.intro ?_ ?_) | (with_reducible refine gK_i (fun _ => ?_) (fun _ => ?_)) | (with_reducible refine condS_i (fun _ => ?_) (fun _ => ?_)) | (with_reducible refine drw_i (by kernel_rfl)) | simp -dsimp only [go_sem, seval, *, encT, h6I, h12I, undef] | ((with_reducible refine opK_c ?_); simp -dsimp only [go_sem, seval, encT, h6I, h12I, undef]; first | refine callK_r (by first | assumption | fail) (by first | exact .inl rfl | exact .inr rfl) ?_ | (refine callK_i (by assumption) ?_ ?_ ?_; (solve | (repeat (first | exact DLe.refl _ | exact DLe.nil _ | (refine DLe.tup ?_) | (refine DLe.agg ?_ rfl) | exact trivial | (refine And.intro ?_ ?_)))); (solve | exact .inl rfl | exact .inr rfl))) | fail | omega | exact decide_eq_true (by omega) | exact DLe.refl _)
    all_goals exact DLe.refl _
  have h6I : decide ((n.vpcs.length : Int) > 6) = false := by simp; omega
  have h12I : decide ((n.links.length : Int) > 12) = false := by simp; omega
  have hno : ¬ (n.vpcs.length > 6 ∨ n.links.length > 12) := by omega
  refine ps_i tab_ok mixed Tryz.func15 rfl Tryz.ntmps15 Tryz.results15 (by kernel_rfl) ?_
  repeat' (first | (with_reducible refine And.intro ?_ ?_) | (with_reducible refine gK_i (fun _ => ?_) (fun _ => ?_)) | (with_reducible refine condS_i (fun _ => ?_) (fun _ => ?_)) | (with_reducible refine drw_i (by kernel_rfl)) | simp -dsimp only [go_sem, seval, *, encT, h6I, h12I, undef] | ((with_reducible refine opK_c ?_); simp -dsimp only [go_sem, seval, encT, h6I, h12I, undef]; first | refine callK_r (by first | assumption | fail) (by first | exact .inl rfl | exact .inr rfl) ?_ | (refine callK_i (by assumption) ?_ ?_ ?_; (solve | (repeat (first | exact DLe.refl _ | exact DLe.nil _ | (refine DLe.tup ?_) | (refine DLe.agg ?_ rfl) | exact trivial | (refine And.intro ?_ ?_)))); (solve | exact .inl rfl | exact .inr rfl))) | fail | omega | exact decide_eq_true (by omega) | exact DLe.refl _)
  refine loopL tab_ok mixed n.vpcs (fun k => (∀ v ∈ n.vpcs.take k, chkV v = 0) ∧ (n.vpcs.take k).Pairwise fun a b => a.id < b.id) (fun k => [(25, .d (.v (.int .i64 k))), (24, .d (.v (.int .i64 n.vpcs.length))), (23, .d (.sl 3 (n.vpcs.map encV))), (3, .d (.v (.int .i64 (lastV (n.vpcs.take k))))), (2, .d (.v (.int .i64 0))), (1, .ptr 0 0)]) (fun _ => [.box 25 ((encT n).map .d)]) (by simp) (weak_forget _ (by simp) (by (try simp only [encT]); rfl) (by (repeat' (first | exact trivial | (refine ⟨rfl, ?_⟩)))) (by first | rfl | simp only [belowH, belowE, belowC, belowL, belowR, belowP, belowL_d, belowR_d, List.length_cons, List.length_nil, Nat.reduceAdd, Nat.reduceLT, decide_true, Bool.and_self, Bool.and_true]) (by first | rfl | simp only [belowH, belowE, belowC, belowL, belowR, belowP, belowL_d, belowR_d, List.length_cons, List.length_nil, Nat.reduceAdd, Nat.reduceLT, decide_true, Bool.and_self, Bool.and_true])) ?_ ?_
  · intro k v hv hk hI C hC
    have hkI : (k : Int) < (n.vpcs.length : Int) := by omega
    have hwr : IntKind.i64.wrap ((k : Int) + 1) = ((k + 1 : Nat) : Int) := by rw [IntKind.wrap_i64]; omega
    have htk := take_snoc hv
    have hls : lastV (n.vpcs.take (k + 1)) = v.id := by rw [htk, lastV_snoc]
    have hcv := vcheck_p v
    obtain ⟨LA, hLA⟩ : ∃ x, x = lastV (n.vpcs.take k) := ⟨_, rfl⟩
    rw [← hLA]
    by_cases hc : chkV v = 0
    · have hid : 1 ≤ v.id := by have := (vpcOK_of hc).id; simp [idOK] at this; exact this.1
      rw [hc] at hcv
      by_cases hle : v.id ≤ LA
      · have hr : R = 1 := by
          rw [hR.out]
          refine chkT_one hno (.inl ?_)
          cases hb : vpcsB n with
          | false => rfl
          | true =>
            have := (vpcsB_take hb (k + 1)).2
            rw [htk] at this
            exact absurd this (lastV_bad hid (by rw [← hLA]; exact hle))
        rw [hr]
        clear hr hI hid hC hLA hls htk
        replace hc := Lib.hid hc
        repeat' (first | (with_reducible refine And.intro ?_ ?_) | (with_reducible refine gK_i (fun _ => ?_) (fun _ => ?_)) | (with_reducible refine condS_i (fun _ => ?_) (fun _ => ?_)) | (with_reducible refine drw_i (by kernel_rfl)) | simp -dsimp only [go_sem, seval, *, encT, encV, hkI, hv, hle, undef] | ((with_reducible refine opK_c ?_); simp -dsimp only [go_sem, seval, encT, encV, hkI, hv, hle, undef]; first | refine callK_r (by first | assumption | exact hcv) (by first | exact .inl rfl | exact .inr rfl) ?_ | (refine callK_i (by assumption) ?_ ?_ ?_; (solve | (repeat (first | exact DLe.refl _ | exact DLe.nil _ | (refine DLe.tup ?_) | (refine DLe.agg ?_ rfl) | exact trivial | (refine And.intro ?_ ?_)))); (solve | exact .inl rfl | exact .inr rfl))) | fail | omega | exact decide_eq_true (by omega) | exact DLe.refl _)
        all_goals exact DLe.refl _
      · have hI2 : (∀ v ∈ n.vpcs.take (k + 1), chkV v = 0) ∧ (n.vpcs.take (k + 1)).Pairwise fun a b => a.id < b.id := by
          rw [htk]
          exact ⟨fun u hu => by
            rcases List.mem_append.1 hu with hu | hu
            · exact hI.1 u hu
            · rw [List.mem_singleton.1 hu]; exact hc, lastV_pair hI.2 (by rw [← hLA]; omega)⟩
        have hlb : decide (v.id ≤ LA) = false := by simpa using hle
        clear hI hid htk
        replace hc := Lib.hid hc
        replace hle := Lib.hid hle
        replace hI2 := Lib.hid hI2
        replace hls := Lib.hid hls
        replace hLA := Lib.hid hLA
        repeat' (first | (with_reducible refine And.intro ?_ ?_) | (with_reducible refine gK_i (fun _ => ?_) (fun _ => ?_)) | (with_reducible refine condS_i (fun _ => ?_) (fun _ => ?_)) | (with_reducible refine drw_i (by kernel_rfl)) | simp -dsimp only [go_sem, seval, *, encT, encV, hkI, hwr, hv, hlb, undef] | ((with_reducible refine opK_c ?_); simp -dsimp only [go_sem, seval, encT, encV, hkI, hwr, hv, hlb, undef]; first | refine callK_r (by first | assumption | exact hcv) (by first | exact .inl rfl | exact .inr rfl) ?_ | (refine callK_i (by assumption) ?_ ?_ ?_; (solve | (repeat (first | exact DLe.refl _ | exact DLe.nil _ | (refine DLe.tup ?_) | (refine DLe.agg ?_ rfl) | exact trivial | (refine And.intro ?_ ?_)))); (solve | exact .inl rfl | exact .inr rfl))) | fail | omega | exact decide_eq_true (by omega) | exact DLe.refl _)
        refine hC _ _ hI2.out ?_
        simp only [hls.out]
        exact weak_forget _ (by simp) (by (try simp only [encT]); rfl) (by (repeat' (first | exact trivial | (refine ⟨rfl, ?_⟩)))) (by first | rfl | simp only [belowH, belowE, belowC, belowL, belowR, belowP, belowL_d, belowR_d, List.length_cons, List.length_nil, Nat.reduceAdd, Nat.reduceLT, decide_true, Bool.and_self, Bool.and_true]) (by first | rfl | simp only [belowH, belowE, belowC, belowL, belowR, belowP, belowL_d, belowR_d, List.length_cons, List.length_nil, Nat.reduceAdd, Nat.reduceLT, decide_true, Bool.and_self, Bool.and_true])
    · have hr : R = 1 := by
        rw [hR.out]
        refine chkT_one hno (.inl ?_)
        cases hb : vpcsB n with
        | false => rfl
        | true => exact absurd ((vpcsB_take hb (k + 1)).1 v (by rw [htk]; simp)) hc
      have hcb : (chkV v != 0) = true := by simpa using hc
      rw [hr]
      clear hr hI hC hLA hls htk
      replace hc := Lib.hid hc
      repeat' (first | (with_reducible refine And.intro ?_ ?_) | (with_reducible refine gK_i (fun _ => ?_) (fun _ => ?_)) | (with_reducible refine condS_i (fun _ => ?_) (fun _ => ?_)) | (with_reducible refine drw_i (by kernel_rfl)) | simp -dsimp only [go_sem, seval, *, encT, encV, hkI, hv, hcb, undef] | ((with_reducible refine opK_c ?_); simp -dsimp only [go_sem, seval, encT, encV, hkI, hv, hcb, undef]; first | refine callK_r (by first | assumption | exact hcv) (by first | exact .inl rfl | exact .inr rfl) ?_ | (refine callK_i (by assumption) ?_ ?_ ?_; (solve | (repeat (first | exact DLe.refl _ | exact DLe.nil _ | (refine DLe.tup ?_) | (refine DLe.agg ?_ rfl) | exact trivial | (refine And.intro ?_ ?_)))); (solve | exact .inl rfl | exact .inr rfl))) | fail | omega | exact decide_eq_true (by omega) | exact DLe.refl _)
      all_goals exact DLe.refl _
  · intro hI C
    rw [List.take_length] at hI ⊢
    have hvB := vpcsB_of hI.1 hI.2
    have hso := hI.2
    generalize lastV n.vpcs = LA
    replace hI := Lib.hid hI
    replace hso := Lib.hid hso
    replace hvB := Lib.hid hvB
    repeat' (first | (with_reducible refine And.intro ?_ ?_) | (with_reducible refine gK_i (fun _ => ?_) (fun _ => ?_)) | (with_reducible refine condS_i (fun _ => ?_) (fun _ => ?_)) | (with_reducible refine drw_i (by kernel_rfl)) | simp -dsimp only [go_sem, seval, *, encT, Int.lt_irrefl, undef] | ((with_reducible refine opK_c ?_); simp -dsimp only [go_sem, seval, encT, Int.lt_irrefl, undef]; first | refine callK_r (by first | assumption | fail) (by first | exact .inl rfl | exact .inr rfl) ?_ | (refine callK_i (by assumption) ?_ ?_ ?_; (solve | (repeat (first | exact DLe.refl _ | exact DLe.nil _ | (refine DLe.tup ?_) | (refine DLe.agg ?_ rfl) | exact trivial | (refine And.intro ?_ ?_)))); (solve | exact .inl rfl | exact .inr rfl))) | fail | omega | exact decide_eq_true (by omega) | exact DLe.refl _)
    refine loopL tab_ok mixed n.links (fun k => (∀ l ∈ n.links.take k, lnkB n l = true) ∧ risK (n.links.take k) = true) (fun k => [(44, .d (.v (.int .i64 k))), (43, .d (.v (.int .i64 n.links.length))), (42, .d (.sl 2 (n.links.map encK))), (2, .d (.v (.int .i64 0))), (1, .ptr 0 0)]) (fun _ => [.box 25 ((encT n).map .d)]) (by simp [risK]) (weak_forget _ (by simp) (by (try simp only [encT]); rfl) (by (repeat' (first | exact trivial | (refine ⟨rfl, ?_⟩)))) (by first | rfl | simp only [belowH, belowE, belowC, belowL, belowR, belowP, belowL_d, belowR_d, List.length_cons, List.length_nil, Nat.reduceAdd, Nat.reduceLT, decide_true, Bool.and_self, Bool.and_true]) (by first | rfl | simp only [belowH, belowE, belowC, belowL, belowR, belowP, belowL_d, belowR_d, List.length_cons, List.length_nil, Nat.reduceAdd, Nat.reduceLT, decide_true, Bool.and_self, Bool.and_true])) ?_ ?_
    · intro k l hl hk hJ C hC
      have hkI : (k : Int) < (n.links.length : Int) := by omega
      have hwr : IntKind.i64.wrap ((k : Int) + 1) = ((k + 1 : Nat) : Int) := by rw [IntKind.wrap_i64]; omega
      have htk := take_snoc hl
      have hfa := nfindB_m n l.a (by omega) hso.out
      have hfb := nfindB_m n l.b (by omega) hso.out
      have hbad : lnkB n l = false → R = 1 := fun h => by
        rw [hR.out]
        refine chkT_one hno (.inr (.inl ?_))
        rw [List.all_eq_false]
        exact ⟨l, List.mem_of_getElem? hl, by simp [h]⟩
      have hlb : lnkB n l = ((findN n l.a).isSome && ((findN n l.b).isSome && decide (l.a < l.b))) := rfl
      have hgood : lnkB n l = true → risK (n.links.take (k + 1)) = true → (∀ l ∈ n.links.take (k + 1), lnkB n l = true) ∧ risK (n.links.take (k + 1)) = true := fun h g => by
        refine ⟨?_, g⟩
        rw [htk]
        intro u hu
        rcases List.mem_append.1 hu with hu | hu
        · exact hJ.1 u hu
        · rw [List.mem_singleton.1 hu]; exact h
      have hbad2 : risK (n.links.take (k + 1)) = false → R = 1 := fun h => by
        rw [hR.out]
        refine chkT_one hno (.inr (.inr (.inl ?_)))
        cases hb : risK n.links with
        | false => rfl
        | true => rw [risK_take hb] at h; cases h
      have hrk := risK_snoc (n.links.take k) l
      rw [← htk, hJ.2, Bool.true_and] at hrk
      clear htk
      replace hJ := Lib.hid hJ
      replace hbad := Lib.hid hbad
      replace hbad2 := Lib.hid hbad2
      replace hgood := Lib.hid hgood
      cases ea : findN n l.a with
      | none =>
        rw [ea] at hfa hlb
        have hr : R = 1 := hbad.out (by rw [hlb]; rfl)
        rw [hr]
        clear hr hlb hrk
        replace ea := Lib.hid ea
        cases eb : findN n l.b with
        | none =>
          rw [eb] at hfb
          replace eb := Lib.hid eb
          repeat' (first | (with_reducible refine And.intro ?_ ?_) | (with_reducible refine gK_i (fun _ => ?_) (fun _ => ?_)) | (with_reducible refine condS_i (fun _ => ?_) (fun _ => ?_)) | (with_reducible refine drw_i (by kernel_rfl)) | simp -dsimp only [go_sem, seval, *, encT, encK, findNP, findND, hkI, hl, undef] | ((with_reducible refine opK_c ?_); simp -dsimp only [go_sem, seval, encT, encK, findNP, findND, hkI, hl, undef]; first | refine callK_r (by first | assumption | fail) (by first | exact .inl rfl | exact .inr rfl) ?_ | (refine callK_i (by assumption) ?_ ?_ ?_; (solve | (repeat (first | exact DLe.refl _ | exact DLe.nil _ | (refine DLe.tup ?_) | (refine DLe.agg ?_ rfl) | exact trivial | (refine And.intro ?_ ?_)))); (solve | exact .inl rfl | exact .inr rfl))) | (refine opK_M [0] (hfa) ?_ ?_ ?_ ?_ ?_ ?_; (solve | rfl | simp only [go_sem, seval, encT, findNP, findND]); (solve | rfl); (solve | decide); (solve | simp); (solve | simp only [go_sem, seval, lentOK, encT, findNP, findND])) | (refine opK_M [0] (hfb) ?_ ?_ ?_ ?_ ?_ ?_; (solve | rfl | simp only [go_sem, seval, encT, findNP, findND]); (solve | rfl); (solve | decide); (solve | simp); (solve | simp only [go_sem, seval, lentOK, encT, findNP, findND])) | omega | exact decide_eq_true (by omega) | exact DLe.refl _)
          all_goals exact DLe.refl _
        | some w =>
          rw [eb] at hfb
          replace eb := Lib.hid eb
          repeat' (first | (with_reducible refine And.intro ?_ ?_) | (with_reducible refine gK_i (fun _ => ?_) (fun _ => ?_)) | (with_reducible refine condS_i (fun _ => ?_) (fun _ => ?_)) | (with_reducible refine drw_i (by kernel_rfl)) | simp -dsimp only [go_sem, seval, *, encT, encK, findNP, findND, hkI, hl, undef] | ((with_reducible refine opK_c ?_); simp -dsimp only [go_sem, seval, encT, encK, findNP, findND, hkI, hl, undef]; first | refine callK_r (by first | assumption | fail) (by first | exact .inl rfl | exact .inr rfl) ?_ | (refine callK_i (by assumption) ?_ ?_ ?_; (solve | (repeat (first | exact DLe.refl _ | exact DLe.nil _ | (refine DLe.tup ?_) | (refine DLe.agg ?_ rfl) | exact trivial | (refine And.intro ?_ ?_)))); (solve | exact .inl rfl | exact .inr rfl))) | (refine opK_M [0] (hfa) ?_ ?_ ?_ ?_ ?_ ?_; (solve | rfl | simp only [go_sem, seval, encT, findNP, findND]); (solve | rfl); (solve | decide); (solve | simp); (solve | simp only [go_sem, seval, lentOK, encT, findNP, findND])) | (refine opK_M [0] (hfb) ?_ ?_ ?_ ?_ ?_ ?_; (solve | rfl | simp only [go_sem, seval, encT, findNP, findND]); (solve | rfl); (solve | decide); (solve | simp); (solve | simp only [go_sem, seval, lentOK, encT, findNP, findND])) | omega | exact decide_eq_true (by omega) | exact DLe.refl _)
          all_goals exact DLe.refl _
      | some v =>
        rw [ea] at hfa hlb
        replace ea := Lib.hid ea
        cases eb : findN n l.b with
        | none =>
          rw [eb] at hfb hlb
          have hr : R = 1 := hbad.out (by rw [hlb]; rfl)
          rw [hr]
          clear hr hlb hrk
          replace eb := Lib.hid eb
          repeat' (first | (with_reducible refine And.intro ?_ ?_) | (with_reducible refine gK_i (fun _ => ?_) (fun _ => ?_)) | (with_reducible refine condS_i (fun _ => ?_) (fun _ => ?_)) | (with_reducible refine drw_i (by kernel_rfl)) | simp -dsimp only [go_sem, seval, *, encT, encK, findNP, findND, hkI, hl, undef] | ((with_reducible refine opK_c ?_); simp -dsimp only [go_sem, seval, encT, encK, findNP, findND, hkI, hl, undef]; first | refine callK_r (by first | assumption | fail) (by first | exact .inl rfl | exact .inr rfl) ?_ | (refine callK_i (by assumption) ?_ ?_ ?_; (solve | (repeat (first | exact DLe.refl _ | exact DLe.nil _ | (refine DLe.tup ?_) | (refine DLe.agg ?_ rfl) | exact trivial | (refine And.intro ?_ ?_)))); (solve | exact .inl rfl | exact .inr rfl))) | (refine opK_M [0] (hfa) ?_ ?_ ?_ ?_ ?_ ?_; (solve | rfl | simp only [go_sem, seval, encT, findNP, findND]); (solve | rfl); (solve | decide); (solve | simp); (solve | simp only [go_sem, seval, lentOK, encT, findNP, findND])) | (refine opK_M [0] (hfb) ?_ ?_ ?_ ?_ ?_ ?_; (solve | rfl | simp only [go_sem, seval, encT, findNP, findND]); (solve | rfl); (solve | decide); (solve | simp); (solve | simp only [go_sem, seval, lentOK, encT, findNP, findND])) | omega | exact decide_eq_true (by omega) | exact DLe.refl _)
          all_goals exact DLe.refl _
        | some w =>
          rw [eb] at hfb hlb
          replace eb := Lib.hid eb
          by_cases hab : l.a < l.b
          · have hge : decide (l.a ≥ l.b) = false := by simp; omega
            have hlt : lnkB n l = true := by rw [hlb]; simp [hab]
            clear hlb
            replace hlt := Lib.hid hlt
            by_cases hk0 : k = 0
            · have hkz : decide ((k : Int) > 0) = false := by simp; omega
              have hg := hgood.out hlt.out (by rw [hrk, hk0]; rfl)
              clear hrk
              replace hg := Lib.hid hg
              replace hk0 := Lib.hid hk0
              replace hab := Lib.hid hab
              repeat' (first | (with_reducible refine And.intro ?_ ?_) | (with_reducible refine gK_i (fun _ => ?_) (fun _ => ?_)) | (with_reducible refine condS_i (fun _ => ?_) (fun _ => ?_)) | (with_reducible refine drw_i (by kernel_rfl)) | simp -dsimp only [go_sem, seval, *, encT, encK, findNP, findND, hkI, hwr, hl, hge, hkz, undef] | ((with_reducible refine opK_c ?_); simp -dsimp only [go_sem, seval, encT, encK, findNP, findND, hkI, hwr, hl, hge, hkz, undef]; first | refine callK_r (by first | assumption | fail) (by first | exact .inl rfl | exact .inr rfl) ?_ | (refine callK_i (by assumption) ?_ ?_ ?_; (solve | (repeat (first | exact DLe.refl _ | exact DLe.nil _ | (refine DLe.tup ?_) | (refine DLe.agg ?_ rfl) | exact trivial | (refine And.intro ?_ ?_)))); (solve | exact .inl rfl | exact .inr rfl))) | (refine opK_M [0] (hfa) ?_ ?_ ?_ ?_ ?_ ?_; (solve | rfl | simp only [go_sem, seval, encT, findNP, findND]); (solve | rfl); (solve | decide); (solve | simp); (solve | simp only [go_sem, seval, lentOK, encT, findNP, findND])) | (refine opK_M [0] (hfb) ?_ ?_ ?_ ?_ ?_ ?_; (solve | rfl | simp only [go_sem, seval, encT, findNP, findND]); (solve | rfl); (solve | decide); (solve | simp); (solve | simp only [go_sem, seval, lentOK, encT, findNP, findND])) | omega | exact decide_eq_true (by omega) | exact DLe.refl _)
              exact hC _ _ hg.out (weak_forget _ (by simp) (by (try simp only [encT]); rfl) (by (repeat' (first | exact trivial | (refine ⟨rfl, ?_⟩)))) (by first | rfl | simp only [belowH, belowE, belowC, belowL, belowR, belowP, belowL_d, belowR_d, List.length_cons, List.length_nil, Nat.reduceAdd, Nat.reduceLT, decide_true, Bool.and_self, Bool.and_true]) (by first | rfl | simp only [belowH, belowE, belowC, belowL, belowR, belowP, belowL_d, belowR_d, List.length_cons, List.length_nil, Nat.reduceAdd, Nat.reduceLT, decide_true, Bool.and_self, Bool.and_true]))
            · obtain ⟨j, hj⟩ : ∃ j, k = j + 1 := ⟨k - 1, by omega⟩
              obtain ⟨y, hy⟩ : ∃ y, n.links[j]? = some y := ⟨_, List.getElem?_eq_getElem (by omega)⟩
              have hkz : decide ((k : Int) > 0) = true := by simp; omega
              have hw1 : IntKind.i64.wrap ((k : Int) - 1) = (j : Int) := by rw [IntKind.wrap_i64]; omega
              have hjI : (j : Int) < (n.links.length : Int) := by omega
              have hor := order_p y l
              rw [hj, last_take hy] at hrk
              simp only at hrk
              rw [← hj] at hrk
              replace hj := Lib.hid hj
              replace hk0 := Lib.hid hk0
              replace hab := Lib.hid hab
              by_cases ho : ordK y l < 0
              · have hg := hgood.out hlt.out (by rw [hrk]; simpa using ho)
                have hob : decide (ordK y l ≥ 0) = false := by simpa using ho
                clear hrk
                replace hg := Lib.hid hg
                replace ho := Lib.hid ho
                generalize ordK y l = O at *
                repeat' (first | (with_reducible refine And.intro ?_ ?_) | (with_reducible refine gK_i (fun _ => ?_) (fun _ => ?_)) | (with_reducible refine condS_i (fun _ => ?_) (fun _ => ?_)) | (with_reducible refine drw_i (by kernel_rfl)) | simp -dsimp only [go_sem, seval, *, encT, encK, findNP, findND, hkI, hwr, hl, hge, hkz, hw1, hjI, hy, hob, undef] | ((with_reducible refine opK_c ?_); simp -dsimp only [go_sem, seval, encT, encK, findNP, findND, hkI, hwr, hl, hge, hkz, hw1, hjI, hy, hob, undef]; first | refine callK_r (by first | assumption | exact hor) (by first | exact .inl rfl | exact .inr rfl) ?_ | (refine callK_i (by assumption) ?_ ?_ ?_; (solve | (repeat (first | exact DLe.refl _ | exact DLe.nil _ | (refine DLe.tup ?_) | (refine DLe.agg ?_ rfl) | exact trivial | (refine And.intro ?_ ?_)))); (solve | exact .inl rfl | exact .inr rfl))) | (refine opK_M [0] (hfa) ?_ ?_ ?_ ?_ ?_ ?_; (solve | rfl | simp only [go_sem, seval, encT, findNP, findND]); (solve | rfl); (solve | decide); (solve | simp); (solve | simp only [go_sem, seval, lentOK, encT, findNP, findND])) | (refine opK_M [0] (hfb) ?_ ?_ ?_ ?_ ?_ ?_; (solve | rfl | simp only [go_sem, seval, encT, findNP, findND]); (solve | rfl); (solve | decide); (solve | simp); (solve | simp only [go_sem, seval, lentOK, encT, findNP, findND])) | omega | exact decide_eq_true (by omega) | exact DLe.refl _)
                exact hC _ _ hg.out (weak_forget _ (by simp) (by (try simp only [encT]); rfl) (by (repeat' (first | exact trivial | (refine ⟨rfl, ?_⟩)))) (by first | rfl | simp only [belowH, belowE, belowC, belowL, belowR, belowP, belowL_d, belowR_d, List.length_cons, List.length_nil, Nat.reduceAdd, Nat.reduceLT, decide_true, Bool.and_self, Bool.and_true]) (by first | rfl | simp only [belowH, belowE, belowC, belowL, belowR, belowP, belowL_d, belowR_d, List.length_cons, List.length_nil, Nat.reduceAdd, Nat.reduceLT, decide_true, Bool.and_self, Bool.and_true]))
              · have hr : R = 1 := hbad2.out (by rw [hrk]; simpa using ho)
                have hob : decide (ordK y l ≥ 0) = true := by simpa using ho
                rw [hr]
                clear hrk hr
                replace ho := Lib.hid ho
                generalize ordK y l = O at *
                repeat' (first | (with_reducible refine And.intro ?_ ?_) | (with_reducible refine gK_i (fun _ => ?_) (fun _ => ?_)) | (with_reducible refine condS_i (fun _ => ?_) (fun _ => ?_)) | (with_reducible refine drw_i (by kernel_rfl)) | simp -dsimp only [go_sem, seval, *, encT, encK, findNP, findND, hkI, hwr, hl, hge, hkz, hw1, hjI, hy, hob, undef] | ((with_reducible refine opK_c ?_); simp -dsimp only [go_sem, seval, encT, encK, findNP, findND, hkI, hwr, hl, hge, hkz, hw1, hjI, hy, hob, undef]; first | refine callK_r (by first | assumption | exact hor) (by first | exact .inl rfl | exact .inr rfl) ?_ | (refine callK_i (by assumption) ?_ ?_ ?_; (solve | (repeat (first | exact DLe.refl _ | exact DLe.nil _ | (refine DLe.tup ?_) | (refine DLe.agg ?_ rfl) | exact trivial | (refine And.intro ?_ ?_)))); (solve | exact .inl rfl | exact .inr rfl))) | (refine opK_M [0] (hfa) ?_ ?_ ?_ ?_ ?_ ?_; (solve | rfl | simp only [go_sem, seval, encT, findNP, findND]); (solve | rfl); (solve | decide); (solve | simp); (solve | simp only [go_sem, seval, lentOK, encT, findNP, findND])) | (refine opK_M [0] (hfb) ?_ ?_ ?_ ?_ ?_ ?_; (solve | rfl | simp only [go_sem, seval, encT, findNP, findND]); (solve | rfl); (solve | decide); (solve | simp); (solve | simp only [go_sem, seval, lentOK, encT, findNP, findND])) | omega | exact decide_eq_true (by omega) | exact DLe.refl _)
                all_goals exact DLe.refl _
          · have hge : decide (l.a ≥ l.b) = true := by simp; omega
            have hr : R = 1 := hbad.out (by rw [hlb]; simp; omega)
            rw [hr]
            clear hr hlb hrk
            replace hab := Lib.hid hab
            repeat' (first | (with_reducible refine And.intro ?_ ?_) | (with_reducible refine gK_i (fun _ => ?_) (fun _ => ?_)) | (with_reducible refine condS_i (fun _ => ?_) (fun _ => ?_)) | (with_reducible refine drw_i (by kernel_rfl)) | simp -dsimp only [go_sem, seval, *, encT, encK, findNP, findND, hkI, hl, hge, undef] | ((with_reducible refine opK_c ?_); simp -dsimp only [go_sem, seval, encT, encK, findNP, findND, hkI, hl, hge, undef]; first | refine callK_r (by first | assumption | fail) (by first | exact .inl rfl | exact .inr rfl) ?_ | (refine callK_i (by assumption) ?_ ?_ ?_; (solve | (repeat (first | exact DLe.refl _ | exact DLe.nil _ | (refine DLe.tup ?_) | (refine DLe.agg ?_ rfl) | exact trivial | (refine And.intro ?_ ?_)))); (solve | exact .inl rfl | exact .inr rfl))) | (refine opK_M [0] (hfa) ?_ ?_ ?_ ?_ ?_ ?_; (solve | rfl | simp only [go_sem, seval, encT, findNP, findND]); (solve | rfl); (solve | decide); (solve | simp); (solve | simp only [go_sem, seval, lentOK, encT, findNP, findND])) | (refine opK_M [0] (hfb) ?_ ?_ ?_ ?_ ?_ ?_; (solve | rfl | simp only [go_sem, seval, encT, findNP, findND]); (solve | rfl); (solve | decide); (solve | simp); (solve | simp only [go_sem, seval, lentOK, encT, findNP, findND])) | omega | exact decide_eq_true (by omega) | exact DLe.refl _)
            all_goals exact DLe.refl _
    · intro hJ C
      rw [List.take_length] at hJ
      have hpe := peace_p n (by omega) (by omega) (fun v hv => by have := (vpcOK_of (hI.out.1 v hv)).n4; omega) (fun l hl => by
        have := hJ.1 l hl
        unfold lnkB at this
        simp only [Bool.and_eq_true] at this
        exact ⟨find_ids this.1, find_ids this.2.1⟩)
      have hr : R = if peaceN n = true then 0 else 1 := by
        rw [hR.out]
        split
        · rename_i hp
          exact chkT_zero hno hvB.out (by rw [List.all_eq_true]; exact hJ.1) hJ.2 hp
        · rename_i hp
          exact chkT_one hno (.inr (.inr (.inr (by simpa using hp))))
      rw [hr]
      clear hr
      replace hJ := Lib.hid hJ
      cases hp : peaceN n with
      | true =>
        rw [hp] at hpe
        replace hp := Lib.hid hp
        repeat' (first | (with_reducible refine And.intro ?_ ?_) | (with_reducible refine gK_i (fun _ => ?_) (fun _ => ?_)) | (with_reducible refine condS_i (fun _ => ?_) (fun _ => ?_)) | (with_reducible refine drw_i (by kernel_rfl)) | simp -dsimp only [go_sem, seval, *, encT, Int.lt_irrefl, undef] | ((with_reducible refine opK_c ?_); simp -dsimp only [go_sem, seval, encT, Int.lt_irrefl, undef]; first | refine callK_r (by first | assumption | exact hpe) (by first | exact .inl rfl | exact .inr rfl) ?_ | (refine callK_i (by assumption) ?_ ?_ ?_; (solve | (repeat (first | exact DLe.refl _ | exact DLe.nil _ | (refine DLe.tup ?_) | (refine DLe.agg ?_ rfl) | exact trivial | (refine And.intro ?_ ?_)))); (solve | exact .inl rfl | exact .inr rfl))) | fail | omega | exact decide_eq_true (by omega) | exact DLe.refl _)
        all_goals exact DLe.refl _
      | false =>
        rw [hp] at hpe
        replace hp := Lib.hid hp
        repeat' (first | (with_reducible refine And.intro ?_ ?_) | (with_reducible refine gK_i (fun _ => ?_) (fun _ => ?_)) | (with_reducible refine condS_i (fun _ => ?_) (fun _ => ?_)) | (with_reducible refine drw_i (by kernel_rfl)) | simp -dsimp only [go_sem, seval, *, encT, Int.lt_irrefl, undef] | ((with_reducible refine opK_c ?_); simp -dsimp only [go_sem, seval, encT, Int.lt_irrefl, undef]; first | refine callK_r (by first | assumption | exact hpe) (by first | exact .inl rfl | exact .inr rfl) ?_ | (refine callK_i (by assumption) ?_ ?_ ?_; (solve | (repeat (first | exact DLe.refl _ | exact DLe.nil _ | (refine DLe.tup ?_) | (refine DLe.agg ?_ rfl) | exact trivial | (refine And.intro ?_ ?_)))); (solve | exact .inl rfl | exact .inr rfl))) | fail | omega | exact decide_eq_true (by omega) | exact DLe.refl _)
        all_goals exact DLe.refl _
end Go.Proofs.YtgmbhaclogabeaaGreat
namespace Go.Proofs.YtgmbhaclogabeaaGreat
open Go Go.RowKit
theorem clone_Link {α : Type} (enc : α → List D) (l : List α) (hl : l.length ≤ 1000000000) :
    MSpec Tryz.prog 47 [.d (.sl 2 (l.map enc))] [] (.own 0 1) [.row 68 2 1 (dRows (l.map enc))] := by
  cases l with
  | nil =>
    refine ms_empty (pl := []) (ql := []) fun ao cap => ?_
    cases ao with
    | none =>
      simp only [List.nil_append]
      refine ms_i tab_ok mixed Tryz.func47 rfl Tryz.ntmps47 Tryz.results47 (by kernel_rfl) (by simp) (by simp [belowL, belowP]) (by simp [belowH, belowC, belowL, belowP, belowL_d, belowR_d]) ?_
      repeat' (first | (with_reducible refine And.intro ?_ ?_) | (with_reducible refine gK_i (fun _ => ?_) (fun _ => ?_)) | (with_reducible refine condS_i (fun _ => ?_) (fun _ => ?_)) | (with_reducible refine drw_i (by kernel_rfl)) | simp -dsimp only [go_sem, seval, *, Option.isNone_none, Option.isSome_some] | ((with_reducible refine opK_c ?_); simp -dsimp only [go_sem, seval, Option.isNone_none, Option.isSome_some]; first | refine callK_r (by first | assumption | fail) (by first | exact .inl rfl | exact .inr rfl) ?_ | refine callK_i (by assumption) (by repeat (first | exact DLe.refl _ | exact DLe.nil _ | (refine DLe.tup ?_) | (refine DLe.agg ?_ rfl) | exact trivial | (refine And.intro ?_ ?_))) (by first | exact .inl rfl | exact .inr rfl) ?_) | omega | exact decide_eq_true (by omega) | exact DLe.refl _)
      refine weak_ret_adopt (h := []) (Nat.le_refl _) 68 2 ?_
      exact (weak_ret_bump 0 0 68 2 [] rfl (weak_eq rfl rfl))
    | some a =>
      simp only [List.nil_append]
      refine ms_i tab_ok mixed Tryz.func47 rfl Tryz.ntmps47 Tryz.results47 (by kernel_rfl) (by simp) (by simp [belowL, belowP]) (by simp [belowH, belowC, belowL, belowP, belowL_d, belowR_d]) ?_
      repeat' (first | (with_reducible refine And.intro ?_ ?_) | (with_reducible refine gK_i (fun _ => ?_) (fun _ => ?_)) | (with_reducible refine condS_i (fun _ => ?_) (fun _ => ?_)) | (with_reducible refine drw_i (by kernel_rfl)) | simp -dsimp only [go_sem, seval, *, Option.isNone_some, Option.isSome_some] | ((with_reducible refine opK_c ?_); simp -dsimp only [go_sem, seval, Option.isNone_some, Option.isSome_some]; first | refine callK_r (by first | assumption | fail) (by first | exact .inl rfl | exact .inr rfl) ?_ | refine callK_i (by assumption) (by repeat (first | exact DLe.refl _ | exact DLe.nil _ | (refine DLe.tup ?_) | (refine DLe.agg ?_ rfl) | exact trivial | (refine And.intro ?_ ?_))) (by first | exact .inl rfl | exact .inr rfl) ?_) | omega | exact decide_eq_true (by omega) | exact DLe.refl _)
      exact weak_eq rfl rfl
  | cons x l =>
    simp only [List.length_cons] at hl
    refine ms_i tab_ok mixed Tryz.func47 rfl Tryz.ntmps47 Tryz.results47 (by kernel_rfl) (by simp) (by simp [belowL, belowP]) (by simp [belowH, belowC, belowL, belowP, belowL_d, belowR_d]) ?_
    repeat' (first | (with_reducible refine And.intro ?_ ?_) | (with_reducible refine gK_i (fun _ => ?_) (fun _ => ?_)) | (with_reducible refine condS_i (fun _ => ?_) (fun _ => ?_)) | (with_reducible refine drw_i (by kernel_rfl)) | simp -dsimp only [go_sem, seval, *, Option.isNone_some, Option.isSome_some] | ((with_reducible refine opK_c ?_); simp -dsimp only [go_sem, seval, Option.isNone_some, Option.isSome_some]; first | refine callK_r (by first | assumption | fail) (by first | exact .inl rfl | exact .inr rfl) ?_ | refine callK_i (by assumption) (by repeat (first | exact DLe.refl _ | exact DLe.nil _ | (refine DLe.tup ?_) | (refine DLe.agg ?_ rfl) | exact trivial | (refine And.intro ?_ ?_))) (by first | exact .inl rfl | exact .inr rfl) ?_) | omega | exact decide_eq_true (by omega) | exact DLe.refl _)
    all_goals first | omega | exact weak_eq rfl rfl
structure NetOK (n : Net) : Prop where
  n6 : n.vpcs.length ≤ 6
  n12 : n.links.length ≤ 12
  vp : ∀ v ∈ n.vpcs, chkV v = 0
  rise : n.vpcs.Pairwise fun a b => a.id < b.id
  lk : ∀ l ∈ n.links, lnkB n l = true
  rk : risK n.links = true
  pe : peaceN n = true
theorem netOK {n : Net} : chkT n = 0 ↔ NetOK n := by
  constructor
  · intro h
    unfold chkT at h
    split at h
    · cases h
    · rename_i h0
      split at h
      · rename_i h1
        simp only [Bool.and_eq_true] at h1
        have := vpcsB_take h1.1 n.vpcs.length
        rw [List.take_length] at this
        exact ⟨by omega, by omega, this.1, this.2, by simpa using h1.2.1, h1.2.2.1, h1.2.2.2⟩
      · cases h
  · rintro ⟨a, b, c, d, e, f, g⟩
    exact chkT_zero (by omega) (vpcsB_of c d) (by simpa using e) f g
theorem NetOK.ids {n : Net} (h : NetOK n) : ∀ l ∈ n.links, l.a ∈ n.vpcs.map (·.id) ∧ l.b ∈ n.vpcs.map (·.id) := fun l hl => by
  have := h.lk l hl
  unfold lnkB at this
  simp only [Bool.and_eq_true] at this
  exact ⟨find_ids this.1, find_ids this.2.1⟩
theorem nbeginE_m (n : Net) (h : chkT n ≠ 0) :
    MSpec Tryz.prog 25 [.d (.agg (encT n))] [] (.tup [.ptr 1 0, .d (.v (.int .i64 (chkT n)))]) [.gone, .box 25 [.d (.v (.slice none 0 0)), .d (.v (.slice none 0 0))]] := by
  have hc := ncheck_p n
  have h1 : (chkT n != 0) = true := by simpa using h
  refine ms_i tab_ok mixed Tryz.func25 rfl Tryz.ntmps25 Tryz.results25 (by kernel_rfl) (by simp) (by simp [belowL, belowP]) (by simp [belowH, belowC, belowL, belowP, belowL_d, belowR_d]) ?_
  repeat' (first | (with_reducible refine And.intro ?_ ?_) | (with_reducible refine gK_i (fun _ => ?_) (fun _ => ?_)) | (with_reducible refine condS_i (fun _ => ?_) (fun _ => ?_)) | (with_reducible refine drw_i (by kernel_rfl)) | simp -dsimp only [go_sem, seval, *, encT, h1] | ((with_reducible refine opK_c ?_); simp -dsimp only [go_sem, seval, encT, h1]; first | refine callK_r (by first | assumption | exact hc) (by first | exact .inl rfl | exact .inr rfl) ?_ | (refine callK_i (by assumption) ?_ ?_ ?_; (solve | (repeat (first | exact DLe.refl _ | exact DLe.nil _ | (refine DLe.tup ?_) | (refine DLe.agg ?_ rfl) | exact trivial | (refine And.intro ?_ ?_)))); (solve | exact .inl rfl | exact .inr rfl))) | fail | omega | exact decide_eq_true (by omega) | exact DLe.refl _)
  exact (weak_gone 0 (by simp)).trans (weak_eq rfl rfl)
set_option maxRecDepth 100000 in
set_option maxHeartbeats 2000000 in
theorem nbegin_m (n : Net) (h : chkT n = 0) :
    MSpec Tryz.prog 25 [.d (.agg (encT n))] [] (.tup [.ptr 2 0, .d (.v (.int .i64 0))]) [.gone, .row 68 2 1 (dRows (n.links.map encK)), .box 25 [.own 3 n.vpcs.length, .own 1 1], .row 56 3 n.vpcs.length (dRows (n.vpcs.map encV))] := by
  have hc := ncheck_p n
  rw [h] at hc
  have hok := netOK.1 h
  have n6 := hok.n6
  have hvp := Lib.hid hok.vp
  have hclk := clone_Link encK n.links (by have := hok.n12; omega)
  clear hok
  replace h := Lib.hid h
  refine ms_i tab_ok mixed Tryz.func25 rfl Tryz.ntmps25 Tryz.results25 (by kernel_rfl) (by simp) (by simp [belowL, belowP]) (by simp [belowH, belowC, belowL, belowP, belowL_d, belowR_d]) ?_
  repeat' (first | (with_reducible refine And.intro ?_ ?_) | (with_reducible refine gK_i (fun _ => ?_) (fun _ => ?_)) | (with_reducible refine condS_i (fun _ => ?_) (fun _ => ?_)) | (with_reducible refine drw_i (by kernel_rfl)) | simp -dsimp only [go_sem, seval, *, encT] | ((with_reducible refine opK_c ?_); simp -dsimp only [go_sem, seval, encT]; first | refine callK_r (by first | assumption | exact hc) (by first | exact .inl rfl | exact .inr rfl) ?_ | (refine callK_i (by assumption) ?_ ?_ ?_; (solve | (repeat (first | exact DLe.refl _ | exact DLe.nil _ | (refine DLe.tup ?_) | (refine DLe.agg ?_ rfl) | exact trivial | (refine And.intro ?_ ?_)))); (solve | exact .inl rfl | exact .inr rfl))) | (refine opK_M [] (hclk) ?_ ?_ ?_ ?_ ?_ ?_; (solve | rfl | simp only [go_sem, seval, encT]); (solve | rfl); (solve | decide); (solve | simp); (solve | simp only [go_sem, seval, lentOK, encT])) | omega | exact decide_eq_true (by omega) | exact DLe.refl _)
  refine loopL tab_ok mixed n.vpcs (fun _ => True) (fun k => [(29, .d (.v (.int .i64 k))), (28, .d (.v (.int .i64 n.vpcs.length))), (27, .d (.sl 3 (n.vpcs.map encV))), (5, .ptr 2 0)])
    (fun k => [.gone, .row 68 2 1 (dRows (n.links.map encK)), .box 25 [.own 3 k, .own 1 1], .row 56 3 k (dRows ((n.vpcs.take k).map encV))]) trivial ?_ ?_ ?_
  · refine (weak_gone 0 (by simp)).trans ((weak_adopt_box (by simp) 2 25 [.d (.v (.slice none 0 0)), .own 1 1] 0 56 3 rfl rfl rfl).trans ?_)
    exact weak_forget _ (by simp) (by rfl) (by (repeat' (first | exact trivial | (refine ⟨rfl, ?_⟩)))) (by first | rfl | simp only [belowH, belowE, belowC, belowL, belowR, belowP, belowL_d, belowR_d, belowR_zipG, subRow, faceRow, List.length_cons, List.length_nil, Nat.reduceAdd, Nat.reduceLT, decide_true, Bool.and_self, Bool.and_true]) (by first | rfl | simp only [belowH, belowE, belowC, belowL, belowR, belowP, belowL_d, belowR_d, belowR_zipG, subRow, faceRow, List.length_cons, List.length_nil, Nat.reduceAdd, Nat.reduceLT, decide_true, Bool.and_self, Bool.and_true])
  · intro k v hv hk _ CN hCN
    have hkI : (k : Int) < (n.vpcs.length : Int) := by omega
    have hwr : IntKind.i64.wrap ((k : Int) + 1) = ((k + 1 : Nat) : Int) := by rw [IntKind.wrap_i64]; omega
    have hb0 : k + 1 ≤ 100 := by omega
    have hlv : (List.take k n.vpcs).length = k := by rw [List.length_take]; omega
    have hvk := vpcOK_of (hvp.out v (List.mem_of_getElem? hv))
    have h6 := hvk.n6
    have h8 := Lib.hid hvk.n8
    have hclr := clone_Range encG v.ranges (by have := hvk.n4; omega)
    clear hvk
    replace hv := Lib.hid hv
    have hv1 := hv.out
    repeat' (first | (with_reducible refine And.intro ?_ ?_) | (with_reducible refine gK_i (fun _ => ?_) (fun _ => ?_)) | (with_reducible refine condS_i (fun _ => ?_) (fun _ => ?_)) | (with_reducible refine drw_i (by kernel_rfl)) | simp -dsimp only [go_sem, seval, *, encV, hkI, hv1] | ((with_reducible refine opK_c ?_); simp -dsimp only [go_sem, seval, encV, hkI, hv1]; first | refine callK_r (by first | assumption | fail) (by first | exact .inl rfl | exact .inr rfl) ?_ | (refine callK_i (by assumption) ?_ ?_ ?_; (solve | (repeat (first | exact DLe.refl _ | exact DLe.nil _ | (refine DLe.tup ?_) | (refine DLe.agg ?_ rfl) | exact trivial | (refine And.intro ?_ ?_)))); (solve | exact .inl rfl | exact .inr rfl))) | (refine opK_M [] (hclr) ?_ ?_ ?_ ?_ ?_ ?_; (solve | rfl | simp only [go_sem, seval, encV]); (solve | rfl); (solve | decide); (solve | simp); (solve | simp only [go_sem, seval, lentOK, encV])) | omega | exact decide_eq_true (by omega) | exact DLe.refl _)
    refine loopL tab_ok mixed v.subs (fun _ => True) (fun j => [(42, .d (.v (.int .i64 j))), (41, .d (.v (.int .i64 v.subs.length))), (40, .d (.sl 4 (v.subs.map encN))), (8, .ptr 6 0), (29, .d (.v (.int .i64 k))), (28, .d (.v (.int .i64 n.vpcs.length))), (27, .d (.sl 3 (n.vpcs.map encV))), (5, .ptr 2 0)])
      (fun j => [.gone, .row 68 2 1 (dRows (n.links.map encK)), .box 25 [.own 3 k, .own 1 1], .row 56 3 k (dRows ((n.vpcs.take k).map encV)), .gone, .row 29 3 1 (dRows (v.ranges.map encG)), .box 56 [.d (.v (.int .i64 v.id)), .own 5 1, .own 7 j], .row 86 4 j (dRows ((v.subs.take j).map encN))]) trivial ?_ ?_ ?_
    · refine (weak_gone 4 (by simp)).trans ((weak_adopt_box (by simp) 6 56 [.d (.v (.int .i64 v.id)), .own 5 1, .d (.v (.slice none 0 0))] 2 86 4 rfl rfl rfl).trans ?_)
      exact weak_forget _ (by simp) (by rfl) (by (repeat' (first | exact trivial | (refine ⟨rfl, ?_⟩)))) (by first | rfl | simp only [belowH, belowE, belowC, belowL, belowR, belowP, belowL_d, belowR_d, belowR_zipG, subRow, faceRow, List.length_cons, List.length_nil, Nat.reduceAdd, Nat.reduceLT, decide_true, Bool.and_self, Bool.and_true]) (by first | rfl | simp only [belowH, belowE, belowC, belowL, belowR, belowP, belowL_d, belowR_d, belowR_zipG, subRow, faceRow, List.length_cons, List.length_nil, Nat.reduceAdd, Nat.reduceLT, decide_true, Bool.and_self, Bool.and_true])
    · intro j s hs hj _ CO hCO
      have hjI : (j : Int) < (v.subs.length : Int) := by omega
      have hwj : IntKind.i64.wrap ((j : Int) + 1) = ((j + 1 : Nat) : Int) := by rw [IntKind.wrap_i64]; omega
      have h8s := h8.out s (List.mem_of_getElem? hs)
      have hb1 : j + 1 ≤ 100 := by omega
      have hlk : (List.take j v.subs).length = j := by rw [List.length_take]; omega
      replace hs := Lib.hid hs
      have hs1 := hs.out
      repeat' (first | (with_reducible refine And.intro ?_ ?_) | (with_reducible refine gK_i (fun _ => ?_) (fun _ => ?_)) | (with_reducible refine condS_i (fun _ => ?_) (fun _ => ?_)) | (with_reducible refine drw_i (by kernel_rfl)) | simp -dsimp only [go_sem, seval, *, encV, encN, hjI, hs1] | ((with_reducible refine opK_c ?_); simp -dsimp only [go_sem, seval, encV, encN, hjI, hs1]; first | refine callK_r (by first | assumption | fail) (by first | exact .inl rfl | exact .inr rfl) ?_ | (refine callK_i (by assumption) ?_ ?_ ?_; (solve | (repeat (first | exact DLe.refl _ | exact DLe.nil _ | (refine DLe.tup ?_) | (refine DLe.agg ?_ rfl) | exact trivial | (refine And.intro ?_ ?_)))); (solve | exact .inl rfl | exact .inr rfl))) | fail | omega | exact decide_eq_true (by omega) | exact DLe.refl _)
      refine loopL tab_ok mixed s.faces (fun _ => True) (fun i => [(54, .d (.v (.int .i64 i))), (53, .d (.v (.int .i64 s.faces.length))), (52, .d (.sl 2 (s.faces.map encF))), (11, .ptr 9 0), (42, .d (.v (.int .i64 j))), (41, .d (.v (.int .i64 v.subs.length))), (40, .d (.sl 4 (v.subs.map encN))), (8, .ptr 6 0), (29, .d (.v (.int .i64 k))), (28, .d (.v (.int .i64 n.vpcs.length))), (27, .d (.sl 3 (n.vpcs.map encV))), (5, .ptr 2 0)])
        (fun i => [.gone, .row 68 2 1 (dRows (n.links.map encK)), .box 25 [.own 3 k, .own 1 1], .row 56 3 k (dRows ((n.vpcs.take k).map encV)), .gone, .row 29 3 1 (dRows (v.ranges.map encG)), .box 56 [.d (.v (.int .i64 v.id)), .own 5 1, .own 7 j], .row 86 4 j (dRows ((v.subs.take j).map encN)), .gone, .box 86 [.d (.v (.int .i64 s.id)), .d (.v (.int .i64 s.at_.at_)), .d (.v (.int .i64 s.at_.len)), .own 10 i], .row 88 2 i (dRows ((s.faces.take i).map encF))]) trivial ?_ ?_ ?_
      · refine (weak_gone 8 (by simp)).trans ((weak_adopt_box (by simp) 9 86 [.d (.v (.int .i64 s.id)), .d (.v (.int .i64 s.at_.at_)), .d (.v (.int .i64 s.at_.len)), .d (.v (.slice none 0 0))] 3 88 2 rfl rfl rfl).trans ?_)
        exact weak_forget _ (by simp) (by rfl) (by (repeat' (first | exact trivial | (refine ⟨rfl, ?_⟩)))) (by first | rfl | simp only [belowH, belowE, belowC, belowL, belowR, belowP, belowL_d, belowR_d, belowR_zipG, subRow, faceRow, List.length_cons, List.length_nil, Nat.reduceAdd, Nat.reduceLT, decide_true, Bool.and_self, Bool.and_true]) (by first | rfl | simp only [belowH, belowE, belowC, belowL, belowR, belowP, belowL_d, belowR_d, belowR_zipG, subRow, faceRow, List.length_cons, List.length_nil, Nat.reduceAdd, Nat.reduceLT, decide_true, Bool.and_self, Bool.and_true])
      · intro i f hf hi _ C hC
        have hiI : (i : Int) < (s.faces.length : Int) := by omega
        have hwi : IntKind.i64.wrap ((i : Int) + 1) = ((i + 1 : Nat) : Int) := by rw [IntKind.wrap_i64]; omega
        have hfl := h8s.2 f (List.mem_of_getElem? hf)
        have hb2 : i + 1 ≤ 100 := by omega
        have hli : (List.take i s.faces).length = i := by rw [List.length_take]; omega
        replace hf := Lib.hid hf
        have hf1 := hf.out
        repeat' (first | (with_reducible refine And.intro ?_ ?_) | (with_reducible refine gK_i (fun _ => ?_) (fun _ => ?_)) | (with_reducible refine condS_i (fun _ => ?_) (fun _ => ?_)) | (with_reducible refine drw_i (by kernel_rfl)) | simp -dsimp only [go_sem, seval, *, encN, encF, hiI, hwi, hf1, hb2, hli] | ((with_reducible refine opK_c ?_); simp -dsimp only [go_sem, seval, encN, encF, hiI, hwi, hf1, hb2, hli]; first | refine callK_r (by first | assumption | fail) (by first | exact .inl rfl | exact .inr rfl) ?_ | (refine callK_i (by assumption) ?_ ?_ ?_; (solve | (repeat (first | exact DLe.refl _ | exact DLe.nil _ | (refine DLe.tup ?_) | (refine DLe.agg ?_ rfl) | exact trivial | (refine And.intro ?_ ?_)))); (solve | exact .inl rfl | exact .inr rfl))) | (refine opK_M [] (clone_int f.addrs (by omega)) ?_ ?_ ?_ ?_ ?_ ?_; (solve | rfl | simp only [go_sem, seval, encF]); (solve | rfl); (solve | decide); (solve | simp); (solve | simp only [go_sem, seval, lentOK, encF])) | omega | exact decide_eq_true (by omega) | exact DLe.refl _)
        refine hC _ _ trivial ((weak_freeze 12 1 3 1 (f.addrs.map encA) rfl).trans ?_)
        simp only [fzE, fz, fzL, fzH, fzC, fzR, fzR_app, fzR_d, fzL_d, List.map_cons, List.map_nil, Nat.reduceAdd, Nat.reduceEqDiff, reduceIte, and_true, true_and, and_self, and_false, false_and, Nat.zero_add, Nat.add_zero, reduceCtorEq]
        exact weak_forget _ (by simp) (by rw [take_snoc hf.out, List.map_append, List.map_cons, List.map_nil, ← dRows_app]; rfl) (by (repeat' (first | exact trivial | (refine ⟨rfl, ?_⟩)))) (by first | rfl | simp only [belowH, belowE, belowC, belowL, belowR, belowP, belowL_d, belowR_d, belowR_zipG, subRow, faceRow, List.length_cons, List.length_nil, Nat.reduceAdd, Nat.reduceLT, decide_true, Bool.and_self, Bool.and_true]) (by first | rfl | simp only [belowH, belowE, belowC, belowL, belowR, belowP, belowL_d, belowR_d, belowR_zipG, subRow, faceRow, List.length_cons, List.length_nil, Nat.reduceAdd, Nat.reduceLT, decide_true, Bool.and_self, Bool.and_true])
      · intro _ C
        repeat' (first | (with_reducible refine And.intro ?_ ?_) | (with_reducible refine gK_i (fun _ => ?_) (fun _ => ?_)) | (with_reducible refine condS_i (fun _ => ?_) (fun _ => ?_)) | (with_reducible refine drw_i (by kernel_rfl)) | simp -dsimp only [go_sem, seval, *, encN, hwj, hb1, hlk, Int.lt_irrefl, List.take_length] | ((with_reducible refine opK_c ?_); simp -dsimp only [go_sem, seval, encN, hwj, hb1, hlk, Int.lt_irrefl, List.take_length]; first | refine callK_r (by first | assumption | fail) (by first | exact .inl rfl | exact .inr rfl) ?_ | (refine callK_i (by assumption) ?_ ?_ ?_; (solve | (repeat (first | exact DLe.refl _ | exact DLe.nil _ | (refine DLe.tup ?_) | (refine DLe.agg ?_ rfl) | exact trivial | (refine And.intro ?_ ?_)))); (solve | exact .inl rfl | exact .inr rfl))) | fail | omega | exact decide_eq_true (by omega) | exact DLe.refl _)
        refine hCO _ _ trivial ((weak_freeze 10 s.faces.length 88 2 (s.faces.map encF) rfl).trans ?_)
        simp only [fzE, fz, fzL, fzH, fzC, fzR, fzR_app, fzR_d, fzL_d, List.map_cons, List.map_nil, Nat.reduceAdd, Nat.reduceEqDiff, reduceIte, and_true, true_and, and_self, and_false, false_and, Nat.zero_add, Nat.add_zero, reduceCtorEq]
        exact weak_forget _ (by simp) (by rw [take_snoc hs.out, List.map_append, List.map_cons, List.map_nil, ← dRows_app]; rfl) (by (repeat' (first | exact trivial | (refine ⟨rfl, ?_⟩)))) (by first | rfl | simp only [belowH, belowE, belowC, belowL, belowR, belowP, belowL_d, belowR_d, belowR_zipG, subRow, faceRow, List.length_cons, List.length_nil, Nat.reduceAdd, Nat.reduceLT, decide_true, Bool.and_self, Bool.and_true]) (by first | rfl | simp only [belowH, belowE, belowC, belowL, belowR, belowP, belowL_d, belowR_d, belowR_zipG, subRow, faceRow, List.length_cons, List.length_nil, Nat.reduceAdd, Nat.reduceLT, decide_true, Bool.and_self, Bool.and_true])
    · intro _ C
      repeat' (first | (with_reducible refine And.intro ?_ ?_) | (with_reducible refine gK_i (fun _ => ?_) (fun _ => ?_)) | (with_reducible refine condS_i (fun _ => ?_) (fun _ => ?_)) | (with_reducible refine drw_i (by kernel_rfl)) | simp -dsimp only [go_sem, seval, *, encV, hwr, hb0, hlv, Int.lt_irrefl, List.take_length] | ((with_reducible refine opK_c ?_); simp -dsimp only [go_sem, seval, encV, hwr, hb0, hlv, Int.lt_irrefl, List.take_length]; first | refine callK_r (by first | assumption | fail) (by first | exact .inl rfl | exact .inr rfl) ?_ | (refine callK_i (by assumption) ?_ ?_ ?_; (solve | (repeat (first | exact DLe.refl _ | exact DLe.nil _ | (refine DLe.tup ?_) | (refine DLe.agg ?_ rfl) | exact trivial | (refine And.intro ?_ ?_)))); (solve | exact .inl rfl | exact .inr rfl))) | fail | omega | exact decide_eq_true (by omega) | exact DLe.refl _)
      refine hCN _ _ trivial ((weak_freeze 7 v.subs.length 86 4 (v.subs.map encN) rfl).trans ?_)
      simp only [fzE, fz, fzL, fzH, fzC, fzR, fzR_app, fzR_d, fzL_d, List.map_cons, List.map_nil, Nat.reduceAdd, Nat.reduceEqDiff, reduceIte, and_true, true_and, and_self, and_false, false_and, Nat.zero_add, Nat.add_zero, reduceCtorEq]
      refine (weak_freeze 5 1 29 3 (v.ranges.map encG) rfl).trans ?_
      simp only [fzE, fz, fzL, fzH, fzC, fzR, fzR_app, fzR_d, fzL_d, List.map_cons, List.map_nil, Nat.reduceAdd, Nat.reduceEqDiff, reduceIte, and_true, true_and, and_self, and_false, false_and, Nat.zero_add, Nat.add_zero, reduceCtorEq]
      exact weak_forget _ (by simp) (by rw [take_snoc hv.out, List.map_append, List.map_cons, List.map_nil, ← dRows_app]; rfl) (by (repeat' (first | exact trivial | (refine ⟨rfl, ?_⟩)))) (by first | rfl | simp only [belowH, belowE, belowC, belowL, belowR, belowP, belowL_d, belowR_d, belowR_zipG, subRow, faceRow, List.length_cons, List.length_nil, Nat.reduceAdd, Nat.reduceLT, decide_true, Bool.and_self, Bool.and_true]) (by first | rfl | simp only [belowH, belowE, belowC, belowL, belowR, belowP, belowL_d, belowR_d, belowR_zipG, subRow, faceRow, List.length_cons, List.length_nil, Nat.reduceAdd, Nat.reduceLT, decide_true, Bool.and_self, Bool.and_true])
  · intro _ C
    repeat' (first | (with_reducible refine And.intro ?_ ?_) | (with_reducible refine gK_i (fun _ => ?_) (fun _ => ?_)) | (with_reducible refine condS_i (fun _ => ?_) (fun _ => ?_)) | (with_reducible refine drw_i (by kernel_rfl)) | simp -dsimp only [go_sem, seval, *, Int.lt_irrefl, List.take_length] | ((with_reducible refine opK_c ?_); simp -dsimp only [go_sem, seval, Int.lt_irrefl, List.take_length]; first | refine callK_r (by first | assumption | fail) (by first | exact .inl rfl | exact .inr rfl) ?_ | (refine callK_i (by assumption) ?_ ?_ ?_; (solve | (repeat (first | exact DLe.refl _ | exact DLe.nil _ | (refine DLe.tup ?_) | (refine DLe.agg ?_ rfl) | exact trivial | (refine And.intro ?_ ?_)))); (solve | exact .inl rfl | exact .inr rfl))) | fail | omega | exact decide_eq_true (by omega) | exact DLe.refl _)
    exact weak_eq rfl rfl
end Go.Proofs.YtgmbhaclogabeaaGreat
namespace Go.Proofs.YtgmbhaclogabeaaGreat
open Go Go.RowKit
def Net.zero : Net := ⟨[], []⟩
theorem findIdx_of {l : List Vpc} {id : Int} {o : Option Vpc} (h : l.find? (fun v => v.id == id) = o) : match o with | some v => ∃ i, l.findIdx? (fun v => v.id == id) = some i ∧ l[i]? = some v ∧ v.id = id | none => l.findIdx? (fun v => v.id == id) = none := by
  cases o with
  | none =>
    rw [List.find?_eq_none] at h
    exact List.findIdx?_eq_none_iff.2 fun v hv => by simpa using h v hv
  | some v =>
    obtain ⟨h1, i, hi, h2, h3⟩ := List.find?_eq_some_iff_getElem.1 h
    refine ⟨i, ?_, by rw [List.getElem?_eq_getElem hi, h2], by simpa using h1⟩
    rw [List.findIdx?_eq_some_iff_getElem]
    exact ⟨hi, by rw [h2]; exact h1, fun j hj => by simpa using h3 j hj⟩
/-- The place of a network. -/
def vpcIx (n : Net) (id : Int) : Option Nat := n.vpcs.findIdx? fun v => v.id == id
theorem vpcIx_some {n : Net} {id : Int} {i : Nat} (h : vpcIx n id = some i) : ∃ v, n.vpcs[i]? = some v ∧ v.id = id ∧ i < n.vpcs.length ∧ findN n id = some v := by
  cases hf : findN n id with
  | none => have := findIdx_of hf; unfold vpcIx at h; rw [h] at this; cases this
  | some v =>
    obtain ⟨j, h1, h2, h3⟩ := findIdx_of hf
    unfold vpcIx at h
    rw [h] at h1
    cases h1
    exact ⟨v, h2, h3, (List.getElem?_eq_some_iff.1 h2).1, rfl⟩
theorem vpcIx_none {n : Net} {id : Int} (h : vpcIx n id = none) : findN n id = none := by
  cases hf : findN n id with
  | none => rfl
  | some v =>
    obtain ⟨j, h1, -⟩ := findIdx_of hf
    unfold vpcIx at h
    rw [h] at h1
    cases h1
theorem lbv_at {α : Type} {key : α → Int} {l : List α} {i : Nat} {q : α} (hs : l.Pairwise fun a b => key a < key b) (hq : l[i]? = some q) : lbN key (key q) l = i ∧ lbB key (key q) l = true := by
  obtain ⟨hi, rfl⟩ := List.getElem?_eq_some_iff.1 hq
  have h1 : lbN key (key l[i]) l = i := lbN_eq (Nat.le_of_lt hi) (fun k hk hki => List.pairwise_iff_getElem.1 hs k i hk hi hki) (fun k hk hki => by
    rcases Nat.lt_or_ge i k with h | h
    · have := List.pairwise_iff_getElem.1 hs i k hi hk h; omega
    · obtain rfl : k = i := by omega
      exact Int.le_refl _)
  refine ⟨h1, ?_⟩
  unfold lbB
  rw [h1, hq]; simp
set_option maxRecDepth 100000 in
theorem nfind_m (n : Net) (id : Int) (gv gl i : Nat) (v : Vpc) (hv : n.vpcs[i]? = some v) (he : v.id = id) (h6 : n.vpcs.length ≤ 6) (hs : n.vpcs.Pairwise fun a b => a.id < b.id) :
    MSpec Tryz.prog 22 [.ptr 0 0, .d (.v (.int .i64 id))] [.box 25 [.own 1 gv, .own 2 gl], .row 56 3 gv (dRows (n.vpcs.map encV)), .row 68 2 gl (dRows (n.links.map encK))] (.tup [.rp 1 gv 3 i 0, .d (.v (.bool true))])
      [.box 25 [.own 1 gv, .own 2 gl], .row 56 3 gv (dRows (n.vpcs.map encV)), .row 68 2 gl (dRows (n.links.map encK))] := by
  have hb := bsrf_Vpc encV_len (fun v : Vpc => v.id) n.vpcs id 46 [] (by omega) hs (fun v _ => find1_p v id)
  subst he
  obtain ⟨e1, e2⟩ := lbv_at (key := fun v : Vpc => v.id) hs hv
  rw [e1, e2] at hb
  have hi := (List.getElem?_eq_some_iff.1 hv).1
  have hiI : (0 : Int) ≤ (i : Int) := by omega
  clear hs e1 e2
  replace hv := Lib.hid hv
  refine ms_i tab_ok mixed Tryz.func22 rfl Tryz.ntmps22 Tryz.results22 (by kernel_rfl) (by simp) (by simp [belowL, belowP]) (by simp [belowH, belowC, belowL, belowP, belowL_d, belowR_d]) ?_
  repeat' (first | (with_reducible refine And.intro ?_ ?_) | (with_reducible refine gK_i (fun _ => ?_) (fun _ => ?_)) | (with_reducible refine condS_i (fun _ => ?_) (fun _ => ?_)) | (with_reducible refine drw_i (by kernel_rfl)) | simp -dsimp only [go_sem, seval, *, hiI, hi, undef] | ((with_reducible refine opK_c ?_); simp -dsimp only [go_sem, seval, hiI, hi, undef]; first | refine callK_r (by first | assumption | exact hb) (by first | exact .inl rfl | exact .inr rfl) ?_ | (refine callK_i (by assumption) ?_ ?_ ?_; (solve | (repeat (first | exact DLe.refl _ | exact DLe.nil _ | (refine DLe.tup ?_) | (refine DLe.agg ?_ rfl) | exact trivial | (refine And.intro ?_ ?_)))); (solve | exact .inl rfl | exact .inr rfl))) | fail | omega | exact decide_eq_true (by omega) | exact DLe.refl _)
  exact weak_eq rfl rfl
set_option maxRecDepth 100000 in
theorem nfind0_m (n : Net) (id : Int) (gv gl : Nat) (hf : findN n id = none) (h6 : n.vpcs.length ≤ 6) (hs : n.vpcs.Pairwise fun a b => a.id < b.id) :
    MSpec Tryz.prog 22 [.ptr 0 0, .d (.v (.int .i64 id))] [.box 25 [.own 1 gv, .own 2 gl], .row 56 3 gv (dRows (n.vpcs.map encV)), .row 68 2 gl (dRows (n.links.map encK))] (.d (.tup [.v (.pointer none), .v (.bool false)]))
      [.box 25 [.own 1 gv, .own 2 gl], .row 56 3 gv (dRows (n.vpcs.map encV)), .row 68 2 gl (dRows (n.links.map encK))] := by
  have hb := bsrf_Vpc encV_len (fun v : Vpc => v.id) n.vpcs id 46 [] (by omega) hs (fun v _ => find1_p v id)
  have e2 : lbB (fun v : Vpc => v.id) id n.vpcs = false := by
    cases hB : lbB (fun v : Vpc => v.id) id n.vpcs with
    | false => rfl
    | true =>
      unfold lbB at hB
      cases hq : n.vpcs[lbN (fun v : Vpc => v.id) id n.vpcs]? with
      | none => rw [hq] at hB; cases hB
      | some v =>
        have := lb_hit hs hq (by rw [hq] at hB; simpa using hB)
        unfold findN at hf
        rw [hf] at this
        cases this
  rw [e2] at hb
  clear hs e2 hf
  refine ms_i tab_ok mixed Tryz.func22 rfl Tryz.ntmps22 Tryz.results22 (by kernel_rfl) (by simp) (by simp [belowL, belowP]) (by simp [belowH, belowC, belowL, belowP, belowL_d, belowR_d]) ?_
  repeat' (first | (with_reducible refine And.intro ?_ ?_) | (with_reducible refine gK_i (fun _ => ?_) (fun _ => ?_)) | (with_reducible refine condS_i (fun _ => ?_) (fun _ => ?_)) | (with_reducible refine drw_i (by kernel_rfl)) | simp -dsimp only [go_sem, seval, *, undef] | ((with_reducible refine opK_c ?_); simp -dsimp only [go_sem, seval, undef]; first | refine callK_r (by first | assumption | exact hb) (by first | exact .inl rfl | exact .inr rfl) ?_ | (refine callK_i (by assumption) ?_ ?_ ?_; (solve | (repeat (first | exact DLe.refl _ | exact DLe.nil _ | (refine DLe.tup ?_) | (refine DLe.agg ?_ rfl) | exact trivial | (refine And.intro ?_ ?_)))); (solve | exact .inl rfl | exact .inr rfl))) | fail | omega | exact decide_eq_true (by omega) | exact DLe.refl _)
  exact weak_eq rfl rfl
theorem nfindz_p (id : Int) : PSpec Tryz.prog 22 [.ept [.v (.slice none 0 0), .v (.slice none 0 0)], .v (.int .i64 id)] (.tup [.v (.pointer none), .v (.bool false)]) := by
  have hb := (bsrf_Vpc encV_len (fun v : Vpc => v.id) [] id 46 [] (by simp) (by simp) (fun v _ => find1_p v id)).args (ds := [.v (.slice none 0 0), .v (.int .i64 id), .clo 46 []]) ⟨DLe.nil _, DLe.refl _, DLe.refl _, trivial⟩
  have e : lbB (fun v : Vpc => v.id) id [] = false := rfl
  rw [e] at hb
  refine ps_i tab_ok mixed Tryz.func22 rfl Tryz.ntmps22 Tryz.results22 (by kernel_rfl) ?_
  repeat' (first | (with_reducible refine And.intro ?_ ?_) | (with_reducible refine gK_i (fun _ => ?_) (fun _ => ?_)) | (with_reducible refine condS_i (fun _ => ?_) (fun _ => ?_)) | (with_reducible refine drw_i (by kernel_rfl)) | simp -dsimp only [go_sem, seval, *, undef] | ((with_reducible refine opK_c ?_); simp -dsimp only [go_sem, seval, undef]; first | refine callK_r (by first | assumption | exact hb) (by first | exact .inl rfl | exact .inr rfl) ?_ | (refine callK_i (by assumption) ?_ ?_ ?_; (solve | (repeat (first | exact DLe.refl _ | exact DLe.nil _ | (refine DLe.tup ?_) | (refine DLe.agg ?_ rfl) | exact trivial | (refine And.intro ?_ ?_)))); (solve | exact .inl rfl | exact .inr rfl))) | fail | omega | exact decide_eq_true (by omega) | exact DLe.refl _)
end Go.Proofs.YtgmbhaclogabeaaGreat
namespace Go.Proofs.YtgmbhaclogabeaaGreat
open Go Go.RowKit
theorem eqK_list (x y : Lnk) : ([x.a, x.b] == [y.a, y.b]) = decide (x = y) := by
  rw [Bool.eq_iff_iff]
  cases x; cases y
  simp
set_option maxHeartbeats 1000000 in
theorem index_Link (l : List Lnk) (x : Lnk) (hl : l.length ≤ 1000000000) :
    PSpec Tryz.prog 43 [.sl 2 (l.map encK), .agg (encK x)] (.v (.int .i64 (idxI (fun y => decide (x = y)) l))) := by
  refine ps_i tab_ok mixed Tryz.func43 rfl Tryz.ntmps43 Tryz.results43 (by kernel_rfl) ?_
  repeat' (first | (with_reducible refine And.intro ?_ ?_) | (with_reducible refine gK_i (fun _ => ?_) (fun _ => ?_)) | (with_reducible refine condS_i (fun _ => ?_) (fun _ => ?_)) | (with_reducible refine drw_i (by kernel_rfl)) | simp -dsimp only [go_sem, seval, *, encK, bne_self_eq_false] | ((with_reducible refine opK_c ?_); simp -dsimp only [go_sem, seval, encK, bne_self_eq_false]; first | refine callK_r (by first | assumption | fail) (by first | exact .inl rfl | exact .inr rfl) ?_ | (refine callK_i (by assumption) ?_ ?_ ?_; (solve | (repeat (first | exact DLe.refl _ | exact DLe.nil _ | (refine DLe.tup ?_) | (refine DLe.agg ?_ rfl) | exact trivial | (refine And.intro ?_ ?_)))); (solve | exact .inl rfl | exact .inr rfl))) | fail | omega | exact decide_eq_true (by omega) | exact DLe.refl _)
  refine loopG tab_ok mixed (fun m e h => ∃ k : Nat, k ≤ l.length ∧ (∀ y ∈ l.take k, decide (x = y) = false) ∧ m = l.length - k ∧ e = [(8, .d (.v (.int .i64 k))), (7, .d (.v (.int .i64 l.length))), (4, .d (.v (.int .i64 0))), (3, .ptr 0 0), (0, .d (.sl 2 (l.map encK)))] ∧ h = [.box 68 ((encK x).map .d)]) _ _ _ ⟨0, Nat.zero_le _, by simp, rfl, rfl, rfl⟩ (weak_forget _ (by simp) (by (try simp only [encK]); rfl) (by (repeat' (first | exact trivial | (refine ⟨rfl, ?_⟩)))) (by first | rfl | simp only [belowH, belowE, belowC, belowL, belowR, belowP, belowL_d, belowR_d, List.length_cons, List.length_nil, Nat.reduceAdd, Nat.reduceLT, decide_true, Bool.and_self, Bool.and_true]) (by first | rfl | simp only [belowH, belowE, belowC, belowL, belowR, belowP, belowL_d, belowR_d, List.length_cons, List.length_nil, Nat.reduceAdd, Nat.reduceLT, decide_true, Bool.and_self, Bool.and_true])) ?_
  rintro m e h ⟨k, hk, hno, rfl, rfl, rfl⟩ CL hCL
  by_cases hlt : k < l.length
  · obtain ⟨y, hy⟩ : ∃ y, l[k]? = some y := ⟨_, List.getElem?_eq_getElem hlt⟩
    have hltI : (k : Int) < (l.length : Int) := by omega
    have hwr : IntKind.i64.wrap ((k : Int) + 1) = ((k + 1 : Nat) : Int) := by rw [IntKind.wrap_i64]; omega
    have he := eqK_list x y
    cases hp : decide (x = y) with
    | false =>
      rw [hp] at he
      have hno2 : ∀ z ∈ l.take (k + 1), decide (x = z) = false := fun z hz => by
        rw [take_snoc hy] at hz
        rcases List.mem_append.1 hz with hz | hz
        · exact hno z hz
        · rw [List.mem_singleton] at hz; rw [hz]; exact hp
      replace hno2 := Lib.hid hno2
      replace hno := Lib.hid hno
      replace hp := Lib.hid hp
      repeat' (first | (with_reducible refine And.intro ?_ ?_) | (with_reducible refine gK_i (fun _ => ?_) (fun _ => ?_)) | (with_reducible refine condS_i (fun _ => ?_) (fun _ => ?_)) | (with_reducible refine drw_i (by kernel_rfl)) | simp -dsimp only [go_sem, seval, *, encK, hy, hltI, hwr, he] | ((with_reducible refine opK_c ?_); simp -dsimp only [go_sem, seval, encK, hy, hltI, hwr, he]; first | refine callK_r (by first | assumption | fail) (by first | exact .inl rfl | exact .inr rfl) ?_ | (refine callK_i (by assumption) ?_ ?_ ?_; (solve | (repeat (first | exact DLe.refl _ | exact DLe.nil _ | (refine DLe.tup ?_) | (refine DLe.agg ?_ rfl) | exact trivial | (refine And.intro ?_ ?_)))); (solve | exact .inl rfl | exact .inr rfl))) | fail | omega | exact decide_eq_true (by omega) | exact DLe.refl _)
      refine hCL _ _ _ _ _ ?_ ⟨k + 1, hlt, hno2.out, rfl, rfl, rfl⟩ (weak_forget _ (by simp) (by (try simp only [encK]); rfl) (by (repeat' (first | exact trivial | (refine ⟨rfl, ?_⟩)))) (by first | rfl | simp only [belowH, belowE, belowC, belowL, belowR, belowP, belowL_d, belowR_d, List.length_cons, List.length_nil, Nat.reduceAdd, Nat.reduceLT, decide_true, Bool.and_self, Bool.and_true]) (by first | rfl | simp only [belowH, belowE, belowC, belowL, belowR, belowP, belowL_d, belowR_d, List.length_cons, List.length_nil, Nat.reduceAdd, Nat.reduceLT, decide_true, Bool.and_self, Bool.and_true]))
      omega
    | true =>
      rw [hp] at he
      have hidx : idxI (fun y => decide (x = y)) l = k := idxI_some hy hp hno
      rw [hidx]
      replace hidx := Lib.hid hidx
      replace hno := Lib.hid hno
      replace hp := Lib.hid hp
      repeat' (first | (with_reducible refine And.intro ?_ ?_) | (with_reducible refine gK_i (fun _ => ?_) (fun _ => ?_)) | (with_reducible refine condS_i (fun _ => ?_) (fun _ => ?_)) | (with_reducible refine drw_i (by kernel_rfl)) | simp -dsimp only [go_sem, seval, *, encK, hy, hltI, hwr, he] | ((with_reducible refine opK_c ?_); simp -dsimp only [go_sem, seval, encK, hy, hltI, hwr, he]; first | refine callK_r (by first | assumption | fail) (by first | exact .inl rfl | exact .inr rfl) ?_ | (refine callK_i (by assumption) ?_ ?_ ?_; (solve | (repeat (first | exact DLe.refl _ | exact DLe.nil _ | (refine DLe.tup ?_) | (refine DLe.agg ?_ rfl) | exact trivial | (refine And.intro ?_ ?_)))); (solve | exact .inl rfl | exact .inr rfl))) | fail | omega | exact decide_eq_true (by omega) | exact DLe.refl _)
      all_goals exact DLe.refl _
  · obtain rfl : k = l.length := by omega
    rw [List.take_length] at hno
    rw [idxI_none hno]
    replace hno := Lib.hid hno
    repeat' (first | (with_reducible refine And.intro ?_ ?_) | (with_reducible refine gK_i (fun _ => ?_) (fun _ => ?_)) | (with_reducible refine condS_i (fun _ => ?_) (fun _ => ?_)) | (with_reducible refine drw_i (by kernel_rfl)) | simp -dsimp only [go_sem, seval, *, encK, Int.lt_irrefl] | ((with_reducible refine opK_c ?_); simp -dsimp only [go_sem, seval, encK, Int.lt_irrefl]; first | refine callK_r (by first | assumption | fail) (by first | exact .inl rfl | exact .inr rfl) ?_ | (refine callK_i (by assumption) ?_ ?_ ?_; (solve | (repeat (first | exact DLe.refl _ | exact DLe.nil _ | (refine DLe.tup ?_) | (refine DLe.agg ?_ rfl) | exact trivial | (refine And.intro ?_ ?_)))); (solve | exact .inl rfl | exact .inr rfl))) | fail | omega | exact decide_eq_true (by omega) | exact DLe.refl _)
    all_goals exact DLe.refl _
theorem contains_Link (l : List Lnk) (x : Lnk) (hl : l.length ≤ 1000000000) :
    PSpec Tryz.prog 40 [.sl 2 (l.map encK), .agg (encK x)] (.v (.bool (l.any fun y => decide (x = y)))) := by
  have hi := index_Link l x hl
  have hany := idxI_any (fun y => decide (x = y)) l
  refine ps_i tab_ok mixed Tryz.func40 rfl Tryz.ntmps40 Tryz.results40 (by kernel_rfl) ?_
  repeat' (first | (with_reducible refine And.intro ?_ ?_) | (with_reducible refine gK_i (fun _ => ?_) (fun _ => ?_)) | (with_reducible refine condS_i (fun _ => ?_) (fun _ => ?_)) | (with_reducible refine drw_i (by kernel_rfl)) | simp -dsimp only [go_sem, seval, *, encK, hany] | ((with_reducible refine opK_c ?_); simp -dsimp only [go_sem, seval, encK, hany]; first | refine callK_r (by first | assumption | exact hi) (by first | exact .inl rfl | exact .inr rfl) ?_ | (refine callK_i (by assumption) ?_ ?_ ?_; (solve | (repeat (first | exact DLe.refl _ | exact DLe.nil _ | (refine DLe.tup ?_) | (refine DLe.agg ?_ rfl) | exact trivial | (refine And.intro ?_ ?_)))); (solve | exact .inl rfl | exact .inr rfl))) | fail | omega | exact decide_eq_true (by omega) | exact DLe.refl _)
  all_goals exact DLe.refl _
theorem delete_Link {α : Type} {enc : α → List D} (l : List α) (i j g : Nat) (hi : i < l.length) (hj : j = i + 1) :
    MSpec Tryz.prog 44 [.own 0 g, .d (.v (.int .i64 i)), .d (.v (.int .i64 j))] [.row 68 2 g (dRows (l.map enc))] (.own 0 (g + 1)) [.row 68 2 (g + 1) (dRows ((l.eraseIdx i).map enc))] := by
  have h1 : ((i : Int) == (j : Int)) = false := by simp; omega
  have hne : ¬ dRows (l.map enc) = [] := by cases l <;> simp [dRows] at hi ⊢
  have hle : (i : Int) ≤ (j : Int) := by omega
  have hle2 : (j : Int) ≤ (l.length : Int) := by omega
  have hlm : (l.map enc).length = l.length := List.length_map _
  have h2 := del_len (dRows (l.map enc)) i j l.length (by rw [dRows_len, hlm]; exact hi) hj (by rw [dRows_len, hlm])
  rw [dRows_len, hlm] at h2
  have hj1 := Lib.hid hj
  clear hj
  have hj2 : j ≤ l.length := by have := hj1.out; omega
  have hmin : min (l.length - j) (l.length - j) = l.length - j := Nat.min_self _
  have hlt : i + (l.length - j) ≤ l.length := by have := hj1.out; omega
  have hk1 : l.length - (i + (l.length - j)) = 1 := by have := hj1.out; omega
  have hk2 : i + (l.length - j) + 1 ≤ l.length := by have := hj1.out; omega
  have hne2 : ¬ setAt (dRows (l.map enc)) i (((dRows (l.map enc)).drop j).take (l.length - j)) = [] := by
    intro h
    rw [h] at h2; simp at h2; omega
  refine ms_i tab_ok mixed Tryz.func44 rfl Tryz.ntmps44 Tryz.results44 (by kernel_rfl) (by simp) (by simp [belowL, belowP]) (by simp [belowH, belowC, belowL, belowP, belowL_d, belowR_d]) ?_
  repeat' (first | (with_reducible refine And.intro ?_ ?_) | (with_reducible refine gK_i (fun _ => ?_) (fun _ => ?_)) | (with_reducible refine condS_i (fun _ => ?_) (fun _ => ?_)) | (with_reducible refine drw_i (by kernel_rfl)) | simp -dsimp only [go_sem, seval, *, h1, hne, Nat.sub_zero, List.length_take, List.length_drop] | ((with_reducible refine opK_c ?_); simp -dsimp only [go_sem, seval, h1, hne, Nat.sub_zero, List.length_take, List.length_drop]; first | refine callK_r (by first | assumption | fail) (by first | exact .inl rfl | exact .inr rfl) ?_ | refine callK_i (by assumption) (by repeat (first | exact DLe.refl _ | exact DLe.nil _ | (refine DLe.tup ?_) | (refine DLe.agg ?_ rfl) | exact trivial | (refine And.intro ?_ ?_))) (by first | exact .inl rfl | exact .inr rfl) ?_) | omega | exact decide_eq_true (by omega) | exact DLe.refl _)
  rw [map_erase]
  exact del_weak (by rw [hlm]; exact hi) hj1.out hlm.symm
end Go.Proofs.YtgmbhaclogabeaaGreat
namespace Go.Proofs.YtgmbhaclogabeaaGreat
open Go Go.RowKit
theorem vpcAt_p (n : Net) (id : Int) (hl : n.vpcs.length ≤ 1000000000) : PSpec Tryz.prog 10 [.agg (encT n), .v (.int .i64 id)] (.v (.int .i64 (idxI (fun v => v.id == id) n.vpcs))) := by
  refine ps_i tab_ok mixed Tryz.func10 rfl Tryz.ntmps10 Tryz.results10 (by kernel_rfl) ?_
  repeat' (first | (with_reducible refine And.intro ?_ ?_) | (with_reducible refine gK_i (fun _ => ?_) (fun _ => ?_)) | (with_reducible refine condS_i (fun _ => ?_) (fun _ => ?_)) | (with_reducible refine drw_i (by kernel_rfl)) | simp -dsimp only [go_sem, seval, *, encT] | ((with_reducible refine opK_c ?_); simp -dsimp only [go_sem, seval, encT]; first | refine callK_r (by first | assumption | fail) (by first | exact .inl rfl | exact .inr rfl) ?_ | (refine callK_i (by assumption) ?_ ?_ ?_; (solve | (repeat (first | exact DLe.refl _ | exact DLe.nil _ | (refine DLe.tup ?_) | (refine DLe.agg ?_ rfl) | exact trivial | (refine And.intro ?_ ?_)))); (solve | exact .inl rfl | exact .inr rfl))) | fail | omega | exact decide_eq_true (by omega) | exact DLe.refl _)
  refine loopL tab_ok mixed n.vpcs (fun k => (n.vpcs.take k).all (fun v => !(v.id == id)) = true) (fun k => [(5, .d (.v (.int .i64 k))), (4, .d (.v (.int .i64 0))), (2, .ptr 0 0), (1, .d (.v (.int .i64 id)))]) (fun _ => [.box 25 ((encT n).map .d)]) rfl (weak_forget _ (by simp) (by (try simp only [encT]); rfl) (by (repeat' (first | exact trivial | (refine ⟨rfl, ?_⟩)))) (by first | rfl | simp only [belowH, belowE, belowC, belowL, belowR, belowP, belowL_d, belowR_d, List.length_cons, List.length_nil, Nat.reduceAdd, Nat.reduceLT, decide_true, Bool.and_self, Bool.and_true]) (by first | rfl | simp only [belowH, belowE, belowC, belowL, belowR, belowP, belowL_d, belowR_d, List.length_cons, List.length_nil, Nat.reduceAdd, Nat.reduceLT, decide_true, Bool.and_self, Bool.and_true])) ?_ ?_
  · intro k p hp hk hI C hC
    have hkI : (k : Int) < (n.vpcs.length : Int) := by omega
    have hwr : IntKind.i64.wrap ((k : Int) + 1) = ((k + 1 : Nat) : Int) := by rw [IntKind.wrap_i64]; omega
    replace hI := Lib.hid hI
    repeat' (first | (with_reducible refine And.intro ?_ ?_) | (with_reducible refine gK_i (fun _ => ?_) (fun _ => ?_)) | (with_reducible refine condS_i (fun _ => ?_) (fun _ => ?_)) | (with_reducible refine drw_i (by kernel_rfl)) | simp -dsimp only [go_sem, seval, *, encT, encV, hkI, hwr, hp] | ((with_reducible refine opK_c ?_); simp -dsimp only [go_sem, seval, encT, encV, hkI, hwr, hp]; first | refine callK_r (by first | assumption | fail) (by first | exact .inl rfl | exact .inr rfl) ?_ | (refine callK_i (by assumption) ?_ ?_ ?_; (solve | (repeat (first | exact DLe.refl _ | exact DLe.nil _ | (refine DLe.tup ?_) | (refine DLe.agg ?_ rfl) | exact trivial | (refine And.intro ?_ ?_)))); (solve | exact .inl rfl | exact .inr rfl))) | fail | omega | exact decide_eq_true (by omega) | exact DLe.refl _)
    · rename_i h1
      exact dle_n (idxI_hit hp (by simpa using h1) hI.out).symm
    · rename_i h1
      exact hC _ _ (no_snoc hp hI.out (by simpa using h1)) (weak_forget _ (by simp) (by (try simp only [encT]); rfl) (by (repeat' (first | exact trivial | (refine ⟨rfl, ?_⟩)))) (by first | rfl | simp only [belowH, belowE, belowC, belowL, belowR, belowP, belowL_d, belowR_d, List.length_cons, List.length_nil, Nat.reduceAdd, Nat.reduceLT, decide_true, Bool.and_self, Bool.and_true]) (by first | rfl | simp only [belowH, belowE, belowC, belowL, belowR, belowP, belowL_d, belowR_d, List.length_cons, List.length_nil, Nat.reduceAdd, Nat.reduceLT, decide_true, Bool.and_self, Bool.and_true]))
  · intro hI C
    replace hI := Lib.hid hI
    repeat' (first | (with_reducible refine And.intro ?_ ?_) | (with_reducible refine gK_i (fun _ => ?_) (fun _ => ?_)) | (with_reducible refine condS_i (fun _ => ?_) (fun _ => ?_)) | (with_reducible refine drw_i (by kernel_rfl)) | simp -dsimp only [go_sem, seval, *, encT, Int.lt_irrefl] | ((with_reducible refine opK_c ?_); simp -dsimp only [go_sem, seval, encT, Int.lt_irrefl]; first | refine callK_r (by first | assumption | fail) (by first | exact .inl rfl | exact .inr rfl) ?_ | (refine callK_i (by assumption) ?_ ?_ ?_; (solve | (repeat (first | exact DLe.refl _ | exact DLe.nil _ | (refine DLe.tup ?_) | (refine DLe.agg ?_ rfl) | exact trivial | (refine And.intro ?_ ?_)))); (solve | exact .inl rfl | exact .inr rfl))) | fail | omega | exact decide_eq_true (by omega) | exact DLe.refl _)
    exact dle_n (idxI_no hI.out).symm
theorem vpcAt_ix (n : Net) (id : Int) : idxI (fun v => v.id == id) n.vpcs = match vpcIx n id with | some i => (i : Int) | none => -1 := rfl
/-- Does a link join two networks? -/
def linkedN (n : Net) (a b : Int) : Bool := n.links.any fun y => decide (y = lnk a b)
theorem linkedR_p (n : Net) (a b : Int) (hl : n.links.length ≤ 1000000000) : PSpec Tryz.prog 33 [.agg (encT n), .v (.int .i64 a), .v (.int .i64 b)] (.v (.bool (linkedN n a b))) := by
  obtain ⟨R, hR⟩ : ∃ R, R = linkedN n a b := ⟨_, rfl⟩
  rw [← hR]
  replace hR := Lib.hid hR
  refine ps_i tab_ok mixed Tryz.func33 rfl Tryz.ntmps33 Tryz.results33 (by kernel_rfl) ?_
  repeat' (first | (with_reducible refine And.intro ?_ ?_) | (with_reducible refine gK_i (fun _ => ?_) (fun _ => ?_)) | (with_reducible refine condS_i (fun _ => ?_) (fun _ => ?_)) | (with_reducible refine drw_i (by kernel_rfl)) | simp -dsimp only [go_sem, seval, *, encT] | ((with_reducible refine opK_c ?_); simp -dsimp only [go_sem, seval, encT]; first | refine callK_r (by first | assumption | fail) (by first | exact .inl rfl | exact .inr rfl) ?_ | (refine callK_i (by assumption) ?_ ?_ ?_; (solve | (repeat (first | exact DLe.refl _ | exact DLe.nil _ | (refine DLe.tup ?_) | (refine DLe.agg ?_ rfl) | exact trivial | (refine And.intro ?_ ?_)))); (solve | exact .inl rfl | exact .inr rfl))) | fail | omega | exact decide_eq_true (by omega) | exact DLe.refl _)
  refine loopL tab_ok mixed n.links (fun k => (n.links.take k).all (fun y => !decide (y = lnk a b)) = true) (fun k => [(7, .d (.v (.int .i64 k))), (6, .d (.v (.bool false))), (3, .ptr 0 0), (2, .d (.v (.int .i64 b))), (1, .d (.v (.int .i64 a)))]) (fun _ => [.box 25 ((encT n).map .d)]) rfl (weak_forget _ (by simp) (by (try simp only [encT]); rfl) (by (repeat' (first | exact trivial | (refine ⟨rfl, ?_⟩)))) (by first | rfl | simp only [belowH, belowE, belowC, belowL, belowR, belowP, belowL_d, belowR_d, List.length_cons, List.length_nil, Nat.reduceAdd, Nat.reduceLT, decide_true, Bool.and_self, Bool.and_true]) (by first | rfl | simp only [belowH, belowE, belowC, belowL, belowR, belowP, belowL_d, belowR_d, List.length_cons, List.length_nil, Nat.reduceAdd, Nat.reduceLT, decide_true, Bool.and_self, Bool.and_true])) ?_ ?_
  · intro k p hp hk hI C hC
    have hkI : (k : Int) < (n.links.length : Int) := by omega
    have hwr : IntKind.i64.wrap ((k : Int) + 1) = ((k + 1 : Nat) : Int) := by rw [IntKind.wrap_i64]; omega
    have he : ([p.a, p.b] == [if b < a then b else a, if a < b then b else a]) = decide (p = lnk a b) := eqK_list p (lnk a b)
    have hyes : decide (p = lnk a b) = true → R = true := fun h => by rw [hR.out]; exact List.any_eq_true.2 ⟨p, List.mem_of_getElem? hp, h⟩
    have hno : decide (p = lnk a b) = false → (n.links.take (k + 1)).all (fun y => !decide (y = lnk a b)) = true := fun h => no_snoc hp hI (by simpa using h)
    generalize decide (p = lnk a b) = t at *
    replace hI := Lib.hid hI
    replace hyes := Lib.hid hyes
    replace hno := Lib.hid hno
    cases t with
    | true =>
      have hr := hyes.out rfl
      rw [hr]
      replace hr := Lib.hid hr
      repeat' (first | (with_reducible refine And.intro ?_ ?_) | (with_reducible refine gK_i (fun _ => ?_) (fun _ => ?_)) | (with_reducible refine condS_i (fun _ => ?_) (fun _ => ?_)) | (with_reducible refine drw_i (by kernel_rfl)) | simp -dsimp only [go_sem, seval, *, encT, encK, hkI, hwr, hp, he] | ((with_reducible refine opK_c ?_); simp -dsimp only [go_sem, seval, encT, encK, hkI, hwr, hp, he]; first | refine callK_r (by first | assumption | fail) (by first | exact .inl rfl | exact .inr rfl) ?_ | (refine callK_i (by assumption) ?_ ?_ ?_; (solve | (repeat (first | exact DLe.refl _ | exact DLe.nil _ | (refine DLe.tup ?_) | (refine DLe.agg ?_ rfl) | exact trivial | (refine And.intro ?_ ?_)))); (solve | exact .inl rfl | exact .inr rfl))) | fail | omega | exact decide_eq_true (by omega) | exact DLe.refl _)
      all_goals exact DLe.refl _
    | false =>
      repeat' (first | (with_reducible refine And.intro ?_ ?_) | (with_reducible refine gK_i (fun _ => ?_) (fun _ => ?_)) | (with_reducible refine condS_i (fun _ => ?_) (fun _ => ?_)) | (with_reducible refine drw_i (by kernel_rfl)) | simp -dsimp only [go_sem, seval, *, encT, encK, hkI, hwr, hp, he] | ((with_reducible refine opK_c ?_); simp -dsimp only [go_sem, seval, encT, encK, hkI, hwr, hp, he]; first | refine callK_r (by first | assumption | fail) (by first | exact .inl rfl | exact .inr rfl) ?_ | (refine callK_i (by assumption) ?_ ?_ ?_; (solve | (repeat (first | exact DLe.refl _ | exact DLe.nil _ | (refine DLe.tup ?_) | (refine DLe.agg ?_ rfl) | exact trivial | (refine And.intro ?_ ?_)))); (solve | exact .inl rfl | exact .inr rfl))) | fail | omega | exact decide_eq_true (by omega) | exact DLe.refl _)
      exact hC _ _ (hno.out rfl) (weak_forget _ (by simp) (by (try simp only [encT]); rfl) (by (repeat' (first | exact trivial | (refine ⟨rfl, ?_⟩)))) (by first | rfl | simp only [belowH, belowE, belowC, belowL, belowR, belowP, belowL_d, belowR_d, List.length_cons, List.length_nil, Nat.reduceAdd, Nat.reduceLT, decide_true, Bool.and_self, Bool.and_true]) (by first | rfl | simp only [belowH, belowE, belowC, belowL, belowR, belowP, belowL_d, belowR_d, List.length_cons, List.length_nil, Nat.reduceAdd, Nat.reduceLT, decide_true, Bool.and_self, Bool.and_true]))
  · intro hI C
    have hr : R = false := by
      rw [hR.out]
      unfold linkedN
      rw [List.take_length, List.all_eq_true] at hI
      rw [List.any_eq_false]
      intro y hy
      have := hI y hy
      simpa using this
    rw [hr]
    replace hr := Lib.hid hr
    replace hI := Lib.hid hI
    repeat' (first | (with_reducible refine And.intro ?_ ?_) | (with_reducible refine gK_i (fun _ => ?_) (fun _ => ?_)) | (with_reducible refine condS_i (fun _ => ?_) (fun _ => ?_)) | (with_reducible refine drw_i (by kernel_rfl)) | simp -dsimp only [go_sem, seval, *, encT, Int.lt_irrefl] | ((with_reducible refine opK_c ?_); simp -dsimp only [go_sem, seval, encT, Int.lt_irrefl]; first | refine callK_r (by first | assumption | fail) (by first | exact .inl rfl | exact .inr rfl) ?_ | (refine callK_i (by assumption) ?_ ?_ ?_; (solve | (repeat (first | exact DLe.refl _ | exact DLe.nil _ | (refine DLe.tup ?_) | (refine DLe.agg ?_ rfl) | exact trivial | (refine And.intro ?_ ?_)))); (solve | exact .inl rfl | exact .inr rfl))) | fail | omega | exact decide_eq_true (by omega) | exact DLe.refl _)
    all_goals exact DLe.refl _
set_option maxHeartbeats 1000000 in
theorem clashR_p (v w : Vpc) (hv : v.ranges.length ≤ 1000000000) (hw : w.ranges.length ≤ 1000000000) : PSpec Tryz.prog 32 [.agg (encV v), .agg (encV w)] (.v (.bool (clashV v w))) := by
  obtain ⟨R, hR⟩ : ∃ R, R = clashV v w := ⟨_, rfl⟩
  rw [← hR]
  replace hR := Lib.hid hR
  refine ps_i tab_ok mixed Tryz.func32 rfl Tryz.ntmps32 Tryz.results32 (by kernel_rfl) ?_
  repeat' (first | (with_reducible refine And.intro ?_ ?_) | (with_reducible refine gK_i (fun _ => ?_) (fun _ => ?_)) | (with_reducible refine condS_i (fun _ => ?_) (fun _ => ?_)) | (with_reducible refine drw_i (by kernel_rfl)) | simp -dsimp only [go_sem, seval, *, encV] | ((with_reducible refine opK_c ?_); simp -dsimp only [go_sem, seval, encV]; first | refine callK_r (by first | assumption | fail) (by first | exact .inl rfl | exact .inr rfl) ?_ | (refine callK_i (by assumption) ?_ ?_ ?_; (solve | (repeat (first | exact DLe.refl _ | exact DLe.nil _ | (refine DLe.tup ?_) | (refine DLe.agg ?_ rfl) | exact trivial | (refine And.intro ?_ ?_)))); (solve | exact .inl rfl | exact .inr rfl))) | fail | omega | exact decide_eq_true (by omega) | exact DLe.refl _)
  refine loopL tab_ok mixed v.ranges (fun k => (v.ranges.take k).all (fun r => !(w.ranges.any fun q => r.at_.meets q.at_)) = true) (fun k => [(5, .d (.v (.int .i64 k))), (4, .d (.v (.bool false))), (3, .ptr 1 0), (2, .ptr 0 0)]) (fun _ => [.box 56 ((encV v).map .d), .box 56 ((encV w).map .d)]) rfl (weak_forget _ (by simp) (by (try simp only [encV]); rfl) (by (repeat' (first | exact trivial | (refine ⟨rfl, ?_⟩)))) (by first | rfl | simp only [belowH, belowE, belowC, belowL, belowR, belowP, belowL_d, belowR_d, List.length_cons, List.length_nil, Nat.reduceAdd, Nat.reduceLT, decide_true, Bool.and_self, Bool.and_true]) (by first | rfl | simp only [belowH, belowE, belowC, belowL, belowR, belowP, belowL_d, belowR_d, List.length_cons, List.length_nil, Nat.reduceAdd, Nat.reduceLT, decide_true, Bool.and_self, Bool.and_true])) ?_ ?_
  · intro k r hr0 hk hI C hC
    have hkI : (k : Int) < (v.ranges.length : Int) := by omega
    have hwr : IntKind.i64.wrap ((k : Int) + 1) = ((k + 1 : Nat) : Int) := by rw [IntKind.wrap_i64]; omega
    have hsn : (w.ranges.any fun q => r.at_.meets q.at_) = false → (v.ranges.take (k + 1)).all (fun r => !(w.ranges.any fun q => r.at_.meets q.at_)) = true := fun h => no_snoc hr0 hI (by rw [h]; rfl)
    have hyes : (w.ranges.any fun q => r.at_.meets q.at_) = true → R = true := fun h => by rw [hR.out]; exact List.any_eq_true.2 ⟨r, List.mem_of_getElem? hr0, h⟩
    replace hI := Lib.hid hI
    replace hsn := Lib.hid hsn
    replace hyes := Lib.hid hyes
    repeat' (first | (with_reducible refine And.intro ?_ ?_) | (with_reducible refine gK_i (fun _ => ?_) (fun _ => ?_)) | (with_reducible refine condS_i (fun _ => ?_) (fun _ => ?_)) | (with_reducible refine drw_i (by kernel_rfl)) | simp -dsimp only [go_sem, seval, *, encV, hkI] | ((with_reducible refine opK_c ?_); simp -dsimp only [go_sem, seval, encV, hkI]; first | refine callK_r (by first | assumption | fail) (by first | exact .inl rfl | exact .inr rfl) ?_ | (refine callK_i (by assumption) ?_ ?_ ?_; (solve | (repeat (first | exact DLe.refl _ | exact DLe.nil _ | (refine DLe.tup ?_) | (refine DLe.agg ?_ rfl) | exact trivial | (refine And.intro ?_ ?_)))); (solve | exact .inl rfl | exact .inr rfl))) | fail | omega | exact decide_eq_true (by omega) | exact DLe.refl _)
    refine loopL tab_ok mixed w.ranges (fun j => (w.ranges.take j).all (fun q => !(r.at_.meets q.at_)) = true) (fun j => [(6, .d (.v (.int .i64 j))), (5, .d (.v (.int .i64 k))), (4, .d (.v (.bool false))), (3, .ptr 1 0), (2, .ptr 0 0)]) (fun _ => [.box 56 ((encV v).map .d), .box 56 ((encV w).map .d)]) rfl (weak_forget _ (by simp) (by (try simp only [encV]); rfl) (by (repeat' (first | exact trivial | (refine ⟨rfl, ?_⟩)))) (by first | rfl | simp only [belowH, belowE, belowC, belowL, belowR, belowP, belowL_d, belowR_d, List.length_cons, List.length_nil, Nat.reduceAdd, Nat.reduceLT, decide_true, Bool.and_self, Bool.and_true]) (by first | rfl | simp only [belowH, belowE, belowC, belowL, belowR, belowP, belowL_d, belowR_d, List.length_cons, List.length_nil, Nat.reduceAdd, Nat.reduceLT, decide_true, Bool.and_self, Bool.and_true])) ?_ ?_
    · intro j q hq hj hJ C2 hC2
      have hjI : (j : Int) < (w.ranges.length : Int) := by omega
      have hwj : IntKind.i64.wrap ((j : Int) + 1) = ((j + 1 : Nat) : Int) := by rw [IntKind.wrap_i64]; omega
      have hme := meet_p r.at_ q.at_
      rw [meetB_eq] at hme
      cases b : r.at_.meets q.at_ with
      | true =>
        have hr := hyes.out (List.any_eq_true.2 ⟨q, List.mem_of_getElem? hq, b⟩)
        rw [b] at hme
        rw [hr]
        replace hr := Lib.hid hr
        replace hJ := Lib.hid hJ
        repeat' (first | (with_reducible refine And.intro ?_ ?_) | (with_reducible refine gK_i (fun _ => ?_) (fun _ => ?_)) | (with_reducible refine condS_i (fun _ => ?_) (fun _ => ?_)) | (with_reducible refine drw_i (by kernel_rfl)) | simp -dsimp only [go_sem, seval, *, encV, encG, encP, hkI, hjI, hr0, hq] | ((with_reducible refine opK_c ?_); simp -dsimp only [go_sem, seval, encV, encG, encP, hkI, hjI, hr0, hq]; first | refine callK_r (by first | assumption | exact hme) (by first | exact .inl rfl | exact .inr rfl) ?_ | (refine callK_i (by assumption) ?_ ?_ ?_; (solve | (repeat (first | exact DLe.refl _ | exact DLe.nil _ | (refine DLe.tup ?_) | (refine DLe.agg ?_ rfl) | exact trivial | (refine And.intro ?_ ?_)))); (solve | exact .inl rfl | exact .inr rfl))) | fail | omega | exact decide_eq_true (by omega) | exact DLe.refl _)
        all_goals exact DLe.refl _
      | false =>
        rw [b] at hme
        have hn := no_snoc hq hJ (by rw [b]; rfl)
        replace hn := Lib.hid hn
        replace hJ := Lib.hid hJ
        repeat' (first | (with_reducible refine And.intro ?_ ?_) | (with_reducible refine gK_i (fun _ => ?_) (fun _ => ?_)) | (with_reducible refine condS_i (fun _ => ?_) (fun _ => ?_)) | (with_reducible refine drw_i (by kernel_rfl)) | simp -dsimp only [go_sem, seval, *, encV, encG, encP, hkI, hjI, hwj, hr0, hq] | ((with_reducible refine opK_c ?_); simp -dsimp only [go_sem, seval, encV, encG, encP, hkI, hjI, hwj, hr0, hq]; first | refine callK_r (by first | assumption | exact hme) (by first | exact .inl rfl | exact .inr rfl) ?_ | (refine callK_i (by assumption) ?_ ?_ ?_; (solve | (repeat (first | exact DLe.refl _ | exact DLe.nil _ | (refine DLe.tup ?_) | (refine DLe.agg ?_ rfl) | exact trivial | (refine And.intro ?_ ?_)))); (solve | exact .inl rfl | exact .inr rfl))) | fail | omega | exact decide_eq_true (by omega) | exact DLe.refl _)
        exact hC2 _ _ hn.out (weak_forget _ (by simp) (by (try simp only [encV]); rfl) (by (repeat' (first | exact trivial | (refine ⟨rfl, ?_⟩)))) (by first | rfl | simp only [belowH, belowE, belowC, belowL, belowR, belowP, belowL_d, belowR_d, List.length_cons, List.length_nil, Nat.reduceAdd, Nat.reduceLT, decide_true, Bool.and_self, Bool.and_true]) (by first | rfl | simp only [belowH, belowE, belowC, belowL, belowR, belowP, belowL_d, belowR_d, List.length_cons, List.length_nil, Nat.reduceAdd, Nat.reduceLT, decide_true, Bool.and_self, Bool.and_true]))
    · intro hJ C2
      have hn := hsn.out (by
        rw [List.take_length, List.all_eq_true] at hJ
        rw [List.any_eq_false]
        intro q hq
        have := hJ q hq
        simpa using this)
      replace hJ := Lib.hid hJ
      replace hn := Lib.hid hn
      repeat' (first | (with_reducible refine And.intro ?_ ?_) | (with_reducible refine gK_i (fun _ => ?_) (fun _ => ?_)) | (with_reducible refine condS_i (fun _ => ?_) (fun _ => ?_)) | (with_reducible refine drw_i (by kernel_rfl)) | simp -dsimp only [go_sem, seval, *, encV, hwr, Int.lt_irrefl] | ((with_reducible refine opK_c ?_); simp -dsimp only [go_sem, seval, encV, hwr, Int.lt_irrefl]; first | refine callK_r (by first | assumption | fail) (by first | exact .inl rfl | exact .inr rfl) ?_ | (refine callK_i (by assumption) ?_ ?_ ?_; (solve | (repeat (first | exact DLe.refl _ | exact DLe.nil _ | (refine DLe.tup ?_) | (refine DLe.agg ?_ rfl) | exact trivial | (refine And.intro ?_ ?_)))); (solve | exact .inl rfl | exact .inr rfl))) | fail | omega | exact decide_eq_true (by omega) | exact DLe.refl _)
      exact hC _ _ hn.out (weak_forget _ (by simp) (by (try simp only [encV]); rfl) (by (repeat' (first | exact trivial | (refine ⟨rfl, ?_⟩)))) (by first | rfl | simp only [belowH, belowE, belowC, belowL, belowR, belowP, belowL_d, belowR_d, List.length_cons, List.length_nil, Nat.reduceAdd, Nat.reduceLT, decide_true, Bool.and_self, Bool.and_true]) (by first | rfl | simp only [belowH, belowE, belowC, belowL, belowR, belowP, belowL_d, belowR_d, List.length_cons, List.length_nil, Nat.reduceAdd, Nat.reduceLT, decide_true, Bool.and_self, Bool.and_true]))
  · intro hI C
    have hr : R = false := by
      rw [hR.out]
      rw [List.take_length, List.all_eq_true] at hI
      unfold clashV
      rw [List.any_eq_false]
      intro y hy
      have := hI y hy
      simpa using this
    rw [hr]
    replace hr := Lib.hid hr
    replace hI := Lib.hid hI
    repeat' (first | (with_reducible refine And.intro ?_ ?_) | (with_reducible refine gK_i (fun _ => ?_) (fun _ => ?_)) | (with_reducible refine condS_i (fun _ => ?_) (fun _ => ?_)) | (with_reducible refine drw_i (by kernel_rfl)) | simp -dsimp only [go_sem, seval, *, encV, Int.lt_irrefl] | ((with_reducible refine opK_c ?_); simp -dsimp only [go_sem, seval, encV, Int.lt_irrefl]; first | refine callK_r (by first | assumption | fail) (by first | exact .inl rfl | exact .inr rfl) ?_ | (refine callK_i (by assumption) ?_ ?_ ?_; (solve | (repeat (first | exact DLe.refl _ | exact DLe.nil _ | (refine DLe.tup ?_) | (refine DLe.agg ?_ rfl) | exact trivial | (refine And.intro ?_ ?_)))); (solve | exact .inl rfl | exact .inr rfl))) | fail | omega | exact decide_eq_true (by omega) | exact DLe.refl _)
    all_goals exact DLe.refl _
set_option maxRecDepth 100000 in
set_option maxHeartbeats 1000000 in
theorem ownNet_m (n : Net) (h6 : n.vpcs.length ≤ 6) (h12 : n.links.length ≤ 12) (hv : ∀ v ∈ n.vpcs, chkV v = 0) :
    MSpec Tryz.prog 35 [.d (.agg (encT n))] [] (.agg [.own 4 n.vpcs.length, .own 2 1]) [.gone, .gone, .row 68 2 1 (dRows (n.links.map encK)), .gone, .row 56 3 n.vpcs.length (dRows (n.vpcs.map encV))] := by
  replace hv := Lib.hid hv
  refine ms_i tab_ok mixed Tryz.func35 rfl Tryz.ntmps35 Tryz.results35 (by kernel_rfl) (by simp) (by simp [belowL, belowP]) (by simp [belowH, belowC, belowL, belowP, belowL_d, belowR_d]) ?_
  repeat' (first | (with_reducible refine And.intro ?_ ?_) | (with_reducible refine gK_i (fun _ => ?_) (fun _ => ?_)) | (with_reducible refine condS_i (fun _ => ?_) (fun _ => ?_)) | (with_reducible refine drw_i (by kernel_rfl)) | simp -dsimp only [go_sem, seval, *, encT] | ((with_reducible refine opK_c ?_); simp -dsimp only [go_sem, seval, encT]; first | refine callK_r (by first | assumption | fail) (by first | exact .inl rfl | exact .inr rfl) ?_ | (refine callK_i (by assumption) ?_ ?_ ?_; (solve | (repeat (first | exact DLe.refl _ | exact DLe.nil _ | (refine DLe.tup ?_) | (refine DLe.agg ?_ rfl) | exact trivial | (refine And.intro ?_ ?_)))); (solve | exact .inl rfl | exact .inr rfl))) | fail | omega | exact decide_eq_true (by omega) | exact DLe.refl _)
  refine loopL tab_ok mixed n.vpcs (fun _ => True) (fun k => [(4, .d (.v (.int .i64 k))), (3, .ptr 3 0), (2, .ptr 1 0), (1, .ptr 0 0)])
    (fun k => [.box 25 ((encT n).map .d), .box 25 [.d (.v (.slice none 0 0)), .d (.v (.slice none 0 0))], .row 68 2 1 (dRows (n.links.map encK)), .box 25 [.own 4 k, .own 2 1], .row 56 3 k (dRows ((n.vpcs.take k).map encV))]) trivial ?_ ?_ ?_
  · refine (weak_adopt_box (by simp) 3 25 [.d (.v (.slice none 0 0)), .own 2 1] 0 56 3 rfl rfl rfl).trans ?_
    exact weak_forget _ (by simp) (by rfl) (by (repeat' (first | exact trivial | (refine ⟨rfl, ?_⟩)))) (by first | rfl | simp only [belowH, belowE, belowC, belowL, belowR, belowP, belowL_d, belowR_d, belowR_zipG, subRow, faceRow, List.length_cons, List.length_nil, Nat.reduceAdd, Nat.reduceLT, decide_true, Bool.and_self, Bool.and_true]) (by first | rfl | simp only [belowH, belowE, belowC, belowL, belowR, belowP, belowL_d, belowR_d, belowR_zipG, subRow, faceRow, List.length_cons, List.length_nil, Nat.reduceAdd, Nat.reduceLT, decide_true, Bool.and_self, Bool.and_true])
  · intro k v hv0 hk _ C hC
    have hkI : (k : Int) < (n.vpcs.length : Int) := by omega
    have hwr : IntKind.i64.wrap ((k : Int) + 1) = ((k + 1 : Nat) : Int) := by rw [IntKind.wrap_i64]; omega
    have hb0 : k + 1 ≤ 100 := by omega
    have hlv : (List.take k n.vpcs).length = k := by rw [List.length_take]; omega
    have hvk := vpcOK_of (hv.out v (List.mem_of_getElem? hv0))
    have hob := ownD_m v hvk.n4 hvk.n6 hvk.n8
    clear hvk
    replace hv0 := Lib.hid hv0
    have hv1 := hv0.out
    repeat' (first | (with_reducible refine And.intro ?_ ?_) | (with_reducible refine gK_i (fun _ => ?_) (fun _ => ?_)) | (with_reducible refine condS_i (fun _ => ?_) (fun _ => ?_)) | (with_reducible refine drw_i (by kernel_rfl)) | simp -dsimp only [go_sem, seval, *, encT, encV, hkI, hwr, hv1, hb0, hlv] | ((with_reducible refine opK_c ?_); simp -dsimp only [go_sem, seval, encT, encV, hkI, hwr, hv1, hb0, hlv]; first | refine callK_r (by first | assumption | fail) (by first | exact .inl rfl | exact .inr rfl) ?_ | (refine callK_i (by assumption) ?_ ?_ ?_; (solve | (repeat (first | exact DLe.refl _ | exact DLe.nil _ | (refine DLe.tup ?_) | (refine DLe.agg ?_ rfl) | exact trivial | (refine And.intro ?_ ?_)))); (solve | exact .inl rfl | exact .inr rfl))) | (refine opK_M [] (hob) ?_ ?_ ?_ ?_ ?_ ?_; (solve | rfl | simp only [go_sem, seval, encV]); (solve | rfl); (solve | decide); (solve | simp); (solve | simp only [go_sem, seval, lentOK, encV])) | omega | exact decide_eq_true (by omega) | exact DLe.refl _)
    refine hC _ _ trivial ((weak_freeze 9 v.subs.length 86 4 (v.subs.map encN) rfl).trans ?_)
    simp only [fzE, fz, fzL, fzH, fzC, fzR, fzR_app, fzR_d, fzL_d, List.map_cons, List.map_nil, Nat.reduceAdd, Nat.reduceEqDiff, reduceIte, and_true, true_and, and_self, and_false, false_and, Nat.zero_add, Nat.add_zero, reduceCtorEq]
    refine (weak_freeze 7 1 29 3 (v.ranges.map encG) rfl).trans ?_
    simp only [fzE, fz, fzL, fzH, fzC, fzR, fzR_app, fzR_d, fzL_d, List.map_cons, List.map_nil, Nat.reduceAdd, Nat.reduceEqDiff, reduceIte, and_true, true_and, and_self, and_false, false_and, Nat.zero_add, Nat.add_zero, reduceCtorEq]
    exact weak_forget _ (by simp) (by rw [take_snoc hv0.out, List.map_append, List.map_cons, List.map_nil, ← dRows_app]; rfl) (by (repeat' (first | exact trivial | (refine ⟨rfl, ?_⟩)))) (by first | rfl | simp only [belowH, belowE, belowC, belowL, belowR, belowP, belowL_d, belowR_d, belowR_zipG, subRow, faceRow, List.length_cons, List.length_nil, Nat.reduceAdd, Nat.reduceLT, decide_true, Bool.and_self, Bool.and_true]) (by first | rfl | simp only [belowH, belowE, belowC, belowL, belowR, belowP, belowL_d, belowR_d, belowR_zipG, subRow, faceRow, List.length_cons, List.length_nil, Nat.reduceAdd, Nat.reduceLT, decide_true, Bool.and_self, Bool.and_true])
  · intro _ C
    repeat' (first | (with_reducible refine And.intro ?_ ?_) | (with_reducible refine gK_i (fun _ => ?_) (fun _ => ?_)) | (with_reducible refine condS_i (fun _ => ?_) (fun _ => ?_)) | (with_reducible refine drw_i (by kernel_rfl)) | simp -dsimp only [go_sem, seval, *, encT, Int.lt_irrefl, List.take_length] | ((with_reducible refine opK_c ?_); simp -dsimp only [go_sem, seval, encT, Int.lt_irrefl, List.take_length]; first | refine callK_r (by first | assumption | fail) (by first | exact .inl rfl | exact .inr rfl) ?_ | (refine callK_i (by assumption) ?_ ?_ ?_; (solve | (repeat (first | exact DLe.refl _ | exact DLe.nil _ | (refine DLe.tup ?_) | (refine DLe.agg ?_ rfl) | exact trivial | (refine And.intro ?_ ?_)))); (solve | exact .inl rfl | exact .inr rfl))) | fail | omega | exact decide_eq_true (by omega) | exact DLe.refl _)
    refine (weak_gone 0 (by simp)).trans ?_
    refine (weak_gone 1 (by simp [setC])).trans ?_
    exact (weak_gone 3 (by simp [setC])).trans (weak_eq rfl rfl)
end Go.Proofs.YtgmbhaclogabeaaGreat
namespace Go.Proofs.YtgmbhaclogabeaaGreat
open Go Go.RowKit
def stepI (lk : Nat → Nat → Bool) (i k : Nat) (l : List Bool) : List Bool := l.set k (l.getD k false || (l.getD i false && lk i k))
def rowI (lk : Nat → Nat → Bool) (l : List Bool) (i : Nat) : Nat → List Bool
  | 0 => l
  | k + 1 => stepI lk i k (rowI lk l i k)
def turnI (lk : Nat → Nat → Bool) (l : List Bool) : Nat → List Bool
  | 0 => l
  | i + 1 => rowI lk (turnI lk l i) i l.length
def closeI (lk : Nat → Nat → Bool) (l : List Bool) : Nat → List Bool
  | 0 => l
  | t + 1 => turnI lk (closeI lk l t) l.length
def leB : List Bool → List Bool → Prop
  | [], [] => True
  | a :: l, b :: m => (a = true → b = true) ∧ leB l m
  | _, _ => False
theorem leB_refl : ∀ l, leB l l
  | [] => trivial
  | _ :: l => ⟨id, leB_refl l⟩
theorem leB_trans : ∀ {l m k : List Bool}, leB l m → leB m k → leB l k
  | [], [], [], _, _ => trivial
  | _ :: _, _ :: _, _ :: _, ⟨h1, h2⟩, ⟨g1, g2⟩ => ⟨fun h => g1 (h1 h), leB_trans h2 g2⟩
theorem leB_anti : ∀ {l m : List Bool}, leB l m → leB m l → l = m
  | [], [], _, _ => rfl
  | a :: l, b :: m, ⟨h1, h2⟩, ⟨g1, g2⟩ => by
    rw [leB_anti h2 g2]
    cases a <;> cases b <;> simp_all
theorem leB_len : ∀ {l m : List Bool}, leB l m → m.length = l.length
  | [], [], _ => rfl
  | _ :: _, _ :: _, ⟨_, h⟩ => by simp [leB_len h]
theorem leB_get : ∀ {l m : List Bool}, leB l m → ∀ {k}, l.getD k false = true → m.getD k false = true
  | [], [], _, _, h => h
  | _ :: _, _ :: _, ⟨h1, _⟩, 0, h => by simpa using h1 (by simpa using h)
  | _ :: _, _ :: _, ⟨_, h2⟩, k + 1, h => by simpa using leB_get h2 (k := k) (by simpa using h)
theorem leB_count : ∀ {l m : List Bool}, leB l m → l = m ∨ l.count true < m.count true
  | [], [], _ => .inl rfl
  | a :: l, b :: m, ⟨h1, h2⟩ => by
    rcases leB_count h2 with rfl | h
    · cases a <;> cases b <;> simp_all
    · right
      cases a <;> cases b <;> simp_all <;> omega
theorem leB_set : ∀ (l : List Bool) (k : Nat) (b : Bool), leB l (l.set k (l.getD k false || b))
  | [], _, _ => by simp [leB]
  | a :: l, 0, b => by simp only [List.set_cons_zero, List.getD_cons_zero]; exact ⟨fun h => by simp [h], leB_refl l⟩
  | a :: l, k + 1, b => by simp only [List.set_cons_succ, List.getD_cons_succ]; exact ⟨id, leB_set l k b⟩
section
variable (lk : Nat → Nat → Bool)
theorem gsl_step (i k : Nat) (l : List Bool) : leB l (stepI lk i k l) := leB_set l k _
theorem gsl_row (l : List Bool) (i : Nat) : ∀ k d, leB (rowI lk l i k) (rowI lk l i (k + d))
  | _, 0 => leB_refl _
  | k, d + 1 => leB_trans (gsl_row l i k d) (gsl_step lk i (k + d) _)
theorem gsl_turn (l : List Bool) : ∀ i d, leB (turnI lk l i) (turnI lk l (i + d))
  | _, 0 => leB_refl _
  | i, d + 1 => leB_trans (gsl_turn l i d) (by have := gsl_row lk (turnI lk l (i + d)) (i + d) 0 l.length; rw [Nat.zero_add] at this; exact this)
theorem gsl_tlen (l : List Bool) (i : Nat) : (turnI lk l i).length = l.length := leB_len (by have := gsl_turn lk l 0 i; rw [Nat.zero_add] at this; exact this)
theorem gsl_rlen (l : List Bool) (i k : Nat) : (rowI lk l i k).length = l.length := leB_len (by have := gsl_row lk l i 0 k; rw [Nat.zero_add] at this; exact this)
theorem gsl_close (l : List Bool) : ∀ t, leB l (closeI lk l t)
  | 0 => leB_refl _
  | t + 1 => leB_trans (gsl_close l t) (by have h := leB_len (gsl_close l t); have := gsl_turn lk (closeI lk l t) 0 l.length; rw [Nat.zero_add] at this; exact this)
theorem gsl_clen (l : List Bool) (t : Nat) : (closeI lk l t).length = l.length := leB_len (gsl_close lk l t)
/-- A turn that changes nothing has nothing to do. -/
theorem turn_fix {l : List Bool} (h : turnI lk l l.length = l) {i k : Nat} (hi : i < l.length) (hk : k < l.length) (h1 : l.getD i false = true) (h2 : lk i k = true) : l.getD k false = true := by
  have a1 := gsl_turn lk l 0 i
  have a2 := gsl_turn lk l i (l.length - i)
  rw [Nat.zero_add] at a1
  rw [show i + (l.length - i) = l.length by omega, h] at a2
  have e1 : turnI lk l i = l := leB_anti a2 a1
  have a3 := gsl_turn lk l i 1
  have a4 := gsl_turn lk l (i + 1) (l.length - (i + 1))
  rw [show i + 1 + (l.length - (i + 1)) = l.length by omega, h] at a4
  have e2 : turnI lk l (i + 1) = l := by rw [e1] at a3; exact leB_anti a4 a3
  simp only [turnI, e1] at e2
  have b1 := gsl_row lk l i 0 k
  have b2 := gsl_row lk l i k (l.length - k)
  rw [Nat.zero_add] at b1
  rw [show k + (l.length - k) = l.length by omega, e2] at b2
  have e3 : rowI lk l i k = l := leB_anti b2 b1
  have b3 := gsl_row lk l i k 1
  have b4 := gsl_row lk l i (k + 1) (l.length - (k + 1))
  rw [show k + 1 + (l.length - (k + 1)) = l.length by omega, e2] at b4
  have e4 : rowI lk l i (k + 1) = l := by rw [e3] at b3; exact leB_anti b4 b3
  simp only [rowI, e3, stepI] at e4
  rw [← e4, h1, h2]
  simp [List.getD_eq_getElem?_getD, hk]
theorem close_fix (l : List Bool) (hc : 0 < l.count true) : ∀ t, turnI lk (closeI lk l t) l.length = closeI lk l t ∨ t < (closeI lk l t).count true
  | 0 => .inr hc
  | t + 1 => by
    rcases close_fix l hc t with h | h
    · left
      simp only [closeI, h]
    · have hl := gsl_clen lk l t
      have hle := gsl_turn lk (closeI lk l t) 0 l.length
      rw [Nat.zero_add] at hle
      rcases leB_count (show leB (closeI lk l t) (closeI lk l (t + 1)) from hle) with he | he
      · left
        have e2 : closeI lk l (t + 1) = turnI lk (closeI lk l t) l.length := rfl
        rw [← he]
        rw [← e2, ← he]
      · right; omega
theorem close_closed (l : List Bool) (hc : 0 < l.count true) {i k : Nat} (hi : i < l.length) (hk : k < l.length) (h1 : (closeI lk l l.length).getD i false = true) (h2 : lk i k = true) : (closeI lk l l.length).getD k false = true := by
  have hl := gsl_clen lk l l.length
  rcases close_fix lk l hc l.length with h | h
  · exact turn_fix lk (by rw [hl]; exact h) (by rw [hl]; exact hi) (by rw [hl]; exact hk) h1 h2
  · have := List.count_le_length (a := true) (l := closeI lk l l.length)
    omega
/-- What holds of what is in at first, and goes along the links, holds of all that comes in. -/
theorem gss_step {G : Nat → Prop} (hG : ∀ i k, G i → lk i k = true → G k) {l : List Bool} (h : ∀ k, l.getD k false = true → G k) (i k : Nat) : ∀ j, (stepI lk i k l).getD j false = true → G j := by
  intro j hj
  unfold stepI at hj
  rw [List.getD_eq_getElem?_getD, List.getElem?_set] at hj
  split at hj
  · rename_i e
    subst e
    split at hj
    · simp only [Option.getD_some, Bool.or_eq_true, Bool.and_eq_true] at hj
      rcases hj with hj | hj
      · exact h _ hj
      · exact hG i k (h _ hj.1) hj.2
    · simp at hj
  · exact h j (by rw [List.getD_eq_getElem?_getD]; exact hj)
theorem gss_row {G : Nat → Prop} (hG : ∀ i k, G i → lk i k = true → G k) {l : List Bool} (h : ∀ k, l.getD k false = true → G k) (i : Nat) : ∀ k j, (rowI lk l i k).getD j false = true → G j
  | 0 => h
  | k + 1 => gss_step lk hG (gss_row hG h i k) i k
theorem gss_turn {G : Nat → Prop} (hG : ∀ i k, G i → lk i k = true → G k) {l : List Bool} (h : ∀ k, l.getD k false = true → G k) : ∀ i j, (turnI lk l i).getD j false = true → G j
  | 0 => h
  | i + 1 => gss_row lk hG (gss_turn hG h i) i _
theorem gss_close {G : Nat → Prop} (hG : ∀ i k, G i → lk i k = true → G k) {l : List Bool} (h : ∀ k, l.getD k false = true → G k) : ∀ t j, (closeI lk l t).getD j false = true → G j
  | 0 => h
  | t + 1 => gss_turn lk hG (gss_close hG h t) _
end
def heads (L : List Lnk) : Int → Int := L.foldl stepF (fun x => x)
theorem stepF_keep {F : Int → Int} {x y : Int} (h : F x = F y) (l : Lnk) : stepF F l x = stepF F l y := by unfold stepF; rw [h]
theorem foldF_keep {x y : Int} : ∀ (L : List Lnk) (F : Int → Int), F x = F y → L.foldl stepF F x = L.foldl stepF F y
  | [], _, h => h
  | l :: L, F, h => foldF_keep L _ (stepF_keep h l)
theorem foldF_link {l : Lnk} : ∀ (L : List Lnk) (F : Int → Int), l ∈ L → L.foldl stepF F l.a = L.foldl stepF F l.b
  | m :: L, F, h => by
    rcases List.mem_cons.1 h with rfl | h
    · refine foldF_keep L _ ?_
      unfold stepF
      rw [if_pos rfl]
      split <;> rfl
    · exact foldF_link L _ h
theorem heads_link {L : List Lnk} {l : Lnk} (h : l ∈ L) : heads L l.a = heads L l.b := foldF_link L _ h
theorem foldF_sound {S : Int → Prop} : ∀ (L : List Lnk) (F : Int → Int), (∀ l ∈ L, S l.a ↔ S l.b) → (∀ x y, F x = F y → (S x ↔ S y)) → ∀ x y, L.foldl stepF F x = L.foldl stepF F y → (S x ↔ S y)
  | [], _, _, hF, x, y, h => hF x y h
  | l :: L, F, hL, hF, x, y, h => by
    refine foldF_sound L (stepF F l) (fun m hm => hL m (List.mem_cons_of_mem _ hm)) (fun u v huv => ?_) x y h
    have hl := hL l (by simp)
    unfold stepF at huv
    by_cases h1 : F u = F l.b
    · by_cases h2 : F v = F l.b
      · exact hF u v (h1.trans h2.symm)
      · rw [if_pos h1, if_neg h2] at huv
        exact (hF u l.b h1).trans (hl.symm.trans (hF l.a v huv))
    · by_cases h2 : F v = F l.b
      · rw [if_neg h1, if_pos h2] at huv
        exact (hF u l.a huv).trans (hl.trans (hF v l.b h2).symm)
      · rw [if_neg h1, if_neg h2] at huv
        exact hF u v huv
theorem heads_sound {S : Int → Prop} {L : List Lnk} (hL : ∀ l ∈ L, S l.a ↔ S l.b) {x y : Int} (h : heads L x = heads L y) : S x ↔ S y :=
  foldF_sound L _ hL (fun x y h => by rw [h]) x y h
theorem lnk_of {l : Lnk} (h : l.a < l.b) : lnk l.a l.b = l ∧ lnk l.b l.a = l := by
  unfold lnk
  rw [if_neg (by omega), if_pos h, if_pos h, if_neg (by omega)]
  exact ⟨rfl, rfl⟩
theorem lnk_head {L : List Lnk} {a b : Int} (h : lnk a b ∈ L) : heads L a = heads L b := by
  have := heads_link h
  unfold lnk at this
  by_cases h1 : b < a
  · rw [if_pos h1, if_neg (by omega)] at this; exact this.symm
  · rw [if_neg h1] at this
    split at this
    · exact this
    · have : a = b := by omega
      rw [this]
def lkB (L : List Lnk) (ids : List Int) (i k : Nat) : Bool := decide (lnk (ids.getD i 0) (ids.getD k 0) ∈ L)
theorem close_heads {L : List Lnk} {ids : List Int} (hn : ids.Nodup) (hl : ∀ l ∈ L, l.a ∈ ids ∧ l.b ∈ ids ∧ l.a < l.b) {i k : Nat} (hi : i < ids.length) (hk : k < ids.length) :
    (closeI (lkB L ids) ((List.replicate ids.length false).set i true) ids.length).getD k false = (heads L (ids.getD k 0) == heads L (ids.getD i 0)) := by
  have hlen : ((List.replicate ids.length false).set i true).length = ids.length := by simp
  have hcnt : 0 < ((List.replicate ids.length false).set i true).count true := by
    rw [List.count_pos_iff, List.mem_iff_getElem]
    exact ⟨i, by simpa using hi, by simp⟩
  have hini : ∀ j, ((List.replicate ids.length false).set i true).getD j false = true → j = i := by
    intro j hj
    rw [List.getD_eq_getElem?_getD, List.getElem?_set] at hj
    split at hj
    · rename_i e; exact e.symm
    · rw [List.getElem?_replicate] at hj
      split at hj <;> simp at hj
  have hcl := fun (i k : Nat) => close_closed (lkB L ids) _ hcnt (i := i) (k := k)
  rw [hlen] at hcl
  rw [Bool.eq_iff_iff, beq_iff_eq]
  constructor
  · intro h
    exact gss_close (lkB L ids) (G := fun j => heads L (ids.getD j 0) = heads L (ids.getD i 0)) (fun u v hu huv => by
      unfold lkB at huv
      rw [decide_eq_true_eq] at huv
      show heads L _ = _
      rw [← lnk_head huv]; exact hu) (fun j hj => by rw [hini j hj]) _ k h
  · intro h
    have hmem : ∀ x ∈ ids, ∃ j, j < ids.length ∧ ids.getD j 0 = x := fun x hx => by
      obtain ⟨j, hj, rfl⟩ := List.mem_iff_getElem.1 hx
      exact ⟨j, hj, by simp [List.getD_eq_getElem?_getD, hj]⟩
    have hS := heads_sound (L := L) (S := fun x => ∃ j, j < ids.length ∧ ids.getD j 0 = x ∧ (closeI (lkB L ids) ((List.replicate ids.length false).set i true) ids.length).getD j false = true) (fun l hll => by
      obtain ⟨ha, hb, hab⟩ := hl l hll
      obtain ⟨u, hu, eu⟩ := hmem _ ha
      obtain ⟨v, hv, ev⟩ := hmem _ hb
      constructor
      · rintro ⟨j, hj, ej, h2⟩
        refine ⟨v, hv, ev, hcl j v hj hv h2 ?_⟩
        unfold lkB
        rw [ej, ev, (lnk_of hab).1, decide_eq_true_eq]
        exact hll
      · rintro ⟨j, hj, ej, h2⟩
        refine ⟨u, hu, eu, hcl j u hj hu h2 ?_⟩
        unfold lkB
        rw [ej, eu, (lnk_of hab).2, decide_eq_true_eq]
        exact hll) h
    obtain ⟨j, hj, ej, h2⟩ := hS.2 ⟨i, hi, rfl, leB_get (gsl_close _ _ _) (by simp [List.getD_eq_getElem?_getD, hi])⟩
    have : j = k := by
      have e1 : ids[j] = ids[k] := by simpa [List.getD_eq_getElem?_getD, hj, hk] using ej
      rcases Nat.lt_trichotomy j k with h | h | h
      · exact absurd e1 (List.pairwise_iff_getElem.1 hn j k hj hk h)
      · exact h
      · exact absurd e1.symm (List.pairwise_iff_getElem.1 hn k j hk hj h)
    rw [← this]
    exact h2
theorem headN_eq (n : Net) : headN n = heads n.links := by
  unfold headN stN heads
  have key : ∀ (L : List Lnk) (s : List (List Int × Int) × (Int → Int)), (L.foldl stepG s).2 = L.foldl stepF s.2 := by
    intro L
    induction L with
    | nil => intro s; rfl
    | cons l L ih => intro s; rw [List.foldl_cons, List.foldl_cons, ih]; rfl
  exact key _ _
end Go.Proofs.YtgmbhaclogabeaaGreat
namespace Go.Proofs.YtgmbhaclogabeaaGreat
open Go Go.RowKit
/-- A group's networks. -/
def grpN (n : Net) (id : Int) : List Int := (n.vpcs.filter fun v => headN n v.id == headN n id).map (·.id)
def groupN (n : Net) (id : Int) : List Int × Int := if chkT n ≠ 0 then ([], chkT n) else if findN n id = none then ([], 5) else (grpN n id, 0)
set_option maxRecDepth 100000 in
set_option maxHeartbeats 1000000 in
theorem ngroup_p (n : Net) (id : Int) : PSpec Tryz.prog 6 [.agg (encT n), .v (.int .i64 id)] (.tup [.sl 1 ((groupN n id).1.map encA), .v (.int .i64 (groupN n id).2)]) := by
  obtain ⟨R, hR⟩ : ∃ R, R = groupN n id := ⟨_, rfl⟩
  rw [← hR]
  replace hR := Lib.hid hR
  have hck := ncheck_p n
  by_cases hc : chkT n = 0
  · have hok := netOK.1 hc
    have hfd := nfindB_m n id (by have := hok.n6; omega) hok.rise
    have hR2 : R = if findN n id = none then ([], 5) else (grpN n id, 0) := by rw [hR.out]; unfold groupN; rw [if_neg (by simpa using hc)]
    rw [hc] at hck
    cases hf : findN n id with
    | none =>
      rw [hf] at hfd hR2
      have hr : R = ([], 5) := by rw [hR2]; rfl
      rw [hr]
      clear hr hR2 hok
      replace hf := Lib.hid hf
      replace hc := Lib.hid hc
      refine ps_i tab_ok mixed Tryz.func6 rfl Tryz.ntmps6 Tryz.results6 (by kernel_rfl) ?_
      repeat' (first | (with_reducible refine And.intro ?_ ?_) | (with_reducible refine gK_i (fun _ => ?_) (fun _ => ?_)) | (with_reducible refine condS_i (fun _ => ?_) (fun _ => ?_)) | (with_reducible refine drw_i (by kernel_rfl)) | simp -dsimp only [go_sem, seval, *, encT, findNP, findND, undef] | ((with_reducible refine opK_c ?_); simp -dsimp only [go_sem, seval, encT, findNP, findND, undef]; first | refine callK_r (by first | assumption | exact hck) (by first | exact .inl rfl | exact .inr rfl) ?_ | (refine callK_i (by assumption) ?_ ?_ ?_; (solve | (repeat (first | exact DLe.refl _ | exact DLe.nil _ | (refine DLe.tup ?_) | (refine DLe.agg ?_ rfl) | exact trivial | (refine And.intro ?_ ?_)))); (solve | exact .inl rfl | exact .inr rfl))) | (refine opK_M [0] (hfd) ?_ ?_ ?_ ?_ ?_ ?_; (solve | rfl | simp only [go_sem, seval, encT, findNP, findND]); (solve | rfl); (solve | decide); (solve | simp); (solve | simp only [go_sem, seval, lentOK, encT, findNP, findND])) | omega | exact decide_eq_true (by omega) | exact DLe.refl _)
      all_goals exact (by repeat (first | exact DLe.refl _ | exact DLe.nil _ | (refine DLe.tup ?_) | (refine DLe.agg ?_ rfl) | exact trivial | (refine And.intro ?_ ?_)))
    | some w =>
      rw [hf] at hfd hR2
      have hr : R = (grpN n id, 0) := by rw [hR2]; rfl
      rw [hr]
      have hof := ofB_m n (by have := hok.n6; omega) (by have := hok.n12; omega) hok.ids
      have hg : ∀ x ∈ n.vpcs.map (·.id), ∃ k, HeadIs (stN n).1 k x (headN n x) := fun x hx => by
        have := (grp_k hok.ids n.links.length x (by exact hx)).1
        rwa [List.take_length] at this
      obtain ⟨nv, hhv⟩ := hg id (find_ids (by rw [hf]; rfl))
      have h6 := hok.n6
      have hgr : ∀ k, (List.take k n.vpcs).filter (fun v => headN n v.id == headN n id) = (List.take k n.vpcs).filter (fun v => headN n v.id == headN n id) := fun _ => rfl
      clear hr hR2 hok
      replace hf := Lib.hid hf
      replace hc := Lib.hid hc
      replace hg := Lib.hid hg
      unfold grpN
      generalize (stN n).1 = E at *
      have hmi := head_m E nv id (headN n id) hhv
      clear hhv hgr
      refine ps_i tab_ok mixed Tryz.func6 rfl Tryz.ntmps6 Tryz.results6 (by kernel_rfl) ?_
      repeat' (first | (with_reducible refine And.intro ?_ ?_) | (with_reducible refine gK_i (fun _ => ?_) (fun _ => ?_)) | (with_reducible refine condS_i (fun _ => ?_) (fun _ => ?_)) | (with_reducible refine drw_i (by kernel_rfl)) | simp -dsimp only [go_sem, seval, *, encT, findNP, findND, undef] | ((with_reducible refine opK_c ?_); simp -dsimp only [go_sem, seval, encT, findNP, findND, undef]; first | refine callK_r (by first | assumption | exact hck) (by first | exact .inl rfl | exact .inr rfl) ?_ | (refine callK_i (by assumption) ?_ ?_ ?_; (solve | (repeat (first | exact DLe.refl _ | exact DLe.nil _ | (refine DLe.tup ?_) | (refine DLe.agg ?_ rfl) | exact trivial | (refine And.intro ?_ ?_)))); (solve | exact .inl rfl | exact .inr rfl))) | (refine opK_M [0] (hfd) ?_ ?_ ?_ ?_ ?_ ?_; (solve | rfl | simp only [go_sem, seval, encT, findNP, findND]); (solve | rfl); (solve | decide); (solve | simp); (solve | simp only [go_sem, seval, lentOK, encT, findNP, findND])) | (refine opK_M [0] (hof) ?_ ?_ ?_ ?_ ?_ ?_; (solve | rfl | simp only [go_sem, seval, encT]); (solve | rfl); (solve | decide); (solve | simp); (solve | simp only [go_sem, seval, lentOK, encT])) | omega | exact decide_eq_true (by omega) | exact DLe.refl _)
      clear hof hfd hck
      refine loopG tab_ok mixed (fun m e h => ∃ (k g : Nat), k ≤ n.vpcs.length ∧ m = n.vpcs.length - k ∧ e = [(29, .d (.v (.int .i64 k))), (28, .d (.v (.int .i64 n.vpcs.length))), (27, .d (.sl 3 (n.vpcs.map encV))), (10, .own 2 g), (9, .mref 1), (4, .d (.v (.slice none 0 0))), (1, .d (.v (.int .i64 id)))] ∧
        h = [.gone, .mp 1 false E, .row 3 1 g (dRows ((((n.vpcs.take k).filter fun v => headN n v.id == headN n id).map (·.id)).map encA))]) _ _ _ ⟨0, 0, Nat.zero_le _, rfl, rfl, rfl⟩ ?_ ?_
      · refine (weak_gone 0 (by simp)).trans ((weak_adopt (by simp [setC]) 10 3 1 rfl).trans ?_)
        exact weak_forget _ (by simp) (by rfl) (by (repeat' (first | exact trivial | (refine ⟨rfl, ?_⟩)))) (by first | rfl | simp only [belowH, belowE, belowC, belowL, belowR, belowP, belowL_d, belowR_d, belowR_zipG, subRow, faceRow, List.length_cons, List.length_nil, Nat.reduceAdd, Nat.reduceLT, decide_true, Bool.and_self, Bool.and_true]) (by first | rfl | simp only [belowH, belowE, belowC, belowL, belowR, belowP, belowL_d, belowR_d, belowR_zipG, subRow, faceRow, List.length_cons, List.length_nil, Nat.reduceAdd, Nat.reduceLT, decide_true, Bool.and_self, Bool.and_true])
      rintro m e h ⟨k, g, hk, hm, rfl, rfl⟩ C hC
      by_cases hlt : k < n.vpcs.length
      · have hkI : (k : Int) < (n.vpcs.length : Int) := by omega
        have hwr : IntKind.i64.wrap ((k : Int) + 1) = ((k + 1 : Nat) : Int) := by rw [IntKind.wrap_i64]; omega
        obtain ⟨v, hv⟩ : ∃ v, n.vpcs[k]? = some v := ⟨_, List.getElem?_eq_getElem hlt⟩
        obtain ⟨nw, hhw⟩ := hg.out v.id (List.mem_map.2 ⟨v, List.mem_of_getElem? hv, rfl⟩)
        have hmw := head_m E nw v.id (headN n v.id) hhw
        have hfl : ((n.vpcs.take k).filter fun v => headN n v.id == headN n id).length ≤ k := by
          have := List.length_filter_le (fun v : Vpc => headN n v.id == headN n id) (n.vpcs.take k)
          rw [List.length_take] at this; omega
        have hbd : ((n.vpcs.take k).filter fun v => headN n v.id == headN n id).length + 1 ≤ 100 := by omega
        have hst : (n.vpcs.take (k + 1)).filter (fun v => headN n v.id == headN n id) = (n.vpcs.take k).filter (fun v => headN n v.id == headN n id) ++ if (headN n v.id == headN n id) = true then [v] else [] := by
          rw [take_snoc hv, List.filter_append]
          congr 1
          cases hb : headN n v.id == headN n id <;> simp [hb]
        clear hhw
        replace hst := Lib.hid hst
        replace hfl := Lib.hid hfl
        replace hm := Lib.hid hm
        generalize (n.vpcs.take k).filter (fun v => headN n v.id == headN n id) = L at *
        cases e1 : (headN n v.id == headN n id) with
        | false =>
          rw [e1] at hst
          repeat' (first | (with_reducible refine And.intro ?_ ?_) | (with_reducible refine gK_i (fun _ => ?_) (fun _ => ?_)) | (with_reducible refine condS_i (fun _ => ?_) (fun _ => ?_)) | (with_reducible refine drw_i (by kernel_rfl)) | simp -dsimp only [go_sem, seval, *, encT, encV, hkI, hwr, hv, e1, undef] | ((with_reducible refine opK_c ?_); simp -dsimp only [go_sem, seval, encT, encV, hkI, hwr, hv, e1, undef]; first | refine callK_r (by first | assumption | fail) (by first | exact .inl rfl | exact .inr rfl) ?_ | (refine callK_i (by assumption) ?_ ?_ ?_; (solve | (repeat (first | exact DLe.refl _ | exact DLe.nil _ | (refine DLe.tup ?_) | (refine DLe.agg ?_ rfl) | exact trivial | (refine And.intro ?_ ?_)))); (solve | exact .inl rfl | exact .inr rfl))) | (refine opK_M [1] (hmw) ?_ ?_ ?_ ?_ ?_ ?_; (solve | rfl | simp only [go_sem, seval, encV]); (solve | rfl); (solve | decide); (solve | simp); (solve | simp only [go_sem, seval, lentOK, encV])) | (refine opK_M [1] (hmi) ?_ ?_ ?_ ?_ ?_ ?_; (solve | rfl | simp only [go_sem, seval, encV]); (solve | rfl); (solve | decide); (solve | simp); (solve | simp only [go_sem, seval, lentOK, encV])) | omega | exact decide_eq_true (by omega) | exact DLe.refl _)
          refine hC _ _ _ _ _ ?_ ⟨k + 1, g, hlt, rfl, rfl, rfl⟩ (weak_forget _ (by simp) (by rw [hst.out]; simp only [Bool.false_eq_true, if_false, List.append_nil]; rfl) (by (repeat' (first | exact trivial | (refine ⟨rfl, ?_⟩)))) (by first | rfl | simp only [belowH, belowE, belowC, belowL, belowR, belowP, belowL_d, belowR_d, belowR_zipG, subRow, faceRow, List.length_cons, List.length_nil, Nat.reduceAdd, Nat.reduceLT, decide_true, Bool.and_self, Bool.and_true]) (by first | rfl | simp only [belowH, belowE, belowC, belowL, belowR, belowP, belowL_d, belowR_d, belowR_zipG, subRow, faceRow, List.length_cons, List.length_nil, Nat.reduceAdd, Nat.reduceLT, decide_true, Bool.and_self, Bool.and_true]))
          have := hm.out; omega
        | true =>
          rw [e1] at hst
          repeat' (first | (with_reducible refine And.intro ?_ ?_) | (with_reducible refine gK_i (fun _ => ?_) (fun _ => ?_)) | (with_reducible refine condS_i (fun _ => ?_) (fun _ => ?_)) | (with_reducible refine drw_i (by kernel_rfl)) | simp -dsimp only [go_sem, seval, *, encT, encV, hkI, hwr, hv, e1, hbd, undef] | ((with_reducible refine opK_c ?_); simp -dsimp only [go_sem, seval, encT, encV, hkI, hwr, hv, e1, hbd, undef]; first | refine callK_r (by first | assumption | fail) (by first | exact .inl rfl | exact .inr rfl) ?_ | (refine callK_i (by assumption) ?_ ?_ ?_; (solve | (repeat (first | exact DLe.refl _ | exact DLe.nil _ | (refine DLe.tup ?_) | (refine DLe.agg ?_ rfl) | exact trivial | (refine And.intro ?_ ?_)))); (solve | exact .inl rfl | exact .inr rfl))) | (refine opK_M [1] (hmw) ?_ ?_ ?_ ?_ ?_ ?_; (solve | rfl | simp only [go_sem, seval, encV]); (solve | rfl); (solve | decide); (solve | simp); (solve | simp only [go_sem, seval, lentOK, encV])) | (refine opK_M [1] (hmi) ?_ ?_ ?_ ?_ ?_ ?_; (solve | rfl | simp only [go_sem, seval, encV]); (solve | rfl); (solve | decide); (solve | simp); (solve | simp only [go_sem, seval, lentOK, encV])) | omega | exact decide_eq_true (by omega) | exact DLe.refl _)
          refine hC _ _ _ _ _ ?_ ⟨k + 1, g + 1, hlt, rfl, rfl, rfl⟩ (weak_forget _ (by simp) (by rw [hst.out]; simp only [if_true, List.map_append, List.map_cons, List.map_nil, ← dRows_app]; rfl) (by (repeat' (first | exact trivial | (refine ⟨rfl, ?_⟩)))) (by first | rfl | simp only [belowH, belowE, belowC, belowL, belowR, belowP, belowL_d, belowR_d, belowR_zipG, subRow, faceRow, List.length_cons, List.length_nil, Nat.reduceAdd, Nat.reduceLT, decide_true, Bool.and_self, Bool.and_true]) (by first | rfl | simp only [belowH, belowE, belowC, belowL, belowR, belowP, belowL_d, belowR_d, belowR_zipG, subRow, faceRow, List.length_cons, List.length_nil, Nat.reduceAdd, Nat.reduceLT, decide_true, Bool.and_self, Bool.and_true]))
          have := hm.out; omega
      · obtain rfl : k = n.vpcs.length := by omega
        rw [List.take_length]
        replace hm := Lib.hid hm
        repeat' (first | (with_reducible refine And.intro ?_ ?_) | (with_reducible refine gK_i (fun _ => ?_) (fun _ => ?_)) | (with_reducible refine condS_i (fun _ => ?_) (fun _ => ?_)) | (with_reducible refine drw_i (by kernel_rfl)) | simp -dsimp only [go_sem, seval, *, Int.lt_irrefl, undef] | ((with_reducible refine opK_c ?_); simp -dsimp only [go_sem, seval, Int.lt_irrefl, undef]; first | refine callK_r (by first | assumption | fail) (by first | exact .inl rfl | exact .inr rfl) ?_ | (refine callK_i (by assumption) ?_ ?_ ?_; (solve | (repeat (first | exact DLe.refl _ | exact DLe.nil _ | (refine DLe.tup ?_) | (refine DLe.agg ?_ rfl) | exact trivial | (refine And.intro ?_ ?_)))); (solve | exact .inl rfl | exact .inr rfl))) | fail | omega | exact decide_eq_true (by omega) | exact DLe.refl _)
        all_goals exact (by repeat (first | exact DLe.refl _ | exact DLe.nil _ | (refine DLe.tup ?_) | (refine DLe.agg ?_ rfl) | exact trivial | (refine And.intro ?_ ?_)))
  · have hr : R = ([], chkT n) := by rw [hR.out]; unfold groupN; rw [if_pos hc]
    have h1 : (chkT n != 0) = true := by simpa using hc
    rw [hr]
    replace hr := Lib.hid hr
    refine ps_i tab_ok mixed Tryz.func6 rfl Tryz.ntmps6 Tryz.results6 (by kernel_rfl) ?_
    repeat' (first | (with_reducible refine And.intro ?_ ?_) | (with_reducible refine gK_i (fun _ => ?_) (fun _ => ?_)) | (with_reducible refine condS_i (fun _ => ?_) (fun _ => ?_)) | (with_reducible refine drw_i (by kernel_rfl)) | simp -dsimp only [go_sem, seval, *, encT, h1] | ((with_reducible refine opK_c ?_); simp -dsimp only [go_sem, seval, encT, h1]; first | refine callK_r (by first | assumption | exact hck) (by first | exact .inl rfl | exact .inr rfl) ?_ | (refine callK_i (by assumption) ?_ ?_ ?_; (solve | (repeat (first | exact DLe.refl _ | exact DLe.nil _ | (refine DLe.tup ?_) | (refine DLe.agg ?_ rfl) | exact trivial | (refine And.intro ?_ ?_)))); (solve | exact .inl rfl | exact .inr rfl))) | fail | omega | exact decide_eq_true (by omega) | exact DLe.refl _)
    all_goals exact (by repeat (first | exact DLe.refl _ | exact DLe.nil _ | (refine DLe.tup ?_) | (refine DLe.agg ?_ rfl) | exact trivial | (refine And.intro ?_ ?_)))
/-- Grow's answer. -/
def growN (n : Net) (id : Int) (r : Rng) : Net × Int :=
  if chkT n ≠ 0 then (Net.zero, chkT n) else
  match vpcIx n id with
  | none => (Net.zero, 5)
  | some i => match n.vpcs[i]? with
    | none => (Net.zero, 5)
    | some v => if (growV v r).2 ≠ 0 then (Net.zero, (growV v r).2) else if peaceN { n with vpcs := n.vpcs.set i (growV v r).1 } = true then ({ n with vpcs := n.vpcs.set i (growV v r).1 }, 0) else (Net.zero, 9)
/-- What grows keeps its Id, and stays right. -/
theorem growV_ok {v : Vpc} {r : Rng} (h : (growV v r).2 = 0) : (growV v r).1.id = v.id ∧ (growV v r).1.ranges.length ≤ 5 := by
  unfold growV at h ⊢
  split
  · rename_i h1; rw [if_pos h1] at h; exact absurd h h1
  · rename_i h1
    rw [if_neg h1] at h
    have hk := vpcOK_of (by simpa using h1)
    split
    · rename_i h2
      rw [if_pos h2] at h
      exact absurd h h2
    · refine ⟨rfl, ?_⟩
      simp only
      rw [insK_len]
      have := hk.n4; omega
set_option maxRecDepth 100000 in
set_option maxHeartbeats 1000000 in
theorem ngrow_p (n : Net) (id : Int) (r : Rng) : PSpec Tryz.prog 8 [.agg (encT n), .v (.int .i64 id), .agg (encG r)] (.tup [.agg (encT (growN n id r).1), .v (.int .i64 (growN n id r).2)]) := by
  obtain ⟨R, hR⟩ : ∃ R, R = growN n id r := ⟨_, rfl⟩
  rw [← hR]
  replace hR := Lib.hid hR
  by_cases hc : chkT n = 0
  · have hok := netOK.1 hc
    have hbg := nbegin_m n hc
    cases hx : vpcIx n id with
    | none =>
      have hfd := nfind0_m n id n.vpcs.length 1 (vpcIx_none hx) hok.n6 hok.rise
      have hr : R = (Net.zero, 5) := by rw [hR.out]; unfold growN; rw [if_neg (by simpa using hc), hx]
      rw [hr]
      clear hr hR hok hx hc
      refine ps_i tab_ok mixed Tryz.func8 rfl Tryz.ntmps8 Tryz.results8 (by kernel_rfl) ?_
      repeat' (first | (with_reducible refine And.intro ?_ ?_) | (with_reducible refine gK_i (fun _ => ?_) (fun _ => ?_)) | (with_reducible refine condS_i (fun _ => ?_) (fun _ => ?_)) | (with_reducible refine drw_i (by kernel_rfl)) | simp -dsimp only [go_sem, seval, *, encT, undef] | ((with_reducible refine opK_c ?_); simp -dsimp only [go_sem, seval, encT, undef]; first | refine callK_r (by first | assumption | fail) (by first | exact .inl rfl | exact .inr rfl) ?_ | (refine callK_i (by assumption) ?_ ?_ ?_; (solve | (repeat (first | exact DLe.refl _ | exact DLe.nil _ | (refine DLe.tup ?_) | (refine DLe.agg ?_ rfl) | exact trivial | (refine And.intro ?_ ?_)))); (solve | exact .inl rfl | exact .inr rfl))) | (refine opK_M [] (hbg) ?_ ?_ ?_ ?_ ?_ ?_; (solve | rfl | simp only [go_sem, seval, encT]); (solve | rfl); (solve | decide); (solve | simp); (solve | simp only [go_sem, seval, lentOK, encT])) | (refine opK_M [5, 6, 4] (hfd) ?_ ?_ ?_ ?_ ?_ ?_; (solve | rfl | simp only [go_sem, seval, encT]); (solve | rfl); (solve | decide); (solve | simp); (solve | simp only [go_sem, seval, lentOK, encT])) | omega | exact decide_eq_true (by omega) | exact DLe.refl _)
      all_goals exact (by repeat (first | exact DLe.refl _ | exact DLe.nil _ | (refine DLe.tup ?_) | (refine DLe.agg ?_ rfl) | exact trivial | (refine And.intro ?_ ?_)))
    | some i =>
      obtain ⟨v, hv, he, hi, hfs⟩ := vpcIx_some hx
      have hfd := nfind_m n id n.vpcs.length 1 i v hv he hok.n6 hok.rise
      have hgp := vgrow_p v r
      replace he := Lib.hid he
      have hiI : (0 : Int) ≤ (i : Int) := by omega
      by_cases hg : (growV v r).2 = 0
      · have hgo := growV_ok hg
        have hpe := peace_p { n with vpcs := n.vpcs.set i (growV v r).1 } (by have := hok.n6; simp; omega) (by have := hok.n12; simp; omega) (fun u hu => by
          rcases List.mem_or_eq_of_mem_set hu with hu | rfl
          · have := (vpcOK_of (hok.vp u hu)).n4; omega
          · have := hgo.2; omega) (by
          have e : (n.vpcs.set i (growV v r).1).map (·.id) = n.vpcs.map (·.id) := by
            rw [List.map_set, hgo.1]
            apply List.ext_getElem?
            intro j
            rw [List.getElem?_set]
            split
            · rename_i hj
              subst hj
              rw [List.length_map, if_pos hi, List.getElem?_map, hv]; rfl
            · rfl
          simp only [e]
          exact hok.ids)
        have hR2 : R = if peaceN { n with vpcs := n.vpcs.set i (growV v r).1 } = true then ({ n with vpcs := n.vpcs.set i (growV v r).1 }, 0) else (Net.zero, 9) := by
          rw [hR.out]; unfold growN; rw [if_neg (by simpa using hc), hx]; simp only [hv]; rw [if_neg (by simpa using hg)]
        rw [hg] at hgp
        clear hR hok hx hc hgo hg hfs
        generalize (growV v r).1 = w at *
        have hrow : (dRows (n.vpcs.map encV)).set i [.d (.v (.int .i64 w.id)), .d (.sl 3 (w.ranges.map encG)), .d (.sl 4 (w.subs.map encN))] = dRows ((n.vpcs.set i w).map encV) := dRows_setrow encV n.vpcs i w
        cases hp : peaceN { n with vpcs := n.vpcs.set i w } with
        | true =>
          rw [hp] at hpe hR2
          have hr : R = ({ n with vpcs := n.vpcs.set i w }, 0) := by rw [hR2]; rfl
          rw [hr]
          clear hr hR2 hp
          refine ps_i tab_ok mixed Tryz.func8 rfl Tryz.ntmps8 Tryz.results8 (by kernel_rfl) ?_
          repeat' (first | (with_reducible refine And.intro ?_ ?_) | (with_reducible refine gK_i (fun _ => ?_) (fun _ => ?_)) | (with_reducible refine condS_i (fun _ => ?_) (fun _ => ?_)) | (with_reducible refine drw_i (by kernel_rfl)) | simp -dsimp only [go_sem, seval, *, encT, encV, encG, hv, hi, hiI, hrow, undef] | ((with_reducible refine opK_c ?_); simp -dsimp only [go_sem, seval, encT, encV, encG, hv, hi, hiI, hrow, undef]; first | refine callK_r (by first | assumption | exact hgp | exact hpe) (by first | exact .inl rfl | exact .inr rfl) ?_ | (refine callK_i (by assumption) ?_ ?_ ?_; (solve | (repeat (first | exact DLe.refl _ | exact DLe.nil _ | (refine DLe.tup ?_) | (refine DLe.agg ?_ rfl) | exact trivial | (refine And.intro ?_ ?_)))); (solve | exact .inl rfl | exact .inr rfl))) | (refine opK_M [] (hbg) ?_ ?_ ?_ ?_ ?_ ?_; (solve | rfl | simp only [go_sem, seval, encT]); (solve | rfl); (solve | decide); (solve | simp); (solve | simp only [go_sem, seval, lentOK, encT])) | (refine opK_M [5, 6, 4] (hfd) ?_ ?_ ?_ ?_ ?_ ?_; (solve | rfl | simp only [go_sem, seval, encT]); (solve | rfl); (solve | decide); (solve | simp); (solve | simp only [go_sem, seval, lentOK, encT])) | omega | exact decide_eq_true (by omega) | exact DLe.refl _)
          all_goals exact (by repeat (first | exact DLe.refl _ | exact DLe.nil _ | (refine DLe.tup ?_) | (refine DLe.agg ?_ rfl) | exact trivial | (refine And.intro ?_ ?_)))
        | false =>
          rw [hp] at hpe hR2
          have hr : R = (Net.zero, 9) := by rw [hR2]; rfl
          rw [hr]
          clear hr hR2 hp
          refine ps_i tab_ok mixed Tryz.func8 rfl Tryz.ntmps8 Tryz.results8 (by kernel_rfl) ?_
          repeat' (first | (with_reducible refine And.intro ?_ ?_) | (with_reducible refine gK_i (fun _ => ?_) (fun _ => ?_)) | (with_reducible refine condS_i (fun _ => ?_) (fun _ => ?_)) | (with_reducible refine drw_i (by kernel_rfl)) | simp -dsimp only [go_sem, seval, *, encT, encV, encG, hv, hi, hiI, hrow, undef] | ((with_reducible refine opK_c ?_); simp -dsimp only [go_sem, seval, encT, encV, encG, hv, hi, hiI, hrow, undef]; first | refine callK_r (by first | assumption | exact hgp | exact hpe) (by first | exact .inl rfl | exact .inr rfl) ?_ | (refine callK_i (by assumption) ?_ ?_ ?_; (solve | (repeat (first | exact DLe.refl _ | exact DLe.nil _ | (refine DLe.tup ?_) | (refine DLe.agg ?_ rfl) | exact trivial | (refine And.intro ?_ ?_)))); (solve | exact .inl rfl | exact .inr rfl))) | (refine opK_M [] (hbg) ?_ ?_ ?_ ?_ ?_ ?_; (solve | rfl | simp only [go_sem, seval, encT]); (solve | rfl); (solve | decide); (solve | simp); (solve | simp only [go_sem, seval, lentOK, encT])) | (refine opK_M [5, 6, 4] (hfd) ?_ ?_ ?_ ?_ ?_ ?_; (solve | rfl | simp only [go_sem, seval, encT]); (solve | rfl); (solve | decide); (solve | simp); (solve | simp only [go_sem, seval, lentOK, encT])) | omega | exact decide_eq_true (by omega) | exact DLe.refl _)
          all_goals exact (by repeat (first | exact DLe.refl _ | exact DLe.nil _ | (refine DLe.tup ?_) | (refine DLe.agg ?_ rfl) | exact trivial | (refine And.intro ?_ ?_)))
      · have hr : R = (Net.zero, (growV v r).2) := by
          rw [hR.out]; unfold growN; rw [if_neg (by simpa using hc), hx]; simp only [hv]; rw [if_pos hg]
        have hgb : ((growV v r).2 != 0) = true := by simpa using hg
        rw [hr]
        clear hr hR hok hx hc hg hfs
        generalize (growV v r).1 = w at *
        generalize (growV v r).2 = E at *
        refine ps_i tab_ok mixed Tryz.func8 rfl Tryz.ntmps8 Tryz.results8 (by kernel_rfl) ?_
        repeat' (first | (with_reducible refine And.intro ?_ ?_) | (with_reducible refine gK_i (fun _ => ?_) (fun _ => ?_)) | (with_reducible refine condS_i (fun _ => ?_) (fun _ => ?_)) | (with_reducible refine drw_i (by kernel_rfl)) | simp -dsimp only [go_sem, seval, *, encT, encV, encG, hv, hi, hiI, hgb, undef] | ((with_reducible refine opK_c ?_); simp -dsimp only [go_sem, seval, encT, encV, encG, hv, hi, hiI, hgb, undef]; first | refine callK_r (by first | assumption | exact hgp) (by first | exact .inl rfl | exact .inr rfl) ?_ | (refine callK_i (by assumption) ?_ ?_ ?_; (solve | (repeat (first | exact DLe.refl _ | exact DLe.nil _ | (refine DLe.tup ?_) | (refine DLe.agg ?_ rfl) | exact trivial | (refine And.intro ?_ ?_)))); (solve | exact .inl rfl | exact .inr rfl))) | (refine opK_M [] (hbg) ?_ ?_ ?_ ?_ ?_ ?_; (solve | rfl | simp only [go_sem, seval, encT]); (solve | rfl); (solve | decide); (solve | simp); (solve | simp only [go_sem, seval, lentOK, encT])) | (refine opK_M [5, 6, 4] (hfd) ?_ ?_ ?_ ?_ ?_ ?_; (solve | rfl | simp only [go_sem, seval, encT]); (solve | rfl); (solve | decide); (solve | simp); (solve | simp only [go_sem, seval, lentOK, encT])) | omega | exact decide_eq_true (by omega) | exact DLe.refl _)
        all_goals exact (by repeat (first | exact DLe.refl _ | exact DLe.nil _ | (refine DLe.tup ?_) | (refine DLe.agg ?_ rfl) | exact trivial | (refine And.intro ?_ ?_)))
  · have hbg := nbeginE_m n hc
    have h1 : (chkT n != 0) = true := by simpa using hc
    have hr : R = (Net.zero, chkT n) := by rw [hR.out]; unfold growN; rw [if_pos hc]
    rw [hr]
    replace hr := Lib.hid hr
    refine ps_i tab_ok mixed Tryz.func8 rfl Tryz.ntmps8 Tryz.results8 (by kernel_rfl) ?_
    repeat' (first | (with_reducible refine And.intro ?_ ?_) | (with_reducible refine gK_i (fun _ => ?_) (fun _ => ?_)) | (with_reducible refine condS_i (fun _ => ?_) (fun _ => ?_)) | (with_reducible refine drw_i (by kernel_rfl)) | simp -dsimp only [go_sem, seval, *, encT, h1] | ((with_reducible refine opK_c ?_); simp -dsimp only [go_sem, seval, encT, h1]; first | refine callK_r (by first | assumption | fail) (by first | exact .inl rfl | exact .inr rfl) ?_ | (refine callK_i (by assumption) ?_ ?_ ?_; (solve | (repeat (first | exact DLe.refl _ | exact DLe.nil _ | (refine DLe.tup ?_) | (refine DLe.agg ?_ rfl) | exact trivial | (refine And.intro ?_ ?_)))); (solve | exact .inl rfl | exact .inr rfl))) | (refine opK_M [] (hbg) ?_ ?_ ?_ ?_ ?_ ?_; (solve | rfl | simp only [go_sem, seval, encT]); (solve | rfl); (solve | decide); (solve | simp); (solve | simp only [go_sem, seval, lentOK, encT])) | omega | exact decide_eq_true (by omega) | exact DLe.refl _)
    all_goals exact (by repeat (first | exact DLe.refl _ | exact DLe.nil _ | (refine DLe.tup ?_) | (refine DLe.agg ?_ rfl) | exact trivial | (refine And.intro ?_ ?_)))
/-- Part's answer. -/
def partN (n : Net) (a b : Int) : Net × Int :=
  if chkT n ≠ 0 then (Net.zero, chkT n) else
  match n.links.findIdx? (fun l => decide (lnk a b = l)) with
  | none => (Net.zero, 5)
  | some i => ({ n with links := n.links.eraseIdx i }, 0)
set_option maxRecDepth 100000 in
set_option maxHeartbeats 1000000 in
theorem npart_p (n : Net) (a b : Int) : PSpec Tryz.prog 19 [.agg (encT n), .v (.int .i64 a), .v (.int .i64 b)] (.tup [.agg (encT (partN n a b).1), .v (.int .i64 (partN n a b).2)]) := by
  obtain ⟨R, hR⟩ : ∃ R, R = partN n a b := ⟨_, rfl⟩
  rw [← hR]
  replace hR := Lib.hid hR
  by_cases hc : chkT n = 0
  · have hok := netOK.1 hc
    have hbg := nbegin_m n hc
    have hlk := link_p a b
    have hix := index_Link n.links (lnk a b) (by have := hok.n12; omega)
    unfold idxI at hix
    cases hf : n.links.findIdx? (fun l => decide (lnk a b = l)) with
    | none =>
      rw [hf] at hix
      have hr : R = (Net.zero, 5) := by rw [hR.out]; unfold partN; rw [if_neg (by simpa using hc), hf]
      rw [hr]
      clear hr hR hf hc hok
      generalize lnk a b = LK at *
      refine ps_i tab_ok mixed Tryz.func19 rfl Tryz.ntmps19 Tryz.results19 (by kernel_rfl) ?_
      repeat' (first | (with_reducible refine And.intro ?_ ?_) | (with_reducible refine gK_i (fun _ => ?_) (fun _ => ?_)) | (with_reducible refine condS_i (fun _ => ?_) (fun _ => ?_)) | (with_reducible refine drw_i (by kernel_rfl)) | simp -dsimp only [go_sem, seval, *, encT, encK, undef] | ((with_reducible refine opK_c ?_); simp -dsimp only [go_sem, seval, encT, encK, undef]; first | refine callK_r (by first | assumption | exact hlk | exact hix) (by first | exact .inl rfl | exact .inr rfl) ?_ | (refine callK_i (by assumption) ?_ ?_ ?_; (solve | (repeat (first | exact DLe.refl _ | exact DLe.nil _ | (refine DLe.tup ?_) | (refine DLe.agg ?_ rfl) | exact trivial | (refine And.intro ?_ ?_)))); (solve | exact .inl rfl | exact .inr rfl))) | (refine opK_M [] (hbg) ?_ ?_ ?_ ?_ ?_ ?_; (solve | rfl | simp only [go_sem, seval, encT]); (solve | rfl); (solve | decide); (solve | simp); (solve | simp only [go_sem, seval, lentOK, encT])) | omega | exact decide_eq_true (by omega) | exact DLe.refl _)
      all_goals exact (by repeat (first | exact DLe.refl _ | exact DLe.nil _ | (refine DLe.tup ?_) | (refine DLe.agg ?_ rfl) | exact trivial | (refine And.intro ?_ ?_)))
    | some i =>
      rw [hf] at hix
      have hi : i < n.links.length := (List.findIdx?_eq_some_iff_getElem.1 hf).1
      have hi0 : decide ((i : Int) < 0) = false := by simp
      have hd := delete_Link (enc := encK) n.links i (i + 1) 1 hi rfl
      have hwr : IntKind.i64.wrap ((i : Int) + 1) = ((i + 1 : Nat) : Int) := by rw [IntKind.wrap_i64]; have := hok.n12; omega
      have hr : R = ({ n with links := n.links.eraseIdx i }, 0) := by rw [hR.out]; unfold partN; rw [if_neg (by simpa using hc), hf]
      rw [hr]
      clear hr hR hf hc hok
      generalize lnk a b = LK at *
      refine ps_i tab_ok mixed Tryz.func19 rfl Tryz.ntmps19 Tryz.results19 (by kernel_rfl) ?_
      repeat' (first | (with_reducible refine And.intro ?_ ?_) | (with_reducible refine gK_i (fun _ => ?_) (fun _ => ?_)) | (with_reducible refine condS_i (fun _ => ?_) (fun _ => ?_)) | (with_reducible refine drw_i (by kernel_rfl)) | simp -dsimp only [go_sem, seval, *, encT, encK, hi0, hwr, hi, undef] | ((with_reducible refine opK_c ?_); simp -dsimp only [go_sem, seval, encT, encK, hi0, hwr, hi, undef]; first | refine callK_r (by first | assumption | exact hlk | exact hix) (by first | exact .inl rfl | exact .inr rfl) ?_ | (refine callK_i (by assumption) ?_ ?_ ?_; (solve | (repeat (first | exact DLe.refl _ | exact DLe.nil _ | (refine DLe.tup ?_) | (refine DLe.agg ?_ rfl) | exact trivial | (refine And.intro ?_ ?_)))); (solve | exact .inl rfl | exact .inr rfl))) | (refine opK_M [] (hbg) ?_ ?_ ?_ ?_ ?_ ?_; (solve | rfl | simp only [go_sem, seval, encT]); (solve | rfl); (solve | decide); (solve | simp); (solve | simp only [go_sem, seval, lentOK, encT])) | (refine opK_M [3] (hd) ?_ ?_ ?_ ?_ ?_ ?_; (solve | rfl | simp only [go_sem, seval, encK]); (solve | rfl); (solve | decide); (solve | simp); (solve | simp only [go_sem, seval, lentOK, encK])) | omega | exact decide_eq_true (by omega) | exact DLe.refl _)
      all_goals exact (by repeat (first | exact DLe.refl _ | exact DLe.nil _ | (refine DLe.tup ?_) | (refine DLe.agg ?_ rfl) | exact trivial | (refine And.intro ?_ ?_)))
  · have hbg := nbeginE_m n hc
    have h1 : (chkT n != 0) = true := by simpa using hc
    have hr : R = (Net.zero, chkT n) := by rw [hR.out]; unfold partN; rw [if_pos hc]
    rw [hr]
    replace hr := Lib.hid hr
    refine ps_i tab_ok mixed Tryz.func19 rfl Tryz.ntmps19 Tryz.results19 (by kernel_rfl) ?_
    repeat' (first | (with_reducible refine And.intro ?_ ?_) | (with_reducible refine gK_i (fun _ => ?_) (fun _ => ?_)) | (with_reducible refine condS_i (fun _ => ?_) (fun _ => ?_)) | (with_reducible refine drw_i (by kernel_rfl)) | simp -dsimp only [go_sem, seval, *, encT, h1] | ((with_reducible refine opK_c ?_); simp -dsimp only [go_sem, seval, encT, h1]; first | refine callK_r (by first | assumption | fail) (by first | exact .inl rfl | exact .inr rfl) ?_ | (refine callK_i (by assumption) ?_ ?_ ?_; (solve | (repeat (first | exact DLe.refl _ | exact DLe.nil _ | (refine DLe.tup ?_) | (refine DLe.agg ?_ rfl) | exact trivial | (refine And.intro ?_ ?_)))); (solve | exact .inl rfl | exact .inr rfl))) | (refine opK_M [] (hbg) ?_ ?_ ?_ ?_ ?_ ?_; (solve | rfl | simp only [go_sem, seval, encT]); (solve | rfl); (solve | decide); (solve | simp); (solve | simp only [go_sem, seval, lentOK, encT])) | omega | exact decide_eq_true (by omega) | exact DLe.refl _)
    all_goals exact (by repeat (first | exact DLe.refl _ | exact DLe.nil _ | (refine DLe.tup ?_) | (refine DLe.agg ?_ rfl) | exact trivial | (refine And.intro ?_ ?_)))
end Go.Proofs.YtgmbhaclogabeaaGreat
namespace Go.Proofs.YtgmbhaclogabeaaGreat
open Go Go.RowKit
def encBo (b : Bool) : List D := [.v (.bool b)]
theorem bo_repl (n : Nat) (b : Bool) : List.replicate n [PV.d (.v (.bool b))] = dRows ((List.replicate n b).map encBo) := by simp [dRows, encBo, List.map_replicate]
theorem bo_set (l : List Bool) (i : Nat) (b : Bool) : (dRows (l.map encBo)).set i [.d (.v (.bool b))] = dRows ((l.set i b).map encBo) := dRows_setrow encBo l i b
theorem lkB_eq {n : Net} {i k : Nat} {v w : Vpc} (hv : n.vpcs[i]? = some v) (hw : n.vpcs[k]? = some w) : lkB n.links (n.vpcs.map (·.id)) i k = linkedN n v.id w.id := by
  have e1 : (n.vpcs.map (·.id)).getD i 0 = v.id := by simp [List.getD_eq_getElem?_getD, hv]
  have e2 : (n.vpcs.map (·.id)).getD k 0 = w.id := by simp [List.getD_eq_getElem?_getD, hw]
  unfold lkB linkedN
  rw [e1, e2, Bool.eq_iff_iff, decide_eq_true_eq, List.any_eq_true]
  simp
theorem ids_nodup {n : Net} (hr : n.vpcs.Pairwise fun a b => a.id < b.id) : (n.vpcs.map (·.id)).Nodup := by
  unfold List.Nodup
  rw [List.pairwise_map]
  exact hr.imp fun h => by omega
set_option maxRecDepth 100000 in
set_option maxHeartbeats 2000000 in
theorem groupR_p (n : Net) (id : Int) (i0 : Nat) (hx : vpcIx n id = some i0) (h6 : n.vpcs.length ≤ 6) (h12 : n.links.length ≤ 12) (hr : n.vpcs.Pairwise fun a b => a.id < b.id) (hl : ∀ l ∈ n.links, l.a ∈ n.vpcs.map (·.id) ∧ l.b ∈ n.vpcs.map (·.id) ∧ l.a < l.b) :
    PSpec Tryz.prog 11 [.agg (encT n), .v (.int .i64 id)] (.sl 1 ((grpN n id).map encA)) := by
  obtain ⟨v0, hv0, he0, hi0, hfs⟩ := vpcIx_some hx
  have hat := vpcAt_p n id (by omega)
  rw [vpcAt_ix, hx] at hat
  simp only at hat
  obtain ⟨lk, hlk⟩ : ∃ lk, lk = lkB n.links (n.vpcs.map (·.id)) := ⟨_, rfl⟩
  obtain ⟨l0, hl0⟩ : ∃ l0, l0 = (List.replicate n.vpcs.length false).set i0 true := ⟨_, rfl⟩
  have hll : l0.length = n.vpcs.length := by rw [hl0]; simp
  have hfin : ∀ (k : Nat) (v : Vpc), n.vpcs[k]? = some v → (closeI lk l0 n.vpcs.length)[k]? = some (headN n v.id == headN n id) := fun k v hv => by
    have hk := (List.getElem?_eq_some_iff.1 hv).1
    have h := close_heads (L := n.links) (ids := n.vpcs.map (·.id)) (ids_nodup hr) hl (i := i0) (k := k) (by simpa using hi0) (by simpa using hk)
    have e1 : (n.vpcs.map (·.id)).getD k 0 = v.id := by simp [List.getD_eq_getElem?_getD, hv]
    have e2 : (n.vpcs.map (·.id)).getD i0 0 = id := by simp [List.getD_eq_getElem?_getD, hv0, he0]
    rw [e1, e2, List.length_map, ← hlk, ← hl0, ← headN_eq] at h
    have hk2 : k < (closeI lk l0 n.vpcs.length).length := by rw [gsl_clen, hll]; exact hk
    rw [← h, List.getD_eq_getElem?_getD, List.getElem?_eq_getElem hk2]; rfl
  have hpos : 0 < n.vpcs.length := by omega
  have hposI : 0 < (n.vpcs.length : Int) := by omega
  have hset : (dRows ((List.replicate n.vpcs.length false).map encBo)).set i0 [.d (.v (.bool true))] = dRows (l0.map encBo) := by rw [bo_set, ← hl0]
  have hiI : (0 : Int) ≤ (i0 : Int) := by omega
  have hrp : (List.replicate n.vpcs.length false)[i0]? = some false := by rw [List.getElem?_replicate, if_pos hi0]
  have hgr : grpN n id = (n.vpcs.filter fun v => headN n v.id == headN n id).map (·.id) := rfl
  rw [hgr]
  clear hgr hx hfs hl hr
  replace hfin := Lib.hid hfin
  replace hl0 := Lib.hid hl0
  replace he0 := Lib.hid he0
  replace hlk := Lib.hid hlk
  refine ps_i tab_ok mixed Tryz.func11 rfl Tryz.ntmps11 Tryz.results11 (by kernel_rfl) ?_
  repeat' (first | (with_reducible refine And.intro ?_ ?_) | (with_reducible refine gK_i (fun _ => ?_) (fun _ => ?_)) | (with_reducible refine condS_i (fun _ => ?_) (fun _ => ?_)) | (with_reducible refine drw_i (by kernel_rfl)) | simp -dsimp only [go_sem, seval, *, encT, encBo, hrp, bo_repl, hposI, hi0, hiI, hset, List.length_replicate] | ((with_reducible refine opK_c ?_); simp -dsimp only [go_sem, seval, encT, encBo, hrp, bo_repl, hposI, hi0, hiI, hset, List.length_replicate]; first | refine callK_r (by first | assumption | exact hat) (by first | exact .inl rfl | exact .inr rfl) ?_ | (refine callK_i (by assumption) ?_ ?_ ?_; (solve | (repeat (first | exact DLe.refl _ | exact DLe.nil _ | (refine DLe.tup ?_) | (refine DLe.agg ?_ rfl) | exact trivial | (refine And.intro ?_ ?_)))); (solve | exact .inl rfl | exact .inr rfl))) | fail | omega | exact decide_eq_true (by omega) | exact DLe.refl _)
  clear hat hset hv0 hrp
  refine loopN tab_ok mixed n.vpcs.length (fun _ => True) (fun t => [(6, .d (.v (.int .i64 t))), (5, .own 1 0), (4, .d (.v (.slice none 0 0))), (2, .ptr 0 0)])
    (fun t => [.box 25 ((encT n).map .d), .row 4 1 0 (dRows ((closeI lk l0 t).map encBo))]) trivial (weak_forget _ (by simp) (by (try simp only [encT]); rfl) (by (repeat' (first | exact trivial | (refine ⟨rfl, ?_⟩)))) (by first | rfl | simp only [belowH, belowE, belowC, belowL, belowR, belowP, belowL_d, belowR_d, List.length_cons, List.length_nil, Nat.reduceAdd, Nat.reduceLT, decide_true, Bool.and_self, Bool.and_true]) (by first | rfl | simp only [belowH, belowE, belowC, belowL, belowR, belowP, belowL_d, belowR_d, List.length_cons, List.length_nil, Nat.reduceAdd, Nat.reduceLT, decide_true, Bool.and_self, Bool.and_true])) ?_ ?_
  · intro t ht _ CT hCT
    have htI : (t : Int) < (n.vpcs.length : Int) := by omega
    have hwt : IntKind.i64.wrap ((t : Int) + 1) = ((t + 1 : Nat) : Int) := by rw [IntKind.wrap_i64]; omega
    have hlt := gsl_clen lk l0 t
    rw [hll] at hlt
    have hct : closeI lk l0 (t + 1) = turnI lk (closeI lk l0 t) n.vpcs.length := by show turnI lk (closeI lk l0 t) l0.length = _; rw [hll]
    replace hct := Lib.hid hct
    generalize closeI lk l0 t = A at *
    repeat' (first | (with_reducible refine And.intro ?_ ?_) | (with_reducible refine gK_i (fun _ => ?_) (fun _ => ?_)) | (with_reducible refine condS_i (fun _ => ?_) (fun _ => ?_)) | (with_reducible refine drw_i (by kernel_rfl)) | simp -dsimp only [go_sem, seval, *, encT, htI, hlt] | ((with_reducible refine opK_c ?_); simp -dsimp only [go_sem, seval, encT, htI, hlt]; first | refine callK_r (by first | assumption | fail) (by first | exact .inl rfl | exact .inr rfl) ?_ | (refine callK_i (by assumption) ?_ ?_ ?_; (solve | (repeat (first | exact DLe.refl _ | exact DLe.nil _ | (refine DLe.tup ?_) | (refine DLe.agg ?_ rfl) | exact trivial | (refine And.intro ?_ ?_)))); (solve | exact .inl rfl | exact .inr rfl))) | fail | omega | exact decide_eq_true (by omega) | exact DLe.refl _)
    refine loopN tab_ok mixed n.vpcs.length (fun _ => True) (fun i => [(7, .d (.v (.int .i64 i))), (6, .d (.v (.int .i64 t))), (5, .own 1 0), (4, .d (.v (.slice none 0 0))), (2, .ptr 0 0)])
      (fun i => [.box 25 ((encT n).map .d), .row 4 1 0 (dRows ((turnI lk A i).map encBo))]) trivial (weak_forget _ (by simp) (by (try simp only [encT]); rfl) (by (repeat' (first | exact trivial | (refine ⟨rfl, ?_⟩)))) (by first | rfl | simp only [belowH, belowE, belowC, belowL, belowR, belowP, belowL_d, belowR_d, List.length_cons, List.length_nil, Nat.reduceAdd, Nat.reduceLT, decide_true, Bool.and_self, Bool.and_true]) (by first | rfl | simp only [belowH, belowE, belowC, belowL, belowR, belowP, belowL_d, belowR_d, List.length_cons, List.length_nil, Nat.reduceAdd, Nat.reduceLT, decide_true, Bool.and_self, Bool.and_true])) ?_ ?_
    · intro i hi _ CI hCI
      have hiI2 : (i : Int) < (n.vpcs.length : Int) := by omega
      have hwi : IntKind.i64.wrap ((i : Int) + 1) = ((i + 1 : Nat) : Int) := by rw [IntKind.wrap_i64]; omega
      have hlt2 := gsl_tlen lk A i
      rw [hlt] at hlt2
      have hct2 : turnI lk A (i + 1) = rowI lk (turnI lk A i) i n.vpcs.length := by show rowI lk (turnI lk A i) i A.length = _; rw [hlt]
      replace hct2 := Lib.hid hct2
      obtain ⟨vi, hvi⟩ : ∃ v, n.vpcs[i]? = some v := ⟨_, List.getElem?_eq_getElem hi⟩
      generalize turnI lk A i = B at *
      repeat' (first | (with_reducible refine And.intro ?_ ?_) | (with_reducible refine gK_i (fun _ => ?_) (fun _ => ?_)) | (with_reducible refine condS_i (fun _ => ?_) (fun _ => ?_)) | (with_reducible refine drw_i (by kernel_rfl)) | simp -dsimp only [go_sem, seval, *, encT, hiI2, hlt2] | ((with_reducible refine opK_c ?_); simp -dsimp only [go_sem, seval, encT, hiI2, hlt2]; first | refine callK_r (by first | assumption | fail) (by first | exact .inl rfl | exact .inr rfl) ?_ | (refine callK_i (by assumption) ?_ ?_ ?_; (solve | (repeat (first | exact DLe.refl _ | exact DLe.nil _ | (refine DLe.tup ?_) | (refine DLe.agg ?_ rfl) | exact trivial | (refine And.intro ?_ ?_)))); (solve | exact .inl rfl | exact .inr rfl))) | fail | omega | exact decide_eq_true (by omega) | exact DLe.refl _)
      refine loopN tab_ok mixed n.vpcs.length (fun _ => True) (fun k => [(8, .d (.v (.int .i64 k))), (7, .d (.v (.int .i64 i))), (6, .d (.v (.int .i64 t))), (5, .own 1 0), (4, .d (.v (.slice none 0 0))), (2, .ptr 0 0)])
        (fun k => [.box 25 ((encT n).map .d), .row 4 1 0 (dRows ((rowI lk B i k).map encBo))]) trivial (weak_forget _ (by simp) (by (try simp only [encT]); rfl) (by (repeat' (first | exact trivial | (refine ⟨rfl, ?_⟩)))) (by first | rfl | simp only [belowH, belowE, belowC, belowL, belowR, belowP, belowL_d, belowR_d, List.length_cons, List.length_nil, Nat.reduceAdd, Nat.reduceLT, decide_true, Bool.and_self, Bool.and_true]) (by first | rfl | simp only [belowH, belowE, belowC, belowL, belowR, belowP, belowL_d, belowR_d, List.length_cons, List.length_nil, Nat.reduceAdd, Nat.reduceLT, decide_true, Bool.and_self, Bool.and_true])) ?_ ?_
      · intro k hk _ C hC
        have hkI : (k : Int) < (n.vpcs.length : Int) := by omega
        have hwk : IntKind.i64.wrap ((k : Int) + 1) = ((k + 1 : Nat) : Int) := by rw [IntKind.wrap_i64]; omega
        have hlt3 := gsl_rlen lk B i k
        rw [hlt2] at hlt3
        have hst : rowI lk B i (k + 1) = stepI lk i k (rowI lk B i k) := rfl
        obtain ⟨vk, hvk⟩ : ∃ v, n.vpcs[k]? = some v := ⟨_, List.getElem?_eq_getElem hk⟩
        have hlq := linkedR_p n vi.id vk.id (by omega)
        have hlb : lk i k = linkedN n vi.id vk.id := by rw [hlk.out]; exact lkB_eq hvi hvk
        generalize rowI lk B i k = M at *
        obtain ⟨bk, hbk⟩ : ∃ b, M[k]? = some b := ⟨_, List.getElem?_eq_getElem (by omega)⟩
        obtain ⟨bi, hbi⟩ : ∃ b, M[i]? = some b := ⟨_, List.getElem?_eq_getElem (by omega)⟩
        have hst2 : stepI lk i k M = M.set k (bk || (bi && linkedN n vi.id vk.id)) := by unfold stepI; rw [hlb]; simp [List.getD_eq_getElem?_getD, hbk, hbi]
        generalize linkedN n vi.id vk.id = q at *
        have hrow := fun b => bo_set M k b
        clear hlb
        replace hst := Lib.hid hst
        replace hst2 := Lib.hid hst2
        cases bk with
        | true =>
          repeat' (first | (with_reducible refine And.intro ?_ ?_) | (with_reducible refine gK_i (fun _ => ?_) (fun _ => ?_)) | (with_reducible refine condS_i (fun _ => ?_) (fun _ => ?_)) | (with_reducible refine drw_i (by kernel_rfl)) | simp -dsimp only [go_sem, seval, *, encT, encV, encBo, hkI, hwk, hlt3, hbk, hrow, undef] | ((with_reducible refine opK_c ?_); simp -dsimp only [go_sem, seval, encT, encV, encBo, hkI, hwk, hlt3, hbk, hrow, undef]; first | refine callK_r (by first | assumption | fail) (by first | exact .inl rfl | exact .inr rfl) ?_ | (refine callK_i (by assumption) ?_ ?_ ?_; (solve | (repeat (first | exact DLe.refl _ | exact DLe.nil _ | (refine DLe.tup ?_) | (refine DLe.agg ?_ rfl) | exact trivial | (refine And.intro ?_ ?_)))); (solve | exact .inl rfl | exact .inr rfl))) | fail | omega | exact decide_eq_true (by omega) | exact DLe.refl _)
          refine hC _ _ trivial ?_
          rw [hst.out, hst2.out]
          exact weak_forget _ (by simp) (by rfl) (by (repeat' (first | exact trivial | (refine ⟨rfl, ?_⟩)))) (by first | rfl | simp only [belowH, belowE, belowC, belowL, belowR, belowP, belowL_d, belowR_d, List.length_cons, List.length_nil, Nat.reduceAdd, Nat.reduceLT, decide_true, Bool.and_self, Bool.and_true]) (by first | rfl | simp only [belowH, belowE, belowC, belowL, belowR, belowP, belowL_d, belowR_d, List.length_cons, List.length_nil, Nat.reduceAdd, Nat.reduceLT, decide_true, Bool.and_self, Bool.and_true])
        | false =>
          cases bi with
          | false =>
            repeat' (first | (with_reducible refine And.intro ?_ ?_) | (with_reducible refine gK_i (fun _ => ?_) (fun _ => ?_)) | (with_reducible refine condS_i (fun _ => ?_) (fun _ => ?_)) | (with_reducible refine drw_i (by kernel_rfl)) | simp -dsimp only [go_sem, seval, *, encT, encV, encBo, hkI, hiI2, hwk, hlt3, hbk, hbi, hrow, undef] | ((with_reducible refine opK_c ?_); simp -dsimp only [go_sem, seval, encT, encV, encBo, hkI, hiI2, hwk, hlt3, hbk, hbi, hrow, undef]; first | refine callK_r (by first | assumption | fail) (by first | exact .inl rfl | exact .inr rfl) ?_ | (refine callK_i (by assumption) ?_ ?_ ?_; (solve | (repeat (first | exact DLe.refl _ | exact DLe.nil _ | (refine DLe.tup ?_) | (refine DLe.agg ?_ rfl) | exact trivial | (refine And.intro ?_ ?_)))); (solve | exact .inl rfl | exact .inr rfl))) | fail | omega | exact decide_eq_true (by omega) | exact DLe.refl _)
            refine hC _ _ trivial ?_
            rw [hst.out, hst2.out]
            exact weak_forget _ (by simp) (by rfl) (by (repeat' (first | exact trivial | (refine ⟨rfl, ?_⟩)))) (by first | rfl | simp only [belowH, belowE, belowC, belowL, belowR, belowP, belowL_d, belowR_d, List.length_cons, List.length_nil, Nat.reduceAdd, Nat.reduceLT, decide_true, Bool.and_self, Bool.and_true]) (by first | rfl | simp only [belowH, belowE, belowC, belowL, belowR, belowP, belowL_d, belowR_d, List.length_cons, List.length_nil, Nat.reduceAdd, Nat.reduceLT, decide_true, Bool.and_self, Bool.and_true])
          | true =>
            repeat' (first | (with_reducible refine And.intro ?_ ?_) | (with_reducible refine gK_i (fun _ => ?_) (fun _ => ?_)) | (with_reducible refine condS_i (fun _ => ?_) (fun _ => ?_)) | (with_reducible refine drw_i (by kernel_rfl)) | simp -dsimp only [go_sem, seval, *, encT, encV, encBo, hkI, hiI2, hwk, hlt3, hbk, hbi, hrow, hvi, hvk, undef] | ((with_reducible refine opK_c ?_); simp -dsimp only [go_sem, seval, encT, encV, encBo, hkI, hiI2, hwk, hlt3, hbk, hbi, hrow, hvi, hvk, undef]; first | refine callK_r (by first | assumption | exact hlq) (by first | exact .inl rfl | exact .inr rfl) ?_ | (refine callK_i (by assumption) ?_ ?_ ?_; (solve | (repeat (first | exact DLe.refl _ | exact DLe.nil _ | (refine DLe.tup ?_) | (refine DLe.agg ?_ rfl) | exact trivial | (refine And.intro ?_ ?_)))); (solve | exact .inl rfl | exact .inr rfl))) | fail | omega | exact decide_eq_true (by omega) | exact DLe.refl _)
            refine hC _ _ trivial ?_
            rw [hst.out, hst2.out]
            exact weak_forget _ (by simp) (by rfl) (by (repeat' (first | exact trivial | (refine ⟨rfl, ?_⟩)))) (by first | rfl | simp only [belowH, belowE, belowC, belowL, belowR, belowP, belowL_d, belowR_d, List.length_cons, List.length_nil, Nat.reduceAdd, Nat.reduceLT, decide_true, Bool.and_self, Bool.and_true]) (by first | rfl | simp only [belowH, belowE, belowC, belowL, belowR, belowP, belowL_d, belowR_d, List.length_cons, List.length_nil, Nat.reduceAdd, Nat.reduceLT, decide_true, Bool.and_self, Bool.and_true])
      · intro _ C
        have hlt4 := gsl_rlen lk B i n.vpcs.length
        rw [hlt2] at hlt4
        repeat' (first | (with_reducible refine And.intro ?_ ?_) | (with_reducible refine gK_i (fun _ => ?_) (fun _ => ?_)) | (with_reducible refine condS_i (fun _ => ?_) (fun _ => ?_)) | (with_reducible refine drw_i (by kernel_rfl)) | simp -dsimp only [go_sem, seval, *, encT, hwi, hlt4, Int.lt_irrefl] | ((with_reducible refine opK_c ?_); simp -dsimp only [go_sem, seval, encT, hwi, hlt4, Int.lt_irrefl]; first | refine callK_r (by first | assumption | fail) (by first | exact .inl rfl | exact .inr rfl) ?_ | (refine callK_i (by assumption) ?_ ?_ ?_; (solve | (repeat (first | exact DLe.refl _ | exact DLe.nil _ | (refine DLe.tup ?_) | (refine DLe.agg ?_ rfl) | exact trivial | (refine And.intro ?_ ?_)))); (solve | exact .inl rfl | exact .inr rfl))) | fail | omega | exact decide_eq_true (by omega) | exact DLe.refl _)
        refine hCI _ _ trivial ?_
        rw [hct2.out]
        exact weak_forget _ (by simp) (by (try simp only [encT]); rfl) (by (repeat' (first | exact trivial | (refine ⟨rfl, ?_⟩)))) (by first | rfl | simp only [belowH, belowE, belowC, belowL, belowR, belowP, belowL_d, belowR_d, List.length_cons, List.length_nil, Nat.reduceAdd, Nat.reduceLT, decide_true, Bool.and_self, Bool.and_true]) (by first | rfl | simp only [belowH, belowE, belowC, belowL, belowR, belowP, belowL_d, belowR_d, List.length_cons, List.length_nil, Nat.reduceAdd, Nat.reduceLT, decide_true, Bool.and_self, Bool.and_true])
    · intro _ C
      have hlt4 := gsl_tlen lk A n.vpcs.length
      rw [hlt] at hlt4
      repeat' (first | (with_reducible refine And.intro ?_ ?_) | (with_reducible refine gK_i (fun _ => ?_) (fun _ => ?_)) | (with_reducible refine condS_i (fun _ => ?_) (fun _ => ?_)) | (with_reducible refine drw_i (by kernel_rfl)) | simp -dsimp only [go_sem, seval, *, encT, hwt, hlt4, Int.lt_irrefl] | ((with_reducible refine opK_c ?_); simp -dsimp only [go_sem, seval, encT, hwt, hlt4, Int.lt_irrefl]; first | refine callK_r (by first | assumption | fail) (by first | exact .inl rfl | exact .inr rfl) ?_ | (refine callK_i (by assumption) ?_ ?_ ?_; (solve | (repeat (first | exact DLe.refl _ | exact DLe.nil _ | (refine DLe.tup ?_) | (refine DLe.agg ?_ rfl) | exact trivial | (refine And.intro ?_ ?_)))); (solve | exact .inl rfl | exact .inr rfl))) | fail | omega | exact decide_eq_true (by omega) | exact DLe.refl _)
      refine hCT _ _ trivial ?_
      rw [hct.out]
      exact weak_forget _ (by simp) (by (try simp only [encT]); rfl) (by (repeat' (first | exact trivial | (refine ⟨rfl, ?_⟩)))) (by first | rfl | simp only [belowH, belowE, belowC, belowL, belowR, belowP, belowL_d, belowR_d, List.length_cons, List.length_nil, Nat.reduceAdd, Nat.reduceLT, decide_true, Bool.and_self, Bool.and_true]) (by first | rfl | simp only [belowH, belowE, belowC, belowL, belowR, belowP, belowL_d, belowR_d, List.length_cons, List.length_nil, Nat.reduceAdd, Nat.reduceLT, decide_true, Bool.and_self, Bool.and_true])
  · intro _ C
    have hlt4 := gsl_clen lk l0 n.vpcs.length
    rw [hll] at hlt4
    generalize closeI lk l0 n.vpcs.length = M at *
    repeat' (first | (with_reducible refine And.intro ?_ ?_) | (with_reducible refine gK_i (fun _ => ?_) (fun _ => ?_)) | (with_reducible refine condS_i (fun _ => ?_) (fun _ => ?_)) | (with_reducible refine drw_i (by kernel_rfl)) | simp -dsimp only [go_sem, seval, *, encT, hlt4, Int.lt_irrefl] | ((with_reducible refine opK_c ?_); simp -dsimp only [go_sem, seval, encT, hlt4, Int.lt_irrefl]; first | refine callK_r (by first | assumption | fail) (by first | exact .inl rfl | exact .inr rfl) ?_ | (refine callK_i (by assumption) ?_ ?_ ?_; (solve | (repeat (first | exact DLe.refl _ | exact DLe.nil _ | (refine DLe.tup ?_) | (refine DLe.agg ?_ rfl) | exact trivial | (refine And.intro ?_ ?_)))); (solve | exact .inl rfl | exact .inr rfl))) | fail | omega | exact decide_eq_true (by omega) | exact DLe.refl _)
    refine loopG tab_ok mixed (fun m e h => ∃ (k g : Nat), k ≤ n.vpcs.length ∧ m = n.vpcs.length - k ∧ e = [(10, .d (.v (.int .i64 k))), (9, .own 2 g), (5, .own 1 0), (4, .d (.v (.slice none 0 0))), (2, .ptr 0 0)] ∧
      h = [.box 25 ((encT n).map .d), .row 4 1 0 (dRows (M.map encBo)), .row 3 1 g (dRows ((((n.vpcs.take k).filter fun v => headN n v.id == headN n id).map (·.id)).map encA))]) _ _ _ ⟨0, 0, Nat.zero_le _, rfl, rfl, rfl⟩ ?_ ?_
    · refine (weak_adopt (by simp) 9 3 1 rfl).trans ?_
      exact weak_forget _ (by simp) (by (try simp only [encT]); rfl) (by (repeat' (first | exact trivial | (refine ⟨rfl, ?_⟩)))) (by first | rfl | simp only [belowH, belowE, belowC, belowL, belowR, belowP, belowL_d, belowR_d, List.length_cons, List.length_nil, Nat.reduceAdd, Nat.reduceLT, decide_true, Bool.and_self, Bool.and_true]) (by first | rfl | simp only [belowH, belowE, belowC, belowL, belowR, belowP, belowL_d, belowR_d, List.length_cons, List.length_nil, Nat.reduceAdd, Nat.reduceLT, decide_true, Bool.and_self, Bool.and_true])
    · rintro m e h ⟨k, g, hk, hm, rfl, rfl⟩ C hC
      by_cases hlt : k < n.vpcs.length
      · have hkI : (k : Int) < (n.vpcs.length : Int) := by omega
        have hwr : IntKind.i64.wrap ((k : Int) + 1) = ((k + 1 : Nat) : Int) := by rw [IntKind.wrap_i64]; omega
        obtain ⟨v, hv⟩ : ∃ v, n.vpcs[k]? = some v := ⟨_, List.getElem?_eq_getElem hlt⟩
        have hbk := hfin.out k v hv
        have hfl : ((n.vpcs.take k).filter fun v => headN n v.id == headN n id).length ≤ k := by
          have := List.length_filter_le (fun v : Vpc => headN n v.id == headN n id) (n.vpcs.take k)
          rw [List.length_take] at this; omega
        have hbd : ((n.vpcs.take k).filter fun v => headN n v.id == headN n id).length + 1 ≤ 100 := by omega
        have hst : (n.vpcs.take (k + 1)).filter (fun v => headN n v.id == headN n id) = (n.vpcs.take k).filter (fun v => headN n v.id == headN n id) ++ if (headN n v.id == headN n id) = true then [v] else [] := by
          rw [take_snoc hv, List.filter_append]
          congr 1
          cases hb : headN n v.id == headN n id <;> simp [hb]
        replace hst := Lib.hid hst
        replace hfl := Lib.hid hfl
        replace hm := Lib.hid hm
        generalize (n.vpcs.take k).filter (fun v => headN n v.id == headN n id) = L at *
        cases e1 : (headN n v.id == headN n id) with
        | false =>
          rw [e1] at hst hbk
          repeat' (first | (with_reducible refine And.intro ?_ ?_) | (with_reducible refine gK_i (fun _ => ?_) (fun _ => ?_)) | (with_reducible refine condS_i (fun _ => ?_) (fun _ => ?_)) | (with_reducible refine drw_i (by kernel_rfl)) | simp -dsimp only [go_sem, seval, *, encT, encV, encBo, hkI, hwr, hlt4, hv, hbk, undef] | ((with_reducible refine opK_c ?_); simp -dsimp only [go_sem, seval, encT, encV, encBo, hkI, hwr, hlt4, hv, hbk, undef]; first | refine callK_r (by first | assumption | fail) (by first | exact .inl rfl | exact .inr rfl) ?_ | (refine callK_i (by assumption) ?_ ?_ ?_; (solve | (repeat (first | exact DLe.refl _ | exact DLe.nil _ | (refine DLe.tup ?_) | (refine DLe.agg ?_ rfl) | exact trivial | (refine And.intro ?_ ?_)))); (solve | exact .inl rfl | exact .inr rfl))) | fail | omega | exact decide_eq_true (by omega) | exact DLe.refl _)
          refine hC _ _ _ _ _ ?_ ⟨k + 1, g, hlt, rfl, rfl, rfl⟩ (weak_forget _ (by simp) (by rw [hst.out]; simp only [Bool.false_eq_true, if_false, List.append_nil]; rfl) (by (repeat' (first | exact trivial | (refine ⟨rfl, ?_⟩)))) (by first | rfl | simp only [belowH, belowE, belowC, belowL, belowR, belowP, belowL_d, belowR_d, belowR_zipG, subRow, faceRow, List.length_cons, List.length_nil, Nat.reduceAdd, Nat.reduceLT, decide_true, Bool.and_self, Bool.and_true]) (by first | rfl | simp only [belowH, belowE, belowC, belowL, belowR, belowP, belowL_d, belowR_d, belowR_zipG, subRow, faceRow, List.length_cons, List.length_nil, Nat.reduceAdd, Nat.reduceLT, decide_true, Bool.and_self, Bool.and_true]))
          have := hm.out; omega
        | true =>
          rw [e1] at hst hbk
          repeat' (first | (with_reducible refine And.intro ?_ ?_) | (with_reducible refine gK_i (fun _ => ?_) (fun _ => ?_)) | (with_reducible refine condS_i (fun _ => ?_) (fun _ => ?_)) | (with_reducible refine drw_i (by kernel_rfl)) | simp -dsimp only [go_sem, seval, *, encT, encV, encBo, hkI, hwr, hlt4, hv, hbk, hbd, undef] | ((with_reducible refine opK_c ?_); simp -dsimp only [go_sem, seval, encT, encV, encBo, hkI, hwr, hlt4, hv, hbk, hbd, undef]; first | refine callK_r (by first | assumption | fail) (by first | exact .inl rfl | exact .inr rfl) ?_ | (refine callK_i (by assumption) ?_ ?_ ?_; (solve | (repeat (first | exact DLe.refl _ | exact DLe.nil _ | (refine DLe.tup ?_) | (refine DLe.agg ?_ rfl) | exact trivial | (refine And.intro ?_ ?_)))); (solve | exact .inl rfl | exact .inr rfl))) | fail | omega | exact decide_eq_true (by omega) | exact DLe.refl _)
          refine hC _ _ _ _ _ ?_ ⟨k + 1, g + 1, hlt, rfl, rfl, rfl⟩ (weak_forget _ (by simp) (by rw [hst.out]; simp only [if_true, List.map_append, List.map_cons, List.map_nil, ← dRows_app]; rfl) (by (repeat' (first | exact trivial | (refine ⟨rfl, ?_⟩)))) (by first | rfl | simp only [belowH, belowE, belowC, belowL, belowR, belowP, belowL_d, belowR_d, belowR_zipG, subRow, faceRow, List.length_cons, List.length_nil, Nat.reduceAdd, Nat.reduceLT, decide_true, Bool.and_self, Bool.and_true]) (by first | rfl | simp only [belowH, belowE, belowC, belowL, belowR, belowP, belowL_d, belowR_d, belowR_zipG, subRow, faceRow, List.length_cons, List.length_nil, Nat.reduceAdd, Nat.reduceLT, decide_true, Bool.and_self, Bool.and_true]))
          have := hm.out; omega
      · obtain rfl : k = n.vpcs.length := by omega
        rw [List.take_length]
        replace hm := Lib.hid hm
        repeat' (first | (with_reducible refine And.intro ?_ ?_) | (with_reducible refine gK_i (fun _ => ?_) (fun _ => ?_)) | (with_reducible refine condS_i (fun _ => ?_) (fun _ => ?_)) | (with_reducible refine drw_i (by kernel_rfl)) | simp -dsimp only [go_sem, seval, *, encT, hlt4, Int.lt_irrefl, undef] | ((with_reducible refine opK_c ?_); simp -dsimp only [go_sem, seval, encT, hlt4, Int.lt_irrefl, undef]; first | refine callK_r (by first | assumption | fail) (by first | exact .inl rfl | exact .inr rfl) ?_ | (refine callK_i (by assumption) ?_ ?_ ?_; (solve | (repeat (first | exact DLe.refl _ | exact DLe.nil _ | (refine DLe.tup ?_) | (refine DLe.agg ?_ rfl) | exact trivial | (refine And.intro ?_ ?_)))); (solve | exact .inl rfl | exact .inr rfl))) | fail | omega | exact decide_eq_true (by omega) | exact DLe.refl _)
        all_goals exact (by repeat (first | exact DLe.refl _ | exact DLe.nil _ | (refine DLe.tup ?_) | (refine DLe.agg ?_ rfl) | exact trivial | (refine And.intro ?_ ?_)))
end Go.Proofs.YtgmbhaclogabeaaGreat
namespace Go.Proofs.YtgmbhaclogabeaaGreat
open Go Go.RowKit
theorem ordK_lt (y l : Lnk) : ordK y l < 0 ↔ y.a < l.a ∨ (y.a = l.a ∧ y.b < l.b) := by
  unfold ordK
  simp only [orI, cmpI]
  repeat' split
  all_goals omega
theorem clashV_comm (v w : Vpc) : clashV v w = clashV w v := by
  have key : ∀ v w : Vpc, clashV v w = true → clashV w v = true := fun v w h => by
    unfold clashV at h ⊢
    obtain ⟨r, hr, h⟩ := List.any_eq_true.1 h
    obtain ⟨q, hq, h⟩ := List.any_eq_true.1 h
    exact List.any_eq_true.2 ⟨q, hq, List.any_eq_true.2 ⟨r, hr, by rw [meets_comm]; exact h⟩⟩
  rw [Bool.eq_iff_iff]
  exact ⟨key v w, key w v⟩
theorem foeN_comm (n : Net) (v w : Vpc) : foeN n v w = foeN n w v := by
  unfold foeN
  rw [clashV_comm v w, Bool.beq_comm]
/-- Two networks at two places that are at war. -/
theorem peace_war {n : Net} {i j : Nat} {v w : Vpc} (hij : i ≠ j) (hv : n.vpcs[i]? = some v) (hw : n.vpcs[j]? = some w) (h : foeN n v w = true) : peaceN n = false := by
  rcases Nat.lt_or_gt_of_ne hij with hlt | hlt
  · exact peace_bad hlt hw hv (by rw [foeN_comm]; exact h)
  · exact peace_bad hlt hv hw h
theorem rise_ne {n : Net} (hr : n.vpcs.Pairwise fun a b => a.id < b.id) {i : Nat} {v w : Vpc} (hv : n.vpcs[i]? = some v) (hw : w ∈ n.vpcs.take i) : w.id ≠ v.id := by
  obtain ⟨j, hj, rfl⟩ := List.mem_iff_getElem.1 hw
  rw [List.getElem_take]
  obtain ⟨hi, rfl⟩ := List.getElem?_eq_some_iff.1 hv
  have := List.pairwise_iff_getElem.1 hr j i (by rw [List.length_take] at hj; omega) hi (by rw [List.length_take] at hj; omega)
  omega
theorem vpcIx_at {n : Net} (hr : n.vpcs.Pairwise fun a b => a.id < b.id) {j : Nat} {w : Vpc} (hw : n.vpcs[j]? = some w) : vpcIx n w.id = some j := by
  unfold vpcIx
  rw [List.findIdx?_eq_some_iff_getElem]
  obtain ⟨hj, rfl⟩ := List.getElem?_eq_some_iff.1 hw
  refine ⟨hj, by simp, fun i hi => ?_⟩
  have := List.pairwise_iff_getElem.1 hr i j (by omega) hj hi
  simp
  omega
/-- Who is in a group. -/
theorem grp_at {n : Net} (hr : n.vpcs.Pairwise fun a b => a.id < b.id) {id x : Int} {k : Nat} (h : (grpN n id)[k]? = some x) : ∃ j w, n.vpcs[j]? = some w ∧ w.id = x ∧ vpcIx n x = some j ∧ headN n x = headN n id := by
  have hm := List.mem_of_getElem? h
  unfold grpN at hm
  obtain ⟨w, hw, rfl⟩ := List.mem_map.1 hm
  rw [List.mem_filter, beq_iff_eq] at hw
  obtain ⟨j, hj⟩ := List.mem_iff_getElem?.1 hw.1
  exact ⟨j, w, hj, rfl, vpcIx_at hr hj, hw.2⟩
theorem grp_mem {n : Net} {id : Int} {w : Vpc} (hw : w ∈ n.vpcs) (h : headN n w.id = headN n id) : w.id ∈ grpN n id := by
  unfold grpN
  exact List.mem_map.2 ⟨w, List.mem_filter.2 ⟨hw, by simpa using h⟩, rfl⟩
theorem grp_len (n : Net) (id : Int) : (grpN n id).length ≤ n.vpcs.length := by
  unfold grpN
  rw [List.length_map]
  exact List.length_filter_le _ _
theorem lnkB_ix {n : Net} (l : Lnk) : lnkB n l = ((vpcIx n l.a).isSome && ((vpcIx n l.b).isSome && decide (l.a < l.b))) := by
  have key : ∀ x, (findN n x).isSome = (vpcIx n x).isSome := fun x => by
    cases h : vpcIx n x with
    | none => rw [vpcIx_none h]; rfl
    | some i => obtain ⟨v, -, -, -, h2⟩ := vpcIx_some h; rw [h2]; rfl
  unfold lnkB
  rw [key, key]
def NetZ (n : Net) : Prop := ∀ v ∈ n.vpcs, v.subs.length ≤ 9223372036854775807 ∧ ∀ s ∈ v.subs, s.faces.length ≤ 9223372036854775807
set_option maxRecDepth 100000 in
set_option maxHeartbeats 4000000 in
theorem checkNet_p (n : Net) (hz : NetZ n) : PSpec Tryz.prog 9 [.agg (encT n)] (.v (.int .i64 (chkT n))) := by
  obtain ⟨R, hR⟩ : ∃ R, R = chkT n := ⟨_, rfl⟩
  rw [← hR]
  replace hR := Lib.hid hR
  replace hz := Lib.hid hz
  by_cases h6 : n.vpcs.length > 6
  · have h6I : decide ((n.vpcs.length : Int) > 6) = true := by simp; omega
    have hr : R = 2 := by rw [hR.out, chkT, if_pos (.inl h6)]
    rw [hr]
    replace hr := Lib.hid hr
    refine ps_i tab_ok mixed Tryz.func9 rfl Tryz.ntmps9 Tryz.results9 (by kernel_rfl) ?_
    repeat' (first | (with_reducible refine And.intro ?_ ?_) | (with_reducible refine gK_i (fun _ => ?_) (fun _ => ?_)) | (with_reducible refine condS_i (fun _ => ?_) (fun _ => ?_)) | (with_reducible refine drw_i (by kernel_rfl)) | simp -dsimp only [go_sem, seval, *, encT, h6I, undef] | ((with_reducible refine opK_c ?_); simp -dsimp only [go_sem, seval, encT, h6I, undef]; first | refine callK_r (by first | assumption | fail) (by first | exact .inl rfl | exact .inr rfl) ?_ | (refine callK_i (by assumption) ?_ ?_ ?_; (solve | (repeat (first | exact DLe.refl _ | exact DLe.nil _ | (refine DLe.tup ?_) | (refine DLe.agg ?_ rfl) | exact trivial | (refine And.intro ?_ ?_)))); (solve | exact .inl rfl | exact .inr rfl))) | fail | omega | exact decide_eq_true (by omega) | exact DLe.refl _)
    all_goals exact DLe.refl _
  by_cases h12 : n.links.length > 12
  · have h6I : decide ((n.vpcs.length : Int) > 6) = false := by simp; omega
    have h12I : decide ((n.links.length : Int) > 12) = true := by simp; omega
    have hr : R = 2 := by rw [hR.out, chkT, if_pos (.inr h12)]
    rw [hr]
    replace hr := Lib.hid hr
    refine ps_i tab_ok mixed Tryz.func9 rfl Tryz.ntmps9 Tryz.results9 (by kernel_rfl) ?_
    repeat' (first | (with_reducible refine And.intro ?_ ?_) | (with_reducible refine gK_i (fun _ => ?_) (fun _ => ?_)) | (with_reducible refine condS_i (fun _ => ?_) (fun _ => ?_)) | (with_reducible refine drw_i (by kernel_rfl)) | simp -dsimp only [go_sem, seval, *, encT, h6I, h12I, undef] | ((with_reducible refine opK_c ?_); simp -dsimp only [go_sem, seval, encT, h6I, h12I, undef]; first | refine callK_r (by first | assumption | fail) (by first | exact .inl rfl | exact .inr rfl) ?_ | (refine callK_i (by assumption) ?_ ?_ ?_; (solve | (repeat (first | exact DLe.refl _ | exact DLe.nil _ | (refine DLe.tup ?_) | (refine DLe.agg ?_ rfl) | exact trivial | (refine And.intro ?_ ?_)))); (solve | exact .inl rfl | exact .inr rfl))) | fail | omega | exact decide_eq_true (by omega) | exact DLe.refl _)
    all_goals exact DLe.refl _
  have h6I : decide ((n.vpcs.length : Int) > 6) = false := by simp; omega
  have h12I : decide ((n.links.length : Int) > 12) = false := by simp; omega
  have hno : ¬ (n.vpcs.length > 6 ∨ n.links.length > 12) := by omega
  refine ps_i tab_ok mixed Tryz.func9 rfl Tryz.ntmps9 Tryz.results9 (by kernel_rfl) ?_
  repeat' (first | (with_reducible refine And.intro ?_ ?_) | (with_reducible refine gK_i (fun _ => ?_) (fun _ => ?_)) | (with_reducible refine condS_i (fun _ => ?_) (fun _ => ?_)) | (with_reducible refine drw_i (by kernel_rfl)) | simp -dsimp only [go_sem, seval, *, encT, h6I, h12I, undef] | ((with_reducible refine opK_c ?_); simp -dsimp only [go_sem, seval, encT, h6I, h12I, undef]; first | refine callK_r (by first | assumption | fail) (by first | exact .inl rfl | exact .inr rfl) ?_ | (refine callK_i (by assumption) ?_ ?_ ?_; (solve | (repeat (first | exact DLe.refl _ | exact DLe.nil _ | (refine DLe.tup ?_) | (refine DLe.agg ?_ rfl) | exact trivial | (refine And.intro ?_ ?_)))); (solve | exact .inl rfl | exact .inr rfl))) | fail | omega | exact decide_eq_true (by omega) | exact DLe.refl _)
  refine loopL tab_ok mixed n.vpcs (fun k => (∀ v ∈ n.vpcs.take k, chkV v = 0) ∧ (n.vpcs.take k).Pairwise fun a b => a.id < b.id) (fun k => [(3, .d (.v (.int .i64 k))), (2, .d (.v (.int .i64 0))), (1, .ptr 0 0)]) (fun _ => [.box 25 ((encT n).map .d)]) (by simp) (weak_forget _ (by simp) (by (try simp only [encT]); rfl) (by (repeat' (first | exact trivial | (refine ⟨rfl, ?_⟩)))) (by first | rfl | simp only [belowH, belowE, belowC, belowL, belowR, belowP, belowL_d, belowR_d, List.length_cons, List.length_nil, Nat.reduceAdd, Nat.reduceLT, decide_true, Bool.and_self, Bool.and_true]) (by first | rfl | simp only [belowH, belowE, belowC, belowL, belowR, belowP, belowL_d, belowR_d, List.length_cons, List.length_nil, Nat.reduceAdd, Nat.reduceLT, decide_true, Bool.and_self, Bool.and_true])) ?_ ?_
  · intro k v hv hk hI C hC
    have hkI : (k : Int) < (n.vpcs.length : Int) := by omega
    have hwr : IntKind.i64.wrap ((k : Int) + 1) = ((k + 1 : Nat) : Int) := by rw [IntKind.wrap_i64]; omega
    have htk := take_snoc hv
    have hzv := hz.out v (List.mem_of_getElem? hv)
    have hcv := checkVpc_p v hzv.1 hzv.2
    clear hzv
    by_cases hc : chkV v = 0
    · have hid : 1 ≤ v.id := by have := (vpcOK_of hc).id; simp [idOK] at this; exact this.1
      rw [hc] at hcv
      have hI2 : (lastV (n.vpcs.take k) < v.id) → (∀ v ∈ n.vpcs.take (k + 1), chkV v = 0) ∧ (n.vpcs.take (k + 1)).Pairwise fun a b => a.id < b.id := fun h => by
        rw [htk]
        exact ⟨fun u hu => by
          rcases List.mem_append.1 hu with hu | hu
          · exact hI.1 u hu
          · rw [List.mem_singleton.1 hu]; exact hc, lastV_pair hI.2 h⟩
      have hbad : v.id ≤ lastV (n.vpcs.take k) → R = 1 := fun h => by
        rw [hR.out]
        refine chkT_one hno (.inl ?_)
        cases hb : vpcsB n with
        | false => rfl
        | true =>
          have := (vpcsB_take hb (k + 1)).2
          rw [htk] at this
          exact absurd this (lastV_bad hid h)
      clear hI htk
      replace hc := Lib.hid hc
      replace hI2 := Lib.hid hI2
      replace hbad := Lib.hid hbad
      by_cases hk0 : k = 0
      · have hkz : decide ((k : Int) > 0) = false := by simp; omega
        have hg := hI2.out (by rw [hk0]; simp [lastV]; omega)
        replace hg := Lib.hid hg
        replace hk0 := Lib.hid hk0
        repeat' (first | (with_reducible refine And.intro ?_ ?_) | (with_reducible refine gK_i (fun _ => ?_) (fun _ => ?_)) | (with_reducible refine condS_i (fun _ => ?_) (fun _ => ?_)) | (with_reducible refine drw_i (by kernel_rfl)) | simp -dsimp only [go_sem, seval, *, encT, encV, hkI, hwr, hv, hkz, undef] | ((with_reducible refine opK_c ?_); simp -dsimp only [go_sem, seval, encT, encV, hkI, hwr, hv, hkz, undef]; first | refine callK_r (by first | assumption | exact hcv) (by first | exact .inl rfl | exact .inr rfl) ?_ | (refine callK_i (by assumption) ?_ ?_ ?_; (solve | (repeat (first | exact DLe.refl _ | exact DLe.nil _ | (refine DLe.tup ?_) | (refine DLe.agg ?_ rfl) | exact trivial | (refine And.intro ?_ ?_)))); (solve | exact .inl rfl | exact .inr rfl))) | fail | omega | exact decide_eq_true (by omega) | exact DLe.refl _)
        exact hC _ _ hg.out (weak_forget _ (by simp) (by (try simp only [encT]); rfl) (by (repeat' (first | exact trivial | (refine ⟨rfl, ?_⟩)))) (by first | rfl | simp only [belowH, belowE, belowC, belowL, belowR, belowP, belowL_d, belowR_d, List.length_cons, List.length_nil, Nat.reduceAdd, Nat.reduceLT, decide_true, Bool.and_self, Bool.and_true]) (by first | rfl | simp only [belowH, belowE, belowC, belowL, belowR, belowP, belowL_d, belowR_d, List.length_cons, List.length_nil, Nat.reduceAdd, Nat.reduceLT, decide_true, Bool.and_self, Bool.and_true]))
      · obtain ⟨j, hj⟩ : ∃ j, k = j + 1 := ⟨k - 1, by omega⟩
        obtain ⟨u, hu⟩ : ∃ u, n.vpcs[j]? = some u := ⟨_, List.getElem?_eq_getElem (by omega)⟩
        have hkz : decide ((k : Int) > 0) = true := by simp; omega
        have hw1 : IntKind.i64.wrap ((k : Int) - 1) = (j : Int) := by rw [IntKind.wrap_i64]; omega
        have hjI : (j : Int) < (n.vpcs.length : Int) := by omega
        have hls : lastV (n.vpcs.take k) = u.id := by rw [hj]; unfold lastV; rw [last_take hu]; rfl
        replace hj := Lib.hid hj
        replace hk0 := Lib.hid hk0
        by_cases ho : u.id ≥ v.id
        · have hr : R = 1 := hbad.out (by rw [hls]; exact ho)
          rw [hr]
          replace hr := Lib.hid hr
          replace hls := Lib.hid hls
          repeat' (first | (with_reducible refine And.intro ?_ ?_) | (with_reducible refine gK_i (fun _ => ?_) (fun _ => ?_)) | (with_reducible refine condS_i (fun _ => ?_) (fun _ => ?_)) | (with_reducible refine drw_i (by kernel_rfl)) | simp -dsimp only [go_sem, seval, *, encT, encV, hkI, hwr, hv, hkz, hw1, hjI, hu, ho, undef] | ((with_reducible refine opK_c ?_); simp -dsimp only [go_sem, seval, encT, encV, hkI, hwr, hv, hkz, hw1, hjI, hu, ho, undef]; first | refine callK_r (by first | assumption | exact hcv) (by first | exact .inl rfl | exact .inr rfl) ?_ | (refine callK_i (by assumption) ?_ ?_ ?_; (solve | (repeat (first | exact DLe.refl _ | exact DLe.nil _ | (refine DLe.tup ?_) | (refine DLe.agg ?_ rfl) | exact trivial | (refine And.intro ?_ ?_)))); (solve | exact .inl rfl | exact .inr rfl))) | fail | omega | exact decide_eq_true (by omega) | exact DLe.refl _)
          all_goals exact DLe.refl _
        · have hg := hI2.out (by rw [hls]; omega)
          have hob : decide (u.id ≥ v.id) = false := by simpa using ho
          replace hls := Lib.hid hls
          replace hg := Lib.hid hg
          replace ho := Lib.hid ho
          repeat' (first | (with_reducible refine And.intro ?_ ?_) | (with_reducible refine gK_i (fun _ => ?_) (fun _ => ?_)) | (with_reducible refine condS_i (fun _ => ?_) (fun _ => ?_)) | (with_reducible refine drw_i (by kernel_rfl)) | simp -dsimp only [go_sem, seval, *, encT, encV, hkI, hwr, hv, hkz, hw1, hjI, hu, hob, undef] | ((with_reducible refine opK_c ?_); simp -dsimp only [go_sem, seval, encT, encV, hkI, hwr, hv, hkz, hw1, hjI, hu, hob, undef]; first | refine callK_r (by first | assumption | exact hcv) (by first | exact .inl rfl | exact .inr rfl) ?_ | (refine callK_i (by assumption) ?_ ?_ ?_; (solve | (repeat (first | exact DLe.refl _ | exact DLe.nil _ | (refine DLe.tup ?_) | (refine DLe.agg ?_ rfl) | exact trivial | (refine And.intro ?_ ?_)))); (solve | exact .inl rfl | exact .inr rfl))) | fail | omega | exact decide_eq_true (by omega) | exact DLe.refl _)
          exact hC _ _ hg.out (weak_forget _ (by simp) (by (try simp only [encT]); rfl) (by (repeat' (first | exact trivial | (refine ⟨rfl, ?_⟩)))) (by first | rfl | simp only [belowH, belowE, belowC, belowL, belowR, belowP, belowL_d, belowR_d, List.length_cons, List.length_nil, Nat.reduceAdd, Nat.reduceLT, decide_true, Bool.and_self, Bool.and_true]) (by first | rfl | simp only [belowH, belowE, belowC, belowL, belowR, belowP, belowL_d, belowR_d, List.length_cons, List.length_nil, Nat.reduceAdd, Nat.reduceLT, decide_true, Bool.and_self, Bool.and_true]))
    · have hr : R = 1 := by
        rw [hR.out]
        refine chkT_one hno (.inl ?_)
        cases hb : vpcsB n with
        | false => rfl
        | true => exact absurd ((vpcsB_take hb (k + 1)).1 v (by rw [htk]; simp)) hc
      have hcb : (chkV v != 0) = true := by simpa using hc
      rw [hr]
      clear hr hI hC htk
      replace hc := Lib.hid hc
      repeat' (first | (with_reducible refine And.intro ?_ ?_) | (with_reducible refine gK_i (fun _ => ?_) (fun _ => ?_)) | (with_reducible refine condS_i (fun _ => ?_) (fun _ => ?_)) | (with_reducible refine drw_i (by kernel_rfl)) | simp -dsimp only [go_sem, seval, *, encT, encV, hkI, hv, hcb, undef] | ((with_reducible refine opK_c ?_); simp -dsimp only [go_sem, seval, encT, encV, hkI, hv, hcb, undef]; first | refine callK_r (by first | assumption | exact hcv) (by first | exact .inl rfl | exact .inr rfl) ?_ | (refine callK_i (by assumption) ?_ ?_ ?_; (solve | (repeat (first | exact DLe.refl _ | exact DLe.nil _ | (refine DLe.tup ?_) | (refine DLe.agg ?_ rfl) | exact trivial | (refine And.intro ?_ ?_)))); (solve | exact .inl rfl | exact .inr rfl))) | fail | omega | exact decide_eq_true (by omega) | exact DLe.refl _)
      all_goals exact DLe.refl _
  · intro hI C
    rw [List.take_length] at hI
    have hvB := vpcsB_of hI.1 hI.2
    have hso := hI.2
    replace hI := Lib.hid hI
    replace hso := Lib.hid hso
    replace hvB := Lib.hid hvB
    repeat' (first | (with_reducible refine And.intro ?_ ?_) | (with_reducible refine gK_i (fun _ => ?_) (fun _ => ?_)) | (with_reducible refine condS_i (fun _ => ?_) (fun _ => ?_)) | (with_reducible refine drw_i (by kernel_rfl)) | simp -dsimp only [go_sem, seval, *, encT, Int.lt_irrefl, undef] | ((with_reducible refine opK_c ?_); simp -dsimp only [go_sem, seval, encT, Int.lt_irrefl, undef]; first | refine callK_r (by first | assumption | fail) (by first | exact .inl rfl | exact .inr rfl) ?_ | (refine callK_i (by assumption) ?_ ?_ ?_; (solve | (repeat (first | exact DLe.refl _ | exact DLe.nil _ | (refine DLe.tup ?_) | (refine DLe.agg ?_ rfl) | exact trivial | (refine And.intro ?_ ?_)))); (solve | exact .inl rfl | exact .inr rfl))) | fail | omega | exact decide_eq_true (by omega) | exact DLe.refl _)
    refine loopL tab_ok mixed n.links (fun k => (∀ l ∈ n.links.take k, lnkB n l = true) ∧ risK (n.links.take k) = true) (fun k => [(4, .d (.v (.int .i64 k))), (2, .d (.v (.int .i64 0))), (1, .ptr 0 0)]) (fun _ => [.box 25 ((encT n).map .d)]) (by simp [risK]) (weak_forget _ (by simp) (by (try simp only [encT]); rfl) (by (repeat' (first | exact trivial | (refine ⟨rfl, ?_⟩)))) (by first | rfl | simp only [belowH, belowE, belowC, belowL, belowR, belowP, belowL_d, belowR_d, List.length_cons, List.length_nil, Nat.reduceAdd, Nat.reduceLT, decide_true, Bool.and_self, Bool.and_true]) (by first | rfl | simp only [belowH, belowE, belowC, belowL, belowR, belowP, belowL_d, belowR_d, List.length_cons, List.length_nil, Nat.reduceAdd, Nat.reduceLT, decide_true, Bool.and_self, Bool.and_true])) ?_ ?_
    · intro k l hl hk hJ C hC
      have hkI : (k : Int) < (n.links.length : Int) := by omega
      have hwr : IntKind.i64.wrap ((k : Int) + 1) = ((k + 1 : Nat) : Int) := by rw [IntKind.wrap_i64]; omega
      have htk := take_snoc hl
      have hfa := vpcAt_p n l.a (by omega)
      have hfb := vpcAt_p n l.b (by omega)
      rw [vpcAt_ix] at hfa hfb
      have hbad : lnkB n l = false → R = 1 := fun h => by
        rw [hR.out]
        refine chkT_one hno (.inr (.inl ?_))
        rw [List.all_eq_false]
        exact ⟨l, List.mem_of_getElem? hl, by simp [h]⟩
      have hlb := lnkB_ix (n := n) l
      have hgood : lnkB n l = true → risK (n.links.take (k + 1)) = true → (∀ l ∈ n.links.take (k + 1), lnkB n l = true) ∧ risK (n.links.take (k + 1)) = true := fun h g => by
        refine ⟨?_, g⟩
        rw [htk]
        intro u hu
        rcases List.mem_append.1 hu with hu | hu
        · exact hJ.1 u hu
        · rw [List.mem_singleton.1 hu]; exact h
      have hbad2 : risK (n.links.take (k + 1)) = false → R = 1 := fun h => by
        rw [hR.out]
        refine chkT_one hno (.inr (.inr (.inl ?_)))
        cases hb : risK n.links with
        | false => rfl
        | true => rw [risK_take hb] at h; cases h
      have hrk := risK_snoc (n.links.take k) l
      rw [← htk, hJ.2, Bool.true_and] at hrk
      have hm1 : decide ((-1 : Int) < 0) = true := rfl
      clear htk
      replace hJ := Lib.hid hJ
      replace hbad := Lib.hid hbad
      replace hbad2 := Lib.hid hbad2
      replace hgood := Lib.hid hgood
      by_cases hab : l.a < l.b
      · have hge : decide (l.a ≥ l.b) = false := by simp; omega
        cases ea : vpcIx n l.a with
        | none =>
          rw [ea] at hfa hlb
          simp only at hfa
          have hr : R = 1 := hbad.out (by rw [hlb]; rfl)
          rw [hr]
          clear hr hlb hrk hfb
          replace ea := Lib.hid ea
          replace hab := Lib.hid hab
          repeat' (first | (with_reducible refine And.intro ?_ ?_) | (with_reducible refine gK_i (fun _ => ?_) (fun _ => ?_)) | (with_reducible refine condS_i (fun _ => ?_) (fun _ => ?_)) | (with_reducible refine drw_i (by kernel_rfl)) | simp -dsimp only [go_sem, seval, *, encT, encK, hkI, hl, hge, hm1, undef] | ((with_reducible refine opK_c ?_); simp -dsimp only [go_sem, seval, encT, encK, hkI, hl, hge, hm1, undef]; first | refine callK_r (by first | assumption | exact hfa) (by first | exact .inl rfl | exact .inr rfl) ?_ | (refine callK_i (by assumption) ?_ ?_ ?_; (solve | (repeat (first | exact DLe.refl _ | exact DLe.nil _ | (refine DLe.tup ?_) | (refine DLe.agg ?_ rfl) | exact trivial | (refine And.intro ?_ ?_)))); (solve | exact .inl rfl | exact .inr rfl))) | fail | omega | exact decide_eq_true (by omega) | exact DLe.refl _)
          all_goals exact DLe.refl _
        | some ia =>
          rw [ea] at hfa hlb
          simp only at hfa
          have hia : decide ((ia : Int) < 0) = false := by simp
          replace ea := Lib.hid ea
          cases eb : vpcIx n l.b with
          | none =>
            rw [eb] at hfb hlb
            simp only at hfb
            have hr : R = 1 := hbad.out (by rw [hlb]; rfl)
            rw [hr]
            clear hr hlb hrk
            replace eb := Lib.hid eb
            replace hab := Lib.hid hab
            repeat' (first | (with_reducible refine And.intro ?_ ?_) | (with_reducible refine gK_i (fun _ => ?_) (fun _ => ?_)) | (with_reducible refine condS_i (fun _ => ?_) (fun _ => ?_)) | (with_reducible refine drw_i (by kernel_rfl)) | simp -dsimp only [go_sem, seval, *, encT, encK, hkI, hl, hge, hm1, hia, undef] | ((with_reducible refine opK_c ?_); simp -dsimp only [go_sem, seval, encT, encK, hkI, hl, hge, hm1, hia, undef]; first | refine callK_r (by first | assumption | exact hfa | exact hfb) (by first | exact .inl rfl | exact .inr rfl) ?_ | (refine callK_i (by assumption) ?_ ?_ ?_; (solve | (repeat (first | exact DLe.refl _ | exact DLe.nil _ | (refine DLe.tup ?_) | (refine DLe.agg ?_ rfl) | exact trivial | (refine And.intro ?_ ?_)))); (solve | exact .inl rfl | exact .inr rfl))) | fail | omega | exact decide_eq_true (by omega) | exact DLe.refl _)
            all_goals exact DLe.refl _
          | some ib =>
            rw [eb] at hfb hlb
            simp only at hfb
            have hib : decide ((ib : Int) < 0) = false := by simp
            replace eb := Lib.hid eb
            have hlt : lnkB n l = true := by rw [hlb]; simp [hab]
            clear hlb
            replace hlt := Lib.hid hlt
            replace hab := Lib.hid hab
            by_cases hk0 : k = 0
            · have hkz : decide ((k : Int) > 0) = false := by simp; omega
              have hg := hgood.out hlt.out (by rw [hrk, hk0]; rfl)
              clear hrk
              replace hg := Lib.hid hg
              replace hk0 := Lib.hid hk0
              repeat' (first | (with_reducible refine And.intro ?_ ?_) | (with_reducible refine gK_i (fun _ => ?_) (fun _ => ?_)) | (with_reducible refine condS_i (fun _ => ?_) (fun _ => ?_)) | (with_reducible refine drw_i (by kernel_rfl)) | simp -dsimp only [go_sem, seval, *, encT, encK, hkI, hwr, hl, hge, hkz, hia, hib, undef] | ((with_reducible refine opK_c ?_); simp -dsimp only [go_sem, seval, encT, encK, hkI, hwr, hl, hge, hkz, hia, hib, undef]; first | refine callK_r (by first | assumption | exact hfa | exact hfb) (by first | exact .inl rfl | exact .inr rfl) ?_ | (refine callK_i (by assumption) ?_ ?_ ?_; (solve | (repeat (first | exact DLe.refl _ | exact DLe.nil _ | (refine DLe.tup ?_) | (refine DLe.agg ?_ rfl) | exact trivial | (refine And.intro ?_ ?_)))); (solve | exact .inl rfl | exact .inr rfl))) | fail | omega | exact decide_eq_true (by omega) | exact DLe.refl _)
              exact hC _ _ hg.out (weak_forget _ (by simp) (by (try simp only [encT]); rfl) (by (repeat' (first | exact trivial | (refine ⟨rfl, ?_⟩)))) (by first | rfl | simp only [belowH, belowE, belowC, belowL, belowR, belowP, belowL_d, belowR_d, List.length_cons, List.length_nil, Nat.reduceAdd, Nat.reduceLT, decide_true, Bool.and_self, Bool.and_true]) (by first | rfl | simp only [belowH, belowE, belowC, belowL, belowR, belowP, belowL_d, belowR_d, List.length_cons, List.length_nil, Nat.reduceAdd, Nat.reduceLT, decide_true, Bool.and_self, Bool.and_true]))
            · obtain ⟨j, hj⟩ : ∃ j, k = j + 1 := ⟨k - 1, by omega⟩
              obtain ⟨y, hy⟩ : ∃ y, n.links[j]? = some y := ⟨_, List.getElem?_eq_getElem (by omega)⟩
              have hkz : decide ((k : Int) > 0) = true := by simp; omega
              have hw1 : IntKind.i64.wrap ((k : Int) - 1) = (j : Int) := by rw [IntKind.wrap_i64]; omega
              have hjI : (j : Int) < (n.links.length : Int) := by omega
              have hol := ordK_lt y l
              rw [hj, last_take hy] at hrk
              simp only at hrk
              rw [← hj] at hrk
              replace hj := Lib.hid hj
              replace hk0 := Lib.hid hk0
              by_cases ho : ordK y l < 0
              · have hg := hgood.out hlt.out (by rw [hrk]; simpa using ho)
                have hcs := hol.1 ho
                clear hrk hol ho
                replace hg := Lib.hid hg
                by_cases hlt2 : y.a < l.a
                · have e1 : decide (y.a > l.a) = false := by simp; omega
                  have e2 : (y.a == l.a) = false := by simp; omega
                  clear hcs hlt2
                  repeat' (first | (with_reducible refine And.intro ?_ ?_) | (with_reducible refine gK_i (fun _ => ?_) (fun _ => ?_)) | (with_reducible refine condS_i (fun _ => ?_) (fun _ => ?_)) | (with_reducible refine drw_i (by kernel_rfl)) | simp -dsimp only [go_sem, seval, *, encT, encK, hkI, hwr, hl, hge, hkz, hw1, hjI, hy, hia, hib, e1, e2, undef] | ((with_reducible refine opK_c ?_); simp -dsimp only [go_sem, seval, encT, encK, hkI, hwr, hl, hge, hkz, hw1, hjI, hy, hia, hib, e1, e2, undef]; first | refine callK_r (by first | assumption | exact hfa | exact hfb) (by first | exact .inl rfl | exact .inr rfl) ?_ | (refine callK_i (by assumption) ?_ ?_ ?_; (solve | (repeat (first | exact DLe.refl _ | exact DLe.nil _ | (refine DLe.tup ?_) | (refine DLe.agg ?_ rfl) | exact trivial | (refine And.intro ?_ ?_)))); (solve | exact .inl rfl | exact .inr rfl))) | fail | omega | exact decide_eq_true (by omega) | exact DLe.refl _)
                  exact hC _ _ hg.out (weak_forget _ (by simp) (by (try simp only [encT]); rfl) (by (repeat' (first | exact trivial | (refine ⟨rfl, ?_⟩)))) (by first | rfl | simp only [belowH, belowE, belowC, belowL, belowR, belowP, belowL_d, belowR_d, List.length_cons, List.length_nil, Nat.reduceAdd, Nat.reduceLT, decide_true, Bool.and_self, Bool.and_true]) (by first | rfl | simp only [belowH, belowE, belowC, belowL, belowR, belowP, belowL_d, belowR_d, List.length_cons, List.length_nil, Nat.reduceAdd, Nat.reduceLT, decide_true, Bool.and_self, Bool.and_true]))
                · have e1 : decide (y.a > l.a) = false := by simp; omega
                  have e2 : (y.a == l.a) = true := by simp; omega
                  have e3 : decide (y.b ≥ l.b) = false := by simp; omega
                  clear hcs hlt2
                  repeat' (first | (with_reducible refine And.intro ?_ ?_) | (with_reducible refine gK_i (fun _ => ?_) (fun _ => ?_)) | (with_reducible refine condS_i (fun _ => ?_) (fun _ => ?_)) | (with_reducible refine drw_i (by kernel_rfl)) | simp -dsimp only [go_sem, seval, *, encT, encK, hkI, hwr, hl, hge, hkz, hw1, hjI, hy, hia, hib, e1, e2, e3, undef] | ((with_reducible refine opK_c ?_); simp -dsimp only [go_sem, seval, encT, encK, hkI, hwr, hl, hge, hkz, hw1, hjI, hy, hia, hib, e1, e2, e3, undef]; first | refine callK_r (by first | assumption | exact hfa | exact hfb) (by first | exact .inl rfl | exact .inr rfl) ?_ | (refine callK_i (by assumption) ?_ ?_ ?_; (solve | (repeat (first | exact DLe.refl _ | exact DLe.nil _ | (refine DLe.tup ?_) | (refine DLe.agg ?_ rfl) | exact trivial | (refine And.intro ?_ ?_)))); (solve | exact .inl rfl | exact .inr rfl))) | fail | omega | exact decide_eq_true (by omega) | exact DLe.refl _)
                  exact hC _ _ hg.out (weak_forget _ (by simp) (by (try simp only [encT]); rfl) (by (repeat' (first | exact trivial | (refine ⟨rfl, ?_⟩)))) (by first | rfl | simp only [belowH, belowE, belowC, belowL, belowR, belowP, belowL_d, belowR_d, List.length_cons, List.length_nil, Nat.reduceAdd, Nat.reduceLT, decide_true, Bool.and_self, Bool.and_true]) (by first | rfl | simp only [belowH, belowE, belowC, belowL, belowR, belowP, belowL_d, belowR_d, List.length_cons, List.length_nil, Nat.reduceAdd, Nat.reduceLT, decide_true, Bool.and_self, Bool.and_true]))
              · have hr : R = 1 := hbad2.out (by rw [hrk]; simpa using ho)
                have hcs : ¬ (y.a < l.a ∨ (y.a = l.a ∧ y.b < l.b)) := fun h => ho (hol.2 h)
                rw [hr]
                clear hrk hr hol ho
                by_cases hlt2 : y.a > l.a
                · have e1 : decide (y.a > l.a) = true := by simpa using hlt2
                  clear hcs hlt2
                  repeat' (first | (with_reducible refine And.intro ?_ ?_) | (with_reducible refine gK_i (fun _ => ?_) (fun _ => ?_)) | (with_reducible refine condS_i (fun _ => ?_) (fun _ => ?_)) | (with_reducible refine drw_i (by kernel_rfl)) | simp -dsimp only [go_sem, seval, *, encT, encK, hkI, hwr, hl, hge, hkz, hw1, hjI, hy, hia, hib, e1, undef] | ((with_reducible refine opK_c ?_); simp -dsimp only [go_sem, seval, encT, encK, hkI, hwr, hl, hge, hkz, hw1, hjI, hy, hia, hib, e1, undef]; first | refine callK_r (by first | assumption | exact hfa | exact hfb) (by first | exact .inl rfl | exact .inr rfl) ?_ | (refine callK_i (by assumption) ?_ ?_ ?_; (solve | (repeat (first | exact DLe.refl _ | exact DLe.nil _ | (refine DLe.tup ?_) | (refine DLe.agg ?_ rfl) | exact trivial | (refine And.intro ?_ ?_)))); (solve | exact .inl rfl | exact .inr rfl))) | fail | omega | exact decide_eq_true (by omega) | exact DLe.refl _)
                  all_goals exact DLe.refl _
                · have e1 : decide (y.a > l.a) = false := by simpa using hlt2
                  have e2 : (y.a == l.a) = true := by simp; omega
                  have e3 : decide (y.b ≥ l.b) = true := by simp; omega
                  clear hcs hlt2
                  repeat' (first | (with_reducible refine And.intro ?_ ?_) | (with_reducible refine gK_i (fun _ => ?_) (fun _ => ?_)) | (with_reducible refine condS_i (fun _ => ?_) (fun _ => ?_)) | (with_reducible refine drw_i (by kernel_rfl)) | simp -dsimp only [go_sem, seval, *, encT, encK, hkI, hwr, hl, hge, hkz, hw1, hjI, hy, hia, hib, e1, e2, e3, undef] | ((with_reducible refine opK_c ?_); simp -dsimp only [go_sem, seval, encT, encK, hkI, hwr, hl, hge, hkz, hw1, hjI, hy, hia, hib, e1, e2, e3, undef]; first | refine callK_r (by first | assumption | exact hfa | exact hfb) (by first | exact .inl rfl | exact .inr rfl) ?_ | (refine callK_i (by assumption) ?_ ?_ ?_; (solve | (repeat (first | exact DLe.refl _ | exact DLe.nil _ | (refine DLe.tup ?_) | (refine DLe.agg ?_ rfl) | exact trivial | (refine And.intro ?_ ?_)))); (solve | exact .inl rfl | exact .inr rfl))) | fail | omega | exact decide_eq_true (by omega) | exact DLe.refl _)
                  all_goals exact DLe.refl _
      · have hge : decide (l.a ≥ l.b) = true := by simp; omega
        have hr : R = 1 := hbad.out (by rw [hlb]; simp; omega)
        rw [hr]
        clear hr hlb hrk hfa hfb
        replace hab := Lib.hid hab
        repeat' (first | (with_reducible refine And.intro ?_ ?_) | (with_reducible refine gK_i (fun _ => ?_) (fun _ => ?_)) | (with_reducible refine condS_i (fun _ => ?_) (fun _ => ?_)) | (with_reducible refine drw_i (by kernel_rfl)) | simp -dsimp only [go_sem, seval, *, encT, encK, hkI, hl, hge, undef] | ((with_reducible refine opK_c ?_); simp -dsimp only [go_sem, seval, encT, encK, hkI, hl, hge, undef]; first | refine callK_r (by first | assumption | fail) (by first | exact .inl rfl | exact .inr rfl) ?_ | (refine callK_i (by assumption) ?_ ?_ ?_; (solve | (repeat (first | exact DLe.refl _ | exact DLe.nil _ | (refine DLe.tup ?_) | (refine DLe.agg ?_ rfl) | exact trivial | (refine And.intro ?_ ?_)))); (solve | exact .inl rfl | exact .inr rfl))) | fail | omega | exact decide_eq_true (by omega) | exact DLe.refl _)
        all_goals exact DLe.refl _
    · intro hJ C
      rw [List.take_length] at hJ
      have hids : ∀ l ∈ n.links, l.a ∈ n.vpcs.map (·.id) ∧ l.b ∈ n.vpcs.map (·.id) ∧ l.a < l.b := fun l hl => by
        have := hJ.1 l hl
        unfold lnkB at this
        simp only [Bool.and_eq_true, decide_eq_true_eq] at this
        exact ⟨find_ids this.1, find_ids this.2.1, this.2.2⟩
      replace hJ := Lib.hid hJ
      replace hids := Lib.hid hids
      repeat' (first | (with_reducible refine And.intro ?_ ?_) | (with_reducible refine gK_i (fun _ => ?_) (fun _ => ?_)) | (with_reducible refine condS_i (fun _ => ?_) (fun _ => ?_)) | (with_reducible refine drw_i (by kernel_rfl)) | simp -dsimp only [go_sem, seval, *, encT, Int.lt_irrefl, undef] | ((with_reducible refine opK_c ?_); simp -dsimp only [go_sem, seval, encT, Int.lt_irrefl, undef]; first | refine callK_r (by first | assumption | fail) (by first | exact .inl rfl | exact .inr rfl) ?_ | (refine callK_i (by assumption) ?_ ?_ ?_; (solve | (repeat (first | exact DLe.refl _ | exact DLe.nil _ | (refine DLe.tup ?_) | (refine DLe.agg ?_ rfl) | exact trivial | (refine And.intro ?_ ?_)))); (solve | exact .inl rfl | exact .inr rfl))) | fail | omega | exact decide_eq_true (by omega) | exact DLe.refl _)
      refine loopL tab_ok mixed n.vpcs (fun k => ∀ v ∈ n.vpcs.take k, ∀ w ∈ n.vpcs, w.id ≠ v.id → foeN n v w = false) (fun k => [(6, .d (.v (.int .i64 k))), (2, .d (.v (.int .i64 0))), (1, .ptr 0 0)]) (fun _ => [.box 25 ((encT n).map .d)]) (by simp) (weak_forget _ (by simp) (by (try simp only [encT]); rfl) (by (repeat' (first | exact trivial | (refine ⟨rfl, ?_⟩)))) (by first | rfl | simp only [belowH, belowE, belowC, belowL, belowR, belowP, belowL_d, belowR_d, List.length_cons, List.length_nil, Nat.reduceAdd, Nat.reduceLT, decide_true, Bool.and_self, Bool.and_true]) (by first | rfl | simp only [belowH, belowE, belowC, belowL, belowR, belowP, belowL_d, belowR_d, List.length_cons, List.length_nil, Nat.reduceAdd, Nat.reduceLT, decide_true, Bool.and_self, Bool.and_true])) ?_ ?_
      · intro k v hv hk hK C hC
        have hkI : (k : Int) < (n.vpcs.length : Int) := by omega
        have hwr : IntKind.i64.wrap ((k : Int) + 1) = ((k + 1 : Nat) : Int) := by rw [IntKind.wrap_i64]; omega
        have hgp := groupR_p n v.id k (vpcIx_at hso.out hv) (by omega) (by omega) hso.out hids.out
        have hgl := grp_len n v.id
        have hst : (∀ w ∈ n.vpcs, w.id ≠ v.id → foeN n v w = false) → ∀ v ∈ n.vpcs.take (k + 1), ∀ w ∈ n.vpcs, w.id ≠ v.id → foeN n v w = false := fun h u hu => by
          rw [take_snoc hv] at hu
          rcases List.mem_append.1 hu with hu | hu
          · exact hK u hu
          · rw [List.mem_singleton.1 hu]; exact h
        have hgm : ∀ w ∈ n.vpcs, headN n w.id = headN n v.id → w.id ∈ grpN n v.id := fun w hw h => grp_mem hw h
        have hga : ∀ (k : Nat) (x : Int), (grpN n v.id)[k]? = some x → ∃ j w, n.vpcs[j]? = some w ∧ w.id = x ∧ vpcIx n x = some j ∧ headN n x = headN n v.id := fun k x h => grp_at hso.out h
        replace hK := Lib.hid hK
        replace hst := Lib.hid hst
        replace hgm := Lib.hid hgm
        replace hga := Lib.hid hga
        generalize grpN n v.id = G at *
        repeat' (first | (with_reducible refine And.intro ?_ ?_) | (with_reducible refine gK_i (fun _ => ?_) (fun _ => ?_)) | (with_reducible refine condS_i (fun _ => ?_) (fun _ => ?_)) | (with_reducible refine drw_i (by kernel_rfl)) | simp -dsimp only [go_sem, seval, *, encT, encV, hkI, hv, undef] | ((with_reducible refine opK_c ?_); simp -dsimp only [go_sem, seval, encT, encV, hkI, hv, undef]; first | refine callK_r (by first | assumption | exact hgp) (by first | exact .inl rfl | exact .inr rfl) ?_ | (refine callK_i (by assumption) ?_ ?_ ?_; (solve | (repeat (first | exact DLe.refl _ | exact DLe.nil _ | (refine DLe.tup ?_) | (refine DLe.agg ?_ rfl) | exact trivial | (refine And.intro ?_ ?_)))); (solve | exact .inl rfl | exact .inr rfl))) | fail | omega | exact decide_eq_true (by omega) | exact DLe.refl _)
        refine loopL tab_ok mixed G (fun j => ∀ w ∈ n.vpcs, w.id ∈ G.take j → w.id ≠ v.id → foeN n v w = false) (fun j => [(8, .d (.v (.int .i64 j))), (7, .d (.sl 1 (G.map encA))), (6, .d (.v (.int .i64 k))), (2, .d (.v (.int .i64 0))), (1, .ptr 0 0)]) (fun _ => [.box 25 ((encT n).map .d)]) (by simp) (weak_forget _ (by simp) (by (try simp only [encT]); rfl) (by (repeat' (first | exact trivial | (refine ⟨rfl, ?_⟩)))) (by first | rfl | simp only [belowH, belowE, belowC, belowL, belowR, belowP, belowL_d, belowR_d, List.length_cons, List.length_nil, Nat.reduceAdd, Nat.reduceLT, decide_true, Bool.and_self, Bool.and_true]) (by first | rfl | simp only [belowH, belowE, belowC, belowL, belowR, belowP, belowL_d, belowR_d, List.length_cons, List.length_nil, Nat.reduceAdd, Nat.reduceLT, decide_true, Bool.and_self, Bool.and_true])) ?_ ?_
        · intro j x hx hj hL C2 hC2
          have hjI : (j : Int) < (G.length : Int) := by omega
          have hwj : IntKind.i64.wrap ((j : Int) + 1) = ((j + 1 : Nat) : Int) := by rw [IntKind.wrap_i64]; omega
          obtain ⟨q, w, hw, hwx, hqx, hhx⟩ := hga.out j x hx
          have hL2 : (x ≠ v.id → foeN n v w = false) → ∀ w ∈ n.vpcs, w.id ∈ G.take (j + 1) → w.id ≠ v.id → foeN n v w = false := fun h u hu hug hne => by
            rw [take_snoc hx] at hug
            rcases List.mem_append.1 hug with hug | hug
            · exact hL u hu hug hne
            · have e1 : u.id = x := List.mem_singleton.1 hug
              obtain ⟨p, hp⟩ := List.mem_iff_getElem?.1 hu
              have e2 := vpcIx_at hso.out hp
              rw [e1, hqx] at e2
              cases e2
              rw [hw] at hp
              cases hp
              exact h (by rw [← e1]; exact hne)
          by_cases hxv : x = v.id
          · have e1 : (x != v.id) = false := by simpa using hxv
            have hn := hL2 fun h => absurd hxv h
            clear hL2 hL
            replace hn := Lib.hid hn
            replace hxv := Lib.hid hxv
            replace hwx := Lib.hid hwx
            repeat' (first | (with_reducible refine And.intro ?_ ?_) | (with_reducible refine gK_i (fun _ => ?_) (fun _ => ?_)) | (with_reducible refine condS_i (fun _ => ?_) (fun _ => ?_)) | (with_reducible refine drw_i (by kernel_rfl)) | simp -dsimp only [go_sem, seval, *, encT, encV, encA, hkI, hjI, hwj, hv, hx, e1, undef] | ((with_reducible refine opK_c ?_); simp -dsimp only [go_sem, seval, encT, encV, encA, hkI, hjI, hwj, hv, hx, e1, undef]; first | refine callK_r (by first | assumption | fail) (by first | exact .inl rfl | exact .inr rfl) ?_ | (refine callK_i (by assumption) ?_ ?_ ?_; (solve | (repeat (first | exact DLe.refl _ | exact DLe.nil _ | (refine DLe.tup ?_) | (refine DLe.agg ?_ rfl) | exact trivial | (refine And.intro ?_ ?_)))); (solve | exact .inl rfl | exact .inr rfl))) | fail | omega | exact decide_eq_true (by omega) | exact DLe.refl _)
            exact hC2 _ _ hn.out (weak_forget _ (by simp) (by (try simp only [encT]); rfl) (by (repeat' (first | exact trivial | (refine ⟨rfl, ?_⟩)))) (by first | rfl | simp only [belowH, belowE, belowC, belowL, belowR, belowP, belowL_d, belowR_d, List.length_cons, List.length_nil, Nat.reduceAdd, Nat.reduceLT, decide_true, Bool.and_self, Bool.and_true]) (by first | rfl | simp only [belowH, belowE, belowC, belowL, belowR, belowP, belowL_d, belowR_d, List.length_cons, List.length_nil, Nat.reduceAdd, Nat.reduceLT, decide_true, Bool.and_self, Bool.and_true]))
          · have e1 : (x != v.id) = true := by simpa using hxv
            have hat := vpcAt_p n x (by omega)
            rw [vpcAt_ix, hqx] at hat
            simp only at hat
            have hrv := (vpcOK_of (hI.out.1 v (List.mem_of_getElem? hv))).n4
            have hrw := (vpcOK_of (hI.out.1 w (List.mem_of_getElem? hw))).n4
            have hcl := clashR_p v w (by omega) (by omega)
            have hq0 : (0 : Int) ≤ (q : Int) := by omega
            have hql : (q : Int) < (n.vpcs.length : Int) := by have := (List.getElem?_eq_some_iff.1 hw).1; omega
            have hfe : foeN n v w = clashV v w := by unfold foeN; rw [hwx, hhx]; simp
            have hkq : k ≠ q := fun e => by subst e; rw [hv] at hw; cases hw; exact hxv hwx.symm
            clear hrv hrw
            replace hwx := Lib.hid hwx
            replace hkq := Lib.hid hkq
            replace hqx := Lib.hid hqx
            replace hhx := Lib.hid hhx
            replace hL := Lib.hid hL
            cases b : clashV v w with
            | true =>
              have hr : R = 1 := by
                rw [hR.out]
                exact chkT_one hno (.inr (.inr (.inr (peace_war hkq.out hv hw (by rw [hfe]; exact b)))))
              rw [b] at hcl
              rw [hr]
              clear hr hL2 hfe b
              replace hxv := Lib.hid hxv
              repeat' (first | (with_reducible refine And.intro ?_ ?_) | (with_reducible refine gK_i (fun _ => ?_) (fun _ => ?_)) | (with_reducible refine condS_i (fun _ => ?_) (fun _ => ?_)) | (with_reducible refine drw_i (by kernel_rfl)) | simp -dsimp only [go_sem, seval, *, encT, encV, encA, hkI, hjI, hwj, hv, hx, hw, e1, hq0, hql, undef] | ((with_reducible refine opK_c ?_); simp -dsimp only [go_sem, seval, encT, encV, encA, hkI, hjI, hwj, hv, hx, hw, e1, hq0, hql, undef]; first | refine callK_r (by first | assumption | exact hat | exact hcl) (by first | exact .inl rfl | exact .inr rfl) ?_ | (refine callK_i (by assumption) ?_ ?_ ?_; (solve | (repeat (first | exact DLe.refl _ | exact DLe.nil _ | (refine DLe.tup ?_) | (refine DLe.agg ?_ rfl) | exact trivial | (refine And.intro ?_ ?_)))); (solve | exact .inl rfl | exact .inr rfl))) | fail | omega | exact decide_eq_true (by omega) | exact DLe.refl _)
              all_goals exact DLe.refl _
            | false =>
              have hn := hL2 fun _ => by rw [hfe]; exact b
              rw [b] at hcl
              clear hL2 hfe b
              replace hn := Lib.hid hn
              replace hxv := Lib.hid hxv
              repeat' (first | (with_reducible refine And.intro ?_ ?_) | (with_reducible refine gK_i (fun _ => ?_) (fun _ => ?_)) | (with_reducible refine condS_i (fun _ => ?_) (fun _ => ?_)) | (with_reducible refine drw_i (by kernel_rfl)) | simp -dsimp only [go_sem, seval, *, encT, encV, encA, hkI, hjI, hwj, hv, hx, hw, e1, hq0, hql, undef] | ((with_reducible refine opK_c ?_); simp -dsimp only [go_sem, seval, encT, encV, encA, hkI, hjI, hwj, hv, hx, hw, e1, hq0, hql, undef]; first | refine callK_r (by first | assumption | exact hat | exact hcl) (by first | exact .inl rfl | exact .inr rfl) ?_ | (refine callK_i (by assumption) ?_ ?_ ?_; (solve | (repeat (first | exact DLe.refl _ | exact DLe.nil _ | (refine DLe.tup ?_) | (refine DLe.agg ?_ rfl) | exact trivial | (refine And.intro ?_ ?_)))); (solve | exact .inl rfl | exact .inr rfl))) | fail | omega | exact decide_eq_true (by omega) | exact DLe.refl _)
              exact hC2 _ _ hn.out (weak_forget _ (by simp) (by (try simp only [encT]); rfl) (by (repeat' (first | exact trivial | (refine ⟨rfl, ?_⟩)))) (by first | rfl | simp only [belowH, belowE, belowC, belowL, belowR, belowP, belowL_d, belowR_d, List.length_cons, List.length_nil, Nat.reduceAdd, Nat.reduceLT, decide_true, Bool.and_self, Bool.and_true]) (by first | rfl | simp only [belowH, belowE, belowC, belowL, belowR, belowP, belowL_d, belowR_d, List.length_cons, List.length_nil, Nat.reduceAdd, Nat.reduceLT, decide_true, Bool.and_self, Bool.and_true]))
        · intro hL C2
          rw [List.take_length] at hL
          have hn := hst.out fun w hw hne => by
            by_cases hh : headN n w.id = headN n v.id
            · exact hL w hw (hgm.out w hw hh) hne
            · unfold foeN
              have : (headN n v.id == headN n w.id) = false := by simpa using fun e => hh e.symm
              rw [this]; rfl
          replace hL := Lib.hid hL
          replace hn := Lib.hid hn
          repeat' (first | (with_reducible refine And.intro ?_ ?_) | (with_reducible refine gK_i (fun _ => ?_) (fun _ => ?_)) | (with_reducible refine condS_i (fun _ => ?_) (fun _ => ?_)) | (with_reducible refine drw_i (by kernel_rfl)) | simp -dsimp only [go_sem, seval, *, encT, hwr, Int.lt_irrefl, undef] | ((with_reducible refine opK_c ?_); simp -dsimp only [go_sem, seval, encT, hwr, Int.lt_irrefl, undef]; first | refine callK_r (by first | assumption | fail) (by first | exact .inl rfl | exact .inr rfl) ?_ | (refine callK_i (by assumption) ?_ ?_ ?_; (solve | (repeat (first | exact DLe.refl _ | exact DLe.nil _ | (refine DLe.tup ?_) | (refine DLe.agg ?_ rfl) | exact trivial | (refine And.intro ?_ ?_)))); (solve | exact .inl rfl | exact .inr rfl))) | fail | omega | exact decide_eq_true (by omega) | exact DLe.refl _)
          exact hC _ _ hn.out (weak_forget _ (by simp) (by (try simp only [encT]); rfl) (by (repeat' (first | exact trivial | (refine ⟨rfl, ?_⟩)))) (by first | rfl | simp only [belowH, belowE, belowC, belowL, belowR, belowP, belowL_d, belowR_d, List.length_cons, List.length_nil, Nat.reduceAdd, Nat.reduceLT, decide_true, Bool.and_self, Bool.and_true]) (by first | rfl | simp only [belowH, belowE, belowC, belowL, belowR, belowP, belowL_d, belowR_d, List.length_cons, List.length_nil, Nat.reduceAdd, Nat.reduceLT, decide_true, Bool.and_self, Bool.and_true]))
      · intro hK C
        rw [List.take_length] at hK
        have hr : R = 0 := by
          rw [hR.out]
          refine chkT_zero hno hvB.out (by rw [List.all_eq_true]; exact hJ.out.1) hJ.out.2 (peace_good fun i v w hv hw => ?_)
          exact hK v (List.mem_of_getElem? hv) w (List.mem_of_mem_take hw) (rise_ne hso.out hv hw)
        rw [hr]
        replace hr := Lib.hid hr
        replace hK := Lib.hid hK
        repeat' (first | (with_reducible refine And.intro ?_ ?_) | (with_reducible refine gK_i (fun _ => ?_) (fun _ => ?_)) | (with_reducible refine condS_i (fun _ => ?_) (fun _ => ?_)) | (with_reducible refine drw_i (by kernel_rfl)) | simp -dsimp only [go_sem, seval, *, encT, Int.lt_irrefl, undef] | ((with_reducible refine opK_c ?_); simp -dsimp only [go_sem, seval, encT, Int.lt_irrefl, undef]; first | refine callK_r (by first | assumption | fail) (by first | exact .inl rfl | exact .inr rfl) ?_ | (refine callK_i (by assumption) ?_ ?_ ?_; (solve | (repeat (first | exact DLe.refl _ | exact DLe.nil _ | (refine DLe.tup ?_) | (refine DLe.agg ?_ rfl) | exact trivial | (refine And.intro ?_ ?_)))); (solve | exact .inl rfl | exact .inr rfl))) | fail | omega | exact decide_eq_true (by omega) | exact DLe.refl _)
        all_goals exact DLe.refl _
end Go.Proofs.YtgmbhaclogabeaaGreat
namespace Go.Proofs.YtgmbhaclogabeaaGreat
open Go Go.RowKit Go.Proofs Go.Shelf
set_option maxRecDepth 100000
theorem cl_Vpc (x y : SRow HP0 3) (W : World) : Calls Tryz.prog 27 #[.agg x.xs.toArray, .agg y.xs.toArray] W fun e w' => e = .returned (.int .i64 (cfS x y)) ∧ ∃ q os', w' = Sort.grow (W.drewN q) os' := by
  obtain ⟨xs, xl, x1, a, xh⟩ := x
  obtain ⟨ys, yl, y1, b, yh⟩ := y
  match xs, xl, ys, yl with
  | [u0, u1, u2], _, [v0, v1, v2], _ =>
    simp [HP0] at xh yh
    subst xh
    subst yh
    have hc := compare_any a b
    unfold cfS
    simp only
    generalize cmpI a b = r at *
    replace hc := Lib.hid hc
    clear x1 y1
    go_enter Tryz.func27, Tryz.ntmps27
    go_wp2_with fail
    refine (hc.out _).mono ?_
    rintro e w1 ⟨rfl, rfl⟩
    go_wp2_with fail
    go_ret
    exact ⟨ret_int rfl, 0, _, by rw [Sort.alloc_eq_grow, Sort.alloc_eq_grow, Sort.grow_grow]; rfl⟩
theorem sort_Vpc {l l' : List Vpc} (g : Nat) (hl0 : l ≠ []) (hp : l'.Perm l) (hs : l'.Pairwise fun x y => (fun v : Vpc => v.id) x < (fun v : Vpc => v.id) y) (hsz : l.length ≤ 1000000) :
    MSpec Tryz.prog 26 [.own 0 g, .d (.clo 27 [])] [.row 56 3 g (dRows (l.map encV))] (.d (.tup [])) [.row 56 3 g (dRows (l'.map encV))] :=
  sort_ms Tryz.sortVpc rfl (fnok_of Tryz.func26 (by kernel_rfl) rfl) Tryz.isAgg56 Tryz.sizeOf56 (enters_of Tryz.func27 (by kernel_rfl) rfl) cl_Vpc encV (fun v : Vpc => v.id) (fun _ => rfl) hl0 hp hs hsz
end Go.Proofs.YtgmbhaclogabeaaGreat
namespace Go.Proofs.YtgmbhaclogabeaaGreat
open Go Go.RowKit
structure GwB where
  n : Nat
  os : Array Obj
def EG (w w' : World) : Prop := ∃ p : GwB, w' = Sort.grow (w.drewN p.n) p.os
theorem EG.refl (w : World) : EG w w := ⟨⟨0, #[]⟩, by rw [Sort.grow_empty]; rfl⟩
theorem EG.trans {w w' w'' : World} (h : EG w w') (g : EG w' w'') : EG w w'' := by
  obtain ⟨⟨n, os⟩, rfl⟩ := h
  obtain ⟨⟨m, os'⟩, rfl⟩ := g
  exact ⟨⟨n + m, os ++ os'⟩, by show Sort.grow (Sort.grow ((w.drewN n).drewN m) os) os' = _; rw [Sort.grow_grow, World.drewN_drewN]⟩
theorem EG.drew (w : World) : EG w w.drew := ⟨⟨1, #[]⟩, by rw [Sort.grow_empty]; rfl⟩
theorem EG.alloc (w : World) (o : Obj) : EG w (w.alloc o) := ⟨⟨0, #[o]⟩, Sort.alloc_eq_grow w o⟩
theorem EG.ext {w w' : World} (h : EG w w') : Ext w w' := by
  obtain ⟨⟨n, os⟩, rfl⟩ := h
  exact ⟨rfl, rfl, rfl, by simp [Sort.grow], fun k hk => by simp [Sort.grow, Array.getElem?_append, hk]⟩
def qPostG (W : World) (R : Value → Prop) (e : Ending) (w' : World) : Prop := (∃ u, e = .returned u ∧ R u) ∧ EG W w'
def qUpG (P : Program) (W w : World) (R : Value → Prop) : Result Next → Prop
  | .ok (.value u) w' => w' = w ∧ R u
  | .ok .skip w' => w' = w ∧ R undef
  | .ok (.enter f args) w' => w' = w ∧ Calls P f args w (qPostG W R)
  | _ => False
attribute [go_sem] qUpG
section
variable {P : Program} {W : World}
theorem qUp_quietG {w : World} {v : Value} {r : Result Next} (h : ∀ R : Value → Prop, R v → qUpG P W w R r) : Oper.quietUpon P (EG W) w v r := by
  have h1 := h (· = v) rfl
  unfold qUpG at h1
  unfold Oper.quietUpon
  split at h1
  · exact h1
  · exact ⟨h1.1, h1.2.symm⟩
  · refine ⟨h1.1, h1.2.mono ?_⟩
    rintro e w' ⟨⟨u, rfl, rfl⟩, hw⟩
    exact ⟨rfl, hw⟩
  · exact h1.elim
end
section
variable {P : Program} {ops : Array Oper} {Q : Exit → Act → World → Prop}
/-- Whatever order is picked, from every world that extends W. -/
def GOG (P : Program) (ops : Array Oper) (Q : Exit → Act → World → Prop) : Nat → Array Bool → Act → World → Prop
  | 0, listed, a, W => Region.ready .any ops listed = [] ∧ ∀ w, EG W w → Q .normal a w
  | fuel + 1, listed, a, W => ∀ w, EG W w → (Region.ready .any ops listed = [] → Q .normal a w) ∧
      ∀ i ∈ Region.ready .any ops listed, wpOp P ops Q i (fun a' w' => EG w w' ∧ GOG P ops Q fuel (listed.setIfInBounds i true) a' w') a w
theorem GOG.world : ∀ {fuel : Nat} {listed : Array Bool} {a : Act} {W W' : World}, EG W W' → GOG P ops Q fuel listed a W → GOG P ops Q fuel listed a W'
  | 0, _, _, _, _, hx, h => ⟨h.1, fun w hw => h.2 w (EG.trans hx hw)⟩
  | _ + 1, _, _, _, _, hx, h => fun w hw => h w (EG.trans hx hw)
theorem GOG.any : ∀ {fuel : Nat} {listed : Array Bool} {a : Act} {W : World}, GOG P ops Q fuel listed a W → wpAny P .any ops Q fuel listed a W
  | 0, _, _, _, h => ⟨h.1, h.2 _ (EG.refl _)⟩
  | _ + 1, _, _, W, h => ⟨(h W (EG.refl _)).1, fun i hi => wpOp_mono (fun _ _ h' => GOG.any h'.2) ((h W (EG.refl _)).2 i hi)⟩
/-- In every world that extends W operation o yields v, and at most extends it. -/
def QYG (P : Program) (ops : Array Oper) (W : World) (o : Oper) (v : Value) (a : Act) : Prop :=
  (Region.wanted o (yielded ops a.tmps) = true ∧ ∀ w, EG W w → o.quietAt P a (EG w) w v) ∨
  (Region.wanted o (yielded ops a.tmps) = false ∧ v = undef)
theorem QYG.world {W W' : World} {o : Oper} {v : Value} {a : Act} (hx : EG W W') (h : QYG P ops W o v a) : QYG P ops W' o v a :=
  h.imp (fun ⟨h1, h2⟩ => ⟨h1, fun w hw => h2 w (EG.trans hx hw)⟩) id
theorem QYG.of_same {W : World} {o : Oper} {v : Value} {a a' : Act} (hy : QYG P ops W o v a) (he : execOp a'.eval o = execOp a.eval o)
    (hw : Region.wanted o (yielded ops a'.tmps) = Region.wanted o (yielded ops a.tmps)) : QYG P ops W o v a' := by
  unfold QYG Oper.quietAt at *
  rw [he, hw]
  exact hy
theorem QYG.wpOp {W : World} {i : Nat} {o : Oper} {v : Value} {a : Act} (hi : ops[i]? = some o) (hy : QYG P ops W o v a) {K : Act → World → Prop} {w : World} (hw : EG W w) (h : ∀ w', EG w w' → K (a.put o.dst v) w') : wpOp P ops Q i K a w := by
  unfold Go.wpOp
  simp only [hi]
  rcases hy with ⟨hwa, hv⟩ | ⟨hwa, rfl⟩
  · simp only [hwa, if_true]
    left
    exact Oper.wp_of_quiet (C := EG w) (K := fun a' => a' = a.put o.dst v) (EG.refl _) (fun a' w' hw' ha => ha ▸ h w' hw') ⟨v, fun w'' hw'' => by
      have := hv w'' (EG.trans hw hw'')
      unfold Oper.quietAt at *
      generalize (execOp a.eval o).run P w'' = r at *
      cases r with
      | ok n u => cases n <;> simp only [Oper.quietUpon] at this ⊢ <;> first | exact this | exact ⟨this.1, this.2.mono fun _ _ ⟨e1, e2⟩ => ⟨e1, EG.trans hw'' e2⟩⟩
      | halt x u => simp only [Oper.quietUpon] at this, rfl⟩
  · simp only [hwa, Bool.false_eq_true, if_false]
    exact h w (EG.refl _)
theorem wpOp_putQG {W : World} {j : Nat} {oi oj : Oper} {v : Value} (hj : ops[j]? = some oj) (hap : oi.apart ops oj = true)
    (hsi : ∀ cs b, oi.op ≠ .select cs b) (hsj : ∀ cs b, oj.op ≠ .select cs b)
    (hQ : ∀ c a w, Q (.panic c) (a.put oi.dst v) w → Q (.panic c) a w) {K : Act → World → Prop} {a : Act} {w : World}
    (hy : QYG P ops W oi v a) (h : wpOp P ops Q j K (a.put oi.dst v) w) :
    wpOp P ops Q j (fun a' w' => QYG P ops W oi v a' ∧ K (a'.put oi.dst v) w') a w := by
  obtain ⟨h1, h2, h3⟩ := Oper.apart_spec hap
  have keep : ∀ (a : Act), QYG P ops W oi v a → ∀ u, QYG P ops W oi v (a.put oj.dst u) := fun a hy u =>
    hy.of_same (execOp_put oi hsi a oj.dst u h3) (wanted_put oi a oj.dst u h3)
  have keepD : ∀ d, QYG P ops W oi v { a with defers := d :: a.defers } := fun d => hy.of_same rfl rfl
  unfold wpOp at *
  simp only [hj] at *
  rw [wanted_put oj a oi.dst v h1] at h
  split
  · rename_i hw
    simp only [hw, if_true] at h
    rcases h with h | ⟨hasks, hlets⟩
    case inr => exact .inr ⟨by unfold Oper.asks at *; rw [execOp_put oj hsj a oi.dst v h1] at hasks; exact hasks, hlets⟩
    refine .inl ?_
    unfold Oper.wp at *
    rw [execOp_put oj hsj a oi.dst v h1] at h
    generalize (execOp a.eval oj).run P w = r at *
    cases r with
    | ok n w' =>
      cases n <;> simp only [Oper.upon] at h ⊢
      case value u => exact ⟨keep a hy u, by rw [← Act.put_comm a v u h2]; exact h⟩
      case skip => exact ⟨keep a hy _, by rw [← Act.put_comm a v undef h2]; exact h⟩
      case defer d =>
        refine ⟨keep _ (keepD d) _, ?_⟩
        rw [← Act.put_comm _ v undef h2, ← Act.put_defers]
        exact h
      case enter f args =>
        refine Calls.mono h fun e w'' he => ?_
        cases e with
        | returned u => exact ⟨keep a hy u, by rw [← Act.put_comm a v u h2]; exact he⟩
        | panicked c => exact hQ _ _ _ he
        | outgrown => exact he
      case row row args => exact Rows.mono h fun u w'' he => ⟨keep a hy u, by rw [← Act.put_comm a v u h2]; exact he⟩
    | halt x w' =>
      cases x <;> simp only [Oper.upon] at h ⊢
      case panic u => exact hQ _ _ _ h
  · rename_i hw
    simp only [hw] at h
    exact ⟨keep a hy _, by rw [← Act.put_comm a v undef h2]; exact h⟩
theorem GO_firstG {i : Nat} {oi : Oper} {v : Value} (hi : ops[i]? = some oi) (hsel : ∀ (j : Nat) (o : Oper) cs b, ops[j]? = some o → o.op ≠ .select cs b)
    (hQ : ∀ c a w, Q (.panic c) (a.put oi.dst v) w → Q (.panic c) a w) :
    ∀ (fuel : Nat) (listed : Array Bool) (a : Act) (W : World),
      (∀ j oj, ops[j]? = some oj → j ≠ i → listed.getD j true = false → (∀ e ∈ oj.after, Region.binds .any e = true → e.on ≠ i) → oi.apart ops oj = true) →
      i ∈ Region.ready .any ops listed → QYG P ops W oi v a →
      GOG P ops Q fuel (listed.setIfInBounds i true) (a.put oi.dst v) W → GOG P ops Q (fuel + 1) listed a W := by
  intro fuel
  induction fuel with
  | zero =>
    intro listed a W _ hr hy H w hw
    refine ⟨fun h => (by rw [h] at hr; cases hr), fun j hj => ?_⟩
    by_cases hji : j = i
    · subst hji; exact hy.wpOp hi hw fun w' hw' => ⟨hw', H.world (EG.trans hw hw')⟩
    · have := ready_mono hj hji
      rw [H.1] at this
      cases this
  | succ fuel ih =>
    intro listed a W hfree hr hy H w hw
    refine ⟨fun h => (by rw [h] at hr; cases hr), fun j hj => ?_⟩
    by_cases hji : j = i
    · subst hji; exact hy.wpOp hi hw fun w' hw' => ⟨hw', H.world (EG.trans hw hw')⟩
    · have h1 := (H w hw).2 j (ready_mono hj hji)
      obtain ⟨hjun, oj, hoj, hall⟩ := mem_ready.1 hj
      have hnot : ∀ e ∈ oj.after, Region.binds .any e = true → e.on ≠ i := fun e he hb heq => by
        have h1 := hall e he hb
        have h0 := (mem_ready.1 hr).1
        rw [heq] at h1
        rcases Nat.lt_or_ge i listed.size with h' | h'
        · simp [h'] at h0 h1; rw [h0] at h1; cases h1
        · simp [Array.getElem?_eq_none h'] at h1
      have h2 := wpOp_putQG hoj (hfree j oj hoj hji hjun hnot) (fun cs b => hsel i oi cs b hi) (fun cs b => hsel j oj cs b hoj) hQ (hy.world hw) h1
      have hfree' : ∀ k ok, ops[k]? = some ok → k ≠ i → (listed.setIfInBounds j true).getD k true = false →
          (∀ e ∈ ok.after, Region.binds .any e = true → e.on ≠ i) → oi.apart ops ok = true := fun k ok hk hki hun hno => by
        refine hfree k ok hk hki ?_ hno
        by_cases hjk : j = k
        · subst hjk; exact hjun
        · rw [getD_set_ne true hjk] at hun; exact hun
      refine wpOp_mono (fun a' w' h3 => ⟨h3.2.1, ih (listed.setIfInBounds j true) a' w' hfree' (ready_mono hr (Ne.symm hji)) (h3.1.world h3.2.1) ?_⟩) h2
      rw [Array.setIfInBounds_comm _ _ hji]
      exact h3.2.2
/-- The walk in the order of the text. -/
def wpMixG (P : Program) (ops : Array Oper) (Q : Exit → Act → World → Prop) : List Oper → Nat → Array Bool → Act → World → Prop
  | [], _, _, a, W => ∀ w, EG W w → Q .normal a w
  | o :: rest, k, listed, a, W =>
    (∃ v, QYG P ops W o v a ∧ wpMixG P ops Q rest (k + 1) (listed.setIfInBounds k true) (a.put o.dst v) W) ∨
    (Region.ready .any ops listed = [k] ∧ Region.wanted o (yielded ops a.tmps) = true ∧ ∀ w, EG W w → o.wp P a w (fun a' w' => EG w w' ∧ wpMixG P ops Q rest (k + 1) (listed.setIfInBounds k true) a' w') Q)
theorem mix_soundG (hs : Region.noSelect ops = true) (hQ : ∀ c a d v w, Q (.panic c) (a.put d v) w → Q (.panic c) a w) : ∀ (l : List Oper) (k : Nat) (listed : Array Bool) (a : Act) (W : World), (∀ j, l[j]? = ops[k + j]?) →
    Region.lexFrom .any ops l.length k listed = true → wpMixG P ops Q l k listed a W → GOG P ops Q l.length listed a W
  | [], _, _, _, _, _, hB, h => ⟨by simpa [Region.lexFrom] using hB, h⟩
  | o :: l, k, listed, a, W, hl, hB, h => by
    have h0 : ops[k]? = some o := by simpa using (hl 0).symm
    simp only [List.length_cons, Region.lexFrom, Bool.and_eq_true] at hB
    obtain ⟨⟨hr, hf⟩, hB'⟩ := hB
    have hl' : ∀ j, l[j]? = ops[k + 1 + j]? := fun j => by have := hl (j + 1); simpa [Nat.add_assoc, Nat.add_comm 1 j] using this
    rcases h with ⟨v, hy, hK⟩ | ⟨hone, hwa, hK⟩
    · exact GO_firstG h0 (Region.noSelect_spec hs) (fun c a w => hQ c a _ _ w) l.length listed a W (Region.free_spec h0 hf) (by simpa using hr) hy (mix_soundG hs hQ l (k + 1) _ _ _ hl' hB' hK)
    · intro w hw
      refine ⟨fun h => by rw [hone] at h; simp at h, fun i hi => ?_⟩
      rw [hone] at hi
      obtain rfl : i = k := by simpa using hi
      unfold wpOp
      simp only [h0, hwa, if_true]
      left
      exact Oper.wp_mono (fun a' w' h' => ⟨h'.1, mix_soundG hs hQ l (i + 1) _ _ _ hl' hB' h'.2⟩) (hK w hw)
theorem region_mixG {id : Nat} {a : Act} {w : World} {l : List Oper} (hm : P.follows .mixedOrders = true) (hB : Region.lexB .any l.toArray = true) (hQ : ∀ c a d v w, Q (.panic c) (a.put d v) w → Q (.panic c) a w)
    (h : wpMixG P l.toArray Q l 0 (Array.replicate l.length false) a w) : (Code.region id l.toArray true).wp P Q a w := by
  simp only [Region.lexB, Bool.and_eq_true] at hB
  refine wp_region_any hm ?_
  have h2 := mix_soundG hB.1 hQ l 0 (Array.replicate l.length false) a w (by simp) (by simpa using hB.2) h
  have h3 := (h2.world (EG.drew w : EG w w.drew)).any
  simpa using h3
section
variable {o : Oper} {rest : List Oper} {k : Nat} {listed : Array Bool} {a : Act} {W : World}
theorem mix_nilG (h : ∀ w, EG W w → Q .normal a w) : wpMixG P ops Q [] k listed a W := h
theorem mix_takeG {v : Value} (hw : Region.wanted o (yielded ops a.tmps) = true) (h : ∀ w, EG W w → ∀ R : Value → Prop, R v → qUpG P w w R ((execOp a.eval o).run P w))
    (hn : wpMixG P ops Q rest (k + 1) (listed.setIfInBounds k true) (a.put o.dst v) W) : wpMixG P ops Q (o :: rest) k listed a W :=
  .inl ⟨v, .inl ⟨hw, fun w hw => qUp_quietG (h w hw)⟩, hn⟩
theorem mix_aloneG (hr : Region.ready .any ops listed = [k]) (hw : Region.wanted o (yielded ops a.tmps) = true)
    (h : ∀ w, EG W w → ∀ K : Act → World → Prop, (∀ a' w', EG w w' → wpMixG P ops Q rest (k + 1) (listed.setIfInBounds k true) a' w' → K a' w') → o.wp P a w K Q) : wpMixG P ops Q (o :: rest) k listed a W :=
  .inr ⟨hr, hw, fun w hw => h w hw _ fun _ _ h1 h2 => ⟨h1, h2⟩⟩
end
theorem mcall_sameG {f : FuncId} {args : Array Value} {w : World} {R : Value → Prop} {v : Value} (h : Calls P f args w fun e w' => e = .returned v ∧ w = w') (hR : R v) : Calls P f args w (qPostG w R) :=
  h.mono fun _ _ ⟨he, hx⟩ => ⟨⟨v, he, hR⟩, hx ▸ EG.refl _⟩
end
end Go.Proofs.YtgmbhaclogabeaaGreat
namespace Go.Proofs.YtgmbhaclogabeaaGreat
open Go Go.RowKit Go.Proofs Go.Shelf
set_option maxRecDepth 100000
/-- A link's key. -/
def lkey (l : Lnk) : Int := l.a * 65537 + l.b
/-- A link's cells, and its key. -/
def HP2 (xs : List Value) (k : Int) : Prop := ∃ a b : Int, xs = [.int .i64 a, .int .i64 b] ∧ k = a * 65537 + b ∧ 1 ≤ b ∧ b ≤ 65536
@[reducible] def srow2_inh : Inhabited (SRow HP2 (1 + 1)) := ⟨⟨[.int .i64 0, .int .i64 1], rfl, fun v hv => by simp at hv; rcases hv with rfl | rfl <;> rfl, 1, 0, 1, rfl, by omega, by omega, by omega⟩⟩
theorem cmpI_two {a b c d : Int} (h1 : 1 ≤ b) (h2 : b ≤ 65536) (h3 : 1 ≤ d) (h4 : d ≤ 65536) : orI [cmpI a c, cmpI b d] = cmpI (a * 65537 + b) (c * 65537 + d) := by
  simp only [orI, cmpI]
  repeat' split
  all_goals omega
/-- cmp.Or of two. -/
theorem or2_any (x y : Int) (b : Nat) (W : World) (hx : W.cell? ⟨b, 0, none⟩ = some (.int .i64 x)) (hy : W.cell? ⟨b, 1, none⟩ = some (.int .i64 y)) :
    Calls Tryz.prog 76 #[.slice (some ⟨b, 0, none⟩) 2 2] W fun e w' => e = .returned (.int .i64 (orI [x, y])) ∧ w' = W := by
  have lb := lt_of_cell hx
  go_enter Tryz.func76, Tryz.ntmps76
  go_wp2_with fail
  go_loopw [5, 8] (fun _ s8 wr => ∃ k : Nat, s8 = .int .i64 k ∧ ((k = 0) ∨ (k = 1 ∧ x = 0) ∨ (k = 2 ∧ x = 0 ∧ y = 0)) ∧ wr = W) (fun _ s8 _ => 2 - (intOf s8).toNat)
  case atStart => exact ⟨0, rfl, .inl rfl, rfl⟩
  case round =>
    obtain ⟨k, rfl, hk, rfl⟩ := hrel
    rcases hk with rfl | ⟨rfl, h0⟩ | ⟨rfl, h0, h1⟩
    · by_cases h0 : x = 0
      · have hb : (x != 0) = false := by simp [h0]
        replace h0 := Lib.hid h0
        go_wp2_with fail
        go_roundw
        case rel => exact ⟨1, by go_num, .inr (.inl ⟨rfl, h0.out⟩), trivial⟩
        case measure => simp [intOf]
      · have hb : (x != 0) = true := by simpa using h0
        replace h0 := Lib.hid h0
        go_wp2_with fail
        go_ret
        exact ⟨ret_int (by simp [orI, h0.out]), rfl⟩
    · by_cases h1 : y = 0
      · have hb : (y != 0) = false := by simp [h1]
        replace h0 := Lib.hid h0
        replace h1 := Lib.hid h1
        go_wp2_with fail
        go_roundw
        case rel => exact ⟨2, by go_num, .inr (.inr ⟨rfl, h0.out, h1.out⟩), trivial⟩
        case measure => simp [intOf]
      · have hb : (y != 0) = true := by simpa using h1
        replace h0 := Lib.hid h0
        replace h1 := Lib.hid h1
        go_wp2_with fail
        go_ret
        exact ⟨ret_int (by simp [orI, h0.out, h1.out]), rfl⟩
    · replace h0 := Lib.hid h0
      replace h1 := Lib.hid h1
      go_wp2_with fail
      go_ret
      exact ⟨ret_int (by simp [orI, h0.out, h1.out]), rfl⟩
set_option maxHeartbeats 1000000 in
theorem cl_Link (x y : SRow HP2 (1 + 1)) (W : World) : Calls Tryz.prog 38 #[.agg x.xs.toArray, .agg y.xs.toArray] W fun e w' => e = .returned (.int .i64 (cfS x y)) ∧ ∃ q os', w' = Sort.grow (W.drewN q) os' := by
  obtain ⟨xs, xl, x1, kx, a, b, rfl, rfl, hb1, hb2⟩ := x
  obtain ⟨ys, yl, y1, ky, c, d, rfl, rfl, hd1, hd2⟩ := y
  unfold cfS
  simp only
  rw [← cmpI_two hb1 hb2 hd1 hd2]
  have h1 : ∀ W, Calls Tryz.prog 28 #[.int .i64 a, .int .i64 c] W fun e w' => e = .returned (.int .i64 (cmpI a c)) ∧ W = w' := fun W => (compare_any a c W).mono fun _ _ ⟨e1, e2⟩ => ⟨e1, e2.symm⟩
  have h2 : ∀ W, Calls Tryz.prog 28 #[.int .i64 b, .int .i64 d] W fun e w' => e = .returned (.int .i64 (cmpI b d)) ∧ W = w' := fun W => (compare_any b d W).mono fun _ _ ⟨e1, e2⟩ => ⟨e1, e2.symm⟩
  generalize cmpI a c = A at *
  generalize cmpI b d = B at *
  clear x1 y1 xl yl hb1 hb2 hd1 hd2
  have key : Calls Tryz.prog 38 #[.agg #[.int .i64 a, .int .i64 b], .agg #[.int .i64 c, .int .i64 d]] W fun e w' => e = .returned (.int .i64 (orI [A, B])) ∧ EG W w' := by
    have hw0 : EG W ((W.alloc (.cells #[.int .i64 a, .int .i64 b] 68)).alloc (.cells #[.int .i64 c, .int .i64 d] 68)) := (EG.alloc W _).trans (EG.alloc _ _)
    go_enter Tryz.func38, Tryz.ntmps38
    go_wp2_with fail
    refine region_mixG (by kernel_rfl) (by kernel_rfl) (fun _ _ d _ _ h => by cases d <;> exact h) ?_
    repeat (apply mix_takeG; (first | exact want_0 rfl | exact want_b rfl rfl rfl (by with_reducible rfl)); intro wq hwq R hR; (have hwq := hwq.ext; (have hcc := (bcell hwq).1; (try simp only [World.size_alloc, World.size_setCell, World.size_drew, World.heap_drewN] at hcc)); go_simp; first | exact hR | (go_at_call 28; with_reducible (first | exact mcall_sameG (h1 _) hR | exact mcall_sameG (h2 _) hR))); simp only [Act.put, List.setIfInBounds_toArray, List.set_cons_zero, List.set_cons_succ])
    refine mix_aloneG (by kernel_rfl) (want_0 rfl) (fun w3 hw3 K2 hK => ?_)
    go_simp
    refine hK _ _ (EG.alloc _ _) ?_
    clear hK K2
    refine mix_aloneG (by kernel_rfl) (want_0 rfl) (fun w4 hw4 K3 hK => ?_)
    have hc0 : w4.cell? ⟨w3.heap.size, 0, none⟩ = some (.int .i64 A) := keepCell hw4.ext (by simp)
    have hc1 : w4.cell? ⟨w3.heap.size, 1, none⟩ = some (.int .i64 B) := keepCell hw4.ext (by simp)
    go_simp
    go_at_call 76
    refine (or2_any A B _ w4 hc0 hc1).mono ?_
    rintro e w5 ⟨rfl, rfl⟩
    go_simp
    refine hK _ _ (EG.refl _) ?_
    clear hK K3
    apply mix_takeG
    · exact want_0 rfl
    · intro wq hwq R hR
      go_simp
      exact hR
    simp only [Act.put, List.setIfInBounds_toArray, List.set_cons_zero, List.set_cons_succ]
    refine mix_nilG ?_
    intro w6 hw6
    trace_state
    go_wp2_with fail
    go_ret
    exact ⟨ret_int rfl, hw0.trans (hw3.trans ((EG.alloc _ _).trans (hw4.trans hw6)))⟩
  refine key.mono fun e w' ⟨he, ⟨⟨q, os⟩, hw⟩⟩ => ⟨he, q, os, hw⟩
theorem sort_Link {l l' : List Lnk} (g : Nat) (hb : ∀ x ∈ l, 1 ≤ x.b ∧ x.b ≤ 65536) (hl0 : l ≠ []) (hp : l'.Perm l) (hs : l'.Pairwise fun x y => lkey x < lkey y) (hsz : l.length ≤ 1000000) :
    MSpec Tryz.prog 42 [.own 0 g, .d (.clo 38 [])] [.row 68 2 g (dRows (l.map encK))] (.d (.tup [])) [.row 68 2 g (dRows (l'.map encK))] :=
  sort_hs srow2_inh Tryz.sortLink rfl (fnok_of Tryz.func42 (by kernel_rfl) rfl) Tryz.isAgg68 Tryz.sizeOf68 (enters_of Tryz.func38 (by kernel_rfl) rfl) cl_Link encK lkey (fun x hx vs hl hr => by
    match vs, hl with
    | [u, v], _ =>
      obtain ⟨M, w, r0⟩ := hr 0 _ u rfl rfl
      obtain ⟨M2, w2, r1⟩ := hr 1 _ v rfl rfl
      cases r0
      cases r1
      exact ⟨x.a, x.b, rfl, rfl, hb x hx⟩) hl0 hp hs hsz
end Go.Proofs.YtgmbhaclogabeaaGreat
