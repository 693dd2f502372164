/- NetGrows: its statement, for every input, out of its walk. (texts of this work, joined) -/
import Derived.Test.YtgmbhaclogabeaaGreatZHNetGrows5
import Derived.SizedLaws
import Derived.Test.YtgmbhaclogabeaaGreatRows
import Derived.WalkKit
import Derived.ProofKit
import Derived.OpenShut
import Derived.ShutString
import Derived.ChangeOld
import Derived.Below
set_option linter.unusedSimpArgs false
set_option linter.unusedVariables false
namespace Go.Proofs.YtgmbhaclogabeaaGreat
open Go Go.RowKit
def makeErr (n : Net) (id : Int) : Int := if idOK id = false then 3 else if (findN n id).isSome = true then 6 else if n.vpcs.length = 6 then 2 else 0
/-- Make's answer. -/
def makeN (n : Net) (id : Int) : Net × Int :=
  if chkT n ≠ 0 then (Net.zero, chkT n) else if makeErr n id ≠ 0 then (Net.zero, makeErr n id) else ({ n with vpcs := insK (·.id) ⟨id, [], []⟩ n.vpcs }, 0)
theorem findN_none {n : Net} {id : Int} (h : findN n id = none) : ∀ v ∈ n.vpcs, v.id ≠ id := fun v hv => by
  have := List.find?_eq_none.1 h v hv
  simpa using this
set_option maxRecDepth 100000 in
set_option maxHeartbeats 1000000 in
theorem nmake_p (n : Net) (id : Int) : PSpec Tryz.prog 7 [.agg (encT n), .v (.int .i64 id)] (.tup [.agg (encT (makeN n id).1), .v (.int .i64 (makeN n id).2)]) := by
  obtain ⟨R, hR⟩ : ∃ R, R = makeN n id := ⟨_, rfl⟩
  rw [← hR]
  replace hR := Lib.hid hR
  by_cases hc : chkT n = 0
  · have hok := netOK.1 hc
    have hbg := nbegin_m n hc
    have hl6 : ((n.vpcs.length : Int) == 6) = decide (n.vpcs.length = 6) := by rw [Bool.eq_iff_iff]; simp; omega
    cases hx : vpcIx n id with
    | some i =>
      obtain ⟨v, hv, he, hi, hfs⟩ := vpcIx_some hx
      have hfd := nfind_m n id n.vpcs.length 1 i v hv he hok.n6 hok.rise
      have hr : R = (Net.zero, if idOK id = false then 3 else 6) := by
        rw [hR.out]; unfold makeN makeErr; rw [if_neg (by simpa using hc), hfs]
        cases idOK id <;> simp
      rw [hr]
      have hid : idOK id = (decide (1 ≤ id) && decide (id ≤ 65536)) := rfl
      rw [hid]
      clear hr hR hok hx hc hfs hv he hid
      refine ps_i tab_ok mixed Tryz.func7 rfl Tryz.ntmps7 Tryz.results7 (by kernel_rfl) ?_
      repeat' (first | (with_reducible refine And.intro ?_ ?_) | (with_reducible refine gK_i (fun _ => ?_) (fun _ => ?_)) | (with_reducible refine condS_i (fun _ => ?_) (fun _ => ?_)) | (with_reducible refine drw_i (by kernel_rfl)) | simp -dsimp only [go_sem, seval, *, encT, undef] | ((with_reducible refine opK_c ?_); simp -dsimp only [go_sem, seval, encT, undef]; first | refine callK_r (by first | assumption | fail) (by first | exact .inl rfl | exact .inr rfl) ?_ | (refine callK_i (by assumption) ?_ ?_ ?_; (solve | (repeat (first | exact DLe.refl _ | exact DLe.nil _ | (refine DLe.tup ?_) | (refine DLe.agg ?_ rfl) | exact trivial | (refine And.intro ?_ ?_)))); (solve | exact .inl rfl | exact .inr rfl))) | (refine opK_M [] (hbg) ?_ ?_ ?_ ?_ ?_ ?_; (solve | rfl | simp only [go_sem, seval, encT]); (solve | rfl); (solve | decide); (solve | simp); (solve | simp only [go_sem, seval, lentOK, encT])) | (refine opK_M [4, 5, 3] (hfd) ?_ ?_ ?_ ?_ ?_ ?_; (solve | rfl | simp only [go_sem, seval, encT]); (solve | rfl); (solve | decide); (solve | simp); (solve | simp only [go_sem, seval, lentOK, encT])) | omega | exact decide_eq_true (by omega) | exact DLe.refl _)
      all_goals first
        | (exfalso; grind)
        | (rw [if_pos (by grind)]; exact (by repeat (first | exact DLe.refl _ | exact DLe.nil _ | (refine DLe.tup ?_) | (refine DLe.agg ?_ rfl) | exact trivial | (refine And.intro ?_ ?_))))
        | (rw [if_neg (by grind)]; exact (by repeat (first | exact DLe.refl _ | exact DLe.nil _ | (refine DLe.tup ?_) | (refine DLe.agg ?_ rfl) | exact trivial | (refine And.intro ?_ ?_))))
    | none =>
      have hfd := nfind0_m n id n.vpcs.length 1 (vpcIx_none hx) hok.n6 hok.rise
      have hn := vpcIx_none hx
      by_cases hbad : makeErr n id ≠ 0
      · have hr : R = (Net.zero, makeErr n id) := by rw [hR.out]; unfold makeN; rw [if_neg (by simpa using hc), if_pos hbad]
        have hme : makeErr n id = if idOK id = false then 3 else if n.vpcs.length = 6 then 2 else 0 := by unfold makeErr; rw [hn]; rfl
        rw [hr]
        have hid : idOK id = (decide (1 ≤ id) && decide (id ≤ 65536)) := rfl
        rw [hme] at hbad ⊢
        rw [hid] at hbad ⊢
        clear hr hR hok hx hc hid hn hme
        replace hbad := Lib.hid hbad
        refine ps_i tab_ok mixed Tryz.func7 rfl Tryz.ntmps7 Tryz.results7 (by kernel_rfl) ?_
        repeat' (first | (with_reducible refine And.intro ?_ ?_) | (with_reducible refine gK_i (fun _ => ?_) (fun _ => ?_)) | (with_reducible refine condS_i (fun _ => ?_) (fun _ => ?_)) | (with_reducible refine drw_i (by kernel_rfl)) | simp -dsimp only [go_sem, seval, *, encT, hl6, undef] | ((with_reducible refine opK_c ?_); simp -dsimp only [go_sem, seval, encT, hl6, undef]; first | refine callK_r (by first | assumption | fail) (by first | exact .inl rfl | exact .inr rfl) ?_ | (refine callK_i (by assumption) ?_ ?_ ?_; (solve | (repeat (first | exact DLe.refl _ | exact DLe.nil _ | (refine DLe.tup ?_) | (refine DLe.agg ?_ rfl) | exact trivial | (refine And.intro ?_ ?_)))); (solve | exact .inl rfl | exact .inr rfl))) | (refine opK_M [] (hbg) ?_ ?_ ?_ ?_ ?_ ?_; (solve | rfl | simp only [go_sem, seval, encT]); (solve | rfl); (solve | decide); (solve | simp); (solve | simp only [go_sem, seval, lentOK, encT])) | (refine opK_M [4, 5, 3] (hfd) ?_ ?_ ?_ ?_ ?_ ?_; (solve | rfl | simp only [go_sem, seval, encT]); (solve | rfl); (solve | decide); (solve | simp); (solve | simp only [go_sem, seval, lentOK, encT])) | omega | exact decide_eq_true (by omega) | exact DLe.refl _)
        all_goals have hb2 := hbad.out
        all_goals clear hbad hfd hbg
        all_goals first
          | (exfalso; grind)
          | (rw [if_pos (by grind)]; exact (by repeat (first | exact DLe.refl _ | exact DLe.nil _ | (refine DLe.tup ?_) | (refine DLe.agg ?_ rfl) | exact trivial | (refine And.intro ?_ ?_))))
          | (rw [if_neg (by grind), if_pos (by grind)]; exact (by repeat (first | exact DLe.refl _ | exact DLe.nil _ | (refine DLe.tup ?_) | (refine DLe.agg ?_ rfl) | exact trivial | (refine And.intro ?_ ?_))))
      · have hr : R = ({ n with vpcs := insK (·.id) ⟨id, [], []⟩ n.vpcs }, 0) := by rw [hR.out]; unfold makeN; rw [if_neg (by simpa using hc), if_neg hbad]
        have hg : makeErr n id = 0 := by simpa using hbad
        obtain ⟨g1, g2⟩ : idOK id = true ∧ n.vpcs.length ≠ 6 := by unfold makeErr at hg; rw [hn] at hg; grind
        have g3 : 1 ≤ id ∧ id ≤ 65536 := by simpa [idOK] using g1
        have h6 := hok.n6
        have hso := sort_Vpc (l := n.vpcs ++ [⟨id, [], []⟩]) (l' := insK (·.id) ⟨id, [], []⟩ n.vpcs) (n.vpcs.length + 1) (by simp) (insK_perm _ _ _) (insK_sorted hok.rise fun v hv => findN_none hn v hv) (by simp; omega)
        have hl4 : ((n.vpcs.length : Int) == 6) = false := by simp; omega
        have hb1 : n.vpcs.length + 1 ≤ 100 := by omega
        have hlo : decide (id < 1) = false := by simp; omega
        have hhi : decide (id > 65536) = false := by simp; omega
        simp only [List.map_append, List.map_cons, List.map_nil] at hso
        have hso := hso.leh (rles_mid (A := n.vpcs.map encV) (B := []) (r := [.v (.int .i64 id), .v (.slice none 0 0), .v (.slice none 0 0)]) (by repeat (first | exact DLe.refl _ | exact DLe.nil _ | (refine DLe.tup ?_) | (refine DLe.agg ?_ rfl) | exact trivial | (refine And.intro ?_ ?_)))) (by have := dRows_one2 (enc := encV) (fun _ => rfl) (n.vpcs ++ [⟨id, [], []⟩]); simpa using this) (belowR_d _ _)
        rw [hr]
        clear hr hR hok hx hc hn hbad hg g1 g2 g3
        refine ps_i tab_ok mixed Tryz.func7 rfl Tryz.ntmps7 Tryz.results7 (by kernel_rfl) ?_
        repeat' (first | (with_reducible refine And.intro ?_ ?_) | (with_reducible refine gK_i (fun _ => ?_) (fun _ => ?_)) | (with_reducible refine condS_i (fun _ => ?_) (fun _ => ?_)) | (with_reducible refine drw_i (by kernel_rfl)) | simp -dsimp only [go_sem, seval, *, encT, encV, hl4, hlo, hhi, hb1, undef] | ((with_reducible refine opK_c ?_); simp -dsimp only [go_sem, seval, encT, encV, hl4, hlo, hhi, hb1, undef]; first | refine callK_r (by first | assumption | fail) (by first | exact .inl rfl | exact .inr rfl) ?_ | (refine callK_i (by assumption) ?_ ?_ ?_; (solve | (repeat (first | exact DLe.refl _ | exact DLe.nil _ | (refine DLe.tup ?_) | (refine DLe.agg ?_ rfl) | exact trivial | (refine And.intro ?_ ?_)))); (solve | exact .inl rfl | exact .inr rfl))) | (refine opK_M [] (hbg) ?_ ?_ ?_ ?_ ?_ ?_; (solve | rfl | simp only [go_sem, seval, encT]); (solve | rfl); (solve | decide); (solve | simp); (solve | simp only [go_sem, seval, lentOK, encT])) | (refine opK_M [4, 5, 3] (hfd) ?_ ?_ ?_ ?_ ?_ ?_; (solve | rfl | simp only [go_sem, seval, encT]); (solve | rfl); (solve | decide); (solve | simp); (solve | simp only [go_sem, seval, lentOK, encT])) | (refine opK_M [5] (hso) ?_ ?_ ?_ ?_ ?_ ?_; (solve | rfl | simp only [go_sem, seval, encV]); (solve | rfl); (solve | decide); (solve | simp); (solve | simp only [go_sem, seval, lentOK, encV])) | omega | exact decide_eq_true (by omega) | exact DLe.refl _)
        all_goals exact (by repeat (first | exact DLe.refl _ | exact DLe.nil _ | (refine DLe.tup ?_) | (refine DLe.agg ?_ rfl) | exact trivial | (refine And.intro ?_ ?_)))
  · have hbg := nbeginE_m n hc
    have hfz := nfindz_p id
    have h1 : (chkT n != 0) = true := by simpa using hc
    have hr : R = (Net.zero, chkT n) := by rw [hR.out]; unfold makeN; rw [if_pos hc]
    rw [hr]
    replace hr := Lib.hid hr
    refine ps_i tab_ok mixed Tryz.func7 rfl Tryz.ntmps7 Tryz.results7 (by kernel_rfl) ?_
    repeat' (first | (with_reducible refine And.intro ?_ ?_) | (with_reducible refine gK_i (fun _ => ?_) (fun _ => ?_)) | (with_reducible refine condS_i (fun _ => ?_) (fun _ => ?_)) | (with_reducible refine drw_i (by kernel_rfl)) | simp -dsimp only [go_sem, seval, *, encT, h1] | ((with_reducible refine opK_c ?_); simp -dsimp only [go_sem, seval, encT, h1]; first | refine callK_r (by first | assumption | exact hfz) (by first | exact .inl rfl | exact .inr rfl) ?_ | (refine callK_i (by assumption) ?_ ?_ ?_; (solve | (repeat (first | exact DLe.refl _ | exact DLe.nil _ | (refine DLe.tup ?_) | (refine DLe.agg ?_ rfl) | exact trivial | (refine And.intro ?_ ?_)))); (solve | exact .inl rfl | exact .inr rfl))) | (refine opK_M [] (hbg) ?_ ?_ ?_ ?_ ?_ ?_; (solve | rfl | simp only [go_sem, seval, encT]); (solve | rfl); (solve | decide); (solve | simp); (solve | simp only [go_sem, seval, lentOK, encT])) | omega | exact decide_eq_true (by omega) | exact DLe.refl _)
    all_goals exact (by repeat (first | exact DLe.refl _ | exact DLe.nil _ | (refine DLe.tup ?_) | (refine DLe.agg ?_ rfl) | exact trivial | (refine And.intro ?_ ?_)))
def joinErr (n : Net) (a b : Int) : Int :=
  if a = b then 3 else if findN n a = none ∨ findN n b = none then 5 else if lnk a b ∈ n.links then 6 else
  if peaceN { n with links := insK lkey (lnk a b) n.links } = false then 9 else if n.links.length + 1 > 12 then 2 else 0
/-- Join's answer. -/
def joinN (n : Net) (a b : Int) : Net × Int :=
  if chkT n ≠ 0 then (Net.zero, chkT n) else if joinErr n a b ≠ 0 then (Net.zero, joinErr n a b) else ({ n with links := insK lkey (lnk a b) n.links }, 0)
/-- A link's ends are Ids. -/
theorem NetOK.bd {n : Net} (h : NetOK n) {x : Int} (hx : x ∈ n.vpcs.map (·.id)) : 1 ≤ x ∧ x ≤ 65536 := by
  obtain ⟨v, hv, rfl⟩ := List.mem_map.1 hx
  have := (vpcOK_of (h.vp v hv)).id
  simpa [idOK] using this
theorem ordK_key {l m : Lnk} (h1 : 1 ≤ l.b ∧ l.b ≤ 65536) (h2 : 1 ≤ m.b ∧ m.b ≤ 65536) : ordK l m = cmpI (lkey l) (lkey m) := cmpI_two h1.1 h1.2 h2.1 h2.2
theorem NetOK.lsort {n : Net} (h : NetOK n) : n.links.Pairwise fun a b => lkey a < lkey b := by
  have hb : ∀ l ∈ n.links, 1 ≤ l.b ∧ l.b ≤ 65536 := fun l hl => h.bd (h.ids l hl).2
  have := (risK_at n.links).1 h.rk
  have step : ∀ j (hj : j + 1 < n.links.length), lkey n.links[j] < lkey n.links[j + 1] := fun j hj => by
    have h1 := this j hj
    rw [ordK_key (hb _ (List.getElem_mem _)) (hb _ (List.getElem_mem _))] at h1
    unfold cmpI at h1
    split at h1
    · assumption
    · split at h1 <;> omega
  rw [List.pairwise_iff_getElem]
  intro i j hi hj hij
  obtain ⟨d, rfl⟩ : ∃ d, j = i + 1 + d := ⟨j - i - 1, by omega⟩
  induction d with
  | zero => exact step i hj
  | succ d ih =>
    have h1 := ih (by omega) (by omega)
    have h2 := step (i + 1 + d) (by omega)
    exact Int.lt_trans h1 h2
theorem lnk_cases (a b : Int) : (lnk a b = ⟨a, b⟩ ∧ a ≤ b) ∨ (lnk a b = ⟨b, a⟩ ∧ b ≤ a) := by
  unfold lnk
  rcases Int.lt_trichotomy a b with h | h | h
  · left; rw [if_neg (by omega), if_pos h]; exact ⟨rfl, by omega⟩
  · subst h; left; simp
  · right; rw [if_pos h, if_neg (by omega)]; exact ⟨rfl, by omega⟩
theorem lkey_inj {l m : Lnk} (h1 : 1 ≤ l.b ∧ l.b ≤ 65536) (h2 : 1 ≤ m.b ∧ m.b ≤ 65536) (h : lkey l = lkey m) : l = m := by
  unfold lkey at h
  cases l; cases m
  simp only at *
  simp only [Lnk.mk.injEq]
  omega
set_option maxRecDepth 100000 in
set_option maxHeartbeats 2000000 in
theorem njoin_p (n : Net) (a b : Int) : PSpec Tryz.prog 18 [.agg (encT n), .v (.int .i64 a), .v (.int .i64 b)] (.tup [.agg (encT (joinN n a b).1), .v (.int .i64 (joinN n a b).2)]) := by
  obtain ⟨R, hR⟩ : ∃ R, R = joinN n a b := ⟨_, rfl⟩
  rw [← hR]
  replace hR := Lib.hid hR
  by_cases hc : chkT n = 0
  · have hok := netOK.1 hc
    have hbg := nbegin_m n hc
    have hlk := link_p a b
    have hR1 : R = if joinErr n a b ≠ 0 then (Net.zero, joinErr n a b) else ({ n with links := insK lkey (lnk a b) n.links }, 0) := by rw [hR.out]; unfold joinN; rw [if_neg (by simpa using hc)]
    cases hxa : vpcIx n a with
    | none =>
      have hfa := nfind0_m n a n.vpcs.length 1 (vpcIx_none hxa) hok.n6 hok.rise
      have hr : R = (Net.zero, if a = b then 3 else 5) := by
        rw [hR1, show joinErr n a b = if a = b then 3 else 5 by unfold joinErr; rw [vpcIx_none hxa]; simp]
        split <;> simp
      have hab : (a == b) = decide (a = b) := rfl
      rw [hr]
      cases hxb : vpcIx n b with
      | none =>
        have hfb := nfind0_m n b n.vpcs.length 1 (vpcIx_none hxb) hok.n6 hok.rise
        clear hr hR hR1 hok hxa hxb hc
        refine ps_i tab_ok mixed Tryz.func18 rfl Tryz.ntmps18 Tryz.results18 (by kernel_rfl) ?_
        repeat' (first | (with_reducible refine And.intro ?_ ?_) | (with_reducible refine gK_i (fun _ => ?_) (fun _ => ?_)) | (with_reducible refine condS_i (fun _ => ?_) (fun _ => ?_)) | (with_reducible refine drw_i (by kernel_rfl)) | simp -dsimp only [go_sem, seval, *, encT, undef] | ((with_reducible refine opK_c ?_); simp -dsimp only [go_sem, seval, encT, undef]; first | refine callK_r (by first | assumption | fail) (by first | exact .inl rfl | exact .inr rfl) ?_ | (refine callK_i (by assumption) ?_ ?_ ?_; (solve | (repeat (first | exact DLe.refl _ | exact DLe.nil _ | (refine DLe.tup ?_) | (refine DLe.agg ?_ rfl) | exact trivial | (refine And.intro ?_ ?_)))); (solve | exact .inl rfl | exact .inr rfl))) | (refine opK_M [] (hbg) ?_ ?_ ?_ ?_ ?_ ?_; (solve | rfl | simp only [go_sem, seval, encT]); (solve | rfl); (solve | decide); (solve | simp); (solve | simp only [go_sem, seval, lentOK, encT])) | (refine opK_M [4, 5, 3] (hfa) ?_ ?_ ?_ ?_ ?_ ?_; (solve | rfl | simp only [go_sem, seval, encT]); (solve | rfl); (solve | decide); (solve | simp); (solve | simp only [go_sem, seval, lentOK, encT])) | (refine opK_M [4, 5, 3] (hfb) ?_ ?_ ?_ ?_ ?_ ?_; (solve | rfl | simp only [go_sem, seval, encT]); (solve | rfl); (solve | decide); (solve | simp); (solve | simp only [go_sem, seval, lentOK, encT])) | omega | exact decide_eq_true (by omega) | exact DLe.refl _)
        all_goals first
          | (exfalso; grind)
          | (rw [if_pos (by grind)]; exact (by repeat (first | exact DLe.refl _ | exact DLe.nil _ | (refine DLe.tup ?_) | (refine DLe.agg ?_ rfl) | exact trivial | (refine And.intro ?_ ?_))))
          | (rw [if_neg (by grind)]; exact (by repeat (first | exact DLe.refl _ | exact DLe.nil _ | (refine DLe.tup ?_) | (refine DLe.agg ?_ rfl) | exact trivial | (refine And.intro ?_ ?_))))
      | some j =>
        obtain ⟨v, hv, he, hi, hfs⟩ := vpcIx_some hxb
        have hfb := nfind_m n b n.vpcs.length 1 j v hv he hok.n6 hok.rise
        clear hr hR hR1 hok hxa hxb hc hv he hfs hi
        refine ps_i tab_ok mixed Tryz.func18 rfl Tryz.ntmps18 Tryz.results18 (by kernel_rfl) ?_
        repeat' (first | (with_reducible refine And.intro ?_ ?_) | (with_reducible refine gK_i (fun _ => ?_) (fun _ => ?_)) | (with_reducible refine condS_i (fun _ => ?_) (fun _ => ?_)) | (with_reducible refine drw_i (by kernel_rfl)) | simp -dsimp only [go_sem, seval, *, encT, undef] | ((with_reducible refine opK_c ?_); simp -dsimp only [go_sem, seval, encT, undef]; first | refine callK_r (by first | assumption | fail) (by first | exact .inl rfl | exact .inr rfl) ?_ | (refine callK_i (by assumption) ?_ ?_ ?_; (solve | (repeat (first | exact DLe.refl _ | exact DLe.nil _ | (refine DLe.tup ?_) | (refine DLe.agg ?_ rfl) | exact trivial | (refine And.intro ?_ ?_)))); (solve | exact .inl rfl | exact .inr rfl))) | (refine opK_M [] (hbg) ?_ ?_ ?_ ?_ ?_ ?_; (solve | rfl | simp only [go_sem, seval, encT]); (solve | rfl); (solve | decide); (solve | simp); (solve | simp only [go_sem, seval, lentOK, encT])) | (refine opK_M [4, 5, 3] (hfa) ?_ ?_ ?_ ?_ ?_ ?_; (solve | rfl | simp only [go_sem, seval, encT]); (solve | rfl); (solve | decide); (solve | simp); (solve | simp only [go_sem, seval, lentOK, encT])) | (refine opK_M [4, 5, 3] (hfb) ?_ ?_ ?_ ?_ ?_ ?_; (solve | rfl | simp only [go_sem, seval, encT]); (solve | rfl); (solve | decide); (solve | simp); (solve | simp only [go_sem, seval, lentOK, encT])) | omega | exact decide_eq_true (by omega) | exact DLe.refl _)
        all_goals first
          | (exfalso; grind)
          | (rw [if_pos (by grind)]; exact (by repeat (first | exact DLe.refl _ | exact DLe.nil _ | (refine DLe.tup ?_) | (refine DLe.agg ?_ rfl) | exact trivial | (refine And.intro ?_ ?_))))
          | (rw [if_neg (by grind)]; exact (by repeat (first | exact DLe.refl _ | exact DLe.nil _ | (refine DLe.tup ?_) | (refine DLe.agg ?_ rfl) | exact trivial | (refine And.intro ?_ ?_))))
    | some i =>
      obtain ⟨u, hu, hea, hia, hfsa⟩ := vpcIx_some hxa
      have hfa := nfind_m n a n.vpcs.length 1 i u hu hea hok.n6 hok.rise
      cases hxb : vpcIx n b with
      | none =>
        have hfb := nfind0_m n b n.vpcs.length 1 (vpcIx_none hxb) hok.n6 hok.rise
        have hr : R = (Net.zero, if a = b then 3 else 5) := by
          rw [hR1, show joinErr n a b = if a = b then 3 else 5 by unfold joinErr; rw [vpcIx_none hxb]; simp]
          split <;> simp
        rw [hr]
        clear hr hR hR1 hok hxa hxb hc hu hea hia hfsa
        refine ps_i tab_ok mixed Tryz.func18 rfl Tryz.ntmps18 Tryz.results18 (by kernel_rfl) ?_
        repeat' (first | (with_reducible refine And.intro ?_ ?_) | (with_reducible refine gK_i (fun _ => ?_) (fun _ => ?_)) | (with_reducible refine condS_i (fun _ => ?_) (fun _ => ?_)) | (with_reducible refine drw_i (by kernel_rfl)) | simp -dsimp only [go_sem, seval, *, encT, undef] | ((with_reducible refine opK_c ?_); simp -dsimp only [go_sem, seval, encT, undef]; first | refine callK_r (by first | assumption | fail) (by first | exact .inl rfl | exact .inr rfl) ?_ | (refine callK_i (by assumption) ?_ ?_ ?_; (solve | (repeat (first | exact DLe.refl _ | exact DLe.nil _ | (refine DLe.tup ?_) | (refine DLe.agg ?_ rfl) | exact trivial | (refine And.intro ?_ ?_)))); (solve | exact .inl rfl | exact .inr rfl))) | (refine opK_M [] (hbg) ?_ ?_ ?_ ?_ ?_ ?_; (solve | rfl | simp only [go_sem, seval, encT]); (solve | rfl); (solve | decide); (solve | simp); (solve | simp only [go_sem, seval, lentOK, encT])) | (refine opK_M [4, 5, 3] (hfa) ?_ ?_ ?_ ?_ ?_ ?_; (solve | rfl | simp only [go_sem, seval, encT]); (solve | rfl); (solve | decide); (solve | simp); (solve | simp only [go_sem, seval, lentOK, encT])) | (refine opK_M [4, 5, 3] (hfb) ?_ ?_ ?_ ?_ ?_ ?_; (solve | rfl | simp only [go_sem, seval, encT]); (solve | rfl); (solve | decide); (solve | simp); (solve | simp only [go_sem, seval, lentOK, encT])) | omega | exact decide_eq_true (by omega) | exact DLe.refl _)
        all_goals first
          | (exfalso; grind)
          | (rw [if_pos (by grind)]; exact (by repeat (first | exact DLe.refl _ | exact DLe.nil _ | (refine DLe.tup ?_) | (refine DLe.agg ?_ rfl) | exact trivial | (refine And.intro ?_ ?_))))
          | (rw [if_neg (by grind)]; exact (by repeat (first | exact DLe.refl _ | exact DLe.nil _ | (refine DLe.tup ?_) | (refine DLe.agg ?_ rfl) | exact trivial | (refine And.intro ?_ ?_))))
      | some j =>
        obtain ⟨v, hv, heb, hib, hfsb⟩ := vpcIx_some hxb
        have hfb := nfind_m n b n.vpcs.length 1 j v hv heb hok.n6 hok.rise
        by_cases hab : a = b
        · have hr : R = (Net.zero, 3) := by rw [hR1, show joinErr n a b = 3 by unfold joinErr; rw [if_pos hab]]; rfl
          rw [hr]
          clear hr hR hR1 hok hxa hxb hc hu hea hia hfsa hv heb hib hfsb
          have habI : (a == b) = true := by simpa using hab
          replace hab := Lib.hid hab
          refine ps_i tab_ok mixed Tryz.func18 rfl Tryz.ntmps18 Tryz.results18 (by kernel_rfl) ?_
          repeat' (first | (with_reducible refine And.intro ?_ ?_) | (with_reducible refine gK_i (fun _ => ?_) (fun _ => ?_)) | (with_reducible refine condS_i (fun _ => ?_) (fun _ => ?_)) | (with_reducible refine drw_i (by kernel_rfl)) | simp -dsimp only [go_sem, seval, *, encT, habI, undef] | ((with_reducible refine opK_c ?_); simp -dsimp only [go_sem, seval, encT, habI, undef]; first | refine callK_r (by first | assumption | fail) (by first | exact .inl rfl | exact .inr rfl) ?_ | (refine callK_i (by assumption) ?_ ?_ ?_; (solve | (repeat (first | exact DLe.refl _ | exact DLe.nil _ | (refine DLe.tup ?_) | (refine DLe.agg ?_ rfl) | exact trivial | (refine And.intro ?_ ?_)))); (solve | exact .inl rfl | exact .inr rfl))) | (refine opK_M [] (hbg) ?_ ?_ ?_ ?_ ?_ ?_; (solve | rfl | simp only [go_sem, seval, encT]); (solve | rfl); (solve | decide); (solve | simp); (solve | simp only [go_sem, seval, lentOK, encT])) | (refine opK_M [4, 5, 3] (hfa) ?_ ?_ ?_ ?_ ?_ ?_; (solve | rfl | simp only [go_sem, seval, encT]); (solve | rfl); (solve | decide); (solve | simp); (solve | simp only [go_sem, seval, lentOK, encT])) | (refine opK_M [4, 5, 3] (hfb) ?_ ?_ ?_ ?_ ?_ ?_; (solve | rfl | simp only [go_sem, seval, encT]); (solve | rfl); (solve | decide); (solve | simp); (solve | simp only [go_sem, seval, lentOK, encT])) | omega | exact decide_eq_true (by omega) | exact DLe.refl _)
          all_goals exact (by repeat (first | exact DLe.refl _ | exact DLe.nil _ | (refine DLe.tup ?_) | (refine DLe.agg ?_ rfl) | exact trivial | (refine And.intro ?_ ?_)))
        · have habI : (a == b) = false := by simpa using hab
          have hct := contains_Link n.links (lnk a b) (by have := hok.n12; omega)
          have hany : (n.links.any fun y => decide (lnk a b = y)) = decide (lnk a b ∈ n.links) := by
            rw [Bool.eq_iff_iff, List.any_eq_true]
            simp
          rw [hany] at hct
          have hR2 : R = if lnk a b ∈ n.links then (Net.zero, 6) else if peaceN { n with links := insK lkey (lnk a b) n.links } = false then (Net.zero, 9) else if n.links.length + 1 > 12 then (Net.zero, 2) else ({ n with links := insK lkey (lnk a b) n.links }, 0) := by
            rw [hR1]; unfold joinErr; rw [if_neg hab, hfsa, hfsb]; simp only [reduceCtorEq, or_self, if_false]
            split
            · rfl
            · split
              · rfl
              · split <;> rfl
          by_cases hin : lnk a b ∈ n.links
          · have hr : R = (Net.zero, 6) := by rw [hR2, if_pos hin]
            rw [hr]
            rw [decide_eq_true hin] at hct
            clear hr hR hR1 hR2 hok hxa hxb hc hu hea hia hfsa hv heb hib hfsb hany hin
            generalize lnk a b = LK at *
            replace hab := Lib.hid hab
            refine ps_i tab_ok mixed Tryz.func18 rfl Tryz.ntmps18 Tryz.results18 (by kernel_rfl) ?_
            repeat' (first | (with_reducible refine And.intro ?_ ?_) | (with_reducible refine gK_i (fun _ => ?_) (fun _ => ?_)) | (with_reducible refine condS_i (fun _ => ?_) (fun _ => ?_)) | (with_reducible refine drw_i (by kernel_rfl)) | simp -dsimp only [go_sem, seval, *, encT, encK, habI, undef] | ((with_reducible refine opK_c ?_); simp -dsimp only [go_sem, seval, encT, encK, habI, undef]; first | refine callK_r (by first | assumption | exact hlk | exact hct) (by first | exact .inl rfl | exact .inr rfl) ?_ | (refine callK_i (by assumption) ?_ ?_ ?_; (solve | (repeat (first | exact DLe.refl _ | exact DLe.nil _ | (refine DLe.tup ?_) | (refine DLe.agg ?_ rfl) | exact trivial | (refine And.intro ?_ ?_)))); (solve | exact .inl rfl | exact .inr rfl))) | (refine opK_M [] (hbg) ?_ ?_ ?_ ?_ ?_ ?_; (solve | rfl | simp only [go_sem, seval, encT]); (solve | rfl); (solve | decide); (solve | simp); (solve | simp only [go_sem, seval, lentOK, encT])) | (refine opK_M [4, 5, 3] (hfa) ?_ ?_ ?_ ?_ ?_ ?_; (solve | rfl | simp only [go_sem, seval, encT]); (solve | rfl); (solve | decide); (solve | simp); (solve | simp only [go_sem, seval, lentOK, encT])) | (refine opK_M [4, 5, 3] (hfb) ?_ ?_ ?_ ?_ ?_ ?_; (solve | rfl | simp only [go_sem, seval, encT]); (solve | rfl); (solve | decide); (solve | simp); (solve | simp only [go_sem, seval, lentOK, encT])) | omega | exact decide_eq_true (by omega) | exact DLe.refl _)
            all_goals exact (by repeat (first | exact DLe.refl _ | exact DLe.nil _ | (refine DLe.tup ?_) | (refine DLe.agg ?_ rfl) | exact trivial | (refine And.intro ?_ ?_)))
          · rw [if_neg hin] at hR2
            rw [decide_eq_false hin] at hct
            have hma : a ∈ n.vpcs.map (·.id) := find_ids (by rw [hfsa]; rfl)
            have hmb : b ∈ n.vpcs.map (·.id) := find_ids (by rw [hfsb]; rfl)
            have hlb : ∀ l ∈ n.links, 1 ≤ l.b ∧ l.b ≤ 65536 := fun l hl => hok.bd (hok.ids l hl).2
            have hlm : (lnk a b).a ∈ n.vpcs.map (·.id) ∧ (lnk a b).b ∈ n.vpcs.map (·.id) := by
              rcases lnk_cases a b with ⟨e, -⟩ | ⟨e, -⟩
              · rw [e]; exact ⟨hma, hmb⟩
              · rw [e]; exact ⟨hmb, hma⟩
            have hlkb := hok.bd hlm.2
            have hso := sort_Link (l := n.links ++ [lnk a b]) (l' := insK lkey (lnk a b) n.links) 2 (fun l hl => by
              rcases List.mem_append.1 hl with hl | hl
              · exact hlb l hl
              · rw [List.mem_singleton.1 hl]; exact hlkb) (by simp) (insK_perm _ _ _) (insK_sorted hok.lsort fun y hy e => hin (by rw [← lkey_inj (hlb y hy) hlkb e]; exact hy)) (by have := hok.n12; simp; omega)
            have hpe := peace_p { n with links := insK lkey (lnk a b) n.links } (by have := hok.n6; simp; omega) (by have := hok.n12; simp only [insK_len]; omega) (fun v hv => by have := (vpcOK_of (hok.vp v hv)).n4; omega) (fun l hl => by
              rcases insK_mem.1 hl with rfl | hl
              · exact hlm
              · exact hok.ids l hl)
            have h12 := hok.n12
            have hb1 : n.links.length + 1 ≤ 100 := by omega
            have hsl : (insK lkey (lnk a b) n.links).length = n.links.length + 1 := insK_len _ _ _
            have hlI : ((n.links.length + 1 : Nat) : Int) > 12 ↔ n.links.length + 1 > 12 := by omega
            simp only [List.map_append, List.map_cons, List.map_nil] at hso
            clear hR hR1 hok hxa hxb hc hu hea hia hfsa hv heb hib hfsb hany hin hma hmb hlb hlm hlkb
            generalize insK lkey (lnk a b) n.links = LS at *
            generalize lnk a b = LK at *
            replace hab := Lib.hid hab
            cases hp : peaceN { n with links := LS } with
            | false =>
              have hr : R = (Net.zero, 9) := by rw [hR2, if_pos hp]
              rw [hp] at hpe
              rw [hr]
              clear hr hR2 hp hlI
              refine ps_i tab_ok mixed Tryz.func18 rfl Tryz.ntmps18 Tryz.results18 (by kernel_rfl) ?_
              repeat' (first | (with_reducible refine And.intro ?_ ?_) | (with_reducible refine gK_i (fun _ => ?_) (fun _ => ?_)) | (with_reducible refine condS_i (fun _ => ?_) (fun _ => ?_)) | (with_reducible refine drw_i (by kernel_rfl)) | simp -dsimp only [go_sem, seval, *, encT, encK, habI, hb1, undef] | ((with_reducible refine opK_c ?_); simp -dsimp only [go_sem, seval, encT, encK, habI, hb1, undef]; first | refine callK_r (by first | assumption | exact hlk | exact hct | exact hpe) (by first | exact .inl rfl | exact .inr rfl) ?_ | (refine callK_i (by assumption) ?_ ?_ ?_; (solve | (repeat (first | exact DLe.refl _ | exact DLe.nil _ | (refine DLe.tup ?_) | (refine DLe.agg ?_ rfl) | exact trivial | (refine And.intro ?_ ?_)))); (solve | exact .inl rfl | exact .inr rfl))) | (refine opK_M [] (hbg) ?_ ?_ ?_ ?_ ?_ ?_; (solve | rfl | simp only [go_sem, seval, encT]); (solve | rfl); (solve | decide); (solve | simp); (solve | simp only [go_sem, seval, lentOK, encT])) | (refine opK_M [4, 5, 3] (hfa) ?_ ?_ ?_ ?_ ?_ ?_; (solve | rfl | simp only [go_sem, seval, encT]); (solve | rfl); (solve | decide); (solve | simp); (solve | simp only [go_sem, seval, lentOK, encT])) | (refine opK_M [4, 5, 3] (hfb) ?_ ?_ ?_ ?_ ?_ ?_; (solve | rfl | simp only [go_sem, seval, encT]); (solve | rfl); (solve | decide); (solve | simp); (solve | simp only [go_sem, seval, lentOK, encT])) | (refine opK_M [3] (hso) ?_ ?_ ?_ ?_ ?_ ?_; (solve | rfl | simp only [go_sem, seval, encK]); (solve | rfl); (solve | decide); (solve | simp); (solve | simp only [go_sem, seval, lentOK, encK])) | omega | exact decide_eq_true (by omega) | exact DLe.refl _)
              all_goals exact (by repeat (first | exact DLe.refl _ | exact DLe.nil _ | (refine DLe.tup ?_) | (refine DLe.agg ?_ rfl) | exact trivial | (refine And.intro ?_ ?_)))
            | true =>
              rw [hp] at hpe
              by_cases hbig : n.links.length + 1 > 12
              · have hr : R = (Net.zero, 2) := by rw [hR2, if_neg (by simp [hp]), if_pos hbig]
                have hbI : decide ((LS.length : Int) > 12) = true := by rw [hsl]; exact decide_eq_true (hlI.2 hbig)
                rw [hr]
                clear hr hR2 hp hlI hbig
                replace hsl := Lib.hid hsl
                refine ps_i tab_ok mixed Tryz.func18 rfl Tryz.ntmps18 Tryz.results18 (by kernel_rfl) ?_
                repeat' (first | (with_reducible refine And.intro ?_ ?_) | (with_reducible refine gK_i (fun _ => ?_) (fun _ => ?_)) | (with_reducible refine condS_i (fun _ => ?_) (fun _ => ?_)) | (with_reducible refine drw_i (by kernel_rfl)) | simp -dsimp only [go_sem, seval, *, encT, encK, habI, hb1, hbI, undef] | ((with_reducible refine opK_c ?_); simp -dsimp only [go_sem, seval, encT, encK, habI, hb1, hbI, undef]; first | refine callK_r (by first | assumption | exact hlk | exact hct | exact hpe) (by first | exact .inl rfl | exact .inr rfl) ?_ | (refine callK_i (by assumption) ?_ ?_ ?_; (solve | (repeat (first | exact DLe.refl _ | exact DLe.nil _ | (refine DLe.tup ?_) | (refine DLe.agg ?_ rfl) | exact trivial | (refine And.intro ?_ ?_)))); (solve | exact .inl rfl | exact .inr rfl))) | (refine opK_M [] (hbg) ?_ ?_ ?_ ?_ ?_ ?_; (solve | rfl | simp only [go_sem, seval, encT]); (solve | rfl); (solve | decide); (solve | simp); (solve | simp only [go_sem, seval, lentOK, encT])) | (refine opK_M [4, 5, 3] (hfa) ?_ ?_ ?_ ?_ ?_ ?_; (solve | rfl | simp only [go_sem, seval, encT]); (solve | rfl); (solve | decide); (solve | simp); (solve | simp only [go_sem, seval, lentOK, encT])) | (refine opK_M [4, 5, 3] (hfb) ?_ ?_ ?_ ?_ ?_ ?_; (solve | rfl | simp only [go_sem, seval, encT]); (solve | rfl); (solve | decide); (solve | simp); (solve | simp only [go_sem, seval, lentOK, encT])) | (refine opK_M [3] (hso) ?_ ?_ ?_ ?_ ?_ ?_; (solve | rfl | simp only [go_sem, seval, encK]); (solve | rfl); (solve | decide); (solve | simp); (solve | simp only [go_sem, seval, lentOK, encK])) | omega | exact decide_eq_true (by omega) | exact DLe.refl _)
                all_goals exact (by repeat (first | exact DLe.refl _ | exact DLe.nil _ | (refine DLe.tup ?_) | (refine DLe.agg ?_ rfl) | exact trivial | (refine And.intro ?_ ?_)))
              · have hr : R = ({ n with links := LS }, 0) := by rw [hR2, if_neg (by simp [hp]), if_neg hbig]
                have hbI : decide ((LS.length : Int) > 12) = false := by rw [hsl]; exact decide_eq_false (fun h => hbig (hlI.1 h))
                rw [hr]
                clear hr hR2 hp hlI hbig
                replace hsl := Lib.hid hsl
                refine ps_i tab_ok mixed Tryz.func18 rfl Tryz.ntmps18 Tryz.results18 (by kernel_rfl) ?_
                repeat' (first | (with_reducible refine And.intro ?_ ?_) | (with_reducible refine gK_i (fun _ => ?_) (fun _ => ?_)) | (with_reducible refine condS_i (fun _ => ?_) (fun _ => ?_)) | (with_reducible refine drw_i (by kernel_rfl)) | simp -dsimp only [go_sem, seval, *, encT, encK, habI, hb1, hbI, undef] | ((with_reducible refine opK_c ?_); simp -dsimp only [go_sem, seval, encT, encK, habI, hb1, hbI, undef]; first | refine callK_r (by first | assumption | exact hlk | exact hct | exact hpe) (by first | exact .inl rfl | exact .inr rfl) ?_ | (refine callK_i (by assumption) ?_ ?_ ?_; (solve | (repeat (first | exact DLe.refl _ | exact DLe.nil _ | (refine DLe.tup ?_) | (refine DLe.agg ?_ rfl) | exact trivial | (refine And.intro ?_ ?_)))); (solve | exact .inl rfl | exact .inr rfl))) | (refine opK_M [] (hbg) ?_ ?_ ?_ ?_ ?_ ?_; (solve | rfl | simp only [go_sem, seval, encT]); (solve | rfl); (solve | decide); (solve | simp); (solve | simp only [go_sem, seval, lentOK, encT])) | (refine opK_M [4, 5, 3] (hfa) ?_ ?_ ?_ ?_ ?_ ?_; (solve | rfl | simp only [go_sem, seval, encT]); (solve | rfl); (solve | decide); (solve | simp); (solve | simp only [go_sem, seval, lentOK, encT])) | (refine opK_M [4, 5, 3] (hfb) ?_ ?_ ?_ ?_ ?_ ?_; (solve | rfl | simp only [go_sem, seval, encT]); (solve | rfl); (solve | decide); (solve | simp); (solve | simp only [go_sem, seval, lentOK, encT])) | (refine opK_M [3] (hso) ?_ ?_ ?_ ?_ ?_ ?_; (solve | rfl | simp only [go_sem, seval, encK]); (solve | rfl); (solve | decide); (solve | simp); (solve | simp only [go_sem, seval, lentOK, encK])) | omega | exact decide_eq_true (by omega) | exact DLe.refl _)
                all_goals exact (by repeat (first | exact DLe.refl _ | exact DLe.nil _ | (refine DLe.tup ?_) | (refine DLe.agg ?_ rfl) | exact trivial | (refine And.intro ?_ ?_)))
  · have hbg := nbeginE_m n hc
    have h1 : (chkT n != 0) = true := by simpa using hc
    have hr : R = (Net.zero, chkT n) := by rw [hR.out]; unfold joinN; rw [if_pos hc]
    rw [hr]
    replace hr := Lib.hid hr
    refine ps_i tab_ok mixed Tryz.func18 rfl Tryz.ntmps18 Tryz.results18 (by kernel_rfl) ?_
    repeat' (first | (with_reducible refine And.intro ?_ ?_) | (with_reducible refine gK_i (fun _ => ?_) (fun _ => ?_)) | (with_reducible refine condS_i (fun _ => ?_) (fun _ => ?_)) | (with_reducible refine drw_i (by kernel_rfl)) | simp -dsimp only [go_sem, seval, *, encT, h1] | ((with_reducible refine opK_c ?_); simp -dsimp only [go_sem, seval, encT, h1]; first | refine callK_r (by first | assumption | fail) (by first | exact .inl rfl | exact .inr rfl) ?_ | (refine callK_i (by assumption) ?_ ?_ ?_; (solve | (repeat (first | exact DLe.refl _ | exact DLe.nil _ | (refine DLe.tup ?_) | (refine DLe.agg ?_ rfl) | exact trivial | (refine And.intro ?_ ?_)))); (solve | exact .inl rfl | exact .inr rfl))) | (refine opK_M [] (hbg) ?_ ?_ ?_ ?_ ?_ ?_; (solve | rfl | simp only [go_sem, seval, encT]); (solve | rfl); (solve | decide); (solve | simp); (solve | simp only [go_sem, seval, lentOK, encT])) | omega | exact decide_eq_true (by omega) | exact DLe.refl _)
    all_goals exact (by repeat (first | exact DLe.refl _ | exact DLe.nil _ | (refine DLe.tup ?_) | (refine DLe.agg ?_ rfl) | exact trivial | (refine And.intro ?_ ?_)))
end Go.Proofs.YtgmbhaclogabeaaGreat
namespace Go.Proofs.YtgmbhaclogabeaaGreat
open Go Go.RowKit
def rdl : List (List D) → List (List D) → Prop
  | [], [] => True
  | r :: l, s :: m => dles r s ∧ rdl l m
  | _, _ => False
theorem rdl_refl : ∀ l : List (List D), rdl l l
  | [] => trivial
  | r :: l => ⟨dles_refl r, rdl_refl l⟩
theorem rdl_app : ∀ {a b c d : List (List D)}, rdl a b → rdl c d → rdl (a ++ c) (b ++ d)
  | [], [], _, _, _, h => h
  | [], _ :: _, _, _, h, _ => h.elim
  | _ :: _, [], _, _, h, _ => h.elim
  | _ :: _, _ :: _, _, _, ⟨h1, h2⟩, h => ⟨h1, rdl_app h2 h⟩
theorem rdl_mid {A B : List (List D)} {r s : List D} (h : dles r s) : rdl (A ++ r :: B) (A ++ s :: B) := rdl_app (rdl_refl _) ⟨h, rdl_refl _⟩
theorem rdl_at : ∀ {l m : List (List D)}, rdl l m → l.length = m.length ∧ ∀ (j : Nat) (a b : List D), l[j]? = some a → m[j]? = some b → dles a b
  | [], [], _ => ⟨rfl, fun j a b h => by simp at h⟩
  | [], _ :: _, h => h.elim
  | _ :: _, [], h => h.elim
  | r :: l, s :: m, ⟨h1, h2⟩ => by
    obtain ⟨q1, q2⟩ := rdl_at h2
    refine ⟨by simp [q1], fun j a b ha hb => ?_⟩
    cases j with
    | zero => simp at ha hb; subst ha; subst hb; exact h1
    | succ j => exact q2 j a b (by simpa using ha) (by simpa using hb)
theorem DLe.sl {sz : Nat} {l m : List (List D)} (h : rdl l m) (h1 : ∀ r ∈ m, ∀ d ∈ r, d.one = true) : DLe (.sl sz l) (.sl sz m) := fun M w v hr => by
  obtain ⟨q1, q2⟩ := rdl_at h
  cases hr with
  | nil _ ao cap hm =>
    have : m = [] := List.eq_nil_of_length_eq_zero (by rw [← q1]; rfl)
    subst this
    exact .nil sz ao cap hm
  | sl _ rows b off cap f hM hb hc hm hr _ hcell hrep =>
    rw [q1]
    have row : ∀ (i : Nat) (s : List D), m[i]? = some s → ∃ r, l[i]? = some r ∧ dles r s := fun i s hs => by
      obtain ⟨hlt, -⟩ := List.getElem?_eq_some_iff.1 hs
      exact ⟨l[i]'(by omega), List.getElem?_eq_getElem (by omega), q2 i _ s (List.getElem?_eq_getElem (by omega)) hs⟩
    refine .sl sz m b off cap f hM hb (by omega) hm (fun s hs => ?_) h1 (fun i j hi hj => hcell i j (by omega) hj) (fun i j s d hs hd => ?_)
    · obtain ⟨i, hi, rfl⟩ := List.mem_iff_getElem.1 hs
      obtain ⟨r, e1, e2⟩ := row i _ (List.getElem?_eq_getElem hi)
      rw [← (dles_at e2).1]
      exact hr r (List.mem_of_getElem? e1)
    · obtain ⟨r, e1, e2⟩ := row i s hs
      obtain ⟨p1, p2⟩ := dles_at e2
      obtain ⟨hlt, -⟩ := List.getElem?_eq_some_iff.1 hd
      exact p2 j _ d (List.getElem?_eq_getElem (by omega)) hd M w _ (hrep i j r _ e1 (List.getElem?_eq_getElem (by omega)))
end Go.Proofs.YtgmbhaclogabeaaGreat
namespace Go.Proofs.YtgmbhaclogabeaaGreat
open Go Go.RowKit
theorem vpcOK_to {v : Vpc} (h : VpcOK v) : chkV v = 0 := by
  rw [vpcOK]
  refine ⟨?_, ?_, h.ar, h.as_⟩
  · simp only [manyV, Bool.or_eq_false_iff, decide_eq_false_iff_not, List.any_eq_false]
    refine ⟨by have := h.n4; omega, by have := h.n6; omega, fun s hs => ?_⟩
    have h8 := h.n8 s hs
    simp only [manyN, Bool.not_eq_true, Bool.or_eq_false_iff, decide_eq_false_iff_not, List.any_eq_false]
    refine ⟨by omega, fun f hf => ?_⟩
    have := h8.2 f hf
    simp [manyF]
    omega
  · unfold fineV
    simp only [Bool.and_eq_true, List.all_eq_true, risB_pair]
    exact ⟨⟨h.id, h.rr, h.rs⟩, h.ranges, h.subs⟩
theorem growV_chk {v : Vpc} {r : Rng} (h : (growV v r).2 = 0) : chkV (growV v r).1 = 0 := by
  unfold growV at h ⊢
  by_cases h1 : chkV v ≠ 0
  · rw [if_pos h1] at h; exact absurd h h1
  rw [if_neg h1] at h ⊢
  have hk := vpcOK_of (by simpa using h1)
  by_cases h2 : growE v r ≠ 0
  · rw [if_pos h2] at h; exact absurd h h2
  rw [if_neg h2] at h ⊢
  have h3 : growE v r = 0 := by simpa using h2
  obtain ⟨g1, g2, g3, g4⟩ : idOK r.pool = true ∧ chk r.at_.at_ r.at_.len = 0 ∧ (v.ranges.any fun q => q.at_.meets r.at_) = false ∧ v.ranges.length ≠ 4 := by
    unfold growE at h3
    generalize (v.ranges.any fun q => q.at_.meets r.at_) = M at *
    generalize idOK r.pool = I at *
    grind
  have hrr : r.at_.right = true := by simp [Pfx.right, rightB, g2]
  have hno : ∀ q ∈ v.ranges, q.at_.meets r.at_ = false := fun q hq => by simpa using List.any_eq_false.1 g3 q hq
  have hne : ∀ q ∈ v.ranges, q.at_.at_ ≠ r.at_.at_ := fun q hq => meets_at (rangeB_right (hk.ranges q hq)) hrr (hno q hq)
  refine vpcOK_to ⟨?_, hk.n6, hk.n8, hk.id, insK_sorted hk.rr hne, hk.rs, fun q hq => ?_, fun s hs => ?_, ?_, hk.as_⟩
  · simp only [insK_len]; have := hk.n4; omega
  · rcases insK_mem.1 hq with rfl | hq
    · simp [rangeB, g1, g2]
    · exact hk.ranges q hq
  · have h4 := hk.subs s hs
    unfold subB at h4 ⊢
    simp only [Bool.and_eq_true] at h4 ⊢
    refine ⟨h4.1, ?_, h4.2.2⟩
    have h5 := h4.2.1
    unfold holdsV at h5 ⊢
    obtain ⟨q, hq, h6⟩ := List.any_eq_true.1 h5
    exact List.any_eq_true.2 ⟨q, insK_mem.2 (.inr hq), h6⟩
  · rw [apaF_nil]
    have hp : ((insK (fun x : Rng => x.at_.at_) r v.ranges).map (·.at_)).Perm (r.at_ :: v.ranges.map (·.at_)) := by
      refine ((insK_perm (fun x : Rng => x.at_.at_) r v.ranges).map (·.at_)).trans ?_
      rw [List.map_append]
      exact List.perm_append_singleton _ _
    refine (List.Perm.pairwise_iff (R := fun a b : Pfx => b.meets a = false) (fun {a b} hab => by rw [meets_comm]; exact hab) hp).2 ?_
    rw [List.pairwise_cons]
    refine ⟨fun a ha => ?_, apaF_nil.1 hk.ar⟩
    obtain ⟨q, hq, rfl⟩ := List.mem_map.1 ha
    exact hno q hq
end Go.Proofs.YtgmbhaclogabeaaGreat
namespace Go.Proofs.YtgmbhaclogabeaaGreat
open Go Go.RowKit
set_option maxRecDepth 100000 in
set_option maxHeartbeats 2000000 in
theorem makeNet_p (n : Net) (id : Int) (hz : NetZ n) : PSpec Tryz.prog 12 [.agg (encT n), .v (.int .i64 id)] (.tup [.agg (encT (makeN n id).1), .v (.int .i64 (makeN n id).2)]) := by
  obtain ⟨R, hR⟩ : ∃ R, R = makeN n id := ⟨_, rfl⟩
  rw [← hR]
  replace hR := Lib.hid hR
  have hck := checkNet_p n hz
  by_cases hc : chkT n = 0
  · have hok := netOK.1 hc
    have h6 := hok.n6
    have hob := ownNet_m n hok.n6 hok.n12 hok.vp
    have hw : PSpec Tryz.prog 34 [.v (.int .i64 id), .v (.int .i64 1), .v (.int .i64 65536)] (.v (.bool (idOK id))) := withinR_p _ _ _
    have hat := vpcAt_p n id (by omega)
    rw [vpcAt_ix] at hat
    have hR2 : R = if makeErr n id ≠ 0 then (Net.zero, makeErr n id) else ({ n with vpcs := insK (·.id) ⟨id, [], []⟩ n.vpcs }, 0) := by rw [hR.out]; unfold makeN; rw [if_neg (by simpa using hc)]
    unfold makeErr at hR2
    rw [hc] at hck
    clear hR hc
    cases b1 : idOK id with
    | false =>
      have hr : R = (Net.zero, 3) := by rw [hR2]; simp [b1]
      rw [b1] at hw
      rw [hr]
      clear hR2 hr hok
      refine ps_i tab_ok mixed Tryz.func12 rfl Tryz.ntmps12 Tryz.results12 (by kernel_rfl) ?_
      repeat' (first | (with_reducible refine And.intro ?_ ?_) | (with_reducible refine gK_i (fun _ => ?_) (fun _ => ?_)) | (with_reducible refine condS_i (fun _ => ?_) (fun _ => ?_)) | (with_reducible refine drw_i (by kernel_rfl)) | simp -dsimp only [go_sem, seval, *, encT, undef] | ((with_reducible refine opK_c ?_); simp -dsimp only [go_sem, seval, encT, undef]; first | refine callK_r (by first | assumption | exact hck | exact hw) (by first | exact .inl rfl | exact .inr rfl) ?_ | (refine callK_i (by assumption) ?_ ?_ ?_; (solve | (repeat (first | exact DLe.refl _ | exact DLe.nil _ | (refine DLe.tup ?_) | (refine DLe.agg ?_ rfl) | exact trivial | (refine And.intro ?_ ?_)))); (solve | exact .inl rfl | exact .inr rfl))) | fail | omega | exact decide_eq_true (by omega) | exact DLe.refl _)
      all_goals exact (by repeat (first | exact DLe.refl _ | exact DLe.nil _ | (refine DLe.tup ?_) | (refine DLe.agg ?_ rfl) | exact trivial | (refine And.intro ?_ ?_)))
    | true =>
    rw [b1] at hw
    cases hx : vpcIx n id with
    | some i =>
      obtain ⟨v, hv, he, hi, hfs⟩ := vpcIx_some hx
      have hr : R = (Net.zero, 6) := by rw [hR2]; simp [b1, hfs]
      rw [hx] at hat
      simp only at hat
      have hi0 : decide ((i : Int) ≥ 0) = true := by simp
      rw [hr]
      clear hR2 hr hok hv he hfs hx
      refine ps_i tab_ok mixed Tryz.func12 rfl Tryz.ntmps12 Tryz.results12 (by kernel_rfl) ?_
      repeat' (first | (with_reducible refine And.intro ?_ ?_) | (with_reducible refine gK_i (fun _ => ?_) (fun _ => ?_)) | (with_reducible refine condS_i (fun _ => ?_) (fun _ => ?_)) | (with_reducible refine drw_i (by kernel_rfl)) | simp -dsimp only [go_sem, seval, *, encT, hi0, undef] | ((with_reducible refine opK_c ?_); simp -dsimp only [go_sem, seval, encT, hi0, undef]; first | refine callK_r (by first | assumption | exact hck | exact hw | exact hat) (by first | exact .inl rfl | exact .inr rfl) ?_ | (refine callK_i (by assumption) ?_ ?_ ?_; (solve | (repeat (first | exact DLe.refl _ | exact DLe.nil _ | (refine DLe.tup ?_) | (refine DLe.agg ?_ rfl) | exact trivial | (refine And.intro ?_ ?_)))); (solve | exact .inl rfl | exact .inr rfl))) | fail | omega | exact decide_eq_true (by omega) | exact DLe.refl _)
      all_goals exact (by repeat (first | exact DLe.refl _ | exact DLe.nil _ | (refine DLe.tup ?_) | (refine DLe.agg ?_ rfl) | exact trivial | (refine And.intro ?_ ?_)))
    | none =>
    have hnf := vpcIx_none hx
    rw [hx] at hat
    simp only at hat
    have hm1 : decide ((-1 : Int) ≥ 0) = false := rfl
    by_cases hn6 : n.vpcs.length = 6
    · have hr : R = (Net.zero, 2) := by rw [hR2]; simp [b1, hnf, hn6]
      have hd : decide ((n.vpcs.length : Int) ≥ 6) = true := by simp; omega
      rw [hr]
      clear hR2 hr hok hnf hx
      replace hn6 := Lib.hid hn6
      refine ps_i tab_ok mixed Tryz.func12 rfl Tryz.ntmps12 Tryz.results12 (by kernel_rfl) ?_
      repeat' (first | (with_reducible refine And.intro ?_ ?_) | (with_reducible refine gK_i (fun _ => ?_) (fun _ => ?_)) | (with_reducible refine condS_i (fun _ => ?_) (fun _ => ?_)) | (with_reducible refine drw_i (by kernel_rfl)) | simp -dsimp only [go_sem, seval, *, encT, hm1, hd, undef] | ((with_reducible refine opK_c ?_); simp -dsimp only [go_sem, seval, encT, hm1, hd, undef]; first | refine callK_r (by first | assumption | exact hck | exact hw | exact hat) (by first | exact .inl rfl | exact .inr rfl) ?_ | (refine callK_i (by assumption) ?_ ?_ ?_; (solve | (repeat (first | exact DLe.refl _ | exact DLe.nil _ | (refine DLe.tup ?_) | (refine DLe.agg ?_ rfl) | exact trivial | (refine And.intro ?_ ?_)))); (solve | exact .inl rfl | exact .inr rfl))) | fail | omega | exact decide_eq_true (by omega) | exact DLe.refl _)
      all_goals exact (by repeat (first | exact DLe.refl _ | exact DLe.nil _ | (refine DLe.tup ?_) | (refine DLe.agg ?_ rfl) | exact trivial | (refine And.intro ?_ ?_)))
    · have hr : R = ({ n with vpcs := insK (·.id) ⟨id, [], []⟩ n.vpcs }, 0) := by rw [hR2]; simp [b1, hnf, hn6]
      have hd : decide ((n.vpcs.length : Int) ≥ 6) = false := by simp; omega
      have hne := findN_none hnf
      clear hR2 hok hnf hx
      replace hr := Lib.hid hr
      replace hne := Lib.hid hne
      refine ps_i tab_ok mixed Tryz.func12 rfl Tryz.ntmps12 Tryz.results12 (by kernel_rfl) ?_
      repeat' (first | (with_reducible refine And.intro ?_ ?_) | (with_reducible refine gK_i (fun _ => ?_) (fun _ => ?_)) | (with_reducible refine condS_i (fun _ => ?_) (fun _ => ?_)) | (with_reducible refine drw_i (by kernel_rfl)) | simp -dsimp only [go_sem, seval, *, encT, hm1, hd, undef] | ((with_reducible refine opK_c ?_); simp -dsimp only [go_sem, seval, encT, hm1, hd, undef]; first | refine callK_r (by first | assumption | exact hck | exact hw | exact hat) (by first | exact .inl rfl | exact .inr rfl) ?_ | (refine callK_i (by assumption) ?_ ?_ ?_; (solve | (repeat (first | exact DLe.refl _ | exact DLe.nil _ | (refine DLe.tup ?_) | (refine DLe.agg ?_ rfl) | exact trivial | (refine And.intro ?_ ?_)))); (solve | exact .inl rfl | exact .inr rfl))) | (refine opK_M [] (hob) ?_ ?_ ?_ ?_ ?_ ?_; (solve | rfl | simp only [go_sem, seval, encT]); (solve | rfl); (solve | decide); (solve | simp); (solve | simp only [go_sem, seval, lentOK, encT])) | omega | exact decide_eq_true (by omega) | exact DLe.refl _)
      clear hob hck hw hat
      refine loopG tab_ok mixed (fun m e h => ∃ (k g : Nat) (out : List Vpc) (f : Bool), k ≤ n.vpcs.length ∧ InsI (fun v : Vpc => v.id) ⟨id, [], []⟩ n.vpcs k out f ∧ m = n.vpcs.length - k ∧
        e = [(10, .d (.v (.int .i64 k))), (9, .d (.v (.bool f))), (8, .own 6 n.vpcs.length), (7, .ptr 7 0), (5, .d (.v (.int .i64 0))), (4, .ptr 1 0), (2, .ptr 0 0), (1, .d (.v (.int .i64 id)))] ∧ h = [.box 25 ((encT n).map .d), .box 25 [.d (.v (.slice none 0 0)), .d (.v (.slice none 0 0))], .gone, .gone, .row 68 2 1 (dRows (n.links.map encK)), .gone, .row 56 3 n.vpcs.length (dRows (n.vpcs.map encV)), .box 25 [.own 8 g, .own 4 1], .row 56 3 g (dRows (out.map encV))]) _ _ _ ⟨0, 0, [], false, Nat.zero_le _, insI_0, rfl, rfl, rfl⟩ ?_ ?_
      · refine (weak_adopt_box (by simp) 7 25 [.d (.v (.slice none 0 0)), .own 4 1] 0 56 3 rfl rfl rfl).trans ?_
        exact weak_forget _ (by simp) (by (try simp only [encT]); rfl) (by (repeat' (first | exact trivial | (refine ⟨rfl, ?_⟩)))) (by first | rfl | simp only [belowH, belowE, belowC, belowL, belowR, belowP, belowL_d, belowR_d, List.length_cons, List.length_nil, Nat.reduceAdd, Nat.reduceLT, decide_true, Bool.and_self, Bool.and_true]) (by first | rfl | simp only [belowH, belowE, belowC, belowL, belowR, belowP, belowL_d, belowR_d, List.length_cons, List.length_nil, Nat.reduceAdd, Nat.reduceLT, decide_true, Bool.and_self, Bool.and_true])
      · rintro m e h ⟨k, g, out, f, hk, hins, hm, rfl, rfl⟩ C hC
        replace hm := Lib.hid hm
        have hol := hins.1
        replace hins := Lib.hid hins
        have hb0 : out.length ≤ 7 := by omega
        have hb1 : (out.length + 1) * 56 ≤ 140737488355328 := by clear hol hk h6; omega
        have hb2 : (out.length + 1 + 1) * 56 ≤ 140737488355328 := by clear hol hk h6 hb1; omega
        by_cases hlt : k < n.vpcs.length
        · have hkI : (k : Int) < (n.vpcs.length : Int) := by omega
          have hwr : IntKind.i64.wrap ((k : Int) + 1) = ((k + 1 : Nat) : Int) := by rw [IntKind.wrap_i64]; omega
          obtain ⟨y, hy⟩ : ∃ y, n.vpcs[k]? = some y := ⟨_, List.getElem?_eq_getElem hlt⟩
          have hyn := hne.out y (List.mem_of_getElem? hy)
          replace hyn := Lib.hid hyn
          cases f with
          | true =>
            have hi2 := Lib.hid (insI_t hins.out hy)
            repeat' (first | (with_reducible refine And.intro ?_ ?_) | (with_reducible refine gK_i (fun _ => ?_) (fun _ => ?_)) | (with_reducible refine condS_i (fun _ => ?_) (fun _ => ?_)) | (with_reducible refine drw_i (by kernel_rfl)) | simp -dsimp only [go_sem, seval, *, encT, encV, hkI, hwr, hy, hb1, undef] | ((with_reducible refine opK_c ?_); simp -dsimp only [go_sem, seval, encT, encV, hkI, hwr, hy, hb1, undef]; first | refine callK_r (by first | assumption | fail) (by first | exact .inl rfl | exact .inr rfl) ?_ | (refine callK_i (by assumption) ?_ ?_ ?_; (solve | (repeat (first | exact DLe.refl _ | exact DLe.nil _ | (refine DLe.tup ?_) | (refine DLe.agg ?_ rfl) | exact trivial | (refine And.intro ?_ ?_)))); (solve | exact .inl rfl | exact .inr rfl))) | fail | omega | exact decide_eq_true (by omega) | exact DLe.refl _)
            refine hC _ _ _ _ _ ?_ ⟨k + 1, g + 1, out ++ [y], true, hlt, hi2.out, rfl, rfl, rfl⟩ (weak_forget _ (by simp) (by simp only [encT, encV, List.map_append, List.map_cons, List.map_nil, ← dRows_app]; rfl) (by (repeat' (first | exact trivial | (refine ⟨rfl, ?_⟩)))) (by first | rfl | simp only [belowH, belowE, belowC, belowL, belowR, belowP, belowL_d, belowR_d, List.length_cons, List.length_nil, Nat.reduceAdd, Nat.reduceLT, decide_true, Bool.and_self, Bool.and_true]) (by first | rfl | simp only [belowH, belowE, belowC, belowL, belowR, belowP, belowL_d, belowR_d, List.length_cons, List.length_nil, Nat.reduceAdd, Nat.reduceLT, decide_true, Bool.and_self, Bool.and_true]))
            have := hm.out; omega
          | false =>
            cases b4 : decide (y.id > id) with
            | true =>
              have hi2 := Lib.hid (insI_h hins.out hy (of_decide_eq_true b4))
              repeat' (first | (with_reducible refine And.intro ?_ ?_) | (with_reducible refine gK_i (fun _ => ?_) (fun _ => ?_)) | (with_reducible refine condS_i (fun _ => ?_) (fun _ => ?_)) | (with_reducible refine drw_i (by kernel_rfl)) | simp -dsimp only [go_sem, seval, *, encT, encV, hkI, hwr, hy, hb1, hb2, b4, undef] | ((with_reducible refine opK_c ?_); simp -dsimp only [go_sem, seval, encT, encV, hkI, hwr, hy, hb1, hb2, b4, undef]; first | refine callK_r (by first | assumption | fail) (by first | exact .inl rfl | exact .inr rfl) ?_ | (refine callK_i (by assumption) ?_ ?_ ?_; (solve | (repeat (first | exact DLe.refl _ | exact DLe.nil _ | (refine DLe.tup ?_) | (refine DLe.agg ?_ rfl) | exact trivial | (refine And.intro ?_ ?_)))); (solve | exact .inl rfl | exact .inr rfl))) | fail | omega | exact decide_eq_true (by omega) | exact DLe.refl _)
              refine hC _ _ _ _ _ ?_ ⟨k + 1, g + 1 + 1, out ++ [⟨id, [], []⟩] ++ [y], true, hlt, hi2.out, rfl, rfl, rfl⟩ ((weak_row_le 8 rfl (by simp) (rows' := dRows ((out ++ [(⟨id, [], []⟩ : Vpc)] ++ [y]).map encV)) (by (try rw [dRows_app]); simp only [List.map_append, List.map_cons, List.map_nil, List.append_assoc, List.cons_append, List.nil_append]; exact rles_mid (by repeat (first | exact DLe.refl _ | exact DLe.nil _ | (refine DLe.tup ?_) | (refine DLe.agg ?_ rfl) | exact trivial | (refine And.intro ?_ ?_)))) (dRows_one2 (fun _ => rfl) _)).trans (weak_forget _ (by simp) (by rfl) (by (repeat' (first | exact trivial | (refine ⟨rfl, ?_⟩)))) (by first | rfl | simp only [belowH, belowE, belowC, belowL, belowR, belowP, belowL_d, belowR_d, List.length_cons, List.length_nil, Nat.reduceAdd, Nat.reduceLT, decide_true, Bool.and_self, Bool.and_true]) (by first | rfl | simp only [belowH, belowE, belowC, belowL, belowR, belowP, belowL_d, belowR_d, List.length_cons, List.length_nil, Nat.reduceAdd, Nat.reduceLT, decide_true, Bool.and_self, Bool.and_true])))
              have := hm.out; omega
            | false =>
              have hi2 := Lib.hid (insI_l hins.out hy (by have := hyn.out; have := of_decide_eq_false b4; show y.id < id; omega))
              repeat' (first | (with_reducible refine And.intro ?_ ?_) | (with_reducible refine gK_i (fun _ => ?_) (fun _ => ?_)) | (with_reducible refine condS_i (fun _ => ?_) (fun _ => ?_)) | (with_reducible refine drw_i (by kernel_rfl)) | simp -dsimp only [go_sem, seval, *, encT, encV, hkI, hwr, hy, hb1, b4, undef] | ((with_reducible refine opK_c ?_); simp -dsimp only [go_sem, seval, encT, encV, hkI, hwr, hy, hb1, b4, undef]; first | refine callK_r (by first | assumption | fail) (by first | exact .inl rfl | exact .inr rfl) ?_ | (refine callK_i (by assumption) ?_ ?_ ?_; (solve | (repeat (first | exact DLe.refl _ | exact DLe.nil _ | (refine DLe.tup ?_) | (refine DLe.agg ?_ rfl) | exact trivial | (refine And.intro ?_ ?_)))); (solve | exact .inl rfl | exact .inr rfl))) | fail | omega | exact decide_eq_true (by omega) | exact DLe.refl _)
              refine hC _ _ _ _ _ ?_ ⟨k + 1, g + 1, out ++ [y], false, hlt, hi2.out, rfl, rfl, rfl⟩ (weak_forget _ (by simp) (by simp only [encT, encV, List.map_append, List.map_cons, List.map_nil, ← dRows_app]; rfl) (by (repeat' (first | exact trivial | (refine ⟨rfl, ?_⟩)))) (by first | rfl | simp only [belowH, belowE, belowC, belowL, belowR, belowP, belowL_d, belowR_d, List.length_cons, List.length_nil, Nat.reduceAdd, Nat.reduceLT, decide_true, Bool.and_self, Bool.and_true]) (by first | rfl | simp only [belowH, belowE, belowC, belowL, belowR, belowP, belowL_d, belowR_d, List.length_cons, List.length_nil, Nat.reduceAdd, Nat.reduceLT, decide_true, Bool.and_self, Bool.and_true]))
              have := hm.out; omega
        · obtain rfl : k = n.vpcs.length := by omega
          have hr2 := hr.out
          clear hC
          cases f with
          | true =>
            have he := insI_et hins.out
            rw [← he] at hr2
            rw [hr2]
            replace he := Lib.hid he
            replace hr2 := Lib.hid hr2
            repeat' (first | (with_reducible refine And.intro ?_ ?_) | (with_reducible refine gK_i (fun _ => ?_) (fun _ => ?_)) | (with_reducible refine condS_i (fun _ => ?_) (fun _ => ?_)) | (with_reducible refine drw_i (by kernel_rfl)) | simp -dsimp only [go_sem, seval, *, encT, encV, Int.lt_irrefl, undef] | ((with_reducible refine opK_c ?_); simp -dsimp only [go_sem, seval, encT, encV, Int.lt_irrefl, undef]; first | refine callK_r (by first | assumption | fail) (by first | exact .inl rfl | exact .inr rfl) ?_ | (refine callK_i (by assumption) ?_ ?_ ?_; (solve | (repeat (first | exact DLe.refl _ | exact DLe.nil _ | (refine DLe.tup ?_) | (refine DLe.agg ?_ rfl) | exact trivial | (refine And.intro ?_ ?_)))); (solve | exact .inl rfl | exact .inr rfl))) | fail | omega | exact decide_eq_true (by omega) | exact DLe.refl _)
            all_goals exact (by repeat (first | exact DLe.refl _ | exact DLe.nil _ | (refine DLe.tup ?_) | (refine DLe.agg ?_ rfl) | exact trivial | (refine And.intro ?_ ?_)))
          | false =>
            have he := insI_ef hins.out
            rw [← he] at hr2
            rw [hr2]
            replace he := Lib.hid he
            replace hr2 := Lib.hid hr2
            repeat' (first | (with_reducible refine And.intro ?_ ?_) | (with_reducible refine gK_i (fun _ => ?_) (fun _ => ?_)) | (with_reducible refine condS_i (fun _ => ?_) (fun _ => ?_)) | (with_reducible refine drw_i (by kernel_rfl)) | simp -dsimp only [go_sem, seval, *, encT, encV, hb1, Int.lt_irrefl, undef] | ((with_reducible refine opK_c ?_); simp -dsimp only [go_sem, seval, encT, encV, hb1, Int.lt_irrefl, undef]; first | refine callK_r (by first | assumption | fail) (by first | exact .inl rfl | exact .inr rfl) ?_ | (refine callK_i (by assumption) ?_ ?_ ?_; (solve | (repeat (first | exact DLe.refl _ | exact DLe.nil _ | (refine DLe.tup ?_) | (refine DLe.agg ?_ rfl) | exact trivial | (refine And.intro ?_ ?_)))); (solve | exact .inl rfl | exact .inr rfl))) | fail | omega | exact decide_eq_true (by omega) | exact DLe.refl _)
            all_goals
              simp only [encT, List.map_append, List.map_cons, List.map_nil]
              exact DLe.tup ⟨DLe.agg ⟨DLe.sl (rdl_mid (by repeat (first | exact DLe.refl _ | exact DLe.nil _ | (refine DLe.tup ?_) | (refine DLe.agg ?_ rfl) | exact trivial | (refine And.intro ?_ ?_)))) (by intro r hr d hd; obtain ⟨x, -, rfl⟩ := List.mem_map.1 (by have h : r ∈ (out ++ [(⟨id, [], []⟩ : Vpc)]).map encV := (by rw [List.map_append]; exact hr); exact h); exact List.all_eq_true.1 (show (encV x).all D.one = true from rfl) d hd), DLe.refl _, trivial⟩ rfl, DLe.refl _, trivial⟩
  · have h1 : (chkT n != 0) = true := by simpa using hc
    have hr : R = (Net.zero, chkT n) := by rw [hR.out]; unfold makeN; rw [if_pos hc]
    rw [hr]
    replace hr := Lib.hid hr
    clear hR
    refine ps_i tab_ok mixed Tryz.func12 rfl Tryz.ntmps12 Tryz.results12 (by kernel_rfl) ?_
    repeat' (first | (with_reducible refine And.intro ?_ ?_) | (with_reducible refine gK_i (fun _ => ?_) (fun _ => ?_)) | (with_reducible refine condS_i (fun _ => ?_) (fun _ => ?_)) | (with_reducible refine drw_i (by kernel_rfl)) | simp -dsimp only [go_sem, seval, *, encT, h1] | ((with_reducible refine opK_c ?_); simp -dsimp only [go_sem, seval, encT, h1]; first | refine callK_r (by first | assumption | exact hck) (by first | exact .inl rfl | exact .inr rfl) ?_ | (refine callK_i (by assumption) ?_ ?_ ?_; (solve | (repeat (first | exact DLe.refl _ | exact DLe.nil _ | (refine DLe.tup ?_) | (refine DLe.agg ?_ rfl) | exact trivial | (refine And.intro ?_ ?_)))); (solve | exact .inl rfl | exact .inr rfl))) | fail | omega | exact decide_eq_true (by omega) | exact DLe.refl _)
    exact (by repeat (first | exact DLe.refl _ | exact DLe.nil _ | (refine DLe.tup ?_) | (refine DLe.agg ?_ rfl) | exact trivial | (refine And.intro ?_ ?_)))
/-- A net with a network that has grown is right just if there is peace. -/
theorem grown_chk {n : Net} (hok : NetOK n) {i : Nat} {v : Vpc} (hv : n.vpcs[i]? = some v) {r : Rng} (hg : (growV v r).2 = 0) : (chkT { n with vpcs := n.vpcs.set i (growV v r).1 } = 0 ↔ peaceN { n with vpcs := n.vpcs.set i (growV v r).1 } = true) ∧ NetZ { n with vpcs := n.vpcs.set i (growV v r).1 } := by
  have hvk := hok.vp v (List.mem_of_getElem? hv)
  have hgo := growV_ok hg
  have hck : chkV (growV v r).1 = 0 := growV_chk hg
  obtain ⟨hi, hve⟩ := List.getElem?_eq_some_iff.1 hv
  have hids : (n.vpcs.set i (growV v r).1).map (·.id) = n.vpcs.map (·.id) := by
    rw [List.map_set, hgo.1]
    apply List.ext_getElem?
    intro j
    rw [List.getElem?_set]
    split
    · rename_i hj
      subst hj
      rw [List.length_map, if_pos hi, List.getElem?_map, hv]; rfl
    · rfl
  generalize (growV v r).1 = w at *
  have hvp : ∀ u ∈ n.vpcs.set i w, chkV u = 0 := fun u hu => by
    rcases List.mem_or_eq_of_mem_set hu with hu | rfl
    · exact hok.vp u hu
    · exact hck
  have hri : (n.vpcs.set i w).Pairwise fun a b => a.id < b.id := by
    have h1 := hok.rise
    rw [← List.pairwise_map (f := fun v : Vpc => v.id) (R := fun a b : Int => a < b)] at h1 ⊢
    rw [hids]; exact h1
  have hfi : ∀ x, (findN { n with vpcs := n.vpcs.set i w } x).isSome = (findN n x).isSome := fun x => by
    have key : ∀ l : List Vpc, (l.find? fun v => v.id == x).isSome = decide (x ∈ l.map (·.id)) := fun l => by
      induction l with
      | nil => simp
      | cons a l ih =>
        rw [List.find?_cons]
        split
        · rename_i h; simp at h; simp [h]
        · rename_i h
          rw [ih]
          simp at h
          simp
          exact fun e => absurd e.symm h
    unfold findN
    simp only
    rw [key, key, hids]
  have hlk : ∀ l ∈ n.links, lnkB { n with vpcs := n.vpcs.set i w } l = true := fun l hl => by
    have := hok.lk l hl
    unfold lnkB at this ⊢
    rw [hfi, hfi]; exact this
  refine ⟨⟨fun h => (netOK.1 h).pe, fun h => netOK.2 ⟨by simp; exact hok.n6, hok.n12, hvp, hri, hlk, hok.rk, h⟩⟩, fun u hu => ?_⟩
  have := vpcOK_of (hvp u hu)
  exact ⟨by have := this.n6; omega, fun s hs => by have := (this.n8 s hs).1; omega⟩
set_option maxRecDepth 100000 in
set_option maxHeartbeats 2000000 in
theorem growNet_p (n : Net) (id : Int) (r : Rng) (hz : NetZ n) : PSpec Tryz.prog 13 [.agg (encT n), .v (.int .i64 id), .agg (encG r)] (.tup [.agg (encT (growN n id r).1), .v (.int .i64 (growN n id r).2)]) := by
  obtain ⟨R, hR⟩ : ∃ R, R = growN n id r := ⟨_, rfl⟩
  rw [← hR]
  replace hR := Lib.hid hR
  have hck := checkNet_p n hz
  by_cases hc : chkT n = 0
  · have hok := netOK.1 hc
    have h6 := hok.n6
    have hob := ownNet_m n hok.n6 hok.n12 hok.vp
    have hat := vpcAt_p n id (by omega)
    rw [vpcAt_ix] at hat
    rw [hc] at hck
    have hm1 : decide ((-1 : Int) < 0) = true := rfl
    cases hx : vpcIx n id with
    | none =>
      rw [hx] at hat
      simp only at hat
      have hr : R = (Net.zero, 5) := by rw [hR.out]; unfold growN; rw [if_neg (by simpa using hc), hx]
      rw [hr]
      clear hr hR hok hx hc
      refine ps_i tab_ok mixed Tryz.func13 rfl Tryz.ntmps13 Tryz.results13 (by kernel_rfl) ?_
      repeat' (first | (with_reducible refine And.intro ?_ ?_) | (with_reducible refine gK_i (fun _ => ?_) (fun _ => ?_)) | (with_reducible refine condS_i (fun _ => ?_) (fun _ => ?_)) | (with_reducible refine drw_i (by kernel_rfl)) | simp -dsimp only [go_sem, seval, *, encT, encG, hm1, undef] | ((with_reducible refine opK_c ?_); simp -dsimp only [go_sem, seval, encT, encG, hm1, undef]; first | refine callK_r (by first | assumption | exact hck | exact hat) (by first | exact .inl rfl | exact .inr rfl) ?_ | (refine callK_i (by assumption) ?_ ?_ ?_; (solve | (repeat (first | exact DLe.refl _ | exact DLe.nil _ | (refine DLe.tup ?_) | (refine DLe.agg ?_ rfl) | exact trivial | (refine And.intro ?_ ?_)))); (solve | exact .inl rfl | exact .inr rfl))) | fail | omega | exact decide_eq_true (by omega) | exact DLe.refl _)
      all_goals exact (by repeat (first | exact DLe.refl _ | exact DLe.nil _ | (refine DLe.tup ?_) | (refine DLe.agg ?_ rfl) | exact trivial | (refine And.intro ?_ ?_)))
    | some i =>
      obtain ⟨v, hv, he, hi, hfs⟩ := vpcIx_some hx
      rw [hx] at hat
      simp only at hat
      have hzv := hz v (List.mem_of_getElem? hv)
      have hgp := growVpc_p v r hzv.1 hzv.2
      have hi0 : decide ((i : Int) < 0) = false := by simp
      have hiI : (0 : Int) ≤ (i : Int) := by omega
      have hiL : (i : Int) < (n.vpcs.length : Int) := by omega
      by_cases hg : (growV v r).2 = 0
      · have hgc := grown_chk hok hv hg
        have hck2 := checkNet_p _ hgc.2
        have hR2 : R = if peaceN { n with vpcs := n.vpcs.set i (growV v r).1 } = true then ({ n with vpcs := n.vpcs.set i (growV v r).1 }, 0) else (Net.zero, 9) := by
          rw [hR.out]; unfold growN; rw [if_neg (by simpa using hc), hx]; simp only [hv]; rw [if_neg (by simpa using hg)]
        rw [hg] at hgp
        have hiff := hgc.1
        clear hR hok hx hc hg hfs hgc hz
        replace he := Lib.hid he
        generalize (growV v r).1 = w at *
        have hrow : (dRows (n.vpcs.map encV)).set i [.d (.v (.int .i64 w.id)), .d (.sl 3 (w.ranges.map encG)), .d (.sl 4 (w.subs.map encN))] = dRows ((n.vpcs.set i w).map encV) := dRows_setrow encV n.vpcs i w
        by_cases hq : chkT { n with vpcs := n.vpcs.set i w } = 0
        · have hr : R = ({ n with vpcs := n.vpcs.set i w }, 0) := by rw [hR2, if_pos (hiff.1 hq)]
          rw [hq] at hck2
          rw [hr]
          clear hr hR2 hq hiff
          refine ps_i tab_ok mixed Tryz.func13 rfl Tryz.ntmps13 Tryz.results13 (by kernel_rfl) ?_
          repeat' (first | (with_reducible refine And.intro ?_ ?_) | (with_reducible refine gK_i (fun _ => ?_) (fun _ => ?_)) | (with_reducible refine condS_i (fun _ => ?_) (fun _ => ?_)) | (with_reducible refine drw_i (by kernel_rfl)) | simp -dsimp only [go_sem, seval, *, encT, encV, encG, hv, hi, hiI, hiL, hi0, hrow, undef] | ((with_reducible refine opK_c ?_); simp -dsimp only [go_sem, seval, encT, encV, encG, hv, hi, hiI, hiL, hi0, hrow, undef]; first | refine callK_r (by first | assumption | exact hck | exact hat | exact hgp | exact hck2) (by first | exact .inl rfl | exact .inr rfl) ?_ | (refine callK_i (by assumption) ?_ ?_ ?_; (solve | (repeat (first | exact DLe.refl _ | exact DLe.nil _ | (refine DLe.tup ?_) | (refine DLe.agg ?_ rfl) | exact trivial | (refine And.intro ?_ ?_)))); (solve | exact .inl rfl | exact .inr rfl))) | (refine opK_M [] (hob) ?_ ?_ ?_ ?_ ?_ ?_; (solve | rfl | simp only [go_sem, seval, encT]); (solve | rfl); (solve | decide); (solve | simp); (solve | simp only [go_sem, seval, lentOK, encT])) | omega | exact decide_eq_true (by omega) | exact DLe.refl _)
          all_goals exact (by repeat (first | exact DLe.refl _ | exact DLe.nil _ | (refine DLe.tup ?_) | (refine DLe.agg ?_ rfl) | exact trivial | (refine And.intro ?_ ?_)))
        · have hr : R = (Net.zero, 9) := by rw [hR2, if_neg (fun h => hq (hiff.2 h))]
          have hqb : (chkT { n with vpcs := n.vpcs.set i w } != 0) = true := by simpa using hq
          rw [hr]
          clear hr hR2 hq hiff
          generalize chkT { n with vpcs := n.vpcs.set i w } = Q at *
          refine ps_i tab_ok mixed Tryz.func13 rfl Tryz.ntmps13 Tryz.results13 (by kernel_rfl) ?_
          repeat' (first | (with_reducible refine And.intro ?_ ?_) | (with_reducible refine gK_i (fun _ => ?_) (fun _ => ?_)) | (with_reducible refine condS_i (fun _ => ?_) (fun _ => ?_)) | (with_reducible refine drw_i (by kernel_rfl)) | simp -dsimp only [go_sem, seval, *, encT, encV, encG, hv, hi, hiI, hiL, hi0, hrow, hqb, undef] | ((with_reducible refine opK_c ?_); simp -dsimp only [go_sem, seval, encT, encV, encG, hv, hi, hiI, hiL, hi0, hrow, hqb, undef]; first | refine callK_r (by first | assumption | exact hck | exact hat | exact hgp | exact hck2) (by first | exact .inl rfl | exact .inr rfl) ?_ | (refine callK_i (by assumption) ?_ ?_ ?_; (solve | (repeat (first | exact DLe.refl _ | exact DLe.nil _ | (refine DLe.tup ?_) | (refine DLe.agg ?_ rfl) | exact trivial | (refine And.intro ?_ ?_)))); (solve | exact .inl rfl | exact .inr rfl))) | (refine opK_M [] (hob) ?_ ?_ ?_ ?_ ?_ ?_; (solve | rfl | simp only [go_sem, seval, encT]); (solve | rfl); (solve | decide); (solve | simp); (solve | simp only [go_sem, seval, lentOK, encT])) | omega | exact decide_eq_true (by omega) | exact DLe.refl _)
          all_goals exact (by repeat (first | exact DLe.refl _ | exact DLe.nil _ | (refine DLe.tup ?_) | (refine DLe.agg ?_ rfl) | exact trivial | (refine And.intro ?_ ?_)))
      · have hr : R = (Net.zero, (growV v r).2) := by
          rw [hR.out]; unfold growN; rw [if_neg (by simpa using hc), hx]; simp only [hv]; rw [if_pos hg]
        have hgb : ((growV v r).2 != 0) = true := by simpa using hg
        rw [hr]
        clear hr hR hok hx hc hg hfs hz
        replace he := Lib.hid he
        generalize (growV v r).1 = w at *
        generalize (growV v r).2 = E at *
        refine ps_i tab_ok mixed Tryz.func13 rfl Tryz.ntmps13 Tryz.results13 (by kernel_rfl) ?_
        repeat' (first | (with_reducible refine And.intro ?_ ?_) | (with_reducible refine gK_i (fun _ => ?_) (fun _ => ?_)) | (with_reducible refine condS_i (fun _ => ?_) (fun _ => ?_)) | (with_reducible refine drw_i (by kernel_rfl)) | simp -dsimp only [go_sem, seval, *, encT, encV, encG, hv, hi, hiI, hiL, hi0, hgb, undef] | ((with_reducible refine opK_c ?_); simp -dsimp only [go_sem, seval, encT, encV, encG, hv, hi, hiI, hiL, hi0, hgb, undef]; first | refine callK_r (by first | assumption | exact hck | exact hat | exact hgp) (by first | exact .inl rfl | exact .inr rfl) ?_ | (refine callK_i (by assumption) ?_ ?_ ?_; (solve | (repeat (first | exact DLe.refl _ | exact DLe.nil _ | (refine DLe.tup ?_) | (refine DLe.agg ?_ rfl) | exact trivial | (refine And.intro ?_ ?_)))); (solve | exact .inl rfl | exact .inr rfl))) | fail | omega | exact decide_eq_true (by omega) | exact DLe.refl _)
        all_goals exact (by repeat (first | exact DLe.refl _ | exact DLe.nil _ | (refine DLe.tup ?_) | (refine DLe.agg ?_ rfl) | exact trivial | (refine And.intro ?_ ?_)))
  · have h1 : (chkT n != 0) = true := by simpa using hc
    have hr : R = (Net.zero, chkT n) := by rw [hR.out]; unfold growN; rw [if_pos hc]
    rw [hr]
    replace hr := Lib.hid hr
    clear hR
    refine ps_i tab_ok mixed Tryz.func13 rfl Tryz.ntmps13 Tryz.results13 (by kernel_rfl) ?_
    repeat' (first | (with_reducible refine And.intro ?_ ?_) | (with_reducible refine gK_i (fun _ => ?_) (fun _ => ?_)) | (with_reducible refine condS_i (fun _ => ?_) (fun _ => ?_)) | (with_reducible refine drw_i (by kernel_rfl)) | simp -dsimp only [go_sem, seval, *, encT, encG, h1] | ((with_reducible refine opK_c ?_); simp -dsimp only [go_sem, seval, encT, encG, h1]; first | refine callK_r (by first | assumption | exact hck) (by first | exact .inl rfl | exact .inr rfl) ?_ | (refine callK_i (by assumption) ?_ ?_ ?_; (solve | (repeat (first | exact DLe.refl _ | exact DLe.nil _ | (refine DLe.tup ?_) | (refine DLe.agg ?_ rfl) | exact trivial | (refine And.intro ?_ ?_)))); (solve | exact .inl rfl | exact .inr rfl))) | fail | omega | exact decide_eq_true (by omega) | exact DLe.refl _)
    exact (by repeat (first | exact DLe.refl _ | exact DLe.nil _ | (refine DLe.tup ?_) | (refine DLe.agg ?_ rfl) | exact trivial | (refine And.intro ?_ ?_)))
end Go.Proofs.YtgmbhaclogabeaaGreat
namespace Go.Proofs.YtgmbhaclogabeaaGreat
open Go Go.RowKit
theorem eqG_list (p q : Rng) : ([p.at_.at_, p.at_.len, p.pool] == [q.at_.at_, q.at_.len, q.pool]) = decide (p = q) := by
  rw [Bool.eq_iff_iff]
  cases p; cases q
  rename_i a b c d
  cases a; cases c
  simp [and_assoc]
theorem pre_snoc {α : Type} {l m : List α} {k : Nat} {x y : α} (hx : l[k]? = some x) (hy : m[k]? = some y) (h : l.take k = m.take k) (e : x = y) : l.take (k + 1) = m.take (k + 1) := by rw [take_snoc hx, take_snoc hy, h, e]
theorem pre_full {α : Type} {l m : List α} (hl : l.length = m.length) (h : l.take l.length = m.take l.length) : l = m := by
  rw [List.take_length, hl, List.take_length] at h; exact h
set_option maxRecDepth 100000 in
set_option maxHeartbeats 2000000 in
theorem sameVpcs_p (v w : Vpc) (hv1 : v.ranges.length ≤ 1000000000) (hv2 : v.subs.length ≤ 1000000000) (hv3 : ∀ s ∈ v.subs, s.faces.length ≤ 1000000000 ∧ ∀ f ∈ s.faces, f.addrs.length ≤ 1000000000) (hw3 : ∀ s ∈ w.subs, ∀ f ∈ s.faces, f.addrs.length ≤ 1000000000) : PSpec Tryz.prog 39 [.agg (encV v), .agg (encV w)] (.v (.bool (decide (v = w)))) := by
  obtain ⟨R, hR⟩ : ∃ R, R = decide (v = w) := ⟨_, rfl⟩
  rw [← hR]
  replace hR := Lib.hid hR
  have hno : v ≠ w → R = false := fun h => by rw [hR.out]; exact decide_eq_false h
  replace hno := Lib.hid hno
  replace hv3 := Lib.hid hv3
  replace hw3 := Lib.hid hw3
  by_cases c1 : v.id = w.id ∧ v.ranges.length = w.ranges.length ∧ v.subs.length = w.subs.length
  · obtain ⟨e1, e2, e3⟩ := c1
    have d1 : (v.id != w.id) = false := by simp [e1]
    have d2 : ((v.ranges.length : Int) != (w.ranges.length : Int)) = false := by simp [e2]
    have d3 : ((v.subs.length : Int) != (w.subs.length : Int)) = false := by simp [e3]
    replace e1 := Lib.hid e1
    replace e2 := Lib.hid e2
    replace e3 := Lib.hid e3
    refine ps_i tab_ok mixed Tryz.func39 rfl Tryz.ntmps39 Tryz.results39 (by kernel_rfl) ?_
    repeat' (first | (with_reducible refine And.intro ?_ ?_) | (with_reducible refine gK_i (fun _ => ?_) (fun _ => ?_)) | (with_reducible refine condS_i (fun _ => ?_) (fun _ => ?_)) | (with_reducible refine drw_i (by kernel_rfl)) | simp -dsimp only [go_sem, seval, *, encV, d1, d2, d3, undef] | ((with_reducible refine opK_c ?_); simp -dsimp only [go_sem, seval, encV, d1, d2, d3, undef]; first | refine callK_r (by first | assumption | fail) (by first | exact .inl rfl | exact .inr rfl) ?_ | (refine callK_i (by assumption) ?_ ?_ ?_; (solve | (repeat (first | exact DLe.refl _ | exact DLe.nil _ | (refine DLe.tup ?_) | (refine DLe.agg ?_ rfl) | exact trivial | (refine And.intro ?_ ?_)))); (solve | exact .inl rfl | exact .inr rfl))) | fail | omega | exact decide_eq_true (by omega) | exact DLe.refl _)
    refine loopL tab_ok mixed v.ranges (fun k => v.ranges.take k = w.ranges.take k) (fun k => [(5, .d (.v (.int .i64 k))), (4, .d (.v (.bool false))), (3, .ptr 1 0), (2, .ptr 0 0)]) (fun _ => [.box 56 ((encV v).map .d), .box 56 ((encV w).map .d)]) rfl (weak_forget _ (by simp) (by (try simp only [encV]); rfl) (by (repeat' (first | exact trivial | (refine ⟨rfl, ?_⟩)))) (by first | rfl | simp only [belowH, belowE, belowC, belowL, belowR, belowP, belowL_d, belowR_d, List.length_cons, List.length_nil, Nat.reduceAdd, Nat.reduceLT, decide_true, Bool.and_self, Bool.and_true]) (by first | rfl | simp only [belowH, belowE, belowC, belowL, belowR, belowP, belowL_d, belowR_d, List.length_cons, List.length_nil, Nat.reduceAdd, Nat.reduceLT, decide_true, Bool.and_self, Bool.and_true])) ?_ ?_
    · intro k x hx hk hI C hC
      have hkI : (k : Int) < (v.ranges.length : Int) := by omega
      have hwr : IntKind.i64.wrap ((k : Int) + 1) = ((k + 1 : Nat) : Int) := by rw [IntKind.wrap_i64]; omega
      obtain ⟨y, hy⟩ : ∃ y, w.ranges[k]? = some y := ⟨_, List.getElem?_eq_getElem (by rw [← e2.out]; exact hk)⟩
      replace hI := Lib.hid hI
      have he := eqG_list x y
      by_cases h1 : x = y
      · have hI2 := Lib.hid (pre_snoc hx hy hI.out h1)
        rw [decide_eq_true h1] at he
        replace h1 := Lib.hid h1
        repeat' (first | (with_reducible refine And.intro ?_ ?_) | (with_reducible refine gK_i (fun _ => ?_) (fun _ => ?_)) | (with_reducible refine condS_i (fun _ => ?_) (fun _ => ?_)) | (with_reducible refine drw_i (by kernel_rfl)) | simp -dsimp only [go_sem, seval, *, encV, encG, hkI, hwr, hx, hy, he, bne, undef] | ((with_reducible refine opK_c ?_); simp -dsimp only [go_sem, seval, encV, encG, hkI, hwr, hx, hy, he, bne, undef]; first | refine callK_r (by first | assumption | fail) (by first | exact .inl rfl | exact .inr rfl) ?_ | (refine callK_i (by assumption) ?_ ?_ ?_; (solve | (repeat (first | exact DLe.refl _ | exact DLe.nil _ | (refine DLe.tup ?_) | (refine DLe.agg ?_ rfl) | exact trivial | (refine And.intro ?_ ?_)))); (solve | exact .inl rfl | exact .inr rfl))) | fail | omega | exact decide_eq_true (by omega) | exact DLe.refl _)
        exact hC _ _ hI2.out (weak_forget _ (by simp) (by (try simp only [encV]); rfl) (by (repeat' (first | exact trivial | (refine ⟨rfl, ?_⟩)))) (by first | rfl | simp only [belowH, belowE, belowC, belowL, belowR, belowP, belowL_d, belowR_d, List.length_cons, List.length_nil, Nat.reduceAdd, Nat.reduceLT, decide_true, Bool.and_self, Bool.and_true]) (by first | rfl | simp only [belowH, belowE, belowC, belowL, belowR, belowP, belowL_d, belowR_d, List.length_cons, List.length_nil, Nat.reduceAdd, Nat.reduceLT, decide_true, Bool.and_self, Bool.and_true]))
      · have hb : R = false := hno.out (fun e => h1 (by subst e; rw [hx] at hy; exact Option.some.inj hy))
        rw [decide_eq_false h1] at he
        rw [hb]
        replace hb := Lib.hid hb
        replace h1 := Lib.hid h1
        repeat' (first | (with_reducible refine And.intro ?_ ?_) | (with_reducible refine gK_i (fun _ => ?_) (fun _ => ?_)) | (with_reducible refine condS_i (fun _ => ?_) (fun _ => ?_)) | (with_reducible refine drw_i (by kernel_rfl)) | simp -dsimp only [go_sem, seval, *, encV, encG, hkI, hwr, hx, hy, he, bne, undef] | ((with_reducible refine opK_c ?_); simp -dsimp only [go_sem, seval, encV, encG, hkI, hwr, hx, hy, he, bne, undef]; first | refine callK_r (by first | assumption | fail) (by first | exact .inl rfl | exact .inr rfl) ?_ | (refine callK_i (by assumption) ?_ ?_ ?_; (solve | (repeat (first | exact DLe.refl _ | exact DLe.nil _ | (refine DLe.tup ?_) | (refine DLe.agg ?_ rfl) | exact trivial | (refine And.intro ?_ ?_)))); (solve | exact .inl rfl | exact .inr rfl))) | fail | omega | exact decide_eq_true (by omega) | exact DLe.refl _)
        all_goals exact DLe.refl _
    · intro hI C
      have hrr := Lib.hid (pre_full e2.out hI)
      replace hI := Lib.hid hI
      repeat' (first | (with_reducible refine And.intro ?_ ?_) | (with_reducible refine gK_i (fun _ => ?_) (fun _ => ?_)) | (with_reducible refine condS_i (fun _ => ?_) (fun _ => ?_)) | (with_reducible refine drw_i (by kernel_rfl)) | simp -dsimp only [go_sem, seval, *, encV, Int.lt_irrefl, undef] | ((with_reducible refine opK_c ?_); simp -dsimp only [go_sem, seval, encV, Int.lt_irrefl, undef]; first | refine callK_r (by first | assumption | fail) (by first | exact .inl rfl | exact .inr rfl) ?_ | (refine callK_i (by assumption) ?_ ?_ ?_; (solve | (repeat (first | exact DLe.refl _ | exact DLe.nil _ | (refine DLe.tup ?_) | (refine DLe.agg ?_ rfl) | exact trivial | (refine And.intro ?_ ?_)))); (solve | exact .inl rfl | exact .inr rfl))) | fail | omega | exact decide_eq_true (by omega) | exact DLe.refl _)
      clear hI
      refine loopL tab_ok mixed v.subs (fun k => v.subs.take k = w.subs.take k) (fun k => [(6, .d (.v (.int .i64 k))), (4, .d (.v (.bool false))), (3, .ptr 1 0), (2, .ptr 0 0)]) (fun _ => [.box 56 ((encV v).map .d), .box 56 ((encV w).map .d)]) rfl (weak_forget _ (by simp) (by (try simp only [encV]); rfl) (by (repeat' (first | exact trivial | (refine ⟨rfl, ?_⟩)))) (by first | rfl | simp only [belowH, belowE, belowC, belowL, belowR, belowP, belowL_d, belowR_d, List.length_cons, List.length_nil, Nat.reduceAdd, Nat.reduceLT, decide_true, Bool.and_self, Bool.and_true]) (by first | rfl | simp only [belowH, belowE, belowC, belowL, belowR, belowP, belowL_d, belowR_d, List.length_cons, List.length_nil, Nat.reduceAdd, Nat.reduceLT, decide_true, Bool.and_self, Bool.and_true])) ?_ ?_
      · intro k x hx hk hI C hC
        have hkI : (k : Int) < (v.subs.length : Int) := by omega
        have hwr : IntKind.i64.wrap ((k : Int) + 1) = ((k + 1 : Nat) : Int) := by rw [IntKind.wrap_i64]; omega
        obtain ⟨y, hy⟩ : ∃ y, w.subs[k]? = some y := ⟨_, List.getElem?_eq_getElem (by rw [← e3.out]; exact hk)⟩
        have hxl := hv3.out x (List.mem_of_getElem? hx)
        have hyl := hw3.out y (List.mem_of_getElem? hy)
        have hxl1 := hxl.1
        have hxl2 := Lib.hid hxl.2
        clear hxl
        replace hyl := Lib.hid hyl
        have hbad : x ≠ y → R = false := fun h => hno.out (fun e => h (by subst e; rw [hx] at hy; exact Option.some.inj hy))
        replace hbad := Lib.hid hbad
        replace hI := Lib.hid hI
        have he := eqP_list x.at_ y.at_
        by_cases c2 : x.id = y.id ∧ x.at_ = y.at_ ∧ x.faces.length = y.faces.length
        · obtain ⟨f1, f2, f3⟩ := c2
          have g1 : (x.id == y.id) = true := by simp [f1]
          have g3 : ((x.faces.length : Int) == (y.faces.length : Int)) = true := by simp [f3]
          rw [decide_eq_true f2] at he
          replace f1 := Lib.hid f1
          replace f2 := Lib.hid f2
          replace f3 := Lib.hid f3
          repeat' (first | (with_reducible refine And.intro ?_ ?_) | (with_reducible refine gK_i (fun _ => ?_) (fun _ => ?_)) | (with_reducible refine condS_i (fun _ => ?_) (fun _ => ?_)) | (with_reducible refine drw_i (by kernel_rfl)) | simp -dsimp only [go_sem, seval, *, encV, encN, hkI, hx, hy, he, g1, g3, bne, undef] | ((with_reducible refine opK_c ?_); simp -dsimp only [go_sem, seval, encV, encN, hkI, hx, hy, he, g1, g3, bne, undef]; first | refine callK_r (by first | assumption | fail) (by first | exact .inl rfl | exact .inr rfl) ?_ | (refine callK_i (by assumption) ?_ ?_ ?_; (solve | (repeat (first | exact DLe.refl _ | exact DLe.nil _ | (refine DLe.tup ?_) | (refine DLe.agg ?_ rfl) | exact trivial | (refine And.intro ?_ ?_)))); (solve | exact .inl rfl | exact .inr rfl))) | fail | omega | exact decide_eq_true (by omega) | exact DLe.refl _)
          refine loopL tab_ok mixed x.faces (fun j => x.faces.take j = y.faces.take j) (fun j => [(9, .d (.v (.int .i64 j))), (8, .ptr 3 0), (7, .ptr 2 0), (6, .d (.v (.int .i64 k))), (4, .d (.v (.bool false))), (3, .ptr 1 0), (2, .ptr 0 0)]) (fun _ => [.box 56 ((encV v).map .d), .box 56 ((encV w).map .d), .box 86 ((encN x).map .d), .box 86 ((encN y).map .d)]) rfl (weak_forget _ (by simp) (by (try simp only [encV, encN]); rfl) (by (repeat' (first | exact trivial | (refine ⟨rfl, ?_⟩)))) (by first | rfl | simp only [belowH, belowE, belowC, belowL, belowR, belowP, belowL_d, belowR_d, List.length_cons, List.length_nil, Nat.reduceAdd, Nat.reduceLT, decide_true, Bool.and_self, Bool.and_true]) (by first | rfl | simp only [belowH, belowE, belowC, belowL, belowR, belowP, belowL_d, belowR_d, List.length_cons, List.length_nil, Nat.reduceAdd, Nat.reduceLT, decide_true, Bool.and_self, Bool.and_true])) ?_ ?_
          · intro j f hf hj hJ C2 hC2
            have hjI : (j : Int) < (x.faces.length : Int) := by omega
            have hwj : IntKind.i64.wrap ((j : Int) + 1) = ((j + 1 : Nat) : Int) := by rw [IntKind.wrap_i64]; omega
            obtain ⟨g, hg⟩ : ∃ g, y.faces[j]? = some g := ⟨_, List.getElem?_eq_getElem (by rw [← f3.out]; exact hj)⟩
            have hsi := sameInts_p f.addrs g.addrs (hxl2.out f (List.mem_of_getElem? hf)) (hyl.out g (List.mem_of_getElem? hg))
            have hbf : f ≠ g → R = false := fun h => hbad.out (fun e => h (by subst e; rw [hf] at hg; exact Option.some.inj hg))
            replace hbf := Lib.hid hbf
            replace hJ := Lib.hid hJ
            by_cases i1 : f.id = g.id
            · have n1 : (f.id == g.id) = true := by simp [i1]
              by_cases i2 : f.addrs = g.addrs
              · rw [decide_eq_true i2] at hsi
                have hfg : f = g := by cases f; cases g; simp at i1 i2; rw [i1, i2]
                have hJ2 := Lib.hid (pre_snoc hf hg hJ.out hfg)
                replace hfg := Lib.hid hfg
                replace i1 := Lib.hid i1
                replace i2 := Lib.hid i2
                repeat' (first | (with_reducible refine And.intro ?_ ?_) | (with_reducible refine gK_i (fun _ => ?_) (fun _ => ?_)) | (with_reducible refine condS_i (fun _ => ?_) (fun _ => ?_)) | (with_reducible refine drw_i (by kernel_rfl)) | simp -dsimp only [go_sem, seval, *, encV, encN, encF, hjI, hwj, hf, hg, n1, bne, undef] | ((with_reducible refine opK_c ?_); simp -dsimp only [go_sem, seval, encV, encN, encF, hjI, hwj, hf, hg, n1, bne, undef]; first | refine callK_r (by first | assumption | exact hsi) (by first | exact .inl rfl | exact .inr rfl) ?_ | (refine callK_i (by assumption) ?_ ?_ ?_; (solve | (repeat (first | exact DLe.refl _ | exact DLe.nil _ | (refine DLe.tup ?_) | (refine DLe.agg ?_ rfl) | exact trivial | (refine And.intro ?_ ?_)))); (solve | exact .inl rfl | exact .inr rfl))) | fail | omega | exact decide_eq_true (by omega) | exact DLe.refl _)
                exact hC2 _ _ hJ2.out (weak_forget _ (by simp) (by (try simp only [encV, encN]); rfl) (by (repeat' (first | exact trivial | (refine ⟨rfl, ?_⟩)))) (by first | rfl | simp only [belowH, belowE, belowC, belowL, belowR, belowP, belowL_d, belowR_d, List.length_cons, List.length_nil, Nat.reduceAdd, Nat.reduceLT, decide_true, Bool.and_self, Bool.and_true]) (by first | rfl | simp only [belowH, belowE, belowC, belowL, belowR, belowP, belowL_d, belowR_d, List.length_cons, List.length_nil, Nat.reduceAdd, Nat.reduceLT, decide_true, Bool.and_self, Bool.and_true]))
              · rw [decide_eq_false i2] at hsi
                have hb : R = false := hbf.out (fun e => i2 (by rw [e]))
                rw [hb]
                replace hb := Lib.hid hb
                replace i1 := Lib.hid i1
                replace i2 := Lib.hid i2
                repeat' (first | (with_reducible refine And.intro ?_ ?_) | (with_reducible refine gK_i (fun _ => ?_) (fun _ => ?_)) | (with_reducible refine condS_i (fun _ => ?_) (fun _ => ?_)) | (with_reducible refine drw_i (by kernel_rfl)) | simp -dsimp only [go_sem, seval, *, encV, encN, encF, hjI, hwj, hf, hg, n1, bne, undef] | ((with_reducible refine opK_c ?_); simp -dsimp only [go_sem, seval, encV, encN, encF, hjI, hwj, hf, hg, n1, bne, undef]; first | refine callK_r (by first | assumption | exact hsi) (by first | exact .inl rfl | exact .inr rfl) ?_ | (refine callK_i (by assumption) ?_ ?_ ?_; (solve | (repeat (first | exact DLe.refl _ | exact DLe.nil _ | (refine DLe.tup ?_) | (refine DLe.agg ?_ rfl) | exact trivial | (refine And.intro ?_ ?_)))); (solve | exact .inl rfl | exact .inr rfl))) | fail | omega | exact decide_eq_true (by omega) | exact DLe.refl _)
                all_goals exact DLe.refl _
            · have n1 : (f.id == g.id) = false := by simpa using i1
              have hb : R = false := hbf.out (fun e => i1 (by rw [e]))
              rw [hb]
              replace hb := Lib.hid hb
              replace i1 := Lib.hid i1
              repeat' (first | (with_reducible refine And.intro ?_ ?_) | (with_reducible refine gK_i (fun _ => ?_) (fun _ => ?_)) | (with_reducible refine condS_i (fun _ => ?_) (fun _ => ?_)) | (with_reducible refine drw_i (by kernel_rfl)) | simp -dsimp only [go_sem, seval, *, encV, encN, encF, hjI, hwj, hf, hg, n1, bne, undef] | ((with_reducible refine opK_c ?_); simp -dsimp only [go_sem, seval, encV, encN, encF, hjI, hwj, hf, hg, n1, bne, undef]; first | refine callK_r (by first | assumption | exact hsi) (by first | exact .inl rfl | exact .inr rfl) ?_ | (refine callK_i (by assumption) ?_ ?_ ?_; (solve | (repeat (first | exact DLe.refl _ | exact DLe.nil _ | (refine DLe.tup ?_) | (refine DLe.agg ?_ rfl) | exact trivial | (refine And.intro ?_ ?_)))); (solve | exact .inl rfl | exact .inr rfl))) | fail | omega | exact decide_eq_true (by omega) | exact DLe.refl _)
              all_goals exact DLe.refl _
          · intro hJ C2
            have hff := pre_full f3.out hJ
            have hxy : x = y := by
              have h1 := f1.out; have h2 := f2.out
              cases x; cases y; simp at h1 h2 hff; rw [h1, h2, hff]
            have hI2 := Lib.hid (pre_snoc hx hy hI.out hxy)
            replace hJ := Lib.hid hJ
            replace hff := Lib.hid hff
            replace hxy := Lib.hid hxy
            repeat' (first | (with_reducible refine And.intro ?_ ?_) | (with_reducible refine gK_i (fun _ => ?_) (fun _ => ?_)) | (with_reducible refine condS_i (fun _ => ?_) (fun _ => ?_)) | (with_reducible refine drw_i (by kernel_rfl)) | simp -dsimp only [go_sem, seval, *, encV, encN, hwr, Int.lt_irrefl, undef] | ((with_reducible refine opK_c ?_); simp -dsimp only [go_sem, seval, encV, encN, hwr, Int.lt_irrefl, undef]; first | refine callK_r (by first | assumption | fail) (by first | exact .inl rfl | exact .inr rfl) ?_ | (refine callK_i (by assumption) ?_ ?_ ?_; (solve | (repeat (first | exact DLe.refl _ | exact DLe.nil _ | (refine DLe.tup ?_) | (refine DLe.agg ?_ rfl) | exact trivial | (refine And.intro ?_ ?_)))); (solve | exact .inl rfl | exact .inr rfl))) | fail | omega | exact decide_eq_true (by omega) | exact DLe.refl _)
            exact hC _ _ hI2.out (weak_forget _ (by simp) (by (try simp only [encV]); rfl) (by (repeat' (first | exact trivial | (refine ⟨rfl, ?_⟩)))) (by first | rfl | simp only [belowH, belowE, belowC, belowL, belowR, belowP, belowL_d, belowR_d, List.length_cons, List.length_nil, Nat.reduceAdd, Nat.reduceLT, decide_true, Bool.and_self, Bool.and_true]) (by first | rfl | simp only [belowH, belowE, belowC, belowL, belowR, belowP, belowL_d, belowR_d, List.length_cons, List.length_nil, Nat.reduceAdd, Nat.reduceLT, decide_true, Bool.and_self, Bool.and_true]))
        · have hb : R = false := hbad.out (fun e => c2 ⟨by rw [e], by rw [e], by rw [e]⟩)
          rw [hb]
          replace hb := Lib.hid hb
          rw [Decidable.not_and_iff_or_not, Decidable.not_and_iff_or_not] at c2
          rcases c2 with c2 | c2 | c2
          · have g1 : (x.id == y.id) = false := by simpa using c2
            replace c2 := Lib.hid c2
            repeat' (first | (with_reducible refine And.intro ?_ ?_) | (with_reducible refine gK_i (fun _ => ?_) (fun _ => ?_)) | (with_reducible refine condS_i (fun _ => ?_) (fun _ => ?_)) | (with_reducible refine drw_i (by kernel_rfl)) | simp -dsimp only [go_sem, seval, *, encV, encN, hkI, hx, hy, g1, bne, undef] | ((with_reducible refine opK_c ?_); simp -dsimp only [go_sem, seval, encV, encN, hkI, hx, hy, g1, bne, undef]; first | refine callK_r (by first | assumption | fail) (by first | exact .inl rfl | exact .inr rfl) ?_ | (refine callK_i (by assumption) ?_ ?_ ?_; (solve | (repeat (first | exact DLe.refl _ | exact DLe.nil _ | (refine DLe.tup ?_) | (refine DLe.agg ?_ rfl) | exact trivial | (refine And.intro ?_ ?_)))); (solve | exact .inl rfl | exact .inr rfl))) | fail | omega | exact decide_eq_true (by omega) | exact DLe.refl _)
            all_goals exact DLe.refl _
          · rw [decide_eq_false c2] at he
            replace c2 := Lib.hid c2
            repeat' (first | (with_reducible refine And.intro ?_ ?_) | (with_reducible refine gK_i (fun _ => ?_) (fun _ => ?_)) | (with_reducible refine condS_i (fun _ => ?_) (fun _ => ?_)) | (with_reducible refine drw_i (by kernel_rfl)) | simp -dsimp only [go_sem, seval, *, encV, encN, hkI, hx, hy, he, bne, undef] | ((with_reducible refine opK_c ?_); simp -dsimp only [go_sem, seval, encV, encN, hkI, hx, hy, he, bne, undef]; first | refine callK_r (by first | assumption | fail) (by first | exact .inl rfl | exact .inr rfl) ?_ | (refine callK_i (by assumption) ?_ ?_ ?_; (solve | (repeat (first | exact DLe.refl _ | exact DLe.nil _ | (refine DLe.tup ?_) | (refine DLe.agg ?_ rfl) | exact trivial | (refine And.intro ?_ ?_)))); (solve | exact .inl rfl | exact .inr rfl))) | fail | omega | exact decide_eq_true (by omega) | exact DLe.refl _)
            all_goals exact DLe.refl _
          · have g3 : ((x.faces.length : Int) == (y.faces.length : Int)) = false := by simp; omega
            replace c2 := Lib.hid c2
            cases hd : decide (x.at_ = y.at_)
            all_goals
              rw [hd] at he
              replace hd := Lib.hid hd
              repeat' (first | (with_reducible refine And.intro ?_ ?_) | (with_reducible refine gK_i (fun _ => ?_) (fun _ => ?_)) | (with_reducible refine condS_i (fun _ => ?_) (fun _ => ?_)) | (with_reducible refine drw_i (by kernel_rfl)) | simp -dsimp only [go_sem, seval, *, encV, encN, hkI, hx, hy, he, g3, bne, undef] | ((with_reducible refine opK_c ?_); simp -dsimp only [go_sem, seval, encV, encN, hkI, hx, hy, he, g3, bne, undef]; first | refine callK_r (by first | assumption | fail) (by first | exact .inl rfl | exact .inr rfl) ?_ | (refine callK_i (by assumption) ?_ ?_ ?_; (solve | (repeat (first | exact DLe.refl _ | exact DLe.nil _ | (refine DLe.tup ?_) | (refine DLe.agg ?_ rfl) | exact trivial | (refine And.intro ?_ ?_)))); (solve | exact .inl rfl | exact .inr rfl))) | fail | omega | exact decide_eq_true (by omega) | exact DLe.refl _)
              all_goals exact DLe.refl _
      · intro hI C
        have hss := pre_full e3.out hI
        have hb : R = true := by
          rw [hR.out, decide_eq_true_eq]
          have h1 := e1.out; have h2 := hrr.out
          cases v; cases w; simp at h1 h2 hss; rw [h1, h2, hss]
        rw [hb]
        replace hb := Lib.hid hb
        replace hI := Lib.hid hI
        replace hss := Lib.hid hss
        repeat' (first | (with_reducible refine And.intro ?_ ?_) | (with_reducible refine gK_i (fun _ => ?_) (fun _ => ?_)) | (with_reducible refine condS_i (fun _ => ?_) (fun _ => ?_)) | (with_reducible refine drw_i (by kernel_rfl)) | simp -dsimp only [go_sem, seval, *, encV, Int.lt_irrefl, undef] | ((with_reducible refine opK_c ?_); simp -dsimp only [go_sem, seval, encV, Int.lt_irrefl, undef]; first | refine callK_r (by first | assumption | fail) (by first | exact .inl rfl | exact .inr rfl) ?_ | (refine callK_i (by assumption) ?_ ?_ ?_; (solve | (repeat (first | exact DLe.refl _ | exact DLe.nil _ | (refine DLe.tup ?_) | (refine DLe.agg ?_ rfl) | exact trivial | (refine And.intro ?_ ?_)))); (solve | exact .inl rfl | exact .inr rfl))) | fail | omega | exact decide_eq_true (by omega) | exact DLe.refl _)
        all_goals exact DLe.refl _
  · have hb : R = false := hno.out (fun e => c1 ⟨by rw [e], by rw [e], by rw [e]⟩)
    rw [hb]
    replace hb := Lib.hid hb
    rw [Decidable.not_and_iff_or_not, Decidable.not_and_iff_or_not] at c1
    rcases c1 with c1 | c1 | c1
    · have g1 : (v.id == w.id) = false := by simpa using c1
      replace c1 := Lib.hid c1
      refine ps_i tab_ok mixed Tryz.func39 rfl Tryz.ntmps39 Tryz.results39 (by kernel_rfl) ?_
      repeat' (first | (with_reducible refine And.intro ?_ ?_) | (with_reducible refine gK_i (fun _ => ?_) (fun _ => ?_)) | (with_reducible refine condS_i (fun _ => ?_) (fun _ => ?_)) | (with_reducible refine drw_i (by kernel_rfl)) | simp -dsimp only [go_sem, seval, *, encV, g1, bne, undef] | ((with_reducible refine opK_c ?_); simp -dsimp only [go_sem, seval, encV, g1, bne, undef]; first | refine callK_r (by first | assumption | fail) (by first | exact .inl rfl | exact .inr rfl) ?_ | (refine callK_i (by assumption) ?_ ?_ ?_; (solve | (repeat (first | exact DLe.refl _ | exact DLe.nil _ | (refine DLe.tup ?_) | (refine DLe.agg ?_ rfl) | exact trivial | (refine And.intro ?_ ?_)))); (solve | exact .inl rfl | exact .inr rfl))) | fail | omega | exact decide_eq_true (by omega) | exact DLe.refl _)
      all_goals exact DLe.refl _
    · have g1 : ((v.ranges.length : Int) == (w.ranges.length : Int)) = false := by simp; omega
      replace c1 := Lib.hid c1
      refine ps_i tab_ok mixed Tryz.func39 rfl Tryz.ntmps39 Tryz.results39 (by kernel_rfl) ?_
      repeat' (first | (with_reducible refine And.intro ?_ ?_) | (with_reducible refine gK_i (fun _ => ?_) (fun _ => ?_)) | (with_reducible refine condS_i (fun _ => ?_) (fun _ => ?_)) | (with_reducible refine drw_i (by kernel_rfl)) | simp -dsimp only [go_sem, seval, *, encV, g1, bne, undef] | ((with_reducible refine opK_c ?_); simp -dsimp only [go_sem, seval, encV, g1, bne, undef]; first | refine callK_r (by first | assumption | fail) (by first | exact .inl rfl | exact .inr rfl) ?_ | (refine callK_i (by assumption) ?_ ?_ ?_; (solve | (repeat (first | exact DLe.refl _ | exact DLe.nil _ | (refine DLe.tup ?_) | (refine DLe.agg ?_ rfl) | exact trivial | (refine And.intro ?_ ?_)))); (solve | exact .inl rfl | exact .inr rfl))) | fail | omega | exact decide_eq_true (by omega) | exact DLe.refl _)
      all_goals exact DLe.refl _
    · have g1 : ((v.subs.length : Int) == (w.subs.length : Int)) = false := by simp; omega
      replace c1 := Lib.hid c1
      refine ps_i tab_ok mixed Tryz.func39 rfl Tryz.ntmps39 Tryz.results39 (by kernel_rfl) ?_
      repeat' (first | (with_reducible refine And.intro ?_ ?_) | (with_reducible refine gK_i (fun _ => ?_) (fun _ => ?_)) | (with_reducible refine condS_i (fun _ => ?_) (fun _ => ?_)) | (with_reducible refine drw_i (by kernel_rfl)) | simp -dsimp only [go_sem, seval, *, encV, g1, bne, undef] | ((with_reducible refine opK_c ?_); simp -dsimp only [go_sem, seval, encV, g1, bne, undef]; first | refine callK_r (by first | assumption | fail) (by first | exact .inl rfl | exact .inr rfl) ?_ | (refine callK_i (by assumption) ?_ ?_ ?_; (solve | (repeat (first | exact DLe.refl _ | exact DLe.nil _ | (refine DLe.tup ?_) | (refine DLe.agg ?_ rfl) | exact trivial | (refine And.intro ?_ ?_)))); (solve | exact .inl rfl | exact .inr rfl))) | fail | omega | exact decide_eq_true (by omega) | exact DLe.refl _)
      all_goals exact DLe.refl _
end Go.Proofs.YtgmbhaclogabeaaGreat
namespace Go.Proofs.YtgmbhaclogabeaaGreat
open Go Go.RowKit
def SmallSb (s : Sbn) : Prop := s.faces.length ≤ 1000000000 ∧ ∀ f ∈ s.faces, f.addrs.length ≤ 1000000000
def SmallVp (v : Vpc) : Prop := v.ranges.length ≤ 1000000000 ∧ v.subs.length ≤ 1000000000 ∧ ∀ s ∈ v.subs, SmallSb s
def SmallN (n : Net) : Prop := n.vpcs.length ≤ 1000000000 ∧ n.links.length ≤ 1000000000 ∧ ∀ v ∈ n.vpcs, SmallVp v
set_option maxHeartbeats 1000000 in
theorem sameNets_p (n : Net) (h : SmallN n) : PSpec Tryz.prog 17 [.agg (encT n), .agg (encT n)] (.v (.bool true)) := by
  obtain ⟨h1, h2, h3⟩ := h
  replace h3 := Lib.hid h3
  refine ps_i tab_ok mixed Tryz.func17 rfl Tryz.ntmps17 Tryz.results17 (by kernel_rfl) ?_
  repeat' (first | (with_reducible refine And.intro ?_ ?_) | (with_reducible refine gK_i (fun _ => ?_) (fun _ => ?_)) | (with_reducible refine condS_i (fun _ => ?_) (fun _ => ?_)) | (with_reducible refine drw_i (by kernel_rfl)) | simp -dsimp only [go_sem, seval, *, encT, bne_self_eq_false, undef] | ((with_reducible refine opK_c ?_); simp -dsimp only [go_sem, seval, encT, bne_self_eq_false, undef]; first | refine callK_r (by first | assumption | fail) (by first | exact .inl rfl | exact .inr rfl) ?_ | (refine callK_i (by assumption) ?_ ?_ ?_; (solve | (repeat (first | exact DLe.refl _ | exact DLe.nil _ | (refine DLe.tup ?_) | (refine DLe.agg ?_ rfl) | exact trivial | (refine And.intro ?_ ?_)))); (solve | exact .inl rfl | exact .inr rfl))) | fail | omega | exact decide_eq_true (by omega) | exact DLe.refl _)
  refine loopL tab_ok mixed n.vpcs (fun _ => True) (fun k => [(5, .d (.v (.int .i64 k))), (4, .d (.v (.bool false))), (3, .ptr 1 0), (2, .ptr 0 0)]) (fun _ => [.box 25 ((encT n).map .d), .box 25 ((encT n).map .d)]) trivial (weak_forget _ (by simp) (by (try simp only [encT]); rfl) (by (repeat' (first | exact trivial | (refine ⟨rfl, ?_⟩)))) (by first | rfl | simp only [belowH, belowE, belowC, belowL, belowR, belowP, belowL_d, belowR_d, List.length_cons, List.length_nil, Nat.reduceAdd, Nat.reduceLT, decide_true, Bool.and_self, Bool.and_true]) (by first | rfl | simp only [belowH, belowE, belowC, belowL, belowR, belowP, belowL_d, belowR_d, List.length_cons, List.length_nil, Nat.reduceAdd, Nat.reduceLT, decide_true, Bool.and_self, Bool.and_true])) ?_ ?_
  · intro k v hv hk _ C hC
    have hkI : (k : Int) < (n.vpcs.length : Int) := by omega
    have hwr : IntKind.i64.wrap ((k : Int) + 1) = ((k + 1 : Nat) : Int) := by rw [IntKind.wrap_i64]; omega
    have hs := h3.out v (List.mem_of_getElem? hv)
    have hsm := sameVpcs_p v v hs.1 hs.2.1 (fun s hsm => hs.2.2 s hsm) (fun s hsm => (hs.2.2 s hsm).2)
    rw [decide_eq_true rfl] at hsm
    clear hs
    repeat' (first | (with_reducible refine And.intro ?_ ?_) | (with_reducible refine gK_i (fun _ => ?_) (fun _ => ?_)) | (with_reducible refine condS_i (fun _ => ?_) (fun _ => ?_)) | (with_reducible refine drw_i (by kernel_rfl)) | simp -dsimp only [go_sem, seval, *, encT, encV, hkI, hwr, hv, undef] | ((with_reducible refine opK_c ?_); simp -dsimp only [go_sem, seval, encT, encV, hkI, hwr, hv, undef]; first | refine callK_r (by first | assumption | exact hsm) (by first | exact .inl rfl | exact .inr rfl) ?_ | (refine callK_i (by assumption) ?_ ?_ ?_; (solve | (repeat (first | exact DLe.refl _ | exact DLe.nil _ | (refine DLe.tup ?_) | (refine DLe.agg ?_ rfl) | exact trivial | (refine And.intro ?_ ?_)))); (solve | exact .inl rfl | exact .inr rfl))) | fail | omega | exact decide_eq_true (by omega) | exact DLe.refl _)
    exact hC _ _ trivial (weak_forget _ (by simp) (by (try simp only [encT]); rfl) (by (repeat' (first | exact trivial | (refine ⟨rfl, ?_⟩)))) (by first | rfl | simp only [belowH, belowE, belowC, belowL, belowR, belowP, belowL_d, belowR_d, List.length_cons, List.length_nil, Nat.reduceAdd, Nat.reduceLT, decide_true, Bool.and_self, Bool.and_true]) (by first | rfl | simp only [belowH, belowE, belowC, belowL, belowR, belowP, belowL_d, belowR_d, List.length_cons, List.length_nil, Nat.reduceAdd, Nat.reduceLT, decide_true, Bool.and_self, Bool.and_true]))
  · intro _ C
    repeat' (first | (with_reducible refine And.intro ?_ ?_) | (with_reducible refine gK_i (fun _ => ?_) (fun _ => ?_)) | (with_reducible refine condS_i (fun _ => ?_) (fun _ => ?_)) | (with_reducible refine drw_i (by kernel_rfl)) | simp -dsimp only [go_sem, seval, *, encT, Int.lt_irrefl, undef] | ((with_reducible refine opK_c ?_); simp -dsimp only [go_sem, seval, encT, Int.lt_irrefl, undef]; first | refine callK_r (by first | assumption | fail) (by first | exact .inl rfl | exact .inr rfl) ?_ | (refine callK_i (by assumption) ?_ ?_ ?_; (solve | (repeat (first | exact DLe.refl _ | exact DLe.nil _ | (refine DLe.tup ?_) | (refine DLe.agg ?_ rfl) | exact trivial | (refine And.intro ?_ ?_)))); (solve | exact .inl rfl | exact .inr rfl))) | fail | omega | exact decide_eq_true (by omega) | exact DLe.refl _)
    refine loopL tab_ok mixed n.links (fun _ => True) (fun k => [(6, .d (.v (.int .i64 k))), (4, .d (.v (.bool false))), (3, .ptr 1 0), (2, .ptr 0 0)]) (fun _ => [.box 25 ((encT n).map .d), .box 25 ((encT n).map .d)]) trivial (weak_forget _ (by simp) (by (try simp only [encT]); rfl) (by (repeat' (first | exact trivial | (refine ⟨rfl, ?_⟩)))) (by first | rfl | simp only [belowH, belowE, belowC, belowL, belowR, belowP, belowL_d, belowR_d, List.length_cons, List.length_nil, Nat.reduceAdd, Nat.reduceLT, decide_true, Bool.and_self, Bool.and_true]) (by first | rfl | simp only [belowH, belowE, belowC, belowL, belowR, belowP, belowL_d, belowR_d, List.length_cons, List.length_nil, Nat.reduceAdd, Nat.reduceLT, decide_true, Bool.and_self, Bool.and_true])) ?_ ?_
    · intro k l hl hk _ C hC
      have hkI : (k : Int) < (n.links.length : Int) := by omega
      have hwr : IntKind.i64.wrap ((k : Int) + 1) = ((k + 1 : Nat) : Int) := by rw [IntKind.wrap_i64]; omega
      repeat' (first | (with_reducible refine And.intro ?_ ?_) | (with_reducible refine gK_i (fun _ => ?_) (fun _ => ?_)) | (with_reducible refine condS_i (fun _ => ?_) (fun _ => ?_)) | (with_reducible refine drw_i (by kernel_rfl)) | simp -dsimp only [go_sem, seval, *, encT, encK, hkI, hwr, hl, bne_self_eq_false, undef] | ((with_reducible refine opK_c ?_); simp -dsimp only [go_sem, seval, encT, encK, hkI, hwr, hl, bne_self_eq_false, undef]; first | refine callK_r (by first | assumption | fail) (by first | exact .inl rfl | exact .inr rfl) ?_ | (refine callK_i (by assumption) ?_ ?_ ?_; (solve | (repeat (first | exact DLe.refl _ | exact DLe.nil _ | (refine DLe.tup ?_) | (refine DLe.agg ?_ rfl) | exact trivial | (refine And.intro ?_ ?_)))); (solve | exact .inl rfl | exact .inr rfl))) | fail | omega | exact decide_eq_true (by omega) | exact DLe.refl _)
      exact hC _ _ trivial (weak_forget _ (by simp) (by (try simp only [encT]); rfl) (by (repeat' (first | exact trivial | (refine ⟨rfl, ?_⟩)))) (by first | rfl | simp only [belowH, belowE, belowC, belowL, belowR, belowP, belowL_d, belowR_d, List.length_cons, List.length_nil, Nat.reduceAdd, Nat.reduceLT, decide_true, Bool.and_self, Bool.and_true]) (by first | rfl | simp only [belowH, belowE, belowC, belowL, belowR, belowP, belowL_d, belowR_d, List.length_cons, List.length_nil, Nat.reduceAdd, Nat.reduceLT, decide_true, Bool.and_self, Bool.and_true]))
    · intro _ C
      repeat' (first | (with_reducible refine And.intro ?_ ?_) | (with_reducible refine gK_i (fun _ => ?_) (fun _ => ?_)) | (with_reducible refine condS_i (fun _ => ?_) (fun _ => ?_)) | (with_reducible refine drw_i (by kernel_rfl)) | simp -dsimp only [go_sem, seval, *, encT, Int.lt_irrefl, undef] | ((with_reducible refine opK_c ?_); simp -dsimp only [go_sem, seval, encT, Int.lt_irrefl, undef]; first | refine callK_r (by first | assumption | fail) (by first | exact .inl rfl | exact .inr rfl) ?_ | (refine callK_i (by assumption) ?_ ?_ ?_; (solve | (repeat (first | exact DLe.refl _ | exact DLe.nil _ | (refine DLe.tup ?_) | (refine DLe.agg ?_ rfl) | exact trivial | (refine And.intro ?_ ?_)))); (solve | exact .inl rfl | exact .inr rfl))) | fail | omega | exact decide_eq_true (by omega) | exact DLe.refl _)
      all_goals exact DLe.refl _
end Go.Proofs.YtgmbhaclogabeaaGreat
namespace Go.Proofs.YtgmbhaclogabeaaGreat
open Go Go.RowKit
def nb1 : Net := ⟨[⟨3, [], []⟩], []⟩
def nb2 : Net := ⟨[⟨1, [], []⟩, ⟨3, [], []⟩], []⟩
def nb3 : Net := ⟨[⟨1, [], []⟩, ⟨3, [⟨⟨256, 10⟩, 7⟩], []⟩], []⟩
def nb4 : Net := ⟨[⟨1, [], []⟩, ⟨3, [⟨⟨256, 10⟩, 7⟩], []⟩], [⟨1, 3⟩]⟩
set_option maxRecDepth 100000 in
theorem nb_1 : makeN Net.zero 3 = (nb1, 0) := by kernel_rfl
set_option maxRecDepth 100000 in
theorem nb_2 : makeN nb1 1 = (nb2, 0) := by kernel_rfl
set_option maxRecDepth 100000 in
theorem nb_3 : growN nb2 3 ⟨⟨256, 10⟩, 7⟩ = (nb3, 0) := by kernel_rfl
set_option maxRecDepth 100000 in
theorem nb_4 : joinN nb3 3 1 = (nb4, 0) := by kernel_rfl
set_option maxRecDepth 100000 in
theorem nb_5 : groupN nb4 1 = ([1, 3], 0) := by kernel_rfl
set_option maxRecDepth 100000 in
theorem nb_6 : growN nb4 1 ⟨⟨256, 16⟩, 7⟩ = (Net.zero, 9) := by kernel_rfl
set_option maxRecDepth 100000 in
theorem nb_7 : partN nb4 1 3 = (nb3, 0) := by kernel_rfl
set_option maxRecDepth 100000 in
set_option maxHeartbeats 1000000 in
theorem netBegun_p : PSpec Tryz.prog 14 [] (.v (.bool true)) := by
  have h1 := nmake_p Net.zero 3
  have h2 := nmake_p nb1 1
  have h3 := ngrow_p nb2 3 ⟨⟨256, 10⟩, 7⟩
  have h4 := njoin_p nb3 3 1
  have h5 := ngroup_p nb4 1
  have h6 := ngrow_p nb4 1 ⟨⟨256, 16⟩, 7⟩
  have h7 := npart_p nb4 1 3
  have h8 := sameInts_p [1, 3] [1, 3] (by simp) (by simp)
  rw [nb_1] at h1
  rw [nb_2] at h2
  rw [nb_3] at h3
  rw [nb_4] at h4
  rw [nb_5] at h5
  rw [nb_6] at h6
  rw [nb_7] at h7
  rw [decide_eq_true rfl] at h8
  simp only [encT, encV, encG, encN, encF, encA, encP, encK, nb1, nb2, nb3, nb4, Net.zero, List.map_nil, List.map_cons] at h1 h2 h3 h4 h5 h6 h7 h8
  have h1 := h1.args (ds := [.agg [.v (.slice none 0 0), .v (.slice none 0 0)], .v (.int .i64 3)]) ⟨(by repeat (first | exact DLe.refl _ | exact DLe.nil _ | (refine DLe.tup ?_) | (refine DLe.agg ?_ rfl) | exact trivial | (refine And.intro ?_ ?_))), DLe.refl _, trivial⟩
  refine ps_i tab_ok mixed Tryz.func14 rfl Tryz.ntmps14 Tryz.results14 (by kernel_rfl) ?_
  repeat' (first | (with_reducible refine And.intro ?_ ?_) | (with_reducible refine gK_i (fun _ => ?_) (fun _ => ?_)) | (with_reducible refine condS_i (fun _ => ?_) (fun _ => ?_)) | (with_reducible refine drw_i (by kernel_rfl)) | simp -dsimp only [go_sem, seval, *, undef] | ((with_reducible refine opK_c ?_); simp -dsimp only [go_sem, seval, undef]; first | refine callK_r (by first | assumption | exact h1 | exact h2 | exact h3 | exact h4 | exact h5 | exact h6 | exact h7 | exact h8) (by first | exact .inl rfl | exact .inr rfl) ?_ | (refine callK_i (by assumption) ?_ ?_ ?_; (solve | (repeat (first | exact DLe.refl _ | exact DLe.nil _ | (refine DLe.tup ?_) | (refine DLe.agg ?_ rfl) | exact trivial | (refine And.intro ?_ ?_)))); (solve | exact .inl rfl | exact .inr rfl))) | fail | omega | exact decide_eq_true (by omega) | exact DLe.refl _)
theorem smallN_zero : SmallN Net.zero := ⟨Nat.zero_le _, Nat.zero_le _, fun v h => by simp [Net.zero] at h⟩
theorem smallVp_ok {v : Vpc} (h : VpcOK v) : SmallVp v := ⟨by have := h.n4; omega, by have := h.n6; omega, fun s hs => ⟨by have := (h.n8 s hs).1; omega, fun f hf => by have := (h.n8 s hs).2 f hf; omega⟩⟩
theorem smallN_ok {n : Net} (h : NetOK n) : SmallN n := ⟨by have := h.n6; omega, by have := h.n12; omega, fun v hv => smallVp_ok (vpcOK_of (h.vp v hv))⟩
theorem makeN_small (n : Net) (id : Int) : SmallN (makeN n id).1 := by
  unfold makeN
  split
  · exact smallN_zero
  · rename_i hc
    have hok := netOK.1 (by simpa using hc)
    split
    · exact smallN_zero
    · obtain ⟨a, b, c⟩ := smallN_ok hok
      refine ⟨?_, b, fun v hv => ?_⟩
      · show (insK _ _ n.vpcs).length ≤ _
        rw [insK_len]; have := hok.n6; omega
      · rcases insK_mem.1 hv with rfl | hv
        · exact ⟨Nat.zero_le _, Nat.zero_le _, fun s hs => by simp at hs⟩
        · exact c v hv
theorem growN_small (n : Net) (id : Int) (r : Rng) : SmallN (growN n id r).1 := by
  unfold growN
  split
  · exact smallN_zero
  · rename_i hc
    have hok := netOK.1 (by simpa using hc)
    split
    · exact smallN_zero
    · split
      · exact smallN_zero
      · split
        · exact smallN_zero
        · rename_i i hi v hv hg
          split
          · rename_i hp
            exact smallN_ok (netOK.1 ((grown_chk hok hv (by simpa using hg)).1.2 hp))
          · exact smallN_zero
theorem NetOK.lab {n : Net} (h : NetOK n) : ∀ l ∈ n.links, l.a ∈ n.vpcs.map (·.id) ∧ l.b ∈ n.vpcs.map (·.id) ∧ l.a < l.b := fun l hl => by
  have := h.lk l hl
  unfold lnkB at this
  simp only [Bool.and_eq_true, decide_eq_true_eq] at this
  exact ⟨find_ids this.1, find_ids this.2.1, this.2.2⟩
set_option maxRecDepth 100000 in
set_option maxHeartbeats 2000000 in
theorem netGrows_p (n : Net) (id : Int) (r : Rng) (hz : NetZ n) : PSpec Tryz.prog 3 [.agg (encT n), .v (.int .i64 id), .agg (encG r)] (.v (.bool true)) := by
  have h1 := ngroup_p n id
  have h2 := nmake_p n id
  have h3 := ngrow_p n id r
  have h4 := checkNet_p n hz
  have h5 := ncheck_p n
  have h6 := makeNet_p n id hz
  have h7 := growNet_p n id r hz
  have h8 := netBegun_p
  have h9 := sameNets_p _ (makeN_small n id)
  have ha := sameNets_p _ (growN_small n id r)
  generalize makeN n id = X at *
  generalize growN n id r = Y at *
  clear hz
  by_cases hc : chkT n = 0
  · have hok := netOK.1 hc
    have hat := vpcAt_p n id (by have := hok.n6; omega)
    rw [vpcAt_ix] at hat
    rw [hc] at h4 h5
    cases hx : vpcIx n id with
    | none =>
      have hg : groupN n id = ([], 5) := by unfold groupN; rw [if_neg (by simpa using hc), if_pos (vpcIx_none hx)]
      have hs := sameInts_p [] [] (by simp) (by simp)
      rw [decide_eq_true rfl] at hs
      rw [hx] at hat
      rw [hg] at h1
      have hm1 : decide ((-1 : Int) < 0) = true := rfl
      simp only at hat
      clear hg hc hok hx
      refine ps_i tab_ok mixed Tryz.func3 rfl Tryz.ntmps3 Tryz.results3 (by kernel_rfl) ?_
      repeat' (first | (with_reducible refine And.intro ?_ ?_) | (with_reducible refine gK_i (fun _ => ?_) (fun _ => ?_)) | (with_reducible refine condS_i (fun _ => ?_) (fun _ => ?_)) | (with_reducible refine drw_i (by kernel_rfl)) | simp -dsimp only [go_sem, seval, *, encT, encG, hm1, undef, beq_self_eq_true] | ((with_reducible refine opK_c ?_); simp -dsimp only [go_sem, seval, encT, encG, hm1, undef, beq_self_eq_true]; first | refine callK_r (by first | assumption | exact h1 | exact h2 | exact h3 | exact h4 | exact h5 | exact h6 | exact h7 | exact h8 | exact h9 | exact ha | exact hat | exact hs) (by first | exact .inl rfl | exact .inr rfl) ?_ | (refine callK_i (by assumption) ?_ ?_ ?_; (solve | (repeat (first | exact DLe.refl _ | exact DLe.nil _ | (refine DLe.tup ?_) | (refine DLe.agg ?_ rfl) | exact trivial | (refine And.intro ?_ ?_)))); (solve | exact .inl rfl | exact .inr rfl))) | fail | omega | exact decide_eq_true (by omega) | exact DLe.refl _)
    | some i =>
      obtain ⟨v, hv, he, hi, hfs⟩ := vpcIx_some hx
      have hgr := groupR_p n id i hx hok.n6 hok.n12 hok.rise hok.lab
      have hg : groupN n id = (grpN n id, 0) := by unfold groupN; rw [if_neg (by simpa using hc), if_neg (by rw [hfs]; simp)]
      have hgl := grp_len n id
      have hs := sameInts_p (grpN n id) (grpN n id) (by have := hok.n6; omega) (by have := hok.n6; omega)
      rw [decide_eq_true rfl] at hs
      rw [hx] at hat
      rw [hg] at h1
      have hi0 : decide ((i : Int) < 0) = false := by simp
      simp only at hat
      clear hg hc hok hx hgl hv he hfs
      generalize grpN n id = G at *
      refine ps_i tab_ok mixed Tryz.func3 rfl Tryz.ntmps3 Tryz.results3 (by kernel_rfl) ?_
      repeat' (first | (with_reducible refine And.intro ?_ ?_) | (with_reducible refine gK_i (fun _ => ?_) (fun _ => ?_)) | (with_reducible refine condS_i (fun _ => ?_) (fun _ => ?_)) | (with_reducible refine drw_i (by kernel_rfl)) | simp -dsimp only [go_sem, seval, *, encT, encG, hi0, undef, beq_self_eq_true] | ((with_reducible refine opK_c ?_); simp -dsimp only [go_sem, seval, encT, encG, hi0, undef, beq_self_eq_true]; first | refine callK_r (by first | assumption | exact h1 | exact h2 | exact h3 | exact h4 | exact h5 | exact h6 | exact h7 | exact h8 | exact h9 | exact ha | exact hat | exact hs | exact hgr) (by first | exact .inl rfl | exact .inr rfl) ?_ | (refine callK_i (by assumption) ?_ ?_ ?_; (solve | (repeat (first | exact DLe.refl _ | exact DLe.nil _ | (refine DLe.tup ?_) | (refine DLe.agg ?_ rfl) | exact trivial | (refine And.intro ?_ ?_)))); (solve | exact .inl rfl | exact .inr rfl))) | fail | omega | exact decide_eq_true (by omega) | exact DLe.refl _)
  · have hg : groupN n id = ([], chkT n) := by unfold groupN; rw [if_pos hc]
    have hs := sameInts_p [] [] (by simp) (by simp)
    have hcb : (chkT n == 0) = false := by simpa using hc
    rw [decide_eq_true rfl] at hs
    rw [hg] at h1
    clear hg hc
    generalize chkT n = E at *
    refine ps_i tab_ok mixed Tryz.func3 rfl Tryz.ntmps3 Tryz.results3 (by kernel_rfl) ?_
    repeat' (first | (with_reducible refine And.intro ?_ ?_) | (with_reducible refine gK_i (fun _ => ?_) (fun _ => ?_)) | (with_reducible refine condS_i (fun _ => ?_) (fun _ => ?_)) | (with_reducible refine drw_i (by kernel_rfl)) | simp -dsimp only [go_sem, seval, *, encT, encG, hcb, undef, beq_self_eq_true] | ((with_reducible refine opK_c ?_); simp -dsimp only [go_sem, seval, encT, encG, hcb, undef, beq_self_eq_true]; first | refine callK_r (by first | assumption | exact h1 | exact h2 | exact h3 | exact h4 | exact h5 | exact h6 | exact h7 | exact h8 | exact h9 | exact ha | exact hs) (by first | exact .inl rfl | exact .inr rfl) ?_ | (refine callK_i (by assumption) ?_ ?_ ?_; (solve | (repeat (first | exact DLe.refl _ | exact DLe.nil _ | (refine DLe.tup ?_) | (refine DLe.agg ?_ rfl) | exact trivial | (refine And.intro ?_ ?_)))); (solve | exact .inl rfl | exact .inr rfl))) | fail | omega | exact decide_eq_true (by omega) | exact DLe.refl _)
end Go.Proofs.YtgmbhaclogabeaaGreat
namespace Go.Proofs.YtgmbhaclogabeaaGreat
open Go Go.RowKit Go.Proofs Go.ChangeShapes Go.WideShapes Go.Deep
/-- Nothing may be written. -/
def NM : Nat → Prop := fun _ => False
section
variable {H : Type} {enc : TypeId × Value → H} {P : Program} {w : World} {base : Nat} {spare : Nat → Bool} {held : Bool}
def RdW {α : Type} (enc : TypeId × Value → H) (P : Program) (w : World) (base : Nat) (spare : Nat → Bool) (held : Bool) (t : TypeId) (R : List Value → α → Prop) (S : α → Prop) : Prop :=
  ∀ fuel cs x, DataW.trod enc P w base spare held fuel t cs = some x → ∃ a, R cs a ∧ ((∀ n ∈ x.1.weights P t, n ≤ reachBytes) → S a)
theorem rdw_of {α : Type} {t : TypeId} {R : List Value → α → Prop} (h : Rd enc P w base spare held t R) : RdW enc P w base spare held t R (fun _ => True) := by
  intro fuel cs x hx
  obtain ⟨a, ha⟩ := h fuel cs x hx
  exact ⟨a, ha, fun _ => trivial⟩
theorem weights_all {e : TypeId} : ∀ {l : List (DataW H)} {d : DataW H}, d ∈ l → ∀ n ∈ d.weights P e, n ∈ DataW.weightsAll P e l
  | a :: l, d, h, n, hn => by
    simp only [DataW.weightsAll, List.mem_append]
    rcases List.mem_cons.1 h with rfl | h
    · exact .inl hn
    · exact .inr (weights_all h n hn)
theorem rdw_field {α : Type} {t : TypeId} {fs : Array Field} {fuel : Nat} {cs : List Value} {x : DataW H × List MemPlace} (ht : P.underlying t = some (.struct fs)) (h : DataW.trod enc P w base spare held fuel t cs = some x)
    (j : Nat) {f : Field} (hf : fs[j]? = some f) {R : List Value → α → Prop} {S : α → Prop} (hr : RdW enc P w base spare held f.type R S) : ∃ a, R ((cs.drop f.offset).take (P.cellsOf f.type)) a ∧ ((∀ n ∈ x.1.weights P t, n ≤ reachBytes) → S a) := by
  obtain ⟨xs, n, _, rfl, _, hlen, hg⟩ := DataW.trod_struct ht h
  have h1 := hg j f hf
  have hj : j < xs.length := by rw [hlen]; exact (Array.getElem?_eq_some_iff.1 hf).1
  rw [List.getElem?_eq_getElem hj] at h1
  obtain ⟨a, ha, hs⟩ := hr _ _ _ h1
  refine ⟨a, ha, fun hw => hs fun n hn => hw n ?_⟩
  simp only [DataW.weights, ht]
  exact DataW.weights_mem_each (j := j) (t := f.type) (d := (xs[j]).1) (by simp [hf]) (by simp [List.getElem?_eq_getElem hj]) n hn
theorem rdw_slice {α : Type} {t e : TypeId} {k : Nat} {R : List Value → α → Prop} {S : α → Prop} (ht : P.underlying t = some (.slice e)) (hc : P.cellsOf e = k + 1) (he : RdW enc P w base spare held e R S) :
    RdW enc P w base spare held t (fun cs (l : List α) => ∃ v, cs = [v] ∧ IsSl (inW w) w (k + 1) R v l) (fun l => l.length * P.bytesOf e ≤ reachBytes ∧ ∀ a ∈ l, S a) := by
  intro fuel cs x hx
  rcases open_slice ht hx with ⟨rfl, rfl⟩ | ⟨a, len, cap, m, n, D, Pl, rfl, hb, hl, hm, hmm, rfl, hi⟩
  · exact ⟨[], ⟨_, rfl, none, 0, rfl, ⟨Nat.le_refl _, by decide, fun i h => by simp at h⟩⟩, fun _ => ⟨by simp, fun a h => by simp at h⟩⟩
  · have hlm : len ≤ m := by rw [hmm]; split <;> omega
    obtain ⟨l, hll, hq⟩ := pick_list (Q := fun i y => ∃ cs', w.cells? base (a.add (i * P.cellsOf e)) (P.cellsOf e) = some cs' ∧ R cs' y ∧ ((∀ n ∈ (D i).weights P e, n ≤ reachBytes) → S y)) len fun i h => by
      obtain ⟨cs', h1, h2⟩ := hi i (by omega)
      obtain ⟨y, hy, hs⟩ := he _ _ _ h2
      exact ⟨y, cs', h1, hy, hs⟩
    refine ⟨l, ⟨_, rfl, some a, cap, by rw [hll], ⟨by omega, by unfold maxLen at hm; omega, fun i h => ?_⟩⟩, fun hw => ⟨?_, fun y hy => ?_⟩⟩
    · obtain ⟨cs', h1, h2, -⟩ := hq i h
      rw [hc] at h1
      obtain ⟨_, hcl, hat⟩ := World.cells?_some h1
      obtain ⟨b, off, spot⟩ := a
      have hspot : spot = none := by
        obtain ⟨cs0, g1, _⟩ := hq 0 (by omega)
        rw [hc] at g1
        obtain ⟨_, gcl, gat⟩ := World.cells?_some g1
        have g0 := gat (i := 0) (by omega)
        have g0' : w.cell? ⟨b, off, spot⟩ = some (cs0[0]'(by omega)) := by
          have : ((⟨b, off, spot⟩ : Addr).add (0 * (k + 1))).add 0 = ⟨b, off, spot⟩ := by simp [Addr.add]
          rw [this] at g0
          rw [g0]; exact List.getElem?_eq_getElem (by omega)
        exact World.cell?_spot g0'
      subst hspot
      have hadd : ∀ o j, ((⟨b, o, none⟩ : Addr).add j) = ⟨b, o + j, none⟩ := by
        intro o j; unfold Addr.add; split <;> simp_all
      refine ⟨b, off, cs', rfl, ?_, hcl, h2, fun j hj => ?_⟩
      · have := hat (i := 0) (by omega)
        rw [hadd, hadd] at this
        exact lt_of_cell (this.trans (List.getElem?_eq_getElem (by omega)))
      · have := hat (i := j) (by omega)
        rw [hadd, hadd] at this
        rw [this]
        exact List.getElem?_eq_getElem hj
    · have := hw (((List.range len).map D).length + ((List.range (m - len)).map fun j => D (len + j)).length |> (· * P.bytesOf e)) (by simp [DataW.weights, ht])
      simp only [List.length_map, List.length_range] at this
      rw [hll]
      exact Nat.le_trans (Nat.mul_le_mul_right _ (by omega)) this
    · obtain ⟨i, hil, rfl⟩ := List.mem_iff_getElem.1 hy
      obtain ⟨cs', h1, h2, h3⟩ := hq i hil
      refine h3 fun n hn => hw n ?_
      simp only [DataW.weights, ht]
      refine List.mem_cons_of_mem _ (List.mem_append_left _ (weights_all (d := D i) (List.mem_map.2 ⟨i, by simp; omega, rfl⟩) n hn))
theorem argw {α : Type} {R : List Value → α → Prop} {S : α → Prop} {r : Reach} {b0 : Nat} {t : TypeId} {fs : Array Field} {v : Value} {d : DataW H} {p : List MemPlace} (ht : P.underlying t = some (.struct fs)) (hval : Value.okWide P w r b0 t v) (hd : DataW.Trod enc P w base spare held t v d p)
    (hr : RdW enc P w base spare held t R S) : ∃ cs a, v = .agg cs ∧ R cs.toList a ∧ ((∀ n ∈ d.weights P t, n ≤ reachBytes) → S a) := by
  obtain ⟨cs, rfl, _⟩ := okWide_struct ht hval
  obtain ⟨fuel, hf⟩ := hd
  obtain ⟨a, ha, hs⟩ := hr _ _ _ hf
  exact ⟨cs, a, rfl, by simpa [Value.cells] using ha, hs⟩
end
end Go.Proofs.YtgmbhaclogabeaaGreat
namespace Go.Proofs.YtgmbhaclogabeaaGreat
open Go Go.RowKit Go.Proofs Go.ChangeShapes Go.WideShapes Go.Deep
set_option maxRecDepth 100000
/-- A slice of what reads as data reads as data. -/
theorem isSl_rep {α : Type} {enc : α → List D} {sz : Nat} {w : World} (h0 : 0 < sz) (hen : ∀ a, (enc a).length = sz ∧ ∀ d ∈ enc a, d.one = true) {v : Value} {l : List α} (h : IsSl (inW w) w sz (fun cs a => RepDs NM w (enc a) cs) v l) : RepD NM w (.sl sz (l.map enc)) v := by
  obtain ⟨ao, cap, rfl, hs⟩ := h
  cases l with
  | nil => exact .nil sz ao cap hs.cap_max
  | cons u us =>
    obtain ⟨b, off, cs, rfl, hAb, hl, hR, hcs⟩ := hs.elem 0 (by simp)
    have key : ∀ i (hi : i < (u :: us).length), ∃ cs : List Value, cs.length = sz ∧ RepDs NM w (enc (u :: us)[i]) cs ∧ cellsAt w b (off + i * sz) cs := by
      intro i hi
      obtain ⟨b', off', cs', e, -, hl', hR', hcs'⟩ := hs.elem i hi
      cases e
      exact ⟨cs', hl', hR', hcs'⟩
    have hlen : ((u :: us).map enc).length = (u :: us).length := by simp
    rw [← hlen]
    refine .sl sz ((u :: us).map enc) b off cap (fun i j => (w.cell? ⟨b, off + i * sz + j, none⟩).getD undef) (fun h => h) hAb (by rw [hlen]; exact hs.cap_le) hs.cap_max (fun r hr => ?_) (fun r hr => ?_) (fun i j hi hj => ?_) (fun i j row d hi hj => ?_)
    · obtain ⟨x, -, rfl⟩ := List.mem_map.1 hr; exact (hen x).1
    · obtain ⟨x, -, rfl⟩ := List.mem_map.1 hr; exact (hen x).2
    · obtain ⟨cs', hl', -, hcs'⟩ := key i (by simpa using hi)
      rw [hcs' j (by omega)]; rfl
    · have hi' : i < (u :: us).length := by have := (List.getElem?_eq_some_iff.1 hi).1; simpa using this
      obtain ⟨cs', hl', hR', hcs'⟩ := key i hi'
      rw [List.getElem?_map, List.getElem?_eq_getElem hi'] at hi
      simp only [Option.map_some, Option.some.injEq] at hi
      subst hi
      have hj' : j < cs'.length := by rw [← hR'.1]; exact (List.getElem?_eq_some_iff.1 hj).1
      rw [hcs' j hj']
      exact hR'.2 j d _ hj (List.getElem?_eq_getElem hj')
section
variable {H : Type} {enc : TypeId × Value → H} {w : World} {base : Nat} {spare : Nat → Bool} {held : Bool}
theorem Tryz.sizePfx : Tryz.prog.cellsOf 27 = 2 := by kernel_rfl
theorem Tryz.sizeInt1 : Tryz.prog.cellsOf 3 = 1 := by kernel_rfl
theorem Tryz.sizeInts : Tryz.prog.cellsOf 30 = 1 := by kernel_rfl
theorem Tryz.sizeFace : Tryz.prog.cellsOf 88 = 2 := by kernel_rfl
theorem Tryz.sizeSub : Tryz.prog.cellsOf 86 = 4 := by kernel_rfl
theorem Tryz.sizeRange : Tryz.prog.cellsOf 29 = 3 := by kernel_rfl
theorem Tryz.sizeVpc : Tryz.prog.cellsOf 56 = 3 := by kernel_rfl
theorem Tryz.sizeFaces : Tryz.prog.cellsOf 84 = 1 := by kernel_rfl
theorem Tryz.bytesFace : Tryz.prog.bytesOf 88 = 32 := by kernel_rfl
theorem Tryz.sizeSubs : Tryz.prog.cellsOf 54 = 1 := by kernel_rfl
theorem Tryz.bytesSub : Tryz.prog.bytesOf 86 = 48 := by kernel_rfl
theorem Tryz.sizeRanges : Tryz.prog.cellsOf 53 = 1 := by kernel_rfl
theorem rd_pfx : Rd enc Tryz.prog w base spare held 27 Pfx.R := by
  intro fuel cs x hx
  have hl := rd_len Tryz.underlying27 hx
  rw [Tryz.sizePfx] at hl
  obtain ⟨a, ha⟩ := rd_field Tryz.underlying27 hx 0 rfl (rd_int Tryz.underlying3)
  obtain ⟨b, hb⟩ := rd_field Tryz.underlying27 hx 1 rfl (rd_int Tryz.underlying3)
  match cs, hl with
  | [c0, c1], _ =>
    simp [Tryz.sizeInt1, IntR] at ha hb
    exact ⟨⟨a, b⟩, by simp [Pfx.R, ha.1, hb.1]⟩
theorem repDs_ints (l : List Int) : RepDs NM w (l.map fun n => .v (.int .i64 n)) (l.map fun n => .int .i64 n) := by
  refine ⟨by simp, fun j d x hj hx => ?_⟩
  rw [List.getElem?_map, Option.map_eq_some_iff] at hj hx
  obtain ⟨a, ha, rfl⟩ := hj
  obtain ⟨c, hc, rfl⟩ := hx
  rw [ha] at hc
  obtain rfl := Option.some.inj hc
  exact .v _
theorem repDs_appR {M : Nat → Prop} {w : World} {ds es : List D} {vs us : List Value} (h : RepDs M w ds vs) (g : RepDs M w es us) : RepDs M w (ds ++ es) (vs ++ us) := by
  refine ⟨by simp [h.1, g.1], fun j d x hj hx => ?_⟩
  rcases Nat.lt_or_ge j ds.length with hlt | hge
  · rw [List.getElem?_append_left hlt] at hj
    rw [List.getElem?_append_left (by rw [← h.1]; exact hlt)] at hx
    exact h.2 j d x hj hx
  · rw [List.getElem?_append_right hge] at hj
    rw [List.getElem?_append_right (by rw [← h.1]; exact hge), ← h.1] at hx
    exact g.2 _ d x hj hx
theorem repDs_one {M : Nat → Prop} {w : World} {d : D} {v : Value} (h : RepD M w d v) : RepDs M w [d] [v] := ⟨rfl, fun j e x hj hx => by
  match j with
  | 0 => cases hj; cases hx; exact h
  | j + 1 => simp at hj⟩
theorem rdw_ints : RdW enc Tryz.prog w base spare held 30 (fun cs (l : List Int) => ∃ v, cs = [v] ∧ RepD NM w (.sl 1 (l.map encA)) v) (fun _ => True) := by
  have h := rdw_slice (enc := enc) (base := base) (spare := spare) (held := held) Tryz.underlying30 Tryz.sizeInt1 (rdw_of ((rd_int (w := w) Tryz.underlying3).map id (R' := fun cs (a : Int) => RepDs NM w (encA a) cs) fun cs a h => by rw [h.1]; exact repDs_ints [a]))
  intro fuel cs x hx
  obtain ⟨l, ⟨v, rfl, hs⟩, hw⟩ := h fuel cs x hx
  refine ⟨l, ⟨v, rfl, isSl_rep (sz := 1) (by omega) (fun a => ⟨rfl, fun d hd => ?_⟩) hs⟩, fun _ => trivial⟩
  simp [encA] at hd
  rcases hd with rfl; rfl
theorem rdw_face : RdW enc Tryz.prog w base spare held 88 (fun cs (f : Fce) => RepDs NM w (encF f) cs) (fun _ => True) := by
  intro fuel cs x hx
  have hl := rd_len Tryz.underlying88 hx
  rw [Tryz.sizeFace] at hl
  obtain ⟨a, ha⟩ := rd_field Tryz.underlying88 hx 0 rfl (rd_int Tryz.underlying3)
  obtain ⟨l, hs, hw⟩ := rdw_field Tryz.underlying88 hx 1 rfl rdw_ints
  match cs, hl with
  | [c0, c1], _ =>
    simp [Tryz.sizeInt1, Tryz.sizeInts, IntR] at ha hs
    refine ⟨⟨a, l⟩, ?_, fun _ => trivial⟩
    rw [ha.1]
    exact repDs_appR (repDs_ints [a]) (repDs_one hs)
theorem rdw_faces : RdW enc Tryz.prog w base spare held 84 (fun cs (l : List Fce) => ∃ v, cs = [v] ∧ RepD NM w (.sl 2 (l.map encF)) v) (fun l => l.length * 32 ≤ reachBytes) := by
  have h := rdw_slice (enc := enc) (base := base) (spare := spare) (held := held) Tryz.underlying84 Tryz.sizeFace (rdw_face (w := w))
  intro fuel cs x hx
  obtain ⟨l, ⟨v, rfl, hs⟩, hw⟩ := h fuel cs x hx
  refine ⟨l, ⟨v, rfl, isSl_rep (sz := 2) (by omega) (fun a => ⟨rfl, fun d hd => ?_⟩) hs⟩, fun hh => by have := (hw hh).1; rwa [Tryz.bytesFace] at this⟩
  simp [encF] at hd
  rcases hd with rfl | rfl <;> rfl
theorem rdw_sub : RdW enc Tryz.prog w base spare held 86 (fun cs (s : Sbn) => RepDs NM w (encN s) cs) (fun s => s.faces.length * 32 ≤ reachBytes) := by
  intro fuel cs x hx
  have hl := rd_len Tryz.underlying86 hx
  rw [Tryz.sizeSub] at hl
  obtain ⟨a, ha⟩ := rd_field Tryz.underlying86 hx 0 rfl (rd_int Tryz.underlying3)
  obtain ⟨p, hp⟩ := rd_field Tryz.underlying86 hx 1 rfl rd_pfx
  obtain ⟨l, hs, hw⟩ := rdw_field Tryz.underlying86 hx 2 rfl rdw_faces
  match cs, hl with
  | [c0, c1, c2, c3], _ =>
    simp [Tryz.sizePfx, Tryz.sizeInt1, Tryz.sizeFaces, IntR, Pfx.R] at ha hp hs
    refine ⟨⟨a, p, l⟩, ?_, hw⟩
    rw [ha.1, hp.1, hp.2]
    exact repDs_appR (repDs_ints [a, p.at_, p.len]) (repDs_one hs)
theorem rdw_subs : RdW enc Tryz.prog w base spare held 54 (fun cs (l : List Sbn) => ∃ v, cs = [v] ∧ RepD NM w (.sl 4 (l.map encN)) v) (fun l => l.length * 48 ≤ reachBytes ∧ ∀ s ∈ l, s.faces.length * 32 ≤ reachBytes) := by
  have h := rdw_slice (enc := enc) (base := base) (spare := spare) (held := held) Tryz.underlying54 Tryz.sizeSub (rdw_sub (w := w))
  intro fuel cs x hx
  obtain ⟨l, ⟨v, rfl, hs⟩, hw⟩ := h fuel cs x hx
  refine ⟨l, ⟨v, rfl, isSl_rep (sz := 4) (by omega) (fun a => ⟨rfl, fun d hd => ?_⟩) hs⟩, fun hh => ⟨by have := (hw hh).1; rwa [Tryz.bytesSub] at this, (hw hh).2⟩⟩
  simp [encN] at hd
  rcases hd with rfl | rfl | rfl | rfl <;> rfl
theorem rd_rng : Rd enc Tryz.prog w base spare held 29 fun cs (r : Rng) => RepDs NM w (encG r) cs := by
  intro fuel cs x hx
  have hl := rd_len Tryz.underlying29 hx
  rw [Tryz.sizeRange] at hl
  obtain ⟨p, hp⟩ := rd_field Tryz.underlying29 hx 0 rfl rd_pfx
  obtain ⟨a, ha⟩ := rd_field Tryz.underlying29 hx 1 rfl (rd_int Tryz.underlying3)
  match cs, hl with
  | [c0, c1, c2], _ =>
    simp [Tryz.sizePfx, Tryz.sizeInt1, IntR, Pfx.R] at ha hp
    refine ⟨⟨p, a⟩, ?_⟩
    rw [ha.1, hp.1, hp.2]
    exact repDs_ints [p.at_, p.len, a]
theorem rd_rngD : RdW enc Tryz.prog w base spare held 29 (fun cs (r : Rng) => RepDs NM w (encG r) cs) (fun _ => True) := rdw_of rd_rng
theorem rdw_rngs : RdW enc Tryz.prog w base spare held 53 (fun cs (l : List Rng) => ∃ v, cs = [v] ∧ RepD NM w (.sl 3 (l.map encG)) v) (fun _ => True) := by
  have h := rdw_slice (enc := enc) (base := base) (spare := spare) (held := held) Tryz.underlying53 Tryz.sizeRange (rd_rngD (w := w))
  intro fuel cs x hx
  obtain ⟨l, ⟨v, rfl, hs⟩, hw⟩ := h fuel cs x hx
  refine ⟨l, ⟨v, rfl, isSl_rep (sz := 3) (by omega) (fun a => ⟨rfl, fun d hd => ?_⟩) hs⟩, fun _ => trivial⟩
  simp [encG] at hd
  rcases hd with rfl | rfl | rfl <;> rfl
theorem rdw_vpc : RdW enc Tryz.prog w base spare held 56 (fun cs (v : Vpc) => RepDs NM w (encV v) cs) (fun v => v.subs.length ≤ 9223372036854775807 ∧ ∀ s ∈ v.subs, s.faces.length ≤ 9223372036854775807) := by
  intro fuel cs x hx
  have hl := rd_len Tryz.underlying56 hx
  rw [Tryz.sizeVpc] at hl
  obtain ⟨a, ha⟩ := rd_field Tryz.underlying56 hx 0 rfl (rd_int Tryz.underlying3)
  obtain ⟨r, hr, -⟩ := rdw_field Tryz.underlying56 hx 1 rfl rdw_rngs
  obtain ⟨l, hs, hw⟩ := rdw_field Tryz.underlying56 hx 2 rfl rdw_subs
  match cs, hl with
  | [c0, c1, c2], _ =>
    simp [Tryz.sizeInt1, Tryz.sizeRanges, Tryz.sizeSubs, IntR] at ha hr hs
    refine ⟨⟨a, r, l⟩, ?_, fun hh => ?_⟩
    · rw [ha.1]
      exact repDs_appR (repDs_ints [a]) (repDs_appR (repDs_one hr) (repDs_one hs))
    · have := hw hh
      unfold reachBytes at this
      exact ⟨by have := this.1; show l.length ≤ 9223372036854775807; omega, fun s hs => by have := this.2 s hs; omega⟩
end
theorem repDs_n {M : Nat → Prop} {w : World} : RepDs M w [] [] := ⟨rfl, fun j d x hj _ => by simp at hj⟩
theorem repDs_c {M : Nat → Prop} {w : World} {d : D} {v : Value} {ds : List D} {vs : List Value} (h : RepD M w d v) (g : RepDs M w ds vs) : RepDs M w (d :: ds) (v :: vs) := ⟨by simp [g.1], fun j e x hj hx => by
  cases j with
  | zero => simp at hj hx; subst hj; subst hx; exact h
  | succ j => exact g.2 j e x (by simpa using hj) (by simpa using hx)⟩
theorem rep_agg {w : World} {cs : Array Value} {ds : List D} (h : RepDs NM w ds cs.toList) (h1 : ds.all D.one = true) : RepD NM w (.agg ds) (.agg cs) := by
  have := RepD.agg (M := NM) (w := w) ds cs.toList h.1 (fun d hd => List.all_eq_true.1 h1 d hd) h.2
  simpa using this
theorem law_of {P : Program} {f : Nat} {args : List D} {vs : List Value} {W : World} (hp : PSpec P f args (.v (.bool true))) (hds : RepDs NM W args vs) : Calls P f vs.toArray W fun e w' => e = .returned (.bool true) ∧ Ext W w' := by
  refine (hp.2 NM W vs (fun b h => h.elim) hds).mono ?_
  rintro e w' ⟨v, rfl, hv, hx⟩
  cases hv
  exact ⟨rfl, hx⟩
section
variable {H : Type} {enc : TypeId × Value → H} {w : World} {base : Nat} {spare : Nat → Bool} {held : Bool}
end
end Go.Proofs.YtgmbhaclogabeaaGreat
namespace Go.Proofs.YtgmbhaclogabeaaGreat
open Go Go.RowKit
section
variable {H : Type} {enc : TypeId × Value → H} {w : World} {base : Nat} {spare : Nat → Bool} {held : Bool}
theorem Tryz.sizeLink : Tryz.prog.cellsOf 68 = 2 := by kernel_rfl
theorem Tryz.sizeLinks : Tryz.prog.cellsOf 23 = 1 := by kernel_rfl
theorem Tryz.sizeVpcs : Tryz.prog.cellsOf 22 = 1 := by kernel_rfl
theorem Tryz.sizeNet : Tryz.prog.cellsOf 25 = 2 := by kernel_rfl
set_option maxRecDepth 100000 in
theorem rd_lnk : Rd enc Tryz.prog w base spare held 68 fun cs (l : Lnk) => RepDs NM w (encK l) cs := by
  intro fuel cs x hx
  have hl := rd_len Tryz.underlying68 hx
  rw [Tryz.sizeLink] at hl
  obtain ⟨a, ha⟩ := rd_field Tryz.underlying68 hx 0 rfl (rd_int Tryz.underlying3)
  obtain ⟨b, hb⟩ := rd_field Tryz.underlying68 hx 1 rfl (rd_int Tryz.underlying3)
  match cs, hl with
  | [c0, c1], _ =>
    simp [Tryz.sizeInt1, IntR] at ha hb
    refine ⟨⟨a, b⟩, ?_⟩
    rw [ha.1, hb.1]
    exact repDs_ints [a, b]
theorem rdw_lnks : RdW enc Tryz.prog w base spare held 23 (fun cs (l : List Lnk) => ∃ v, cs = [v] ∧ RepD NM w (.sl 2 (l.map encK)) v) (fun _ => True) := by
  have h := rdw_slice (enc := enc) (base := base) (spare := spare) (held := held) Tryz.underlying23 Tryz.sizeLink (rdw_of (rd_lnk (w := w)))
  intro fuel cs x hx
  obtain ⟨l, ⟨v, rfl, hs⟩, hw⟩ := h fuel cs x hx
  refine ⟨l, ⟨v, rfl, isSl_rep (sz := 2) (by omega) (fun a => ⟨rfl, fun d hd => ?_⟩) hs⟩, fun _ => trivial⟩
  simp [encK] at hd
  rcases hd with rfl | rfl <;> rfl
theorem rdw_vpcs : RdW enc Tryz.prog w base spare held 22 (fun cs (l : List Vpc) => ∃ v, cs = [v] ∧ RepD NM w (.sl 3 (l.map encV)) v) (fun l => ∀ v ∈ l, v.subs.length ≤ 9223372036854775807 ∧ ∀ s ∈ v.subs, s.faces.length ≤ 9223372036854775807) := by
  have h := rdw_slice (enc := enc) (base := base) (spare := spare) (held := held) Tryz.underlying22 Tryz.sizeVpc (rdw_vpc (w := w))
  intro fuel cs x hx
  obtain ⟨l, ⟨v, rfl, hs⟩, hw⟩ := h fuel cs x hx
  refine ⟨l, ⟨v, rfl, isSl_rep (sz := 3) (by omega) (fun a => ⟨rfl, fun d hd => ?_⟩) hs⟩, fun hh => (hw hh).2⟩
  simp [encV] at hd
  rcases hd with rfl | rfl | rfl <;> rfl
set_option maxRecDepth 100000 in
theorem rdw_net : RdW enc Tryz.prog w base spare held 25 (fun cs (n : Net) => RepDs NM w (encT n) cs) NetZ := by
  intro fuel cs x hx
  have hl := rd_len Tryz.underlying25 hx
  rw [Tryz.sizeNet] at hl
  obtain ⟨vs, hv, hw⟩ := rdw_field Tryz.underlying25 hx 0 rfl rdw_vpcs
  obtain ⟨ls, hk, -⟩ := rdw_field Tryz.underlying25 hx 1 rfl rdw_lnks
  match cs, hl with
  | [c0, c1], _ =>
    simp [Tryz.sizeVpcs, Tryz.sizeLinks] at hv hk
    exact ⟨⟨vs, ls⟩, repDs_appR (repDs_one hv) (repDs_one hk), hw⟩
end
end Go.Proofs.YtgmbhaclogabeaaGreat
namespace Go.Proofs.YtgmbhaclogabeaaGreat
open Go Go.RowKit Go.Proofs Go.ChangeShapes Go.WideShapes Go.ChangeAt
set_option linter.unusedVariables false
theorem netGrows_own : ownKnob Tryz.prog.godebug = Option.none := by kernel_rfl
theorem netGrows_laidOut : laidOutB Tryz.prog = true := by kernel_rfl
set_option maxRecDepth 100000 in
theorem netGrows_lifted (os : Os) (started : os.Started) (H : Type) (enc : TypeId × Value → H) :
    ReturnsInHanded {} Tryz.checked os 3 .any (Rows.netGrowsSpec.pre6 enc Tryz.prog Tryz.f3 Rows.netGrowsRow.domain false) (Rows.netGrowsSpec.post enc Tryz.prog Tryz.f3 false true false false) := by
  refine returnsInHanded_of_change_sized (C := Tryz.checked) netGrows_own started (by kernel_rfl) Tryz.func3
    (ChangeSpec.witness6 (enc := enc) (C := Tryz.checked) false ⟨#[], #[.agg #[.slice none 0 0, .slice none 0 0], .int .i64 0, .agg #[.int .i64 0, .int .i64 0, .int .i64 0]], []⟩ 8 (by kernel_rfl) (by kernel_rfl) (by kernel_rfl) (by kernel_rfl)) ?_
  intro W base args ds gs before hval0 hW hcnd hsz _
  have hval : ∀ (j : Nat) t v, Tryz.f3.params[j]? = some t → args[j]? = some v → Value.okWide Tryz.prog W .any base t v := hval0
  have hW' := hW
  obtain ⟨p, q, hA0, hV, rfl, hfz, hnd⟩ := hW
  have hA : DataW.TrodAll enc Tryz.prog W 0 (fun _ => true) true Tryz.f3.params.toList args.toList ds p := hA0
  rw [Tryz.params3] at hA hval
  obtain ⟨v0, vs0, d0, ds0, p0, q0, hargs, rfl, rfl, h0, r0⟩ := trodAll_cons hA
  obtain ⟨v1, vs1, d1, ds1, p1, q1, rfl, rfl, rfl, h1, r1⟩ := trodAll_cons r0
  obtain ⟨v2, vs2, d2, ds2, p2, q2, rfl, rfl, rfl, h2, r2⟩ := trodAll_cons r1
  obtain ⟨rfl, rfl, rfl⟩ := trodAll_nil r2
  obtain rfl : args = #[v0, v1, v2] := by cases args; simp_all
  obtain ⟨rfl, rfl⟩ := trodVars_none hV
  obtain ⟨cs0, a0, rfl, w0, s0⟩ := argw Tryz.underlying25 (hval 0 25 v0 rfl rfl) h0 rdw_net
  replace s0 := s0 (fun n hn => of_decide_eq_true (List.all_eq_true.1 hsz _ (DataW.weights_mem_each (j := 0) (t := 25) rfl rfl n hn)))
  obtain ⟨a1, rfl, w1⟩ := arg_int Tryz.underlying3 (hval 1 3 v1 rfl rfl) h1
  obtain ⟨cs2, a2, rfl, w2, s2⟩ := argw Tryz.underlying29 (hval 2 29 v2 rfl rfl) h2 rd_rngD
  clear hA0 hval0
  refine (law_of (netGrows_p a0 a1 a2 s0) (vs := [.agg cs0, .int .i64 a1, .agg cs2]) (repDs_c (rep_agg w0 rfl) (repDs_c (.v (.int .i64 a1)) (repDs_c (rep_agg w2 rfl) repDs_n)))).mono fun e W' ⟨he, bel⟩ => ?_
  subst he
  exact ⟨_, rfl, _, _, _, [], _, [], hW', trodAll_mk1 (shut_bool Tryz.underlying4 _), (trodAll_cons_mk (Below.trod netGrows_laidOut (by kernel_rfl) (of_decide_eq_true (by kernel_rfl)) h0 bel (trod_lts h0)) (trodAll_cons_mk (Below.trod netGrows_laidOut (by kernel_rfl) (of_decide_eq_true (by kernel_rfl)) h1 bel (trod_lts h1)) (trodAll_cons_mk (Below.trod netGrows_laidOut (by kernel_rfl) (of_decide_eq_true (by kernel_rfl)) h2 bel (trod_lts h2)) trodAll_mk0))), rfl, bel.frame _, fun h => by cases h⟩
theorem netGrows_over : Rows.netGrowsRow.holds Tryz.pinned (OpenSpec.ofChange Rows.netGrowsSpec) :=
  OpenClaim.holds_of_wide 3 Tryz.f3 rfl rfl rfl rfl rfl rfl rfl ⟨rfl, rfl, rfl, rfl, rfl⟩ rfl rfl rfl rfl rfl (by kernel_rfl) Tryz.func3 (by kernel_rfl)
    (of_decide_eq_true (by kernel_rfl)) (by unfold Func.isWrapper; first | (rw [if_pos (by decide +kernel)]; kernel_rfl) | (rw [if_neg (by decide +kernel)]; exact ⟨rfl, rfl⟩))
    (fun os started H enc _ => netGrows_lifted os started H enc)
theorem netGrows_holds : Rows.NetGrowsSaid := netGrows_over
#print axioms netGrows_holds
end Go.Proofs.YtgmbhaclogabeaaGreat
