/- Texts of this work, joined: Rou2, VpcR2, VpcR3, VpcR4, VpcR5, DatN, Net1, Net2, Net3, Net4, Net5, Net6, Net7, Net8, Net9, NetP, NetA, NetB, NetC, NetD0, NetE, LN0, NetR1, VpcBb, Rou4, Read. -/
import Derived.Test.YtinnohljknmolaaZHRouteTables3
import Derived.Deep.Slices
import Derived.Deep.Fields
import Derived.ChangeSame
import Derived.OpenShut
import Derived.ProofKit
import Derived.Carry
import Derived.ChangeMaps5
import Derived.DataShut
set_option linter.unusedSimpArgs false
set_option linter.unusedVariables false
namespace Go.Proofs.Ytinnohljknmolaa
open Go Go.RowKit
theorem swp_23 (a b c d : Chunk) (ha : renC (swp2 2 3) a = a) (hb : renC (swp2 2 3) b = b) (hc : renC (swp2 2 3) c = c) (hd : renC (swp2 2 3) d = d) : ∀ k, hatL [a, b, d, c] k = renC (swp2 2 3) (hatL [a, b, c, d] (swp2 2 3 k))
  | 0 => ha.symm
  | 1 => hb.symm
  | 2 => hd.symm
  | 3 => hc.symm
  | k + 4 => by
    have : swp2 2 3 (k + 4) = k + 4 := by unfold swp2; rw [if_neg (by omega), if_neg (by omega)]
    rw [this]; rfl
/-- A map tells which route is the first of a prefix. -/
def KeyI (l : List Rte) (k : Nat) (ents : List (List Int × Int)) : Prop := ∀ p : Pfx, lkE ents [p.at_, p.len] = ((l.take k).findIdx? fun r => decide (r.at_ = p)).map fun i => (i : Int)
theorem findIdx_snoc {l : List Rte} {k : Nat} {x : Rte} (hx : l[k]? = some x) (p : Pfx) : ((l.take (k + 1)).findIdx? fun r => decide (r.at_ = p)) = ((l.take k).findIdx? fun r => decide (r.at_ = p)).or (if x.at_ = p then some k else none) := by
  have hk := (List.getElem?_eq_some_iff.1 hx).1
  rw [take_snoc hx, List.findIdx?_append]
  congr 1
  by_cases h : x.at_ = p
  · rw [if_pos h]
    simp [List.findIdx?_cons, h]
    omega
  · rw [if_neg h]
    simp [List.findIdx?_cons, h]
theorem keyI_old {l : List Rte} {k : Nat} {x : Rte} {ents : List (List Int × Int)} (h : KeyI l k ents) (hx : l[k]? = some x) {v : Int} (hv : lkE ents [x.at_.at_, x.at_.len] = some v) : KeyI l (k + 1) ents := fun p => by
  rw [findIdx_snoc hx, h p]
  by_cases he : x.at_ = p
  · have := h x.at_
    rw [hv] at this
    rw [← he]
    cases hf : (l.take k).findIdx? fun r => decide (r.at_ = x.at_) with
    | none => rw [hf] at this; cases this
    | some i => rfl
  · rw [if_neg he, Option.or_none]
theorem keyI_new {l : List Rte} {k : Nat} {x : Rte} {ents : List (List Int × Int)} (h : KeyI l k ents) (hx : l[k]? = some x) (hv : lkE ents [x.at_.at_, x.at_.len] = none) : KeyI l (k + 1) (upE ents [x.at_.at_, x.at_.len] k) := fun p => by
  rw [findIdx_snoc hx, lkE_up]
  by_cases he : x.at_ = p
  · rw [if_pos (by rw [he]), if_pos he, ← he]
    have := h x.at_
    rw [hv] at this
    cases hf : (l.take k).findIdx? fun r => decide (r.at_ = x.at_) with
    | none => rfl
    | some i => rw [hf] at this; cases this
  · rw [if_neg (fun e => he (by cases hxp : x.at_; cases p; rw [hxp] at e; simp at e; rw [e.1, e.2])), if_neg he, Option.or_none, h p]
theorem keyI_look {l : List Rte} {ents : List (List Int × Int)} (h : KeyI l l.length ents) (p : Pfx) : lkE ents [p.at_, p.len] = (l.findIdx? fun r => decide (r.at_ = p)).map fun i => (i : Int) := by
  have := h p
  rwa [List.take_length] at this
theorem find_idx {l : List Rte} {p : Pfx} {i : Nat} (h : (l.findIdx? fun r => decide (r.at_ = p)) = some i) : ∃ r, l[i]? = some r ∧ (l.find? fun r => decide (r.at_ = p)) = some r ∧ i < l.length := by
  obtain ⟨hi, h1, h2⟩ := List.findIdx?_eq_some_iff_getElem.1 h
  refine ⟨l[i], List.getElem?_eq_getElem hi, ?_, hi⟩
  rw [List.find?_eq_some_iff_getElem]
  exact ⟨h1, i, hi, rfl, fun j hj => by simpa using h2 j hj⟩
theorem find_no {l : List Rte} {p : Pfx} (h : (l.findIdx? fun r => decide (r.at_ = p)) = none) : (l.find? fun r => decide (r.at_ = p)) = none := by
  rw [List.find?_eq_none]
  intro r hr
  have := List.findIdx?_eq_none_iff.1 h r hr
  simpa using this
theorem lookR_hit {l : List Rte} {a : Int} {n : Nat} {r : Rte} (h : (l.find? fun r => decide (r.at_ = pfxN a n)) = some r) : lookR l a n = some r := by
  cases n with
  | zero => exact h
  | succ n => unfold lookR; rw [h]; rfl
theorem findR_in {l : List Rte} {a : Int} (h1 : ¬ l.length > 64) (h2 : (l.all fun r => chk r.at_.at_ r.at_.len == 0) = true) (h3 : ¬ (a < 0 ∨ a > 65535)) : findR l a = match lookR l a 16 with | some r => (r, true, 0) | none => (Rte.zero, false, 0) := by
  unfold findR
  refine (if_neg h1).trans ((if_neg (by simp [h2])).trans ((if_neg h3).trans ?_))
  cases lookR l a 16 <;> rfl
set_option maxRecDepth 100000 in
set_option maxHeartbeats 2000000 in
theorem find_p (l : List Rte) (a : Int) : PSpec Try.prog 11 [.sl 3 (l.map encRo), .v (.int .i64 a)] (.tup [.agg (encRo (findR l a).1), .v (.bool (findR l a).2.1), .v (.int .i64 (findR l a).2.2)]) := by
  obtain ⟨R, hR⟩ : ∃ R, R = findR l a := ⟨_, rfl⟩
  rw [← hR]
  replace hR := Lib.hid hR
  by_cases h64 : l.length > 64
  · have hd : decide ((l.length : Int) > 64) = true := by simp; omega
    have hr : R = (Rte.zero, false, 2) := by rw [hR.out, findR, if_pos h64]
    rw [hr]
    replace hr := Lib.hid hr
    refine ps_i tab_ok mixed Try.func11 rfl Try.ntmps11 Try.results11 (by kernel_rfl) ?_
    repeat' (first | (with_reducible refine And.intro ?_ ?_) | (with_reducible refine gK_i (fun _ => ?_) (fun _ => ?_)) | (with_reducible refine condS_i (fun _ => ?_) (fun _ => ?_)) | (with_reducible refine drw_i (by kernel_rfl)) | simp -dsimp only [go_sem, seval, *, encRo, hd, undef] | ((with_reducible refine opK_c ?_); simp -dsimp only [go_sem, seval, encRo, hd, undef]; first | refine callK_r (by first | assumption | fail) (by first | exact .inl rfl | exact .inr rfl) ?_ | (refine callK_i (by assumption) ?_ ?_ ?_; (solve | (repeat (first | exact DLe.refl _ | exact DLe.nil _ | (refine DLe.tup ?_) | (refine DLe.agg ?_ rfl) | exact trivial | (refine And.intro ?_ ?_)))); (solve | exact .inl rfl | exact .inr rfl))) | fail | omega | exact decide_eq_true (by omega) | exact DLe.refl _)
    all_goals exact (by repeat (first | exact DLe.refl _ | exact DLe.nil _ | (refine DLe.tup ?_) | (refine DLe.agg ?_ rfl) | exact trivial | (refine And.intro ?_ ?_)))
  have hd : decide ((l.length : Int) > 64) = false := by simp; omega
  refine ps_i tab_ok mixed Try.func11 rfl Try.ntmps11 Try.results11 (by kernel_rfl) ?_
  repeat' (first | (with_reducible refine And.intro ?_ ?_) | (with_reducible refine gK_i (fun _ => ?_) (fun _ => ?_)) | (with_reducible refine condS_i (fun _ => ?_) (fun _ => ?_)) | (with_reducible refine drw_i (by kernel_rfl)) | simp -dsimp only [go_sem, seval, *, encRo, hd, undef] | ((with_reducible refine opK_c ?_); simp -dsimp only [go_sem, seval, encRo, hd, undef]; first | refine callK_r (by first | assumption | fail) (by first | exact .inl rfl | exact .inr rfl) ?_ | (refine callK_i (by assumption) ?_ ?_ ?_; (solve | (repeat (first | exact DLe.refl _ | exact DLe.nil _ | (refine DLe.tup ?_) | (refine DLe.agg ?_ rfl) | exact trivial | (refine And.intro ?_ ?_)))); (solve | exact .inl rfl | exact .inr rfl))) | fail | omega | exact decide_eq_true (by omega) | exact DLe.refl _)
  refine loopG tab_ok mixed (fun m e h => ∃ (k : Nat) (ents : List (List Int × Int)), k ≤ l.length ∧ KeyI l k ents ∧ ((l.take k).all fun r => chk r.at_.at_ r.at_.len == 0) = true ∧ m = l.length - k ∧
    e = [(23, .d (.v (.int .i64 k))), (22, .d (.v (.int .i64 l.length))), (21, .d (.sl 3 (l.map encRo))), (7, .mref 1), (6, .d (.v (.int .i64 0))), (5, .d (.v (.bool false))), (4, .ptr 0 0), (1, .d (.v (.int .i64 a))), (0, .d (.sl 3 (l.map encRo)))] ∧
    h = [.box 36 [.d (.v (.int .i64 0)), .d (.v (.int .i64 0)), .d (.v (.int .i64 0))], .mp 2 true ents]) _ _ _ ⟨0, [], Nat.zero_le _, fun p => rfl, rfl, rfl, rfl, rfl⟩ (weak_forget _ (by simp) (by (try simp only [encRo]); rfl) (by (repeat' (first | exact trivial | (refine ⟨rfl, ?_⟩)))) (by first | rfl | simp only [belowH, belowE, belowC, belowL, belowR, belowP, belowL_d, belowR_d, List.length_cons, List.length_nil, Nat.reduceAdd, Nat.reduceLT, decide_true, Bool.and_self, Bool.and_true]) (by first | rfl | simp only [belowH, belowE, belowC, belowL, belowR, belowP, belowL_d, belowR_d, List.length_cons, List.length_nil, Nat.reduceAdd, Nat.reduceLT, decide_true, Bool.and_self, Bool.and_true])) ?_
  rintro m e h ⟨k, ents, hk, hK, hall, hm, rfl, rfl⟩ C hC
  by_cases hlt : k < l.length
  · have hkI : (k : Int) < (l.length : Int) := by omega
    have hwr : IntKind.i64.wrap ((k : Int) + 1) = ((k + 1 : Nat) : Int) := by rw [IntKind.wrap_i64]; omega
    obtain ⟨x, hx⟩ : ∃ x, l[k]? = some x := ⟨_, List.getElem?_eq_getElem hlt⟩
    have hck := pcheck_p x.at_
    replace hm := Lib.hid hm
    by_cases hc : chk x.at_.at_ x.at_.len = 0
    · have hal2 := no_snoc (p := fun r : Rte => chk r.at_.at_ r.at_.len == 0) hx hall (by simp [hc])
      rw [hc] at hck
      clear hc hall
      replace hal2 := Lib.hid hal2
      cases hl : lkE ents [x.at_.at_, x.at_.len] with
      | some v =>
        have hk2 := keyI_old hK hx hl
        replace hk2 := Lib.hid hk2
        replace hK := Lib.hid hK
        repeat' (first | (with_reducible refine And.intro ?_ ?_) | (with_reducible refine gK_i (fun _ => ?_) (fun _ => ?_)) | (with_reducible refine condS_i (fun _ => ?_) (fun _ => ?_)) | (with_reducible refine drw_i (by kernel_rfl)) | simp -dsimp only [go_sem, seval, *, encRo, encP, hkI, hwr, hx, hl, Option.isSome_some, Option.isSome_none, undef] | ((with_reducible refine opK_c ?_); simp -dsimp only [go_sem, seval, encRo, encP, hkI, hwr, hx, hl, Option.isSome_some, Option.isSome_none, undef]; first | refine callK_r (by first | assumption | exact hck) (by first | exact .inl rfl | exact .inr rfl) ?_ | (refine callK_i (by assumption) ?_ ?_ ?_; (solve | (repeat (first | exact DLe.refl _ | exact DLe.nil _ | (refine DLe.tup ?_) | (refine DLe.agg ?_ rfl) | exact trivial | (refine And.intro ?_ ?_)))); (solve | exact .inl rfl | exact .inr rfl))) | fail | omega | exact decide_eq_true (by omega) | exact DLe.refl _)
        refine hC _ _ _ _ _ ?_ ⟨k + 1, ents, hlt, hk2.out, hal2.out, rfl, rfl, rfl⟩ (weak_forget _ (by simp) (by (try simp only [encRo]); rfl) (by (repeat' (first | exact trivial | (refine ⟨rfl, ?_⟩)))) (by first | rfl | simp only [belowH, belowE, belowC, belowL, belowR, belowP, belowL_d, belowR_d, List.length_cons, List.length_nil, Nat.reduceAdd, Nat.reduceLT, decide_true, Bool.and_self, Bool.and_true]) (by first | rfl | simp only [belowH, belowE, belowC, belowL, belowR, belowP, belowL_d, belowR_d, List.length_cons, List.length_nil, Nat.reduceAdd, Nat.reduceLT, decide_true, Bool.and_self, Bool.and_true]))
        have := hm.out; omega
      | none =>
        have hk2 := keyI_new hK hx hl
        replace hk2 := Lib.hid hk2
        replace hK := Lib.hid hK
        repeat' (first | (with_reducible refine And.intro ?_ ?_) | (with_reducible refine gK_i (fun _ => ?_) (fun _ => ?_)) | (with_reducible refine condS_i (fun _ => ?_) (fun _ => ?_)) | (with_reducible refine drw_i (by kernel_rfl)) | simp -dsimp only [go_sem, seval, *, encRo, encP, hkI, hwr, hx, hl, Option.isSome_some, Option.isSome_none, undef] | ((with_reducible refine opK_c ?_); simp -dsimp only [go_sem, seval, encRo, encP, hkI, hwr, hx, hl, Option.isSome_some, Option.isSome_none, undef]; first | refine callK_r (by first | assumption | exact hck) (by first | exact .inl rfl | exact .inr rfl) ?_ | (refine callK_i (by assumption) ?_ ?_ ?_; (solve | (repeat (first | exact DLe.refl _ | exact DLe.nil _ | (refine DLe.tup ?_) | (refine DLe.agg ?_ rfl) | exact trivial | (refine And.intro ?_ ?_)))); (solve | exact .inl rfl | exact .inr rfl))) | fail | omega | exact decide_eq_true (by omega) | exact DLe.refl _)
        refine hC _ _ _ _ _ ?_ ⟨k + 1, upE ents [x.at_.at_, x.at_.len] k, hlt, hk2.out, hal2.out, rfl, rfl, rfl⟩ (weak_forget _ (by simp) (by (try simp only [encRo]); rfl) (by (repeat' (first | exact trivial | (refine ⟨rfl, ?_⟩)))) (by first | rfl | simp only [belowH, belowE, belowC, belowL, belowR, belowP, belowL_d, belowR_d, List.length_cons, List.length_nil, Nat.reduceAdd, Nat.reduceLT, decide_true, Bool.and_self, Bool.and_true]) (by first | rfl | simp only [belowH, belowE, belowC, belowL, belowR, belowP, belowL_d, belowR_d, List.length_cons, List.length_nil, Nat.reduceAdd, Nat.reduceLT, decide_true, Bool.and_self, Bool.and_true]))
        have := hm.out; omega
    · have hr : R = (Rte.zero, false, 1) := by
        rw [hR.out, findR, if_neg h64, if_pos]
        rw [List.all_eq_false]
        exact ⟨x, List.mem_of_getElem? hx, by simpa using hc⟩
      have hcb : (chk x.at_.at_ x.at_.len != 0) = true := by simpa using hc
      rw [hr]
      clear hr hall hK
      generalize chk x.at_.at_ x.at_.len = E at *
      replace hc := Lib.hid hc
      repeat' (first | (with_reducible refine And.intro ?_ ?_) | (with_reducible refine gK_i (fun _ => ?_) (fun _ => ?_)) | (with_reducible refine condS_i (fun _ => ?_) (fun _ => ?_)) | (with_reducible refine drw_i (by kernel_rfl)) | simp -dsimp only [go_sem, seval, *, encRo, encP, hkI, hwr, hx, hcb, undef] | ((with_reducible refine opK_c ?_); simp -dsimp only [go_sem, seval, encRo, encP, hkI, hwr, hx, hcb, undef]; first | refine callK_r (by first | assumption | exact hck) (by first | exact .inl rfl | exact .inr rfl) ?_ | (refine callK_i (by assumption) ?_ ?_ ?_; (solve | (repeat (first | exact DLe.refl _ | exact DLe.nil _ | (refine DLe.tup ?_) | (refine DLe.agg ?_ rfl) | exact trivial | (refine And.intro ?_ ?_)))); (solve | exact .inl rfl | exact .inr rfl))) | fail | omega | exact decide_eq_true (by omega) | exact DLe.refl _)
      all_goals exact (by repeat (first | exact DLe.refl _ | exact DLe.nil _ | (refine DLe.tup ?_) | (refine DLe.agg ?_ rfl) | exact trivial | (refine And.intro ?_ ?_)))
  · obtain rfl : k = l.length := by omega
    rw [List.take_length] at hall
    replace hm := Lib.hid hm
    by_cases ha : a < 0 ∨ a > 65535
    · have hr : R = (Rte.zero, false, 3) := by rw [hR.out, findR, if_neg h64, if_neg (by simp [hall]), if_pos ha]
      rw [hr]
      clear hr
      replace hK := Lib.hid hK
      by_cases ha0 : a < 0
      · have e1 : decide (a < 0) = true := by simpa using ha0
        clear ha
        repeat' (first | (with_reducible refine And.intro ?_ ?_) | (with_reducible refine gK_i (fun _ => ?_) (fun _ => ?_)) | (with_reducible refine condS_i (fun _ => ?_) (fun _ => ?_)) | (with_reducible refine drw_i (by kernel_rfl)) | simp -dsimp only [go_sem, seval, *, encRo, Int.lt_irrefl, e1, undef] | ((with_reducible refine opK_c ?_); simp -dsimp only [go_sem, seval, encRo, Int.lt_irrefl, e1, undef]; first | refine callK_r (by first | assumption | fail) (by first | exact .inl rfl | exact .inr rfl) ?_ | (refine callK_i (by assumption) ?_ ?_ ?_; (solve | (repeat (first | exact DLe.refl _ | exact DLe.nil _ | (refine DLe.tup ?_) | (refine DLe.agg ?_ rfl) | exact trivial | (refine And.intro ?_ ?_)))); (solve | exact .inl rfl | exact .inr rfl))) | fail | omega | exact decide_eq_true (by omega) | exact DLe.refl _)
        all_goals exact (by repeat (first | exact DLe.refl _ | exact DLe.nil _ | (refine DLe.tup ?_) | (refine DLe.agg ?_ rfl) | exact trivial | (refine And.intro ?_ ?_)))
      · have e1 : decide (a < 0) = false := by simpa using ha0
        have e2 : decide (a > 65535) = true := by simp; omega
        clear ha
        repeat' (first | (with_reducible refine And.intro ?_ ?_) | (with_reducible refine gK_i (fun _ => ?_) (fun _ => ?_)) | (with_reducible refine condS_i (fun _ => ?_) (fun _ => ?_)) | (with_reducible refine drw_i (by kernel_rfl)) | simp -dsimp only [go_sem, seval, *, encRo, Int.lt_irrefl, e1, e2, undef] | ((with_reducible refine opK_c ?_); simp -dsimp only [go_sem, seval, encRo, Int.lt_irrefl, e1, e2, undef]; first | refine callK_r (by first | assumption | fail) (by first | exact .inl rfl | exact .inr rfl) ?_ | (refine callK_i (by assumption) ?_ ?_ ?_; (solve | (repeat (first | exact DLe.refl _ | exact DLe.nil _ | (refine DLe.tup ?_) | (refine DLe.agg ?_ rfl) | exact trivial | (refine And.intro ?_ ?_)))); (solve | exact .inl rfl | exact .inr rfl))) | fail | omega | exact decide_eq_true (by omega) | exact DLe.refl _)
        all_goals exact (by repeat (first | exact DLe.refl _ | exact DLe.nil _ | (refine DLe.tup ?_) | (refine DLe.agg ?_ rfl) | exact trivial | (refine And.intro ?_ ?_)))
    · have e1 : decide (a < 0) = false := by simp; omega
      have e2 : decide (a > 65535) = false := by simp; omega
      have h0 : 0 ≤ a := by omega
      have h1 : a ≤ 65535 := by omega
      have hR2 := hR.out
      rw [findR_in h64 hall ha] at hR2
      have hkl := keyI_look hK
      have hp16 : pfxN a 16 = ⟨a, 16⟩ := by
        unfold pfxN
        have : szI ((16 : Nat) : Int) = 1 := rfl
        rw [this]
        simp
      clear hR ha hK hall
      replace hR2 := Lib.hid hR2
      replace hkl := Lib.hid hkl
      repeat' (first | (with_reducible refine And.intro ?_ ?_) | (with_reducible refine gK_i (fun _ => ?_) (fun _ => ?_)) | (with_reducible refine condS_i (fun _ => ?_) (fun _ => ?_)) | (with_reducible refine drw_i (by kernel_rfl)) | simp -dsimp only [go_sem, seval, *, encRo, Int.lt_irrefl, e1, e2, undef] | ((with_reducible refine opK_c ?_); simp -dsimp only [go_sem, seval, encRo, Int.lt_irrefl, e1, e2, undef]; first | refine callK_r (by first | assumption | fail) (by first | exact .inl rfl | exact .inr rfl) ?_ | (refine callK_i (by assumption) ?_ ?_ ?_; (solve | (repeat (first | exact DLe.refl _ | exact DLe.nil _ | (refine DLe.tup ?_) | (refine DLe.agg ?_ rfl) | exact trivial | (refine And.intro ?_ ?_)))); (solve | exact .inl rfl | exact .inr rfl))) | fail | omega | exact decide_eq_true (by omega) | exact DLe.refl _)
      refine loopG tab_ok mixed (fun m e h => (∃ n : Nat, n ≤ 16 ∧ m = n + 1 ∧ lookR l a 16 = lookR l a n ∧
          e = [(13, .d (.v (.int .i64 0))), (12, .ptr 2 0), (7, .mref 1), (6, .d (.v (.int .i64 0))), (5, .d (.v (.bool false))), (4, .ptr 0 0), (0, .d (.sl 3 (l.map encRo)))] ∧
          h = [.box 36 [.d (.v (.int .i64 0)), .d (.v (.int .i64 0)), .d (.v (.int .i64 0))], .mp 2 true ents, .box 34 ((encP (pfxN a n)).map .d)]) ∨
        (m = 0 ∧ lookR l a 16 = none ∧ e = [(13, .d (.v (.int .i64 3))), (12, .ptr 2 0), (7, .mref 1), (6, .d (.v (.int .i64 0))), (5, .d (.v (.bool false))), (4, .ptr 0 0), (0, .d (.sl 3 (l.map encRo)))] ∧
          h = [.box 36 [.d (.v (.int .i64 0)), .d (.v (.int .i64 0)), .d (.v (.int .i64 0))], .mp 2 true ents, .box 34 [.d (.v (.int .i64 0)), .d (.v (.int .i64 0))]])) 17 _ _ (.inl ⟨16, Nat.le_refl _, rfl, rfl, rfl, rfl⟩) ?_ ?_
      · rw [hp16]
        exact weak_forget _ (by simp) (by (try simp only [encP]); rfl) (by (repeat' (first | exact trivial | (refine ⟨rfl, ?_⟩)))) (by first | rfl | simp only [belowH, belowE, belowC, belowL, belowR, belowP, belowL_d, belowR_d, List.length_cons, List.length_nil, Nat.reduceAdd, Nat.reduceLT, decide_true, Bool.and_self, Bool.and_true]) (by first | rfl | simp only [belowH, belowE, belowC, belowL, belowR, belowP, belowL_d, belowR_d, List.length_cons, List.length_nil, Nat.reduceAdd, Nat.reduceLT, decide_true, Bool.and_self, Bool.and_true])
      · rintro m2 e h (⟨n, hn, hm2, hln, rfl, rfl⟩ | ⟨hm2, hln, rfl, rfl⟩) C2 hC2
        · have hkp := hkl.out (pfxN a n)
          have hup := up_p (pfxN a n)
          cases hf : l.findIdx? fun r => decide (r.at_ = pfxN a n) with
          | some i =>
            obtain ⟨r, hri, hrf, hil⟩ := find_idx hf
            have hr : R = (r, true, 0) := by rw [hR2.out, hln, lookR_hit hrf]
            replace hkp : lkE ents [(pfxN a n).at_, (pfxN a n).len] = some (i : Int) := by rw [hkp, hf]; rfl
            have hi0 : (0 : Int) ≤ (i : Int) := by omega
            have hiL : (i : Int) < (l.length : Int) := by omega
            rw [hr]
            clear hr hln hrf hf hup hm2
            generalize pfxN a n = p at *
            repeat' (first | (with_reducible refine And.intro ?_ ?_) | (with_reducible refine gK_i (fun _ => ?_) (fun _ => ?_)) | (with_reducible refine condS_i (fun _ => ?_) (fun _ => ?_)) | (with_reducible refine drw_i (by kernel_rfl)) | simp -dsimp only [go_sem, seval, *, encRo, encP, hkp, Option.isSome_some, Option.isSome_none, hri, hi0, hiL, undef] | ((with_reducible refine opK_c ?_); simp -dsimp only [go_sem, seval, encRo, encP, hkp, Option.isSome_some, Option.isSome_none, hri, hi0, hiL, undef]; first | refine callK_r (by first | assumption | fail) (by first | exact .inl rfl | exact .inr rfl) ?_ | (refine callK_i (by assumption) ?_ ?_ ?_; (solve | (repeat (first | exact DLe.refl _ | exact DLe.nil _ | (refine DLe.tup ?_) | (refine DLe.agg ?_ rfl) | exact trivial | (refine And.intro ?_ ?_)))); (solve | exact .inl rfl | exact .inr rfl))) | fail | omega | exact decide_eq_true (by omega) | exact DLe.refl _)
            all_goals exact (by repeat (first | exact DLe.refl _ | exact DLe.nil _ | (refine DLe.tup ?_) | (refine DLe.agg ?_ rfl) | exact trivial | (refine And.intro ?_ ?_)))
          | none =>
            replace hkp : lkE ents [(pfxN a n).at_, (pfxN a n).len] = none := by rw [hkp, hf]; rfl
            have hno := find_no hf
            replace hm2 := Lib.hid hm2
            cases n with
            | zero =>
              have hl2 : lookR l a 16 = none := by rw [hln]; exact hno
              rw [pfxN_end h0 h1] at hup
              clear hln hno hf
              replace hl2 := Lib.hid hl2
              generalize pfxN a 0 = p at *
              simp only [encP] at hup
              repeat' (first | (with_reducible refine And.intro ?_ ?_) | (with_reducible refine gK_i (fun _ => ?_) (fun _ => ?_)) | (with_reducible refine condS_i (fun _ => ?_) (fun _ => ?_)) | (with_reducible refine drw_i (by kernel_rfl)) | simp -dsimp only [go_sem, seval, *, encRo, encP, hkp, Option.isSome_some, Option.isSome_none, undef] | ((with_reducible refine opK_c ?_); simp -dsimp only [go_sem, seval, encRo, encP, hkp, Option.isSome_some, Option.isSome_none, undef]; first | refine callK_r (by first | assumption | exact hup) (by first | exact .inl rfl | exact .inr rfl) ?_ | (refine callK_i (by assumption) ?_ ?_ ?_; (solve | (repeat (first | exact DLe.refl _ | exact DLe.nil _ | (refine DLe.tup ?_) | (refine DLe.agg ?_ rfl) | exact trivial | (refine And.intro ?_ ?_)))); (solve | exact .inl rfl | exact .inr rfl))) | fail | omega | exact decide_eq_true (by omega) | exact DLe.refl _)
              refine hC2 _ _ _ _ _ ?_ (.inr ⟨rfl, hl2.out, rfl, rfl⟩) ((weak_swp 2 3 (by omega) (by omega) (swp_23 _ _ _ _ rfl rfl rfl rfl)).trans ?_)
              · have := hm2.out; omega
              · exact weak_forget _ (by simp) (by (try simp only [encP]); rfl) (by (repeat' (first | exact trivial | (refine ⟨rfl, ?_⟩)))) (by first | rfl | simp only [belowH, belowE, belowC, belowL, belowR, belowP, belowL_d, belowR_d, List.length_cons, List.length_nil, Nat.reduceAdd, Nat.reduceLT, decide_true, Bool.and_self, Bool.and_true]) (by first | rfl | simp only [belowH, belowE, belowC, belowL, belowR, belowP, belowL_d, belowR_d, List.length_cons, List.length_nil, Nat.reduceAdd, Nat.reduceLT, decide_true, Bool.and_self, Bool.and_true])
            | succ n =>
              have hl2 : lookR l a 16 = lookR l a n := by rw [hln]; show (l.find? fun r => decide (r.at_ = pfxN a (n + 1))).or (lookR l a n) = _; rw [hno]; rfl
              rw [pfxN_up h0 h1 (by omega)] at hup
              clear hln hno hf
              replace hl2 := Lib.hid hl2
              have hn2 : n ≤ 16 := by omega
              generalize pfxN a (n + 1) = p at *
              have hpe : ((encP (pfxN a n)).map PV.d) = [.d (.v (.int .i64 (pfxN a n).at_)), .d (.v (.int .i64 (pfxN a n).len))] := rfl
              replace hpe := Lib.hid hpe
              repeat' (first | (with_reducible refine And.intro ?_ ?_) | (with_reducible refine gK_i (fun _ => ?_) (fun _ => ?_)) | (with_reducible refine condS_i (fun _ => ?_) (fun _ => ?_)) | (with_reducible refine drw_i (by kernel_rfl)) | simp -dsimp only [go_sem, seval, *, encRo, encP, hkp, Option.isSome_some, Option.isSome_none, undef] | ((with_reducible refine opK_c ?_); simp -dsimp only [go_sem, seval, encRo, encP, hkp, Option.isSome_some, Option.isSome_none, undef]; first | refine callK_r (by first | assumption | exact hup) (by first | exact .inl rfl | exact .inr rfl) ?_ | (refine callK_i (by assumption) ?_ ?_ ?_; (solve | (repeat (first | exact DLe.refl _ | exact DLe.nil _ | (refine DLe.tup ?_) | (refine DLe.agg ?_ rfl) | exact trivial | (refine And.intro ?_ ?_)))); (solve | exact .inl rfl | exact .inr rfl))) | fail | omega | exact decide_eq_true (by omega) | exact DLe.refl _)
              refine hC2 _ _ _ _ _ ?_ (.inl ⟨n, hn2, rfl, hl2.out, rfl, rfl⟩) ((weak_swp 2 3 (by omega) (by omega) (swp_23 _ _ _ _ rfl rfl rfl rfl)).trans ?_)
              · have := hm2.out; omega
              · exact weak_forget _ (by simp) (by (try simp only [encP]); rfl) (by (repeat' (first | exact trivial | (refine ⟨rfl, ?_⟩)))) (by first | rfl | simp only [belowH, belowE, belowC, belowL, belowR, belowP, belowL_d, belowR_d, List.length_cons, List.length_nil, Nat.reduceAdd, Nat.reduceLT, decide_true, Bool.and_self, Bool.and_true]) (by first | rfl | simp only [belowH, belowE, belowC, belowL, belowR, belowP, belowL_d, belowR_d, List.length_cons, List.length_nil, Nat.reduceAdd, Nat.reduceLT, decide_true, Bool.and_self, Bool.and_true])
        · have hr : R = (Rte.zero, false, 0) := by rw [hR2.out, hln]
          rw [hr]
          replace hr := Lib.hid hr
          replace hln := Lib.hid hln
          repeat' (first | (with_reducible refine And.intro ?_ ?_) | (with_reducible refine gK_i (fun _ => ?_) (fun _ => ?_)) | (with_reducible refine condS_i (fun _ => ?_) (fun _ => ?_)) | (with_reducible refine drw_i (by kernel_rfl)) | simp -dsimp only [go_sem, seval, *, encRo, undef] | ((with_reducible refine opK_c ?_); simp -dsimp only [go_sem, seval, encRo, undef]; first | refine callK_r (by first | assumption | fail) (by first | exact .inl rfl | exact .inr rfl) ?_ | (refine callK_i (by assumption) ?_ ?_ ?_; (solve | (repeat (first | exact DLe.refl _ | exact DLe.nil _ | (refine DLe.tup ?_) | (refine DLe.agg ?_ rfl) | exact trivial | (refine And.intro ?_ ?_)))); (solve | exact .inl rfl | exact .inr rfl))) | fail | omega | exact decide_eq_true (by omega) | exact DLe.refl _)
          all_goals exact (by repeat (first | exact DLe.refl _ | exact DLe.nil _ | (refine DLe.tup ?_) | (refine DLe.agg ?_ rfl) | exact trivial | (refine And.intro ?_ ?_)))
end Go.Proofs.Ytinnohljknmolaa
namespace Go.Proofs.Ytinnohljknmolaa
open Go Go.RowKit
set_option maxRecDepth 100000 in
set_option maxHeartbeats 1000000 in
theorem vpcMany_p (v : Vpc) (hl : v.subs.length ≤ 9223372036854775807) (hf : ∀ s ∈ v.subs, s.faces.length ≤ 9223372036854775807) : PSpec Try.prog 38 [.agg (encV v)] (.v (.bool (manyV v))) := by
  obtain ⟨R, hR⟩ : ∃ R, R = manyV v := ⟨_, rfl⟩
  rw [← hR]
  replace hR := Lib.hid hR
  unfold manyV at hR
  cases h1 : decide ((v.ranges.length : Int) > 4) with
  | true =>
    have hb : R = true := by rw [hR.out, h1]; rfl
    rw [hb]
    replace hb := Lib.hid hb
    refine ps_i tab_ok mixed Try.func38 rfl Try.ntmps38 Try.results38 (by kernel_rfl) ?_
    repeat' (first | (with_reducible refine And.intro ?_ ?_) | (with_reducible refine gK_i (fun _ => ?_) (fun _ => ?_)) | (with_reducible refine condS_i (fun _ => ?_) (fun _ => ?_)) | (with_reducible refine drw_i (by kernel_rfl)) | simp -dsimp only [go_sem, seval, *, encV, h1, undef] | ((with_reducible refine opK_c ?_); simp -dsimp only [go_sem, seval, encV, h1, undef]; first | refine callK_r (by first | assumption | fail) (by first | exact .inl rfl | exact .inr rfl) ?_ | (refine callK_i (by assumption) ?_ ?_ ?_; (solve | (repeat (first | exact DLe.refl _ | exact DLe.nil _ | (refine DLe.tup ?_) | (refine DLe.agg ?_ rfl) | exact trivial | (refine And.intro ?_ ?_)))); (solve | exact .inl rfl | exact .inr rfl))) | fail | omega | exact decide_eq_true (by omega) | exact DLe.refl _)
    all_goals exact DLe.refl _
  | false =>
    cases h2 : decide ((v.subs.length : Int) > 6) with
    | true =>
      have hb : R = true := by rw [hR.out, h1, h2]; rfl
      rw [hb]
      replace hb := Lib.hid hb
      refine ps_i tab_ok mixed Try.func38 rfl Try.ntmps38 Try.results38 (by kernel_rfl) ?_
      repeat' (first | (with_reducible refine And.intro ?_ ?_) | (with_reducible refine gK_i (fun _ => ?_) (fun _ => ?_)) | (with_reducible refine condS_i (fun _ => ?_) (fun _ => ?_)) | (with_reducible refine drw_i (by kernel_rfl)) | simp -dsimp only [go_sem, seval, *, encV, h1, h2, undef] | ((with_reducible refine opK_c ?_); simp -dsimp only [go_sem, seval, encV, h1, h2, undef]; first | refine callK_r (by first | assumption | fail) (by first | exact .inl rfl | exact .inr rfl) ?_ | (refine callK_i (by assumption) ?_ ?_ ?_; (solve | (repeat (first | exact DLe.refl _ | exact DLe.nil _ | (refine DLe.tup ?_) | (refine DLe.agg ?_ rfl) | exact trivial | (refine And.intro ?_ ?_)))); (solve | exact .inl rfl | exact .inr rfl))) | fail | omega | exact decide_eq_true (by omega) | exact DLe.refl _)
      all_goals exact DLe.refl _
    | false =>
      have hR2 : R = v.subs.any manyN := by rw [hR.out, h1, h2]; rfl
      clear hR
      replace hR2 := Lib.hid hR2
      refine ps_i tab_ok mixed Try.func38 rfl Try.ntmps38 Try.results38 (by kernel_rfl) ?_
      repeat' (first | (with_reducible refine And.intro ?_ ?_) | (with_reducible refine gK_i (fun _ => ?_) (fun _ => ?_)) | (with_reducible refine condS_i (fun _ => ?_) (fun _ => ?_)) | (with_reducible refine drw_i (by kernel_rfl)) | simp -dsimp only [go_sem, seval, *, encV, h1, h2, undef] | ((with_reducible refine opK_c ?_); simp -dsimp only [go_sem, seval, encV, h1, h2, undef]; first | refine callK_r (by first | assumption | fail) (by first | exact .inl rfl | exact .inr rfl) ?_ | (refine callK_i (by assumption) ?_ ?_ ?_; (solve | (repeat (first | exact DLe.refl _ | exact DLe.nil _ | (refine DLe.tup ?_) | (refine DLe.agg ?_ rfl) | exact trivial | (refine And.intro ?_ ?_)))); (solve | exact .inl rfl | exact .inr rfl))) | fail | omega | exact decide_eq_true (by omega) | exact DLe.refl _)
      refine loopL tab_ok mixed v.subs (fun k => (v.subs.take k).all (fun s => !(manyN s)) = true) (fun k => [(3, .d (.v (.int .i64 k))), (2, .d (.v (.bool false))), (1, .ptr 0 0)]) (fun _ => [.box 47 ((encV v).map .d)]) rfl (weak_forget _ (by simp) (by (try simp only [encV]); rfl) (by (repeat' (first | exact trivial | (refine ⟨rfl, ?_⟩)))) (by first | rfl | simp only [belowH, belowE, belowC, belowL, belowR, belowP, belowL_d, belowR_d, List.length_cons, List.length_nil, Nat.reduceAdd, Nat.reduceLT, decide_true, Bool.and_self, Bool.and_true]) (by first | rfl | simp only [belowH, belowE, belowC, belowL, belowR, belowP, belowL_d, belowR_d, List.length_cons, List.length_nil, Nat.reduceAdd, Nat.reduceLT, decide_true, Bool.and_self, Bool.and_true])) ?_ ?_
      · intro k s hs hk hI C hC
        have hkI : (k : Int) < (v.subs.length : Int) := by omega
        have hwr : IntKind.i64.wrap ((k : Int) + 1) = ((k + 1 : Nat) : Int) := by rw [IntKind.wrap_i64]; omega
        have hfl := hf s (List.mem_of_getElem? hs)
        have hmn : manyN s = true → R = true := fun h => by rw [hR2.out]; exact List.any_eq_true.2 ⟨s, List.mem_of_getElem? hs, h⟩
        have hst : manyN s = false → (v.subs.take (k + 1)).all (fun s => !(manyN s)) = true := fun h => no_snoc hs hI (by rw [h]; rfl)
        have hmd : manyN s = (decide ((s.faces.length : Int) > 8) || s.faces.any manyF) := rfl
        replace hI := Lib.hid hI
        replace hst := Lib.hid hst
        cases h3 : decide ((s.faces.length : Int) > 8) with
        | true =>
          have hb : R = true := hmn (by rw [hmd, h3]; rfl)
          rw [hb]
          replace hb := Lib.hid hb
          clear hmn hmd
          repeat' (first | (with_reducible refine And.intro ?_ ?_) | (with_reducible refine gK_i (fun _ => ?_) (fun _ => ?_)) | (with_reducible refine condS_i (fun _ => ?_) (fun _ => ?_)) | (with_reducible refine drw_i (by kernel_rfl)) | simp -dsimp only [go_sem, seval, *, encV, encN, hkI, hwr, hs, h3] | ((with_reducible refine opK_c ?_); simp -dsimp only [go_sem, seval, encV, encN, hkI, hwr, hs, h3]; first | refine callK_r (by first | assumption | fail) (by first | exact .inl rfl | exact .inr rfl) ?_ | (refine callK_i (by assumption) ?_ ?_ ?_; (solve | (repeat (first | exact DLe.refl _ | exact DLe.nil _ | (refine DLe.tup ?_) | (refine DLe.agg ?_ rfl) | exact trivial | (refine And.intro ?_ ?_)))); (solve | exact .inl rfl | exact .inr rfl))) | fail | omega | exact decide_eq_true (by omega) | exact DLe.refl _)
          all_goals exact DLe.refl _
        | false =>
          rw [h3, Bool.false_or] at hmd
          replace hmn := Lib.hid hmn
          replace hmd := Lib.hid hmd
          repeat' (first | (with_reducible refine And.intro ?_ ?_) | (with_reducible refine gK_i (fun _ => ?_) (fun _ => ?_)) | (with_reducible refine condS_i (fun _ => ?_) (fun _ => ?_)) | (with_reducible refine drw_i (by kernel_rfl)) | simp -dsimp only [go_sem, seval, *, encV, encN, hkI, hs, h3] | ((with_reducible refine opK_c ?_); simp -dsimp only [go_sem, seval, encV, encN, hkI, hs, h3]; first | refine callK_r (by first | assumption | fail) (by first | exact .inl rfl | exact .inr rfl) ?_ | (refine callK_i (by assumption) ?_ ?_ ?_; (solve | (repeat (first | exact DLe.refl _ | exact DLe.nil _ | (refine DLe.tup ?_) | (refine DLe.agg ?_ rfl) | exact trivial | (refine And.intro ?_ ?_)))); (solve | exact .inl rfl | exact .inr rfl))) | fail | omega | exact decide_eq_true (by omega) | exact DLe.refl _)
          refine loopL tab_ok mixed s.faces (fun j => (s.faces.take j).all (fun f => !(manyF f)) = true) (fun j => [(4, .d (.v (.int .i64 j))), (3, .d (.v (.int .i64 k))), (2, .d (.v (.bool false))), (1, .ptr 0 0)]) (fun _ => [.box 47 ((encV v).map .d)]) rfl (weak_forget _ (by simp) (by (try simp only [encV]); rfl) (by (repeat' (first | exact trivial | (refine ⟨rfl, ?_⟩)))) (by first | rfl | simp only [belowH, belowE, belowC, belowL, belowR, belowP, belowL_d, belowR_d, List.length_cons, List.length_nil, Nat.reduceAdd, Nat.reduceLT, decide_true, Bool.and_self, Bool.and_true]) (by first | rfl | simp only [belowH, belowE, belowC, belowL, belowR, belowP, belowL_d, belowR_d, List.length_cons, List.length_nil, Nat.reduceAdd, Nat.reduceLT, decide_true, Bool.and_self, Bool.and_true])) ?_ ?_
          · intro j f hfj hj hJ C2 hC2
            have hjI : (j : Int) < (s.faces.length : Int) := by omega
            have hwj : IntKind.i64.wrap ((j : Int) + 1) = ((j + 1 : Nat) : Int) := by rw [IntKind.wrap_i64]; omega
            replace hJ := Lib.hid hJ
            cases h4 : decide ((f.addrs.length : Int) > 4) with
            | true =>
              have hb : R = true := hmn.out (by rw [hmd.out]; exact List.any_eq_true.2 ⟨f, List.mem_of_getElem? hfj, h4⟩)
              rw [hb]
              replace hb := Lib.hid hb
              repeat' (first | (with_reducible refine And.intro ?_ ?_) | (with_reducible refine gK_i (fun _ => ?_) (fun _ => ?_)) | (with_reducible refine condS_i (fun _ => ?_) (fun _ => ?_)) | (with_reducible refine drw_i (by kernel_rfl)) | simp -dsimp only [go_sem, seval, *, encV, encN, encF, hkI, hs, hjI, hwj, hfj, h4] | ((with_reducible refine opK_c ?_); simp -dsimp only [go_sem, seval, encV, encN, encF, hkI, hs, hjI, hwj, hfj, h4]; first | refine callK_r (by first | assumption | fail) (by first | exact .inl rfl | exact .inr rfl) ?_ | (refine callK_i (by assumption) ?_ ?_ ?_; (solve | (repeat (first | exact DLe.refl _ | exact DLe.nil _ | (refine DLe.tup ?_) | (refine DLe.agg ?_ rfl) | exact trivial | (refine And.intro ?_ ?_)))); (solve | exact .inl rfl | exact .inr rfl))) | fail | omega | exact decide_eq_true (by omega) | exact DLe.refl _)
              all_goals exact DLe.refl _
            | false =>
              have hJ2 := Lib.hid (no_snoc (p := fun f : Fce => !(manyF f)) hfj hJ.out (by unfold manyF; rw [h4]; rfl))
              repeat' (first | (with_reducible refine And.intro ?_ ?_) | (with_reducible refine gK_i (fun _ => ?_) (fun _ => ?_)) | (with_reducible refine condS_i (fun _ => ?_) (fun _ => ?_)) | (with_reducible refine drw_i (by kernel_rfl)) | simp -dsimp only [go_sem, seval, *, encV, encN, encF, hkI, hs, hjI, hwj, hfj, h4] | ((with_reducible refine opK_c ?_); simp -dsimp only [go_sem, seval, encV, encN, encF, hkI, hs, hjI, hwj, hfj, h4]; first | refine callK_r (by first | assumption | fail) (by first | exact .inl rfl | exact .inr rfl) ?_ | (refine callK_i (by assumption) ?_ ?_ ?_; (solve | (repeat (first | exact DLe.refl _ | exact DLe.nil _ | (refine DLe.tup ?_) | (refine DLe.agg ?_ rfl) | exact trivial | (refine And.intro ?_ ?_)))); (solve | exact .inl rfl | exact .inr rfl))) | fail | omega | exact decide_eq_true (by omega) | exact DLe.refl _)
              exact hC2 _ _ hJ2.out (weak_forget _ (by simp) (by (try simp only [encV]); rfl) (by (repeat' (first | exact trivial | (refine ⟨rfl, ?_⟩)))) (by first | rfl | simp only [belowH, belowE, belowC, belowL, belowR, belowP, belowL_d, belowR_d, List.length_cons, List.length_nil, Nat.reduceAdd, Nat.reduceLT, decide_true, Bool.and_self, Bool.and_true]) (by first | rfl | simp only [belowH, belowE, belowC, belowL, belowR, belowP, belowL_d, belowR_d, List.length_cons, List.length_nil, Nat.reduceAdd, Nat.reduceLT, decide_true, Bool.and_self, Bool.and_true]))
          · intro hJ C2
            rw [List.take_length] at hJ
            have hI2 := hst.out (by rw [hmd.out, List.any_eq_false]; intro x hx; have := List.all_eq_true.1 hJ x hx; simpa using this)
            replace hJ := Lib.hid hJ
            replace hI2 := Lib.hid hI2
            repeat' (first | (with_reducible refine And.intro ?_ ?_) | (with_reducible refine gK_i (fun _ => ?_) (fun _ => ?_)) | (with_reducible refine condS_i (fun _ => ?_) (fun _ => ?_)) | (with_reducible refine drw_i (by kernel_rfl)) | simp -dsimp only [go_sem, seval, *, encV, encN, hkI, hwr, hs, Int.lt_irrefl] | ((with_reducible refine opK_c ?_); simp -dsimp only [go_sem, seval, encV, encN, hkI, hwr, hs, Int.lt_irrefl]; first | refine callK_r (by first | assumption | fail) (by first | exact .inl rfl | exact .inr rfl) ?_ | (refine callK_i (by assumption) ?_ ?_ ?_; (solve | (repeat (first | exact DLe.refl _ | exact DLe.nil _ | (refine DLe.tup ?_) | (refine DLe.agg ?_ rfl) | exact trivial | (refine And.intro ?_ ?_)))); (solve | exact .inl rfl | exact .inr rfl))) | fail | omega | exact decide_eq_true (by omega) | exact DLe.refl _)
            exact hC _ _ hI2.out (weak_forget _ (by simp) (by (try simp only [encV]); rfl) (by (repeat' (first | exact trivial | (refine ⟨rfl, ?_⟩)))) (by first | rfl | simp only [belowH, belowE, belowC, belowL, belowR, belowP, belowL_d, belowR_d, List.length_cons, List.length_nil, Nat.reduceAdd, Nat.reduceLT, decide_true, Bool.and_self, Bool.and_true]) (by first | rfl | simp only [belowH, belowE, belowC, belowL, belowR, belowP, belowL_d, belowR_d, List.length_cons, List.length_nil, Nat.reduceAdd, Nat.reduceLT, decide_true, Bool.and_self, Bool.and_true]))
      · intro hI C
        rw [List.take_length] at hI
        have hb : R = false := by rw [hR2.out, List.any_eq_false]; intro x hx; have := List.all_eq_true.1 hI x hx; simpa using this
        rw [hb]
        replace hb := Lib.hid hb
        replace hI := Lib.hid hI
        repeat' (first | (with_reducible refine And.intro ?_ ?_) | (with_reducible refine gK_i (fun _ => ?_) (fun _ => ?_)) | (with_reducible refine condS_i (fun _ => ?_) (fun _ => ?_)) | (with_reducible refine drw_i (by kernel_rfl)) | simp -dsimp only [go_sem, seval, *, encV, Int.lt_irrefl] | ((with_reducible refine opK_c ?_); simp -dsimp only [go_sem, seval, encV, Int.lt_irrefl]; first | refine callK_r (by first | assumption | fail) (by first | exact .inl rfl | exact .inr rfl) ?_ | (refine callK_i (by assumption) ?_ ?_ ?_; (solve | (repeat (first | exact DLe.refl _ | exact DLe.nil _ | (refine DLe.tup ?_) | (refine DLe.agg ?_ rfl) | exact trivial | (refine And.intro ?_ ?_)))); (solve | exact .inl rfl | exact .inr rfl))) | fail | omega | exact decide_eq_true (by omega) | exact DLe.refl _)
        all_goals exact DLe.refl _
end Go.Proofs.Ytinnohljknmolaa
namespace Go.Proofs.Ytinnohljknmolaa
open Go Go.RowKit
theorem facesB_bad {s : Sbn} {f : Fce} (hf : f ∈ s.faces) (h : faceB s.at_ f = false) : facesB s = false := by
  unfold facesB
  rw [show s.faces.all (faceB s.at_) = false from by rw [List.all_eq_false]; exact ⟨f, hf, by rw [h]; simp⟩]; rfl
theorem facesB_rise {s : Sbn} {k : Nat} {x y : Fce} (h0 : 0 < k) (hx : s.faces[k - 1]? = some x) (hy : s.faces[k]? = some y) (h : x.id ≥ y.id) : facesB s = false := by
  have : risB (fun f : Fce => f.id) s.faces = false := by
    rw [Bool.eq_false_iff, ne_eq, risB_at]
    intro hr
    obtain ⟨hl, he⟩ := List.getElem?_eq_some_iff.1 hy
    obtain ⟨hl1, he1⟩ := List.getElem?_eq_some_iff.1 hx
    have h1 := hr (k - 1) (by omega)
    simp only [show k - 1 + 1 = k by omega, he, he1] at h1
    omega
  unfold facesB
  simp only [this, Bool.and_false]
theorem faceB_rise {p : Pfx} {f : Fce} {k : Nat} {x y : Int} (h0 : 0 < k) (hx : f.addrs[k - 1]? = some x) (hy : f.addrs[k]? = some y) (h : x ≥ y) : faceB p f = false := by
  have : risB (fun x => x) f.addrs = false := by
    rw [Bool.eq_false_iff, ne_eq, risB_at]
    intro hr
    obtain ⟨hl, he⟩ := List.getElem?_eq_some_iff.1 hy
    obtain ⟨hl1, he1⟩ := List.getElem?_eq_some_iff.1 hx
    have h1 := hr (k - 1) (by omega)
    simp only [show k - 1 + 1 = k by omega, he, he1] at h1
    omega
  unfold faceB
  simp [this]
theorem facesB_dup {s : Sbn} {k : Nat} {f : Fce} {a : Int} (hf : s.faces[k]? = some f) (ha : a ∈ f.addrs) (hd : a ∈ (s.faces.take k).flatMap (·.addrs)) : facesB s = false := by
  have : ¬ (s.faces.flatMap (·.addrs)).Nodup := by
    intro hn
    rw [← List.take_append_drop k s.faces, drop_get hf, List.flatMap_append, List.flatMap_cons, List.nodup_append] at hn
    exact hn.2.2 a hd a (List.mem_append_left _ ha) rfl
  unfold facesB
  simp [this]
theorem ris_step {α : Type} {key : α → Int} {l : List α} {k : Nat} {y : α} (hy : l[k]? = some y) (h : ∀ j (h : j + 1 < l.length), j + 1 < k → key l[j] < key l[j + 1]) (hs : ∀ x, 0 < k → l[k - 1]? = some x → key x < key y) : ∀ j (h : j + 1 < l.length), j + 1 < k + 1 → key l[j] < key l[j + 1] := by
  intro j hj hjk
  rcases Nat.lt_or_ge (j + 1) k with h1 | h1
  · exact h j hj h1
  · obtain rfl : k = j + 1 := by omega
    obtain ⟨hl, he⟩ := List.getElem?_eq_some_iff.1 hy
    rw [he]
    exact hs _ (by omega) (List.getElem?_eq_getElem (by omega))
set_option maxRecDepth 100000 in
set_option maxHeartbeats 4000000 in
theorem facesFine_p (s : Sbn) (h8 : s.faces.length ≤ 8) (h4 : ∀ f ∈ s.faces, f.addrs.length ≤ 4) : PSpec Try.prog 41 [.agg (encN s)] (.v (.bool (facesB s))) := by
  obtain ⟨R, hR⟩ : ∃ R, R = facesB s := ⟨_, rfl⟩
  rw [← hR]
  replace hR := Lib.hid hR
  refine ps_i tab_ok mixed Try.func41 rfl Try.ntmps41 Try.results41 (by kernel_rfl) ?_
  repeat' (first | (with_reducible refine And.intro ?_ ?_) | (with_reducible refine gK_i (fun _ => ?_) (fun _ => ?_)) | (with_reducible refine condS_i (fun _ => ?_) (fun _ => ?_)) | (with_reducible refine drw_i (by kernel_rfl)) | simp -dsimp only [go_sem, seval, *, encN] | ((with_reducible refine opK_c ?_); simp -dsimp only [go_sem, seval, encN]; first | refine callK_r (by first | assumption | fail) (by first | exact .inl rfl | exact .inr rfl) ?_ | (refine callK_i (by assumption) ?_ ?_ ?_; (solve | (repeat (first | exact DLe.refl _ | exact DLe.nil _ | (refine DLe.tup ?_) | (refine DLe.agg ?_ rfl) | exact trivial | (refine And.intro ?_ ?_)))); (solve | exact .inl rfl | exact .inr rfl))) | fail | omega | exact decide_eq_true (by omega) | exact DLe.refl _)
  refine loopG tab_ok mixed (fun m e h => ∃ (k g : Nat) (A : List Int), k ≤ s.faces.length ∧ A = (s.faces.take k).flatMap (·.addrs) ∧ A.length ≤ 4 * k ∧ A.Nodup ∧ (s.faces.take k).all (faceB s.at_) = true ∧ (∀ j (h : j + 1 < s.faces.length), j + 1 < k → s.faces[j].id < s.faces[j + 1].id) ∧ m = s.faces.length - k ∧
    e = [(4, .d (.v (.int .i64 k))), (3, .own 1 g), (2, .d (.v (.bool false))), (1, .ptr 0 0)] ∧ h = [.box 86 ((encN s).map .d), .row 3 1 g (dRows (A.map encA))]) _ _ _ ⟨0, 0, [], Nat.zero_le _, rfl, Nat.zero_le _, List.nodup_nil, rfl, fun j h h1 => by omega, rfl, rfl, rfl⟩ ((weak_adopt (Nat.zero_le _) 3 3 1 rfl).trans (weak_forget _ (by simp) (by (try simp only [encN]); rfl) (by (repeat' (first | exact trivial | (refine ⟨rfl, ?_⟩)))) (by first | rfl | simp only [belowH, belowE, belowC, belowL, belowR, belowP, belowL_d, belowR_d, List.length_cons, List.length_nil, Nat.reduceAdd, Nat.reduceLT, decide_true, Bool.and_self, Bool.and_true]) (by first | rfl | simp only [belowH, belowE, belowC, belowL, belowR, belowP, belowL_d, belowR_d, List.length_cons, List.length_nil, Nat.reduceAdd, Nat.reduceLT, decide_true, Bool.and_self, Bool.and_true]))) ?_
  rintro m e h ⟨k, g, A, hk, hA, hAl, hnd, hall, hris, hm, rfl, rfl⟩ C hC
  replace hm := Lib.hid hm
  replace hA := Lib.hid hA
  replace hnd := Lib.hid hnd
  replace hall := Lib.hid hall
  replace hris := Lib.hid hris
  by_cases hlt : k < s.faces.length
  · have hkI : (k : Int) < (s.faces.length : Int) := by omega
    have hwr : IntKind.i64.wrap ((k : Int) + 1) = ((k + 1 : Nat) : Int) := by rw [IntKind.wrap_i64]; omega
    have hwm : decide ((k : Int) > 0) = true → IntKind.i64.wrap ((k : Int) - 1) = ((k - 1 : Nat) : Int) := fun h => by have := of_decide_eq_true h; rw [IntKind.wrap_i64]; omega
    obtain ⟨f, hf⟩ : ∃ f, s.faces[k]? = some f := ⟨_, List.getElem?_eq_getElem hlt⟩
    obtain ⟨y, hy⟩ : ∃ y, s.faces[k - 1]? = some y := ⟨_, List.getElem?_eq_getElem (by omega)⟩
    have hfm := List.mem_of_getElem? hf
    have hfl := h4 f hfm
    have hw : PSpec Try.prog 27 [.v (.int .i64 f.id), .v (.int .i64 1), .v (.int .i64 65536)] (.v (.bool (idOK f.id))) := withinR_p _ _ _
    have hbr : (0 < k ∧ y.id ≥ f.id) → R = false := fun h => by rw [hR.out]; exact facesB_rise h.1 hy hf h.2
    have hbf : faceB s.at_ f = false → R = false := fun h => by rw [hR.out]; exact facesB_bad hfm h
    have hbd : ∀ a ∈ f.addrs, a ∈ A → R = false := fun a h1 h2 => by rw [hR.out]; exact facesB_dup hf h1 (by rw [← hA.out]; exact h2)
    have hfd : faceB s.at_ f = (idOK f.id && (!((f.addrs.length : Int) == 0) && (risB (fun x => x) f.addrs && f.addrs.all (innB s.at_)))) := rfl
    replace hbr := Lib.hid hbr
    replace hbf := Lib.hid hbf
    replace hbd := Lib.hid hbd
    replace hfd := Lib.hid hfd
    cases b1 : idOK f.id with
    | false =>
      have hr : R = false := hbf.out (by rw [hfd.out, b1]; rfl)
      rw [b1] at hw
      rw [hr]
      replace hr := Lib.hid hr
      repeat' (first | (with_reducible refine And.intro ?_ ?_) | (with_reducible refine gK_i (fun _ => ?_) (fun _ => ?_)) | (with_reducible refine condS_i (fun _ => ?_) (fun _ => ?_)) | (with_reducible refine drw_i (by kernel_rfl)) | simp -dsimp only [go_sem, seval, *, encN, encF, hkI, hf, hy, undef] | ((with_reducible refine opK_c ?_); simp -dsimp only [go_sem, seval, encN, encF, hkI, hf, hy, undef]; first | refine callK_r (by first | assumption | exact hw) (by first | exact .inl rfl | exact .inr rfl) ?_ | (refine callK_i (by assumption) ?_ ?_ ?_; (solve | (repeat (first | exact DLe.refl _ | exact DLe.nil _ | (refine DLe.tup ?_) | (refine DLe.agg ?_ rfl) | exact trivial | (refine And.intro ?_ ?_)))); (solve | exact .inl rfl | exact .inr rfl))) | fail | omega | exact decide_eq_true (by omega) | exact DLe.refl _)
      all_goals exact DLe.refl _
    | true =>
      rw [b1] at hw
      cases b2 : ((f.addrs.length : Int) == 0) with
      | true =>
        have hr : R = false := hbf.out (by rw [hfd.out, b1, b2]; rfl)
        rw [hr]
        replace hr := Lib.hid hr
        repeat' (first | (with_reducible refine And.intro ?_ ?_) | (with_reducible refine gK_i (fun _ => ?_) (fun _ => ?_)) | (with_reducible refine condS_i (fun _ => ?_) (fun _ => ?_)) | (with_reducible refine drw_i (by kernel_rfl)) | simp -dsimp only [go_sem, seval, *, encN, encF, hkI, hwm, hf, hy, b2, undef] | ((with_reducible refine opK_c ?_); simp -dsimp only [go_sem, seval, encN, encF, hkI, hwm, hf, hy, b2, undef]; first | refine callK_r (by first | assumption | exact hw) (by first | exact .inl rfl | exact .inr rfl) ?_ | (refine callK_i (by assumption) ?_ ?_ ?_; (solve | (repeat (first | exact DLe.refl _ | exact DLe.nil _ | (refine DLe.tup ?_) | (refine DLe.agg ?_ rfl) | exact trivial | (refine And.intro ?_ ?_)))); (solve | exact .inl rfl | exact .inr rfl))) | fail | omega | exact decide_eq_true (by omega) | exact DLe.refl _)
        all_goals exact DLe.refl _
      | false =>
        repeat' (first | (with_reducible refine And.intro ?_ ?_) | (with_reducible refine gK_i (fun _ => ?_) (fun _ => ?_)) | (with_reducible refine condS_i (fun _ => ?_) (fun _ => ?_)) | (with_reducible refine drw_i (by kernel_rfl)) | simp -dsimp only [go_sem, seval, *, encN, encF, hkI, hwm, hf, hy, b2, undef] | ((with_reducible refine opK_c ?_); simp -dsimp only [go_sem, seval, encN, encF, hkI, hwm, hf, hy, b2, undef]; first | refine callK_r (by first | assumption | exact hw) (by first | exact .inl rfl | exact .inr rfl) ?_ | (refine callK_i (by assumption) ?_ ?_ ?_; (solve | (repeat (first | exact DLe.refl _ | exact DLe.nil _ | (refine DLe.tup ?_) | (refine DLe.agg ?_ rfl) | exact trivial | (refine And.intro ?_ ?_)))); (solve | exact .inl rfl | exact .inr rfl))) | fail | omega | exact decide_eq_true (by omega) | exact DLe.refl _)
        all_goals first
          | (exact dle_b (hbr.out (by clear hw hC; grind)).symm)
          | skip
        all_goals
          have hst : 0 < k → y.id < f.id := by clear hw hC; grind
          replace hst := Lib.hid hst
          refine loopG tab_ok mixed (fun m e h => ∃ (j : Nat), j ≤ f.addrs.length ∧ (f.addrs.take j).all (innB s.at_) = true ∧ (∀ i (h : i + 1 < f.addrs.length), i + 1 < j → f.addrs[i] < f.addrs[i + 1]) ∧ (f.addrs.take j).all (fun a => !(A.contains a)) = true ∧ m = f.addrs.length - j ∧
            e = [(6, .d (.v (.int .i64 j))), (5, .ptr 2 0), (4, .d (.v (.int .i64 k))), (3, .own 1 g), (2, .d (.v (.bool false))), (1, .ptr 0 0)] ∧ h = [.box 86 ((encN s).map .d), .row 3 1 g (dRows (A.map encA)), .box 91 ((encF f).map .d)]) _ _ _ ⟨0, Nat.zero_le _, rfl, fun j h h1 => by omega, rfl, rfl, rfl, rfl⟩ (weak_forget _ (by simp) (by (try simp only [encN, encF]); rfl) (by (repeat' (first | exact trivial | (refine ⟨rfl, ?_⟩)))) (by first | rfl | simp only [belowH, belowE, belowC, belowL, belowR, belowP, belowL_d, belowR_d, List.length_cons, List.length_nil, Nat.reduceAdd, Nat.reduceLT, decide_true, Bool.and_self, Bool.and_true]) (by first | rfl | simp only [belowH, belowE, belowC, belowL, belowR, belowP, belowL_d, belowR_d, List.length_cons, List.length_nil, Nat.reduceAdd, Nat.reduceLT, decide_true, Bool.and_self, Bool.and_true])) ?_
          rintro m2 e h ⟨j, hj, hin, hri2, hno, hm2, rfl, rfl⟩ C2 hC2
          replace hm2 := Lib.hid hm2
          replace hin := Lib.hid hin
          replace hri2 := Lib.hid hri2
          replace hno := Lib.hid hno
          by_cases hlj : j < f.addrs.length
          · have hjI : (j : Int) < (f.addrs.length : Int) := by omega
            have hwj : IntKind.i64.wrap ((j : Int) + 1) = ((j + 1 : Nat) : Int) := by rw [IntKind.wrap_i64]; omega
            have hwi : decide ((j : Int) > 0) = true → IntKind.i64.wrap ((j : Int) - 1) = ((j - 1 : Nat) : Int) := fun h => by have := of_decide_eq_true h; rw [IntKind.wrap_i64]; omega
            obtain ⟨a, ha⟩ : ∃ a, f.addrs[j]? = some a := ⟨_, List.getElem?_eq_getElem hlj⟩
            obtain ⟨b, hb⟩ : ∃ b, f.addrs[j - 1]? = some b := ⟨_, List.getElem?_eq_getElem (by omega)⟩
            have ham := List.mem_of_getElem? ha
            have hnr := innerR_p s a
            have hba : (0 < j ∧ b ≥ a) → R = false := fun h => hbf.out (faceB_rise h.1 hb ha h.2)
            replace hba := Lib.hid hba
            cases b3 : innB s.at_ a with
            | false =>
              have hr : R = false := hbf.out (by rw [hfd.out, show f.addrs.all (innB s.at_) = false from by rw [List.all_eq_false]; exact ⟨a, ham, by rw [b3]; simp⟩]; simp)
              rw [b3] at hnr
              rw [hr]
              replace hr := Lib.hid hr
              repeat' (first | (with_reducible refine And.intro ?_ ?_) | (with_reducible refine gK_i (fun _ => ?_) (fun _ => ?_)) | (with_reducible refine condS_i (fun _ => ?_) (fun _ => ?_)) | (with_reducible refine drw_i (by kernel_rfl)) | simp -dsimp only [go_sem, seval, *, encN, encF, encA, hjI, ha, hb, undef] | ((with_reducible refine opK_c ?_); simp -dsimp only [go_sem, seval, encN, encF, encA, hjI, ha, hb, undef]; first | refine callK_r (by first | assumption | exact hnr) (by first | exact .inl rfl | exact .inr rfl) ?_ | (refine callK_i (by assumption) ?_ ?_ ?_; (solve | (repeat (first | exact DLe.refl _ | exact DLe.nil _ | (refine DLe.tup ?_) | (refine DLe.agg ?_ rfl) | exact trivial | (refine And.intro ?_ ?_)))); (solve | exact .inl rfl | exact .inr rfl))) | fail | omega | exact decide_eq_true (by omega) | exact DLe.refl _)
              all_goals exact DLe.refl _
            | true =>
              rw [b3] at hnr
              repeat' (first | (with_reducible refine And.intro ?_ ?_) | (with_reducible refine gK_i (fun _ => ?_) (fun _ => ?_)) | (with_reducible refine condS_i (fun _ => ?_) (fun _ => ?_)) | (with_reducible refine drw_i (by kernel_rfl)) | simp -dsimp only [go_sem, seval, *, encN, encF, encA, hjI, hwi, ha, hb, undef] | ((with_reducible refine opK_c ?_); simp -dsimp only [go_sem, seval, encN, encF, encA, hjI, hwi, ha, hb, undef]; first | refine callK_r (by first | assumption | exact hnr) (by first | exact .inl rfl | exact .inr rfl) ?_ | (refine callK_i (by assumption) ?_ ?_ ?_; (solve | (repeat (first | exact DLe.refl _ | exact DLe.nil _ | (refine DLe.tup ?_) | (refine DLe.agg ?_ rfl) | exact trivial | (refine And.intro ?_ ?_)))); (solve | exact .inl rfl | exact .inr rfl))) | fail | omega | exact decide_eq_true (by omega) | exact DLe.refl _)
              all_goals first
                | (exact dle_b (hba.out (by clear hw hC hC2 hnr; grind)).symm)
                | skip
              all_goals
                have hsa : 0 < j → b < a := by clear hw hC hC2 hnr; grind
                replace hsa := Lib.hid hsa
                refine loopL tab_ok mixed A (fun q => (A.take q).all (fun x => !(x == a)) = true) (fun q => [(7, .d (.v (.int .i64 q))), (6, .d (.v (.int .i64 j))), (5, .ptr 2 0), (4, .d (.v (.int .i64 k))), (3, .own 1 g), (2, .d (.v (.bool false))), (1, .ptr 0 0)])
                  (fun _ => [.box 86 ((encN s).map .d), .row 3 1 g (dRows (A.map encA)), .box 91 ((encF f).map .d)]) rfl (weak_forget _ (by simp) (by (try simp only [encN, encF]); rfl) (by (repeat' (first | exact trivial | (refine ⟨rfl, ?_⟩)))) (by first | rfl | simp only [belowH, belowE, belowC, belowL, belowR, belowP, belowL_d, belowR_d, List.length_cons, List.length_nil, Nat.reduceAdd, Nat.reduceLT, decide_true, Bool.and_self, Bool.and_true]) (by first | rfl | simp only [belowH, belowE, belowC, belowL, belowR, belowP, belowL_d, belowR_d, List.length_cons, List.length_nil, Nat.reduceAdd, Nat.reduceLT, decide_true, Bool.and_self, Bool.and_true])) ?_ ?_
                · intro q x hx hq hQ C3 hC3
                  have hqI : (q : Int) < (A.length : Int) := by omega
                  have hwq : IntKind.i64.wrap ((q : Int) + 1) = ((q + 1 : Nat) : Int) := by rw [IntKind.wrap_i64]; omega
                  replace hQ := Lib.hid hQ
                  cases b4 : (x == a) with
                  | true =>
                    have hr : R = false := hbd.out a ham (by rw [← eq_of_beq b4]; exact List.mem_of_getElem? hx)
                    rw [hr]
                    replace hr := Lib.hid hr
                    repeat' (first | (with_reducible refine And.intro ?_ ?_) | (with_reducible refine gK_i (fun _ => ?_) (fun _ => ?_)) | (with_reducible refine condS_i (fun _ => ?_) (fun _ => ?_)) | (with_reducible refine drw_i (by kernel_rfl)) | simp -dsimp only [go_sem, seval, *, encN, encF, encA, hqI, hwq, ha, hx, b4, undef] | ((with_reducible refine opK_c ?_); simp -dsimp only [go_sem, seval, encN, encF, encA, hqI, hwq, ha, hx, b4, undef]; first | refine callK_r (by first | assumption | fail) (by first | exact .inl rfl | exact .inr rfl) ?_ | (refine callK_i (by assumption) ?_ ?_ ?_; (solve | (repeat (first | exact DLe.refl _ | exact DLe.nil _ | (refine DLe.tup ?_) | (refine DLe.agg ?_ rfl) | exact trivial | (refine And.intro ?_ ?_)))); (solve | exact .inl rfl | exact .inr rfl))) | fail | omega | exact decide_eq_true (by omega) | exact DLe.refl _)
                    all_goals exact DLe.refl _
                  | false =>
                    have hQ2 := Lib.hid (no_snoc (p := fun x : Int => !(x == a)) hx hQ.out (by rw [b4]; rfl))
                    repeat' (first | (with_reducible refine And.intro ?_ ?_) | (with_reducible refine gK_i (fun _ => ?_) (fun _ => ?_)) | (with_reducible refine condS_i (fun _ => ?_) (fun _ => ?_)) | (with_reducible refine drw_i (by kernel_rfl)) | simp -dsimp only [go_sem, seval, *, encN, encF, encA, hqI, hwq, ha, hx, b4, undef] | ((with_reducible refine opK_c ?_); simp -dsimp only [go_sem, seval, encN, encF, encA, hqI, hwq, ha, hx, b4, undef]; first | refine callK_r (by first | assumption | fail) (by first | exact .inl rfl | exact .inr rfl) ?_ | (refine callK_i (by assumption) ?_ ?_ ?_; (solve | (repeat (first | exact DLe.refl _ | exact DLe.nil _ | (refine DLe.tup ?_) | (refine DLe.agg ?_ rfl) | exact trivial | (refine And.intro ?_ ?_)))); (solve | exact .inl rfl | exact .inr rfl))) | fail | omega | exact decide_eq_true (by omega) | exact DLe.refl _)
                    exact hC3 _ _ hQ2.out (weak_forget _ (by simp) (by (try simp only [encN, encF]); rfl) (by (repeat' (first | exact trivial | (refine ⟨rfl, ?_⟩)))) (by first | rfl | simp only [belowH, belowE, belowC, belowL, belowR, belowP, belowL_d, belowR_d, List.length_cons, List.length_nil, Nat.reduceAdd, Nat.reduceLT, decide_true, Bool.and_self, Bool.and_true]) (by first | rfl | simp only [belowH, belowE, belowC, belowL, belowR, belowP, belowL_d, belowR_d, List.length_cons, List.length_nil, Nat.reduceAdd, Nat.reduceLT, decide_true, Bool.and_self, Bool.and_true]))
                · intro hQ C3
                  rw [List.take_length] at hQ
                  have hna : A.contains a = false := by
                    rw [Bool.eq_false_iff, ne_eq, List.contains_iff_mem]
                    intro hm
                    have := List.all_eq_true.1 hQ a hm
                    simp at this
                  replace hQ := Lib.hid hQ
                  replace hna := Lib.hid hna
                  repeat' (first | (with_reducible refine And.intro ?_ ?_) | (with_reducible refine gK_i (fun _ => ?_) (fun _ => ?_)) | (with_reducible refine condS_i (fun _ => ?_) (fun _ => ?_)) | (with_reducible refine drw_i (by kernel_rfl)) | simp -dsimp only [go_sem, seval, *, encN, encF, hwj, Int.lt_irrefl, undef] | ((with_reducible refine opK_c ?_); simp -dsimp only [go_sem, seval, encN, encF, hwj, Int.lt_irrefl, undef]; first | refine callK_r (by first | assumption | fail) (by first | exact .inl rfl | exact .inr rfl) ?_ | (refine callK_i (by assumption) ?_ ?_ ?_; (solve | (repeat (first | exact DLe.refl _ | exact DLe.nil _ | (refine DLe.tup ?_) | (refine DLe.agg ?_ rfl) | exact trivial | (refine And.intro ?_ ?_)))); (solve | exact .inl rfl | exact .inr rfl))) | fail | omega | exact decide_eq_true (by omega) | exact DLe.refl _)
                  refine hC2 _ _ _ _ _ ?_ ⟨j + 1, hlj, no_snoc ha hin.out b3, ris_step (key := fun x : Int => x) ha hri2.out (fun x h0 hx => by rw [hb] at hx; rw [← Option.some.inj hx]; exact hsa.out h0), no_snoc ha hno.out (by rw [hna.out]; rfl), rfl, rfl, rfl⟩ (weak_forget _ (by simp) (by (try simp only [encN, encF]); rfl) (by (repeat' (first | exact trivial | (refine ⟨rfl, ?_⟩)))) (by first | rfl | simp only [belowH, belowE, belowC, belowL, belowR, belowP, belowL_d, belowR_d, List.length_cons, List.length_nil, Nat.reduceAdd, Nat.reduceLT, decide_true, Bool.and_self, Bool.and_true]) (by first | rfl | simp only [belowH, belowE, belowC, belowL, belowR, belowP, belowL_d, belowR_d, List.length_cons, List.length_nil, Nat.reduceAdd, Nat.reduceLT, decide_true, Bool.and_self, Bool.and_true]))
                  have := hm2.out; omega
          · obtain rfl : j = f.addrs.length := by omega
            have hin := hin.out
            have hno := hno.out
            rw [List.take_length] at hin hno
            have hfb : faceB s.at_ f = true := by
              rw [hfd.out, b1, b2, hin, (risB_at f.addrs).2 (fun i hi => hri2.out i hi (by omega))]; rfl
            have hA2 : A ++ f.addrs = (s.faces.take (k + 1)).flatMap (·.addrs) := by rw [take_snoc hf, List.flatMap_append, ← hA.out]; simp
            have hnf : f.addrs.Nodup := by
              have h1 := (risB_pair (key := fun x : Int => x) f.addrs).1 ((risB_at f.addrs).2 (fun i hi => hri2.out i hi (by omega)))
              exact h1.imp (fun h => by omega)
            have hnd2 : (A ++ f.addrs).Nodup := by
              rw [List.nodup_append]
              refine ⟨hnd.out, hnf, fun x hx y hy e => ?_⟩
              subst e
              have := List.all_eq_true.1 hno x hy
              rw [List.contains_iff_mem.2 hx] at this
              simp at this
            have hbnd : (A.length + f.addrs.length) * 8 ≤ 140737488355328 := by omega
            replace hno := Lib.hid hno
            replace hin := Lib.hid hin
            replace hfb := Lib.hid hfb
            replace hA2 := Lib.hid hA2
            replace hnf := Lib.hid hnf
            replace hnd2 := Lib.hid hnd2
            repeat' (first | (with_reducible refine And.intro ?_ ?_) | (with_reducible refine gK_i (fun _ => ?_) (fun _ => ?_)) | (with_reducible refine condS_i (fun _ => ?_) (fun _ => ?_)) | (with_reducible refine drw_i (by kernel_rfl)) | simp -dsimp only [go_sem, seval, *, encN, encF, hwr, hbnd, Int.lt_irrefl, undef] | ((with_reducible refine opK_c ?_); simp -dsimp only [go_sem, seval, encN, encF, hwr, hbnd, Int.lt_irrefl, undef]; first | refine callK_r (by first | assumption | fail) (by first | exact .inl rfl | exact .inr rfl) ?_ | (refine callK_i (by assumption) ?_ ?_ ?_; (solve | (repeat (first | exact DLe.refl _ | exact DLe.nil _ | (refine DLe.tup ?_) | (refine DLe.agg ?_ rfl) | exact trivial | (refine And.intro ?_ ?_)))); (solve | exact .inl rfl | exact .inr rfl))) | fail | omega | exact decide_eq_true (by omega) | exact DLe.refl _)
            refine hC _ _ _ _ _ ?_ ⟨k + 1, g + 1, A ++ f.addrs, hlt, hA2.out, by rw [List.length_append]; omega, hnd2.out, no_snoc hf hall.out hfb.out, ris_step (key := fun f : Fce => f.id) hf hris.out (fun x h0 hx => by rw [hy] at hx; rw [← Option.some.inj hx]; exact hst.out h0), rfl, rfl, rfl⟩ (weak_forget _ (by simp) (by simp only [encN, encF, List.map_append, List.map_cons, List.map_nil, ← dRows_app]; rfl) (by (repeat' (first | exact trivial | (refine ⟨rfl, ?_⟩)))) (by first | rfl | simp only [belowH, belowE, belowC, belowL, belowR, belowP, belowL_d, belowR_d, List.length_cons, List.length_nil, Nat.reduceAdd, Nat.reduceLT, decide_true, Bool.and_self, Bool.and_true]) (by first | rfl | simp only [belowH, belowE, belowC, belowL, belowR, belowP, belowL_d, belowR_d, List.length_cons, List.length_nil, Nat.reduceAdd, Nat.reduceLT, decide_true, Bool.and_self, Bool.and_true]))
            have := hm.out; omega
  · obtain rfl : k = s.faces.length := by omega
    have hr : R = true := by
      have hall := hall.out
      have hA := hA.out
      rw [List.take_length] at hall hA
      rw [hR.out]
      unfold facesB
      rw [hall, ← hA, (risB_at s.faces).2 (fun i hi => hris.out i hi (by omega))]
      simp [hnd.out]
    rw [hr]
    replace hr := Lib.hid hr
    repeat' (first | (with_reducible refine And.intro ?_ ?_) | (with_reducible refine gK_i (fun _ => ?_) (fun _ => ?_)) | (with_reducible refine condS_i (fun _ => ?_) (fun _ => ?_)) | (with_reducible refine drw_i (by kernel_rfl)) | simp -dsimp only [go_sem, seval, *, encN, Int.lt_irrefl, undef] | ((with_reducible refine opK_c ?_); simp -dsimp only [go_sem, seval, encN, Int.lt_irrefl, undef]; first | refine callK_r (by first | assumption | fail) (by first | exact .inl rfl | exact .inr rfl) ?_ | (refine callK_i (by assumption) ?_ ?_ ?_; (solve | (repeat (first | exact DLe.refl _ | exact DLe.nil _ | (refine DLe.tup ?_) | (refine DLe.agg ?_ rfl) | exact trivial | (refine And.intro ?_ ?_)))); (solve | exact .inl rfl | exact .inr rfl))) | fail | omega | exact decide_eq_true (by omega) | exact DLe.refl _)
    all_goals exact DLe.refl _
end Go.Proofs.Ytinnohljknmolaa
namespace Go.Proofs.Ytinnohljknmolaa
open Go Go.RowKit
theorem apaF_iff : ∀ (pre l : List Pfx), apaF pre l = true ↔ l.Pairwise (fun a b => b.meets a = false) ∧ ∀ a ∈ pre, ∀ b ∈ l, b.meets a = false
  | pre, [] => by simp [apaF]
  | pre, p :: l => by
    simp only [apaF, Bool.and_eq_true, Bool.not_eq_true', List.any_eq_false, Bool.not_eq_true, apaF_iff (pre ++ [p]) l, List.pairwise_cons, List.mem_append, List.mem_cons, List.not_mem_nil, or_false]
    constructor
    · rintro ⟨h1, h2, h3⟩
      refine ⟨⟨fun b hb => h3 p (.inr rfl) b hb, h2⟩, fun a ha b hb => ?_⟩
      rcases hb with rfl | hb
      · exact h1 a ha
      · exact h3 a (.inl ha) b hb
    · rintro ⟨⟨h1, h2⟩, h3⟩
      refine ⟨fun x hx => h3 x hx p (.inl rfl), h2, fun a ha b hb => ?_⟩
      rcases ha with ha | rfl
      · exact h3 a ha b (.inr hb)
      · exact h1 b hb
theorem apaF_nil {l : List Pfx} : apaF [] l = true ↔ l.Pairwise (fun a b => b.meets a = false) := by
  rw [apaF_iff]; simp
/-- Right prefixes that rise, where none meets the one ahead of it: none meets another one. -/
theorem apaF_adj {l : List Pfx} (hr : ∀ p ∈ l, p.right = true) (hs : l.Pairwise fun a b => a.at_ < b.at_) (ha : ∀ j (h : j + 1 < l.length), l[j].meets l[j + 1] = false) : apaF [] l = true := by
  rw [apaF_nil, List.pairwise_iff_getElem]
  intro i j hi hj hij
  rw [Bool.eq_false_iff, ne_eq, meets_iff]
  rintro ⟨-, -, h1, h2⟩
  have h3 := ha i (by omega)
  have r1 := hr l[i] (List.getElem_mem hi)
  have r2 := hr l[i + 1] (List.getElem_mem (by omega))
  rw [Bool.eq_false_iff, ne_eq, meets_iff] at h3
  have s1 := List.pairwise_iff_getElem.1 hs i (i + 1) hi (by omega) (by omega)
  have s2 : l[i + 1].at_ ≤ l[j].at_ := by
    rcases Nat.lt_or_ge (i + 1) j with h | h
    · have := List.pairwise_iff_getElem.1 hs (i + 1) j (by omega) hj h; omega
    · obtain rfl : j = i + 1 := by omega
      exact Int.le_refl _
  have b2 := l[i + 1].hi_bd r2
  exact h3 ⟨r1, r2, by omega, by omega⟩
theorem chkV_one {v : Vpc} (hm : manyV v = false) (h : fineV v = false ∨ apaF [] (v.ranges.map (·.at_)) = false ∨ apaF [] (v.subs.map (·.at_)) = false) : chkV v = 1 := by
  unfold chkV
  rw [if_neg (by simp [hm]), if_neg]
  rintro h1
  simp only [Bool.and_eq_true] at h1
  rcases h with h | h | h <;> simp [h] at h1
theorem apaF_bad {l : List Pfx} {i j : Nat} {x y : Pfx} (hij : i < j) (hx : l[i]? = some x) (hy : l[j]? = some y) (h : x.meets y = true) : apaF [] l = false := by
  rw [Bool.eq_false_iff, ne_eq, apaF_nil]
  intro hp
  obtain ⟨h1, rfl⟩ := List.getElem?_eq_some_iff.1 hx
  obtain ⟨h2, rfl⟩ := List.getElem?_eq_some_iff.1 hy
  have := List.pairwise_iff_getElem.1 hp i j h1 h2 hij
  rw [← meetB_eq] at this h
  unfold meetB at this h
  grind
theorem risB_bad {α : Type} {key : α → Int} {l : List α} {k : Nat} {x y : α} (h0 : 0 < k) (hx : l[k - 1]? = some x) (hy : l[k]? = some y) (h : key x ≥ key y) : risB key l = false := by
  rw [Bool.eq_false_iff, ne_eq, risB_at]
  intro hr
  obtain ⟨hl, he⟩ := List.getElem?_eq_some_iff.1 hy
  obtain ⟨hl1, he1⟩ := List.getElem?_eq_some_iff.1 hx
  have h1 := hr (k - 1) (by omega)
  simp only [show k - 1 + 1 = k by omega, he, he1] at h1
  omega
theorem all_bad {α : Type} {p : α → Bool} {l : List α} {x : α} (hx : x ∈ l) (h : p x = false) : l.all p = false := by
  rw [List.all_eq_false]; exact ⟨x, hx, by rw [h]; simp⟩
theorem fineV_bad {v : Vpc} (h : idOK v.id = false ∨ risB (fun r : Rng => r.at_.at_) v.ranges = false ∨ risB (fun s : Sbn => s.id) v.subs = false ∨ v.ranges.all rangeB = false ∨ v.subs.all (subB v) = false) : fineV v = false := by
  unfold fineV
  rcases h with h | h | h | h | h <;> simp [h]
end Go.Proofs.Ytinnohljknmolaa
namespace Go.Proofs.Ytinnohljknmolaa
open Go Go.RowKit
theorem adj_step {l : List Rng} {k : Nat} {y : Rng} (hy : l[k]? = some y) (h : ∀ j (h : j + 1 < l.length), j + 1 < k → l[j].at_.at_ < l[j + 1].at_.at_ ∧ l[j].at_.meets l[j + 1].at_ = false) (hs : ∀ x, 0 < k → l[k - 1]? = some x → x.at_.at_ < y.at_.at_ ∧ x.at_.meets y.at_ = false) : ∀ j (h : j + 1 < l.length), j + 1 < k + 1 → l[j].at_.at_ < l[j + 1].at_.at_ ∧ l[j].at_.meets l[j + 1].at_ = false := by
  intro j hj hjk
  rcases Nat.lt_or_ge (j + 1) k with h1 | h1
  · exact h j hj h1
  · obtain rfl : k = j + 1 := by omega
    obtain ⟨hl, he⟩ := List.getElem?_eq_some_iff.1 hy
    rw [he]
    exact hs _ (by omega) (List.getElem?_eq_getElem (by omega))
theorem chkV_zero {v : Vpc} (hm : manyV v = false) (h1 : idOK v.id = true) (h2 : v.ranges.all rangeB = true) (h3 : ∀ j (h : j + 1 < v.ranges.length), v.ranges[j].at_.at_ < v.ranges[j + 1].at_.at_ ∧ v.ranges[j].at_.meets v.ranges[j + 1].at_ = false) (h4 : v.subs.all (subB v) = true) (h5 : ∀ j (h : j + 1 < v.subs.length), v.subs[j].id < v.subs[j + 1].id) (h6 : ∀ (i j : Nat) (x y : Sbn), i < j → v.subs[i]? = some x → v.subs[j]? = some y → x.at_.meets y.at_ = false) : chkV v = 0 := by
  have r1 : risB (fun r : Rng => r.at_.at_) v.ranges = true := (risB_at v.ranges).2 fun j hj => (h3 j hj).1
  have r2 : risB (fun s : Sbn => s.id) v.subs = true := (risB_at v.subs).2 h5
  rw [vpcOK]
  refine ⟨hm, by unfold fineV; rw [h1, r1, r2, h2, h4]; rfl, ?_, ?_⟩
  · refine apaF_adj (fun p hp => ?_) ?_ fun j hj => ?_
    · obtain ⟨r, hr, rfl⟩ := List.mem_map.1 hp
      exact rangeB_right (List.all_eq_true.1 h2 r hr)
    · rw [List.pairwise_map]
      exact (risB_pair v.ranges).1 r1
    · simp only [List.length_map] at hj
      simp only [List.getElem_map]
      exact (h3 j hj).2
  · rw [apaF_nil, List.pairwise_map, List.pairwise_iff_getElem]
    intro i j hi hj hij
    have := h6 i j _ _ hij (List.getElem?_eq_getElem hi) (List.getElem?_eq_getElem hj)
    rw [← meetB_eq] at this ⊢
    unfold meetB at this ⊢
    grind
set_option maxRecDepth 100000 in
set_option maxHeartbeats 4000000 in
theorem checkVpc_p (v : Vpc) (hl : v.subs.length ≤ 9223372036854775807) (hf : ∀ s ∈ v.subs, s.faces.length ≤ 9223372036854775807) : PSpec Try.prog 19 [.agg (encV v)] (.v (.int .i64 (chkV v))) := by
  have hmy := vpcMany_p v hl hf
  clear hl hf
  cases hm : manyV v with
  | true =>
    rw [hm] at hmy
    have hr : chkV v = 2 := by unfold chkV; rw [if_pos hm]
    rw [hr]
    refine ps_i tab_ok mixed Try.func19 rfl Try.ntmps19 Try.results19 (by kernel_rfl) ?_
    repeat' (first | (with_reducible refine And.intro ?_ ?_) | (with_reducible refine gK_i (fun _ => ?_) (fun _ => ?_)) | (with_reducible refine condS_i (fun _ => ?_) (fun _ => ?_)) | (with_reducible refine drw_i (by kernel_rfl)) | simp -dsimp only [go_sem, seval, *, encV] | ((with_reducible refine opK_c ?_); simp -dsimp only [go_sem, seval, encV]; first | refine callK_r (by first | assumption | exact hmy) (by first | exact .inl rfl | exact .inr rfl) ?_ | (refine callK_i (by assumption) ?_ ?_ ?_; (solve | (repeat (first | exact DLe.refl _ | exact DLe.nil _ | (refine DLe.tup ?_) | (refine DLe.agg ?_ rfl) | exact trivial | (refine And.intro ?_ ?_)))); (solve | exact .inl rfl | exact .inr rfl))) | fail | omega | exact decide_eq_true (by omega) | exact DLe.refl _)
  | false =>
  obtain ⟨h4, h6, h8⟩ := manyV_ok hm
  rw [hm] at hmy
  have hid : PSpec Try.prog 27 [.v (.int .i64 v.id), .v (.int .i64 1), .v (.int .i64 65536)] (.v (.bool (idOK v.id))) := withinR_p _ _ _
  have hone := Lib.hid (fun h => chkV_one hm h)
  have hzero := Lib.hid (fun a b c d e f => chkV_zero hm a b c d e f)
  replace h8 := Lib.hid h8
  replace hm := Lib.hid hm
  obtain ⟨R, hR⟩ : ∃ R, R = chkV v := ⟨_, rfl⟩
  rw [← hR]
  replace hR := Lib.hid hR
  cases b1 : idOK v.id with
  | false =>
    have hr : R = 1 := by rw [hR.out]; exact hone.out (.inl (fineV_bad (.inl b1)))
    rw [b1] at hid
    rw [hr]
    replace hr := Lib.hid hr
    refine ps_i tab_ok mixed Try.func19 rfl Try.ntmps19 Try.results19 (by kernel_rfl) ?_
    repeat' (first | (with_reducible refine And.intro ?_ ?_) | (with_reducible refine gK_i (fun _ => ?_) (fun _ => ?_)) | (with_reducible refine condS_i (fun _ => ?_) (fun _ => ?_)) | (with_reducible refine drw_i (by kernel_rfl)) | simp -dsimp only [go_sem, seval, *, encV] | ((with_reducible refine opK_c ?_); simp -dsimp only [go_sem, seval, encV]; first | refine callK_r (by first | assumption | exact hmy | exact hid) (by first | exact .inl rfl | exact .inr rfl) ?_ | (refine callK_i (by assumption) ?_ ?_ ?_; (solve | (repeat (first | exact DLe.refl _ | exact DLe.nil _ | (refine DLe.tup ?_) | (refine DLe.agg ?_ rfl) | exact trivial | (refine And.intro ?_ ?_)))); (solve | exact .inl rfl | exact .inr rfl))) | fail | omega | exact decide_eq_true (by omega) | exact DLe.refl _)
  | true =>
  rw [b1] at hid
  refine ps_i tab_ok mixed Try.func19 rfl Try.ntmps19 Try.results19 (by kernel_rfl) ?_
  repeat' (first | (with_reducible refine And.intro ?_ ?_) | (with_reducible refine gK_i (fun _ => ?_) (fun _ => ?_)) | (with_reducible refine condS_i (fun _ => ?_) (fun _ => ?_)) | (with_reducible refine drw_i (by kernel_rfl)) | simp -dsimp only [go_sem, seval, *, encV] | ((with_reducible refine opK_c ?_); simp -dsimp only [go_sem, seval, encV]; first | refine callK_r (by first | assumption | exact hmy | exact hid) (by first | exact .inl rfl | exact .inr rfl) ?_ | (refine callK_i (by assumption) ?_ ?_ ?_; (solve | (repeat (first | exact DLe.refl _ | exact DLe.nil _ | (refine DLe.tup ?_) | (refine DLe.agg ?_ rfl) | exact trivial | (refine And.intro ?_ ?_)))); (solve | exact .inl rfl | exact .inr rfl))) | fail | omega | exact decide_eq_true (by omega) | exact DLe.refl _)
  clear hmy hid
  refine loopG tab_ok mixed (fun m e h => ∃ (k : Nat), k ≤ v.ranges.length ∧ (v.ranges.take k).all rangeB = true ∧ (∀ j (h : j + 1 < v.ranges.length), j + 1 < k → v.ranges[j].at_.at_ < v.ranges[j + 1].at_.at_ ∧ v.ranges[j].at_.meets v.ranges[j + 1].at_ = false) ∧ m = v.ranges.length - k ∧ e = [(3, .d (.v (.int .i64 k))), (2, .d (.v (.int .i64 0))), (1, .ptr 0 0)] ∧
    h = [.box 47 ((encV v).map .d)]) _ _ _ ⟨0, Nat.zero_le _, rfl, fun j h h1 => by omega, rfl, rfl, rfl⟩ (weak_forget _ (by simp) (by (try simp only [encV]); rfl) (by (repeat' (first | exact trivial | (refine ⟨rfl, ?_⟩)))) (by first | rfl | simp only [belowH, belowE, belowC, belowL, belowR, belowP, belowL_d, belowR_d, List.length_cons, List.length_nil, Nat.reduceAdd, Nat.reduceLT, decide_true, Bool.and_self, Bool.and_true]) (by first | rfl | simp only [belowH, belowE, belowC, belowL, belowR, belowP, belowL_d, belowR_d, List.length_cons, List.length_nil, Nat.reduceAdd, Nat.reduceLT, decide_true, Bool.and_self, Bool.and_true])) ?_
  rintro m e h ⟨k, hk, hall, hadj, hm0, rfl, rfl⟩ C hC
  replace hm0 := Lib.hid hm0
  replace hall := Lib.hid hall
  replace hadj := Lib.hid hadj
  by_cases hlt : k < v.ranges.length
  · have hkI : (k : Int) < (v.ranges.length : Int) := by omega
    have hwr : IntKind.i64.wrap ((k : Int) + 1) = ((k + 1 : Nat) : Int) := by rw [IntKind.wrap_i64]; omega
    have hwm : decide ((k : Int) > 0) = true → IntKind.i64.wrap ((k : Int) - 1) = ((k - 1 : Nat) : Int) := fun h => by have := of_decide_eq_true h; rw [IntKind.wrap_i64]; omega
    obtain ⟨r, hr⟩ : ∃ r, v.ranges[k]? = some r := ⟨_, List.getElem?_eq_getElem hlt⟩
    obtain ⟨y, hy⟩ : ∃ y, v.ranges[k - 1]? = some y := ⟨_, List.getElem?_eq_getElem (by omega)⟩
    have hrm := List.mem_of_getElem? hr
    have hw : PSpec Try.prog 27 [.v (.int .i64 r.pool), .v (.int .i64 1), .v (.int .i64 65536)] (.v (.bool (idOK r.pool))) := withinR_p _ _ _
    have hrt : PSpec Try.prog 26 [.agg (encP r.at_)] (.v (.bool (chk r.at_.at_ r.at_.len == 0))) := rightR_p r.at_
    have hme := meet_p y.at_ r.at_
    rw [meetB_eq] at hme
    have hrb : rangeB r = (idOK r.pool && (chk r.at_.at_ r.at_.len == 0)) := rfl
    have hbad : rangeB r = false → R = 1 := fun h => by rw [hR.out]; exact hone.out (.inl (fineV_bad (.inr (.inr (.inr (.inl (all_bad hrm h)))))))
    have hbr : 0 < k ∧ y.at_.at_ ≥ r.at_.at_ → R = 1 := fun h => by rw [hR.out]; exact hone.out (.inl (fineV_bad (.inr (.inl (risB_bad (key := fun r : Rng => r.at_.at_) h.1 hy hr h.2)))))
    have hbm : 0 < k ∧ y.at_.meets r.at_ = true → R = 1 := fun h => by
      rw [hR.out]
      exact hone.out (.inr (.inl (apaF_bad (i := k - 1) (j := k) (by omega) (by rw [List.getElem?_map, hy]; rfl) (by rw [List.getElem?_map, hr]; rfl) h.2)))
    replace hbad := Lib.hid hbad
    replace hbr := Lib.hid hbr
    replace hbm := Lib.hid hbm
    cases b2 : rangeB r with
    | false =>
      have h1 : R = 1 := hbad.out b2
      rw [b2] at hrb
      rw [h1]
      replace h1 := Lib.hid h1
      cases b3 : idOK r.pool with
      | false =>
        rw [b3] at hw
        clear hrb
        repeat' (first | (with_reducible refine And.intro ?_ ?_) | (with_reducible refine gK_i (fun _ => ?_) (fun _ => ?_)) | (with_reducible refine condS_i (fun _ => ?_) (fun _ => ?_)) | (with_reducible refine drw_i (by kernel_rfl)) | simp -dsimp only [go_sem, seval, *, encV, encG, encP, hkI, hr, hy, undef] | ((with_reducible refine opK_c ?_); simp -dsimp only [go_sem, seval, encV, encG, encP, hkI, hr, hy, undef]; first | refine callK_r (by first | assumption | exact hw) (by first | exact .inl rfl | exact .inr rfl) ?_ | (refine callK_i (by assumption) ?_ ?_ ?_; (solve | (repeat (first | exact DLe.refl _ | exact DLe.nil _ | (refine DLe.tup ?_) | (refine DLe.agg ?_ rfl) | exact trivial | (refine And.intro ?_ ?_)))); (solve | exact .inl rfl | exact .inr rfl))) | fail | omega | exact decide_eq_true (by omega) | exact DLe.refl _)
        all_goals exact DLe.refl _
      | true =>
        rw [b3, Bool.true_and] at hrb
        rw [b3] at hw
        have b4 := hrb.symm
        rw [b4] at hrt
        clear hrb
        replace b4 := Lib.hid b4
        repeat' (first | (with_reducible refine And.intro ?_ ?_) | (with_reducible refine gK_i (fun _ => ?_) (fun _ => ?_)) | (with_reducible refine condS_i (fun _ => ?_) (fun _ => ?_)) | (with_reducible refine drw_i (by kernel_rfl)) | simp -dsimp only [go_sem, seval, *, encV, encG, encP, hkI, hr, hy, undef] | ((with_reducible refine opK_c ?_); simp -dsimp only [go_sem, seval, encV, encG, encP, hkI, hr, hy, undef]; first | refine callK_r (by first | assumption | exact hw | exact hrt) (by first | exact .inl rfl | exact .inr rfl) ?_ | (refine callK_i (by assumption) ?_ ?_ ?_; (solve | (repeat (first | exact DLe.refl _ | exact DLe.nil _ | (refine DLe.tup ?_) | (refine DLe.agg ?_ rfl) | exact trivial | (refine And.intro ?_ ?_)))); (solve | exact .inl rfl | exact .inr rfl))) | fail | omega | exact decide_eq_true (by omega) | exact DLe.refl _)
        all_goals exact DLe.refl _
    | true =>
      rw [b2] at hrb
      obtain ⟨b3, b4⟩ := Bool.and_eq_true_iff.1 hrb.symm
      rw [b3] at hw
      rw [b4] at hrt
      clear hrb
      replace b3 := Lib.hid b3
      replace b4 := Lib.hid b4
      cases b5 : y.at_.meets r.at_ with
      | true =>
        rw [b5] at hme
        repeat' (first | (with_reducible refine And.intro ?_ ?_) | (with_reducible refine gK_i (fun _ => ?_) (fun _ => ?_)) | (with_reducible refine condS_i (fun _ => ?_) (fun _ => ?_)) | (with_reducible refine drw_i (by kernel_rfl)) | simp -dsimp only [go_sem, seval, *, encV, encG, encP, hkI, hwm, hr, hy, undef] | ((with_reducible refine opK_c ?_); simp -dsimp only [go_sem, seval, encV, encG, encP, hkI, hwm, hr, hy, undef]; first | refine callK_r (by first | assumption | exact hw | exact hrt | exact hme) (by first | exact .inl rfl | exact .inr rfl) ?_ | (refine callK_i (by assumption) ?_ ?_ ?_; (solve | (repeat (first | exact DLe.refl _ | exact DLe.nil _ | (refine DLe.tup ?_) | (refine DLe.agg ?_ rfl) | exact trivial | (refine And.intro ?_ ?_)))); (solve | exact .inl rfl | exact .inr rfl))) | fail | omega | exact decide_eq_true (by omega) | exact DLe.refl _)
        all_goals first
          | (exact dle_n (hbm.out (by clear hw hC hrt hme; grind)).symm)
          | (refine hC _ _ _ _ _ ?_ ⟨k + 1, hlt, no_snoc hr hall.out b2, adj_step hr hadj.out (fun x h0 hx => ?_), rfl, rfl, rfl⟩ (weak_forget _ (by simp) (by (try simp only [encV]); rfl) (by (repeat' (first | exact trivial | (refine ⟨rfl, ?_⟩)))) (by first | rfl | simp only [belowH, belowE, belowC, belowL, belowR, belowP, belowL_d, belowR_d, List.length_cons, List.length_nil, Nat.reduceAdd, Nat.reduceLT, decide_true, Bool.and_self, Bool.and_true]) (by first | rfl | simp only [belowH, belowE, belowC, belowL, belowR, belowP, belowL_d, belowR_d, List.length_cons, List.length_nil, Nat.reduceAdd, Nat.reduceLT, decide_true, Bool.and_self, Bool.and_true]))
             · have := hm0.out; omega
             · exfalso; clear hw hC hrt hme; grind)
      | false =>
        rw [b5] at hme
        repeat' (first | (with_reducible refine And.intro ?_ ?_) | (with_reducible refine gK_i (fun _ => ?_) (fun _ => ?_)) | (with_reducible refine condS_i (fun _ => ?_) (fun _ => ?_)) | (with_reducible refine drw_i (by kernel_rfl)) | simp -dsimp only [go_sem, seval, *, encV, encG, encP, hkI, hwr, hwm, hr, hy, undef] | ((with_reducible refine opK_c ?_); simp -dsimp only [go_sem, seval, encV, encG, encP, hkI, hwr, hwm, hr, hy, undef]; first | refine callK_r (by first | assumption | exact hw | exact hrt | exact hme) (by first | exact .inl rfl | exact .inr rfl) ?_ | (refine callK_i (by assumption) ?_ ?_ ?_; (solve | (repeat (first | exact DLe.refl _ | exact DLe.nil _ | (refine DLe.tup ?_) | (refine DLe.agg ?_ rfl) | exact trivial | (refine And.intro ?_ ?_)))); (solve | exact .inl rfl | exact .inr rfl))) | fail | omega | exact decide_eq_true (by omega) | exact DLe.refl _)
        all_goals first
          | (exact dle_n (hbr.out (by clear hw hC hrt hme; grind)).symm)
          | (refine hC _ _ _ _ _ ?_ ⟨k + 1, hlt, no_snoc hr hall.out b2, adj_step hr hadj.out (fun x h0 hx => ?_), rfl, rfl, rfl⟩ (weak_forget _ (by simp) (by (try simp only [encV]); rfl) (by (repeat' (first | exact trivial | (refine ⟨rfl, ?_⟩)))) (by first | rfl | simp only [belowH, belowE, belowC, belowL, belowR, belowP, belowL_d, belowR_d, List.length_cons, List.length_nil, Nat.reduceAdd, Nat.reduceLT, decide_true, Bool.and_self, Bool.and_true]) (by first | rfl | simp only [belowH, belowE, belowC, belowL, belowR, belowP, belowL_d, belowR_d, List.length_cons, List.length_nil, Nat.reduceAdd, Nat.reduceLT, decide_true, Bool.and_self, Bool.and_true]))
             · have := hm0.out; omega
             · rw [hy] at hx
               rw [← Option.some.inj hx]
               exact ⟨by clear hw hC hrt hme; grind, b5⟩)
  · obtain rfl : k = v.ranges.length := by omega
    have hall := hall.out
    rw [List.take_length] at hall
    have hadj2 := Lib.hid (fun j hj => hadj.out j hj (by omega))
    replace hall := Lib.hid hall
    clear hadj
    repeat' (first | (with_reducible refine And.intro ?_ ?_) | (with_reducible refine gK_i (fun _ => ?_) (fun _ => ?_)) | (with_reducible refine condS_i (fun _ => ?_) (fun _ => ?_)) | (with_reducible refine drw_i (by kernel_rfl)) | simp -dsimp only [go_sem, seval, *, encV, Int.lt_irrefl, undef] | ((with_reducible refine opK_c ?_); simp -dsimp only [go_sem, seval, encV, Int.lt_irrefl, undef]; first | refine callK_r (by first | assumption | fail) (by first | exact .inl rfl | exact .inr rfl) ?_ | (refine callK_i (by assumption) ?_ ?_ ?_; (solve | (repeat (first | exact DLe.refl _ | exact DLe.nil _ | (refine DLe.tup ?_) | (refine DLe.agg ?_ rfl) | exact trivial | (refine And.intro ?_ ?_)))); (solve | exact .inl rfl | exact .inr rfl))) | fail | omega | exact decide_eq_true (by omega) | exact DLe.refl _)
    refine loopG tab_ok mixed (fun m e h => ∃ (k : Nat), k ≤ v.subs.length ∧ (v.subs.take k).all (subB v) = true ∧ (∀ j (h : j + 1 < v.subs.length), j + 1 < k → v.subs[j].id < v.subs[j + 1].id) ∧ (∀ (i j : Nat) (x y : Sbn), i < j → j < k → v.subs[i]? = some x → v.subs[j]? = some y → x.at_.meets y.at_ = false) ∧ m = v.subs.length - k ∧ e = [(5, .d (.v (.int .i64 k))), (2, .d (.v (.int .i64 0))), (1, .ptr 0 0)] ∧
      h = [.box 47 ((encV v).map .d)]) _ _ _ ⟨0, Nat.zero_le _, rfl, fun j h h1 => by omega, fun i j x y h1 h2 => by omega, rfl, rfl, rfl⟩ (weak_forget _ (by simp) (by (try simp only [encV]); rfl) (by (repeat' (first | exact trivial | (refine ⟨rfl, ?_⟩)))) (by first | rfl | simp only [belowH, belowE, belowC, belowL, belowR, belowP, belowL_d, belowR_d, List.length_cons, List.length_nil, Nat.reduceAdd, Nat.reduceLT, decide_true, Bool.and_self, Bool.and_true]) (by first | rfl | simp only [belowH, belowE, belowC, belowL, belowR, belowP, belowL_d, belowR_d, List.length_cons, List.length_nil, Nat.reduceAdd, Nat.reduceLT, decide_true, Bool.and_self, Bool.and_true])) ?_
    rintro m2 e h ⟨k, hk2, hal2, hris, hmt, hm2, rfl, rfl⟩ C2 hC2
    replace hm2 := Lib.hid hm2
    replace hal2 := Lib.hid hal2
    replace hris := Lib.hid hris
    replace hmt := Lib.hid hmt
    by_cases hls : k < v.subs.length
    · have hkI : (k : Int) < (v.subs.length : Int) := by omega
      have hwr : IntKind.i64.wrap ((k : Int) + 1) = ((k + 1 : Nat) : Int) := by rw [IntKind.wrap_i64]; omega
      have hwm : decide ((k : Int) > 0) = true → IntKind.i64.wrap ((k : Int) - 1) = ((k - 1 : Nat) : Int) := fun h => by have := of_decide_eq_true h; rw [IntKind.wrap_i64]; omega
      obtain ⟨s, hs⟩ : ∃ s, v.subs[k]? = some s := ⟨_, List.getElem?_eq_getElem hls⟩
      obtain ⟨y, hy⟩ : ∃ y, v.subs[k - 1]? = some y := ⟨_, List.getElem?_eq_getElem (by omega)⟩
      have hsm := List.mem_of_getElem? hs
      have hw : PSpec Try.prog 27 [.v (.int .i64 s.id), .v (.int .i64 1), .v (.int .i64 65536)] (.v (.bool (idOK s.id))) := withinR_p _ _ _
      have hir := inRange_p v s.at_ (by omega)
      have hff := facesFine_p s (h8.out s hsm).1 (h8.out s hsm).2
      have hsb : subB v s = (idOK s.id && (holdsV v s.at_ && facesB s)) := rfl
      have hbad : subB v s = false → R = 1 := fun h => by rw [hR.out]; exact hone.out (.inl (fineV_bad (.inr (.inr (.inr (.inr (all_bad hsm h)))))))
      have hbr : 0 < k ∧ y.id ≥ s.id → R = 1 := fun h => by rw [hR.out]; exact hone.out (.inl (fineV_bad (.inr (.inr (.inl (risB_bad (key := fun s : Sbn => s.id) h.1 hy hs h.2))))))
      have hbm : ∀ (j : Nat) (x : Sbn), j < k → v.subs[j]? = some x → x.at_.meets s.at_ = true → R = 1 := fun j x hj hx h => by
        rw [hR.out]
        exact hone.out (.inr (.inr (apaF_bad (i := j) (j := k) hj (by rw [List.getElem?_map, hx]; rfl) (by rw [List.getElem?_map, hs]; rfl) h)))
      replace hbad := Lib.hid hbad
      replace hbr := Lib.hid hbr
      replace hbm := Lib.hid hbm
      replace hsb := Lib.hid hsb
      cases b3 : idOK s.id with
      | false =>
        have h1 : R = 1 := hbad.out (by rw [hsb.out, b3]; rfl)
        rw [h1]
        replace h1 := Lib.hid h1
        rw [b3] at hw
        repeat' (first | (with_reducible refine And.intro ?_ ?_) | (with_reducible refine gK_i (fun _ => ?_) (fun _ => ?_)) | (with_reducible refine condS_i (fun _ => ?_) (fun _ => ?_)) | (with_reducible refine drw_i (by kernel_rfl)) | simp -dsimp only [go_sem, seval, *, encV, encN, encP, hkI, hs, hy, undef] | ((with_reducible refine opK_c ?_); simp -dsimp only [go_sem, seval, encV, encN, encP, hkI, hs, hy, undef]; first | refine callK_r (by first | assumption | exact hw) (by first | exact .inl rfl | exact .inr rfl) ?_ | (refine callK_i (by assumption) ?_ ?_ ?_; (solve | (repeat (first | exact DLe.refl _ | exact DLe.nil _ | (refine DLe.tup ?_) | (refine DLe.agg ?_ rfl) | exact trivial | (refine And.intro ?_ ?_)))); (solve | exact .inl rfl | exact .inr rfl))) | fail | omega | exact decide_eq_true (by omega) | exact DLe.refl _)
        all_goals exact DLe.refl _
      | true =>
        rw [b3] at hw
        cases b4 : holdsV v s.at_ with
        | false =>
          have h1 : R = 1 := hbad.out (by rw [hsb.out, b3, b4]; rfl)
          rw [h1]
          replace h1 := Lib.hid h1
          rw [b4] at hir
          repeat' (first | (with_reducible refine And.intro ?_ ?_) | (with_reducible refine gK_i (fun _ => ?_) (fun _ => ?_)) | (with_reducible refine condS_i (fun _ => ?_) (fun _ => ?_)) | (with_reducible refine drw_i (by kernel_rfl)) | simp -dsimp only [go_sem, seval, *, encV, encN, encP, hkI, hs, hy, undef] | ((with_reducible refine opK_c ?_); simp -dsimp only [go_sem, seval, encV, encN, encP, hkI, hs, hy, undef]; first | refine callK_r (by first | assumption | exact hw | exact hir) (by first | exact .inl rfl | exact .inr rfl) ?_ | (refine callK_i (by assumption) ?_ ?_ ?_; (solve | (repeat (first | exact DLe.refl _ | exact DLe.nil _ | (refine DLe.tup ?_) | (refine DLe.agg ?_ rfl) | exact trivial | (refine And.intro ?_ ?_)))); (solve | exact .inl rfl | exact .inr rfl))) | fail | omega | exact decide_eq_true (by omega) | exact DLe.refl _)
          all_goals exact DLe.refl _
        | true =>
          rw [b4] at hir
          cases b5 : facesB s with
          | false =>
            have h1 : R = 1 := hbad.out (by rw [hsb.out, b3, b4, b5]; rfl)
            rw [h1]
            replace h1 := Lib.hid h1
            rw [b5] at hff
            repeat' (first | (with_reducible refine And.intro ?_ ?_) | (with_reducible refine gK_i (fun _ => ?_) (fun _ => ?_)) | (with_reducible refine condS_i (fun _ => ?_) (fun _ => ?_)) | (with_reducible refine drw_i (by kernel_rfl)) | simp -dsimp only [go_sem, seval, *, encV, encN, encP, hkI, hwm, hs, hy, undef] | ((with_reducible refine opK_c ?_); simp -dsimp only [go_sem, seval, encV, encN, encP, hkI, hwm, hs, hy, undef]; first | refine callK_r (by first | assumption | exact hw | exact hir | exact hff) (by first | exact .inl rfl | exact .inr rfl) ?_ | (refine callK_i (by assumption) ?_ ?_ ?_; (solve | (repeat (first | exact DLe.refl _ | exact DLe.nil _ | (refine DLe.tup ?_) | (refine DLe.agg ?_ rfl) | exact trivial | (refine And.intro ?_ ?_)))); (solve | exact .inl rfl | exact .inr rfl))) | fail | omega | exact decide_eq_true (by omega) | exact DLe.refl _)
            all_goals exact DLe.refl _
          | true =>
            rw [b5] at hff
            have b6 : subB v s = true := by rw [hsb.out, b3, b4, b5]; rfl
            replace b6 := Lib.hid b6
            repeat' (first | (with_reducible refine And.intro ?_ ?_) | (with_reducible refine gK_i (fun _ => ?_) (fun _ => ?_)) | (with_reducible refine condS_i (fun _ => ?_) (fun _ => ?_)) | (with_reducible refine drw_i (by kernel_rfl)) | simp -dsimp only [go_sem, seval, *, encV, encN, encP, hkI, hwm, hs, hy, undef] | ((with_reducible refine opK_c ?_); simp -dsimp only [go_sem, seval, encV, encN, encP, hkI, hwm, hs, hy, undef]; first | refine callK_r (by first | assumption | exact hw | exact hir | exact hff) (by first | exact .inl rfl | exact .inr rfl) ?_ | (refine callK_i (by assumption) ?_ ?_ ?_; (solve | (repeat (first | exact DLe.refl _ | exact DLe.nil _ | (refine DLe.tup ?_) | (refine DLe.agg ?_ rfl) | exact trivial | (refine And.intro ?_ ?_)))); (solve | exact .inl rfl | exact .inr rfl))) | fail | omega | exact decide_eq_true (by omega) | exact DLe.refl _)
            all_goals first
              | (exact dle_n (hbr.out (by clear hw hC hC2 hir hff; grind)).symm)
              | skip
            all_goals
              have hst : 0 < k → y.id < s.id := by clear hw hC hC2 hir hff; grind
              replace hst := Lib.hid hst
              refine loopN tab_ok mixed k (fun j => ∀ (i : Nat) (x : Sbn), i < j → v.subs[i]? = some x → x.at_.meets s.at_ = false) (fun j => [(7, .d (.v (.int .i64 j))), (6, .ptr 1 0), (5, .d (.v (.int .i64 k))), (2, .d (.v (.int .i64 0))), (1, .ptr 0 0)]) (fun _ => [.box 47 ((encV v).map .d), .box 86 ((encN s).map .d)]) (fun i x h => absurd h (Nat.not_lt_zero _)) (weak_forget _ (by simp) (by (try simp only [encV, encN]); rfl) (by (repeat' (first | exact trivial | (refine ⟨rfl, ?_⟩)))) (by first | rfl | simp only [belowH, belowE, belowC, belowL, belowR, belowP, belowL_d, belowR_d, List.length_cons, List.length_nil, Nat.reduceAdd, Nat.reduceLT, decide_true, Bool.and_self, Bool.and_true]) (by first | rfl | simp only [belowH, belowE, belowC, belowL, belowR, belowP, belowL_d, belowR_d, List.length_cons, List.length_nil, Nat.reduceAdd, Nat.reduceLT, decide_true, Bool.and_self, Bool.and_true])) ?_ ?_
              · intro j hjk hJ C3 hC3
                have hjI : (j : Int) < (k : Int) := by omega
                have hwj : IntKind.i64.wrap ((j : Int) + 1) = ((j + 1 : Nat) : Int) := by rw [IntKind.wrap_i64]; omega
                obtain ⟨x, hx⟩ : ∃ x, v.subs[j]? = some x := ⟨_, List.getElem?_eq_getElem (by omega)⟩
                have hme := meet_p x.at_ s.at_
                rw [meetB_eq] at hme
                cases b7 : x.at_.meets s.at_ with
                | true =>
                  have h1 : R = 1 := hbm.out j x hjk hx b7
                  rw [h1]
                  replace h1 := Lib.hid h1
                  replace hJ := Lib.hid hJ
                  rw [b7] at hme
                  repeat' (first | (with_reducible refine And.intro ?_ ?_) | (with_reducible refine gK_i (fun _ => ?_) (fun _ => ?_)) | (with_reducible refine condS_i (fun _ => ?_) (fun _ => ?_)) | (with_reducible refine drw_i (by kernel_rfl)) | simp -dsimp only [go_sem, seval, *, encV, encN, encP, hjI, hx, undef] | ((with_reducible refine opK_c ?_); simp -dsimp only [go_sem, seval, encV, encN, encP, hjI, hx, undef]; first | refine callK_r (by first | assumption | exact hme) (by first | exact .inl rfl | exact .inr rfl) ?_ | (refine callK_i (by assumption) ?_ ?_ ?_; (solve | (repeat (first | exact DLe.refl _ | exact DLe.nil _ | (refine DLe.tup ?_) | (refine DLe.agg ?_ rfl) | exact trivial | (refine And.intro ?_ ?_)))); (solve | exact .inl rfl | exact .inr rfl))) | fail | omega | exact decide_eq_true (by omega) | exact DLe.refl _)
                  all_goals exact DLe.refl _
                | false =>
                  have hJ2 : ∀ (i : Nat) (x : Sbn), i < j + 1 → v.subs[i]? = some x → x.at_.meets s.at_ = false := by
                    intro i x' hi hx'
                    rcases Nat.lt_or_ge i j with h | h
                    · exact hJ i x' h hx'
                    · obtain rfl : i = j := by omega
                      rw [hx] at hx'
                      rw [← Option.some.inj hx']; exact b7
                  replace hJ2 := Lib.hid hJ2
                  replace hJ := Lib.hid hJ
                  rw [b7] at hme
                  repeat' (first | (with_reducible refine And.intro ?_ ?_) | (with_reducible refine gK_i (fun _ => ?_) (fun _ => ?_)) | (with_reducible refine condS_i (fun _ => ?_) (fun _ => ?_)) | (with_reducible refine drw_i (by kernel_rfl)) | simp -dsimp only [go_sem, seval, *, encV, encN, encP, hjI, hwj, hx, undef] | ((with_reducible refine opK_c ?_); simp -dsimp only [go_sem, seval, encV, encN, encP, hjI, hwj, hx, undef]; first | refine callK_r (by first | assumption | exact hme) (by first | exact .inl rfl | exact .inr rfl) ?_ | (refine callK_i (by assumption) ?_ ?_ ?_; (solve | (repeat (first | exact DLe.refl _ | exact DLe.nil _ | (refine DLe.tup ?_) | (refine DLe.agg ?_ rfl) | exact trivial | (refine And.intro ?_ ?_)))); (solve | exact .inl rfl | exact .inr rfl))) | fail | omega | exact decide_eq_true (by omega) | exact DLe.refl _)
                  exact hC3 _ _ hJ2.out (weak_forget _ (by simp) (by (try simp only [encV, encN]); rfl) (by (repeat' (first | exact trivial | (refine ⟨rfl, ?_⟩)))) (by first | rfl | simp only [belowH, belowE, belowC, belowL, belowR, belowP, belowL_d, belowR_d, List.length_cons, List.length_nil, Nat.reduceAdd, Nat.reduceLT, decide_true, Bool.and_self, Bool.and_true]) (by first | rfl | simp only [belowH, belowE, belowC, belowL, belowR, belowP, belowL_d, belowR_d, List.length_cons, List.length_nil, Nat.reduceAdd, Nat.reduceLT, decide_true, Bool.and_self, Bool.and_true]))
              · intro hJ C3
                replace hJ := Lib.hid hJ
                repeat' (first | (with_reducible refine And.intro ?_ ?_) | (with_reducible refine gK_i (fun _ => ?_) (fun _ => ?_)) | (with_reducible refine condS_i (fun _ => ?_) (fun _ => ?_)) | (with_reducible refine drw_i (by kernel_rfl)) | simp -dsimp only [go_sem, seval, *, encV, encN, hwr, Int.lt_irrefl, undef] | ((with_reducible refine opK_c ?_); simp -dsimp only [go_sem, seval, encV, encN, hwr, Int.lt_irrefl, undef]; first | refine callK_r (by first | assumption | fail) (by first | exact .inl rfl | exact .inr rfl) ?_ | (refine callK_i (by assumption) ?_ ?_ ?_; (solve | (repeat (first | exact DLe.refl _ | exact DLe.nil _ | (refine DLe.tup ?_) | (refine DLe.agg ?_ rfl) | exact trivial | (refine And.intro ?_ ?_)))); (solve | exact .inl rfl | exact .inr rfl))) | fail | omega | exact decide_eq_true (by omega) | exact DLe.refl _)
                refine hC2 _ _ _ _ _ ?_ ⟨k + 1, hls, no_snoc hs hal2.out b6.out, ris_step (key := fun s : Sbn => s.id) hs hris.out (fun x h0 hx => by rw [hy] at hx; rw [← Option.some.inj hx]; exact hst.out h0), fun i j x z h1 h2 hx hz => ?_, rfl, rfl, rfl⟩ (weak_forget _ (by simp) (by (try simp only [encV]); rfl) (by (repeat' (first | exact trivial | (refine ⟨rfl, ?_⟩)))) (by first | rfl | simp only [belowH, belowE, belowC, belowL, belowR, belowP, belowL_d, belowR_d, List.length_cons, List.length_nil, Nat.reduceAdd, Nat.reduceLT, decide_true, Bool.and_self, Bool.and_true]) (by first | rfl | simp only [belowH, belowE, belowC, belowL, belowR, belowP, belowL_d, belowR_d, List.length_cons, List.length_nil, Nat.reduceAdd, Nat.reduceLT, decide_true, Bool.and_self, Bool.and_true]))
                · have := hm2.out; omega
                · rcases Nat.lt_or_ge j k with h | h
                  · exact hmt.out i j x z h1 h hx hz
                  · obtain rfl : j = k := by omega
                    rw [hs] at hz
                    rw [← Option.some.inj hz]
                    exact hJ.out i x h1 hx
    · obtain rfl : k = v.subs.length := by omega
      have h1 : R = 0 := by
        have hal2 := hal2.out
        rw [List.take_length] at hal2
        rw [hR.out]
        refine hzero.out b1 hall.out hadj2.out hal2 (fun j hj => hris.out j hj (by omega)) (fun i j x y hij hx hy => hmt.out i j x y hij ?_ hx hy)
        exact (List.getElem?_eq_some_iff.1 hy).1
      rw [h1]
      replace h1 := Lib.hid h1
      repeat' (first | (with_reducible refine And.intro ?_ ?_) | (with_reducible refine gK_i (fun _ => ?_) (fun _ => ?_)) | (with_reducible refine condS_i (fun _ => ?_) (fun _ => ?_)) | (with_reducible refine drw_i (by kernel_rfl)) | simp -dsimp only [go_sem, seval, *, encV, Int.lt_irrefl, undef] | ((with_reducible refine opK_c ?_); simp -dsimp only [go_sem, seval, encV, Int.lt_irrefl, undef]; first | refine callK_r (by first | assumption | fail) (by first | exact .inl rfl | exact .inr rfl) ?_ | (refine callK_i (by assumption) ?_ ?_ ?_; (solve | (repeat (first | exact DLe.refl _ | exact DLe.nil _ | (refine DLe.tup ?_) | (refine DLe.agg ?_ rfl) | exact trivial | (refine And.intro ?_ ?_)))); (solve | exact .inl rfl | exact .inr rfl))) | fail | omega | exact decide_eq_true (by omega) | exact DLe.refl _)
      all_goals exact DLe.refl _
end Go.Proofs.Ytinnohljknmolaa
namespace Go.Proofs.Ytinnohljknmolaa
open Go Go.RowKit
structure Lnk where
  a : Int
  b : Int
  deriving DecidableEq
structure Net where
  vpcs : List Vpc
  links : List Lnk
  deriving DecidableEq
def encK (l : Lnk) : List D := [.v (.int .i64 l.a), .v (.int .i64 l.b)]
def encT (n : Net) : List D := [.sl 3 (n.vpcs.map encV), .sl 2 (n.links.map encK)]
end Go.Proofs.Ytinnohljknmolaa
namespace Go.Proofs.Ytinnohljknmolaa
open Go Go.RowKit
/-- By n steps up from x one comes to r, which is above itself. -/
def HeadIs (ents : List (List Int × Int)) : Nat → Int → Int → Prop
  | 0, x, r => lkE ents [x] = some x ∧ r = x
  | n + 1, x, r => ∃ y, lkE ents [x] = some y ∧ y ≠ x ∧ HeadIs ents n y r
set_option maxRecDepth 100000 in
theorem head_m (ents : List (List Int × Int)) (n : Nat) (x r : Int) (h : HeadIs ents n x r) :
    MSpec Try.prog 34 [.mref 0, .d (.v (.int .i64 x))] [.mp 1 false ents] (.d (.v (.int .i64 r))) [.mp 1 false ents] := by
  refine ms_i tab_ok mixed Try.func34 rfl Try.ntmps34 Try.results34 (by kernel_rfl) (by simp) (by simp [belowL, belowP]) (by simp [belowH, belowC, belowL, belowP, belowL_d, belowR_d]) ?_
  repeat' (first | (with_reducible refine And.intro ?_ ?_) | (with_reducible refine gK_i (fun _ => ?_) (fun _ => ?_)) | (with_reducible refine condS_i (fun _ => ?_) (fun _ => ?_)) | (with_reducible refine drw_i (by kernel_rfl)) | simp -dsimp only [go_sem, seval, *, bne_self_eq_false] | ((with_reducible refine opK_c ?_); simp -dsimp only [go_sem, seval, bne_self_eq_false]; first | refine callK_r (by first | assumption | fail) (by first | exact .inl rfl | exact .inr rfl) ?_ | (refine callK_i (by assumption) ?_ ?_ ?_; (solve | (repeat (first | exact DLe.refl _ | exact DLe.nil _ | (refine DLe.tup ?_) | (refine DLe.agg ?_ rfl) | exact trivial | (refine And.intro ?_ ?_)))); (solve | exact .inl rfl | exact .inr rfl))) | fail | omega | exact decide_eq_true (by omega) | exact DLe.refl _)
  refine loopG tab_ok mixed (fun m e h => ∃ (y : Int), HeadIs ents m y r ∧ e = [(4, .d (.v (.int .i64 0))), (1, .d (.v (.int .i64 y))), (0, .mref 0)] ∧ h = [.mp 1 false ents]) _ _ _ ⟨x, h, rfl, rfl⟩ (weak_forget _ (by simp) (by (try simp only [encK]); rfl) (by (repeat' (first | exact trivial | (refine ⟨rfl, ?_⟩)))) (by first | rfl | simp only [belowH, belowE, belowC, belowL, belowR, belowP, belowL_d, belowR_d, List.length_cons, List.length_nil, Nat.reduceAdd, Nat.reduceLT, decide_true, Bool.and_self, Bool.and_true]) (by first | rfl | simp only [belowH, belowE, belowC, belowL, belowR, belowP, belowL_d, belowR_d, List.length_cons, List.length_nil, Nat.reduceAdd, Nat.reduceLT, decide_true, Bool.and_self, Bool.and_true])) ?_
  rintro m e h ⟨y, hy, rfl, rfl⟩ C hC
  cases m with
  | zero =>
    obtain ⟨h1, rfl⟩ := hy
    repeat' (first | (with_reducible refine And.intro ?_ ?_) | (with_reducible refine gK_i (fun _ => ?_) (fun _ => ?_)) | (with_reducible refine condS_i (fun _ => ?_) (fun _ => ?_)) | (with_reducible refine drw_i (by kernel_rfl)) | simp -dsimp only [go_sem, seval, *, h1, bne_self_eq_false, undef] | ((with_reducible refine opK_c ?_); simp -dsimp only [go_sem, seval, h1, bne_self_eq_false, undef]; first | refine callK_r (by first | assumption | fail) (by first | exact .inl rfl | exact .inr rfl) ?_ | (refine callK_i (by assumption) ?_ ?_ ?_; (solve | (repeat (first | exact DLe.refl _ | exact DLe.nil _ | (refine DLe.tup ?_) | (refine DLe.agg ?_ rfl) | exact trivial | (refine And.intro ?_ ?_)))); (solve | exact .inl rfl | exact .inr rfl))) | fail | omega | exact decide_eq_true (by omega) | exact DLe.refl _)
    all_goals exact weak_eq rfl rfl
  | succ m =>
    obtain ⟨z, h1, h2, h3⟩ := hy
    have hne : (z != y) = true := by simpa using h2
    replace h3 := Lib.hid h3
    replace h2 := Lib.hid h2
    repeat' (first | (with_reducible refine And.intro ?_ ?_) | (with_reducible refine gK_i (fun _ => ?_) (fun _ => ?_)) | (with_reducible refine condS_i (fun _ => ?_) (fun _ => ?_)) | (with_reducible refine drw_i (by kernel_rfl)) | simp -dsimp only [go_sem, seval, *, h1, hne, undef] | ((with_reducible refine opK_c ?_); simp -dsimp only [go_sem, seval, h1, hne, undef]; first | refine callK_r (by first | assumption | fail) (by first | exact .inl rfl | exact .inr rfl) ?_ | (refine callK_i (by assumption) ?_ ?_ ?_; (solve | (repeat (first | exact DLe.refl _ | exact DLe.nil _ | (refine DLe.tup ?_) | (refine DLe.agg ?_ rfl) | exact trivial | (refine And.intro ?_ ?_)))); (solve | exact .inl rfl | exact .inr rfl))) | fail | omega | exact decide_eq_true (by omega) | exact DLe.refl _)
    exact hC _ _ _ _ _ (Nat.lt_succ_self _) ⟨z, h3.out, rfl, rfl⟩ (weak_forget _ (by simp) (by (try simp only [encK]); rfl) (by (repeat' (first | exact trivial | (refine ⟨rfl, ?_⟩)))) (by first | rfl | simp only [belowH, belowE, belowC, belowL, belowR, belowP, belowL_d, belowR_d, List.length_cons, List.length_nil, Nat.reduceAdd, Nat.reduceLT, decide_true, Bool.and_self, Bool.and_true]) (by first | rfl | simp only [belowH, belowE, belowC, belowL, belowR, belowP, belowL_d, belowR_d, List.length_cons, List.length_nil, Nat.reduceAdd, Nat.reduceLT, decide_true, Bool.and_self, Bool.and_true]))
end Go.Proofs.Ytinnohljknmolaa
namespace Go.Proofs.Ytinnohljknmolaa
open Go Go.RowKit
/-- Does a range of the one meet one of the other? -/
def clashV (v w : Vpc) : Bool := v.ranges.any fun r => w.ranges.any fun q => r.at_.meets q.at_
theorem clash11_p (q r : Rng) : PSpec Try.prog 94 [.agg (encG q), .ept (encG r)] (.v (.bool (r.at_.meets q.at_))) := by
  have hm : PSpec Try.prog 92 [.agg (encP r.at_), .agg (encP q.at_)] (.v (.bool (r.at_.meets q.at_))) := meets_p _ _
  refine ps_i tab_ok mixed Try.func94 rfl Try.ntmps94 Try.results94 (by kernel_rfl) ?_
  repeat' (first | (with_reducible refine And.intro ?_ ?_) | (with_reducible refine gK_i (fun _ => ?_) (fun _ => ?_)) | (with_reducible refine condS_i (fun _ => ?_) (fun _ => ?_)) | (with_reducible refine drw_i (by kernel_rfl)) | simp -dsimp only [go_sem, seval, *, encG, encP] | ((with_reducible refine opK_c ?_); simp -dsimp only [go_sem, seval, encG, encP]; first | refine callK_r (by first | assumption | exact hm) (by first | exact .inl rfl | exact .inr rfl) ?_ | (refine callK_i (by assumption) ?_ ?_ ?_; (solve | (repeat (first | exact DLe.refl _ | exact DLe.nil _ | (refine DLe.tup ?_) | (refine DLe.agg ?_ rfl) | exact trivial | (refine And.intro ?_ ?_)))); (solve | exact .inl rfl | exact .inr rfl))) | fail | omega | exact decide_eq_true (by omega) | exact DLe.refl _)
theorem clash1_p (r : Rng) (w : Vpc) (hw : w.ranges.length ≤ 1000000000) : PSpec Try.prog 93 [.agg (encG r), .ept (encV w)] (.v (.bool (w.ranges.any fun q => r.at_.meets q.at_))) := by
  have hc := cntf_Range encG_len (fun q => r.at_.meets q.at_) w.ranges 94 [.ept (encG r)] hw (fun q _ => clash11_p q r)
  refine ps_i tab_ok mixed Try.func93 rfl Try.ntmps93 Try.results93 (by kernel_rfl) ?_
  repeat' (first | (with_reducible refine And.intro ?_ ?_) | (with_reducible refine gK_i (fun _ => ?_) (fun _ => ?_)) | (with_reducible refine condS_i (fun _ => ?_) (fun _ => ?_)) | (with_reducible refine drw_i (by kernel_rfl)) | simp -dsimp only [go_sem, seval, *, encV, encG] | ((with_reducible refine opK_c ?_); simp -dsimp only [go_sem, seval, encV, encG]; first | refine callK_r (by first | assumption | exact hc) (by first | exact .inl rfl | exact .inr rfl) ?_ | (refine callK_i (by assumption) ?_ ?_ ?_; (solve | (repeat (first | exact DLe.refl _ | exact DLe.nil _ | (refine DLe.tup ?_) | (refine DLe.agg ?_ rfl) | exact trivial | (refine And.intro ?_ ?_)))); (solve | exact .inl rfl | exact .inr rfl))) | fail | omega | exact decide_eq_true (by omega) | exact DLe.refl _)
theorem clash_p (v w : Vpc) (hv : v.ranges.length ≤ 1000000000) (hw : w.ranges.length ≤ 1000000000) : PSpec Try.prog 72 [.agg (encV v), .agg (encV w)] (.v (.bool (clashV v w))) := by
  have hc := cntf_Range encG_len (fun r => w.ranges.any fun q => r.at_.meets q.at_) v.ranges 93 [.ept (encV w)] hv (fun r _ => clash1_p r w hw)
  refine ps_i tab_ok mixed Try.func72 rfl Try.ntmps72 Try.results72 (by kernel_rfl) ?_
  repeat' (first | (with_reducible refine And.intro ?_ ?_) | (with_reducible refine gK_i (fun _ => ?_) (fun _ => ?_)) | (with_reducible refine condS_i (fun _ => ?_) (fun _ => ?_)) | (with_reducible refine drw_i (by kernel_rfl)) | simp -dsimp only [go_sem, seval, *, encV] | ((with_reducible refine opK_c ?_); simp -dsimp only [go_sem, seval, encV]; first | refine callK_r (by first | assumption | exact hc) (by first | exact .inl rfl | exact .inr rfl) ?_ | (refine callK_i (by assumption) ?_ ?_ ?_; (solve | (repeat (first | exact DLe.refl _ | exact DLe.nil _ | (refine DLe.tup ?_) | (refine DLe.agg ?_ rfl) | exact trivial | (refine And.intro ?_ ?_)))); (solve | exact .inl rfl | exact .inr rfl))) | fail | omega | exact decide_eq_true (by omega) | exact DLe.refl _)
end Go.Proofs.Ytinnohljknmolaa
namespace Go.Proofs.Ytinnohljknmolaa
open Go Go.RowKit
/-- The first that is not 0. -/
def orI : List Int → Int
  | [] => 0
  | x :: l => if x = 0 then orI l else x
theorem orI_drop {l : List Int} {k : Nat} {x : Int} (h : l[k]? = some x) : orI (l.drop k) = if x = 0 then orI (l.drop (k + 1)) else x := by rw [drop_get h, orI]
theorem or_p (l : List Int) (hl : l.length ≤ 1000000000) : PSpec Try.prog 71 [.sl 1 (l.map encA)] (.v (.int .i64 (orI l))) := by
  obtain ⟨R, hR⟩ : ∃ R, R = orI l := ⟨_, rfl⟩
  rw [← hR]
  replace hR := Lib.hid hR
  refine ps_i tab_ok mixed Try.func71 rfl Try.ntmps71 Try.results71 (by kernel_rfl) ?_
  repeat' (first | (with_reducible refine And.intro ?_ ?_) | (with_reducible refine gK_i (fun _ => ?_) (fun _ => ?_)) | (with_reducible refine condS_i (fun _ => ?_) (fun _ => ?_)) | (with_reducible refine drw_i (by kernel_rfl)) | simp -dsimp only [go_sem, seval, *, bne_self_eq_false] | ((with_reducible refine opK_c ?_); simp -dsimp only [go_sem, seval, bne_self_eq_false]; first | refine callK_r (by first | assumption | fail) (by first | exact .inl rfl | exact .inr rfl) ?_ | (refine callK_i (by assumption) ?_ ?_ ?_; (solve | (repeat (first | exact DLe.refl _ | exact DLe.nil _ | (refine DLe.tup ?_) | (refine DLe.agg ?_ rfl) | exact trivial | (refine And.intro ?_ ?_)))); (solve | exact .inl rfl | exact .inr rfl))) | fail | omega | exact decide_eq_true (by omega) | exact DLe.refl _)
  refine loopL tab_ok mixed l (fun k => orI l = orI (l.drop k)) (fun k => [(8, .d (.v (.int .i64 k))), (7, .d (.v (.int .i64 l.length))), (6, .d (.sl 1 (l.map encA))), (3, .d (.v (.int .i64 0))), (2, .d (.v (.int .i64 0)))]) (fun _ => []) rfl (weak_forget _ (by simp) (by (try simp only [encA]); rfl) (by (repeat' (first | exact trivial | (refine ⟨rfl, ?_⟩)))) (by first | rfl | simp only [belowH, belowE, belowC, belowL, belowR, belowP, belowL_d, belowR_d, List.length_cons, List.length_nil, Nat.reduceAdd, Nat.reduceLT, decide_true, Bool.and_self, Bool.and_true]) (by first | rfl | simp only [belowH, belowE, belowC, belowL, belowR, belowP, belowL_d, belowR_d, List.length_cons, List.length_nil, Nat.reduceAdd, Nat.reduceLT, decide_true, Bool.and_self, Bool.and_true])) ?_ ?_
  · intro k x hx hk hI C hC
    have hkI : (k : Int) < (l.length : Int) := by omega
    have hwr : IntKind.i64.wrap ((k : Int) + 1) = ((k + 1 : Nat) : Int) := by rw [IntKind.wrap_i64]; omega
    rw [orI_drop hx] at hI
    by_cases h0 : x = 0
    · rw [if_pos h0] at hI
      have hne : (x != 0) = false := by simp [h0]
      replace hI := Lib.hid hI
      replace h0 := Lib.hid h0
      repeat' (first | (with_reducible refine And.intro ?_ ?_) | (with_reducible refine gK_i (fun _ => ?_) (fun _ => ?_)) | (with_reducible refine condS_i (fun _ => ?_) (fun _ => ?_)) | (with_reducible refine drw_i (by kernel_rfl)) | simp -dsimp only [go_sem, seval, *, encA, hkI, hwr, hx, hne] | ((with_reducible refine opK_c ?_); simp -dsimp only [go_sem, seval, encA, hkI, hwr, hx, hne]; first | refine callK_r (by first | assumption | fail) (by first | exact .inl rfl | exact .inr rfl) ?_ | (refine callK_i (by assumption) ?_ ?_ ?_; (solve | (repeat (first | exact DLe.refl _ | exact DLe.nil _ | (refine DLe.tup ?_) | (refine DLe.agg ?_ rfl) | exact trivial | (refine And.intro ?_ ?_)))); (solve | exact .inl rfl | exact .inr rfl))) | fail | omega | exact decide_eq_true (by omega) | exact DLe.refl _)
      exact hC _ _ hI.out (weak_forget _ (by simp) (by (try simp only [encA]); rfl) (by (repeat' (first | exact trivial | (refine ⟨rfl, ?_⟩)))) (by first | rfl | simp only [belowH, belowE, belowC, belowL, belowR, belowP, belowL_d, belowR_d, List.length_cons, List.length_nil, Nat.reduceAdd, Nat.reduceLT, decide_true, Bool.and_self, Bool.and_true]) (by first | rfl | simp only [belowH, belowE, belowC, belowL, belowR, belowP, belowL_d, belowR_d, List.length_cons, List.length_nil, Nat.reduceAdd, Nat.reduceLT, decide_true, Bool.and_self, Bool.and_true]))
    · rw [if_neg h0] at hI
      have hne : (x != 0) = true := by simpa using h0
      have hr : R = x := by rw [hR.out, hI]
      rw [hr]
      replace hr := Lib.hid hr
      replace hI := Lib.hid hI
      replace h0 := Lib.hid h0
      repeat' (first | (with_reducible refine And.intro ?_ ?_) | (with_reducible refine gK_i (fun _ => ?_) (fun _ => ?_)) | (with_reducible refine condS_i (fun _ => ?_) (fun _ => ?_)) | (with_reducible refine drw_i (by kernel_rfl)) | simp -dsimp only [go_sem, seval, *, encA, hkI, hwr, hx, hne] | ((with_reducible refine opK_c ?_); simp -dsimp only [go_sem, seval, encA, hkI, hwr, hx, hne]; first | refine callK_r (by first | assumption | fail) (by first | exact .inl rfl | exact .inr rfl) ?_ | (refine callK_i (by assumption) ?_ ?_ ?_; (solve | (repeat (first | exact DLe.refl _ | exact DLe.nil _ | (refine DLe.tup ?_) | (refine DLe.agg ?_ rfl) | exact trivial | (refine And.intro ?_ ?_)))); (solve | exact .inl rfl | exact .inr rfl))) | fail | omega | exact decide_eq_true (by omega) | exact DLe.refl _)
      all_goals exact DLe.refl _
  · intro hI C
    rw [List.drop_length] at hI
    have hr : R = 0 := by rw [hR.out, hI]; rfl
    rw [hr]
    replace hr := Lib.hid hr
    replace hI := Lib.hid hI
    repeat' (first | (with_reducible refine And.intro ?_ ?_) | (with_reducible refine gK_i (fun _ => ?_) (fun _ => ?_)) | (with_reducible refine condS_i (fun _ => ?_) (fun _ => ?_)) | (with_reducible refine drw_i (by kernel_rfl)) | simp -dsimp only [go_sem, seval, *, Int.lt_irrefl] | ((with_reducible refine opK_c ?_); simp -dsimp only [go_sem, seval, Int.lt_irrefl]; first | refine callK_r (by first | assumption | fail) (by first | exact .inl rfl | exact .inr rfl) ?_ | (refine callK_i (by assumption) ?_ ?_ ?_; (solve | (repeat (first | exact DLe.refl _ | exact DLe.nil _ | (refine DLe.tup ?_) | (refine DLe.agg ?_ rfl) | exact trivial | (refine And.intro ?_ ?_)))); (solve | exact .inl rfl | exact .inr rfl))) | fail | omega | exact decide_eq_true (by omega) | exact DLe.refl _)
    all_goals exact DLe.refl _
end Go.Proofs.Ytinnohljknmolaa
namespace Go.Proofs.Ytinnohljknmolaa
open Go Go.RowKit
def ordK (l m : Lnk) : Int := orI [cmpI l.a m.a, cmpI l.b m.b]
set_option maxRecDepth 100000 in
theorem order_p (l m : Lnk) : PSpec Try.prog 45 [.agg (encK l), .agg (encK m)] (.v (.int .i64 (ordK l m))) := by
  have h1 := compare_p l.a m.a
  have h2 := compare_p l.b m.b
  have h3 := or_p [cmpI l.a m.a, cmpI l.b m.b] (by simp)
  simp only [List.map_cons, List.map_nil, encA] at h3
  unfold ordK
  generalize cmpI l.a m.a = A at *
  generalize cmpI l.b m.b = B at *
  refine ps_i tab_ok mixed Try.func45 rfl Try.ntmps45 Try.results45 (by kernel_rfl) ?_
  repeat' (first | (with_reducible refine And.intro ?_ ?_) | (with_reducible refine gK_i (fun _ => ?_) (fun _ => ?_)) | (with_reducible refine condS_i (fun _ => ?_) (fun _ => ?_)) | (with_reducible refine drw_i (by kernel_rfl)) | simp -dsimp only [go_sem, seval, *, encK, encA, undef] | ((with_reducible refine opK_c ?_); simp -dsimp only [go_sem, seval, encK, encA, undef]; first | refine callK_r (by first | assumption | exact h1 | exact h2 | exact h3) (by first | exact .inl rfl | exact .inr rfl) ?_ | (refine callK_i (by assumption) ?_ ?_ ?_; (solve | (repeat (first | exact DLe.refl _ | exact DLe.nil _ | (refine DLe.tup ?_) | (refine DLe.agg ?_ rfl) | exact trivial | (refine And.intro ?_ ?_)))); (solve | exact .inl rfl | exact .inr rfl))) | fail | omega | exact decide_eq_true (by omega) | exact DLe.refl _)
def lnk (a b : Int) : Lnk := ⟨if b < a then b else a, if a < b then b else a⟩
theorem find1_p (v : Vpc) (id : Int) : PSpec Try.prog 48 [.agg (encV v), .v (.int .i64 id)] (.v (.int .i64 (cmpI v.id id))) := by
  have h1 := compare_p v.id id
  refine ps_i tab_ok mixed Try.func48 rfl Try.ntmps48 Try.results48 (by kernel_rfl) ?_
  repeat' (first | (with_reducible refine And.intro ?_ ?_) | (with_reducible refine gK_i (fun _ => ?_) (fun _ => ?_)) | (with_reducible refine condS_i (fun _ => ?_) (fun _ => ?_)) | (with_reducible refine drw_i (by kernel_rfl)) | simp -dsimp only [go_sem, seval, *, encV] | ((with_reducible refine opK_c ?_); simp -dsimp only [go_sem, seval, encV]; first | refine callK_r (by first | assumption | exact h1) (by first | exact .inl rfl | exact .inr rfl) ?_ | (refine callK_i (by assumption) ?_ ?_ ?_; (solve | (repeat (first | exact DLe.refl _ | exact DLe.nil _ | (refine DLe.tup ?_) | (refine DLe.agg ?_ rfl) | exact trivial | (refine And.intro ?_ ?_)))); (solve | exact .inl rfl | exact .inr rfl))) | fail | omega | exact decide_eq_true (by omega) | exact DLe.refl _)
set_option maxHeartbeats 1000000 in
theorem bsrf_Vpc {α : Type} {enc : α → List D} (henc : ∀ x, (enc x).length = 3) (key : α → Int) (l : List α) (t : Int) (g : Nat) (caps : List D) (hl : l.length ≤ 1000000000) (hs : l.Pairwise fun a b => key a < key b) (hc : ∀ x ∈ l, PSpec Try.prog g (.agg (enc x) :: .v (.int .i64 t) :: caps) (.v (.int .i64 (cmpI (key x) t)))) :
    PSpec Try.prog 47 [.sl 3 (l.map enc), .v (.int .i64 t), .clo g caps] (.tup [.v (.int .i64 (lbN key t l)), .v (.bool (lbB key t l))]) := by
  refine ps_i tab_ok mixed Try.func47 rfl Try.ntmps47 Try.results47 (by kernel_rfl) ?_
  repeat' (first | (with_reducible refine And.intro ?_ ?_) | (with_reducible refine gK_i (fun _ => ?_) (fun _ => ?_)) | (with_reducible refine condS_i (fun _ => ?_) (fun _ => ?_)) | (with_reducible refine drw_i (by kernel_rfl)) | simp -dsimp only [go_sem, seval, *, bne_self_eq_false] | ((with_reducible refine opK_c ?_); simp -dsimp only [go_sem, seval, bne_self_eq_false]; first | refine callK_r (by first | assumption | fail) (by first | exact .inl rfl | exact .inr rfl) ?_ | (refine callK_i (by assumption) ?_ ?_ ?_; (solve | (repeat (first | exact DLe.refl _ | exact DLe.nil _ | (refine DLe.tup ?_) | (refine DLe.agg ?_ rfl) | exact trivial | (refine And.intro ?_ ?_)))); (solve | exact .inl rfl | exact .inr rfl))) | fail | omega | exact decide_eq_true (by omega) | exact DLe.refl _)
  refine loopG tab_ok mixed (fun m e h => ∃ i j : Nat, i ≤ j ∧ j ≤ l.length ∧ (∀ q (hq : q < l.length), q < i → key l[q] < t) ∧ (∀ q (hq : q < l.length), j ≤ q → t ≤ key l[q]) ∧ m = j - i ∧
    e = [(10, .d (.v (.int .i64 j))), (9, .d (.v (.int .i64 i))), (8, .d (.v (.int .i64 l.length))), (7, .d (.v (.bool false))), (6, .d (.v (.int .i64 0))), (2, .d (.clo g caps)), (1, .d (.v (.int .i64 t))), (0, .d (.sl 3 (l.map enc)))] ∧ h = []) _ _ _ ⟨0, l.length, Nat.zero_le _, Nat.le_refl _, fun q hq h => absurd h (Nat.not_lt_zero _), fun q hq h => by omega, rfl, rfl, rfl⟩ ?_ ?_
  · exact weak_forget [] (by simp) rfl ⟨rfl, rfl, rfl, rfl, rfl, rfl, rfl, rfl, trivial⟩ (by first | rfl | simp only [belowH, belowE, belowC, belowL, belowR, belowP, belowL_d, belowR_d, List.length_cons, List.length_nil, Nat.reduceAdd, Nat.reduceLT, decide_true, Bool.and_self, Bool.and_true]) (by first | rfl | simp only [belowH, belowE, belowC, belowL, belowR, belowP, belowL_d, belowR_d, List.length_cons, List.length_nil, Nat.reduceAdd, Nat.reduceLT, decide_true, Bool.and_self, Bool.and_true])
  · rintro m e h ⟨i, j, hij, hj, hlo, hhi, rfl, rfl, rfl⟩ CL hCL
    by_cases hlt : i < j
    · obtain ⟨q, hq⟩ : ∃ q, q = (i + j) / 2 := ⟨_, rfl⟩
      have hql : q < l.length := by omega
      obtain ⟨x, hx⟩ : ∃ x, l[q]? = some x := ⟨_, List.getElem?_eq_getElem hql⟩
      have hxe : l[q] = x := by rw [List.getElem?_eq_getElem hql] at hx; exact Option.some.inj hx
      have hltI : (i : Int) < (j : Int) := by omega
      have hw1 : IntKind.i64.wrap ((i : Int) + (j : Int)) = ((i + j : Nat) : Int) := by rw [IntKind.wrap_i64]; omega
      have hw2 : IntKind.u64.wrap ((i + j : Nat) : Int) = ((i + j : Nat) : Int) := by rw [wrap_u64]; omega
      have hsh : (((i + j : Nat) : Int)).fdiv (2 ^ min 1 64) = (q : Int) := by
        rw [hq, show (min 1 64 : Nat) = 1 from rfl, Int.pow_succ, Int.pow_zero, Int.one_mul, Int.fdiv_eq_ediv_of_nonneg _ (by omega)]
        omega
      have hw3 : IntKind.i64.wrap (q : Int) = (q : Int) := by rw [IntKind.wrap_i64]; omega
      have hw4 : IntKind.i64.wrap ((q : Int) + 1) = ((q + 1 : Nat) : Int) := by rw [IntKind.wrap_i64]; omega
      have hlen := henc x
      have htk : (enc x).take 3 = enc x := List.take_of_length_le (by omega)
      have hcx := hc x (List.mem_of_getElem? hx)
      have hcm := cmpI_neg (key x) t
      have hqd : i ≤ q ∧ q < j := by omega
      replace hq := Lib.hid hq
      by_cases hk : key x < t
      · have hkI : decide (key x < t) = true := by simpa using hk
        repeat' (first | (with_reducible refine And.intro ?_ ?_) | (with_reducible refine gK_i (fun _ => ?_) (fun _ => ?_)) | (with_reducible refine condS_i (fun _ => ?_) (fun _ => ?_)) | (with_reducible refine drw_i (by kernel_rfl)) | simp -dsimp only [go_sem, seval, *, hx, hltI, hw1, hw2, hw3, hw4, hsh, htk, hlen, hcm, hkI, vwL_d, tcL_d] | ((with_reducible refine opK_c ?_); simp -dsimp only [go_sem, seval, hx, hltI, hw1, hw2, hw3, hw4, hsh, htk, hlen, hcm, hkI, vwL_d, tcL_d]; first | refine callK_r (by first | assumption | exact hcx) (by first | exact .inl rfl | exact .inr rfl) ?_ | (refine callK_i (by assumption) ?_ ?_ ?_; (solve | (repeat (first | exact DLe.refl _ | exact DLe.nil _ | (refine DLe.tup ?_) | (refine DLe.agg ?_ rfl) | exact trivial | (refine And.intro ?_ ?_)))); (solve | exact .inl rfl | exact .inr rfl))) | fail | omega | exact decide_eq_true (by omega) | exact DLe.refl _)
        refine hCL _ _ _ _ _ ?_ ⟨q + 1, j, by omega, hj, ?_, hhi, rfl, rfl, rfl⟩ (weak_forget [] (by simp) rfl ⟨rfl, rfl, rfl, rfl, rfl, rfl, rfl, rfl, trivial⟩ (by first | rfl | simp only [belowH, belowE, belowC, belowL, belowR, belowP, belowL_d, belowR_d, List.length_cons, List.length_nil, Nat.reduceAdd, Nat.reduceLT, decide_true, Bool.and_self, Bool.and_true]) (by first | rfl | simp only [belowH, belowE, belowC, belowL, belowR, belowP, belowL_d, belowR_d, List.length_cons, List.length_nil, Nat.reduceAdd, Nat.reduceLT, decide_true, Bool.and_self, Bool.and_true]))
        · omega
        · intro q' hq' hlt'
          rcases Nat.lt_or_ge q' q with h1 | h1
          · have := List.pairwise_iff_getElem.1 hs q' q hq' hql h1
            rw [hxe] at this; omega
          · obtain rfl : q' = q := by omega
            rw [hxe]; exact hk
      · have hkI : decide (key x < t) = false := by simpa using hk
        repeat' (first | (with_reducible refine And.intro ?_ ?_) | (with_reducible refine gK_i (fun _ => ?_) (fun _ => ?_)) | (with_reducible refine condS_i (fun _ => ?_) (fun _ => ?_)) | (with_reducible refine drw_i (by kernel_rfl)) | simp -dsimp only [go_sem, seval, *, hx, hltI, hw1, hw2, hw3, hw4, hsh, htk, hlen, hcm, hkI, vwL_d, tcL_d] | ((with_reducible refine opK_c ?_); simp -dsimp only [go_sem, seval, hx, hltI, hw1, hw2, hw3, hw4, hsh, htk, hlen, hcm, hkI, vwL_d, tcL_d]; first | refine callK_r (by first | assumption | exact hcx) (by first | exact .inl rfl | exact .inr rfl) ?_ | (refine callK_i (by assumption) ?_ ?_ ?_; (solve | (repeat (first | exact DLe.refl _ | exact DLe.nil _ | (refine DLe.tup ?_) | (refine DLe.agg ?_ rfl) | exact trivial | (refine And.intro ?_ ?_)))); (solve | exact .inl rfl | exact .inr rfl))) | fail | omega | exact decide_eq_true (by omega) | exact DLe.refl _)
        refine hCL _ _ _ _ _ ?_ ⟨i, q, by omega, by omega, hlo, ?_, rfl, rfl, rfl⟩ (weak_forget [] (by simp) rfl ⟨rfl, rfl, rfl, rfl, rfl, rfl, rfl, rfl, trivial⟩ (by first | rfl | simp only [belowH, belowE, belowC, belowL, belowR, belowP, belowL_d, belowR_d, List.length_cons, List.length_nil, Nat.reduceAdd, Nat.reduceLT, decide_true, Bool.and_self, Bool.and_true]) (by first | rfl | simp only [belowH, belowE, belowC, belowL, belowR, belowP, belowL_d, belowR_d, List.length_cons, List.length_nil, Nat.reduceAdd, Nat.reduceLT, decide_true, Bool.and_self, Bool.and_true]))
        · omega
        · intro q' hq' hlt'
          rcases Nat.lt_or_ge q q' with h1 | h1
          · have := List.pairwise_iff_getElem.1 hs q q' hql hq' h1
            rw [hxe] at this; omega
          · obtain rfl : q' = q := by omega
            rw [hxe]; omega
    · obtain rfl : i = j := by omega
      have hlb := lbN_eq hj hlo hhi
      have hlbB : lbB key t l = match l[i]? with | some x => key x == t | none => false := by unfold lbB; rw [hlb]; all_goals (cases l[i]? <;> rfl)
      replace hlb := Lib.hid hlb
      replace hlbB := Lib.hid hlbB
      by_cases hin : i < l.length
      · obtain ⟨x, hx⟩ : ∃ x, l[i]? = some x := ⟨_, List.getElem?_eq_getElem hin⟩
        have hinI : decide ((i : Int) < (l.length : Int)) = true := by simpa using hin
        have hlen := henc x
        have htk : (enc x).take 3 = enc x := List.take_of_length_le (by omega)
        have hcx := hc x (List.mem_of_getElem? hx)
        have hcz := cmpI_zero (key x) t
        repeat' (first | (with_reducible refine And.intro ?_ ?_) | (with_reducible refine gK_i (fun _ => ?_) (fun _ => ?_)) | (with_reducible refine condS_i (fun _ => ?_) (fun _ => ?_)) | (with_reducible refine drw_i (by kernel_rfl)) | simp -dsimp only [go_sem, seval, *, Int.lt_irrefl, hx, hinI, htk, hlen, hcz, vwL_d, tcL_d] | ((with_reducible refine opK_c ?_); simp -dsimp only [go_sem, seval, Int.lt_irrefl, hx, hinI, htk, hlen, hcz, vwL_d, tcL_d]; first | refine callK_r (by first | assumption | exact hcx) (by first | exact .inl rfl | exact .inr rfl) ?_ | (refine callK_i (by assumption) ?_ ?_ ?_; (solve | (repeat (first | exact DLe.refl _ | exact DLe.nil _ | (refine DLe.tup ?_) | (refine DLe.agg ?_ rfl) | exact trivial | (refine And.intro ?_ ?_)))); (solve | exact .inl rfl | exact .inr rfl))) | fail | omega | exact decide_eq_true (by omega) | exact DLe.refl _)
        all_goals rw [hlbB.out, hx, hlb.out]
        all_goals exact DLe.refl _
      · have hinI : decide ((i : Int) < (l.length : Int)) = false := by simpa using hin
        repeat' (first | (with_reducible refine And.intro ?_ ?_) | (with_reducible refine gK_i (fun _ => ?_) (fun _ => ?_)) | (with_reducible refine condS_i (fun _ => ?_) (fun _ => ?_)) | (with_reducible refine drw_i (by kernel_rfl)) | simp -dsimp only [go_sem, seval, *, Int.lt_irrefl, hinI] | ((with_reducible refine opK_c ?_); simp -dsimp only [go_sem, seval, Int.lt_irrefl, hinI]; first | refine callK_r (by first | assumption | fail) (by first | exact .inl rfl | exact .inr rfl) ?_ | (refine callK_i (by assumption) ?_ ?_ ?_; (solve | (repeat (first | exact DLe.refl _ | exact DLe.nil _ | (refine DLe.tup ?_) | (refine DLe.agg ?_ rfl) | exact trivial | (refine And.intro ?_ ?_)))); (solve | exact .inl rfl | exact .inr rfl))) | fail | omega | exact decide_eq_true (by omega) | exact DLe.refl _)
        all_goals rw [hlbB.out, hlb.out, List.getElem?_eq_none (by omega)]
        all_goals exact DLe.refl _
end Go.Proofs.Ytinnohljknmolaa
namespace Go.Proofs.Ytinnohljknmolaa
open Go Go.RowKit
def findN (n : Net) (id : Int) : Option Vpc := n.vpcs.find? fun v => v.id == id
def findND (o : Option Vpc) : D := match o with | some v => .tup [.ept (encV v), .v (.bool true)] | none => .tup [.v (.pointer none), .v (.bool false)]
theorem lb_hit {l : List Vpc} {id : Int} (hs : l.Pairwise fun a b => a.id < b.id) {v : Vpc} (hv : l[lbN (fun v : Vpc => v.id) id l]? = some v) (he : v.id = id) : l.find? (fun v => v.id == id) = some v := by
  rw [List.find?_eq_some_iff_getElem]
  obtain ⟨hlt, hg⟩ := List.getElem?_eq_some_iff.1 hv
  refine ⟨by simpa using he, _, hlt, hg, fun j hj => ?_⟩
  have := List.pairwise_iff_getElem.1 hs j _ (by omega) hlt hj
  rw [hg] at this
  simp
  omega
theorem lb_miss {l : List Vpc} {id : Int} (hs : l.Pairwise fun a b => a.id < b.id) (h : lbB (fun v : Vpc => v.id) id l = false) : l.find? (fun v => v.id == id) = none := by
  rw [List.find?_eq_none]
  intro v hv he
  have he2 : v.id = id := by simpa using he
  obtain ⟨j, hj, rfl⟩ := List.mem_iff_getElem.1 hv
  have h1 : lbN (fun v : Vpc => v.id) id l = j := lbN_eq (by omega) (fun q hq hqj => by
    have := List.pairwise_iff_getElem.1 hs q j hq hj hqj
    show l[q].id < id
    omega) (fun q hq hjq => by
    show id ≤ l[q].id
    rcases Nat.lt_or_ge j q with h | h
    · have := List.pairwise_iff_getElem.1 hs j q hj hq h; omega
    · obtain rfl : q = j := by omega
      omega)
  unfold lbB at h
  rw [h1, List.getElem?_eq_getElem hj] at h
  simp [he2] at h
def findNP (o : Option Vpc) : PV := .d (findND o)
set_option maxRecDepth 100000 in
theorem nfindB_m (n : Net) (id : Int) (hl : n.vpcs.length ≤ 1000000000) (hs : n.vpcs.Pairwise fun a b => a.id < b.id) : MSpec Try.prog 32 [.ptr 0 0, .d (.v (.int .i64 id))] [.box 25 ((encT n).map .d)] (findNP (findN n id)) [.box 25 ((encT n).map .d)] := by
  have hb := bsrf_Vpc encV_len (fun v : Vpc => v.id) n.vpcs id 48 [] hl hs (fun v _ => find1_p v id)
  unfold findN
  cases hB : lbB (fun v : Vpc => v.id) id n.vpcs with
  | false =>
    rw [lb_miss hs hB]
    rw [hB] at hb
    clear hs
    refine ms_i tab_ok mixed Try.func32 rfl Try.ntmps32 Try.results32 (by kernel_rfl) (by simp) (by simp [belowL, belowP]) (by simp [belowH, belowC, belowL, belowP, belowL_d, belowR_d]) ?_
    repeat' (first | (with_reducible refine And.intro ?_ ?_) | (with_reducible refine gK_i (fun _ => ?_) (fun _ => ?_)) | (with_reducible refine condS_i (fun _ => ?_) (fun _ => ?_)) | (with_reducible refine drw_i (by kernel_rfl)) | simp -dsimp only [go_sem, seval, *, encT, undef] | ((with_reducible refine opK_c ?_); simp -dsimp only [go_sem, seval, encT, undef]; first | refine callK_r (by first | assumption | exact hb) (by first | exact .inl rfl | exact .inr rfl) ?_ | (refine callK_i (by assumption) ?_ ?_ ?_; (solve | (repeat (first | exact DLe.refl _ | exact DLe.nil _ | (refine DLe.tup ?_) | (refine DLe.agg ?_ rfl) | exact trivial | (refine And.intro ?_ ?_)))); (solve | exact .inl rfl | exact .inr rfl))) | fail | omega | exact decide_eq_true (by omega) | exact DLe.refl _)
    all_goals exact weak_eq rfl rfl
  | true =>
    obtain ⟨v, hv, he⟩ : ∃ v, n.vpcs[lbN (fun v : Vpc => v.id) id n.vpcs]? = some v ∧ v.id = id := by
      unfold lbB at hB
      cases hq : n.vpcs[lbN (fun v : Vpc => v.id) id n.vpcs]? with
      | none => rw [hq] at hB; cases hB
      | some v => rw [hq] at hB; exact ⟨v, rfl, by simpa using hB⟩
    rw [lb_hit hs hv he]
    rw [hB] at hb
    clear hs
    replace he := Lib.hid he
    have hlt := (List.getElem?_eq_some_iff.1 hv).1
    generalize lbN (fun v : Vpc => v.id) id n.vpcs = k at *
    refine ms_i tab_ok mixed Try.func32 rfl Try.ntmps32 Try.results32 (by kernel_rfl) (by simp) (by simp [belowL, belowP]) (by simp [belowH, belowC, belowL, belowP, belowL_d, belowR_d]) ?_
    repeat' (first | (with_reducible refine And.intro ?_ ?_) | (with_reducible refine gK_i (fun _ => ?_) (fun _ => ?_)) | (with_reducible refine condS_i (fun _ => ?_) (fun _ => ?_)) | (with_reducible refine drw_i (by kernel_rfl)) | simp -dsimp only [go_sem, seval, *, encT, hv, undef] | ((with_reducible refine opK_c ?_); simp -dsimp only [go_sem, seval, encT, hv, undef]; first | refine callK_r (by first | assumption | exact hb) (by first | exact .inl rfl | exact .inr rfl) ?_ | (refine callK_i (by assumption) ?_ ?_ ?_; (solve | (repeat (first | exact DLe.refl _ | exact DLe.nil _ | (refine DLe.tup ?_) | (refine DLe.agg ?_ rfl) | exact trivial | (refine And.intro ?_ ?_)))); (solve | exact .inl rfl | exact .inr rfl))) | fail | omega | exact decide_eq_true (by omega) | exact DLe.refl _)
    all_goals exact weak_eq rfl rfl
end Go.Proofs.Ytinnohljknmolaa
namespace Go.Proofs.Ytinnohljknmolaa
open Go Go.RowKit
theorem head_up {ents : List (List Int × Int)} {a b r : Int} (hb : lkE ents [b] = some b) (hr : r ≠ b) : ∀ {n : Nat} {x : Int}, HeadIs ents n x r → HeadIs (upE ents [b] a) n x r
  | 0, x, h => by
    obtain ⟨h1, rfl⟩ := h
    exact ⟨by rw [lkE_up, if_neg (by simpa using fun e => hr e.symm)]; exact h1, rfl⟩
  | n + 1, x, h => by
    obtain ⟨y, h1, h2, h3⟩ := h
    have hx : b ≠ x := fun e => by subst e; rw [hb] at h1; exact h2 (Option.some.inj h1).symm
    exact ⟨y, by rw [lkE_up, if_neg (by simpa using hx)]; exact h1, h2, head_up hb hr h3⟩
theorem head_up2 {ents : List (List Int × Int)} {a b : Int} (ha : lkE ents [a] = some a) (hb : lkE ents [b] = some b) (hab : a ≠ b) : ∀ {n : Nat} {x : Int}, HeadIs ents n x b → HeadIs (upE ents [b] a) (n + 1) x a
  | 0, x, h => by
    obtain ⟨h1, rfl⟩ := h
    exact ⟨a, by rw [lkE_up, if_pos rfl], hab, by rw [lkE_up, if_neg (by simpa using fun e => hab e.symm)]; exact ha, rfl⟩
  | n + 1, x, h => by
    obtain ⟨y, h1, h2, h3⟩ := h
    have hx : b ≠ x := fun e => by subst e; rw [hb] at h1; exact h2 (Option.some.inj h1).symm
    exact ⟨y, by rw [lkE_up, if_neg (by simpa using hx)]; exact h1, h2, head_up2 ha hb hab h3⟩
theorem head_same {ents : List (List Int × Int)} {b r : Int} (hb : lkE ents [b] = some b) : ∀ {n : Nat} {x : Int}, HeadIs ents n x r → HeadIs (upE ents [b] b) n x r
  | 0, x, h => by
    obtain ⟨h1, rfl⟩ := h
    refine ⟨?_, rfl⟩
    rw [lkE_up]
    split
    · rename_i e; simp at e; rw [e]
    · exact h1
  | n + 1, x, h => by
    obtain ⟨y, h1, h2, h3⟩ := h
    refine ⟨y, ?_, h2, head_same hb h3⟩
    rw [lkE_up, if_neg]
    · exact h1
    · intro e; simp at e; subst e; rw [hb] at h1; exact h2 (Option.some.inj h1).symm
/-- A map of groups, and the heads that it tells. -/
def GrpOK (ids : List Int) (ents : List (List Int × Int)) (F : Int → Int) : Prop := ∀ x ∈ ids, (∃ n, HeadIs ents n x (F x)) ∧ F x ∈ ids ∧ lkE ents [F x] = some (F x)
def stepF (F : Int → Int) (l : Lnk) : Int → Int := fun x => if F x = F l.b then F l.a else F x
def stepG (s : List (List Int × Int) × (Int → Int)) (l : Lnk) : List (List Int × Int) × (Int → Int) := (upE s.1 [s.2 l.b] (s.2 l.a), stepF s.2 l)
theorem grp_step {ids : List Int} {ents : List (List Int × Int)} {F : Int → Int} {l : Lnk} (h : GrpOK ids ents F) (ha : l.a ∈ ids) (hb : l.b ∈ ids) : GrpOK ids (upE ents [F l.b] (F l.a)) (stepF F l) := by
  obtain ⟨-, fa, ra⟩ := h l.a ha
  obtain ⟨-, fb, rb⟩ := h l.b hb
  intro x hx
  obtain ⟨⟨n, hn⟩, fx, rx⟩ := h x hx
  unfold stepF
  by_cases hab : F l.a = F l.b
  · rw [hab]
    by_cases hxb : F x = F l.b
    · rw [if_pos hxb, ← hxb]
      exact ⟨⟨n, head_same rx hn⟩, fx, by rw [lkE_up, if_pos rfl]⟩
    · rw [if_neg hxb]
      exact ⟨⟨n, head_same rb hn⟩, fx, by rw [lkE_up, if_neg (by simpa using fun e => hxb e.symm)]; exact rx⟩
  · by_cases hxb : F x = F l.b
    · rw [if_pos hxb]
      rw [hxb] at hn
      exact ⟨⟨n + 1, head_up2 ra rb hab hn⟩, fa, by rw [lkE_up, if_neg (by simpa using fun e => hab e.symm)]; exact ra⟩
    · rw [if_neg hxb]
      exact ⟨⟨n, head_up rb hxb hn⟩, fx, by rw [lkE_up, if_neg (by simpa using fun e => hxb e.symm)]; exact rx⟩
end Go.Proofs.Ytinnohljknmolaa
namespace Go.Proofs.Ytinnohljknmolaa
open Go Go.RowKit
def ents0 (vs : List Vpc) : List (List Int × Int) := vs.foldl (fun e v => upE e [v.id] v.id) []
theorem foldl_snoc {α β : Type} {f : β → α → β} {b : β} {l : List α} {k : Nat} {x : α} (h : l[k]? = some x) : (l.take (k + 1)).foldl f b = f ((l.take k).foldl f b) x := by rw [take_snoc h, List.foldl_append]; rfl
theorem ents0_at (l : List Vpc) (e : List (List Int × Int)) (x : Int) : lkE (l.foldl (fun e v => upE e [v.id] v.id) e) [x] = if x ∈ l.map (·.id) then some x else lkE e [x] := by
  induction l generalizing e with
  | nil => simp
  | cons v l ih =>
    rw [List.foldl_cons, ih, lkE_up]
    by_cases h1 : x ∈ l.map (·.id)
    · rw [if_pos h1, if_pos (by simp only [List.map_cons, List.mem_cons]; exact .inr h1)]
    · rw [if_neg h1]
      by_cases h2 : v.id = x
      · subst h2; simp
      · rw [if_neg (by simpa using h2), if_neg]
        simp only [List.map_cons, List.mem_cons, not_or]
        exact ⟨fun e => h2 e.symm, h1⟩
theorem grp_0 (vs : List Vpc) : GrpOK (vs.map (·.id)) (ents0 vs) (fun x => x) := fun x hx => by
  have := ents0_at vs [] x
  rw [if_pos hx] at this
  exact ⟨⟨0, this, rfl⟩, hx, this⟩
def stN (n : Net) : List (List Int × Int) × (Int → Int) := n.links.foldl stepG (ents0 n.vpcs, fun x => x)
theorem grp_k {n : Net} (hl : ∀ l ∈ n.links, l.a ∈ n.vpcs.map (·.id) ∧ l.b ∈ n.vpcs.map (·.id)) (k : Nat) : GrpOK (n.vpcs.map (·.id)) ((n.links.take k).foldl stepG (ents0 n.vpcs, fun x => x)).1 ((n.links.take k).foldl stepG (ents0 n.vpcs, fun x => x)).2 := by
  induction k with
  | zero => exact grp_0 n.vpcs
  | succ k ih =>
    by_cases hk : k < n.links.length
    · have hx := List.getElem?_eq_getElem hk
      rw [foldl_snoc hx]
      have := hl _ (List.getElem_mem hk)
      exact grp_step ih this.1 this.2
    · rw [List.take_of_length_le (by omega)] at ih ⊢
      exact ih
end Go.Proofs.Ytinnohljknmolaa
namespace Go.Proofs.Ytinnohljknmolaa
open Go Go.RowKit
set_option maxRecDepth 100000 in
set_option maxHeartbeats 1000000 in
theorem of_m (n : Net) (h1 : n.vpcs.length ≤ 1000000000) (h2 : n.links.length ≤ 1000000000) (hl : ∀ l ∈ n.links, l.a ∈ n.vpcs.map (·.id) ∧ l.b ∈ n.vpcs.map (·.id)) :
    MSpec Try.prog 33 [.d (.ept (encT n))] [] (.mref 0) [.mp 1 false (stN n).1] := by
  have hg := Lib.hid (grp_k hl)
  replace hl := Lib.hid hl
  refine ms_i tab_ok mixed Try.func33 rfl Try.ntmps33 Try.results33 (by kernel_rfl) (by simp) (by simp [belowL, belowP]) (by simp [belowH, belowC, belowL, belowP, belowL_d, belowR_d]) ?_
  repeat' (first | (with_reducible refine And.intro ?_ ?_) | (with_reducible refine gK_i (fun _ => ?_) (fun _ => ?_)) | (with_reducible refine condS_i (fun _ => ?_) (fun _ => ?_)) | (with_reducible refine drw_i (by kernel_rfl)) | simp -dsimp only [go_sem, seval, *, encT] | ((with_reducible refine opK_c ?_); simp -dsimp only [go_sem, seval, encT]; first | refine callK_r (by first | assumption | fail) (by first | exact .inl rfl | exact .inr rfl) ?_ | (refine callK_i (by assumption) ?_ ?_ ?_; (solve | (repeat (first | exact DLe.refl _ | exact DLe.nil _ | (refine DLe.tup ?_) | (refine DLe.agg ?_ rfl) | exact trivial | (refine And.intro ?_ ?_)))); (solve | exact .inl rfl | exact .inr rfl))) | fail | omega | exact decide_eq_true (by omega) | exact DLe.refl _)
  refine loopL tab_ok mixed n.vpcs (fun _ => True) (fun k => [(14, .d (.v (.int .i64 k))), (13, .d (.v (.int .i64 n.vpcs.length))), (12, .d (.sl 3 (n.vpcs.map encV))), (3, .mref 0), (0, .d (.ept (encT n)))]) (fun k => [.mp 1 false (ents0 (n.vpcs.take k))]) trivial (weak_forget _ (by simp) (by (try simp only [encT]); rfl) (by (repeat' (first | exact trivial | (refine ⟨rfl, ?_⟩)))) (by first | rfl | simp only [belowH, belowE, belowC, belowL, belowR, belowP, belowL_d, belowR_d, List.length_cons, List.length_nil, Nat.reduceAdd, Nat.reduceLT, decide_true, Bool.and_self, Bool.and_true]) (by first | rfl | simp only [belowH, belowE, belowC, belowL, belowR, belowP, belowL_d, belowR_d, List.length_cons, List.length_nil, Nat.reduceAdd, Nat.reduceLT, decide_true, Bool.and_self, Bool.and_true])) ?_ ?_
  · intro k v hv hk _ C hC
    have hkI : (k : Int) < (n.vpcs.length : Int) := by omega
    have hwr : IntKind.i64.wrap ((k : Int) + 1) = ((k + 1 : Nat) : Int) := by rw [IntKind.wrap_i64]; omega
    have hs : ents0 (n.vpcs.take (k + 1)) = upE (ents0 (n.vpcs.take k)) [v.id] v.id := foldl_snoc hv
    replace hs := Lib.hid hs
    repeat' (first | (with_reducible refine And.intro ?_ ?_) | (with_reducible refine gK_i (fun _ => ?_) (fun _ => ?_)) | (with_reducible refine condS_i (fun _ => ?_) (fun _ => ?_)) | (with_reducible refine drw_i (by kernel_rfl)) | simp -dsimp only [go_sem, seval, *, encT, encV, hkI, hwr, hv, undef] | ((with_reducible refine opK_c ?_); simp -dsimp only [go_sem, seval, encT, encV, hkI, hwr, hv, undef]; first | refine callK_r (by first | assumption | fail) (by first | exact .inl rfl | exact .inr rfl) ?_ | (refine callK_i (by assumption) ?_ ?_ ?_; (solve | (repeat (first | exact DLe.refl _ | exact DLe.nil _ | (refine DLe.tup ?_) | (refine DLe.agg ?_ rfl) | exact trivial | (refine And.intro ?_ ?_)))); (solve | exact .inl rfl | exact .inr rfl))) | fail | omega | exact decide_eq_true (by omega) | exact DLe.refl _)
    exact hC _ _ trivial (weak_forget _ (by simp) (by rw [hs.out]; rfl) (by (repeat' (first | exact trivial | (refine ⟨rfl, ?_⟩)))) (by first | rfl | simp only [belowH, belowE, belowC, belowL, belowR, belowP, belowL_d, belowR_d, List.length_cons, List.length_nil, Nat.reduceAdd, Nat.reduceLT, decide_true, Bool.and_self, Bool.and_true]) (by first | rfl | simp only [belowH, belowE, belowC, belowL, belowR, belowP, belowL_d, belowR_d, List.length_cons, List.length_nil, Nat.reduceAdd, Nat.reduceLT, decide_true, Bool.and_self, Bool.and_true]))
  · intro _ C
    rw [List.take_length]
    repeat' (first | (with_reducible refine And.intro ?_ ?_) | (with_reducible refine gK_i (fun _ => ?_) (fun _ => ?_)) | (with_reducible refine condS_i (fun _ => ?_) (fun _ => ?_)) | (with_reducible refine drw_i (by kernel_rfl)) | simp -dsimp only [go_sem, seval, *, encT, Int.lt_irrefl, undef] | ((with_reducible refine opK_c ?_); simp -dsimp only [go_sem, seval, encT, Int.lt_irrefl, undef]; first | refine callK_r (by first | assumption | fail) (by first | exact .inl rfl | exact .inr rfl) ?_ | (refine callK_i (by assumption) ?_ ?_ ?_; (solve | (repeat (first | exact DLe.refl _ | exact DLe.nil _ | (refine DLe.tup ?_) | (refine DLe.agg ?_ rfl) | exact trivial | (refine And.intro ?_ ?_)))); (solve | exact .inl rfl | exact .inr rfl))) | fail | omega | exact decide_eq_true (by omega) | exact DLe.refl _)
    refine loopL tab_ok mixed n.links (fun _ => True) (fun k => [(29, .d (.v (.int .i64 k))), (28, .d (.v (.int .i64 n.links.length))), (27, .d (.sl 2 (n.links.map encK))), (3, .mref 0)]) (fun k => [.mp 1 false ((n.links.take k).foldl stepG (ents0 n.vpcs, fun x => x)).1]) trivial (weak_forget _ (by simp) (by (try simp only [encT]); rfl) (by (repeat' (first | exact trivial | (refine ⟨rfl, ?_⟩)))) (by first | rfl | simp only [belowH, belowE, belowC, belowL, belowR, belowP, belowL_d, belowR_d, List.length_cons, List.length_nil, Nat.reduceAdd, Nat.reduceLT, decide_true, Bool.and_self, Bool.and_true]) (by first | rfl | simp only [belowH, belowE, belowC, belowL, belowR, belowP, belowL_d, belowR_d, List.length_cons, List.length_nil, Nat.reduceAdd, Nat.reduceLT, decide_true, Bool.and_self, Bool.and_true])) ?_ ?_
    · intro k l hlk hk _ C hC
      have hkI : (k : Int) < (n.links.length : Int) := by omega
      have hwr : IntKind.i64.wrap ((k : Int) + 1) = ((k + 1 : Nat) : Int) := by rw [IntKind.wrap_i64]; omega
      have hs : ((n.links.take (k + 1)).foldl stepG (ents0 n.vpcs, fun x => x)).1 = upE ((n.links.take k).foldl stepG (ents0 n.vpcs, fun x => x)).1 [((n.links.take k).foldl stepG (ents0 n.vpcs, fun x => x)).2 l.b] (((n.links.take k).foldl stepG (ents0 n.vpcs, fun x => x)).2 l.a) := by rw [foldl_snoc hlk]; rfl
      have hm := hl.out l (List.mem_of_getElem? hlk)
      obtain ⟨⟨na, ha⟩, -, -⟩ := hg.out k l.a hm.1
      obtain ⟨⟨nb, hb⟩, -, -⟩ := hg.out k l.b hm.2
      generalize (n.links.take k).foldl stepG (ents0 n.vpcs, fun x => x) = S at *
      have hma := head_m S.1 na l.a (S.2 l.a) ha
      have hmb := head_m S.1 nb l.b (S.2 l.b) hb
      clear ha hb hm
      replace hs := Lib.hid hs
      repeat' (first | (with_reducible refine And.intro ?_ ?_) | (with_reducible refine gK_i (fun _ => ?_) (fun _ => ?_)) | (with_reducible refine condS_i (fun _ => ?_) (fun _ => ?_)) | (with_reducible refine drw_i (by kernel_rfl)) | simp -dsimp only [go_sem, seval, *, encT, encK, hkI, hwr, hlk, undef] | ((with_reducible refine opK_c ?_); simp -dsimp only [go_sem, seval, encT, encK, hkI, hwr, hlk, undef]; first | refine callK_r (by first | assumption | fail) (by first | exact .inl rfl | exact .inr rfl) ?_ | (refine callK_i (by assumption) ?_ ?_ ?_; (solve | (repeat (first | exact DLe.refl _ | exact DLe.nil _ | (refine DLe.tup ?_) | (refine DLe.agg ?_ rfl) | exact trivial | (refine And.intro ?_ ?_)))); (solve | exact .inl rfl | exact .inr rfl))) | (refine opK_M [0] (hmb) ?_ ?_ ?_ ?_ ?_ ?_; (solve | rfl | simp only [go_sem, seval, encK]); (solve | rfl); (solve | decide); (solve | simp); (solve | simp only [go_sem, seval, lentOK, encK])) | (refine opK_M [0] (hma) ?_ ?_ ?_ ?_ ?_ ?_; (solve | rfl | simp only [go_sem, seval, encK]); (solve | rfl); (solve | decide); (solve | simp); (solve | simp only [go_sem, seval, lentOK, encK])) | omega | exact decide_eq_true (by omega) | exact DLe.refl _)
      exact hC _ _ trivial (weak_forget _ (by simp) (by rw [hs.out]; rfl) (by (repeat' (first | exact trivial | (refine ⟨rfl, ?_⟩)))) (by first | rfl | simp only [belowH, belowE, belowC, belowL, belowR, belowP, belowL_d, belowR_d, List.length_cons, List.length_nil, Nat.reduceAdd, Nat.reduceLT, decide_true, Bool.and_self, Bool.and_true]) (by first | rfl | simp only [belowH, belowE, belowC, belowL, belowR, belowP, belowL_d, belowR_d, List.length_cons, List.length_nil, Nat.reduceAdd, Nat.reduceLT, decide_true, Bool.and_self, Bool.and_true]))
    · intro _ C
      rw [List.take_length]
      repeat' (first | (with_reducible refine And.intro ?_ ?_) | (with_reducible refine gK_i (fun _ => ?_) (fun _ => ?_)) | (with_reducible refine condS_i (fun _ => ?_) (fun _ => ?_)) | (with_reducible refine drw_i (by kernel_rfl)) | simp -dsimp only [go_sem, seval, *, encT, Int.lt_irrefl, undef] | ((with_reducible refine opK_c ?_); simp -dsimp only [go_sem, seval, encT, Int.lt_irrefl, undef]; first | refine callK_r (by first | assumption | fail) (by first | exact .inl rfl | exact .inr rfl) ?_ | (refine callK_i (by assumption) ?_ ?_ ?_; (solve | (repeat (first | exact DLe.refl _ | exact DLe.nil _ | (refine DLe.tup ?_) | (refine DLe.agg ?_ rfl) | exact trivial | (refine And.intro ?_ ?_)))); (solve | exact .inl rfl | exact .inr rfl))) | fail | omega | exact decide_eq_true (by omega) | exact DLe.refl _)
      all_goals exact weak_eq rfl rfl
set_option maxRecDepth 100000 in
set_option maxHeartbeats 1000000 in
theorem ofB_m (n : Net) (h1 : n.vpcs.length ≤ 1000000000) (h2 : n.links.length ≤ 1000000000) (hl : ∀ l ∈ n.links, l.a ∈ n.vpcs.map (·.id) ∧ l.b ∈ n.vpcs.map (·.id)) :
    MSpec Try.prog 33 [.ptr 0 0] [.box 25 ((encT n).map .d)] (.mref 1) [.box 25 ((encT n).map .d),.mp 1 false (stN n).1] := by
  have hg := Lib.hid (grp_k hl)
  replace hl := Lib.hid hl
  refine ms_i tab_ok mixed Try.func33 rfl Try.ntmps33 Try.results33 (by kernel_rfl) (by simp) (by simp [belowL, belowP]) (by simp [belowH, belowC, belowL, belowP, belowL_d, belowR_d]) ?_
  repeat' (first | (with_reducible refine And.intro ?_ ?_) | (with_reducible refine gK_i (fun _ => ?_) (fun _ => ?_)) | (with_reducible refine condS_i (fun _ => ?_) (fun _ => ?_)) | (with_reducible refine drw_i (by kernel_rfl)) | simp -dsimp only [go_sem, seval, *, encT] | ((with_reducible refine opK_c ?_); simp -dsimp only [go_sem, seval, encT]; first | refine callK_r (by first | assumption | fail) (by first | exact .inl rfl | exact .inr rfl) ?_ | (refine callK_i (by assumption) ?_ ?_ ?_; (solve | (repeat (first | exact DLe.refl _ | exact DLe.nil _ | (refine DLe.tup ?_) | (refine DLe.agg ?_ rfl) | exact trivial | (refine And.intro ?_ ?_)))); (solve | exact .inl rfl | exact .inr rfl))) | fail | omega | exact decide_eq_true (by omega) | exact DLe.refl _)
  refine loopL tab_ok mixed n.vpcs (fun _ => True) (fun k => [(14, .d (.v (.int .i64 k))), (13, .d (.v (.int .i64 n.vpcs.length))), (12, .d (.sl 3 (n.vpcs.map encV))), (3, .mref 1), (0, .ptr 0 0)]) (fun k => [.box 25 ((encT n).map .d),.mp 1 false (ents0 (n.vpcs.take k))]) trivial (weak_forget _ (by simp) (by (try simp only [encT]); rfl) (by (repeat' (first | exact trivial | (refine ⟨rfl, ?_⟩)))) (by first | rfl | simp only [belowH, belowE, belowC, belowL, belowR, belowP, belowL_d, belowR_d, List.length_cons, List.length_nil, Nat.reduceAdd, Nat.reduceLT, decide_true, Bool.and_self, Bool.and_true]) (by first | rfl | simp only [belowH, belowE, belowC, belowL, belowR, belowP, belowL_d, belowR_d, List.length_cons, List.length_nil, Nat.reduceAdd, Nat.reduceLT, decide_true, Bool.and_self, Bool.and_true])) ?_ ?_
  · intro k v hv hk _ C hC
    have hkI : (k : Int) < (n.vpcs.length : Int) := by omega
    have hwr : IntKind.i64.wrap ((k : Int) + 1) = ((k + 1 : Nat) : Int) := by rw [IntKind.wrap_i64]; omega
    have hs : ents0 (n.vpcs.take (k + 1)) = upE (ents0 (n.vpcs.take k)) [v.id] v.id := foldl_snoc hv
    replace hs := Lib.hid hs
    repeat' (first | (with_reducible refine And.intro ?_ ?_) | (with_reducible refine gK_i (fun _ => ?_) (fun _ => ?_)) | (with_reducible refine condS_i (fun _ => ?_) (fun _ => ?_)) | (with_reducible refine drw_i (by kernel_rfl)) | simp -dsimp only [go_sem, seval, *, encT, encV, hkI, hwr, hv, undef] | ((with_reducible refine opK_c ?_); simp -dsimp only [go_sem, seval, encT, encV, hkI, hwr, hv, undef]; first | refine callK_r (by first | assumption | fail) (by first | exact .inl rfl | exact .inr rfl) ?_ | (refine callK_i (by assumption) ?_ ?_ ?_; (solve | (repeat (first | exact DLe.refl _ | exact DLe.nil _ | (refine DLe.tup ?_) | (refine DLe.agg ?_ rfl) | exact trivial | (refine And.intro ?_ ?_)))); (solve | exact .inl rfl | exact .inr rfl))) | fail | omega | exact decide_eq_true (by omega) | exact DLe.refl _)
    exact hC _ _ trivial (weak_forget _ (by simp) (by rw [hs.out]; rfl) (by (repeat' (first | exact trivial | (refine ⟨rfl, ?_⟩)))) (by first | rfl | simp only [belowH, belowE, belowC, belowL, belowR, belowP, belowL_d, belowR_d, List.length_cons, List.length_nil, Nat.reduceAdd, Nat.reduceLT, decide_true, Bool.and_self, Bool.and_true]) (by first | rfl | simp only [belowH, belowE, belowC, belowL, belowR, belowP, belowL_d, belowR_d, List.length_cons, List.length_nil, Nat.reduceAdd, Nat.reduceLT, decide_true, Bool.and_self, Bool.and_true]))
  · intro _ C
    rw [List.take_length]
    repeat' (first | (with_reducible refine And.intro ?_ ?_) | (with_reducible refine gK_i (fun _ => ?_) (fun _ => ?_)) | (with_reducible refine condS_i (fun _ => ?_) (fun _ => ?_)) | (with_reducible refine drw_i (by kernel_rfl)) | simp -dsimp only [go_sem, seval, *, encT, Int.lt_irrefl, undef] | ((with_reducible refine opK_c ?_); simp -dsimp only [go_sem, seval, encT, Int.lt_irrefl, undef]; first | refine callK_r (by first | assumption | fail) (by first | exact .inl rfl | exact .inr rfl) ?_ | (refine callK_i (by assumption) ?_ ?_ ?_; (solve | (repeat (first | exact DLe.refl _ | exact DLe.nil _ | (refine DLe.tup ?_) | (refine DLe.agg ?_ rfl) | exact trivial | (refine And.intro ?_ ?_)))); (solve | exact .inl rfl | exact .inr rfl))) | fail | omega | exact decide_eq_true (by omega) | exact DLe.refl _)
    refine loopL tab_ok mixed n.links (fun _ => True) (fun k => [(29, .d (.v (.int .i64 k))), (28, .d (.v (.int .i64 n.links.length))), (27, .d (.sl 2 (n.links.map encK))), (3, .mref 1)]) (fun k => [.box 25 ((encT n).map .d),.mp 1 false ((n.links.take k).foldl stepG (ents0 n.vpcs, fun x => x)).1]) trivial (weak_forget _ (by simp) (by (try simp only [encT]); rfl) (by (repeat' (first | exact trivial | (refine ⟨rfl, ?_⟩)))) (by first | rfl | simp only [belowH, belowE, belowC, belowL, belowR, belowP, belowL_d, belowR_d, List.length_cons, List.length_nil, Nat.reduceAdd, Nat.reduceLT, decide_true, Bool.and_self, Bool.and_true]) (by first | rfl | simp only [belowH, belowE, belowC, belowL, belowR, belowP, belowL_d, belowR_d, List.length_cons, List.length_nil, Nat.reduceAdd, Nat.reduceLT, decide_true, Bool.and_self, Bool.and_true])) ?_ ?_
    · intro k l hlk hk _ C hC
      have hkI : (k : Int) < (n.links.length : Int) := by omega
      have hwr : IntKind.i64.wrap ((k : Int) + 1) = ((k + 1 : Nat) : Int) := by rw [IntKind.wrap_i64]; omega
      have hs : ((n.links.take (k + 1)).foldl stepG (ents0 n.vpcs, fun x => x)).1 = upE ((n.links.take k).foldl stepG (ents0 n.vpcs, fun x => x)).1 [((n.links.take k).foldl stepG (ents0 n.vpcs, fun x => x)).2 l.b] (((n.links.take k).foldl stepG (ents0 n.vpcs, fun x => x)).2 l.a) := by rw [foldl_snoc hlk]; rfl
      have hm := hl.out l (List.mem_of_getElem? hlk)
      obtain ⟨⟨na, ha⟩, -, -⟩ := hg.out k l.a hm.1
      obtain ⟨⟨nb, hb⟩, -, -⟩ := hg.out k l.b hm.2
      generalize (n.links.take k).foldl stepG (ents0 n.vpcs, fun x => x) = S at *
      have hma := head_m S.1 na l.a (S.2 l.a) ha
      have hmb := head_m S.1 nb l.b (S.2 l.b) hb
      clear ha hb hm
      replace hs := Lib.hid hs
      repeat' (first | (with_reducible refine And.intro ?_ ?_) | (with_reducible refine gK_i (fun _ => ?_) (fun _ => ?_)) | (with_reducible refine condS_i (fun _ => ?_) (fun _ => ?_)) | (with_reducible refine drw_i (by kernel_rfl)) | simp -dsimp only [go_sem, seval, *, encT, encK, hkI, hwr, hlk, undef] | ((with_reducible refine opK_c ?_); simp -dsimp only [go_sem, seval, encT, encK, hkI, hwr, hlk, undef]; first | refine callK_r (by first | assumption | fail) (by first | exact .inl rfl | exact .inr rfl) ?_ | (refine callK_i (by assumption) ?_ ?_ ?_; (solve | (repeat (first | exact DLe.refl _ | exact DLe.nil _ | (refine DLe.tup ?_) | (refine DLe.agg ?_ rfl) | exact trivial | (refine And.intro ?_ ?_)))); (solve | exact .inl rfl | exact .inr rfl))) | (refine opK_M [1] (hmb) ?_ ?_ ?_ ?_ ?_ ?_; (solve | rfl | simp only [go_sem, seval, encK]); (solve | rfl); (solve | decide); (solve | simp); (solve | simp only [go_sem, seval, lentOK, encK])) | (refine opK_M [1] (hma) ?_ ?_ ?_ ?_ ?_ ?_; (solve | rfl | simp only [go_sem, seval, encK]); (solve | rfl); (solve | decide); (solve | simp); (solve | simp only [go_sem, seval, lentOK, encK])) | omega | exact decide_eq_true (by omega) | exact DLe.refl _)
      exact hC _ _ trivial (weak_forget _ (by simp) (by rw [hs.out]; rfl) (by (repeat' (first | exact trivial | (refine ⟨rfl, ?_⟩)))) (by first | rfl | simp only [belowH, belowE, belowC, belowL, belowR, belowP, belowL_d, belowR_d, List.length_cons, List.length_nil, Nat.reduceAdd, Nat.reduceLT, decide_true, Bool.and_self, Bool.and_true]) (by first | rfl | simp only [belowH, belowE, belowC, belowL, belowR, belowP, belowL_d, belowR_d, List.length_cons, List.length_nil, Nat.reduceAdd, Nat.reduceLT, decide_true, Bool.and_self, Bool.and_true]))
    · intro _ C
      rw [List.take_length]
      repeat' (first | (with_reducible refine And.intro ?_ ?_) | (with_reducible refine gK_i (fun _ => ?_) (fun _ => ?_)) | (with_reducible refine condS_i (fun _ => ?_) (fun _ => ?_)) | (with_reducible refine drw_i (by kernel_rfl)) | simp -dsimp only [go_sem, seval, *, encT, Int.lt_irrefl, undef] | ((with_reducible refine opK_c ?_); simp -dsimp only [go_sem, seval, encT, Int.lt_irrefl, undef]; first | refine callK_r (by first | assumption | fail) (by first | exact .inl rfl | exact .inr rfl) ?_ | (refine callK_i (by assumption) ?_ ?_ ?_; (solve | (repeat (first | exact DLe.refl _ | exact DLe.nil _ | (refine DLe.tup ?_) | (refine DLe.agg ?_ rfl) | exact trivial | (refine And.intro ?_ ?_)))); (solve | exact .inl rfl | exact .inr rfl))) | fail | omega | exact decide_eq_true (by omega) | exact DLe.refl _)
      all_goals exact weak_eq rfl rfl
end Go.Proofs.Ytinnohljknmolaa
namespace Go.Proofs.Ytinnohljknmolaa
open Go Go.RowKit
def headN (n : Net) : Int → Int := (stN n).2
/-- Two networks of one group that clash. -/
def foeN (n : Net) (v w : Vpc) : Bool := (headN n v.id == headN n w.id) && clashV v w
/-- Is there peace in a net? -/
def peaceN (n : Net) : Bool := (List.range n.vpcs.length).all fun k => match n.vpcs[k]? with | some v => (n.vpcs.take k).all fun w => !foeN n v w | none => true
theorem peace_bad {n : Net} {i j : Nat} {v w : Vpc} (hij : j < i) (hv : n.vpcs[i]? = some v) (hw : n.vpcs[j]? = some w) (h : foeN n v w = true) : peaceN n = false := by
  unfold peaceN
  rw [List.all_eq_false]
  refine ⟨i, List.mem_range.2 (List.getElem?_eq_some_iff.1 hv).1, ?_⟩
  rw [hv]
  simp only [Bool.not_eq_true, List.all_eq_false]
  exact ⟨w, List.mem_of_getElem? (i := j) (by rw [List.getElem?_take_of_lt hij]; exact hw), by rw [h]; simp⟩
theorem peace_good {n : Net} (h : ∀ (i : Nat) (v w : Vpc), n.vpcs[i]? = some v → w ∈ n.vpcs.take i → foeN n v w = false) : peaceN n = true := by
  unfold peaceN
  rw [List.all_eq_true]
  intro i hi
  have hl := List.mem_range.1 hi
  rw [List.getElem?_eq_getElem hl]
  simp only [List.all_eq_true]
  intro w hw
  rw [h i _ w (List.getElem?_eq_getElem hl) hw]; rfl
end Go.Proofs.Ytinnohljknmolaa
namespace Go.Proofs.Ytinnohljknmolaa
open Go Go.RowKit
def stepI (lk : Nat → Nat → Bool) (i k : Nat) (l : List Bool) : List Bool := l.set k (l.getD k false || (l.getD i false && lk i k))
def rowI (lk : Nat → Nat → Bool) (l : List Bool) (i : Nat) : Nat → List Bool
  | 0 => l
  | k + 1 => stepI lk i k (rowI lk l i k)
def turnI (lk : Nat → Nat → Bool) (l : List Bool) : Nat → List Bool
  | 0 => l
  | i + 1 => rowI lk (turnI lk l i) i l.length
def closeI (lk : Nat → Nat → Bool) (l : List Bool) : Nat → List Bool
  | 0 => l
  | t + 1 => turnI lk (closeI lk l t) l.length
def leB : List Bool → List Bool → Prop
  | [], [] => True
  | a :: l, b :: m => (a = true → b = true) ∧ leB l m
  | _, _ => False
theorem leB_refl : ∀ l, leB l l
  | [] => trivial
  | _ :: l => ⟨id, leB_refl l⟩
theorem leB_trans : ∀ {l m k : List Bool}, leB l m → leB m k → leB l k
  | [], [], [], _, _ => trivial
  | _ :: _, _ :: _, _ :: _, ⟨h1, h2⟩, ⟨g1, g2⟩ => ⟨fun h => g1 (h1 h), leB_trans h2 g2⟩
theorem leB_anti : ∀ {l m : List Bool}, leB l m → leB m l → l = m
  | [], [], _, _ => rfl
  | a :: l, b :: m, ⟨h1, h2⟩, ⟨g1, g2⟩ => by
    rw [leB_anti h2 g2]
    cases a <;> cases b <;> simp_all
theorem leB_len : ∀ {l m : List Bool}, leB l m → m.length = l.length
  | [], [], _ => rfl
  | _ :: _, _ :: _, ⟨_, h⟩ => by simp [leB_len h]
theorem leB_get : ∀ {l m : List Bool}, leB l m → ∀ {k}, l.getD k false = true → m.getD k false = true
  | [], [], _, _, h => h
  | _ :: _, _ :: _, ⟨h1, _⟩, 0, h => by simpa using h1 (by simpa using h)
  | _ :: _, _ :: _, ⟨_, h2⟩, k + 1, h => by simpa using leB_get h2 (k := k) (by simpa using h)
theorem leB_count : ∀ {l m : List Bool}, leB l m → l = m ∨ l.count true < m.count true
  | [], [], _ => .inl rfl
  | a :: l, b :: m, ⟨h1, h2⟩ => by
    rcases leB_count h2 with rfl | h
    · cases a <;> cases b <;> simp_all
    · right
      cases a <;> cases b <;> simp_all <;> omega
theorem leB_set : ∀ (l : List Bool) (k : Nat) (b : Bool), leB l (l.set k (l.getD k false || b))
  | [], _, _ => by simp [leB]
  | a :: l, 0, b => by simp only [List.set_cons_zero, List.getD_cons_zero]; exact ⟨fun h => by simp [h], leB_refl l⟩
  | a :: l, k + 1, b => by simp only [List.set_cons_succ, List.getD_cons_succ]; exact ⟨id, leB_set l k b⟩
section
variable (lk : Nat → Nat → Bool)
theorem gsl_step (i k : Nat) (l : List Bool) : leB l (stepI lk i k l) := leB_set l k _
theorem gsl_row (l : List Bool) (i : Nat) : ∀ k d, leB (rowI lk l i k) (rowI lk l i (k + d))
  | _, 0 => leB_refl _
  | k, d + 1 => leB_trans (gsl_row l i k d) (gsl_step lk i (k + d) _)
theorem gsl_turn (l : List Bool) : ∀ i d, leB (turnI lk l i) (turnI lk l (i + d))
  | _, 0 => leB_refl _
  | i, d + 1 => leB_trans (gsl_turn l i d) (by have := gsl_row lk (turnI lk l (i + d)) (i + d) 0 l.length; rw [Nat.zero_add] at this; exact this)
theorem gsl_tlen (l : List Bool) (i : Nat) : (turnI lk l i).length = l.length := leB_len (by have := gsl_turn lk l 0 i; rw [Nat.zero_add] at this; exact this)
theorem gsl_rlen (l : List Bool) (i k : Nat) : (rowI lk l i k).length = l.length := leB_len (by have := gsl_row lk l i 0 k; rw [Nat.zero_add] at this; exact this)
theorem gsl_close (l : List Bool) : ∀ t, leB l (closeI lk l t)
  | 0 => leB_refl _
  | t + 1 => leB_trans (gsl_close l t) (by have h := leB_len (gsl_close l t); have := gsl_turn lk (closeI lk l t) 0 l.length; rw [Nat.zero_add] at this; exact this)
theorem gsl_clen (l : List Bool) (t : Nat) : (closeI lk l t).length = l.length := leB_len (gsl_close lk l t)
/-- A turn that changes nothing has nothing to do. -/
theorem turn_fix {l : List Bool} (h : turnI lk l l.length = l) {i k : Nat} (hi : i < l.length) (hk : k < l.length) (h1 : l.getD i false = true) (h2 : lk i k = true) : l.getD k false = true := by
  have a1 := gsl_turn lk l 0 i
  have a2 := gsl_turn lk l i (l.length - i)
  rw [Nat.zero_add] at a1
  rw [show i + (l.length - i) = l.length by omega, h] at a2
  have e1 : turnI lk l i = l := leB_anti a2 a1
  have a3 := gsl_turn lk l i 1
  have a4 := gsl_turn lk l (i + 1) (l.length - (i + 1))
  rw [show i + 1 + (l.length - (i + 1)) = l.length by omega, h] at a4
  have e2 : turnI lk l (i + 1) = l := by rw [e1] at a3; exact leB_anti a4 a3
  simp only [turnI, e1] at e2
  have b1 := gsl_row lk l i 0 k
  have b2 := gsl_row lk l i k (l.length - k)
  rw [Nat.zero_add] at b1
  rw [show k + (l.length - k) = l.length by omega, e2] at b2
  have e3 : rowI lk l i k = l := leB_anti b2 b1
  have b3 := gsl_row lk l i k 1
  have b4 := gsl_row lk l i (k + 1) (l.length - (k + 1))
  rw [show k + 1 + (l.length - (k + 1)) = l.length by omega, e2] at b4
  have e4 : rowI lk l i (k + 1) = l := by rw [e3] at b3; exact leB_anti b4 b3
  simp only [rowI, e3, stepI] at e4
  rw [← e4, h1, h2]
  simp [List.getD_eq_getElem?_getD, hk]
theorem close_fix (l : List Bool) (hc : 0 < l.count true) : ∀ t, turnI lk (closeI lk l t) l.length = closeI lk l t ∨ t < (closeI lk l t).count true
  | 0 => .inr hc
  | t + 1 => by
    rcases close_fix l hc t with h | h
    · left
      simp only [closeI, h]
    · have hl := gsl_clen lk l t
      have hle := gsl_turn lk (closeI lk l t) 0 l.length
      rw [Nat.zero_add] at hle
      rcases leB_count (show leB (closeI lk l t) (closeI lk l (t + 1)) from hle) with he | he
      · left
        have e2 : closeI lk l (t + 1) = turnI lk (closeI lk l t) l.length := rfl
        rw [← he]
        rw [← e2, ← he]
      · right; omega
theorem close_closed (l : List Bool) (hc : 0 < l.count true) {i k : Nat} (hi : i < l.length) (hk : k < l.length) (h1 : (closeI lk l l.length).getD i false = true) (h2 : lk i k = true) : (closeI lk l l.length).getD k false = true := by
  have hl := gsl_clen lk l l.length
  rcases close_fix lk l hc l.length with h | h
  · exact turn_fix lk (by rw [hl]; exact h) (by rw [hl]; exact hi) (by rw [hl]; exact hk) h1 h2
  · have := List.count_le_length (a := true) (l := closeI lk l l.length)
    omega
/-- What holds of what is in at first, and goes along the links, holds of all that comes in. -/
theorem gss_step {G : Nat → Prop} (hG : ∀ i k, G i → lk i k = true → G k) {l : List Bool} (h : ∀ k, l.getD k false = true → G k) (i k : Nat) : ∀ j, (stepI lk i k l).getD j false = true → G j := by
  intro j hj
  unfold stepI at hj
  rw [List.getD_eq_getElem?_getD, List.getElem?_set] at hj
  split at hj
  · rename_i e
    subst e
    split at hj
    · simp only [Option.getD_some, Bool.or_eq_true, Bool.and_eq_true] at hj
      rcases hj with hj | hj
      · exact h _ hj
      · exact hG i k (h _ hj.1) hj.2
    · simp at hj
  · exact h j (by rw [List.getD_eq_getElem?_getD]; exact hj)
theorem gss_row {G : Nat → Prop} (hG : ∀ i k, G i → lk i k = true → G k) {l : List Bool} (h : ∀ k, l.getD k false = true → G k) (i : Nat) : ∀ k j, (rowI lk l i k).getD j false = true → G j
  | 0 => h
  | k + 1 => gss_step lk hG (gss_row hG h i k) i k
theorem gss_turn {G : Nat → Prop} (hG : ∀ i k, G i → lk i k = true → G k) {l : List Bool} (h : ∀ k, l.getD k false = true → G k) : ∀ i j, (turnI lk l i).getD j false = true → G j
  | 0 => h
  | i + 1 => gss_row lk hG (gss_turn hG h i) i _
theorem gss_close {G : Nat → Prop} (hG : ∀ i k, G i → lk i k = true → G k) {l : List Bool} (h : ∀ k, l.getD k false = true → G k) : ∀ t j, (closeI lk l t).getD j false = true → G j
  | 0 => h
  | t + 1 => gss_turn lk hG (gss_close hG h t) _
end
def heads (L : List Lnk) : Int → Int := L.foldl stepF (fun x => x)
theorem stepF_keep {F : Int → Int} {x y : Int} (h : F x = F y) (l : Lnk) : stepF F l x = stepF F l y := by unfold stepF; rw [h]
theorem foldF_keep {x y : Int} : ∀ (L : List Lnk) (F : Int → Int), F x = F y → L.foldl stepF F x = L.foldl stepF F y
  | [], _, h => h
  | l :: L, F, h => foldF_keep L _ (stepF_keep h l)
theorem foldF_link {l : Lnk} : ∀ (L : List Lnk) (F : Int → Int), l ∈ L → L.foldl stepF F l.a = L.foldl stepF F l.b
  | m :: L, F, h => by
    rcases List.mem_cons.1 h with rfl | h
    · refine foldF_keep L _ ?_
      unfold stepF
      rw [if_pos rfl]
      split <;> rfl
    · exact foldF_link L _ h
theorem heads_link {L : List Lnk} {l : Lnk} (h : l ∈ L) : heads L l.a = heads L l.b := foldF_link L _ h
theorem foldF_sound {S : Int → Prop} : ∀ (L : List Lnk) (F : Int → Int), (∀ l ∈ L, S l.a ↔ S l.b) → (∀ x y, F x = F y → (S x ↔ S y)) → ∀ x y, L.foldl stepF F x = L.foldl stepF F y → (S x ↔ S y)
  | [], _, _, hF, x, y, h => hF x y h
  | l :: L, F, hL, hF, x, y, h => by
    refine foldF_sound L (stepF F l) (fun m hm => hL m (List.mem_cons_of_mem _ hm)) (fun u v huv => ?_) x y h
    have hl := hL l (by simp)
    unfold stepF at huv
    by_cases h1 : F u = F l.b
    · by_cases h2 : F v = F l.b
      · exact hF u v (h1.trans h2.symm)
      · rw [if_pos h1, if_neg h2] at huv
        exact (hF u l.b h1).trans (hl.symm.trans (hF l.a v huv))
    · by_cases h2 : F v = F l.b
      · rw [if_neg h1, if_pos h2] at huv
        exact (hF u l.a huv).trans (hl.trans (hF v l.b h2).symm)
      · rw [if_neg h1, if_neg h2] at huv
        exact hF u v huv
theorem heads_sound {S : Int → Prop} {L : List Lnk} (hL : ∀ l ∈ L, S l.a ↔ S l.b) {x y : Int} (h : heads L x = heads L y) : S x ↔ S y :=
  foldF_sound L _ hL (fun x y h => by rw [h]) x y h
theorem lnk_of {l : Lnk} (h : l.a < l.b) : lnk l.a l.b = l ∧ lnk l.b l.a = l := by
  unfold lnk
  rw [if_neg (by omega), if_pos h, if_pos h, if_neg (by omega)]
  exact ⟨rfl, rfl⟩
theorem lnk_head {L : List Lnk} {a b : Int} (h : lnk a b ∈ L) : heads L a = heads L b := by
  have := heads_link h
  unfold lnk at this
  by_cases h1 : b < a
  · rw [if_pos h1, if_neg (by omega)] at this; exact this.symm
  · rw [if_neg h1] at this
    split at this
    · exact this
    · have : a = b := by omega
      rw [this]
def lkB (L : List Lnk) (ids : List Int) (i k : Nat) : Bool := decide (lnk (ids.getD i 0) (ids.getD k 0) ∈ L)
theorem close_heads {L : List Lnk} {ids : List Int} (hn : ids.Nodup) (hl : ∀ l ∈ L, l.a ∈ ids ∧ l.b ∈ ids ∧ l.a < l.b) {i k : Nat} (hi : i < ids.length) (hk : k < ids.length) :
    (closeI (lkB L ids) ((List.replicate ids.length false).set i true) ids.length).getD k false = (heads L (ids.getD k 0) == heads L (ids.getD i 0)) := by
  have hlen : ((List.replicate ids.length false).set i true).length = ids.length := by simp
  have hcnt : 0 < ((List.replicate ids.length false).set i true).count true := by
    rw [List.count_pos_iff, List.mem_iff_getElem]
    exact ⟨i, by simpa using hi, by simp⟩
  have hini : ∀ j, ((List.replicate ids.length false).set i true).getD j false = true → j = i := by
    intro j hj
    rw [List.getD_eq_getElem?_getD, List.getElem?_set] at hj
    split at hj
    · rename_i e; exact e.symm
    · rw [List.getElem?_replicate] at hj
      split at hj <;> simp at hj
  have hcl := fun (i k : Nat) => close_closed (lkB L ids) _ hcnt (i := i) (k := k)
  rw [hlen] at hcl
  rw [Bool.eq_iff_iff, beq_iff_eq]
  constructor
  · intro h
    exact gss_close (lkB L ids) (G := fun j => heads L (ids.getD j 0) = heads L (ids.getD i 0)) (fun u v hu huv => by
      unfold lkB at huv
      rw [decide_eq_true_eq] at huv
      show heads L _ = _
      rw [← lnk_head huv]; exact hu) (fun j hj => by rw [hini j hj]) _ k h
  · intro h
    have hmem : ∀ x ∈ ids, ∃ j, j < ids.length ∧ ids.getD j 0 = x := fun x hx => by
      obtain ⟨j, hj, rfl⟩ := List.mem_iff_getElem.1 hx
      exact ⟨j, hj, by simp [List.getD_eq_getElem?_getD, hj]⟩
    have hS := heads_sound (L := L) (S := fun x => ∃ j, j < ids.length ∧ ids.getD j 0 = x ∧ (closeI (lkB L ids) ((List.replicate ids.length false).set i true) ids.length).getD j false = true) (fun l hll => by
      obtain ⟨ha, hb, hab⟩ := hl l hll
      obtain ⟨u, hu, eu⟩ := hmem _ ha
      obtain ⟨v, hv, ev⟩ := hmem _ hb
      constructor
      · rintro ⟨j, hj, ej, h2⟩
        refine ⟨v, hv, ev, hcl j v hj hv h2 ?_⟩
        unfold lkB
        rw [ej, ev, (lnk_of hab).1, decide_eq_true_eq]
        exact hll
      · rintro ⟨j, hj, ej, h2⟩
        refine ⟨u, hu, eu, hcl j u hj hu h2 ?_⟩
        unfold lkB
        rw [ej, eu, (lnk_of hab).2, decide_eq_true_eq]
        exact hll) h
    obtain ⟨j, hj, ej, h2⟩ := hS.2 ⟨i, hi, rfl, leB_get (gsl_close _ _ _) (by simp [List.getD_eq_getElem?_getD, hi])⟩
    have : j = k := by
      have e1 : ids[j] = ids[k] := by simpa [List.getD_eq_getElem?_getD, hj, hk] using ej
      rcases Nat.lt_trichotomy j k with h | h | h
      · exact absurd e1 (List.pairwise_iff_getElem.1 hn j k hj hk h)
      · exact h
      · exact absurd e1.symm (List.pairwise_iff_getElem.1 hn k j hk hj h)
    rw [← this]
    exact h2
theorem headN_eq (n : Net) : headN n = heads n.links := by
  unfold headN stN heads
  have key : ∀ (L : List Lnk) (s : List (List Int × Int) × (Int → Int)), (L.foldl stepG s).2 = L.foldl stepF s.2 := by
    intro L
    induction L with
    | nil => intro s; rfl
    | cons l L ih => intro s; rw [List.foldl_cons, List.foldl_cons, ih]; rfl
  exact key _ _
end Go.Proofs.Ytinnohljknmolaa
namespace Go.Proofs.Ytinnohljknmolaa
open Go Go.RowKit
set_option maxRecDepth 100000 in
set_option maxHeartbeats 1000000 in
theorem peace_p (n : Net) (h1 : n.vpcs.length ≤ 1000000000) (h2 : n.links.length ≤ 1000000000) (hr : ∀ v ∈ n.vpcs, v.ranges.length ≤ 1000000000) (hl : ∀ l ∈ n.links, l.a ∈ n.vpcs.map (·.id) ∧ l.b ∈ n.vpcs.map (·.id)) :
    PSpec Try.prog 46 [.ept (encT n)] (.v (.bool (peaceN n))) := by
  have hof := of_m n h1 h2 hl
  have hg : ∀ x ∈ n.vpcs.map (·.id), ∃ k, HeadIs (stN n).1 k x (headN n x) := fun x hx => by
    have := (grp_k hl n.links.length x (by exact hx)).1
    rwa [List.take_length] at this
  replace hg := Lib.hid hg
  replace hr := Lib.hid hr
  clear hl
  obtain ⟨R, hR⟩ : ∃ R, R = peaceN n := ⟨_, rfl⟩
  rw [← hR]
  replace hR := Lib.hid hR
  generalize (stN n).1 = E at *
  refine ps_i tab_ok mixed Try.func46 rfl Try.ntmps46 Try.results46 (by kernel_rfl) ?_
  repeat' (first | (with_reducible refine And.intro ?_ ?_) | (with_reducible refine gK_i (fun _ => ?_) (fun _ => ?_)) | (with_reducible refine condS_i (fun _ => ?_) (fun _ => ?_)) | (with_reducible refine drw_i (by kernel_rfl)) | simp -dsimp only [go_sem, seval, *, encT] | ((with_reducible refine opK_c ?_); simp -dsimp only [go_sem, seval, encT]; first | refine callK_r (by first | assumption | fail) (by first | exact .inl rfl | exact .inr rfl) ?_ | (refine callK_i (by assumption) ?_ ?_ ?_; (solve | (repeat (first | exact DLe.refl _ | exact DLe.nil _ | (refine DLe.tup ?_) | (refine DLe.agg ?_ rfl) | exact trivial | (refine And.intro ?_ ?_)))); (solve | exact .inl rfl | exact .inr rfl))) | (refine opK_M [] (hof) ?_ ?_ ?_ ?_ ?_ ?_; (solve | rfl | simp only [go_sem, seval, encT]); (solve | rfl); (solve | decide); (solve | simp); (solve | simp only [go_sem, seval, lentOK, encT])) | omega | exact decide_eq_true (by omega) | exact DLe.refl _)
  clear hof
  refine loopL tab_ok mixed n.vpcs (fun k => ∀ (i : Nat) (v w : Vpc), i < k → n.vpcs[i]? = some v → w ∈ n.vpcs.take i → foeN n v w = false) (fun k => [(15, .d (.v (.int .i64 k))), (14, .d (.v (.int .i64 n.vpcs.length))), (13, .d (.sl 3 (n.vpcs.map encV))), (3, .mref 0), (2, .d (.v (.bool false))), (0, .d (.ept (encT n)))]) (fun _ => [.mp 1 false E]) (fun i v w h => absurd h (Nat.not_lt_zero _)) (weak_forget _ (by simp) (by (try simp only [encT]); rfl) (by (repeat' (first | exact trivial | (refine ⟨rfl, ?_⟩)))) (by first | rfl | simp only [belowH, belowE, belowC, belowL, belowR, belowP, belowL_d, belowR_d, List.length_cons, List.length_nil, Nat.reduceAdd, Nat.reduceLT, decide_true, Bool.and_self, Bool.and_true]) (by first | rfl | simp only [belowH, belowE, belowC, belowL, belowR, belowP, belowL_d, belowR_d, List.length_cons, List.length_nil, Nat.reduceAdd, Nat.reduceLT, decide_true, Bool.and_self, Bool.and_true])) ?_ ?_
  · intro k v hv hk hI C hC
    have hkI : (k : Int) < (n.vpcs.length : Int) := by omega
    have hwr : IntKind.i64.wrap ((k : Int) + 1) = ((k + 1 : Nat) : Int) := by rw [IntKind.wrap_i64]; omega
    have hkl : k ≤ n.vpcs.length := by omega
    have hvm := List.mem_of_getElem? hv
    have hrv := hr.out v hvm
    obtain ⟨nv, hhv⟩ := hg.out v.id (List.mem_map.2 ⟨v, hvm, rfl⟩)
    have hmv := head_m E nv v.id (headN n v.id) hhv
    have hlt : (n.vpcs.take k).length = k := by rw [List.length_take]; omega
    have hlt2 : ((n.vpcs.map encV).take k).length = k := by rw [← List.map_take, List.length_map]; exact hlt
    clear hhv
    replace hI := Lib.hid hI
    repeat' (first | (with_reducible refine And.intro ?_ ?_) | (with_reducible refine gK_i (fun _ => ?_) (fun _ => ?_)) | (with_reducible refine condS_i (fun _ => ?_) (fun _ => ?_)) | (with_reducible refine drw_i (by kernel_rfl)) | simp -dsimp only [go_sem, seval, *, encT, encV, hkI, hv, hkl, hlt2, undef] | ((with_reducible refine opK_c ?_); simp -dsimp only [go_sem, seval, encT, encV, hkI, hv, hkl, hlt2, undef]; first | refine callK_r (by first | assumption | fail) (by first | exact .inl rfl | exact .inr rfl) ?_ | (refine callK_i (by assumption) ?_ ?_ ?_; (solve | (repeat (first | exact DLe.refl _ | exact DLe.nil _ | (refine DLe.tup ?_) | (refine DLe.agg ?_ rfl) | exact trivial | (refine And.intro ?_ ?_)))); (solve | exact .inl rfl | exact .inr rfl))) | fail | omega | exact decide_eq_true (by omega) | exact DLe.refl _)
    refine loopL tab_ok mixed (n.vpcs.take k) (fun j => ∀ w ∈ (n.vpcs.take k).take j, foeN n v w = false) (fun j => [(27, .d (.v (.int .i64 j))), (26, .d (.v (.int .i64 k))), (25, .d (.sl 3 ((n.vpcs.map encV).take k))), (5, .ptr 1 0), (15, .d (.v (.int .i64 k))), (14, .d (.v (.int .i64 n.vpcs.length))), (13, .d (.sl 3 (n.vpcs.map encV))), (3, .mref 0), (2, .d (.v (.bool false))), (0, .d (.ept (encT n)))]) (fun _ => [.mp 1 false E, .box 47 ((encV v).map .d)]) (fun w hw => by simp at hw) (weak_forget _ (by simp) (by (try simp only [encT, encV]); rfl) (by (repeat' (first | exact trivial | (refine ⟨rfl, ?_⟩)))) (by first | rfl | simp only [belowH, belowE, belowC, belowL, belowR, belowP, belowL_d, belowR_d, List.length_cons, List.length_nil, Nat.reduceAdd, Nat.reduceLT, decide_true, Bool.and_self, Bool.and_true]) (by first | rfl | simp only [belowH, belowE, belowC, belowL, belowR, belowP, belowL_d, belowR_d, List.length_cons, List.length_nil, Nat.reduceAdd, Nat.reduceLT, decide_true, Bool.and_self, Bool.and_true])) ?_ ?_
    · intro j w hw hj hJ C2 hC2
      have hjI : (j : Int) < (k : Int) := by omega
      have hw3 : ((n.vpcs.map encV).take k)[j]? = some (encV w) := by rw [← List.map_take, List.getElem?_map, hw]; rfl
      have hwj : IntKind.i64.wrap ((j : Int) + 1) = ((j + 1 : Nat) : Int) := by rw [IntKind.wrap_i64]; omega
      have hjk : j < k := by omega
      have hw2 : n.vpcs[j]? = some w := by rw [List.getElem?_take_of_lt hjk] at hw; exact hw
      have hwm := List.mem_of_getElem? hw2
      have hrw := hr.out w hwm
      obtain ⟨nw, hhw⟩ := hg.out w.id (List.mem_map.2 ⟨w, hwm, rfl⟩)
      have hmw := head_m E nw w.id (headN n w.id) hhw
      have hcl := clash_p v w hrv hrw
      have hbad : foeN n v w = true → R = false := fun h => by rw [hR.out]; exact peace_bad hjk hv hw2 h
      have hstep : foeN n v w = false → ∀ u ∈ (n.vpcs.take k).take (j + 1), foeN n v u = false := fun h u hu => by
        rw [take_snoc hw] at hu
        rcases List.mem_append.1 hu with hu | hu
        · exact hJ u hu
        · rw [List.mem_singleton.1 hu]; exact h
      have hfd : foeN n v w = ((headN n v.id == headN n w.id) && clashV v w) := rfl
      clear hhw hlt hlt2
      replace hbad := Lib.hid hbad
      replace hstep := Lib.hid hstep
      replace hfd := Lib.hid hfd
      replace hJ := Lib.hid hJ
      replace hw := Lib.hid hw
      generalize (n.vpcs.map encV).take k = L at *
      cases e1 : (headN n v.id == headN n w.id) with
      | false =>
        have hf := Lib.hid (hstep.out (by rw [hfd.out, e1]; rfl))
        repeat' (first | (with_reducible refine And.intro ?_ ?_) | (with_reducible refine gK_i (fun _ => ?_) (fun _ => ?_)) | (with_reducible refine condS_i (fun _ => ?_) (fun _ => ?_)) | (with_reducible refine drw_i (by kernel_rfl)) | simp -dsimp only [go_sem, seval, *, encV, hjI, hwj, hw3, e1, undef] | ((with_reducible refine opK_c ?_); simp -dsimp only [go_sem, seval, encV, hjI, hwj, hw3, e1, undef]; first | refine callK_r (by first | assumption | fail) (by first | exact .inl rfl | exact .inr rfl) ?_ | (refine callK_i (by assumption) ?_ ?_ ?_; (solve | (repeat (first | exact DLe.refl _ | exact DLe.nil _ | (refine DLe.tup ?_) | (refine DLe.agg ?_ rfl) | exact trivial | (refine And.intro ?_ ?_)))); (solve | exact .inl rfl | exact .inr rfl))) | (refine opK_M [0] (hmv) ?_ ?_ ?_ ?_ ?_ ?_; (solve | rfl | simp only [go_sem, seval, encV]); (solve | rfl); (solve | decide); (solve | simp); (solve | simp only [go_sem, seval, lentOK, encV])) | (refine opK_M [0] (hmw) ?_ ?_ ?_ ?_ ?_ ?_; (solve | rfl | simp only [go_sem, seval, encV]); (solve | rfl); (solve | decide); (solve | simp); (solve | simp only [go_sem, seval, lentOK, encV])) | omega | exact decide_eq_true (by omega) | exact DLe.refl _)
        exact hC2 _ _ hf.out (weak_forget _ (by simp) (by (try simp only [encT, encV]); rfl) (by (repeat' (first | exact trivial | (refine ⟨rfl, ?_⟩)))) (by first | rfl | simp only [belowH, belowE, belowC, belowL, belowR, belowP, belowL_d, belowR_d, List.length_cons, List.length_nil, Nat.reduceAdd, Nat.reduceLT, decide_true, Bool.and_self, Bool.and_true]) (by first | rfl | simp only [belowH, belowE, belowC, belowL, belowR, belowP, belowL_d, belowR_d, List.length_cons, List.length_nil, Nat.reduceAdd, Nat.reduceLT, decide_true, Bool.and_self, Bool.and_true]))
      | true =>
        cases e2 : clashV v w with
        | true =>
          have hb : R = false := hbad.out (by rw [hfd.out, e1, e2]; rfl)
          rw [hb]
          replace hb := Lib.hid hb
          rw [e2] at hcl
          repeat' (first | (with_reducible refine And.intro ?_ ?_) | (with_reducible refine gK_i (fun _ => ?_) (fun _ => ?_)) | (with_reducible refine condS_i (fun _ => ?_) (fun _ => ?_)) | (with_reducible refine drw_i (by kernel_rfl)) | simp -dsimp only [go_sem, seval, *, encV, hjI, hwj, hw3, e1, undef] | ((with_reducible refine opK_c ?_); simp -dsimp only [go_sem, seval, encV, hjI, hwj, hw3, e1, undef]; first | refine callK_r (by first | assumption | exact hcl) (by first | exact .inl rfl | exact .inr rfl) ?_ | (refine callK_i (by assumption) ?_ ?_ ?_; (solve | (repeat (first | exact DLe.refl _ | exact DLe.nil _ | (refine DLe.tup ?_) | (refine DLe.agg ?_ rfl) | exact trivial | (refine And.intro ?_ ?_)))); (solve | exact .inl rfl | exact .inr rfl))) | (refine opK_M [0] (hmv) ?_ ?_ ?_ ?_ ?_ ?_; (solve | rfl | simp only [go_sem, seval, encV]); (solve | rfl); (solve | decide); (solve | simp); (solve | simp only [go_sem, seval, lentOK, encV])) | (refine opK_M [0] (hmw) ?_ ?_ ?_ ?_ ?_ ?_; (solve | rfl | simp only [go_sem, seval, encV]); (solve | rfl); (solve | decide); (solve | simp); (solve | simp only [go_sem, seval, lentOK, encV])) | omega | exact decide_eq_true (by omega) | exact DLe.refl _)
          all_goals exact DLe.refl _
        | false =>
          have hf := Lib.hid (hstep.out (by rw [hfd.out, e1, e2]; rfl))
          rw [e2] at hcl
          repeat' (first | (with_reducible refine And.intro ?_ ?_) | (with_reducible refine gK_i (fun _ => ?_) (fun _ => ?_)) | (with_reducible refine condS_i (fun _ => ?_) (fun _ => ?_)) | (with_reducible refine drw_i (by kernel_rfl)) | simp -dsimp only [go_sem, seval, *, encV, hjI, hwj, hw3, e1, undef] | ((with_reducible refine opK_c ?_); simp -dsimp only [go_sem, seval, encV, hjI, hwj, hw3, e1, undef]; first | refine callK_r (by first | assumption | exact hcl) (by first | exact .inl rfl | exact .inr rfl) ?_ | (refine callK_i (by assumption) ?_ ?_ ?_; (solve | (repeat (first | exact DLe.refl _ | exact DLe.nil _ | (refine DLe.tup ?_) | (refine DLe.agg ?_ rfl) | exact trivial | (refine And.intro ?_ ?_)))); (solve | exact .inl rfl | exact .inr rfl))) | (refine opK_M [0] (hmv) ?_ ?_ ?_ ?_ ?_ ?_; (solve | rfl | simp only [go_sem, seval, encV]); (solve | rfl); (solve | decide); (solve | simp); (solve | simp only [go_sem, seval, lentOK, encV])) | (refine opK_M [0] (hmw) ?_ ?_ ?_ ?_ ?_ ?_; (solve | rfl | simp only [go_sem, seval, encV]); (solve | rfl); (solve | decide); (solve | simp); (solve | simp only [go_sem, seval, lentOK, encV])) | omega | exact decide_eq_true (by omega) | exact DLe.refl _)
          exact hC2 _ _ hf.out (weak_forget _ (by simp) (by (try simp only [encT, encV]); rfl) (by (repeat' (first | exact trivial | (refine ⟨rfl, ?_⟩)))) (by first | rfl | simp only [belowH, belowE, belowC, belowL, belowR, belowP, belowL_d, belowR_d, List.length_cons, List.length_nil, Nat.reduceAdd, Nat.reduceLT, decide_true, Bool.and_self, Bool.and_true]) (by first | rfl | simp only [belowH, belowE, belowC, belowL, belowR, belowP, belowL_d, belowR_d, List.length_cons, List.length_nil, Nat.reduceAdd, Nat.reduceLT, decide_true, Bool.and_self, Bool.and_true]))
    · intro hJ C2
      rw [List.take_length] at hJ
      have hI2 : ∀ (i : Nat) (u w : Vpc), i < k + 1 → n.vpcs[i]? = some u → w ∈ n.vpcs.take i → foeN n u w = false := fun i u w hi hu hw => by
        rcases Nat.lt_or_ge i k with h | h
        · exact hI.out i u w h hu hw
        · obtain rfl : i = k := by omega
          rw [hv] at hu
          rw [← Option.some.inj hu]
          exact hJ w hw
      replace hI2 := Lib.hid hI2
      replace hJ := Lib.hid hJ
      rw [hlt]
      repeat' (first | (with_reducible refine And.intro ?_ ?_) | (with_reducible refine gK_i (fun _ => ?_) (fun _ => ?_)) | (with_reducible refine condS_i (fun _ => ?_) (fun _ => ?_)) | (with_reducible refine drw_i (by kernel_rfl)) | simp -dsimp only [go_sem, seval, *, encT, hwr, Int.lt_irrefl, undef] | ((with_reducible refine opK_c ?_); simp -dsimp only [go_sem, seval, encT, hwr, Int.lt_irrefl, undef]; first | refine callK_r (by first | assumption | fail) (by first | exact .inl rfl | exact .inr rfl) ?_ | (refine callK_i (by assumption) ?_ ?_ ?_; (solve | (repeat (first | exact DLe.refl _ | exact DLe.nil _ | (refine DLe.tup ?_) | (refine DLe.agg ?_ rfl) | exact trivial | (refine And.intro ?_ ?_)))); (solve | exact .inl rfl | exact .inr rfl))) | fail | omega | exact decide_eq_true (by omega) | exact DLe.refl _)
      exact hC _ _ hI2.out (weak_forget _ (by simp) (by (try simp only [encT]); rfl) (by (repeat' (first | exact trivial | (refine ⟨rfl, ?_⟩)))) (by first | rfl | simp only [belowH, belowE, belowC, belowL, belowR, belowP, belowL_d, belowR_d, List.length_cons, List.length_nil, Nat.reduceAdd, Nat.reduceLT, decide_true, Bool.and_self, Bool.and_true]) (by first | rfl | simp only [belowH, belowE, belowC, belowL, belowR, belowP, belowL_d, belowR_d, List.length_cons, List.length_nil, Nat.reduceAdd, Nat.reduceLT, decide_true, Bool.and_self, Bool.and_true]))
  · intro hI C
    have hb : R = true := by
      rw [hR.out]
      exact peace_good fun i v w hv hw => hI i v w (List.getElem?_eq_some_iff.1 hv).1 hv hw
    rw [hb]
    replace hb := Lib.hid hb
    replace hI := Lib.hid hI
    repeat' (first | (with_reducible refine And.intro ?_ ?_) | (with_reducible refine gK_i (fun _ => ?_) (fun _ => ?_)) | (with_reducible refine condS_i (fun _ => ?_) (fun _ => ?_)) | (with_reducible refine drw_i (by kernel_rfl)) | simp -dsimp only [go_sem, seval, *, encT, Int.lt_irrefl, undef] | ((with_reducible refine opK_c ?_); simp -dsimp only [go_sem, seval, encT, Int.lt_irrefl, undef]; first | refine callK_r (by first | assumption | fail) (by first | exact .inl rfl | exact .inr rfl) ?_ | (refine callK_i (by assumption) ?_ ?_ ?_; (solve | (repeat (first | exact DLe.refl _ | exact DLe.nil _ | (refine DLe.tup ?_) | (refine DLe.agg ?_ rfl) | exact trivial | (refine And.intro ?_ ?_)))); (solve | exact .inl rfl | exact .inr rfl))) | fail | omega | exact decide_eq_true (by omega) | exact DLe.refl _)
    all_goals exact DLe.refl _
end Go.Proofs.Ytinnohljknmolaa
namespace Go.Proofs.Ytinnohljknmolaa
open Go Go.RowKit
def lnkB (n : Net) (l : Lnk) : Bool := (findN n l.a).isSome && ((findN n l.b).isSome && decide (l.a < l.b))
def risK : List Lnk → Bool
  | l :: m :: ls => decide (ordK l m < 0) && risK (m :: ls)
  | _ => true
theorem risK_at : ∀ (l : List Lnk), risK l = true ↔ ∀ j (h : j + 1 < l.length), ordK l[j] l[j + 1] < 0
  | [] => by simp [risK]
  | [a] => by simp [risK]
  | a :: b :: l => by
    have ih := risK_at (b :: l)
    simp only [risK, Bool.and_eq_true, decide_eq_true_eq, ih]
    constructor
    · rintro ⟨h1, h2⟩ j hj
      cases j with
      | zero => exact h1
      | succ j => exact h2 j (by simpa using hj)
    · intro h
      exact ⟨h 0 (by simp), fun j hj => h (j + 1) (by simpa using hj)⟩
def vpcsB (n : Net) : Bool := n.vpcs.all (fun v => chkV v == 0) && risB (·.id) n.vpcs
def chkT (n : Net) : Int := if n.vpcs.length > 6 ∨ n.links.length > 12 then 2 else if vpcsB n && (n.links.all (lnkB n) && (risK n.links && peaceN n)) then 0 else 1
theorem find_ids {n : Net} {x : Int} (h : (findN n x).isSome = true) : x ∈ n.vpcs.map (·.id) := by
  obtain ⟨v, hv⟩ := Option.isSome_iff_exists.1 h
  unfold findN at hv
  have h1 := List.mem_of_find?_eq_some hv
  have h2 := List.find?_some hv
  exact List.mem_map.2 ⟨v, h1, by simpa using h2⟩
theorem chkT_one {n : Net} (h0 : ¬ (n.vpcs.length > 6 ∨ n.links.length > 12)) (h : vpcsB n = false ∨ n.links.all (lnkB n) = false ∨ risK n.links = false ∨ peaceN n = false) : chkT n = 1 := by
  unfold chkT
  rw [if_neg h0]
  rcases h with h | h | h | h <;> simp [h]
theorem chkT_zero {n : Net} (h0 : ¬ (n.vpcs.length > 6 ∨ n.links.length > 12)) (h1 : vpcsB n = true) (h2 : n.links.all (lnkB n) = true) (h3 : risK n.links = true) (h4 : peaceN n = true) : chkT n = 0 := by
  unfold chkT
  rw [if_neg h0, h1, h2, h3, h4]; rfl
end Go.Proofs.Ytinnohljknmolaa
namespace Go.Proofs.Ytinnohljknmolaa
open Go Go.RowKit
def lastV (l : List Vpc) : Int := (l.getLast?.map (·.id)).getD 0
theorem lastV_snoc (l : List Vpc) (v : Vpc) : lastV (l ++ [v]) = v.id := by simp [lastV]
theorem lastV_pair {l : List Vpc} (hs : l.Pairwise fun a b => a.id < b.id) {v : Vpc} (h : lastV l < v.id) : (l ++ [v]).Pairwise fun a b => a.id < b.id := by
  rw [List.pairwise_append]
  refine ⟨hs, by simp, fun a ha b hb => ?_⟩
  rw [List.mem_singleton.1 hb]
  rcases List.eq_nil_or_concat l with rfl | ⟨l', x, rfl⟩
  · cases ha
  · rw [List.concat_eq_append] at *
    rw [lastV_snoc] at h
    rw [List.pairwise_append] at hs
    rcases List.mem_append.1 ha with ha | ha
    · have := hs.2.2 a ha x (by simp); omega
    · rw [List.mem_singleton.1 ha]; exact h
theorem lastV_bad {l : List Vpc} {v : Vpc} (hv : 1 ≤ v.id) (h : v.id ≤ lastV l) : ¬ (l ++ [v]).Pairwise fun a b => a.id < b.id := by
  intro hp
  rw [List.pairwise_append] at hp
  rcases List.eq_nil_or_concat l with rfl | ⟨l', x, rfl⟩
  · simp [lastV] at h; omega
  · rw [List.concat_eq_append] at *
    rw [lastV_snoc] at h
    have := hp.2.2 x (by simp) v (by simp); omega
theorem vpcsB_take {n : Net} (h : vpcsB n = true) (k : Nat) : (∀ v ∈ n.vpcs.take k, chkV v = 0) ∧ (n.vpcs.take k).Pairwise fun a b => a.id < b.id := by
  unfold vpcsB at h
  simp only [Bool.and_eq_true, List.all_eq_true, risB_pair, beq_iff_eq] at h
  exact ⟨fun v hv => h.1 v (List.mem_of_mem_take hv), h.2.sublist (List.take_sublist _ _)⟩
theorem vpcsB_of {n : Net} (h1 : ∀ v ∈ n.vpcs, chkV v = 0) (h2 : n.vpcs.Pairwise fun a b => a.id < b.id) : vpcsB n = true := by
  unfold vpcsB
  simp only [Bool.and_eq_true, List.all_eq_true, risB_pair, beq_iff_eq]
  exact ⟨h1, h2⟩
theorem risK_snoc : ∀ (l : List Lnk) (x : Lnk), risK (l ++ [x]) = (risK l && (match l.getLast? with | some y => decide (ordK y x < 0) | none => true))
  | [], x => rfl
  | [a], x => by simp [risK]
  | a :: b :: l, x => by
    have ih := risK_snoc (b :: l) x
    have e : (a :: b :: l).getLast? = (b :: l).getLast? := by simp [List.getLast?_cons_cons]
    rw [List.cons_append, List.cons_append, risK, ← List.cons_append, ih, e, risK, Bool.and_assoc]
theorem risK_take {l : List Lnk} (h : risK l = true) (k : Nat) : risK (l.take k) = true := by
  rw [risK_at] at h ⊢
  intro j hj
  rw [List.getElem_take, List.getElem_take]
  exact h j (by rw [List.length_take] at hj; omega)
theorem last_take {α : Type} {l : List α} {j : Nat} {y : α} (h : l[j]? = some y) : (l.take (j + 1)).getLast? = some y := by rw [take_snoc h]; simp
set_option maxRecDepth 100000 in
set_option maxHeartbeats 2000000 in
theorem ncheck_p (n : Net) : PSpec Try.prog 31 [.agg (encT n)] (.v (.int .i64 (chkT n))) := by
  obtain ⟨R, hR⟩ : ∃ R, R = chkT n := ⟨_, rfl⟩
  rw [← hR]
  replace hR := Lib.hid hR
  by_cases h6 : n.vpcs.length > 6
  · have h6I : decide ((n.vpcs.length : Int) > 6) = true := by simp; omega
    have hr : R = 2 := by rw [hR.out, chkT, if_pos (.inl h6)]
    rw [hr]
    replace hr := Lib.hid hr
    refine ps_i tab_ok mixed Try.func31 rfl Try.ntmps31 Try.results31 (by kernel_rfl) ?_
    repeat' (first | (with_reducible refine And.intro ?_ ?_) | (with_reducible refine gK_i (fun _ => ?_) (fun _ => ?_)) | (with_reducible refine condS_i (fun _ => ?_) (fun _ => ?_)) | (with_reducible refine drw_i (by kernel_rfl)) | simp -dsimp only [go_sem, seval, *, encT, h6I, undef] | ((with_reducible refine opK_c ?_); simp -dsimp only [go_sem, seval, encT, h6I, undef]; first | refine callK_r (by first | assumption | fail) (by first | exact .inl rfl | exact .inr rfl) ?_ | (refine callK_i (by assumption) ?_ ?_ ?_; (solve | (repeat (first | exact DLe.refl _ | exact DLe.nil _ | (refine DLe.tup ?_) | (refine DLe.agg ?_ rfl) | exact trivial | (refine And.intro ?_ ?_)))); (solve | exact .inl rfl | exact .inr rfl))) | fail | omega | exact decide_eq_true (by omega) | exact DLe.refl _)
    all_goals exact DLe.refl _
  by_cases h12 : n.links.length > 12
  · have h6I : decide ((n.vpcs.length : Int) > 6) = false := by simp; omega
    have h12I : decide ((n.links.length : Int) > 12) = true := by simp; omega
    have hr : R = 2 := by rw [hR.out, chkT, if_pos (.inr h12)]
    rw [hr]
    replace hr := Lib.hid hr
    refine ps_i tab_ok mixed Try.func31 rfl Try.ntmps31 Try.results31 (by kernel_rfl) ?_
    repeat' (first | (with_reducible refine And.intro ?_ ?_) | (with_reducible refine gK_i (fun _ => ?_) (fun _ => ?_)) | (with_reducible refine condS_i (fun _ => ?_) (fun _ => ?_)) | (with_reducible refine drw_i (by kernel_rfl)) | simp -dsimp only [go_sem, seval, *, encT, h6I, h12I, undef] | ((with_reducible refine opK_c ?_); simp -dsimp only [go_sem, seval, encT, h6I, h12I, undef]; first | refine callK_r (by first | assumption | fail) (by first | exact .inl rfl | exact .inr rfl) ?_ | (refine callK_i (by assumption) ?_ ?_ ?_; (solve | (repeat (first | exact DLe.refl _ | exact DLe.nil _ | (refine DLe.tup ?_) | (refine DLe.agg ?_ rfl) | exact trivial | (refine And.intro ?_ ?_)))); (solve | exact .inl rfl | exact .inr rfl))) | fail | omega | exact decide_eq_true (by omega) | exact DLe.refl _)
    all_goals exact DLe.refl _
  have h6I : decide ((n.vpcs.length : Int) > 6) = false := by simp; omega
  have h12I : decide ((n.links.length : Int) > 12) = false := by simp; omega
  have hno : ¬ (n.vpcs.length > 6 ∨ n.links.length > 12) := by omega
  refine ps_i tab_ok mixed Try.func31 rfl Try.ntmps31 Try.results31 (by kernel_rfl) ?_
  repeat' (first | (with_reducible refine And.intro ?_ ?_) | (with_reducible refine gK_i (fun _ => ?_) (fun _ => ?_)) | (with_reducible refine condS_i (fun _ => ?_) (fun _ => ?_)) | (with_reducible refine drw_i (by kernel_rfl)) | simp -dsimp only [go_sem, seval, *, encT, h6I, h12I, undef] | ((with_reducible refine opK_c ?_); simp -dsimp only [go_sem, seval, encT, h6I, h12I, undef]; first | refine callK_r (by first | assumption | fail) (by first | exact .inl rfl | exact .inr rfl) ?_ | (refine callK_i (by assumption) ?_ ?_ ?_; (solve | (repeat (first | exact DLe.refl _ | exact DLe.nil _ | (refine DLe.tup ?_) | (refine DLe.agg ?_ rfl) | exact trivial | (refine And.intro ?_ ?_)))); (solve | exact .inl rfl | exact .inr rfl))) | fail | omega | exact decide_eq_true (by omega) | exact DLe.refl _)
  refine loopL tab_ok mixed n.vpcs (fun k => (∀ v ∈ n.vpcs.take k, chkV v = 0) ∧ (n.vpcs.take k).Pairwise fun a b => a.id < b.id) (fun k => [(25, .d (.v (.int .i64 k))), (24, .d (.v (.int .i64 n.vpcs.length))), (23, .d (.sl 3 (n.vpcs.map encV))), (3, .d (.v (.int .i64 (lastV (n.vpcs.take k))))), (2, .d (.v (.int .i64 0))), (1, .ptr 0 0)]) (fun _ => [.box 25 ((encT n).map .d)]) (by simp) (weak_forget _ (by simp) (by (try simp only [encT]); rfl) (by (repeat' (first | exact trivial | (refine ⟨rfl, ?_⟩)))) (by first | rfl | simp only [belowH, belowE, belowC, belowL, belowR, belowP, belowL_d, belowR_d, List.length_cons, List.length_nil, Nat.reduceAdd, Nat.reduceLT, decide_true, Bool.and_self, Bool.and_true]) (by first | rfl | simp only [belowH, belowE, belowC, belowL, belowR, belowP, belowL_d, belowR_d, List.length_cons, List.length_nil, Nat.reduceAdd, Nat.reduceLT, decide_true, Bool.and_self, Bool.and_true])) ?_ ?_
  · intro k v hv hk hI C hC
    have hkI : (k : Int) < (n.vpcs.length : Int) := by omega
    have hwr : IntKind.i64.wrap ((k : Int) + 1) = ((k + 1 : Nat) : Int) := by rw [IntKind.wrap_i64]; omega
    have htk := take_snoc hv
    have hls : lastV (n.vpcs.take (k + 1)) = v.id := by rw [htk, lastV_snoc]
    have hcv := vcheck_p v
    obtain ⟨LA, hLA⟩ : ∃ x, x = lastV (n.vpcs.take k) := ⟨_, rfl⟩
    rw [← hLA]
    by_cases hc : chkV v = 0
    · have hid : 1 ≤ v.id := by have := (vpcOK_of hc).id; simp [idOK] at this; exact this.1
      rw [hc] at hcv
      by_cases hle : v.id ≤ LA
      · have hr : R = 1 := by
          rw [hR.out]
          refine chkT_one hno (.inl ?_)
          cases hb : vpcsB n with
          | false => rfl
          | true =>
            have := (vpcsB_take hb (k + 1)).2
            rw [htk] at this
            exact absurd this (lastV_bad hid (by rw [← hLA]; exact hle))
        rw [hr]
        clear hr hI hid hC hLA hls htk
        replace hc := Lib.hid hc
        repeat' (first | (with_reducible refine And.intro ?_ ?_) | (with_reducible refine gK_i (fun _ => ?_) (fun _ => ?_)) | (with_reducible refine condS_i (fun _ => ?_) (fun _ => ?_)) | (with_reducible refine drw_i (by kernel_rfl)) | simp -dsimp only [go_sem, seval, *, encT, encV, hkI, hv, hle, undef] | ((with_reducible refine opK_c ?_); simp -dsimp only [go_sem, seval, encT, encV, hkI, hv, hle, undef]; first | refine callK_r (by first | assumption | exact hcv) (by first | exact .inl rfl | exact .inr rfl) ?_ | (refine callK_i (by assumption) ?_ ?_ ?_; (solve | (repeat (first | exact DLe.refl _ | exact DLe.nil _ | (refine DLe.tup ?_) | (refine DLe.agg ?_ rfl) | exact trivial | (refine And.intro ?_ ?_)))); (solve | exact .inl rfl | exact .inr rfl))) | fail | omega | exact decide_eq_true (by omega) | exact DLe.refl _)
        all_goals exact DLe.refl _
      · have hI2 : (∀ v ∈ n.vpcs.take (k + 1), chkV v = 0) ∧ (n.vpcs.take (k + 1)).Pairwise fun a b => a.id < b.id := by
          rw [htk]
          exact ⟨fun u hu => by
            rcases List.mem_append.1 hu with hu | hu
            · exact hI.1 u hu
            · rw [List.mem_singleton.1 hu]; exact hc, lastV_pair hI.2 (by rw [← hLA]; omega)⟩
        have hlb : decide (v.id ≤ LA) = false := by simpa using hle
        clear hI hid htk
        replace hc := Lib.hid hc
        replace hle := Lib.hid hle
        replace hI2 := Lib.hid hI2
        replace hls := Lib.hid hls
        replace hLA := Lib.hid hLA
        repeat' (first | (with_reducible refine And.intro ?_ ?_) | (with_reducible refine gK_i (fun _ => ?_) (fun _ => ?_)) | (with_reducible refine condS_i (fun _ => ?_) (fun _ => ?_)) | (with_reducible refine drw_i (by kernel_rfl)) | simp -dsimp only [go_sem, seval, *, encT, encV, hkI, hwr, hv, hlb, undef] | ((with_reducible refine opK_c ?_); simp -dsimp only [go_sem, seval, encT, encV, hkI, hwr, hv, hlb, undef]; first | refine callK_r (by first | assumption | exact hcv) (by first | exact .inl rfl | exact .inr rfl) ?_ | (refine callK_i (by assumption) ?_ ?_ ?_; (solve | (repeat (first | exact DLe.refl _ | exact DLe.nil _ | (refine DLe.tup ?_) | (refine DLe.agg ?_ rfl) | exact trivial | (refine And.intro ?_ ?_)))); (solve | exact .inl rfl | exact .inr rfl))) | fail | omega | exact decide_eq_true (by omega) | exact DLe.refl _)
        refine hC _ _ hI2.out ?_
        simp only [hls.out]
        exact weak_forget _ (by simp) (by (try simp only [encT]); rfl) (by (repeat' (first | exact trivial | (refine ⟨rfl, ?_⟩)))) (by first | rfl | simp only [belowH, belowE, belowC, belowL, belowR, belowP, belowL_d, belowR_d, List.length_cons, List.length_nil, Nat.reduceAdd, Nat.reduceLT, decide_true, Bool.and_self, Bool.and_true]) (by first | rfl | simp only [belowH, belowE, belowC, belowL, belowR, belowP, belowL_d, belowR_d, List.length_cons, List.length_nil, Nat.reduceAdd, Nat.reduceLT, decide_true, Bool.and_self, Bool.and_true])
    · have hr : R = 1 := by
        rw [hR.out]
        refine chkT_one hno (.inl ?_)
        cases hb : vpcsB n with
        | false => rfl
        | true => exact absurd ((vpcsB_take hb (k + 1)).1 v (by rw [htk]; simp)) hc
      have hcb : (chkV v != 0) = true := by simpa using hc
      rw [hr]
      clear hr hI hC hLA hls htk
      replace hc := Lib.hid hc
      repeat' (first | (with_reducible refine And.intro ?_ ?_) | (with_reducible refine gK_i (fun _ => ?_) (fun _ => ?_)) | (with_reducible refine condS_i (fun _ => ?_) (fun _ => ?_)) | (with_reducible refine drw_i (by kernel_rfl)) | simp -dsimp only [go_sem, seval, *, encT, encV, hkI, hv, hcb, undef] | ((with_reducible refine opK_c ?_); simp -dsimp only [go_sem, seval, encT, encV, hkI, hv, hcb, undef]; first | refine callK_r (by first | assumption | exact hcv) (by first | exact .inl rfl | exact .inr rfl) ?_ | (refine callK_i (by assumption) ?_ ?_ ?_; (solve | (repeat (first | exact DLe.refl _ | exact DLe.nil _ | (refine DLe.tup ?_) | (refine DLe.agg ?_ rfl) | exact trivial | (refine And.intro ?_ ?_)))); (solve | exact .inl rfl | exact .inr rfl))) | fail | omega | exact decide_eq_true (by omega) | exact DLe.refl _)
      all_goals exact DLe.refl _
  · intro hI C
    rw [List.take_length] at hI ⊢
    have hvB := vpcsB_of hI.1 hI.2
    have hso := hI.2
    generalize lastV n.vpcs = LA
    replace hI := Lib.hid hI
    replace hso := Lib.hid hso
    replace hvB := Lib.hid hvB
    repeat' (first | (with_reducible refine And.intro ?_ ?_) | (with_reducible refine gK_i (fun _ => ?_) (fun _ => ?_)) | (with_reducible refine condS_i (fun _ => ?_) (fun _ => ?_)) | (with_reducible refine drw_i (by kernel_rfl)) | simp -dsimp only [go_sem, seval, *, encT, Int.lt_irrefl, undef] | ((with_reducible refine opK_c ?_); simp -dsimp only [go_sem, seval, encT, Int.lt_irrefl, undef]; first | refine callK_r (by first | assumption | fail) (by first | exact .inl rfl | exact .inr rfl) ?_ | (refine callK_i (by assumption) ?_ ?_ ?_; (solve | (repeat (first | exact DLe.refl _ | exact DLe.nil _ | (refine DLe.tup ?_) | (refine DLe.agg ?_ rfl) | exact trivial | (refine And.intro ?_ ?_)))); (solve | exact .inl rfl | exact .inr rfl))) | fail | omega | exact decide_eq_true (by omega) | exact DLe.refl _)
    refine loopL tab_ok mixed n.links (fun k => (∀ l ∈ n.links.take k, lnkB n l = true) ∧ risK (n.links.take k) = true) (fun k => [(44, .d (.v (.int .i64 k))), (43, .d (.v (.int .i64 n.links.length))), (42, .d (.sl 2 (n.links.map encK))), (2, .d (.v (.int .i64 0))), (1, .ptr 0 0)]) (fun _ => [.box 25 ((encT n).map .d)]) (by simp [risK]) (weak_forget _ (by simp) (by (try simp only [encT]); rfl) (by (repeat' (first | exact trivial | (refine ⟨rfl, ?_⟩)))) (by first | rfl | simp only [belowH, belowE, belowC, belowL, belowR, belowP, belowL_d, belowR_d, List.length_cons, List.length_nil, Nat.reduceAdd, Nat.reduceLT, decide_true, Bool.and_self, Bool.and_true]) (by first | rfl | simp only [belowH, belowE, belowC, belowL, belowR, belowP, belowL_d, belowR_d, List.length_cons, List.length_nil, Nat.reduceAdd, Nat.reduceLT, decide_true, Bool.and_self, Bool.and_true])) ?_ ?_
    · intro k l hl hk hJ C hC
      have hkI : (k : Int) < (n.links.length : Int) := by omega
      have hwr : IntKind.i64.wrap ((k : Int) + 1) = ((k + 1 : Nat) : Int) := by rw [IntKind.wrap_i64]; omega
      have htk := take_snoc hl
      have hfa := nfindB_m n l.a (by omega) hso.out
      have hfb := nfindB_m n l.b (by omega) hso.out
      have hbad : lnkB n l = false → R = 1 := fun h => by
        rw [hR.out]
        refine chkT_one hno (.inr (.inl ?_))
        rw [List.all_eq_false]
        exact ⟨l, List.mem_of_getElem? hl, by simp [h]⟩
      have hlb : lnkB n l = ((findN n l.a).isSome && ((findN n l.b).isSome && decide (l.a < l.b))) := rfl
      have hgood : lnkB n l = true → risK (n.links.take (k + 1)) = true → (∀ l ∈ n.links.take (k + 1), lnkB n l = true) ∧ risK (n.links.take (k + 1)) = true := fun h g => by
        refine ⟨?_, g⟩
        rw [htk]
        intro u hu
        rcases List.mem_append.1 hu with hu | hu
        · exact hJ.1 u hu
        · rw [List.mem_singleton.1 hu]; exact h
      have hbad2 : risK (n.links.take (k + 1)) = false → R = 1 := fun h => by
        rw [hR.out]
        refine chkT_one hno (.inr (.inr (.inl ?_)))
        cases hb : risK n.links with
        | false => rfl
        | true => rw [risK_take hb] at h; cases h
      have hrk := risK_snoc (n.links.take k) l
      rw [← htk, hJ.2, Bool.true_and] at hrk
      clear htk
      replace hJ := Lib.hid hJ
      replace hbad := Lib.hid hbad
      replace hbad2 := Lib.hid hbad2
      replace hgood := Lib.hid hgood
      cases ea : findN n l.a with
      | none =>
        rw [ea] at hfa hlb
        have hr : R = 1 := hbad.out (by rw [hlb]; rfl)
        rw [hr]
        clear hr hlb hrk
        replace ea := Lib.hid ea
        cases eb : findN n l.b with
        | none =>
          rw [eb] at hfb
          replace eb := Lib.hid eb
          repeat' (first | (with_reducible refine And.intro ?_ ?_) | (with_reducible refine gK_i (fun _ => ?_) (fun _ => ?_)) | (with_reducible refine condS_i (fun _ => ?_) (fun _ => ?_)) | (with_reducible refine drw_i (by kernel_rfl)) | simp -dsimp only [go_sem, seval, *, encT, encK, findNP, findND, hkI, hl, undef] | ((with_reducible refine opK_c ?_); simp -dsimp only [go_sem, seval, encT, encK, findNP, findND, hkI, hl, undef]; first | refine callK_r (by first | assumption | fail) (by first | exact .inl rfl | exact .inr rfl) ?_ | (refine callK_i (by assumption) ?_ ?_ ?_; (solve | (repeat (first | exact DLe.refl _ | exact DLe.nil _ | (refine DLe.tup ?_) | (refine DLe.agg ?_ rfl) | exact trivial | (refine And.intro ?_ ?_)))); (solve | exact .inl rfl | exact .inr rfl))) | (refine opK_M [0] (hfa) ?_ ?_ ?_ ?_ ?_ ?_; (solve | rfl | simp only [go_sem, seval, encT, findNP, findND]); (solve | rfl); (solve | decide); (solve | simp); (solve | simp only [go_sem, seval, lentOK, encT, findNP, findND])) | (refine opK_M [0] (hfb) ?_ ?_ ?_ ?_ ?_ ?_; (solve | rfl | simp only [go_sem, seval, encT, findNP, findND]); (solve | rfl); (solve | decide); (solve | simp); (solve | simp only [go_sem, seval, lentOK, encT, findNP, findND])) | omega | exact decide_eq_true (by omega) | exact DLe.refl _)
          all_goals exact DLe.refl _
        | some w =>
          rw [eb] at hfb
          replace eb := Lib.hid eb
          repeat' (first | (with_reducible refine And.intro ?_ ?_) | (with_reducible refine gK_i (fun _ => ?_) (fun _ => ?_)) | (with_reducible refine condS_i (fun _ => ?_) (fun _ => ?_)) | (with_reducible refine drw_i (by kernel_rfl)) | simp -dsimp only [go_sem, seval, *, encT, encK, findNP, findND, hkI, hl, undef] | ((with_reducible refine opK_c ?_); simp -dsimp only [go_sem, seval, encT, encK, findNP, findND, hkI, hl, undef]; first | refine callK_r (by first | assumption | fail) (by first | exact .inl rfl | exact .inr rfl) ?_ | (refine callK_i (by assumption) ?_ ?_ ?_; (solve | (repeat (first | exact DLe.refl _ | exact DLe.nil _ | (refine DLe.tup ?_) | (refine DLe.agg ?_ rfl) | exact trivial | (refine And.intro ?_ ?_)))); (solve | exact .inl rfl | exact .inr rfl))) | (refine opK_M [0] (hfa) ?_ ?_ ?_ ?_ ?_ ?_; (solve | rfl | simp only [go_sem, seval, encT, findNP, findND]); (solve | rfl); (solve | decide); (solve | simp); (solve | simp only [go_sem, seval, lentOK, encT, findNP, findND])) | (refine opK_M [0] (hfb) ?_ ?_ ?_ ?_ ?_ ?_; (solve | rfl | simp only [go_sem, seval, encT, findNP, findND]); (solve | rfl); (solve | decide); (solve | simp); (solve | simp only [go_sem, seval, lentOK, encT, findNP, findND])) | omega | exact decide_eq_true (by omega) | exact DLe.refl _)
          all_goals exact DLe.refl _
      | some v =>
        rw [ea] at hfa hlb
        replace ea := Lib.hid ea
        cases eb : findN n l.b with
        | none =>
          rw [eb] at hfb hlb
          have hr : R = 1 := hbad.out (by rw [hlb]; rfl)
          rw [hr]
          clear hr hlb hrk
          replace eb := Lib.hid eb
          repeat' (first | (with_reducible refine And.intro ?_ ?_) | (with_reducible refine gK_i (fun _ => ?_) (fun _ => ?_)) | (with_reducible refine condS_i (fun _ => ?_) (fun _ => ?_)) | (with_reducible refine drw_i (by kernel_rfl)) | simp -dsimp only [go_sem, seval, *, encT, encK, findNP, findND, hkI, hl, undef] | ((with_reducible refine opK_c ?_); simp -dsimp only [go_sem, seval, encT, encK, findNP, findND, hkI, hl, undef]; first | refine callK_r (by first | assumption | fail) (by first | exact .inl rfl | exact .inr rfl) ?_ | (refine callK_i (by assumption) ?_ ?_ ?_; (solve | (repeat (first | exact DLe.refl _ | exact DLe.nil _ | (refine DLe.tup ?_) | (refine DLe.agg ?_ rfl) | exact trivial | (refine And.intro ?_ ?_)))); (solve | exact .inl rfl | exact .inr rfl))) | (refine opK_M [0] (hfa) ?_ ?_ ?_ ?_ ?_ ?_; (solve | rfl | simp only [go_sem, seval, encT, findNP, findND]); (solve | rfl); (solve | decide); (solve | simp); (solve | simp only [go_sem, seval, lentOK, encT, findNP, findND])) | (refine opK_M [0] (hfb) ?_ ?_ ?_ ?_ ?_ ?_; (solve | rfl | simp only [go_sem, seval, encT, findNP, findND]); (solve | rfl); (solve | decide); (solve | simp); (solve | simp only [go_sem, seval, lentOK, encT, findNP, findND])) | omega | exact decide_eq_true (by omega) | exact DLe.refl _)
          all_goals exact DLe.refl _
        | some w =>
          rw [eb] at hfb hlb
          replace eb := Lib.hid eb
          by_cases hab : l.a < l.b
          · have hge : decide (l.a ≥ l.b) = false := by simp; omega
            have hlt : lnkB n l = true := by rw [hlb]; simp [hab]
            clear hlb
            replace hlt := Lib.hid hlt
            by_cases hk0 : k = 0
            · have hkz : decide ((k : Int) > 0) = false := by simp; omega
              have hg := hgood.out hlt.out (by rw [hrk, hk0]; rfl)
              clear hrk
              replace hg := Lib.hid hg
              replace hk0 := Lib.hid hk0
              replace hab := Lib.hid hab
              repeat' (first | (with_reducible refine And.intro ?_ ?_) | (with_reducible refine gK_i (fun _ => ?_) (fun _ => ?_)) | (with_reducible refine condS_i (fun _ => ?_) (fun _ => ?_)) | (with_reducible refine drw_i (by kernel_rfl)) | simp -dsimp only [go_sem, seval, *, encT, encK, findNP, findND, hkI, hwr, hl, hge, hkz, undef] | ((with_reducible refine opK_c ?_); simp -dsimp only [go_sem, seval, encT, encK, findNP, findND, hkI, hwr, hl, hge, hkz, undef]; first | refine callK_r (by first | assumption | fail) (by first | exact .inl rfl | exact .inr rfl) ?_ | (refine callK_i (by assumption) ?_ ?_ ?_; (solve | (repeat (first | exact DLe.refl _ | exact DLe.nil _ | (refine DLe.tup ?_) | (refine DLe.agg ?_ rfl) | exact trivial | (refine And.intro ?_ ?_)))); (solve | exact .inl rfl | exact .inr rfl))) | (refine opK_M [0] (hfa) ?_ ?_ ?_ ?_ ?_ ?_; (solve | rfl | simp only [go_sem, seval, encT, findNP, findND]); (solve | rfl); (solve | decide); (solve | simp); (solve | simp only [go_sem, seval, lentOK, encT, findNP, findND])) | (refine opK_M [0] (hfb) ?_ ?_ ?_ ?_ ?_ ?_; (solve | rfl | simp only [go_sem, seval, encT, findNP, findND]); (solve | rfl); (solve | decide); (solve | simp); (solve | simp only [go_sem, seval, lentOK, encT, findNP, findND])) | omega | exact decide_eq_true (by omega) | exact DLe.refl _)
              exact hC _ _ hg.out (weak_forget _ (by simp) (by (try simp only [encT]); rfl) (by (repeat' (first | exact trivial | (refine ⟨rfl, ?_⟩)))) (by first | rfl | simp only [belowH, belowE, belowC, belowL, belowR, belowP, belowL_d, belowR_d, List.length_cons, List.length_nil, Nat.reduceAdd, Nat.reduceLT, decide_true, Bool.and_self, Bool.and_true]) (by first | rfl | simp only [belowH, belowE, belowC, belowL, belowR, belowP, belowL_d, belowR_d, List.length_cons, List.length_nil, Nat.reduceAdd, Nat.reduceLT, decide_true, Bool.and_self, Bool.and_true]))
            · obtain ⟨j, hj⟩ : ∃ j, k = j + 1 := ⟨k - 1, by omega⟩
              obtain ⟨y, hy⟩ : ∃ y, n.links[j]? = some y := ⟨_, List.getElem?_eq_getElem (by omega)⟩
              have hkz : decide ((k : Int) > 0) = true := by simp; omega
              have hw1 : IntKind.i64.wrap ((k : Int) - 1) = (j : Int) := by rw [IntKind.wrap_i64]; omega
              have hjI : (j : Int) < (n.links.length : Int) := by omega
              have hor := order_p y l
              rw [hj, last_take hy] at hrk
              simp only at hrk
              rw [← hj] at hrk
              replace hj := Lib.hid hj
              replace hk0 := Lib.hid hk0
              replace hab := Lib.hid hab
              by_cases ho : ordK y l < 0
              · have hg := hgood.out hlt.out (by rw [hrk]; simpa using ho)
                have hob : decide (ordK y l ≥ 0) = false := by simpa using ho
                clear hrk
                replace hg := Lib.hid hg
                replace ho := Lib.hid ho
                generalize ordK y l = O at *
                repeat' (first | (with_reducible refine And.intro ?_ ?_) | (with_reducible refine gK_i (fun _ => ?_) (fun _ => ?_)) | (with_reducible refine condS_i (fun _ => ?_) (fun _ => ?_)) | (with_reducible refine drw_i (by kernel_rfl)) | simp -dsimp only [go_sem, seval, *, encT, encK, findNP, findND, hkI, hwr, hl, hge, hkz, hw1, hjI, hy, hob, undef] | ((with_reducible refine opK_c ?_); simp -dsimp only [go_sem, seval, encT, encK, findNP, findND, hkI, hwr, hl, hge, hkz, hw1, hjI, hy, hob, undef]; first | refine callK_r (by first | assumption | exact hor) (by first | exact .inl rfl | exact .inr rfl) ?_ | (refine callK_i (by assumption) ?_ ?_ ?_; (solve | (repeat (first | exact DLe.refl _ | exact DLe.nil _ | (refine DLe.tup ?_) | (refine DLe.agg ?_ rfl) | exact trivial | (refine And.intro ?_ ?_)))); (solve | exact .inl rfl | exact .inr rfl))) | (refine opK_M [0] (hfa) ?_ ?_ ?_ ?_ ?_ ?_; (solve | rfl | simp only [go_sem, seval, encT, findNP, findND]); (solve | rfl); (solve | decide); (solve | simp); (solve | simp only [go_sem, seval, lentOK, encT, findNP, findND])) | (refine opK_M [0] (hfb) ?_ ?_ ?_ ?_ ?_ ?_; (solve | rfl | simp only [go_sem, seval, encT, findNP, findND]); (solve | rfl); (solve | decide); (solve | simp); (solve | simp only [go_sem, seval, lentOK, encT, findNP, findND])) | omega | exact decide_eq_true (by omega) | exact DLe.refl _)
                exact hC _ _ hg.out (weak_forget _ (by simp) (by (try simp only [encT]); rfl) (by (repeat' (first | exact trivial | (refine ⟨rfl, ?_⟩)))) (by first | rfl | simp only [belowH, belowE, belowC, belowL, belowR, belowP, belowL_d, belowR_d, List.length_cons, List.length_nil, Nat.reduceAdd, Nat.reduceLT, decide_true, Bool.and_self, Bool.and_true]) (by first | rfl | simp only [belowH, belowE, belowC, belowL, belowR, belowP, belowL_d, belowR_d, List.length_cons, List.length_nil, Nat.reduceAdd, Nat.reduceLT, decide_true, Bool.and_self, Bool.and_true]))
              · have hr : R = 1 := hbad2.out (by rw [hrk]; simpa using ho)
                have hob : decide (ordK y l ≥ 0) = true := by simpa using ho
                rw [hr]
                clear hrk hr
                replace ho := Lib.hid ho
                generalize ordK y l = O at *
                repeat' (first | (with_reducible refine And.intro ?_ ?_) | (with_reducible refine gK_i (fun _ => ?_) (fun _ => ?_)) | (with_reducible refine condS_i (fun _ => ?_) (fun _ => ?_)) | (with_reducible refine drw_i (by kernel_rfl)) | simp -dsimp only [go_sem, seval, *, encT, encK, findNP, findND, hkI, hwr, hl, hge, hkz, hw1, hjI, hy, hob, undef] | ((with_reducible refine opK_c ?_); simp -dsimp only [go_sem, seval, encT, encK, findNP, findND, hkI, hwr, hl, hge, hkz, hw1, hjI, hy, hob, undef]; first | refine callK_r (by first | assumption | exact hor) (by first | exact .inl rfl | exact .inr rfl) ?_ | (refine callK_i (by assumption) ?_ ?_ ?_; (solve | (repeat (first | exact DLe.refl _ | exact DLe.nil _ | (refine DLe.tup ?_) | (refine DLe.agg ?_ rfl) | exact trivial | (refine And.intro ?_ ?_)))); (solve | exact .inl rfl | exact .inr rfl))) | (refine opK_M [0] (hfa) ?_ ?_ ?_ ?_ ?_ ?_; (solve | rfl | simp only [go_sem, seval, encT, findNP, findND]); (solve | rfl); (solve | decide); (solve | simp); (solve | simp only [go_sem, seval, lentOK, encT, findNP, findND])) | (refine opK_M [0] (hfb) ?_ ?_ ?_ ?_ ?_ ?_; (solve | rfl | simp only [go_sem, seval, encT, findNP, findND]); (solve | rfl); (solve | decide); (solve | simp); (solve | simp only [go_sem, seval, lentOK, encT, findNP, findND])) | omega | exact decide_eq_true (by omega) | exact DLe.refl _)
                all_goals exact DLe.refl _
          · have hge : decide (l.a ≥ l.b) = true := by simp; omega
            have hr : R = 1 := hbad.out (by rw [hlb]; simp; omega)
            rw [hr]
            clear hr hlb hrk
            replace hab := Lib.hid hab
            repeat' (first | (with_reducible refine And.intro ?_ ?_) | (with_reducible refine gK_i (fun _ => ?_) (fun _ => ?_)) | (with_reducible refine condS_i (fun _ => ?_) (fun _ => ?_)) | (with_reducible refine drw_i (by kernel_rfl)) | simp -dsimp only [go_sem, seval, *, encT, encK, findNP, findND, hkI, hl, hge, undef] | ((with_reducible refine opK_c ?_); simp -dsimp only [go_sem, seval, encT, encK, findNP, findND, hkI, hl, hge, undef]; first | refine callK_r (by first | assumption | fail) (by first | exact .inl rfl | exact .inr rfl) ?_ | (refine callK_i (by assumption) ?_ ?_ ?_; (solve | (repeat (first | exact DLe.refl _ | exact DLe.nil _ | (refine DLe.tup ?_) | (refine DLe.agg ?_ rfl) | exact trivial | (refine And.intro ?_ ?_)))); (solve | exact .inl rfl | exact .inr rfl))) | (refine opK_M [0] (hfa) ?_ ?_ ?_ ?_ ?_ ?_; (solve | rfl | simp only [go_sem, seval, encT, findNP, findND]); (solve | rfl); (solve | decide); (solve | simp); (solve | simp only [go_sem, seval, lentOK, encT, findNP, findND])) | (refine opK_M [0] (hfb) ?_ ?_ ?_ ?_ ?_ ?_; (solve | rfl | simp only [go_sem, seval, encT, findNP, findND]); (solve | rfl); (solve | decide); (solve | simp); (solve | simp only [go_sem, seval, lentOK, encT, findNP, findND])) | omega | exact decide_eq_true (by omega) | exact DLe.refl _)
            all_goals exact DLe.refl _
    · intro hJ C
      rw [List.take_length] at hJ
      have hpe := peace_p n (by omega) (by omega) (fun v hv => by have := (vpcOK_of (hI.out.1 v hv)).n4; omega) (fun l hl => by
        have := hJ.1 l hl
        unfold lnkB at this
        simp only [Bool.and_eq_true] at this
        exact ⟨find_ids this.1, find_ids this.2.1⟩)
      have hr : R = if peaceN n = true then 0 else 1 := by
        rw [hR.out]
        split
        · rename_i hp
          exact chkT_zero hno hvB.out (by rw [List.all_eq_true]; exact hJ.1) hJ.2 hp
        · rename_i hp
          exact chkT_one hno (.inr (.inr (.inr (by simpa using hp))))
      rw [hr]
      clear hr
      replace hJ := Lib.hid hJ
      cases hp : peaceN n with
      | true =>
        rw [hp] at hpe
        replace hp := Lib.hid hp
        repeat' (first | (with_reducible refine And.intro ?_ ?_) | (with_reducible refine gK_i (fun _ => ?_) (fun _ => ?_)) | (with_reducible refine condS_i (fun _ => ?_) (fun _ => ?_)) | (with_reducible refine drw_i (by kernel_rfl)) | simp -dsimp only [go_sem, seval, *, encT, Int.lt_irrefl, undef] | ((with_reducible refine opK_c ?_); simp -dsimp only [go_sem, seval, encT, Int.lt_irrefl, undef]; first | refine callK_r (by first | assumption | exact hpe) (by first | exact .inl rfl | exact .inr rfl) ?_ | (refine callK_i (by assumption) ?_ ?_ ?_; (solve | (repeat (first | exact DLe.refl _ | exact DLe.nil _ | (refine DLe.tup ?_) | (refine DLe.agg ?_ rfl) | exact trivial | (refine And.intro ?_ ?_)))); (solve | exact .inl rfl | exact .inr rfl))) | fail | omega | exact decide_eq_true (by omega) | exact DLe.refl _)
        all_goals exact DLe.refl _
      | false =>
        rw [hp] at hpe
        replace hp := Lib.hid hp
        repeat' (first | (with_reducible refine And.intro ?_ ?_) | (with_reducible refine gK_i (fun _ => ?_) (fun _ => ?_)) | (with_reducible refine condS_i (fun _ => ?_) (fun _ => ?_)) | (with_reducible refine drw_i (by kernel_rfl)) | simp -dsimp only [go_sem, seval, *, encT, Int.lt_irrefl, undef] | ((with_reducible refine opK_c ?_); simp -dsimp only [go_sem, seval, encT, Int.lt_irrefl, undef]; first | refine callK_r (by first | assumption | exact hpe) (by first | exact .inl rfl | exact .inr rfl) ?_ | (refine callK_i (by assumption) ?_ ?_ ?_; (solve | (repeat (first | exact DLe.refl _ | exact DLe.nil _ | (refine DLe.tup ?_) | (refine DLe.agg ?_ rfl) | exact trivial | (refine And.intro ?_ ?_)))); (solve | exact .inl rfl | exact .inr rfl))) | fail | omega | exact decide_eq_true (by omega) | exact DLe.refl _)
        all_goals exact DLe.refl _
end Go.Proofs.Ytinnohljknmolaa
namespace Go.Proofs.Ytinnohljknmolaa
open Go Go.RowKit
structure NetOK (n : Net) : Prop where
  n6 : n.vpcs.length ≤ 6
  n12 : n.links.length ≤ 12
  vp : ∀ v ∈ n.vpcs, chkV v = 0
  rise : n.vpcs.Pairwise fun a b => a.id < b.id
  lk : ∀ l ∈ n.links, lnkB n l = true
  rk : risK n.links = true
  pe : peaceN n = true
theorem netOK {n : Net} : chkT n = 0 ↔ NetOK n := by
  constructor
  · intro h
    unfold chkT at h
    split at h
    · cases h
    · rename_i h0
      split at h
      · rename_i h1
        simp only [Bool.and_eq_true] at h1
        have := vpcsB_take h1.1 n.vpcs.length
        rw [List.take_length] at this
        exact ⟨by omega, by omega, this.1, this.2, by simpa using h1.2.1, h1.2.2.1, h1.2.2.2⟩
      · cases h
  · rintro ⟨a, b, c, d, e, f, g⟩
    exact chkT_zero (by omega) (vpcsB_of c d) (by simpa using e) f g
theorem NetOK.ids {n : Net} (h : NetOK n) : ∀ l ∈ n.links, l.a ∈ n.vpcs.map (·.id) ∧ l.b ∈ n.vpcs.map (·.id) := fun l hl => by
  have := h.lk l hl
  unfold lnkB at this
  simp only [Bool.and_eq_true] at this
  exact ⟨find_ids this.1, find_ids this.2.1⟩
end Go.Proofs.Ytinnohljknmolaa
namespace Go.Proofs.Ytinnohljknmolaa
open Go Go.RowKit
def Net.zero : Net := ⟨[], []⟩
theorem findIdx_of {l : List Vpc} {id : Int} {o : Option Vpc} (h : l.find? (fun v => v.id == id) = o) : match o with | some v => ∃ i, l.findIdx? (fun v => v.id == id) = some i ∧ l[i]? = some v ∧ v.id = id | none => l.findIdx? (fun v => v.id == id) = none := by
  cases o with
  | none =>
    rw [List.find?_eq_none] at h
    exact List.findIdx?_eq_none_iff.2 fun v hv => by simpa using h v hv
  | some v =>
    obtain ⟨h1, i, hi, h2, h3⟩ := List.find?_eq_some_iff_getElem.1 h
    refine ⟨i, ?_, by rw [List.getElem?_eq_getElem hi, h2], by simpa using h1⟩
    rw [List.findIdx?_eq_some_iff_getElem]
    exact ⟨hi, by rw [h2]; exact h1, fun j hj => by simpa using h3 j hj⟩
/-- The place of a network. -/
def vpcIx (n : Net) (id : Int) : Option Nat := n.vpcs.findIdx? fun v => v.id == id
theorem vpcIx_some {n : Net} {id : Int} {i : Nat} (h : vpcIx n id = some i) : ∃ v, n.vpcs[i]? = some v ∧ v.id = id ∧ i < n.vpcs.length ∧ findN n id = some v := by
  cases hf : findN n id with
  | none => have := findIdx_of hf; unfold vpcIx at h; rw [h] at this; cases this
  | some v =>
    obtain ⟨j, h1, h2, h3⟩ := findIdx_of hf
    unfold vpcIx at h
    rw [h] at h1
    cases h1
    exact ⟨v, h2, h3, (List.getElem?_eq_some_iff.1 h2).1, rfl⟩
theorem vpcIx_none {n : Net} {id : Int} (h : vpcIx n id = none) : findN n id = none := by
  cases hf : findN n id with
  | none => rfl
  | some v =>
    obtain ⟨j, h1, -⟩ := findIdx_of hf
    unfold vpcIx at h
    rw [h] at h1
    cases h1
end Go.Proofs.Ytinnohljknmolaa
namespace Go.Proofs.Ytinnohljknmolaa
open Go Go.RowKit
theorem eqK_list (x y : Lnk) : ([x.a, x.b] == [y.a, y.b]) = decide (x = y) := by
  rw [Bool.eq_iff_iff]
  cases x; cases y
  simp
end Go.Proofs.Ytinnohljknmolaa
namespace Go.Proofs.Ytinnohljknmolaa
open Go Go.RowKit
theorem vpcAt_p (n : Net) (id : Int) (hl : n.vpcs.length ≤ 1000000000) : PSpec Try.prog 8 [.agg (encT n), .v (.int .i64 id)] (.v (.int .i64 (idxI (fun v => v.id == id) n.vpcs))) := by
  refine ps_i tab_ok mixed Try.func8 rfl Try.ntmps8 Try.results8 (by kernel_rfl) ?_
  repeat' (first | (with_reducible refine And.intro ?_ ?_) | (with_reducible refine gK_i (fun _ => ?_) (fun _ => ?_)) | (with_reducible refine condS_i (fun _ => ?_) (fun _ => ?_)) | (with_reducible refine drw_i (by kernel_rfl)) | simp -dsimp only [go_sem, seval, *, encT] | ((with_reducible refine opK_c ?_); simp -dsimp only [go_sem, seval, encT]; first | refine callK_r (by first | assumption | fail) (by first | exact .inl rfl | exact .inr rfl) ?_ | (refine callK_i (by assumption) ?_ ?_ ?_; (solve | (repeat (first | exact DLe.refl _ | exact DLe.nil _ | (refine DLe.tup ?_) | (refine DLe.agg ?_ rfl) | exact trivial | (refine And.intro ?_ ?_)))); (solve | exact .inl rfl | exact .inr rfl))) | fail | omega | exact decide_eq_true (by omega) | exact DLe.refl _)
  refine loopL tab_ok mixed n.vpcs (fun k => (n.vpcs.take k).all (fun v => !(v.id == id)) = true) (fun k => [(5, .d (.v (.int .i64 k))), (4, .d (.v (.int .i64 0))), (2, .ptr 0 0), (1, .d (.v (.int .i64 id)))]) (fun _ => [.box 25 ((encT n).map .d)]) rfl (weak_forget _ (by simp) (by (try simp only [encT]); rfl) (by (repeat' (first | exact trivial | (refine ⟨rfl, ?_⟩)))) (by first | rfl | simp only [belowH, belowE, belowC, belowL, belowR, belowP, belowL_d, belowR_d, List.length_cons, List.length_nil, Nat.reduceAdd, Nat.reduceLT, decide_true, Bool.and_self, Bool.and_true]) (by first | rfl | simp only [belowH, belowE, belowC, belowL, belowR, belowP, belowL_d, belowR_d, List.length_cons, List.length_nil, Nat.reduceAdd, Nat.reduceLT, decide_true, Bool.and_self, Bool.and_true])) ?_ ?_
  · intro k p hp hk hI C hC
    have hkI : (k : Int) < (n.vpcs.length : Int) := by omega
    have hwr : IntKind.i64.wrap ((k : Int) + 1) = ((k + 1 : Nat) : Int) := by rw [IntKind.wrap_i64]; omega
    replace hI := Lib.hid hI
    repeat' (first | (with_reducible refine And.intro ?_ ?_) | (with_reducible refine gK_i (fun _ => ?_) (fun _ => ?_)) | (with_reducible refine condS_i (fun _ => ?_) (fun _ => ?_)) | (with_reducible refine drw_i (by kernel_rfl)) | simp -dsimp only [go_sem, seval, *, encT, encV, hkI, hwr, hp] | ((with_reducible refine opK_c ?_); simp -dsimp only [go_sem, seval, encT, encV, hkI, hwr, hp]; first | refine callK_r (by first | assumption | fail) (by first | exact .inl rfl | exact .inr rfl) ?_ | (refine callK_i (by assumption) ?_ ?_ ?_; (solve | (repeat (first | exact DLe.refl _ | exact DLe.nil _ | (refine DLe.tup ?_) | (refine DLe.agg ?_ rfl) | exact trivial | (refine And.intro ?_ ?_)))); (solve | exact .inl rfl | exact .inr rfl))) | fail | omega | exact decide_eq_true (by omega) | exact DLe.refl _)
    · rename_i h1
      exact dle_n (idxI_hit hp (by simpa using h1) hI.out).symm
    · rename_i h1
      exact hC _ _ (no_snoc hp hI.out (by simpa using h1)) (weak_forget _ (by simp) (by (try simp only [encT]); rfl) (by (repeat' (first | exact trivial | (refine ⟨rfl, ?_⟩)))) (by first | rfl | simp only [belowH, belowE, belowC, belowL, belowR, belowP, belowL_d, belowR_d, List.length_cons, List.length_nil, Nat.reduceAdd, Nat.reduceLT, decide_true, Bool.and_self, Bool.and_true]) (by first | rfl | simp only [belowH, belowE, belowC, belowL, belowR, belowP, belowL_d, belowR_d, List.length_cons, List.length_nil, Nat.reduceAdd, Nat.reduceLT, decide_true, Bool.and_self, Bool.and_true]))
  · intro hI C
    replace hI := Lib.hid hI
    repeat' (first | (with_reducible refine And.intro ?_ ?_) | (with_reducible refine gK_i (fun _ => ?_) (fun _ => ?_)) | (with_reducible refine condS_i (fun _ => ?_) (fun _ => ?_)) | (with_reducible refine drw_i (by kernel_rfl)) | simp -dsimp only [go_sem, seval, *, encT, Int.lt_irrefl] | ((with_reducible refine opK_c ?_); simp -dsimp only [go_sem, seval, encT, Int.lt_irrefl]; first | refine callK_r (by first | assumption | fail) (by first | exact .inl rfl | exact .inr rfl) ?_ | (refine callK_i (by assumption) ?_ ?_ ?_; (solve | (repeat (first | exact DLe.refl _ | exact DLe.nil _ | (refine DLe.tup ?_) | (refine DLe.agg ?_ rfl) | exact trivial | (refine And.intro ?_ ?_)))); (solve | exact .inl rfl | exact .inr rfl))) | fail | omega | exact decide_eq_true (by omega) | exact DLe.refl _)
    exact dle_n (idxI_no hI.out).symm
theorem vpcAt_ix (n : Net) (id : Int) : idxI (fun v => v.id == id) n.vpcs = match vpcIx n id with | some i => (i : Int) | none => -1 := rfl
/-- Does a link join two networks? -/
def linkedN (n : Net) (a b : Int) : Bool := n.links.any fun y => decide (y = lnk a b)
theorem linkedR_p (n : Net) (a b : Int) (hl : n.links.length ≤ 1000000000) : PSpec Try.prog 22 [.agg (encT n), .v (.int .i64 a), .v (.int .i64 b)] (.v (.bool (linkedN n a b))) := by
  obtain ⟨R, hR⟩ : ∃ R, R = linkedN n a b := ⟨_, rfl⟩
  rw [← hR]
  replace hR := Lib.hid hR
  refine ps_i tab_ok mixed Try.func22 rfl Try.ntmps22 Try.results22 (by kernel_rfl) ?_
  repeat' (first | (with_reducible refine And.intro ?_ ?_) | (with_reducible refine gK_i (fun _ => ?_) (fun _ => ?_)) | (with_reducible refine condS_i (fun _ => ?_) (fun _ => ?_)) | (with_reducible refine drw_i (by kernel_rfl)) | simp -dsimp only [go_sem, seval, *, encT] | ((with_reducible refine opK_c ?_); simp -dsimp only [go_sem, seval, encT]; first | refine callK_r (by first | assumption | fail) (by first | exact .inl rfl | exact .inr rfl) ?_ | (refine callK_i (by assumption) ?_ ?_ ?_; (solve | (repeat (first | exact DLe.refl _ | exact DLe.nil _ | (refine DLe.tup ?_) | (refine DLe.agg ?_ rfl) | exact trivial | (refine And.intro ?_ ?_)))); (solve | exact .inl rfl | exact .inr rfl))) | fail | omega | exact decide_eq_true (by omega) | exact DLe.refl _)
  refine loopL tab_ok mixed n.links (fun k => (n.links.take k).all (fun y => !decide (y = lnk a b)) = true) (fun k => [(7, .d (.v (.int .i64 k))), (6, .d (.v (.bool false))), (3, .ptr 0 0), (2, .d (.v (.int .i64 b))), (1, .d (.v (.int .i64 a)))]) (fun _ => [.box 25 ((encT n).map .d)]) rfl (weak_forget _ (by simp) (by (try simp only [encT]); rfl) (by (repeat' (first | exact trivial | (refine ⟨rfl, ?_⟩)))) (by first | rfl | simp only [belowH, belowE, belowC, belowL, belowR, belowP, belowL_d, belowR_d, List.length_cons, List.length_nil, Nat.reduceAdd, Nat.reduceLT, decide_true, Bool.and_self, Bool.and_true]) (by first | rfl | simp only [belowH, belowE, belowC, belowL, belowR, belowP, belowL_d, belowR_d, List.length_cons, List.length_nil, Nat.reduceAdd, Nat.reduceLT, decide_true, Bool.and_self, Bool.and_true])) ?_ ?_
  · intro k p hp hk hI C hC
    have hkI : (k : Int) < (n.links.length : Int) := by omega
    have hwr : IntKind.i64.wrap ((k : Int) + 1) = ((k + 1 : Nat) : Int) := by rw [IntKind.wrap_i64]; omega
    have he : ([p.a, p.b] == [if b < a then b else a, if a < b then b else a]) = decide (p = lnk a b) := eqK_list p (lnk a b)
    have hyes : decide (p = lnk a b) = true → R = true := fun h => by rw [hR.out]; exact List.any_eq_true.2 ⟨p, List.mem_of_getElem? hp, h⟩
    have hno : decide (p = lnk a b) = false → (n.links.take (k + 1)).all (fun y => !decide (y = lnk a b)) = true := fun h => no_snoc hp hI (by simpa using h)
    generalize decide (p = lnk a b) = t at *
    replace hI := Lib.hid hI
    replace hyes := Lib.hid hyes
    replace hno := Lib.hid hno
    cases t with
    | true =>
      have hr := hyes.out rfl
      rw [hr]
      replace hr := Lib.hid hr
      repeat' (first | (with_reducible refine And.intro ?_ ?_) | (with_reducible refine gK_i (fun _ => ?_) (fun _ => ?_)) | (with_reducible refine condS_i (fun _ => ?_) (fun _ => ?_)) | (with_reducible refine drw_i (by kernel_rfl)) | simp -dsimp only [go_sem, seval, *, encT, encK, hkI, hwr, hp, he] | ((with_reducible refine opK_c ?_); simp -dsimp only [go_sem, seval, encT, encK, hkI, hwr, hp, he]; first | refine callK_r (by first | assumption | fail) (by first | exact .inl rfl | exact .inr rfl) ?_ | (refine callK_i (by assumption) ?_ ?_ ?_; (solve | (repeat (first | exact DLe.refl _ | exact DLe.nil _ | (refine DLe.tup ?_) | (refine DLe.agg ?_ rfl) | exact trivial | (refine And.intro ?_ ?_)))); (solve | exact .inl rfl | exact .inr rfl))) | fail | omega | exact decide_eq_true (by omega) | exact DLe.refl _)
      all_goals exact DLe.refl _
    | false =>
      repeat' (first | (with_reducible refine And.intro ?_ ?_) | (with_reducible refine gK_i (fun _ => ?_) (fun _ => ?_)) | (with_reducible refine condS_i (fun _ => ?_) (fun _ => ?_)) | (with_reducible refine drw_i (by kernel_rfl)) | simp -dsimp only [go_sem, seval, *, encT, encK, hkI, hwr, hp, he] | ((with_reducible refine opK_c ?_); simp -dsimp only [go_sem, seval, encT, encK, hkI, hwr, hp, he]; first | refine callK_r (by first | assumption | fail) (by first | exact .inl rfl | exact .inr rfl) ?_ | (refine callK_i (by assumption) ?_ ?_ ?_; (solve | (repeat (first | exact DLe.refl _ | exact DLe.nil _ | (refine DLe.tup ?_) | (refine DLe.agg ?_ rfl) | exact trivial | (refine And.intro ?_ ?_)))); (solve | exact .inl rfl | exact .inr rfl))) | fail | omega | exact decide_eq_true (by omega) | exact DLe.refl _)
      exact hC _ _ (hno.out rfl) (weak_forget _ (by simp) (by (try simp only [encT]); rfl) (by (repeat' (first | exact trivial | (refine ⟨rfl, ?_⟩)))) (by first | rfl | simp only [belowH, belowE, belowC, belowL, belowR, belowP, belowL_d, belowR_d, List.length_cons, List.length_nil, Nat.reduceAdd, Nat.reduceLT, decide_true, Bool.and_self, Bool.and_true]) (by first | rfl | simp only [belowH, belowE, belowC, belowL, belowR, belowP, belowL_d, belowR_d, List.length_cons, List.length_nil, Nat.reduceAdd, Nat.reduceLT, decide_true, Bool.and_self, Bool.and_true]))
  · intro hI C
    have hr : R = false := by
      rw [hR.out]
      unfold linkedN
      rw [List.take_length, List.all_eq_true] at hI
      rw [List.any_eq_false]
      intro y hy
      have := hI y hy
      simpa using this
    rw [hr]
    replace hr := Lib.hid hr
    replace hI := Lib.hid hI
    repeat' (first | (with_reducible refine And.intro ?_ ?_) | (with_reducible refine gK_i (fun _ => ?_) (fun _ => ?_)) | (with_reducible refine condS_i (fun _ => ?_) (fun _ => ?_)) | (with_reducible refine drw_i (by kernel_rfl)) | simp -dsimp only [go_sem, seval, *, encT, Int.lt_irrefl] | ((with_reducible refine opK_c ?_); simp -dsimp only [go_sem, seval, encT, Int.lt_irrefl]; first | refine callK_r (by first | assumption | fail) (by first | exact .inl rfl | exact .inr rfl) ?_ | (refine callK_i (by assumption) ?_ ?_ ?_; (solve | (repeat (first | exact DLe.refl _ | exact DLe.nil _ | (refine DLe.tup ?_) | (refine DLe.agg ?_ rfl) | exact trivial | (refine And.intro ?_ ?_)))); (solve | exact .inl rfl | exact .inr rfl))) | fail | omega | exact decide_eq_true (by omega) | exact DLe.refl _)
    all_goals exact DLe.refl _
set_option maxHeartbeats 1000000 in
theorem clashR_p (v w : Vpc) (hv : v.ranges.length ≤ 1000000000) (hw : w.ranges.length ≤ 1000000000) : PSpec Try.prog 21 [.agg (encV v), .agg (encV w)] (.v (.bool (clashV v w))) := by
  obtain ⟨R, hR⟩ : ∃ R, R = clashV v w := ⟨_, rfl⟩
  rw [← hR]
  replace hR := Lib.hid hR
  refine ps_i tab_ok mixed Try.func21 rfl Try.ntmps21 Try.results21 (by kernel_rfl) ?_
  repeat' (first | (with_reducible refine And.intro ?_ ?_) | (with_reducible refine gK_i (fun _ => ?_) (fun _ => ?_)) | (with_reducible refine condS_i (fun _ => ?_) (fun _ => ?_)) | (with_reducible refine drw_i (by kernel_rfl)) | simp -dsimp only [go_sem, seval, *, encV] | ((with_reducible refine opK_c ?_); simp -dsimp only [go_sem, seval, encV]; first | refine callK_r (by first | assumption | fail) (by first | exact .inl rfl | exact .inr rfl) ?_ | (refine callK_i (by assumption) ?_ ?_ ?_; (solve | (repeat (first | exact DLe.refl _ | exact DLe.nil _ | (refine DLe.tup ?_) | (refine DLe.agg ?_ rfl) | exact trivial | (refine And.intro ?_ ?_)))); (solve | exact .inl rfl | exact .inr rfl))) | fail | omega | exact decide_eq_true (by omega) | exact DLe.refl _)
  refine loopL tab_ok mixed v.ranges (fun k => (v.ranges.take k).all (fun r => !(w.ranges.any fun q => r.at_.meets q.at_)) = true) (fun k => [(5, .d (.v (.int .i64 k))), (4, .d (.v (.bool false))), (3, .ptr 1 0), (2, .ptr 0 0)]) (fun _ => [.box 47 ((encV v).map .d), .box 47 ((encV w).map .d)]) rfl (weak_forget _ (by simp) (by (try simp only [encV]); rfl) (by (repeat' (first | exact trivial | (refine ⟨rfl, ?_⟩)))) (by first | rfl | simp only [belowH, belowE, belowC, belowL, belowR, belowP, belowL_d, belowR_d, List.length_cons, List.length_nil, Nat.reduceAdd, Nat.reduceLT, decide_true, Bool.and_self, Bool.and_true]) (by first | rfl | simp only [belowH, belowE, belowC, belowL, belowR, belowP, belowL_d, belowR_d, List.length_cons, List.length_nil, Nat.reduceAdd, Nat.reduceLT, decide_true, Bool.and_self, Bool.and_true])) ?_ ?_
  · intro k r hr0 hk hI C hC
    have hkI : (k : Int) < (v.ranges.length : Int) := by omega
    have hwr : IntKind.i64.wrap ((k : Int) + 1) = ((k + 1 : Nat) : Int) := by rw [IntKind.wrap_i64]; omega
    have hsn : (w.ranges.any fun q => r.at_.meets q.at_) = false → (v.ranges.take (k + 1)).all (fun r => !(w.ranges.any fun q => r.at_.meets q.at_)) = true := fun h => no_snoc hr0 hI (by rw [h]; rfl)
    have hyes : (w.ranges.any fun q => r.at_.meets q.at_) = true → R = true := fun h => by rw [hR.out]; exact List.any_eq_true.2 ⟨r, List.mem_of_getElem? hr0, h⟩
    replace hI := Lib.hid hI
    replace hsn := Lib.hid hsn
    replace hyes := Lib.hid hyes
    repeat' (first | (with_reducible refine And.intro ?_ ?_) | (with_reducible refine gK_i (fun _ => ?_) (fun _ => ?_)) | (with_reducible refine condS_i (fun _ => ?_) (fun _ => ?_)) | (with_reducible refine drw_i (by kernel_rfl)) | simp -dsimp only [go_sem, seval, *, encV, hkI] | ((with_reducible refine opK_c ?_); simp -dsimp only [go_sem, seval, encV, hkI]; first | refine callK_r (by first | assumption | fail) (by first | exact .inl rfl | exact .inr rfl) ?_ | (refine callK_i (by assumption) ?_ ?_ ?_; (solve | (repeat (first | exact DLe.refl _ | exact DLe.nil _ | (refine DLe.tup ?_) | (refine DLe.agg ?_ rfl) | exact trivial | (refine And.intro ?_ ?_)))); (solve | exact .inl rfl | exact .inr rfl))) | fail | omega | exact decide_eq_true (by omega) | exact DLe.refl _)
    refine loopL tab_ok mixed w.ranges (fun j => (w.ranges.take j).all (fun q => !(r.at_.meets q.at_)) = true) (fun j => [(6, .d (.v (.int .i64 j))), (5, .d (.v (.int .i64 k))), (4, .d (.v (.bool false))), (3, .ptr 1 0), (2, .ptr 0 0)]) (fun _ => [.box 47 ((encV v).map .d), .box 47 ((encV w).map .d)]) rfl (weak_forget _ (by simp) (by (try simp only [encV]); rfl) (by (repeat' (first | exact trivial | (refine ⟨rfl, ?_⟩)))) (by first | rfl | simp only [belowH, belowE, belowC, belowL, belowR, belowP, belowL_d, belowR_d, List.length_cons, List.length_nil, Nat.reduceAdd, Nat.reduceLT, decide_true, Bool.and_self, Bool.and_true]) (by first | rfl | simp only [belowH, belowE, belowC, belowL, belowR, belowP, belowL_d, belowR_d, List.length_cons, List.length_nil, Nat.reduceAdd, Nat.reduceLT, decide_true, Bool.and_self, Bool.and_true])) ?_ ?_
    · intro j q hq hj hJ C2 hC2
      have hjI : (j : Int) < (w.ranges.length : Int) := by omega
      have hwj : IntKind.i64.wrap ((j : Int) + 1) = ((j + 1 : Nat) : Int) := by rw [IntKind.wrap_i64]; omega
      have hme := meet_p r.at_ q.at_
      rw [meetB_eq] at hme
      cases b : r.at_.meets q.at_ with
      | true =>
        have hr := hyes.out (List.any_eq_true.2 ⟨q, List.mem_of_getElem? hq, b⟩)
        rw [b] at hme
        rw [hr]
        replace hr := Lib.hid hr
        replace hJ := Lib.hid hJ
        repeat' (first | (with_reducible refine And.intro ?_ ?_) | (with_reducible refine gK_i (fun _ => ?_) (fun _ => ?_)) | (with_reducible refine condS_i (fun _ => ?_) (fun _ => ?_)) | (with_reducible refine drw_i (by kernel_rfl)) | simp -dsimp only [go_sem, seval, *, encV, encG, encP, hkI, hjI, hr0, hq] | ((with_reducible refine opK_c ?_); simp -dsimp only [go_sem, seval, encV, encG, encP, hkI, hjI, hr0, hq]; first | refine callK_r (by first | assumption | exact hme) (by first | exact .inl rfl | exact .inr rfl) ?_ | (refine callK_i (by assumption) ?_ ?_ ?_; (solve | (repeat (first | exact DLe.refl _ | exact DLe.nil _ | (refine DLe.tup ?_) | (refine DLe.agg ?_ rfl) | exact trivial | (refine And.intro ?_ ?_)))); (solve | exact .inl rfl | exact .inr rfl))) | fail | omega | exact decide_eq_true (by omega) | exact DLe.refl _)
        all_goals exact DLe.refl _
      | false =>
        rw [b] at hme
        have hn := no_snoc hq hJ (by rw [b]; rfl)
        replace hn := Lib.hid hn
        replace hJ := Lib.hid hJ
        repeat' (first | (with_reducible refine And.intro ?_ ?_) | (with_reducible refine gK_i (fun _ => ?_) (fun _ => ?_)) | (with_reducible refine condS_i (fun _ => ?_) (fun _ => ?_)) | (with_reducible refine drw_i (by kernel_rfl)) | simp -dsimp only [go_sem, seval, *, encV, encG, encP, hkI, hjI, hwj, hr0, hq] | ((with_reducible refine opK_c ?_); simp -dsimp only [go_sem, seval, encV, encG, encP, hkI, hjI, hwj, hr0, hq]; first | refine callK_r (by first | assumption | exact hme) (by first | exact .inl rfl | exact .inr rfl) ?_ | (refine callK_i (by assumption) ?_ ?_ ?_; (solve | (repeat (first | exact DLe.refl _ | exact DLe.nil _ | (refine DLe.tup ?_) | (refine DLe.agg ?_ rfl) | exact trivial | (refine And.intro ?_ ?_)))); (solve | exact .inl rfl | exact .inr rfl))) | fail | omega | exact decide_eq_true (by omega) | exact DLe.refl _)
        exact hC2 _ _ hn.out (weak_forget _ (by simp) (by (try simp only [encV]); rfl) (by (repeat' (first | exact trivial | (refine ⟨rfl, ?_⟩)))) (by first | rfl | simp only [belowH, belowE, belowC, belowL, belowR, belowP, belowL_d, belowR_d, List.length_cons, List.length_nil, Nat.reduceAdd, Nat.reduceLT, decide_true, Bool.and_self, Bool.and_true]) (by first | rfl | simp only [belowH, belowE, belowC, belowL, belowR, belowP, belowL_d, belowR_d, List.length_cons, List.length_nil, Nat.reduceAdd, Nat.reduceLT, decide_true, Bool.and_self, Bool.and_true]))
    · intro hJ C2
      have hn := hsn.out (by
        rw [List.take_length, List.all_eq_true] at hJ
        rw [List.any_eq_false]
        intro q hq
        have := hJ q hq
        simpa using this)
      replace hJ := Lib.hid hJ
      replace hn := Lib.hid hn
      repeat' (first | (with_reducible refine And.intro ?_ ?_) | (with_reducible refine gK_i (fun _ => ?_) (fun _ => ?_)) | (with_reducible refine condS_i (fun _ => ?_) (fun _ => ?_)) | (with_reducible refine drw_i (by kernel_rfl)) | simp -dsimp only [go_sem, seval, *, encV, hwr, Int.lt_irrefl] | ((with_reducible refine opK_c ?_); simp -dsimp only [go_sem, seval, encV, hwr, Int.lt_irrefl]; first | refine callK_r (by first | assumption | fail) (by first | exact .inl rfl | exact .inr rfl) ?_ | (refine callK_i (by assumption) ?_ ?_ ?_; (solve | (repeat (first | exact DLe.refl _ | exact DLe.nil _ | (refine DLe.tup ?_) | (refine DLe.agg ?_ rfl) | exact trivial | (refine And.intro ?_ ?_)))); (solve | exact .inl rfl | exact .inr rfl))) | fail | omega | exact decide_eq_true (by omega) | exact DLe.refl _)
      exact hC _ _ hn.out (weak_forget _ (by simp) (by (try simp only [encV]); rfl) (by (repeat' (first | exact trivial | (refine ⟨rfl, ?_⟩)))) (by first | rfl | simp only [belowH, belowE, belowC, belowL, belowR, belowP, belowL_d, belowR_d, List.length_cons, List.length_nil, Nat.reduceAdd, Nat.reduceLT, decide_true, Bool.and_self, Bool.and_true]) (by first | rfl | simp only [belowH, belowE, belowC, belowL, belowR, belowP, belowL_d, belowR_d, List.length_cons, List.length_nil, Nat.reduceAdd, Nat.reduceLT, decide_true, Bool.and_self, Bool.and_true]))
  · intro hI C
    have hr : R = false := by
      rw [hR.out]
      rw [List.take_length, List.all_eq_true] at hI
      unfold clashV
      rw [List.any_eq_false]
      intro y hy
      have := hI y hy
      simpa using this
    rw [hr]
    replace hr := Lib.hid hr
    replace hI := Lib.hid hI
    repeat' (first | (with_reducible refine And.intro ?_ ?_) | (with_reducible refine gK_i (fun _ => ?_) (fun _ => ?_)) | (with_reducible refine condS_i (fun _ => ?_) (fun _ => ?_)) | (with_reducible refine drw_i (by kernel_rfl)) | simp -dsimp only [go_sem, seval, *, encV, Int.lt_irrefl] | ((with_reducible refine opK_c ?_); simp -dsimp only [go_sem, seval, encV, Int.lt_irrefl]; first | refine callK_r (by first | assumption | fail) (by first | exact .inl rfl | exact .inr rfl) ?_ | (refine callK_i (by assumption) ?_ ?_ ?_; (solve | (repeat (first | exact DLe.refl _ | exact DLe.nil _ | (refine DLe.tup ?_) | (refine DLe.agg ?_ rfl) | exact trivial | (refine And.intro ?_ ?_)))); (solve | exact .inl rfl | exact .inr rfl))) | fail | omega | exact decide_eq_true (by omega) | exact DLe.refl _)
    all_goals exact DLe.refl _
end Go.Proofs.Ytinnohljknmolaa
namespace Go.Proofs.Ytinnohljknmolaa
open Go Go.RowKit
/-- One more from behind: so far. -/
def BubI {α : Type} (key : α → Int) (x : α) (l : List α) (q : Nat) (out : List α) : Prop := q ≤ l.length ∧ out = l.take q ++ x :: l.drop q ∧ ∀ y ∈ l.drop q, key x < key y
section
variable {α : Type} {key : α → Int} {x y : α} {l out : List α} {q : Nat}
theorem bub_0 : BubI key x l l.length (l ++ [x]) := ⟨Nat.le_refl _, by simp, by simp⟩
theorem bub_x (h : BubI key x l q out) : out[q]? = some x := by
  rw [h.2.1, List.getElem?_append_right (by rw [List.length_take]; omega), List.length_take, show q - min q l.length = 0 by have := h.1; omega]; rfl
theorem bub_y (h : BubI key x l q out) (h0 : 0 < q) (hy : l[q - 1]? = some y) : out[q - 1]? = some y := by
  rw [h.2.1, List.getElem?_append_left (by rw [List.length_take]; have := h.1; omega), List.getElem?_take_of_lt (by omega), hy]
theorem bub_s (h : BubI key x l q out) (h0 : 0 < q) (hy : l[q - 1]? = some y) (hg : key y > key x) : BubI key x l (q - 1) ((out.set (q - 1) x).set q y) := by
  obtain ⟨h1, h2, h3⟩ := h
  obtain ⟨hlt, he⟩ := List.getElem?_eq_some_iff.1 hy
  obtain ⟨n, rfl⟩ : ∃ n, q = n + 1 := ⟨q - 1, by omega⟩
  simp only [Nat.add_sub_cancel] at hy hlt he ⊢
  have hd := drop_get hy
  have ht := take_snoc hy
  refine ⟨by omega, ?_, fun z hz => ?_⟩
  · rw [h2, ht, hd]
    have hl : (l.take n).length = n := by rw [List.length_take]; omega
    rw [List.append_assoc, List.set_append_right _ _ (by omega), hl, Nat.sub_self, List.set_append_right _ _ (by omega), hl]
    simp
  · rw [hd] at hz
    rcases List.mem_cons.1 hz with rfl | hz
    · exact hg
    · exact h3 z hz
theorem bub_e (h : BubI key x l q out) (hs : l.Pairwise fun a b => key a < key b) (hl : ∀ y, 0 < q → l[q - 1]? = some y → key y < key x) : out = insK key x l := by
  obtain ⟨h1, h2, h3⟩ := h
  have : lbN key (key x) l = q := by
    refine lbN_eq h1 (fun j hj hjq => ?_) (fun j hj hqj => ?_)
    · have e1 := hl l[q - 1] (by omega) (List.getElem?_eq_getElem (by omega))
      rcases Nat.lt_or_ge j (q - 1) with h | h
      · have := List.pairwise_iff_getElem.1 hs j (q - 1) hj (by omega) h; omega
      · obtain rfl : j = q - 1 := by omega
        exact e1
    · have := h3 l[j] (List.mem_iff_getElem.2 ⟨j - q, by rw [List.length_drop]; omega, by rw [List.getElem_drop]; congr 1; omega⟩)
      omega
  unfold insK
  rw [this, h2]
end
theorem filt_snoc {α : Type} {f : α → Bool} {l : List α} {k : Nat} {x : α} (h : l[k]? = some x) : (l.take (k + 1)).filter f = if f x then (l.take k).filter f ++ [x] else (l.take k).filter f := by
  rw [take_snoc h, List.filter_append]
  cases hx : f x <;> simp [hx]
end Go.Proofs.Ytinnohljknmolaa
namespace Go.Proofs.Ytinnohljknmolaa
open Go Go.RowKit
/-- Is a network one that a network sees? -/
def nearN (n : Net) (id : Int) (v : Vpc) : Bool := v.id == id || linkedN n v.id id
def rtsV (v : Vpc) : List Rte := v.ranges.map fun r => ⟨r.at_, v.id⟩
def rtsN (n : Net) (id : Int) (k : Nat) : List Rte := ((n.vpcs.take k).filter (nearN n id)).flatMap rtsV
def sortR (l : List Rte) : List Rte := l.foldl (fun s x => insK (·.at_.at_) x s) []
/-- The table of a network. -/
def tabN (n : Net) (id : Int) : List Rte := sortR (rtsN n id n.vpcs.length)
theorem rtsN_snoc {n : Net} {id : Int} {k : Nat} {v : Vpc} (h : n.vpcs[k]? = some v) : rtsN n id (k + 1) = if nearN n id v then rtsN n id k ++ rtsV v else rtsN n id k := by
  unfold rtsN
  rw [filt_snoc h]
  split
  · rw [List.flatMap_append]; simp
  · rfl
theorem sortR_snoc (l : List Rte) (x : Rte) : sortR (l ++ [x]) = insK (·.at_.at_) x (sortR l) := by unfold sortR; rw [List.foldl_append]; rfl
theorem rev_ind {α : Type} {P : List α → Prop} (h0 : P []) (hs : ∀ l x, P l → P (l ++ [x])) (l : List α) : P l := by
  have : ∀ m : List α, P m.reverse := fun m => by
    induction m with
    | nil => exact h0
    | cons x m ih => rw [List.reverse_cons]; exact hs _ _ ih
  have h := this l.reverse
  rwa [List.reverse_reverse] at h
theorem sortR_perm (l : List Rte) : (sortR l).Perm l := by
  refine rev_ind (P := fun l => (sortR l).Perm l) (List.Perm.refl _) (fun l x h => ?_) l
  rw [sortR_snoc]
  exact (insK_perm _ _ _).trans (h.append_right _)
theorem sortR_sorted {l : List Rte} (h : l.Pairwise fun a b => a.at_.at_ ≠ b.at_.at_) : (sortR l).Pairwise fun a b => a.at_.at_ < b.at_.at_ := by
  revert h
  refine rev_ind (P := fun l => (l.Pairwise fun a b => a.at_.at_ ≠ b.at_.at_) → (sortR l).Pairwise fun a b => a.at_.at_ < b.at_.at_) (fun _ => List.Pairwise.nil) (fun l x ih h => ?_) l
  rw [List.pairwise_append] at h
  rw [sortR_snoc]
  exact insK_sorted (ih h.1) fun y hy => h.2.2 y ((sortR_perm l).mem_iff.1 hy) x (by simp)
theorem rtsV_len (v : Vpc) : (rtsV v).length = v.ranges.length := by simp [rtsV]
theorem rtsV_mem {v : Vpc} {r : Rte} : r ∈ rtsV v ↔ ∃ q ∈ v.ranges, r = ⟨q.at_, v.id⟩ := by simp [rtsV, eq_comm]
theorem rtsN_mem {n : Net} {id : Int} {k : Nat} {r : Rte} : r ∈ rtsN n id k ↔ ∃ v ∈ n.vpcs.take k, nearN n id v = true ∧ r ∈ rtsV v := by
  unfold rtsN
  rw [List.mem_flatMap]
  simp only [List.mem_filter, and_assoc]
theorem near_head {n : Net} {id : Int} {v : Vpc} (h : nearN n id v = true) : headN n v.id = headN n id := by
  unfold nearN at h
  rcases Bool.or_eq_true_iff.1 h with h | h
  · rw [beq_iff_eq.1 h]
  · unfold linkedN at h
    obtain ⟨y, hy, e⟩ := List.any_eq_true.1 h
    have e := of_decide_eq_true e
    subst e
    rw [headN_eq]
    exact lnk_head hy
theorem apart_near {n : Net} (hok : NetOK n) {id : Int} {i j : Nat} {v w : Vpc} (hij : i < j) (hv : n.vpcs[i]? = some v) (hw : n.vpcs[j]? = some w) (nv : nearN n id v = true) (nw : nearN n id w = true) : clashV w v = false := by
  cases hc : clashV w v with
  | false => rfl
  | true =>
    have := peace_bad (n := n) hij hw hv (by unfold foeN; rw [hc, near_head nv, near_head nw]; simp)
    rw [hok.pe] at this; cases this
theorem rtsV_right {v : Vpc} (h : VpcOK v) {r : Rte} (hr : r ∈ rtsV v) : r.at_.right = true := by
  obtain ⟨q, hq, rfl⟩ := rtsV_mem.1 hr
  exact rangeB_right (h.ranges q hq)
theorem rtsN_right {n : Net} (hok : NetOK n) {id : Int} {k : Nat} {r : Rte} (hr : r ∈ rtsN n id k) : r.at_.right = true := by
  obtain ⟨v, hv, -, h⟩ := rtsN_mem.1 hr
  exact rtsV_right (vpcOK_of (hok.vp v (List.mem_of_mem_take hv))) h
/-- No two routes of a table meet. -/
theorem rtsN_apart {n : Net} (hok : NetOK n) (id : Int) : ∀ k, k ≤ n.vpcs.length → (rtsN n id k).Pairwise fun a b => a.at_.meets b.at_ = false
  | 0, _ => by unfold rtsN; simp
  | k + 1, hk => by
    obtain ⟨v, hv⟩ : ∃ v, n.vpcs[k]? = some v := ⟨_, List.getElem?_eq_getElem hk⟩
    have ih := rtsN_apart hok id k (by omega)
    rw [rtsN_snoc hv]
    split
    · rename_i hn
      have hvo := vpcOK_of (hok.vp v (List.mem_of_getElem? hv))
      rw [List.pairwise_append]
      refine ⟨ih, ?_, fun a ha b hb => ?_⟩
      · unfold rtsV
        rw [List.pairwise_map]
        have := apaF_nil.1 hvo.ar
        rw [List.pairwise_map] at this
        exact this.imp fun h => by rw [meets_comm]; exact h
      · obtain ⟨w, hw, nw, h⟩ := rtsN_mem.1 ha
        obtain ⟨i, hi⟩ := List.mem_iff_getElem?.1 hw
        have hik : i < k := by
          have := (List.getElem?_eq_some_iff.1 hi).1
          rw [List.length_take] at this; omega
        rw [List.getElem?_take_of_lt hik] at hi
        have hc := apart_near hok hik hi hv nw hn
        obtain ⟨q, hq, rfl⟩ := rtsV_mem.1 h
        obtain ⟨p, hp, rfl⟩ := rtsV_mem.1 hb
        unfold clashV at hc
        rw [List.any_eq_false] at hc
        have := hc p hp
        rw [Bool.not_eq_true, List.any_eq_false] at this
        have := this q hq
        rw [Bool.not_eq_true] at this
        show q.at_.meets p.at_ = false
        rw [meets_comm]; exact this
    · exact ih
theorem rtsN_keys {n : Net} (hok : NetOK n) (id : Int) {k : Nat} (hk : k ≤ n.vpcs.length) : (rtsN n id k).Pairwise fun a b => a.at_.at_ ≠ b.at_.at_ :=
  (rtsN_apart hok id k hk).imp_of_mem fun ha hb h => meets_at (rtsN_right hok ha) (rtsN_right hok hb) h
theorem rtsN_len {n : Net} (hok : NetOK n) (id : Int) : ∀ k, k ≤ n.vpcs.length → (rtsN n id k).length ≤ 4 * k
  | 0, _ => by unfold rtsN; simp
  | k + 1, hk => by
    obtain ⟨v, hv⟩ : ∃ v, n.vpcs[k]? = some v := ⟨_, List.getElem?_eq_getElem hk⟩
    have ih := rtsN_len hok id k (by omega)
    have := (vpcOK_of (hok.vp v (List.mem_of_getElem? hv))).n4
    rw [rtsN_snoc hv]
    split
    · rw [List.length_append, rtsV_len]; omega
    · omega
/-- How often a network was told of. -/
def NearI (id : Int) (L : List Lnk) (k : Nat) (ents : List (List Int × Int)) : Prop := ∀ x : Int, 0 ≤ (lkE ents [x]).getD 0 ∧ (lkE ents [x]).getD 0 ≤ 1 + 2 * (k : Int) ∧ ((lkE ents [x]).getD 0 ≠ 0 ↔ x = id ∨ ∃ l ∈ L.take k, (l.a = id ∨ l.b = id) ∧ (l.a = x ∨ l.b = x))
theorem nearI_0 (id : Int) (L : List Lnk) : NearI id L 0 (upE [] [id] 1) := fun x => by
  rw [lkE_up]
  by_cases h : id = x
  · subst h; simp
  · rw [if_neg (by simpa using h)]
    simp [lkE]
    exact fun e => h e.symm
theorem nearI_skip {id : Int} {L : List Lnk} {k : Nat} {ents : List (List Int × Int)} {l : Lnk} (h : NearI id L k ents) (hl : L[k]? = some l) (ha : l.a ≠ id) (hb : l.b ≠ id) : NearI id L (k + 1) ents := fun x => by
  obtain ⟨h1, h2, h3⟩ := h x
  refine ⟨h1, by omega, h3.trans ?_⟩
  rw [take_snoc hl]
  constructor
  · rintro (e | ⟨m, hm, e⟩)
    · exact .inl e
    · exact .inr ⟨m, by simp [hm], e⟩
  · rintro (e | ⟨m, hm, e⟩)
    · exact .inl e
    · rcases List.mem_append.1 hm with hm | hm
      · exact .inr ⟨m, hm, e⟩
      · simp at hm
        subst hm
        exact absurd e.1 (by simp [ha, hb])
def nearU (ents : List (List Int × Int)) (x : Int) : List (List Int × Int) := upE ents [x] ((lkE ents [x]).getD 0 + 1)
theorem nearU_look (ents : List (List Int × Int)) (x y : Int) : (lkE (nearU ents x) [y]).getD 0 = (lkE ents [y]).getD 0 + if x = y then 1 else 0 := by
  unfold nearU
  rw [lkE_up]
  by_cases h : x = y
  · subst h; simp
  · rw [if_neg (by simpa using h), if_neg h]; omega
theorem nearI_add {id : Int} {L : List Lnk} {k : Nat} {ents : List (List Int × Int)} {l : Lnk} (h : NearI id L k ents) (hl : L[k]? = some l) (ht : l.a = id ∨ l.b = id) : NearI id L (k + 1) (nearU (nearU ents l.a) l.b) := fun x => by
  obtain ⟨h1, h2, h3⟩ := h x
  rw [nearU_look, nearU_look, take_snoc hl]
  refine ⟨by split <;> split <;> omega, by split <;> split <;> omega, ?_⟩
  constructor
  · intro hne
    by_cases h0 : (lkE ents [x]).getD 0 = 0
    · have hx : l.a = x ∨ l.b = x := by
        rcases Decidable.em (l.a = x) with e | e
        · exact .inl e
        · rcases Decidable.em (l.b = x) with e2 | e2
          · exact .inr e2
          · rw [if_neg e, if_neg e2] at hne; omega
      exact .inr ⟨l, by simp, ht, hx⟩
    · rcases h3.1 h0 with e | ⟨m, hm, e⟩
      · exact .inl e
      · exact .inr ⟨m, by simp [hm], e⟩
  · intro hor
    have : (lkE ents [x]).getD 0 ≠ 0 ∨ l.a = x ∨ l.b = x := by
      rcases hor with e | ⟨m, hm, e⟩
      · exact .inl (h3.2 (.inl e))
      · rcases List.mem_append.1 hm with hm | hm
        · exact .inl (h3.2 (.inr ⟨m, hm, e⟩))
        · simp at hm; subst hm; exact .inr e.2
    rcases this with e | e | e
    · split <;> split <;> omega
    · rw [if_pos e]; split <;> omega
    · rw [if_pos e]; split <;> omega
theorem nearI_end {n : Net} (hok : NetOK n) {id : Int} {ents : List (List Int × Int)} (h : NearI id n.links n.links.length ents) (v : Vpc) : ((lkE ents [v.id]).getD 0 == 0) = !nearN n id v := by
  have h3 := (h v.id).2.2
  rw [List.take_length] at h3
  have : nearN n id v = true ↔ (lkE ents [v.id]).getD 0 ≠ 0 := by
    rw [h3]
    unfold nearN linkedN
    simp only [Bool.or_eq_true, beq_iff_eq, List.any_eq_true, decide_eq_true_eq]
    constructor
    · rintro (e | ⟨y, hy, rfl⟩)
      · exact .inl e
      · refine .inr ⟨_, hy, ?_⟩
        unfold lnk
        simp only
        by_cases c : id < v.id
        · have := Int.lt_asymm c
          simp [c, this]
        · by_cases c2 : v.id < id
          · simp [c, c2]
          · simp [c, c2]; omega
    · rintro (e | ⟨y, hy, h1, h2⟩)
      · exact .inl e
      · by_cases e : v.id = id
        · exact .inl e
        · refine .inr ⟨y, hy, ?_⟩
          have hlt : y.a < y.b := by
            have := hok.lk y hy
            unfold lnkB at this
            simp only [Bool.and_eq_true, decide_eq_true_eq] at this
            exact this.2.2
          obtain ⟨e1, e2⟩ := lnk_of hlt
          rcases h1 with h1 | h1 <;> rcases h2 with h2 | h2
          · exact absurd (h2.symm.trans h1) e
          · rw [← h1, ← h2]; exact e2.symm
          · rw [← h1, ← h2]; exact e1.symm
          · exact absurd (h2.symm.trans h1) e
  rw [Bool.eq_iff_iff]
  simp only [beq_iff_eq, Bool.not_eq_true', ← Bool.not_eq_true]
  rw [this]; simp
end Go.Proofs.Ytinnohljknmolaa
namespace Go.Proofs.Ytinnohljknmolaa
open Go Go.RowKit Go.Proofs Go.ChangeShapes Go.WideShapes Go.Deep
section
variable {H : Type} {enc : TypeId × Value → H} {P : Program} {w : World} {base : Nat} {spare : Nat → Bool} {held : Bool}
/-- Whatever is read as of type t is an R. -/
def Rd {α : Type} (enc : TypeId × Value → H) (P : Program) (w : World) (base : Nat) (spare : Nat → Bool) (held : Bool) (t : TypeId) (R : List Value → α → Prop) : Prop :=
  ∀ fuel cs x, DataW.trod enc P w base spare held fuel t cs = some x → ∃ a, R cs a
theorem Rd.map {α β : Type} {t : TypeId} {R : List Value → α → Prop} {R' : List Value → β → Prop} (h : Rd enc P w base spare held t R) (f : α → β) (hf : ∀ cs a, R cs a → R' cs (f a)) : Rd enc P w base spare held t R' := by
  intro fuel cs x hx
  obtain ⟨a, ha⟩ := h fuel cs x hx
  exact ⟨f a, hf _ _ ha⟩
def in64 (n : Int) : Prop := -9223372036854775808 ≤ n ∧ n ≤ 9223372036854775807
def IntR (cs : List Value) (n : Int) : Prop := cs = [.int .i64 n] ∧ in64 n
theorem in64_wf {n : Int} (h : (Lit.int .i64 n).wf = true) : in64 n := by
  simp only [Lit.wf, Bool.and_eq_true, decide_eq_true_eq] at h
  have h1 : IntKind.i64.min = -9223372036854775808 := rfl
  have h2 : IntKind.i64.max = 9223372036854775807 := rfl
  rw [h1, h2] at h
  exact h
theorem rd_int {t : TypeId} (ht : P.underlying t = some (.int .i64)) : Rd enc P w base spare held t IntR := by
  intro fuel cs x hx
  obtain ⟨n, h, _, hw⟩ := DataW.trod_int ht hx
  exact ⟨n, h, in64_wf hw⟩
theorem rd_field {α : Type} {t : TypeId} {fs : Array Field} {fuel : Nat} {cs : List Value} {x : DataW H × List MemPlace} (ht : P.underlying t = some (.struct fs)) (h : DataW.trod enc P w base spare held fuel t cs = some x)
    (j : Nat) {f : Field} (hf : fs[j]? = some f) {R : List Value → α → Prop} (hr : Rd enc P w base spare held f.type R) : ∃ a, R ((cs.drop f.offset).take (P.cellsOf f.type)) a := by
  obtain ⟨xs, n, _, _, _, hlen, hg⟩ := DataW.trod_struct ht h
  have h1 := hg j f hf
  have hj : j < xs.length := by rw [hlen]; exact (Array.getElem?_eq_some_iff.1 hf).1
  rw [List.getElem?_eq_getElem hj] at h1
  exact hr _ _ _ h1
theorem rd_len {t : TypeId} {fs : Array Field} {fuel : Nat} {cs : List Value} {x : DataW H × List MemPlace} (ht : P.underlying t = some (.struct fs)) (h : DataW.trod enc P w base spare held fuel t cs = some x) : cs.length = P.cellsOf t := by
  obtain ⟨_, _, _, _, h, _⟩ := DataW.trod_struct ht h
  exact h
theorem pick_list {α : Type} {Q : Nat → α → Prop} : ∀ (n : Nat), (∀ i, i < n → ∃ a, Q i a) → ∃ l : List α, l.length = n ∧ ∀ i (h : i < l.length), Q i l[i]
  | 0, _ => ⟨[], rfl, fun i h => by simp at h⟩
  | n + 1, h => by
    obtain ⟨l, hl, hq⟩ := pick_list n fun i hi => h i (by omega)
    obtain ⟨a, ha⟩ := h n (by omega)
    refine ⟨l ++ [a], by simp [hl], fun i hi => ?_⟩
    rcases Nat.lt_or_ge i l.length with h1 | h1
    · rw [List.getElem_append_left h1]; exact hq i h1
    · have : i = n := by simp at hi; omega
      subst this
      rw [List.getElem_append_right h1]
      simpa using ha
/-- What came in lies below the heap's size. -/
def inW (w : World) : Area := fun b => b < w.heap.size
theorem arg_int {r : Reach} {b0 : Nat} {t : TypeId} {v : Value} {d : DataW H} {p : List MemPlace} (ht : P.underlying t = some (.int .i64)) (hval : Value.okWide P w r b0 t v) (hd : DataW.Trod enc P w base spare held t v d p) : ∃ n, v = .int .i64 n ∧ in64 n := by
  obtain ⟨n, h, _, _, hw⟩ := open_int ht hval hd
  exact ⟨n, h, in64_wf hw⟩
theorem trod_lts {t : TypeId} {v : Value} {d : DataW H} {p : List MemPlace} (h : DataW.Trod enc P w base spare held t v d p) : ∀ x ∈ p, x.block < w.heap.size := by
  obtain ⟨m, hm⟩ := h
  exact DataW.trod_lt m _ _ _ hm
end
end Go.Proofs.Ytinnohljknmolaa
