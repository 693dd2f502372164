/- Texts of this work, joined: Net4, Net5, Net6, Net7, Net8, Net9, NetA, NetB, NetC, NetD, NetE, LN1, NetP, NetF, NetR3, LN2, MixG, LN3, NetG, W5, NetR5, VpcRF, NetR7. -/
import Derived.Test.YtgmbhaclogabeaaGreatZHNetPeace3
import Derived.Sort.Grow
set_option linter.unusedSimpArgs false
set_option linter.unusedVariables false
namespace Go.Proofs.YtgmbhaclogabeaaGreat
open Go Go.RowKit
def ordK (l m : Lnk) : Int := orI [cmpI l.a m.a, cmpI l.b m.b]
set_option maxRecDepth 100000 in
theorem order_p (l m : Lnk) : PSpec Tryz.prog 38 [.agg (encK l), .agg (encK m)] (.v (.int .i64 (ordK l m))) := by
  have h1 := compare_p l.a m.a
  have h2 := compare_p l.b m.b
  have h3 := or_p [cmpI l.a m.a, cmpI l.b m.b] (by simp)
  simp only [List.map_cons, List.map_nil, encA] at h3
  unfold ordK
  generalize cmpI l.a m.a = A at *
  generalize cmpI l.b m.b = B at *
  refine ps_i tab_ok mixed Tryz.func38 rfl Tryz.ntmps38 Tryz.results38 (by kernel_rfl) ?_
  repeat' (first | (with_reducible refine And.intro ?_ ?_) | (with_reducible refine gK_i (fun _ => ?_) (fun _ => ?_)) | (with_reducible refine condS_i (fun _ => ?_) (fun _ => ?_)) | (with_reducible refine drw_i (by kernel_rfl)) | simp -dsimp only [go_sem, seval, *, encK, encA, undef] | ((with_reducible refine opK_c ?_); simp -dsimp only [go_sem, seval, encK, encA, undef]; first | refine callK_r (by first | assumption | exact h1 | exact h2 | exact h3) (by first | exact .inl rfl | exact .inr rfl) ?_ | (refine callK_i (by assumption) ?_ ?_ ?_; (solve | (repeat (first | exact DLe.refl _ | exact DLe.nil _ | (refine DLe.tup ?_) | (refine DLe.agg ?_ rfl) | exact trivial | (refine And.intro ?_ ?_)))); (solve | exact .inl rfl | exact .inr rfl))) | fail | omega | exact decide_eq_true (by omega) | exact DLe.refl _)
def lnk (a b : Int) : Lnk := ⟨if b < a then b else a, if a < b then b else a⟩
set_option maxRecDepth 100000 in
theorem link_p (a b : Int) : PSpec Tryz.prog 41 [.v (.int .i64 a), .v (.int .i64 b)] (.agg (encK (lnk a b))) := by
  refine ps_i tab_ok mixed Tryz.func41 rfl Tryz.ntmps41 Tryz.results41 (by kernel_rfl) ?_
  repeat' (first | (with_reducible refine And.intro ?_ ?_) | (with_reducible refine gK_i (fun _ => ?_) (fun _ => ?_)) | (with_reducible refine condS_i (fun _ => ?_) (fun _ => ?_)) | (with_reducible refine drw_i (by kernel_rfl)) | simp -dsimp only [go_sem, seval, *, encK, lnk, undef] | ((with_reducible refine opK_c ?_); simp -dsimp only [go_sem, seval, encK, lnk, undef]; first | refine callK_r (by first | assumption | fail) (by first | exact .inl rfl | exact .inr rfl) ?_ | (refine callK_i (by assumption) ?_ ?_ ?_; (solve | (repeat (first | exact DLe.refl _ | exact DLe.nil _ | (refine DLe.tup ?_) | (refine DLe.agg ?_ rfl) | exact trivial | (refine And.intro ?_ ?_)))); (solve | exact .inl rfl | exact .inr rfl))) | fail | omega | exact decide_eq_true (by omega) | exact DLe.refl _)
  all_goals exact DLe.refl _
theorem find1_p (v : Vpc) (id : Int) : PSpec Tryz.prog 46 [.agg (encV v), .v (.int .i64 id)] (.v (.int .i64 (cmpI v.id id))) := by
  have h1 := compare_p v.id id
  refine ps_i tab_ok mixed Tryz.func46 rfl Tryz.ntmps46 Tryz.results46 (by kernel_rfl) ?_
  repeat' (first | (with_reducible refine And.intro ?_ ?_) | (with_reducible refine gK_i (fun _ => ?_) (fun _ => ?_)) | (with_reducible refine condS_i (fun _ => ?_) (fun _ => ?_)) | (with_reducible refine drw_i (by kernel_rfl)) | simp -dsimp only [go_sem, seval, *, encV] | ((with_reducible refine opK_c ?_); simp -dsimp only [go_sem, seval, encV]; first | refine callK_r (by first | assumption | exact h1) (by first | exact .inl rfl | exact .inr rfl) ?_ | (refine callK_i (by assumption) ?_ ?_ ?_; (solve | (repeat (first | exact DLe.refl _ | exact DLe.nil _ | (refine DLe.tup ?_) | (refine DLe.agg ?_ rfl) | exact trivial | (refine And.intro ?_ ?_)))); (solve | exact .inl rfl | exact .inr rfl))) | fail | omega | exact decide_eq_true (by omega) | exact DLe.refl _)
set_option maxHeartbeats 1000000 in
theorem bsrf_Vpc {α : Type} {enc : α → List D} (henc : ∀ x, (enc x).length = 3) (key : α → Int) (l : List α) (t : Int) (g : Nat) (caps : List D) (hl : l.length ≤ 1000000000) (hs : l.Pairwise fun a b => key a < key b) (hc : ∀ x ∈ l, PSpec Tryz.prog g (.agg (enc x) :: .v (.int .i64 t) :: caps) (.v (.int .i64 (cmpI (key x) t)))) :
    PSpec Tryz.prog 45 [.sl 3 (l.map enc), .v (.int .i64 t), .clo g caps] (.tup [.v (.int .i64 (lbN key t l)), .v (.bool (lbB key t l))]) := by
  refine ps_i tab_ok mixed Tryz.func45 rfl Tryz.ntmps45 Tryz.results45 (by kernel_rfl) ?_
  repeat' (first | (with_reducible refine And.intro ?_ ?_) | (with_reducible refine gK_i (fun _ => ?_) (fun _ => ?_)) | (with_reducible refine condS_i (fun _ => ?_) (fun _ => ?_)) | (with_reducible refine drw_i (by kernel_rfl)) | simp -dsimp only [go_sem, seval, *, bne_self_eq_false] | ((with_reducible refine opK_c ?_); simp -dsimp only [go_sem, seval, bne_self_eq_false]; first | refine callK_r (by first | assumption | fail) (by first | exact .inl rfl | exact .inr rfl) ?_ | (refine callK_i (by assumption) ?_ ?_ ?_; (solve | (repeat (first | exact DLe.refl _ | exact DLe.nil _ | (refine DLe.tup ?_) | (refine DLe.agg ?_ rfl) | exact trivial | (refine And.intro ?_ ?_)))); (solve | exact .inl rfl | exact .inr rfl))) | fail | omega | exact decide_eq_true (by omega) | exact DLe.refl _)
  refine loopG tab_ok mixed (fun m e h => ∃ i j : Nat, i ≤ j ∧ j ≤ l.length ∧ (∀ q (hq : q < l.length), q < i → key l[q] < t) ∧ (∀ q (hq : q < l.length), j ≤ q → t ≤ key l[q]) ∧ m = j - i ∧
    e = [(10, .d (.v (.int .i64 j))), (9, .d (.v (.int .i64 i))), (8, .d (.v (.int .i64 l.length))), (7, .d (.v (.bool false))), (6, .d (.v (.int .i64 0))), (2, .d (.clo g caps)), (1, .d (.v (.int .i64 t))), (0, .d (.sl 3 (l.map enc)))] ∧ h = []) _ _ _ ⟨0, l.length, Nat.zero_le _, Nat.le_refl _, fun q hq h => absurd h (Nat.not_lt_zero _), fun q hq h => by omega, rfl, rfl, rfl⟩ ?_ ?_
  · exact weak_forget [] (by simp) rfl ⟨rfl, rfl, rfl, rfl, rfl, rfl, rfl, rfl, trivial⟩ (by first | rfl | simp only [belowH, belowE, belowC, belowL, belowR, belowP, belowL_d, belowR_d, List.length_cons, List.length_nil, Nat.reduceAdd, Nat.reduceLT, decide_true, Bool.and_self, Bool.and_true]) (by first | rfl | simp only [belowH, belowE, belowC, belowL, belowR, belowP, belowL_d, belowR_d, List.length_cons, List.length_nil, Nat.reduceAdd, Nat.reduceLT, decide_true, Bool.and_self, Bool.and_true])
  · rintro m e h ⟨i, j, hij, hj, hlo, hhi, rfl, rfl, rfl⟩ CL hCL
    by_cases hlt : i < j
    · obtain ⟨q, hq⟩ : ∃ q, q = (i + j) / 2 := ⟨_, rfl⟩
      have hql : q < l.length := by omega
      obtain ⟨x, hx⟩ : ∃ x, l[q]? = some x := ⟨_, List.getElem?_eq_getElem hql⟩
      have hxe : l[q] = x := by rw [List.getElem?_eq_getElem hql] at hx; exact Option.some.inj hx
      have hltI : (i : Int) < (j : Int) := by omega
      have hw1 : IntKind.i64.wrap ((i : Int) + (j : Int)) = ((i + j : Nat) : Int) := by rw [IntKind.wrap_i64]; omega
      have hw2 : IntKind.u64.wrap ((i + j : Nat) : Int) = ((i + j : Nat) : Int) := by rw [wrap_u64]; omega
      have hsh : (((i + j : Nat) : Int)).fdiv (2 ^ min 1 64) = (q : Int) := by
        rw [hq, show (min 1 64 : Nat) = 1 from rfl, Int.pow_succ, Int.pow_zero, Int.one_mul, Int.fdiv_eq_ediv_of_nonneg _ (by omega)]
        omega
      have hw3 : IntKind.i64.wrap (q : Int) = (q : Int) := by rw [IntKind.wrap_i64]; omega
      have hw4 : IntKind.i64.wrap ((q : Int) + 1) = ((q + 1 : Nat) : Int) := by rw [IntKind.wrap_i64]; omega
      have hlen := henc x
      have htk : (enc x).take 3 = enc x := List.take_of_length_le (by omega)
      have hcx := hc x (List.mem_of_getElem? hx)
      have hcm := cmpI_neg (key x) t
      have hqd : i ≤ q ∧ q < j := by omega
      replace hq := Lib.hid hq
      by_cases hk : key x < t
      · have hkI : decide (key x < t) = true := by simpa using hk
        repeat' (first | (with_reducible refine And.intro ?_ ?_) | (with_reducible refine gK_i (fun _ => ?_) (fun _ => ?_)) | (with_reducible refine condS_i (fun _ => ?_) (fun _ => ?_)) | (with_reducible refine drw_i (by kernel_rfl)) | simp -dsimp only [go_sem, seval, *, hx, hltI, hw1, hw2, hw3, hw4, hsh, htk, hlen, hcm, hkI, vwL_d, tcL_d] | ((with_reducible refine opK_c ?_); simp -dsimp only [go_sem, seval, hx, hltI, hw1, hw2, hw3, hw4, hsh, htk, hlen, hcm, hkI, vwL_d, tcL_d]; first | refine callK_r (by first | assumption | exact hcx) (by first | exact .inl rfl | exact .inr rfl) ?_ | (refine callK_i (by assumption) ?_ ?_ ?_; (solve | (repeat (first | exact DLe.refl _ | exact DLe.nil _ | (refine DLe.tup ?_) | (refine DLe.agg ?_ rfl) | exact trivial | (refine And.intro ?_ ?_)))); (solve | exact .inl rfl | exact .inr rfl))) | fail | omega | exact decide_eq_true (by omega) | exact DLe.refl _)
        refine hCL _ _ _ _ _ ?_ ⟨q + 1, j, by omega, hj, ?_, hhi, rfl, rfl, rfl⟩ (weak_forget [] (by simp) rfl ⟨rfl, rfl, rfl, rfl, rfl, rfl, rfl, rfl, trivial⟩ (by first | rfl | simp only [belowH, belowE, belowC, belowL, belowR, belowP, belowL_d, belowR_d, List.length_cons, List.length_nil, Nat.reduceAdd, Nat.reduceLT, decide_true, Bool.and_self, Bool.and_true]) (by first | rfl | simp only [belowH, belowE, belowC, belowL, belowR, belowP, belowL_d, belowR_d, List.length_cons, List.length_nil, Nat.reduceAdd, Nat.reduceLT, decide_true, Bool.and_self, Bool.and_true]))
        · omega
        · intro q' hq' hlt'
          rcases Nat.lt_or_ge q' q with h1 | h1
          · have := List.pairwise_iff_getElem.1 hs q' q hq' hql h1
            rw [hxe] at this; omega
          · obtain rfl : q' = q := by omega
            rw [hxe]; exact hk
      · have hkI : decide (key x < t) = false := by simpa using hk
        repeat' (first | (with_reducible refine And.intro ?_ ?_) | (with_reducible refine gK_i (fun _ => ?_) (fun _ => ?_)) | (with_reducible refine condS_i (fun _ => ?_) (fun _ => ?_)) | (with_reducible refine drw_i (by kernel_rfl)) | simp -dsimp only [go_sem, seval, *, hx, hltI, hw1, hw2, hw3, hw4, hsh, htk, hlen, hcm, hkI, vwL_d, tcL_d] | ((with_reducible refine opK_c ?_); simp -dsimp only [go_sem, seval, hx, hltI, hw1, hw2, hw3, hw4, hsh, htk, hlen, hcm, hkI, vwL_d, tcL_d]; first | refine callK_r (by first | assumption | exact hcx) (by first | exact .inl rfl | exact .inr rfl) ?_ | (refine callK_i (by assumption) ?_ ?_ ?_; (solve | (repeat (first | exact DLe.refl _ | exact DLe.nil _ | (refine DLe.tup ?_) | (refine DLe.agg ?_ rfl) | exact trivial | (refine And.intro ?_ ?_)))); (solve | exact .inl rfl | exact .inr rfl))) | fail | omega | exact decide_eq_true (by omega) | exact DLe.refl _)
        refine hCL _ _ _ _ _ ?_ ⟨i, q, by omega, by omega, hlo, ?_, rfl, rfl, rfl⟩ (weak_forget [] (by simp) rfl ⟨rfl, rfl, rfl, rfl, rfl, rfl, rfl, rfl, trivial⟩ (by first | rfl | simp only [belowH, belowE, belowC, belowL, belowR, belowP, belowL_d, belowR_d, List.length_cons, List.length_nil, Nat.reduceAdd, Nat.reduceLT, decide_true, Bool.and_self, Bool.and_true]) (by first | rfl | simp only [belowH, belowE, belowC, belowL, belowR, belowP, belowL_d, belowR_d, List.length_cons, List.length_nil, Nat.reduceAdd, Nat.reduceLT, decide_true, Bool.and_self, Bool.and_true]))
        · omega
        · intro q' hq' hlt'
          rcases Nat.lt_or_ge q q' with h1 | h1
          · have := List.pairwise_iff_getElem.1 hs q q' hql hq' h1
            rw [hxe] at this; omega
          · obtain rfl : q' = q := by omega
            rw [hxe]; omega
    · obtain rfl : i = j := by omega
      have hlb := lbN_eq hj hlo hhi
      have hlbB : lbB key t l = match l[i]? with | some x => key x == t | none => false := by unfold lbB; rw [hlb]; all_goals (cases l[i]? <;> rfl)
      replace hlb := Lib.hid hlb
      replace hlbB := Lib.hid hlbB
      by_cases hin : i < l.length
      · obtain ⟨x, hx⟩ : ∃ x, l[i]? = some x := ⟨_, List.getElem?_eq_getElem hin⟩
        have hinI : decide ((i : Int) < (l.length : Int)) = true := by simpa using hin
        have hlen := henc x
        have htk : (enc x).take 3 = enc x := List.take_of_length_le (by omega)
        have hcx := hc x (List.mem_of_getElem? hx)
        have hcz := cmpI_zero (key x) t
        repeat' (first | (with_reducible refine And.intro ?_ ?_) | (with_reducible refine gK_i (fun _ => ?_) (fun _ => ?_)) | (with_reducible refine condS_i (fun _ => ?_) (fun _ => ?_)) | (with_reducible refine drw_i (by kernel_rfl)) | simp -dsimp only [go_sem, seval, *, Int.lt_irrefl, hx, hinI, htk, hlen, hcz, vwL_d, tcL_d] | ((with_reducible refine opK_c ?_); simp -dsimp only [go_sem, seval, Int.lt_irrefl, hx, hinI, htk, hlen, hcz, vwL_d, tcL_d]; first | refine callK_r (by first | assumption | exact hcx) (by first | exact .inl rfl | exact .inr rfl) ?_ | (refine callK_i (by assumption) ?_ ?_ ?_; (solve | (repeat (first | exact DLe.refl _ | exact DLe.nil _ | (refine DLe.tup ?_) | (refine DLe.agg ?_ rfl) | exact trivial | (refine And.intro ?_ ?_)))); (solve | exact .inl rfl | exact .inr rfl))) | fail | omega | exact decide_eq_true (by omega) | exact DLe.refl _)
        all_goals rw [hlbB.out, hx, hlb.out]
        all_goals exact DLe.refl _
      · have hinI : decide ((i : Int) < (l.length : Int)) = false := by simpa using hin
        repeat' (first | (with_reducible refine And.intro ?_ ?_) | (with_reducible refine gK_i (fun _ => ?_) (fun _ => ?_)) | (with_reducible refine condS_i (fun _ => ?_) (fun _ => ?_)) | (with_reducible refine drw_i (by kernel_rfl)) | simp -dsimp only [go_sem, seval, *, Int.lt_irrefl, hinI] | ((with_reducible refine opK_c ?_); simp -dsimp only [go_sem, seval, Int.lt_irrefl, hinI]; first | refine callK_r (by first | assumption | fail) (by first | exact .inl rfl | exact .inr rfl) ?_ | (refine callK_i (by assumption) ?_ ?_ ?_; (solve | (repeat (first | exact DLe.refl _ | exact DLe.nil _ | (refine DLe.tup ?_) | (refine DLe.agg ?_ rfl) | exact trivial | (refine And.intro ?_ ?_)))); (solve | exact .inl rfl | exact .inr rfl))) | fail | omega | exact decide_eq_true (by omega) | exact DLe.refl _)
        all_goals rw [hlbB.out, hlb.out, List.getElem?_eq_none (by omega)]
        all_goals exact DLe.refl _
end Go.Proofs.YtgmbhaclogabeaaGreat
namespace Go.Proofs.YtgmbhaclogabeaaGreat
open Go Go.RowKit
def findN (n : Net) (id : Int) : Option Vpc := n.vpcs.find? fun v => v.id == id
def findND (o : Option Vpc) : D := match o with | some v => .tup [.ept (encV v), .v (.bool true)] | none => .tup [.v (.pointer none), .v (.bool false)]
theorem lb_hit {l : List Vpc} {id : Int} (hs : l.Pairwise fun a b => a.id < b.id) {v : Vpc} (hv : l[lbN (fun v : Vpc => v.id) id l]? = some v) (he : v.id = id) : l.find? (fun v => v.id == id) = some v := by
  rw [List.find?_eq_some_iff_getElem]
  obtain ⟨hlt, hg⟩ := List.getElem?_eq_some_iff.1 hv
  refine ⟨by simpa using he, _, hlt, hg, fun j hj => ?_⟩
  have := List.pairwise_iff_getElem.1 hs j _ (by omega) hlt hj
  rw [hg] at this
  simp
  omega
theorem lb_miss {l : List Vpc} {id : Int} (hs : l.Pairwise fun a b => a.id < b.id) (h : lbB (fun v : Vpc => v.id) id l = false) : l.find? (fun v => v.id == id) = none := by
  rw [List.find?_eq_none]
  intro v hv he
  have he2 : v.id = id := by simpa using he
  obtain ⟨j, hj, rfl⟩ := List.mem_iff_getElem.1 hv
  have h1 : lbN (fun v : Vpc => v.id) id l = j := lbN_eq (by omega) (fun q hq hqj => by
    have := List.pairwise_iff_getElem.1 hs q j hq hj hqj
    show l[q].id < id
    omega) (fun q hq hjq => by
    show id ≤ l[q].id
    rcases Nat.lt_or_ge j q with h | h
    · have := List.pairwise_iff_getElem.1 hs j q hj hq h; omega
    · obtain rfl : q = j := by omega
      omega)
  unfold lbB at h
  rw [h1, List.getElem?_eq_getElem hj] at h
  simp [he2] at h
def findNP (o : Option Vpc) : PV := .d (findND o)
set_option maxRecDepth 100000 in
theorem nfindB_m (n : Net) (id : Int) (hl : n.vpcs.length ≤ 1000000000) (hs : n.vpcs.Pairwise fun a b => a.id < b.id) : MSpec Tryz.prog 22 [.ptr 0 0, .d (.v (.int .i64 id))] [.box 25 ((encT n).map .d)] (findNP (findN n id)) [.box 25 ((encT n).map .d)] := by
  have hb := bsrf_Vpc encV_len (fun v : Vpc => v.id) n.vpcs id 46 [] hl hs (fun v _ => find1_p v id)
  unfold findN
  cases hB : lbB (fun v : Vpc => v.id) id n.vpcs with
  | false =>
    rw [lb_miss hs hB]
    rw [hB] at hb
    clear hs
    refine ms_i tab_ok mixed Tryz.func22 rfl Tryz.ntmps22 Tryz.results22 (by kernel_rfl) (by simp) (by simp [belowL, belowP]) (by simp [belowH, belowC, belowL, belowP, belowL_d, belowR_d]) ?_
    repeat' (first | (with_reducible refine And.intro ?_ ?_) | (with_reducible refine gK_i (fun _ => ?_) (fun _ => ?_)) | (with_reducible refine condS_i (fun _ => ?_) (fun _ => ?_)) | (with_reducible refine drw_i (by kernel_rfl)) | simp -dsimp only [go_sem, seval, *, encT, undef] | ((with_reducible refine opK_c ?_); simp -dsimp only [go_sem, seval, encT, undef]; first | refine callK_r (by first | assumption | exact hb) (by first | exact .inl rfl | exact .inr rfl) ?_ | (refine callK_i (by assumption) ?_ ?_ ?_; (solve | (repeat (first | exact DLe.refl _ | exact DLe.nil _ | (refine DLe.tup ?_) | (refine DLe.agg ?_ rfl) | exact trivial | (refine And.intro ?_ ?_)))); (solve | exact .inl rfl | exact .inr rfl))) | fail | omega | exact decide_eq_true (by omega) | exact DLe.refl _)
    all_goals exact weak_eq rfl rfl
  | true =>
    obtain ⟨v, hv, he⟩ : ∃ v, n.vpcs[lbN (fun v : Vpc => v.id) id n.vpcs]? = some v ∧ v.id = id := by
      unfold lbB at hB
      cases hq : n.vpcs[lbN (fun v : Vpc => v.id) id n.vpcs]? with
      | none => rw [hq] at hB; cases hB
      | some v => rw [hq] at hB; exact ⟨v, rfl, by simpa using hB⟩
    rw [lb_hit hs hv he]
    rw [hB] at hb
    clear hs
    replace he := Lib.hid he
    have hlt := (List.getElem?_eq_some_iff.1 hv).1
    generalize lbN (fun v : Vpc => v.id) id n.vpcs = k at *
    refine ms_i tab_ok mixed Tryz.func22 rfl Tryz.ntmps22 Tryz.results22 (by kernel_rfl) (by simp) (by simp [belowL, belowP]) (by simp [belowH, belowC, belowL, belowP, belowL_d, belowR_d]) ?_
    repeat' (first | (with_reducible refine And.intro ?_ ?_) | (with_reducible refine gK_i (fun _ => ?_) (fun _ => ?_)) | (with_reducible refine condS_i (fun _ => ?_) (fun _ => ?_)) | (with_reducible refine drw_i (by kernel_rfl)) | simp -dsimp only [go_sem, seval, *, encT, hv, undef] | ((with_reducible refine opK_c ?_); simp -dsimp only [go_sem, seval, encT, hv, undef]; first | refine callK_r (by first | assumption | exact hb) (by first | exact .inl rfl | exact .inr rfl) ?_ | (refine callK_i (by assumption) ?_ ?_ ?_; (solve | (repeat (first | exact DLe.refl _ | exact DLe.nil _ | (refine DLe.tup ?_) | (refine DLe.agg ?_ rfl) | exact trivial | (refine And.intro ?_ ?_)))); (solve | exact .inl rfl | exact .inr rfl))) | fail | omega | exact decide_eq_true (by omega) | exact DLe.refl _)
    all_goals exact weak_eq rfl rfl
end Go.Proofs.YtgmbhaclogabeaaGreat
namespace Go.Proofs.YtgmbhaclogabeaaGreat
open Go Go.RowKit
theorem head_up {ents : List (List Int × Int)} {a b r : Int} (hb : lkE ents [b] = some b) (hr : r ≠ b) : ∀ {n : Nat} {x : Int}, HeadIs ents n x r → HeadIs (upE ents [b] a) n x r
  | 0, x, h => by
    obtain ⟨h1, rfl⟩ := h
    exact ⟨by rw [lkE_up, if_neg (by simpa using fun e => hr e.symm)]; exact h1, rfl⟩
  | n + 1, x, h => by
    obtain ⟨y, h1, h2, h3⟩ := h
    have hx : b ≠ x := fun e => by subst e; rw [hb] at h1; exact h2 (Option.some.inj h1).symm
    exact ⟨y, by rw [lkE_up, if_neg (by simpa using hx)]; exact h1, h2, head_up hb hr h3⟩
theorem head_up2 {ents : List (List Int × Int)} {a b : Int} (ha : lkE ents [a] = some a) (hb : lkE ents [b] = some b) (hab : a ≠ b) : ∀ {n : Nat} {x : Int}, HeadIs ents n x b → HeadIs (upE ents [b] a) (n + 1) x a
  | 0, x, h => by
    obtain ⟨h1, rfl⟩ := h
    exact ⟨a, by rw [lkE_up, if_pos rfl], hab, by rw [lkE_up, if_neg (by simpa using fun e => hab e.symm)]; exact ha, rfl⟩
  | n + 1, x, h => by
    obtain ⟨y, h1, h2, h3⟩ := h
    have hx : b ≠ x := fun e => by subst e; rw [hb] at h1; exact h2 (Option.some.inj h1).symm
    exact ⟨y, by rw [lkE_up, if_neg (by simpa using hx)]; exact h1, h2, head_up2 ha hb hab h3⟩
theorem head_same {ents : List (List Int × Int)} {b r : Int} (hb : lkE ents [b] = some b) : ∀ {n : Nat} {x : Int}, HeadIs ents n x r → HeadIs (upE ents [b] b) n x r
  | 0, x, h => by
    obtain ⟨h1, rfl⟩ := h
    refine ⟨?_, rfl⟩
    rw [lkE_up]
    split
    · rename_i e; simp at e; rw [e]
    · exact h1
  | n + 1, x, h => by
    obtain ⟨y, h1, h2, h3⟩ := h
    refine ⟨y, ?_, h2, head_same hb h3⟩
    rw [lkE_up, if_neg]
    · exact h1
    · intro e; simp at e; subst e; rw [hb] at h1; exact h2 (Option.some.inj h1).symm
/-- A map of groups, and the heads that it tells. -/
def GrpOK (ids : List Int) (ents : List (List Int × Int)) (F : Int → Int) : Prop := ∀ x ∈ ids, (∃ n, HeadIs ents n x (F x)) ∧ F x ∈ ids ∧ lkE ents [F x] = some (F x)
def stepF (F : Int → Int) (l : Lnk) : Int → Int := fun x => if F x = F l.b then F l.a else F x
def stepG (s : List (List Int × Int) × (Int → Int)) (l : Lnk) : List (List Int × Int) × (Int → Int) := (upE s.1 [s.2 l.b] (s.2 l.a), stepF s.2 l)
theorem grp_step {ids : List Int} {ents : List (List Int × Int)} {F : Int → Int} {l : Lnk} (h : GrpOK ids ents F) (ha : l.a ∈ ids) (hb : l.b ∈ ids) : GrpOK ids (upE ents [F l.b] (F l.a)) (stepF F l) := by
  obtain ⟨-, fa, ra⟩ := h l.a ha
  obtain ⟨-, fb, rb⟩ := h l.b hb
  intro x hx
  obtain ⟨⟨n, hn⟩, fx, rx⟩ := h x hx
  unfold stepF
  by_cases hab : F l.a = F l.b
  · rw [hab]
    by_cases hxb : F x = F l.b
    · rw [if_pos hxb, ← hxb]
      exact ⟨⟨n, head_same rx hn⟩, fx, by rw [lkE_up, if_pos rfl]⟩
    · rw [if_neg hxb]
      exact ⟨⟨n, head_same rb hn⟩, fx, by rw [lkE_up, if_neg (by simpa using fun e => hxb e.symm)]; exact rx⟩
  · by_cases hxb : F x = F l.b
    · rw [if_pos hxb]
      rw [hxb] at hn
      exact ⟨⟨n + 1, head_up2 ra rb hab hn⟩, fa, by rw [lkE_up, if_neg (by simpa using fun e => hab e.symm)]; exact ra⟩
    · rw [if_neg hxb]
      exact ⟨⟨n, head_up rb hxb hn⟩, fx, by rw [lkE_up, if_neg (by simpa using fun e => hxb e.symm)]; exact rx⟩
end Go.Proofs.YtgmbhaclogabeaaGreat
namespace Go.Proofs.YtgmbhaclogabeaaGreat
open Go Go.RowKit
def ents0 (vs : List Vpc) : List (List Int × Int) := vs.foldl (fun e v => upE e [v.id] v.id) []
theorem foldl_snoc {α β : Type} {f : β → α → β} {b : β} {l : List α} {k : Nat} {x : α} (h : l[k]? = some x) : (l.take (k + 1)).foldl f b = f ((l.take k).foldl f b) x := by rw [take_snoc h, List.foldl_append]; rfl
theorem ents0_at (l : List Vpc) (e : List (List Int × Int)) (x : Int) : lkE (l.foldl (fun e v => upE e [v.id] v.id) e) [x] = if x ∈ l.map (·.id) then some x else lkE e [x] := by
  induction l generalizing e with
  | nil => simp
  | cons v l ih =>
    rw [List.foldl_cons, ih, lkE_up]
    by_cases h1 : x ∈ l.map (·.id)
    · rw [if_pos h1, if_pos (by simp only [List.map_cons, List.mem_cons]; exact .inr h1)]
    · rw [if_neg h1]
      by_cases h2 : v.id = x
      · subst h2; simp
      · rw [if_neg (by simpa using h2), if_neg]
        simp only [List.map_cons, List.mem_cons, not_or]
        exact ⟨fun e => h2 e.symm, h1⟩
theorem grp_0 (vs : List Vpc) : GrpOK (vs.map (·.id)) (ents0 vs) (fun x => x) := fun x hx => by
  have := ents0_at vs [] x
  rw [if_pos hx] at this
  exact ⟨⟨0, this, rfl⟩, hx, this⟩
def stN (n : Net) : List (List Int × Int) × (Int → Int) := n.links.foldl stepG (ents0 n.vpcs, fun x => x)
theorem grp_k {n : Net} (hl : ∀ l ∈ n.links, l.a ∈ n.vpcs.map (·.id) ∧ l.b ∈ n.vpcs.map (·.id)) (k : Nat) : GrpOK (n.vpcs.map (·.id)) ((n.links.take k).foldl stepG (ents0 n.vpcs, fun x => x)).1 ((n.links.take k).foldl stepG (ents0 n.vpcs, fun x => x)).2 := by
  induction k with
  | zero => exact grp_0 n.vpcs
  | succ k ih =>
    by_cases hk : k < n.links.length
    · have hx := List.getElem?_eq_getElem hk
      rw [foldl_snoc hx]
      have := hl _ (List.getElem_mem hk)
      exact grp_step ih this.1 this.2
    · rw [List.take_of_length_le (by omega)] at ih ⊢
      exact ih
end Go.Proofs.YtgmbhaclogabeaaGreat
namespace Go.Proofs.YtgmbhaclogabeaaGreat
open Go Go.RowKit
set_option maxRecDepth 100000 in
set_option maxHeartbeats 1000000 in
theorem of_m (n : Net) (h1 : n.vpcs.length ≤ 1000000000) (h2 : n.links.length ≤ 1000000000) (hl : ∀ l ∈ n.links, l.a ∈ n.vpcs.map (·.id) ∧ l.b ∈ n.vpcs.map (·.id)) :
    MSpec Tryz.prog 23 [.d (.ept (encT n))] [] (.mref 0) [.mp 1 false (stN n).1] := by
  have hg := Lib.hid (grp_k hl)
  replace hl := Lib.hid hl
  refine ms_i tab_ok mixed Tryz.func23 rfl Tryz.ntmps23 Tryz.results23 (by kernel_rfl) (by simp) (by simp [belowL, belowP]) (by simp [belowH, belowC, belowL, belowP, belowL_d, belowR_d]) ?_
  repeat' (first | (with_reducible refine And.intro ?_ ?_) | (with_reducible refine gK_i (fun _ => ?_) (fun _ => ?_)) | (with_reducible refine condS_i (fun _ => ?_) (fun _ => ?_)) | (with_reducible refine drw_i (by kernel_rfl)) | simp -dsimp only [go_sem, seval, *, encT] | ((with_reducible refine opK_c ?_); simp -dsimp only [go_sem, seval, encT]; first | refine callK_r (by first | assumption | fail) (by first | exact .inl rfl | exact .inr rfl) ?_ | (refine callK_i (by assumption) ?_ ?_ ?_; (solve | (repeat (first | exact DLe.refl _ | exact DLe.nil _ | (refine DLe.tup ?_) | (refine DLe.agg ?_ rfl) | exact trivial | (refine And.intro ?_ ?_)))); (solve | exact .inl rfl | exact .inr rfl))) | fail | omega | exact decide_eq_true (by omega) | exact DLe.refl _)
  refine loopL tab_ok mixed n.vpcs (fun _ => True) (fun k => [(14, .d (.v (.int .i64 k))), (13, .d (.v (.int .i64 n.vpcs.length))), (12, .d (.sl 3 (n.vpcs.map encV))), (3, .mref 0), (0, .d (.ept (encT n)))]) (fun k => [.mp 1 false (ents0 (n.vpcs.take k))]) trivial (weak_forget _ (by simp) (by (try simp only [encT]); rfl) (by (repeat' (first | exact trivial | (refine ⟨rfl, ?_⟩)))) (by first | rfl | simp only [belowH, belowE, belowC, belowL, belowR, belowP, belowL_d, belowR_d, List.length_cons, List.length_nil, Nat.reduceAdd, Nat.reduceLT, decide_true, Bool.and_self, Bool.and_true]) (by first | rfl | simp only [belowH, belowE, belowC, belowL, belowR, belowP, belowL_d, belowR_d, List.length_cons, List.length_nil, Nat.reduceAdd, Nat.reduceLT, decide_true, Bool.and_self, Bool.and_true])) ?_ ?_
  · intro k v hv hk _ C hC
    have hkI : (k : Int) < (n.vpcs.length : Int) := by omega
    have hwr : IntKind.i64.wrap ((k : Int) + 1) = ((k + 1 : Nat) : Int) := by rw [IntKind.wrap_i64]; omega
    have hs : ents0 (n.vpcs.take (k + 1)) = upE (ents0 (n.vpcs.take k)) [v.id] v.id := foldl_snoc hv
    replace hs := Lib.hid hs
    repeat' (first | (with_reducible refine And.intro ?_ ?_) | (with_reducible refine gK_i (fun _ => ?_) (fun _ => ?_)) | (with_reducible refine condS_i (fun _ => ?_) (fun _ => ?_)) | (with_reducible refine drw_i (by kernel_rfl)) | simp -dsimp only [go_sem, seval, *, encT, encV, hkI, hwr, hv, undef] | ((with_reducible refine opK_c ?_); simp -dsimp only [go_sem, seval, encT, encV, hkI, hwr, hv, undef]; first | refine callK_r (by first | assumption | fail) (by first | exact .inl rfl | exact .inr rfl) ?_ | (refine callK_i (by assumption) ?_ ?_ ?_; (solve | (repeat (first | exact DLe.refl _ | exact DLe.nil _ | (refine DLe.tup ?_) | (refine DLe.agg ?_ rfl) | exact trivial | (refine And.intro ?_ ?_)))); (solve | exact .inl rfl | exact .inr rfl))) | fail | omega | exact decide_eq_true (by omega) | exact DLe.refl _)
    exact hC _ _ trivial (weak_forget _ (by simp) (by rw [hs.out]; rfl) (by (repeat' (first | exact trivial | (refine ⟨rfl, ?_⟩)))) (by first | rfl | simp only [belowH, belowE, belowC, belowL, belowR, belowP, belowL_d, belowR_d, List.length_cons, List.length_nil, Nat.reduceAdd, Nat.reduceLT, decide_true, Bool.and_self, Bool.and_true]) (by first | rfl | simp only [belowH, belowE, belowC, belowL, belowR, belowP, belowL_d, belowR_d, List.length_cons, List.length_nil, Nat.reduceAdd, Nat.reduceLT, decide_true, Bool.and_self, Bool.and_true]))
  · intro _ C
    rw [List.take_length]
    repeat' (first | (with_reducible refine And.intro ?_ ?_) | (with_reducible refine gK_i (fun _ => ?_) (fun _ => ?_)) | (with_reducible refine condS_i (fun _ => ?_) (fun _ => ?_)) | (with_reducible refine drw_i (by kernel_rfl)) | simp -dsimp only [go_sem, seval, *, encT, Int.lt_irrefl, undef] | ((with_reducible refine opK_c ?_); simp -dsimp only [go_sem, seval, encT, Int.lt_irrefl, undef]; first | refine callK_r (by first | assumption | fail) (by first | exact .inl rfl | exact .inr rfl) ?_ | (refine callK_i (by assumption) ?_ ?_ ?_; (solve | (repeat (first | exact DLe.refl _ | exact DLe.nil _ | (refine DLe.tup ?_) | (refine DLe.agg ?_ rfl) | exact trivial | (refine And.intro ?_ ?_)))); (solve | exact .inl rfl | exact .inr rfl))) | fail | omega | exact decide_eq_true (by omega) | exact DLe.refl _)
    refine loopL tab_ok mixed n.links (fun _ => True) (fun k => [(29, .d (.v (.int .i64 k))), (28, .d (.v (.int .i64 n.links.length))), (27, .d (.sl 2 (n.links.map encK))), (3, .mref 0)]) (fun k => [.mp 1 false ((n.links.take k).foldl stepG (ents0 n.vpcs, fun x => x)).1]) trivial (weak_forget _ (by simp) (by (try simp only [encT]); rfl) (by (repeat' (first | exact trivial | (refine ⟨rfl, ?_⟩)))) (by first | rfl | simp only [belowH, belowE, belowC, belowL, belowR, belowP, belowL_d, belowR_d, List.length_cons, List.length_nil, Nat.reduceAdd, Nat.reduceLT, decide_true, Bool.and_self, Bool.and_true]) (by first | rfl | simp only [belowH, belowE, belowC, belowL, belowR, belowP, belowL_d, belowR_d, List.length_cons, List.length_nil, Nat.reduceAdd, Nat.reduceLT, decide_true, Bool.and_self, Bool.and_true])) ?_ ?_
    · intro k l hlk hk _ C hC
      have hkI : (k : Int) < (n.links.length : Int) := by omega
      have hwr : IntKind.i64.wrap ((k : Int) + 1) = ((k + 1 : Nat) : Int) := by rw [IntKind.wrap_i64]; omega
      have hs : ((n.links.take (k + 1)).foldl stepG (ents0 n.vpcs, fun x => x)).1 = upE ((n.links.take k).foldl stepG (ents0 n.vpcs, fun x => x)).1 [((n.links.take k).foldl stepG (ents0 n.vpcs, fun x => x)).2 l.b] (((n.links.take k).foldl stepG (ents0 n.vpcs, fun x => x)).2 l.a) := by rw [foldl_snoc hlk]; rfl
      have hm := hl.out l (List.mem_of_getElem? hlk)
      obtain ⟨⟨na, ha⟩, -, -⟩ := hg.out k l.a hm.1
      obtain ⟨⟨nb, hb⟩, -, -⟩ := hg.out k l.b hm.2
      generalize (n.links.take k).foldl stepG (ents0 n.vpcs, fun x => x) = S at *
      have hma := head_m S.1 na l.a (S.2 l.a) ha
      have hmb := head_m S.1 nb l.b (S.2 l.b) hb
      clear ha hb hm
      replace hs := Lib.hid hs
      repeat' (first | (with_reducible refine And.intro ?_ ?_) | (with_reducible refine gK_i (fun _ => ?_) (fun _ => ?_)) | (with_reducible refine condS_i (fun _ => ?_) (fun _ => ?_)) | (with_reducible refine drw_i (by kernel_rfl)) | simp -dsimp only [go_sem, seval, *, encT, encK, hkI, hwr, hlk, undef] | ((with_reducible refine opK_c ?_); simp -dsimp only [go_sem, seval, encT, encK, hkI, hwr, hlk, undef]; first | refine callK_r (by first | assumption | fail) (by first | exact .inl rfl | exact .inr rfl) ?_ | (refine callK_i (by assumption) ?_ ?_ ?_; (solve | (repeat (first | exact DLe.refl _ | exact DLe.nil _ | (refine DLe.tup ?_) | (refine DLe.agg ?_ rfl) | exact trivial | (refine And.intro ?_ ?_)))); (solve | exact .inl rfl | exact .inr rfl))) | (refine opK_M [0] (hmb) ?_ ?_ ?_ ?_ ?_ ?_; (solve | rfl | simp only [go_sem, seval, encK]); (solve | rfl); (solve | decide); (solve | simp); (solve | simp only [go_sem, seval, lentOK, encK])) | (refine opK_M [0] (hma) ?_ ?_ ?_ ?_ ?_ ?_; (solve | rfl | simp only [go_sem, seval, encK]); (solve | rfl); (solve | decide); (solve | simp); (solve | simp only [go_sem, seval, lentOK, encK])) | omega | exact decide_eq_true (by omega) | exact DLe.refl _)
      exact hC _ _ trivial (weak_forget _ (by simp) (by rw [hs.out]; rfl) (by (repeat' (first | exact trivial | (refine ⟨rfl, ?_⟩)))) (by first | rfl | simp only [belowH, belowE, belowC, belowL, belowR, belowP, belowL_d, belowR_d, List.length_cons, List.length_nil, Nat.reduceAdd, Nat.reduceLT, decide_true, Bool.and_self, Bool.and_true]) (by first | rfl | simp only [belowH, belowE, belowC, belowL, belowR, belowP, belowL_d, belowR_d, List.length_cons, List.length_nil, Nat.reduceAdd, Nat.reduceLT, decide_true, Bool.and_self, Bool.and_true]))
    · intro _ C
      rw [List.take_length]
      repeat' (first | (with_reducible refine And.intro ?_ ?_) | (with_reducible refine gK_i (fun _ => ?_) (fun _ => ?_)) | (with_reducible refine condS_i (fun _ => ?_) (fun _ => ?_)) | (with_reducible refine drw_i (by kernel_rfl)) | simp -dsimp only [go_sem, seval, *, encT, Int.lt_irrefl, undef] | ((with_reducible refine opK_c ?_); simp -dsimp only [go_sem, seval, encT, Int.lt_irrefl, undef]; first | refine callK_r (by first | assumption | fail) (by first | exact .inl rfl | exact .inr rfl) ?_ | (refine callK_i (by assumption) ?_ ?_ ?_; (solve | (repeat (first | exact DLe.refl _ | exact DLe.nil _ | (refine DLe.tup ?_) | (refine DLe.agg ?_ rfl) | exact trivial | (refine And.intro ?_ ?_)))); (solve | exact .inl rfl | exact .inr rfl))) | fail | omega | exact decide_eq_true (by omega) | exact DLe.refl _)
      all_goals exact weak_eq rfl rfl
set_option maxRecDepth 100000 in
set_option maxHeartbeats 1000000 in
theorem ofB_m (n : Net) (h1 : n.vpcs.length ≤ 1000000000) (h2 : n.links.length ≤ 1000000000) (hl : ∀ l ∈ n.links, l.a ∈ n.vpcs.map (·.id) ∧ l.b ∈ n.vpcs.map (·.id)) :
    MSpec Tryz.prog 23 [.ptr 0 0] [.box 25 ((encT n).map .d)] (.mref 1) [.box 25 ((encT n).map .d),.mp 1 false (stN n).1] := by
  have hg := Lib.hid (grp_k hl)
  replace hl := Lib.hid hl
  refine ms_i tab_ok mixed Tryz.func23 rfl Tryz.ntmps23 Tryz.results23 (by kernel_rfl) (by simp) (by simp [belowL, belowP]) (by simp [belowH, belowC, belowL, belowP, belowL_d, belowR_d]) ?_
  repeat' (first | (with_reducible refine And.intro ?_ ?_) | (with_reducible refine gK_i (fun _ => ?_) (fun _ => ?_)) | (with_reducible refine condS_i (fun _ => ?_) (fun _ => ?_)) | (with_reducible refine drw_i (by kernel_rfl)) | simp -dsimp only [go_sem, seval, *, encT] | ((with_reducible refine opK_c ?_); simp -dsimp only [go_sem, seval, encT]; first | refine callK_r (by first | assumption | fail) (by first | exact .inl rfl | exact .inr rfl) ?_ | (refine callK_i (by assumption) ?_ ?_ ?_; (solve | (repeat (first | exact DLe.refl _ | exact DLe.nil _ | (refine DLe.tup ?_) | (refine DLe.agg ?_ rfl) | exact trivial | (refine And.intro ?_ ?_)))); (solve | exact .inl rfl | exact .inr rfl))) | fail | omega | exact decide_eq_true (by omega) | exact DLe.refl _)
  refine loopL tab_ok mixed n.vpcs (fun _ => True) (fun k => [(14, .d (.v (.int .i64 k))), (13, .d (.v (.int .i64 n.vpcs.length))), (12, .d (.sl 3 (n.vpcs.map encV))), (3, .mref 1), (0, .ptr 0 0)]) (fun k => [.box 25 ((encT n).map .d),.mp 1 false (ents0 (n.vpcs.take k))]) trivial (weak_forget _ (by simp) (by (try simp only [encT]); rfl) (by (repeat' (first | exact trivial | (refine ⟨rfl, ?_⟩)))) (by first | rfl | simp only [belowH, belowE, belowC, belowL, belowR, belowP, belowL_d, belowR_d, List.length_cons, List.length_nil, Nat.reduceAdd, Nat.reduceLT, decide_true, Bool.and_self, Bool.and_true]) (by first | rfl | simp only [belowH, belowE, belowC, belowL, belowR, belowP, belowL_d, belowR_d, List.length_cons, List.length_nil, Nat.reduceAdd, Nat.reduceLT, decide_true, Bool.and_self, Bool.and_true])) ?_ ?_
  · intro k v hv hk _ C hC
    have hkI : (k : Int) < (n.vpcs.length : Int) := by omega
    have hwr : IntKind.i64.wrap ((k : Int) + 1) = ((k + 1 : Nat) : Int) := by rw [IntKind.wrap_i64]; omega
    have hs : ents0 (n.vpcs.take (k + 1)) = upE (ents0 (n.vpcs.take k)) [v.id] v.id := foldl_snoc hv
    replace hs := Lib.hid hs
    repeat' (first | (with_reducible refine And.intro ?_ ?_) | (with_reducible refine gK_i (fun _ => ?_) (fun _ => ?_)) | (with_reducible refine condS_i (fun _ => ?_) (fun _ => ?_)) | (with_reducible refine drw_i (by kernel_rfl)) | simp -dsimp only [go_sem, seval, *, encT, encV, hkI, hwr, hv, undef] | ((with_reducible refine opK_c ?_); simp -dsimp only [go_sem, seval, encT, encV, hkI, hwr, hv, undef]; first | refine callK_r (by first | assumption | fail) (by first | exact .inl rfl | exact .inr rfl) ?_ | (refine callK_i (by assumption) ?_ ?_ ?_; (solve | (repeat (first | exact DLe.refl _ | exact DLe.nil _ | (refine DLe.tup ?_) | (refine DLe.agg ?_ rfl) | exact trivial | (refine And.intro ?_ ?_)))); (solve | exact .inl rfl | exact .inr rfl))) | fail | omega | exact decide_eq_true (by omega) | exact DLe.refl _)
    exact hC _ _ trivial (weak_forget _ (by simp) (by rw [hs.out]; rfl) (by (repeat' (first | exact trivial | (refine ⟨rfl, ?_⟩)))) (by first | rfl | simp only [belowH, belowE, belowC, belowL, belowR, belowP, belowL_d, belowR_d, List.length_cons, List.length_nil, Nat.reduceAdd, Nat.reduceLT, decide_true, Bool.and_self, Bool.and_true]) (by first | rfl | simp only [belowH, belowE, belowC, belowL, belowR, belowP, belowL_d, belowR_d, List.length_cons, List.length_nil, Nat.reduceAdd, Nat.reduceLT, decide_true, Bool.and_self, Bool.and_true]))
  · intro _ C
    rw [List.take_length]
    repeat' (first | (with_reducible refine And.intro ?_ ?_) | (with_reducible refine gK_i (fun _ => ?_) (fun _ => ?_)) | (with_reducible refine condS_i (fun _ => ?_) (fun _ => ?_)) | (with_reducible refine drw_i (by kernel_rfl)) | simp -dsimp only [go_sem, seval, *, encT, Int.lt_irrefl, undef] | ((with_reducible refine opK_c ?_); simp -dsimp only [go_sem, seval, encT, Int.lt_irrefl, undef]; first | refine callK_r (by first | assumption | fail) (by first | exact .inl rfl | exact .inr rfl) ?_ | (refine callK_i (by assumption) ?_ ?_ ?_; (solve | (repeat (first | exact DLe.refl _ | exact DLe.nil _ | (refine DLe.tup ?_) | (refine DLe.agg ?_ rfl) | exact trivial | (refine And.intro ?_ ?_)))); (solve | exact .inl rfl | exact .inr rfl))) | fail | omega | exact decide_eq_true (by omega) | exact DLe.refl _)
    refine loopL tab_ok mixed n.links (fun _ => True) (fun k => [(29, .d (.v (.int .i64 k))), (28, .d (.v (.int .i64 n.links.length))), (27, .d (.sl 2 (n.links.map encK))), (3, .mref 1)]) (fun k => [.box 25 ((encT n).map .d),.mp 1 false ((n.links.take k).foldl stepG (ents0 n.vpcs, fun x => x)).1]) trivial (weak_forget _ (by simp) (by (try simp only [encT]); rfl) (by (repeat' (first | exact trivial | (refine ⟨rfl, ?_⟩)))) (by first | rfl | simp only [belowH, belowE, belowC, belowL, belowR, belowP, belowL_d, belowR_d, List.length_cons, List.length_nil, Nat.reduceAdd, Nat.reduceLT, decide_true, Bool.and_self, Bool.and_true]) (by first | rfl | simp only [belowH, belowE, belowC, belowL, belowR, belowP, belowL_d, belowR_d, List.length_cons, List.length_nil, Nat.reduceAdd, Nat.reduceLT, decide_true, Bool.and_self, Bool.and_true])) ?_ ?_
    · intro k l hlk hk _ C hC
      have hkI : (k : Int) < (n.links.length : Int) := by omega
      have hwr : IntKind.i64.wrap ((k : Int) + 1) = ((k + 1 : Nat) : Int) := by rw [IntKind.wrap_i64]; omega
      have hs : ((n.links.take (k + 1)).foldl stepG (ents0 n.vpcs, fun x => x)).1 = upE ((n.links.take k).foldl stepG (ents0 n.vpcs, fun x => x)).1 [((n.links.take k).foldl stepG (ents0 n.vpcs, fun x => x)).2 l.b] (((n.links.take k).foldl stepG (ents0 n.vpcs, fun x => x)).2 l.a) := by rw [foldl_snoc hlk]; rfl
      have hm := hl.out l (List.mem_of_getElem? hlk)
      obtain ⟨⟨na, ha⟩, -, -⟩ := hg.out k l.a hm.1
      obtain ⟨⟨nb, hb⟩, -, -⟩ := hg.out k l.b hm.2
      generalize (n.links.take k).foldl stepG (ents0 n.vpcs, fun x => x) = S at *
      have hma := head_m S.1 na l.a (S.2 l.a) ha
      have hmb := head_m S.1 nb l.b (S.2 l.b) hb
      clear ha hb hm
      replace hs := Lib.hid hs
      repeat' (first | (with_reducible refine And.intro ?_ ?_) | (with_reducible refine gK_i (fun _ => ?_) (fun _ => ?_)) | (with_reducible refine condS_i (fun _ => ?_) (fun _ => ?_)) | (with_reducible refine drw_i (by kernel_rfl)) | simp -dsimp only [go_sem, seval, *, encT, encK, hkI, hwr, hlk, undef] | ((with_reducible refine opK_c ?_); simp -dsimp only [go_sem, seval, encT, encK, hkI, hwr, hlk, undef]; first | refine callK_r (by first | assumption | fail) (by first | exact .inl rfl | exact .inr rfl) ?_ | (refine callK_i (by assumption) ?_ ?_ ?_; (solve | (repeat (first | exact DLe.refl _ | exact DLe.nil _ | (refine DLe.tup ?_) | (refine DLe.agg ?_ rfl) | exact trivial | (refine And.intro ?_ ?_)))); (solve | exact .inl rfl | exact .inr rfl))) | (refine opK_M [1] (hmb) ?_ ?_ ?_ ?_ ?_ ?_; (solve | rfl | simp only [go_sem, seval, encK]); (solve | rfl); (solve | decide); (solve | simp); (solve | simp only [go_sem, seval, lentOK, encK])) | (refine opK_M [1] (hma) ?_ ?_ ?_ ?_ ?_ ?_; (solve | rfl | simp only [go_sem, seval, encK]); (solve | rfl); (solve | decide); (solve | simp); (solve | simp only [go_sem, seval, lentOK, encK])) | omega | exact decide_eq_true (by omega) | exact DLe.refl _)
      exact hC _ _ trivial (weak_forget _ (by simp) (by rw [hs.out]; rfl) (by (repeat' (first | exact trivial | (refine ⟨rfl, ?_⟩)))) (by first | rfl | simp only [belowH, belowE, belowC, belowL, belowR, belowP, belowL_d, belowR_d, List.length_cons, List.length_nil, Nat.reduceAdd, Nat.reduceLT, decide_true, Bool.and_self, Bool.and_true]) (by first | rfl | simp only [belowH, belowE, belowC, belowL, belowR, belowP, belowL_d, belowR_d, List.length_cons, List.length_nil, Nat.reduceAdd, Nat.reduceLT, decide_true, Bool.and_self, Bool.and_true]))
    · intro _ C
      rw [List.take_length]
      repeat' (first | (with_reducible refine And.intro ?_ ?_) | (with_reducible refine gK_i (fun _ => ?_) (fun _ => ?_)) | (with_reducible refine condS_i (fun _ => ?_) (fun _ => ?_)) | (with_reducible refine drw_i (by kernel_rfl)) | simp -dsimp only [go_sem, seval, *, encT, Int.lt_irrefl, undef] | ((with_reducible refine opK_c ?_); simp -dsimp only [go_sem, seval, encT, Int.lt_irrefl, undef]; first | refine callK_r (by first | assumption | fail) (by first | exact .inl rfl | exact .inr rfl) ?_ | (refine callK_i (by assumption) ?_ ?_ ?_; (solve | (repeat (first | exact DLe.refl _ | exact DLe.nil _ | (refine DLe.tup ?_) | (refine DLe.agg ?_ rfl) | exact trivial | (refine And.intro ?_ ?_)))); (solve | exact .inl rfl | exact .inr rfl))) | fail | omega | exact decide_eq_true (by omega) | exact DLe.refl _)
      all_goals exact weak_eq rfl rfl
end Go.Proofs.YtgmbhaclogabeaaGreat
namespace Go.Proofs.YtgmbhaclogabeaaGreat
open Go Go.RowKit
def headN (n : Net) : Int → Int := (stN n).2
/-- Two networks of one group that clash. -/
def foeN (n : Net) (v w : Vpc) : Bool := (headN n v.id == headN n w.id) && clashV v w
/-- Is there peace in a net? -/
def peaceN (n : Net) : Bool := (List.range n.vpcs.length).all fun k => match n.vpcs[k]? with | some v => (n.vpcs.take k).all fun w => !foeN n v w | none => true
theorem peace_bad {n : Net} {i j : Nat} {v w : Vpc} (hij : j < i) (hv : n.vpcs[i]? = some v) (hw : n.vpcs[j]? = some w) (h : foeN n v w = true) : peaceN n = false := by
  unfold peaceN
  rw [List.all_eq_false]
  refine ⟨i, List.mem_range.2 (List.getElem?_eq_some_iff.1 hv).1, ?_⟩
  rw [hv]
  simp only [Bool.not_eq_true, List.all_eq_false]
  exact ⟨w, List.mem_of_getElem? (i := j) (by rw [List.getElem?_take_of_lt hij]; exact hw), by rw [h]; simp⟩
theorem peace_good {n : Net} (h : ∀ (i : Nat) (v w : Vpc), n.vpcs[i]? = some v → w ∈ n.vpcs.take i → foeN n v w = false) : peaceN n = true := by
  unfold peaceN
  rw [List.all_eq_true]
  intro i hi
  have hl := List.mem_range.1 hi
  rw [List.getElem?_eq_getElem hl]
  simp only [List.all_eq_true]
  intro w hw
  rw [h i _ w (List.getElem?_eq_getElem hl) hw]; rfl
end Go.Proofs.YtgmbhaclogabeaaGreat
namespace Go.Proofs.YtgmbhaclogabeaaGreat
open Go Go.RowKit
set_option maxRecDepth 100000 in
set_option maxHeartbeats 1000000 in
theorem peace_p (n : Net) (h1 : n.vpcs.length ≤ 1000000000) (h2 : n.links.length ≤ 1000000000) (hr : ∀ v ∈ n.vpcs, v.ranges.length ≤ 1000000000) (hl : ∀ l ∈ n.links, l.a ∈ n.vpcs.map (·.id) ∧ l.b ∈ n.vpcs.map (·.id)) :
    PSpec Tryz.prog 30 [.ept (encT n)] (.v (.bool (peaceN n))) := by
  have hof := of_m n h1 h2 hl
  have hg : ∀ x ∈ n.vpcs.map (·.id), ∃ k, HeadIs (stN n).1 k x (headN n x) := fun x hx => by
    have := (grp_k hl n.links.length x (by exact hx)).1
    rwa [List.take_length] at this
  replace hg := Lib.hid hg
  replace hr := Lib.hid hr
  clear hl
  obtain ⟨R, hR⟩ : ∃ R, R = peaceN n := ⟨_, rfl⟩
  rw [← hR]
  replace hR := Lib.hid hR
  generalize (stN n).1 = E at *
  refine ps_i tab_ok mixed Tryz.func30 rfl Tryz.ntmps30 Tryz.results30 (by kernel_rfl) ?_
  repeat' (first | (with_reducible refine And.intro ?_ ?_) | (with_reducible refine gK_i (fun _ => ?_) (fun _ => ?_)) | (with_reducible refine condS_i (fun _ => ?_) (fun _ => ?_)) | (with_reducible refine drw_i (by kernel_rfl)) | simp -dsimp only [go_sem, seval, *, encT] | ((with_reducible refine opK_c ?_); simp -dsimp only [go_sem, seval, encT]; first | refine callK_r (by first | assumption | fail) (by first | exact .inl rfl | exact .inr rfl) ?_ | (refine callK_i (by assumption) ?_ ?_ ?_; (solve | (repeat (first | exact DLe.refl _ | exact DLe.nil _ | (refine DLe.tup ?_) | (refine DLe.agg ?_ rfl) | exact trivial | (refine And.intro ?_ ?_)))); (solve | exact .inl rfl | exact .inr rfl))) | (refine opK_M [] (hof) ?_ ?_ ?_ ?_ ?_ ?_; (solve | rfl | simp only [go_sem, seval, encT]); (solve | rfl); (solve | decide); (solve | simp); (solve | simp only [go_sem, seval, lentOK, encT])) | omega | exact decide_eq_true (by omega) | exact DLe.refl _)
  clear hof
  refine loopL tab_ok mixed n.vpcs (fun k => ∀ (i : Nat) (v w : Vpc), i < k → n.vpcs[i]? = some v → w ∈ n.vpcs.take i → foeN n v w = false) (fun k => [(15, .d (.v (.int .i64 k))), (14, .d (.v (.int .i64 n.vpcs.length))), (13, .d (.sl 3 (n.vpcs.map encV))), (3, .mref 0), (2, .d (.v (.bool false))), (0, .d (.ept (encT n)))]) (fun _ => [.mp 1 false E]) (fun i v w h => absurd h (Nat.not_lt_zero _)) (weak_forget _ (by simp) (by (try simp only [encT]); rfl) (by (repeat' (first | exact trivial | (refine ⟨rfl, ?_⟩)))) (by first | rfl | simp only [belowH, belowE, belowC, belowL, belowR, belowP, belowL_d, belowR_d, List.length_cons, List.length_nil, Nat.reduceAdd, Nat.reduceLT, decide_true, Bool.and_self, Bool.and_true]) (by first | rfl | simp only [belowH, belowE, belowC, belowL, belowR, belowP, belowL_d, belowR_d, List.length_cons, List.length_nil, Nat.reduceAdd, Nat.reduceLT, decide_true, Bool.and_self, Bool.and_true])) ?_ ?_
  · intro k v hv hk hI C hC
    have hkI : (k : Int) < (n.vpcs.length : Int) := by omega
    have hwr : IntKind.i64.wrap ((k : Int) + 1) = ((k + 1 : Nat) : Int) := by rw [IntKind.wrap_i64]; omega
    have hkl : k ≤ n.vpcs.length := by omega
    have hvm := List.mem_of_getElem? hv
    have hrv := hr.out v hvm
    obtain ⟨nv, hhv⟩ := hg.out v.id (List.mem_map.2 ⟨v, hvm, rfl⟩)
    have hmv := head_m E nv v.id (headN n v.id) hhv
    have hlt : (n.vpcs.take k).length = k := by rw [List.length_take]; omega
    have hlt2 : ((n.vpcs.map encV).take k).length = k := by rw [← List.map_take, List.length_map]; exact hlt
    clear hhv
    replace hI := Lib.hid hI
    repeat' (first | (with_reducible refine And.intro ?_ ?_) | (with_reducible refine gK_i (fun _ => ?_) (fun _ => ?_)) | (with_reducible refine condS_i (fun _ => ?_) (fun _ => ?_)) | (with_reducible refine drw_i (by kernel_rfl)) | simp -dsimp only [go_sem, seval, *, encT, encV, hkI, hv, hkl, hlt2, undef] | ((with_reducible refine opK_c ?_); simp -dsimp only [go_sem, seval, encT, encV, hkI, hv, hkl, hlt2, undef]; first | refine callK_r (by first | assumption | fail) (by first | exact .inl rfl | exact .inr rfl) ?_ | (refine callK_i (by assumption) ?_ ?_ ?_; (solve | (repeat (first | exact DLe.refl _ | exact DLe.nil _ | (refine DLe.tup ?_) | (refine DLe.agg ?_ rfl) | exact trivial | (refine And.intro ?_ ?_)))); (solve | exact .inl rfl | exact .inr rfl))) | fail | omega | exact decide_eq_true (by omega) | exact DLe.refl _)
    refine loopL tab_ok mixed (n.vpcs.take k) (fun j => ∀ w ∈ (n.vpcs.take k).take j, foeN n v w = false) (fun j => [(27, .d (.v (.int .i64 j))), (26, .d (.v (.int .i64 k))), (25, .d (.sl 3 ((n.vpcs.map encV).take k))), (5, .ptr 1 0), (15, .d (.v (.int .i64 k))), (14, .d (.v (.int .i64 n.vpcs.length))), (13, .d (.sl 3 (n.vpcs.map encV))), (3, .mref 0), (2, .d (.v (.bool false))), (0, .d (.ept (encT n)))]) (fun _ => [.mp 1 false E, .box 56 ((encV v).map .d)]) (fun w hw => by simp at hw) (weak_forget _ (by simp) (by (try simp only [encT, encV]); rfl) (by (repeat' (first | exact trivial | (refine ⟨rfl, ?_⟩)))) (by first | rfl | simp only [belowH, belowE, belowC, belowL, belowR, belowP, belowL_d, belowR_d, List.length_cons, List.length_nil, Nat.reduceAdd, Nat.reduceLT, decide_true, Bool.and_self, Bool.and_true]) (by first | rfl | simp only [belowH, belowE, belowC, belowL, belowR, belowP, belowL_d, belowR_d, List.length_cons, List.length_nil, Nat.reduceAdd, Nat.reduceLT, decide_true, Bool.and_self, Bool.and_true])) ?_ ?_
    · intro j w hw hj hJ C2 hC2
      have hjI : (j : Int) < (k : Int) := by omega
      have hw3 : ((n.vpcs.map encV).take k)[j]? = some (encV w) := by rw [← List.map_take, List.getElem?_map, hw]; rfl
      have hwj : IntKind.i64.wrap ((j : Int) + 1) = ((j + 1 : Nat) : Int) := by rw [IntKind.wrap_i64]; omega
      have hjk : j < k := by omega
      have hw2 : n.vpcs[j]? = some w := by rw [List.getElem?_take_of_lt hjk] at hw; exact hw
      have hwm := List.mem_of_getElem? hw2
      have hrw := hr.out w hwm
      obtain ⟨nw, hhw⟩ := hg.out w.id (List.mem_map.2 ⟨w, hwm, rfl⟩)
      have hmw := head_m E nw w.id (headN n w.id) hhw
      have hcl := clash_p v w hrv hrw
      have hbad : foeN n v w = true → R = false := fun h => by rw [hR.out]; exact peace_bad hjk hv hw2 h
      have hstep : foeN n v w = false → ∀ u ∈ (n.vpcs.take k).take (j + 1), foeN n v u = false := fun h u hu => by
        rw [take_snoc hw] at hu
        rcases List.mem_append.1 hu with hu | hu
        · exact hJ u hu
        · rw [List.mem_singleton.1 hu]; exact h
      have hfd : foeN n v w = ((headN n v.id == headN n w.id) && clashV v w) := rfl
      clear hhw hlt hlt2
      replace hbad := Lib.hid hbad
      replace hstep := Lib.hid hstep
      replace hfd := Lib.hid hfd
      replace hJ := Lib.hid hJ
      replace hw := Lib.hid hw
      generalize (n.vpcs.map encV).take k = L at *
      cases e1 : (headN n v.id == headN n w.id) with
      | false =>
        have hf := Lib.hid (hstep.out (by rw [hfd.out, e1]; rfl))
        repeat' (first | (with_reducible refine And.intro ?_ ?_) | (with_reducible refine gK_i (fun _ => ?_) (fun _ => ?_)) | (with_reducible refine condS_i (fun _ => ?_) (fun _ => ?_)) | (with_reducible refine drw_i (by kernel_rfl)) | simp -dsimp only [go_sem, seval, *, encV, hjI, hwj, hw3, e1, undef] | ((with_reducible refine opK_c ?_); simp -dsimp only [go_sem, seval, encV, hjI, hwj, hw3, e1, undef]; first | refine callK_r (by first | assumption | fail) (by first | exact .inl rfl | exact .inr rfl) ?_ | (refine callK_i (by assumption) ?_ ?_ ?_; (solve | (repeat (first | exact DLe.refl _ | exact DLe.nil _ | (refine DLe.tup ?_) | (refine DLe.agg ?_ rfl) | exact trivial | (refine And.intro ?_ ?_)))); (solve | exact .inl rfl | exact .inr rfl))) | (refine opK_M [0] (hmv) ?_ ?_ ?_ ?_ ?_ ?_; (solve | rfl | simp only [go_sem, seval, encV]); (solve | rfl); (solve | decide); (solve | simp); (solve | simp only [go_sem, seval, lentOK, encV])) | (refine opK_M [0] (hmw) ?_ ?_ ?_ ?_ ?_ ?_; (solve | rfl | simp only [go_sem, seval, encV]); (solve | rfl); (solve | decide); (solve | simp); (solve | simp only [go_sem, seval, lentOK, encV])) | omega | exact decide_eq_true (by omega) | exact DLe.refl _)
        exact hC2 _ _ hf.out (weak_forget _ (by simp) (by (try simp only [encT, encV]); rfl) (by (repeat' (first | exact trivial | (refine ⟨rfl, ?_⟩)))) (by first | rfl | simp only [belowH, belowE, belowC, belowL, belowR, belowP, belowL_d, belowR_d, List.length_cons, List.length_nil, Nat.reduceAdd, Nat.reduceLT, decide_true, Bool.and_self, Bool.and_true]) (by first | rfl | simp only [belowH, belowE, belowC, belowL, belowR, belowP, belowL_d, belowR_d, List.length_cons, List.length_nil, Nat.reduceAdd, Nat.reduceLT, decide_true, Bool.and_self, Bool.and_true]))
      | true =>
        cases e2 : clashV v w with
        | true =>
          have hb : R = false := hbad.out (by rw [hfd.out, e1, e2]; rfl)
          rw [hb]
          replace hb := Lib.hid hb
          rw [e2] at hcl
          repeat' (first | (with_reducible refine And.intro ?_ ?_) | (with_reducible refine gK_i (fun _ => ?_) (fun _ => ?_)) | (with_reducible refine condS_i (fun _ => ?_) (fun _ => ?_)) | (with_reducible refine drw_i (by kernel_rfl)) | simp -dsimp only [go_sem, seval, *, encV, hjI, hwj, hw3, e1, undef] | ((with_reducible refine opK_c ?_); simp -dsimp only [go_sem, seval, encV, hjI, hwj, hw3, e1, undef]; first | refine callK_r (by first | assumption | exact hcl) (by first | exact .inl rfl | exact .inr rfl) ?_ | (refine callK_i (by assumption) ?_ ?_ ?_; (solve | (repeat (first | exact DLe.refl _ | exact DLe.nil _ | (refine DLe.tup ?_) | (refine DLe.agg ?_ rfl) | exact trivial | (refine And.intro ?_ ?_)))); (solve | exact .inl rfl | exact .inr rfl))) | (refine opK_M [0] (hmv) ?_ ?_ ?_ ?_ ?_ ?_; (solve | rfl | simp only [go_sem, seval, encV]); (solve | rfl); (solve | decide); (solve | simp); (solve | simp only [go_sem, seval, lentOK, encV])) | (refine opK_M [0] (hmw) ?_ ?_ ?_ ?_ ?_ ?_; (solve | rfl | simp only [go_sem, seval, encV]); (solve | rfl); (solve | decide); (solve | simp); (solve | simp only [go_sem, seval, lentOK, encV])) | omega | exact decide_eq_true (by omega) | exact DLe.refl _)
          all_goals exact DLe.refl _
        | false =>
          have hf := Lib.hid (hstep.out (by rw [hfd.out, e1, e2]; rfl))
          rw [e2] at hcl
          repeat' (first | (with_reducible refine And.intro ?_ ?_) | (with_reducible refine gK_i (fun _ => ?_) (fun _ => ?_)) | (with_reducible refine condS_i (fun _ => ?_) (fun _ => ?_)) | (with_reducible refine drw_i (by kernel_rfl)) | simp -dsimp only [go_sem, seval, *, encV, hjI, hwj, hw3, e1, undef] | ((with_reducible refine opK_c ?_); simp -dsimp only [go_sem, seval, encV, hjI, hwj, hw3, e1, undef]; first | refine callK_r (by first | assumption | exact hcl) (by first | exact .inl rfl | exact .inr rfl) ?_ | (refine callK_i (by assumption) ?_ ?_ ?_; (solve | (repeat (first | exact DLe.refl _ | exact DLe.nil _ | (refine DLe.tup ?_) | (refine DLe.agg ?_ rfl) | exact trivial | (refine And.intro ?_ ?_)))); (solve | exact .inl rfl | exact .inr rfl))) | (refine opK_M [0] (hmv) ?_ ?_ ?_ ?_ ?_ ?_; (solve | rfl | simp only [go_sem, seval, encV]); (solve | rfl); (solve | decide); (solve | simp); (solve | simp only [go_sem, seval, lentOK, encV])) | (refine opK_M [0] (hmw) ?_ ?_ ?_ ?_ ?_ ?_; (solve | rfl | simp only [go_sem, seval, encV]); (solve | rfl); (solve | decide); (solve | simp); (solve | simp only [go_sem, seval, lentOK, encV])) | omega | exact decide_eq_true (by omega) | exact DLe.refl _)
          exact hC2 _ _ hf.out (weak_forget _ (by simp) (by (try simp only [encT, encV]); rfl) (by (repeat' (first | exact trivial | (refine ⟨rfl, ?_⟩)))) (by first | rfl | simp only [belowH, belowE, belowC, belowL, belowR, belowP, belowL_d, belowR_d, List.length_cons, List.length_nil, Nat.reduceAdd, Nat.reduceLT, decide_true, Bool.and_self, Bool.and_true]) (by first | rfl | simp only [belowH, belowE, belowC, belowL, belowR, belowP, belowL_d, belowR_d, List.length_cons, List.length_nil, Nat.reduceAdd, Nat.reduceLT, decide_true, Bool.and_self, Bool.and_true]))
    · intro hJ C2
      rw [List.take_length] at hJ
      have hI2 : ∀ (i : Nat) (u w : Vpc), i < k + 1 → n.vpcs[i]? = some u → w ∈ n.vpcs.take i → foeN n u w = false := fun i u w hi hu hw => by
        rcases Nat.lt_or_ge i k with h | h
        · exact hI.out i u w h hu hw
        · obtain rfl : i = k := by omega
          rw [hv] at hu
          rw [← Option.some.inj hu]
          exact hJ w hw
      replace hI2 := Lib.hid hI2
      replace hJ := Lib.hid hJ
      rw [hlt]
      repeat' (first | (with_reducible refine And.intro ?_ ?_) | (with_reducible refine gK_i (fun _ => ?_) (fun _ => ?_)) | (with_reducible refine condS_i (fun _ => ?_) (fun _ => ?_)) | (with_reducible refine drw_i (by kernel_rfl)) | simp -dsimp only [go_sem, seval, *, encT, hwr, Int.lt_irrefl, undef] | ((with_reducible refine opK_c ?_); simp -dsimp only [go_sem, seval, encT, hwr, Int.lt_irrefl, undef]; first | refine callK_r (by first | assumption | fail) (by first | exact .inl rfl | exact .inr rfl) ?_ | (refine callK_i (by assumption) ?_ ?_ ?_; (solve | (repeat (first | exact DLe.refl _ | exact DLe.nil _ | (refine DLe.tup ?_) | (refine DLe.agg ?_ rfl) | exact trivial | (refine And.intro ?_ ?_)))); (solve | exact .inl rfl | exact .inr rfl))) | fail | omega | exact decide_eq_true (by omega) | exact DLe.refl _)
      exact hC _ _ hI2.out (weak_forget _ (by simp) (by (try simp only [encT]); rfl) (by (repeat' (first | exact trivial | (refine ⟨rfl, ?_⟩)))) (by first | rfl | simp only [belowH, belowE, belowC, belowL, belowR, belowP, belowL_d, belowR_d, List.length_cons, List.length_nil, Nat.reduceAdd, Nat.reduceLT, decide_true, Bool.and_self, Bool.and_true]) (by first | rfl | simp only [belowH, belowE, belowC, belowL, belowR, belowP, belowL_d, belowR_d, List.length_cons, List.length_nil, Nat.reduceAdd, Nat.reduceLT, decide_true, Bool.and_self, Bool.and_true]))
  · intro hI C
    have hb : R = true := by
      rw [hR.out]
      exact peace_good fun i v w hv hw => hI i v w (List.getElem?_eq_some_iff.1 hv).1 hv hw
    rw [hb]
    replace hb := Lib.hid hb
    replace hI := Lib.hid hI
    repeat' (first | (with_reducible refine And.intro ?_ ?_) | (with_reducible refine gK_i (fun _ => ?_) (fun _ => ?_)) | (with_reducible refine condS_i (fun _ => ?_) (fun _ => ?_)) | (with_reducible refine drw_i (by kernel_rfl)) | simp -dsimp only [go_sem, seval, *, encT, Int.lt_irrefl, undef] | ((with_reducible refine opK_c ?_); simp -dsimp only [go_sem, seval, encT, Int.lt_irrefl, undef]; first | refine callK_r (by first | assumption | fail) (by first | exact .inl rfl | exact .inr rfl) ?_ | (refine callK_i (by assumption) ?_ ?_ ?_; (solve | (repeat (first | exact DLe.refl _ | exact DLe.nil _ | (refine DLe.tup ?_) | (refine DLe.agg ?_ rfl) | exact trivial | (refine And.intro ?_ ?_)))); (solve | exact .inl rfl | exact .inr rfl))) | fail | omega | exact decide_eq_true (by omega) | exact DLe.refl _)
    all_goals exact DLe.refl _
end Go.Proofs.YtgmbhaclogabeaaGreat
namespace Go.Proofs.YtgmbhaclogabeaaGreat
open Go Go.RowKit
def lnkB (n : Net) (l : Lnk) : Bool := (findN n l.a).isSome && ((findN n l.b).isSome && decide (l.a < l.b))
def risK : List Lnk → Bool
  | l :: m :: ls => decide (ordK l m < 0) && risK (m :: ls)
  | _ => true
theorem risK_at : ∀ (l : List Lnk), risK l = true ↔ ∀ j (h : j + 1 < l.length), ordK l[j] l[j + 1] < 0
  | [] => by simp [risK]
  | [a] => by simp [risK]
  | a :: b :: l => by
    have ih := risK_at (b :: l)
    simp only [risK, Bool.and_eq_true, decide_eq_true_eq, ih]
    constructor
    · rintro ⟨h1, h2⟩ j hj
      cases j with
      | zero => exact h1
      | succ j => exact h2 j (by simpa using hj)
    · intro h
      exact ⟨h 0 (by simp), fun j hj => h (j + 1) (by simpa using hj)⟩
def vpcsB (n : Net) : Bool := n.vpcs.all (fun v => chkV v == 0) && risB (·.id) n.vpcs
def chkT (n : Net) : Int := if n.vpcs.length > 6 ∨ n.links.length > 12 then 2 else if vpcsB n && (n.links.all (lnkB n) && (risK n.links && peaceN n)) then 0 else 1
theorem find_ids {n : Net} {x : Int} (h : (findN n x).isSome = true) : x ∈ n.vpcs.map (·.id) := by
  obtain ⟨v, hv⟩ := Option.isSome_iff_exists.1 h
  unfold findN at hv
  have h1 := List.mem_of_find?_eq_some hv
  have h2 := List.find?_some hv
  exact List.mem_map.2 ⟨v, h1, by simpa using h2⟩
theorem chkT_one {n : Net} (h0 : ¬ (n.vpcs.length > 6 ∨ n.links.length > 12)) (h : vpcsB n = false ∨ n.links.all (lnkB n) = false ∨ risK n.links = false ∨ peaceN n = false) : chkT n = 1 := by
  unfold chkT
  rw [if_neg h0]
  rcases h with h | h | h | h <;> simp [h]
theorem chkT_zero {n : Net} (h0 : ¬ (n.vpcs.length > 6 ∨ n.links.length > 12)) (h1 : vpcsB n = true) (h2 : n.links.all (lnkB n) = true) (h3 : risK n.links = true) (h4 : peaceN n = true) : chkT n = 0 := by
  unfold chkT
  rw [if_neg h0, h1, h2, h3, h4]; rfl
end Go.Proofs.YtgmbhaclogabeaaGreat
namespace Go.Proofs.YtgmbhaclogabeaaGreat
open Go Go.RowKit
def lastV (l : List Vpc) : Int := (l.getLast?.map (·.id)).getD 0
theorem lastV_snoc (l : List Vpc) (v : Vpc) : lastV (l ++ [v]) = v.id := by simp [lastV]
theorem lastV_pair {l : List Vpc} (hs : l.Pairwise fun a b => a.id < b.id) {v : Vpc} (h : lastV l < v.id) : (l ++ [v]).Pairwise fun a b => a.id < b.id := by
  rw [List.pairwise_append]
  refine ⟨hs, by simp, fun a ha b hb => ?_⟩
  rw [List.mem_singleton.1 hb]
  rcases List.eq_nil_or_concat l with rfl | ⟨l', x, rfl⟩
  · cases ha
  · rw [List.concat_eq_append] at *
    rw [lastV_snoc] at h
    rw [List.pairwise_append] at hs
    rcases List.mem_append.1 ha with ha | ha
    · have := hs.2.2 a ha x (by simp); omega
    · rw [List.mem_singleton.1 ha]; exact h
theorem lastV_bad {l : List Vpc} {v : Vpc} (hv : 1 ≤ v.id) (h : v.id ≤ lastV l) : ¬ (l ++ [v]).Pairwise fun a b => a.id < b.id := by
  intro hp
  rw [List.pairwise_append] at hp
  rcases List.eq_nil_or_concat l with rfl | ⟨l', x, rfl⟩
  · simp [lastV] at h; omega
  · rw [List.concat_eq_append] at *
    rw [lastV_snoc] at h
    have := hp.2.2 x (by simp) v (by simp); omega
theorem vpcsB_take {n : Net} (h : vpcsB n = true) (k : Nat) : (∀ v ∈ n.vpcs.take k, chkV v = 0) ∧ (n.vpcs.take k).Pairwise fun a b => a.id < b.id := by
  unfold vpcsB at h
  simp only [Bool.and_eq_true, List.all_eq_true, risB_pair, beq_iff_eq] at h
  exact ⟨fun v hv => h.1 v (List.mem_of_mem_take hv), h.2.sublist (List.take_sublist _ _)⟩
theorem vpcsB_of {n : Net} (h1 : ∀ v ∈ n.vpcs, chkV v = 0) (h2 : n.vpcs.Pairwise fun a b => a.id < b.id) : vpcsB n = true := by
  unfold vpcsB
  simp only [Bool.and_eq_true, List.all_eq_true, risB_pair, beq_iff_eq]
  exact ⟨h1, h2⟩
theorem risK_snoc : ∀ (l : List Lnk) (x : Lnk), risK (l ++ [x]) = (risK l && (match l.getLast? with | some y => decide (ordK y x < 0) | none => true))
  | [], x => rfl
  | [a], x => by simp [risK]
  | a :: b :: l, x => by
    have ih := risK_snoc (b :: l) x
    have e : (a :: b :: l).getLast? = (b :: l).getLast? := by simp [List.getLast?_cons_cons]
    rw [List.cons_append, List.cons_append, risK, ← List.cons_append, ih, e, risK, Bool.and_assoc]
theorem risK_take {l : List Lnk} (h : risK l = true) (k : Nat) : risK (l.take k) = true := by
  rw [risK_at] at h ⊢
  intro j hj
  rw [List.getElem_take, List.getElem_take]
  exact h j (by rw [List.length_take] at hj; omega)
theorem last_take {α : Type} {l : List α} {j : Nat} {y : α} (h : l[j]? = some y) : (l.take (j + 1)).getLast? = some y := by rw [take_snoc h]; simp
set_option maxRecDepth 100000 in
set_option maxHeartbeats 2000000 in
theorem ncheck_p (n : Net) : PSpec Tryz.prog 15 [.agg (encT n)] (.v (.int .i64 (chkT n))) := by
  obtain ⟨R, hR⟩ : ∃ R, R = chkT n := ⟨_, rfl⟩
  rw [← hR]
  replace hR := Lib.hid hR
  by_cases h6 : n.vpcs.length > 6
  · have h6I : decide ((n.vpcs.length : Int) > 6) = true := by simp; omega
    have hr : R = 2 := by rw [hR.out, chkT, if_pos (.inl h6)]
    rw [hr]
    replace hr := Lib.hid hr
    refine ps_i tab_ok mixed Tryz.func15 rfl Tryz.ntmps15 Tryz.results15 (by kernel_rfl) ?_
    repeat' (first | (with_reducible refine And.intro ?_ ?_) | (with_reducible refine gK_i (fun _ => ?_) (fun _ => ?_)) | (with_reducible refine condS_i (fun _ => ?_) (fun _ => ?_)) | (with_reducible refine drw_i (by kernel_rfl)) | simp -dsimp only [go_sem, seval, *, encT, h6I, undef] | ((with_reducible refine opK_c ?_); simp -dsimp only [go_sem, seval, encT, h6I, undef]; first | refine callK_r (by first | assumption | fail) (by first | exact .inl rfl | exact .inr rfl) ?_ | (refine callK_i (by assumption) ?_ ?_ ?_; (solve | (repeat (first | exact DLe.refl _ | exact DLe.nil _ | (refine DLe.tup ?_) | (refine DLe.agg ?_ rfl) | exact trivial | (refine And.intro ?_ ?_)))); (solve | exact .inl rfl | exact .inr rfl))) | fail | omega | exact decide_eq_true (by omega) | exact DLe.refl _)
    all_goals exact DLe.refl _
  by_cases h12 : n.links.length > 12
  · have h6I : decide ((n.vpcs.length : Int) > 6) = false := by simp; omega
    have h12I : decide ((n.links.length : Int) > 12) = true := by simp; omega
    have hr : R = 2 := by rw [hR.out, chkT, if_pos (.inr h12)]
    rw [hr]
    replace hr := Lib.hid hr
    refine ps_i tab_ok mixed Tryz.func15 rfl Tryz.ntmps15 Tryz.results15 (by kernel_rfl) ?_
    repeat' (first | (with_reducible refine And.intro ?_ ?_) | (with_reducible refine gK_i (fun _ => ?_) (fun _ => ?_)) | (with_reducible refine condS_i (fun _ => ?_) (fun _ => ?_)) | (with_reducible refine drw_i (by kernel_rfl)) | simp -dsimp only [go_sem, seval, *, encT, h6I, h12I, undef] | ((with_reducible refine opK_c ?_); simp -dsimp only [go_sem, seval, encT, h6I, h12I, undef]; first | refine callK_r (by first | assumption | fail) (by first | exact .inl rfl | exact .inr rfl) ?_ | (refine callK_i (by assumption) ?_ ?_ ?_; (solve | (repeat (first | exact DLe.refl _ | exact DLe.nil _ | (refine DLe.tup ?_) | (refine DLe.agg ?_ rfl) | exact trivial | (refine And.intro ?_ ?_)))); (solve | exact .inl rfl | exact .inr rfl))) | fail | omega | exact decide_eq_true (by omega) | exact DLe.refl _)
    all_goals exact DLe.refl _
  have h6I : decide ((n.vpcs.length : Int) > 6) = false := by simp; omega
  have h12I : decide ((n.links.length : Int) > 12) = false := by simp; omega
  have hno : ¬ (n.vpcs.length > 6 ∨ n.links.length > 12) := by omega
  refine ps_i tab_ok mixed Tryz.func15 rfl Tryz.ntmps15 Tryz.results15 (by kernel_rfl) ?_
  repeat' (first | (with_reducible refine And.intro ?_ ?_) | (with_reducible refine gK_i (fun _ => ?_) (fun _ => ?_)) | (with_reducible refine condS_i (fun _ => ?_) (fun _ => ?_)) | (with_reducible refine drw_i (by kernel_rfl)) | simp -dsimp only [go_sem, seval, *, encT, h6I, h12I, undef] | ((with_reducible refine opK_c ?_); simp -dsimp only [go_sem, seval, encT, h6I, h12I, undef]; first | refine callK_r (by first | assumption | fail) (by first | exact .inl rfl | exact .inr rfl) ?_ | (refine callK_i (by assumption) ?_ ?_ ?_; (solve | (repeat (first | exact DLe.refl _ | exact DLe.nil _ | (refine DLe.tup ?_) | (refine DLe.agg ?_ rfl) | exact trivial | (refine And.intro ?_ ?_)))); (solve | exact .inl rfl | exact .inr rfl))) | fail | omega | exact decide_eq_true (by omega) | exact DLe.refl _)
  refine loopL tab_ok mixed n.vpcs (fun k => (∀ v ∈ n.vpcs.take k, chkV v = 0) ∧ (n.vpcs.take k).Pairwise fun a b => a.id < b.id) (fun k => [(25, .d (.v (.int .i64 k))), (24, .d (.v (.int .i64 n.vpcs.length))), (23, .d (.sl 3 (n.vpcs.map encV))), (3, .d (.v (.int .i64 (lastV (n.vpcs.take k))))), (2, .d (.v (.int .i64 0))), (1, .ptr 0 0)]) (fun _ => [.box 25 ((encT n).map .d)]) (by simp) (weak_forget _ (by simp) (by (try simp only [encT]); rfl) (by (repeat' (first | exact trivial | (refine ⟨rfl, ?_⟩)))) (by first | rfl | simp only [belowH, belowE, belowC, belowL, belowR, belowP, belowL_d, belowR_d, List.length_cons, List.length_nil, Nat.reduceAdd, Nat.reduceLT, decide_true, Bool.and_self, Bool.and_true]) (by first | rfl | simp only [belowH, belowE, belowC, belowL, belowR, belowP, belowL_d, belowR_d, List.length_cons, List.length_nil, Nat.reduceAdd, Nat.reduceLT, decide_true, Bool.and_self, Bool.and_true])) ?_ ?_
  · intro k v hv hk hI C hC
    have hkI : (k : Int) < (n.vpcs.length : Int) := by omega
    have hwr : IntKind.i64.wrap ((k : Int) + 1) = ((k + 1 : Nat) : Int) := by rw [IntKind.wrap_i64]; omega
    have htk := take_snoc hv
    have hls : lastV (n.vpcs.take (k + 1)) = v.id := by rw [htk, lastV_snoc]
    have hcv := vcheck_p v
    obtain ⟨LA, hLA⟩ : ∃ x, x = lastV (n.vpcs.take k) := ⟨_, rfl⟩
    rw [← hLA]
    by_cases hc : chkV v = 0
    · have hid : 1 ≤ v.id := by have := (vpcOK_of hc).id; simp [idOK] at this; exact this.1
      rw [hc] at hcv
      by_cases hle : v.id ≤ LA
      · have hr : R = 1 := by
          rw [hR.out]
          refine chkT_one hno (.inl ?_)
          cases hb : vpcsB n with
          | false => rfl
          | true =>
            have := (vpcsB_take hb (k + 1)).2
            rw [htk] at this
            exact absurd this (lastV_bad hid (by rw [← hLA]; exact hle))
        rw [hr]
        clear hr hI hid hC hLA hls htk
        replace hc := Lib.hid hc
        repeat' (first | (with_reducible refine And.intro ?_ ?_) | (with_reducible refine gK_i (fun _ => ?_) (fun _ => ?_)) | (with_reducible refine condS_i (fun _ => ?_) (fun _ => ?_)) | (with_reducible refine drw_i (by kernel_rfl)) | simp -dsimp only [go_sem, seval, *, encT, encV, hkI, hv, hle, undef] | ((with_reducible refine opK_c ?_); simp -dsimp only [go_sem, seval, encT, encV, hkI, hv, hle, undef]; first | refine callK_r (by first | assumption | exact hcv) (by first | exact .inl rfl | exact .inr rfl) ?_ | (refine callK_i (by assumption) ?_ ?_ ?_; (solve | (repeat (first | exact DLe.refl _ | exact DLe.nil _ | (refine DLe.tup ?_) | (refine DLe.agg ?_ rfl) | exact trivial | (refine And.intro ?_ ?_)))); (solve | exact .inl rfl | exact .inr rfl))) | fail | omega | exact decide_eq_true (by omega) | exact DLe.refl _)
        all_goals exact DLe.refl _
      · have hI2 : (∀ v ∈ n.vpcs.take (k + 1), chkV v = 0) ∧ (n.vpcs.take (k + 1)).Pairwise fun a b => a.id < b.id := by
          rw [htk]
          exact ⟨fun u hu => by
            rcases List.mem_append.1 hu with hu | hu
            · exact hI.1 u hu
            · rw [List.mem_singleton.1 hu]; exact hc, lastV_pair hI.2 (by rw [← hLA]; omega)⟩
        have hlb : decide (v.id ≤ LA) = false := by simpa using hle
        clear hI hid htk
        replace hc := Lib.hid hc
        replace hle := Lib.hid hle
        replace hI2 := Lib.hid hI2
        replace hls := Lib.hid hls
        replace hLA := Lib.hid hLA
        repeat' (first | (with_reducible refine And.intro ?_ ?_) | (with_reducible refine gK_i (fun _ => ?_) (fun _ => ?_)) | (with_reducible refine condS_i (fun _ => ?_) (fun _ => ?_)) | (with_reducible refine drw_i (by kernel_rfl)) | simp -dsimp only [go_sem, seval, *, encT, encV, hkI, hwr, hv, hlb, undef] | ((with_reducible refine opK_c ?_); simp -dsimp only [go_sem, seval, encT, encV, hkI, hwr, hv, hlb, undef]; first | refine callK_r (by first | assumption | exact hcv) (by first | exact .inl rfl | exact .inr rfl) ?_ | (refine callK_i (by assumption) ?_ ?_ ?_; (solve | (repeat (first | exact DLe.refl _ | exact DLe.nil _ | (refine DLe.tup ?_) | (refine DLe.agg ?_ rfl) | exact trivial | (refine And.intro ?_ ?_)))); (solve | exact .inl rfl | exact .inr rfl))) | fail | omega | exact decide_eq_true (by omega) | exact DLe.refl _)
        refine hC _ _ hI2.out ?_
        simp only [hls.out]
        exact weak_forget _ (by simp) (by (try simp only [encT]); rfl) (by (repeat' (first | exact trivial | (refine ⟨rfl, ?_⟩)))) (by first | rfl | simp only [belowH, belowE, belowC, belowL, belowR, belowP, belowL_d, belowR_d, List.length_cons, List.length_nil, Nat.reduceAdd, Nat.reduceLT, decide_true, Bool.and_self, Bool.and_true]) (by first | rfl | simp only [belowH, belowE, belowC, belowL, belowR, belowP, belowL_d, belowR_d, List.length_cons, List.length_nil, Nat.reduceAdd, Nat.reduceLT, decide_true, Bool.and_self, Bool.and_true])
    · have hr : R = 1 := by
        rw [hR.out]
        refine chkT_one hno (.inl ?_)
        cases hb : vpcsB n with
        | false => rfl
        | true => exact absurd ((vpcsB_take hb (k + 1)).1 v (by rw [htk]; simp)) hc
      have hcb : (chkV v != 0) = true := by simpa using hc
      rw [hr]
      clear hr hI hC hLA hls htk
      replace hc := Lib.hid hc
      repeat' (first | (with_reducible refine And.intro ?_ ?_) | (with_reducible refine gK_i (fun _ => ?_) (fun _ => ?_)) | (with_reducible refine condS_i (fun _ => ?_) (fun _ => ?_)) | (with_reducible refine drw_i (by kernel_rfl)) | simp -dsimp only [go_sem, seval, *, encT, encV, hkI, hv, hcb, undef] | ((with_reducible refine opK_c ?_); simp -dsimp only [go_sem, seval, encT, encV, hkI, hv, hcb, undef]; first | refine callK_r (by first | assumption | exact hcv) (by first | exact .inl rfl | exact .inr rfl) ?_ | (refine callK_i (by assumption) ?_ ?_ ?_; (solve | (repeat (first | exact DLe.refl _ | exact DLe.nil _ | (refine DLe.tup ?_) | (refine DLe.agg ?_ rfl) | exact trivial | (refine And.intro ?_ ?_)))); (solve | exact .inl rfl | exact .inr rfl))) | fail | omega | exact decide_eq_true (by omega) | exact DLe.refl _)
      all_goals exact DLe.refl _
  · intro hI C
    rw [List.take_length] at hI ⊢
    have hvB := vpcsB_of hI.1 hI.2
    have hso := hI.2
    generalize lastV n.vpcs = LA
    replace hI := Lib.hid hI
    replace hso := Lib.hid hso
    replace hvB := Lib.hid hvB
    repeat' (first | (with_reducible refine And.intro ?_ ?_) | (with_reducible refine gK_i (fun _ => ?_) (fun _ => ?_)) | (with_reducible refine condS_i (fun _ => ?_) (fun _ => ?_)) | (with_reducible refine drw_i (by kernel_rfl)) | simp -dsimp only [go_sem, seval, *, encT, Int.lt_irrefl, undef] | ((with_reducible refine opK_c ?_); simp -dsimp only [go_sem, seval, encT, Int.lt_irrefl, undef]; first | refine callK_r (by first | assumption | fail) (by first | exact .inl rfl | exact .inr rfl) ?_ | (refine callK_i (by assumption) ?_ ?_ ?_; (solve | (repeat (first | exact DLe.refl _ | exact DLe.nil _ | (refine DLe.tup ?_) | (refine DLe.agg ?_ rfl) | exact trivial | (refine And.intro ?_ ?_)))); (solve | exact .inl rfl | exact .inr rfl))) | fail | omega | exact decide_eq_true (by omega) | exact DLe.refl _)
    refine loopL tab_ok mixed n.links (fun k => (∀ l ∈ n.links.take k, lnkB n l = true) ∧ risK (n.links.take k) = true) (fun k => [(44, .d (.v (.int .i64 k))), (43, .d (.v (.int .i64 n.links.length))), (42, .d (.sl 2 (n.links.map encK))), (2, .d (.v (.int .i64 0))), (1, .ptr 0 0)]) (fun _ => [.box 25 ((encT n).map .d)]) (by simp [risK]) (weak_forget _ (by simp) (by (try simp only [encT]); rfl) (by (repeat' (first | exact trivial | (refine ⟨rfl, ?_⟩)))) (by first | rfl | simp only [belowH, belowE, belowC, belowL, belowR, belowP, belowL_d, belowR_d, List.length_cons, List.length_nil, Nat.reduceAdd, Nat.reduceLT, decide_true, Bool.and_self, Bool.and_true]) (by first | rfl | simp only [belowH, belowE, belowC, belowL, belowR, belowP, belowL_d, belowR_d, List.length_cons, List.length_nil, Nat.reduceAdd, Nat.reduceLT, decide_true, Bool.and_self, Bool.and_true])) ?_ ?_
    · intro k l hl hk hJ C hC
      have hkI : (k : Int) < (n.links.length : Int) := by omega
      have hwr : IntKind.i64.wrap ((k : Int) + 1) = ((k + 1 : Nat) : Int) := by rw [IntKind.wrap_i64]; omega
      have htk := take_snoc hl
      have hfa := nfindB_m n l.a (by omega) hso.out
      have hfb := nfindB_m n l.b (by omega) hso.out
      have hbad : lnkB n l = false → R = 1 := fun h => by
        rw [hR.out]
        refine chkT_one hno (.inr (.inl ?_))
        rw [List.all_eq_false]
        exact ⟨l, List.mem_of_getElem? hl, by simp [h]⟩
      have hlb : lnkB n l = ((findN n l.a).isSome && ((findN n l.b).isSome && decide (l.a < l.b))) := rfl
      have hgood : lnkB n l = true → risK (n.links.take (k + 1)) = true → (∀ l ∈ n.links.take (k + 1), lnkB n l = true) ∧ risK (n.links.take (k + 1)) = true := fun h g => by
        refine ⟨?_, g⟩
        rw [htk]
        intro u hu
        rcases List.mem_append.1 hu with hu | hu
        · exact hJ.1 u hu
        · rw [List.mem_singleton.1 hu]; exact h
      have hbad2 : risK (n.links.take (k + 1)) = false → R = 1 := fun h => by
        rw [hR.out]
        refine chkT_one hno (.inr (.inr (.inl ?_)))
        cases hb : risK n.links with
        | false => rfl
        | true => rw [risK_take hb] at h; cases h
      have hrk := risK_snoc (n.links.take k) l
      rw [← htk, hJ.2, Bool.true_and] at hrk
      clear htk
      replace hJ := Lib.hid hJ
      replace hbad := Lib.hid hbad
      replace hbad2 := Lib.hid hbad2
      replace hgood := Lib.hid hgood
      cases ea : findN n l.a with
      | none =>
        rw [ea] at hfa hlb
        have hr : R = 1 := hbad.out (by rw [hlb]; rfl)
        rw [hr]
        clear hr hlb hrk
        replace ea := Lib.hid ea
        cases eb : findN n l.b with
        | none =>
          rw [eb] at hfb
          replace eb := Lib.hid eb
          repeat' (first | (with_reducible refine And.intro ?_ ?_) | (with_reducible refine gK_i (fun _ => ?_) (fun _ => ?_)) | (with_reducible refine condS_i (fun _ => ?_) (fun _ => ?_)) | (with_reducible refine drw_i (by kernel_rfl)) | simp -dsimp only [go_sem, seval, *, encT, encK, findNP, findND, hkI, hl, undef] | ((with_reducible refine opK_c ?_); simp -dsimp only [go_sem, seval, encT, encK, findNP, findND, hkI, hl, undef]; first | refine callK_r (by first | assumption | fail) (by first | exact .inl rfl | exact .inr rfl) ?_ | (refine callK_i (by assumption) ?_ ?_ ?_; (solve | (repeat (first | exact DLe.refl _ | exact DLe.nil _ | (refine DLe.tup ?_) | (refine DLe.agg ?_ rfl) | exact trivial | (refine And.intro ?_ ?_)))); (solve | exact .inl rfl | exact .inr rfl))) | (refine opK_M [0] (hfa) ?_ ?_ ?_ ?_ ?_ ?_; (solve | rfl | simp only [go_sem, seval, encT, findNP, findND]); (solve | rfl); (solve | decide); (solve | simp); (solve | simp only [go_sem, seval, lentOK, encT, findNP, findND])) | (refine opK_M [0] (hfb) ?_ ?_ ?_ ?_ ?_ ?_; (solve | rfl | simp only [go_sem, seval, encT, findNP, findND]); (solve | rfl); (solve | decide); (solve | simp); (solve | simp only [go_sem, seval, lentOK, encT, findNP, findND])) | omega | exact decide_eq_true (by omega) | exact DLe.refl _)
          all_goals exact DLe.refl _
        | some w =>
          rw [eb] at hfb
          replace eb := Lib.hid eb
          repeat' (first | (with_reducible refine And.intro ?_ ?_) | (with_reducible refine gK_i (fun _ => ?_) (fun _ => ?_)) | (with_reducible refine condS_i (fun _ => ?_) (fun _ => ?_)) | (with_reducible refine drw_i (by kernel_rfl)) | simp -dsimp only [go_sem, seval, *, encT, encK, findNP, findND, hkI, hl, undef] | ((with_reducible refine opK_c ?_); simp -dsimp only [go_sem, seval, encT, encK, findNP, findND, hkI, hl, undef]; first | refine callK_r (by first | assumption | fail) (by first | exact .inl rfl | exact .inr rfl) ?_ | (refine callK_i (by assumption) ?_ ?_ ?_; (solve | (repeat (first | exact DLe.refl _ | exact DLe.nil _ | (refine DLe.tup ?_) | (refine DLe.agg ?_ rfl) | exact trivial | (refine And.intro ?_ ?_)))); (solve | exact .inl rfl | exact .inr rfl))) | (refine opK_M [0] (hfa) ?_ ?_ ?_ ?_ ?_ ?_; (solve | rfl | simp only [go_sem, seval, encT, findNP, findND]); (solve | rfl); (solve | decide); (solve | simp); (solve | simp only [go_sem, seval, lentOK, encT, findNP, findND])) | (refine opK_M [0] (hfb) ?_ ?_ ?_ ?_ ?_ ?_; (solve | rfl | simp only [go_sem, seval, encT, findNP, findND]); (solve | rfl); (solve | decide); (solve | simp); (solve | simp only [go_sem, seval, lentOK, encT, findNP, findND])) | omega | exact decide_eq_true (by omega) | exact DLe.refl _)
          all_goals exact DLe.refl _
      | some v =>
        rw [ea] at hfa hlb
        replace ea := Lib.hid ea
        cases eb : findN n l.b with
        | none =>
          rw [eb] at hfb hlb
          have hr : R = 1 := hbad.out (by rw [hlb]; rfl)
          rw [hr]
          clear hr hlb hrk
          replace eb := Lib.hid eb
          repeat' (first | (with_reducible refine And.intro ?_ ?_) | (with_reducible refine gK_i (fun _ => ?_) (fun _ => ?_)) | (with_reducible refine condS_i (fun _ => ?_) (fun _ => ?_)) | (with_reducible refine drw_i (by kernel_rfl)) | simp -dsimp only [go_sem, seval, *, encT, encK, findNP, findND, hkI, hl, undef] | ((with_reducible refine opK_c ?_); simp -dsimp only [go_sem, seval, encT, encK, findNP, findND, hkI, hl, undef]; first | refine callK_r (by first | assumption | fail) (by first | exact .inl rfl | exact .inr rfl) ?_ | (refine callK_i (by assumption) ?_ ?_ ?_; (solve | (repeat (first | exact DLe.refl _ | exact DLe.nil _ | (refine DLe.tup ?_) | (refine DLe.agg ?_ rfl) | exact trivial | (refine And.intro ?_ ?_)))); (solve | exact .inl rfl | exact .inr rfl))) | (refine opK_M [0] (hfa) ?_ ?_ ?_ ?_ ?_ ?_; (solve | rfl | simp only [go_sem, seval, encT, findNP, findND]); (solve | rfl); (solve | decide); (solve | simp); (solve | simp only [go_sem, seval, lentOK, encT, findNP, findND])) | (refine opK_M [0] (hfb) ?_ ?_ ?_ ?_ ?_ ?_; (solve | rfl | simp only [go_sem, seval, encT, findNP, findND]); (solve | rfl); (solve | decide); (solve | simp); (solve | simp only [go_sem, seval, lentOK, encT, findNP, findND])) | omega | exact decide_eq_true (by omega) | exact DLe.refl _)
          all_goals exact DLe.refl _
        | some w =>
          rw [eb] at hfb hlb
          replace eb := Lib.hid eb
          by_cases hab : l.a < l.b
          · have hge : decide (l.a ≥ l.b) = false := by simp; omega
            have hlt : lnkB n l = true := by rw [hlb]; simp [hab]
            clear hlb
            replace hlt := Lib.hid hlt
            by_cases hk0 : k = 0
            · have hkz : decide ((k : Int) > 0) = false := by simp; omega
              have hg := hgood.out hlt.out (by rw [hrk, hk0]; rfl)
              clear hrk
              replace hg := Lib.hid hg
              replace hk0 := Lib.hid hk0
              replace hab := Lib.hid hab
              repeat' (first | (with_reducible refine And.intro ?_ ?_) | (with_reducible refine gK_i (fun _ => ?_) (fun _ => ?_)) | (with_reducible refine condS_i (fun _ => ?_) (fun _ => ?_)) | (with_reducible refine drw_i (by kernel_rfl)) | simp -dsimp only [go_sem, seval, *, encT, encK, findNP, findND, hkI, hwr, hl, hge, hkz, undef] | ((with_reducible refine opK_c ?_); simp -dsimp only [go_sem, seval, encT, encK, findNP, findND, hkI, hwr, hl, hge, hkz, undef]; first | refine callK_r (by first | assumption | fail) (by first | exact .inl rfl | exact .inr rfl) ?_ | (refine callK_i (by assumption) ?_ ?_ ?_; (solve | (repeat (first | exact DLe.refl _ | exact DLe.nil _ | (refine DLe.tup ?_) | (refine DLe.agg ?_ rfl) | exact trivial | (refine And.intro ?_ ?_)))); (solve | exact .inl rfl | exact .inr rfl))) | (refine opK_M [0] (hfa) ?_ ?_ ?_ ?_ ?_ ?_; (solve | rfl | simp only [go_sem, seval, encT, findNP, findND]); (solve | rfl); (solve | decide); (solve | simp); (solve | simp only [go_sem, seval, lentOK, encT, findNP, findND])) | (refine opK_M [0] (hfb) ?_ ?_ ?_ ?_ ?_ ?_; (solve | rfl | simp only [go_sem, seval, encT, findNP, findND]); (solve | rfl); (solve | decide); (solve | simp); (solve | simp only [go_sem, seval, lentOK, encT, findNP, findND])) | omega | exact decide_eq_true (by omega) | exact DLe.refl _)
              exact hC _ _ hg.out (weak_forget _ (by simp) (by (try simp only [encT]); rfl) (by (repeat' (first | exact trivial | (refine ⟨rfl, ?_⟩)))) (by first | rfl | simp only [belowH, belowE, belowC, belowL, belowR, belowP, belowL_d, belowR_d, List.length_cons, List.length_nil, Nat.reduceAdd, Nat.reduceLT, decide_true, Bool.and_self, Bool.and_true]) (by first | rfl | simp only [belowH, belowE, belowC, belowL, belowR, belowP, belowL_d, belowR_d, List.length_cons, List.length_nil, Nat.reduceAdd, Nat.reduceLT, decide_true, Bool.and_self, Bool.and_true]))
            · obtain ⟨j, hj⟩ : ∃ j, k = j + 1 := ⟨k - 1, by omega⟩
              obtain ⟨y, hy⟩ : ∃ y, n.links[j]? = some y := ⟨_, List.getElem?_eq_getElem (by omega)⟩
              have hkz : decide ((k : Int) > 0) = true := by simp; omega
              have hw1 : IntKind.i64.wrap ((k : Int) - 1) = (j : Int) := by rw [IntKind.wrap_i64]; omega
              have hjI : (j : Int) < (n.links.length : Int) := by omega
              have hor := order_p y l
              rw [hj, last_take hy] at hrk
              simp only at hrk
              rw [← hj] at hrk
              replace hj := Lib.hid hj
              replace hk0 := Lib.hid hk0
              replace hab := Lib.hid hab
              by_cases ho : ordK y l < 0
              · have hg := hgood.out hlt.out (by rw [hrk]; simpa using ho)
                have hob : decide (ordK y l ≥ 0) = false := by simpa using ho
                clear hrk
                replace hg := Lib.hid hg
                replace ho := Lib.hid ho
                generalize ordK y l = O at *
                repeat' (first | (with_reducible refine And.intro ?_ ?_) | (with_reducible refine gK_i (fun _ => ?_) (fun _ => ?_)) | (with_reducible refine condS_i (fun _ => ?_) (fun _ => ?_)) | (with_reducible refine drw_i (by kernel_rfl)) | simp -dsimp only [go_sem, seval, *, encT, encK, findNP, findND, hkI, hwr, hl, hge, hkz, hw1, hjI, hy, hob, undef] | ((with_reducible refine opK_c ?_); simp -dsimp only [go_sem, seval, encT, encK, findNP, findND, hkI, hwr, hl, hge, hkz, hw1, hjI, hy, hob, undef]; first | refine callK_r (by first | assumption | exact hor) (by first | exact .inl rfl | exact .inr rfl) ?_ | (refine callK_i (by assumption) ?_ ?_ ?_; (solve | (repeat (first | exact DLe.refl _ | exact DLe.nil _ | (refine DLe.tup ?_) | (refine DLe.agg ?_ rfl) | exact trivial | (refine And.intro ?_ ?_)))); (solve | exact .inl rfl | exact .inr rfl))) | (refine opK_M [0] (hfa) ?_ ?_ ?_ ?_ ?_ ?_; (solve | rfl | simp only [go_sem, seval, encT, findNP, findND]); (solve | rfl); (solve | decide); (solve | simp); (solve | simp only [go_sem, seval, lentOK, encT, findNP, findND])) | (refine opK_M [0] (hfb) ?_ ?_ ?_ ?_ ?_ ?_; (solve | rfl | simp only [go_sem, seval, encT, findNP, findND]); (solve | rfl); (solve | decide); (solve | simp); (solve | simp only [go_sem, seval, lentOK, encT, findNP, findND])) | omega | exact decide_eq_true (by omega) | exact DLe.refl _)
                exact hC _ _ hg.out (weak_forget _ (by simp) (by (try simp only [encT]); rfl) (by (repeat' (first | exact trivial | (refine ⟨rfl, ?_⟩)))) (by first | rfl | simp only [belowH, belowE, belowC, belowL, belowR, belowP, belowL_d, belowR_d, List.length_cons, List.length_nil, Nat.reduceAdd, Nat.reduceLT, decide_true, Bool.and_self, Bool.and_true]) (by first | rfl | simp only [belowH, belowE, belowC, belowL, belowR, belowP, belowL_d, belowR_d, List.length_cons, List.length_nil, Nat.reduceAdd, Nat.reduceLT, decide_true, Bool.and_self, Bool.and_true]))
              · have hr : R = 1 := hbad2.out (by rw [hrk]; simpa using ho)
                have hob : decide (ordK y l ≥ 0) = true := by simpa using ho
                rw [hr]
                clear hrk hr
                replace ho := Lib.hid ho
                generalize ordK y l = O at *
                repeat' (first | (with_reducible refine And.intro ?_ ?_) | (with_reducible refine gK_i (fun _ => ?_) (fun _ => ?_)) | (with_reducible refine condS_i (fun _ => ?_) (fun _ => ?_)) | (with_reducible refine drw_i (by kernel_rfl)) | simp -dsimp only [go_sem, seval, *, encT, encK, findNP, findND, hkI, hwr, hl, hge, hkz, hw1, hjI, hy, hob, undef] | ((with_reducible refine opK_c ?_); simp -dsimp only [go_sem, seval, encT, encK, findNP, findND, hkI, hwr, hl, hge, hkz, hw1, hjI, hy, hob, undef]; first | refine callK_r (by first | assumption | exact hor) (by first | exact .inl rfl | exact .inr rfl) ?_ | (refine callK_i (by assumption) ?_ ?_ ?_; (solve | (repeat (first | exact DLe.refl _ | exact DLe.nil _ | (refine DLe.tup ?_) | (refine DLe.agg ?_ rfl) | exact trivial | (refine And.intro ?_ ?_)))); (solve | exact .inl rfl | exact .inr rfl))) | (refine opK_M [0] (hfa) ?_ ?_ ?_ ?_ ?_ ?_; (solve | rfl | simp only [go_sem, seval, encT, findNP, findND]); (solve | rfl); (solve | decide); (solve | simp); (solve | simp only [go_sem, seval, lentOK, encT, findNP, findND])) | (refine opK_M [0] (hfb) ?_ ?_ ?_ ?_ ?_ ?_; (solve | rfl | simp only [go_sem, seval, encT, findNP, findND]); (solve | rfl); (solve | decide); (solve | simp); (solve | simp only [go_sem, seval, lentOK, encT, findNP, findND])) | omega | exact decide_eq_true (by omega) | exact DLe.refl _)
                all_goals exact DLe.refl _
          · have hge : decide (l.a ≥ l.b) = true := by simp; omega
            have hr : R = 1 := hbad.out (by rw [hlb]; simp; omega)
            rw [hr]
            clear hr hlb hrk
            replace hab := Lib.hid hab
            repeat' (first | (with_reducible refine And.intro ?_ ?_) | (with_reducible refine gK_i (fun _ => ?_) (fun _ => ?_)) | (with_reducible refine condS_i (fun _ => ?_) (fun _ => ?_)) | (with_reducible refine drw_i (by kernel_rfl)) | simp -dsimp only [go_sem, seval, *, encT, encK, findNP, findND, hkI, hl, hge, undef] | ((with_reducible refine opK_c ?_); simp -dsimp only [go_sem, seval, encT, encK, findNP, findND, hkI, hl, hge, undef]; first | refine callK_r (by first | assumption | fail) (by first | exact .inl rfl | exact .inr rfl) ?_ | (refine callK_i (by assumption) ?_ ?_ ?_; (solve | (repeat (first | exact DLe.refl _ | exact DLe.nil _ | (refine DLe.tup ?_) | (refine DLe.agg ?_ rfl) | exact trivial | (refine And.intro ?_ ?_)))); (solve | exact .inl rfl | exact .inr rfl))) | (refine opK_M [0] (hfa) ?_ ?_ ?_ ?_ ?_ ?_; (solve | rfl | simp only [go_sem, seval, encT, findNP, findND]); (solve | rfl); (solve | decide); (solve | simp); (solve | simp only [go_sem, seval, lentOK, encT, findNP, findND])) | (refine opK_M [0] (hfb) ?_ ?_ ?_ ?_ ?_ ?_; (solve | rfl | simp only [go_sem, seval, encT, findNP, findND]); (solve | rfl); (solve | decide); (solve | simp); (solve | simp only [go_sem, seval, lentOK, encT, findNP, findND])) | omega | exact decide_eq_true (by omega) | exact DLe.refl _)
            all_goals exact DLe.refl _
    · intro hJ C
      rw [List.take_length] at hJ
      have hpe := peace_p n (by omega) (by omega) (fun v hv => by have := (vpcOK_of (hI.out.1 v hv)).n4; omega) (fun l hl => by
        have := hJ.1 l hl
        unfold lnkB at this
        simp only [Bool.and_eq_true] at this
        exact ⟨find_ids this.1, find_ids this.2.1⟩)
      have hr : R = if peaceN n = true then 0 else 1 := by
        rw [hR.out]
        split
        · rename_i hp
          exact chkT_zero hno hvB.out (by rw [List.all_eq_true]; exact hJ.1) hJ.2 hp
        · rename_i hp
          exact chkT_one hno (.inr (.inr (.inr (by simpa using hp))))
      rw [hr]
      clear hr
      replace hJ := Lib.hid hJ
      cases hp : peaceN n with
      | true =>
        rw [hp] at hpe
        replace hp := Lib.hid hp
        repeat' (first | (with_reducible refine And.intro ?_ ?_) | (with_reducible refine gK_i (fun _ => ?_) (fun _ => ?_)) | (with_reducible refine condS_i (fun _ => ?_) (fun _ => ?_)) | (with_reducible refine drw_i (by kernel_rfl)) | simp -dsimp only [go_sem, seval, *, encT, Int.lt_irrefl, undef] | ((with_reducible refine opK_c ?_); simp -dsimp only [go_sem, seval, encT, Int.lt_irrefl, undef]; first | refine callK_r (by first | assumption | exact hpe) (by first | exact .inl rfl | exact .inr rfl) ?_ | (refine callK_i (by assumption) ?_ ?_ ?_; (solve | (repeat (first | exact DLe.refl _ | exact DLe.nil _ | (refine DLe.tup ?_) | (refine DLe.agg ?_ rfl) | exact trivial | (refine And.intro ?_ ?_)))); (solve | exact .inl rfl | exact .inr rfl))) | fail | omega | exact decide_eq_true (by omega) | exact DLe.refl _)
        all_goals exact DLe.refl _
      | false =>
        rw [hp] at hpe
        replace hp := Lib.hid hp
        repeat' (first | (with_reducible refine And.intro ?_ ?_) | (with_reducible refine gK_i (fun _ => ?_) (fun _ => ?_)) | (with_reducible refine condS_i (fun _ => ?_) (fun _ => ?_)) | (with_reducible refine drw_i (by kernel_rfl)) | simp -dsimp only [go_sem, seval, *, encT, Int.lt_irrefl, undef] | ((with_reducible refine opK_c ?_); simp -dsimp only [go_sem, seval, encT, Int.lt_irrefl, undef]; first | refine callK_r (by first | assumption | exact hpe) (by first | exact .inl rfl | exact .inr rfl) ?_ | (refine callK_i (by assumption) ?_ ?_ ?_; (solve | (repeat (first | exact DLe.refl _ | exact DLe.nil _ | (refine DLe.tup ?_) | (refine DLe.agg ?_ rfl) | exact trivial | (refine And.intro ?_ ?_)))); (solve | exact .inl rfl | exact .inr rfl))) | fail | omega | exact decide_eq_true (by omega) | exact DLe.refl _)
        all_goals exact DLe.refl _
end Go.Proofs.YtgmbhaclogabeaaGreat
namespace Go.Proofs.YtgmbhaclogabeaaGreat
open Go Go.RowKit
theorem clone_Link {α : Type} (enc : α → List D) (l : List α) (hl : l.length ≤ 1000000000) :
    MSpec Tryz.prog 47 [.d (.sl 2 (l.map enc))] [] (.own 0 1) [.row 68 2 1 (dRows (l.map enc))] := by
  cases l with
  | nil =>
    refine ms_empty (pl := []) (ql := []) fun ao cap => ?_
    cases ao with
    | none =>
      simp only [List.nil_append]
      refine ms_i tab_ok mixed Tryz.func47 rfl Tryz.ntmps47 Tryz.results47 (by kernel_rfl) (by simp) (by simp [belowL, belowP]) (by simp [belowH, belowC, belowL, belowP, belowL_d, belowR_d]) ?_
      repeat' (first | (with_reducible refine And.intro ?_ ?_) | (with_reducible refine gK_i (fun _ => ?_) (fun _ => ?_)) | (with_reducible refine condS_i (fun _ => ?_) (fun _ => ?_)) | (with_reducible refine drw_i (by kernel_rfl)) | simp -dsimp only [go_sem, seval, *, Option.isNone_none, Option.isSome_some] | ((with_reducible refine opK_c ?_); simp -dsimp only [go_sem, seval, Option.isNone_none, Option.isSome_some]; first | refine callK_r (by first | assumption | fail) (by first | exact .inl rfl | exact .inr rfl) ?_ | refine callK_i (by assumption) (by repeat (first | exact DLe.refl _ | exact DLe.nil _ | (refine DLe.tup ?_) | (refine DLe.agg ?_ rfl) | exact trivial | (refine And.intro ?_ ?_))) (by first | exact .inl rfl | exact .inr rfl) ?_) | omega | exact decide_eq_true (by omega) | exact DLe.refl _)
      refine weak_ret_adopt (h := []) (Nat.le_refl _) 68 2 ?_
      exact (weak_ret_bump 0 0 68 2 [] rfl (weak_eq rfl rfl))
    | some a =>
      simp only [List.nil_append]
      refine ms_i tab_ok mixed Tryz.func47 rfl Tryz.ntmps47 Tryz.results47 (by kernel_rfl) (by simp) (by simp [belowL, belowP]) (by simp [belowH, belowC, belowL, belowP, belowL_d, belowR_d]) ?_
      repeat' (first | (with_reducible refine And.intro ?_ ?_) | (with_reducible refine gK_i (fun _ => ?_) (fun _ => ?_)) | (with_reducible refine condS_i (fun _ => ?_) (fun _ => ?_)) | (with_reducible refine drw_i (by kernel_rfl)) | simp -dsimp only [go_sem, seval, *, Option.isNone_some, Option.isSome_some] | ((with_reducible refine opK_c ?_); simp -dsimp only [go_sem, seval, Option.isNone_some, Option.isSome_some]; first | refine callK_r (by first | assumption | fail) (by first | exact .inl rfl | exact .inr rfl) ?_ | refine callK_i (by assumption) (by repeat (first | exact DLe.refl _ | exact DLe.nil _ | (refine DLe.tup ?_) | (refine DLe.agg ?_ rfl) | exact trivial | (refine And.intro ?_ ?_))) (by first | exact .inl rfl | exact .inr rfl) ?_) | omega | exact decide_eq_true (by omega) | exact DLe.refl _)
      exact weak_eq rfl rfl
  | cons x l =>
    simp only [List.length_cons] at hl
    refine ms_i tab_ok mixed Tryz.func47 rfl Tryz.ntmps47 Tryz.results47 (by kernel_rfl) (by simp) (by simp [belowL, belowP]) (by simp [belowH, belowC, belowL, belowP, belowL_d, belowR_d]) ?_
    repeat' (first | (with_reducible refine And.intro ?_ ?_) | (with_reducible refine gK_i (fun _ => ?_) (fun _ => ?_)) | (with_reducible refine condS_i (fun _ => ?_) (fun _ => ?_)) | (with_reducible refine drw_i (by kernel_rfl)) | simp -dsimp only [go_sem, seval, *, Option.isNone_some, Option.isSome_some] | ((with_reducible refine opK_c ?_); simp -dsimp only [go_sem, seval, Option.isNone_some, Option.isSome_some]; first | refine callK_r (by first | assumption | fail) (by first | exact .inl rfl | exact .inr rfl) ?_ | refine callK_i (by assumption) (by repeat (first | exact DLe.refl _ | exact DLe.nil _ | (refine DLe.tup ?_) | (refine DLe.agg ?_ rfl) | exact trivial | (refine And.intro ?_ ?_))) (by first | exact .inl rfl | exact .inr rfl) ?_) | omega | exact decide_eq_true (by omega) | exact DLe.refl _)
    all_goals first | omega | exact weak_eq rfl rfl
structure NetOK (n : Net) : Prop where
  n6 : n.vpcs.length ≤ 6
  n12 : n.links.length ≤ 12
  vp : ∀ v ∈ n.vpcs, chkV v = 0
  rise : n.vpcs.Pairwise fun a b => a.id < b.id
  lk : ∀ l ∈ n.links, lnkB n l = true
  rk : risK n.links = true
  pe : peaceN n = true
theorem netOK {n : Net} : chkT n = 0 ↔ NetOK n := by
  constructor
  · intro h
    unfold chkT at h
    split at h
    · cases h
    · rename_i h0
      split at h
      · rename_i h1
        simp only [Bool.and_eq_true] at h1
        have := vpcsB_take h1.1 n.vpcs.length
        rw [List.take_length] at this
        exact ⟨by omega, by omega, this.1, this.2, by simpa using h1.2.1, h1.2.2.1, h1.2.2.2⟩
      · cases h
  · rintro ⟨a, b, c, d, e, f, g⟩
    exact chkT_zero (by omega) (vpcsB_of c d) (by simpa using e) f g
theorem NetOK.ids {n : Net} (h : NetOK n) : ∀ l ∈ n.links, l.a ∈ n.vpcs.map (·.id) ∧ l.b ∈ n.vpcs.map (·.id) := fun l hl => by
  have := h.lk l hl
  unfold lnkB at this
  simp only [Bool.and_eq_true] at this
  exact ⟨find_ids this.1, find_ids this.2.1⟩
theorem nbeginE_m (n : Net) (h : chkT n ≠ 0) :
    MSpec Tryz.prog 25 [.d (.agg (encT n))] [] (.tup [.ptr 1 0, .d (.v (.int .i64 (chkT n)))]) [.gone, .box 25 [.d (.v (.slice none 0 0)), .d (.v (.slice none 0 0))]] := by
  have hc := ncheck_p n
  have h1 : (chkT n != 0) = true := by simpa using h
  refine ms_i tab_ok mixed Tryz.func25 rfl Tryz.ntmps25 Tryz.results25 (by kernel_rfl) (by simp) (by simp [belowL, belowP]) (by simp [belowH, belowC, belowL, belowP, belowL_d, belowR_d]) ?_
  repeat' (first | (with_reducible refine And.intro ?_ ?_) | (with_reducible refine gK_i (fun _ => ?_) (fun _ => ?_)) | (with_reducible refine condS_i (fun _ => ?_) (fun _ => ?_)) | (with_reducible refine drw_i (by kernel_rfl)) | simp -dsimp only [go_sem, seval, *, encT, h1] | ((with_reducible refine opK_c ?_); simp -dsimp only [go_sem, seval, encT, h1]; first | refine callK_r (by first | assumption | exact hc) (by first | exact .inl rfl | exact .inr rfl) ?_ | (refine callK_i (by assumption) ?_ ?_ ?_; (solve | (repeat (first | exact DLe.refl _ | exact DLe.nil _ | (refine DLe.tup ?_) | (refine DLe.agg ?_ rfl) | exact trivial | (refine And.intro ?_ ?_)))); (solve | exact .inl rfl | exact .inr rfl))) | fail | omega | exact decide_eq_true (by omega) | exact DLe.refl _)
  exact (weak_gone 0 (by simp)).trans (weak_eq rfl rfl)
set_option maxRecDepth 100000 in
set_option maxHeartbeats 2000000 in
theorem nbegin_m (n : Net) (h : chkT n = 0) :
    MSpec Tryz.prog 25 [.d (.agg (encT n))] [] (.tup [.ptr 2 0, .d (.v (.int .i64 0))]) [.gone, .row 68 2 1 (dRows (n.links.map encK)), .box 25 [.own 3 n.vpcs.length, .own 1 1], .row 56 3 n.vpcs.length (dRows (n.vpcs.map encV))] := by
  have hc := ncheck_p n
  rw [h] at hc
  have hok := netOK.1 h
  have n6 := hok.n6
  have hvp := Lib.hid hok.vp
  have hclk := clone_Link encK n.links (by have := hok.n12; omega)
  clear hok
  replace h := Lib.hid h
  refine ms_i tab_ok mixed Tryz.func25 rfl Tryz.ntmps25 Tryz.results25 (by kernel_rfl) (by simp) (by simp [belowL, belowP]) (by simp [belowH, belowC, belowL, belowP, belowL_d, belowR_d]) ?_
  repeat' (first | (with_reducible refine And.intro ?_ ?_) | (with_reducible refine gK_i (fun _ => ?_) (fun _ => ?_)) | (with_reducible refine condS_i (fun _ => ?_) (fun _ => ?_)) | (with_reducible refine drw_i (by kernel_rfl)) | simp -dsimp only [go_sem, seval, *, encT] | ((with_reducible refine opK_c ?_); simp -dsimp only [go_sem, seval, encT]; first | refine callK_r (by first | assumption | exact hc) (by first | exact .inl rfl | exact .inr rfl) ?_ | (refine callK_i (by assumption) ?_ ?_ ?_; (solve | (repeat (first | exact DLe.refl _ | exact DLe.nil _ | (refine DLe.tup ?_) | (refine DLe.agg ?_ rfl) | exact trivial | (refine And.intro ?_ ?_)))); (solve | exact .inl rfl | exact .inr rfl))) | (refine opK_M [] (hclk) ?_ ?_ ?_ ?_ ?_ ?_; (solve | rfl | simp only [go_sem, seval, encT]); (solve | rfl); (solve | decide); (solve | simp); (solve | simp only [go_sem, seval, lentOK, encT])) | omega | exact decide_eq_true (by omega) | exact DLe.refl _)
  refine loopL tab_ok mixed n.vpcs (fun _ => True) (fun k => [(29, .d (.v (.int .i64 k))), (28, .d (.v (.int .i64 n.vpcs.length))), (27, .d (.sl 3 (n.vpcs.map encV))), (5, .ptr 2 0)])
    (fun k => [.gone, .row 68 2 1 (dRows (n.links.map encK)), .box 25 [.own 3 k, .own 1 1], .row 56 3 k (dRows ((n.vpcs.take k).map encV))]) trivial ?_ ?_ ?_
  · refine (weak_gone 0 (by simp)).trans ((weak_adopt_box (by simp) 2 25 [.d (.v (.slice none 0 0)), .own 1 1] 0 56 3 rfl rfl rfl).trans ?_)
    exact weak_forget _ (by simp) (by rfl) (by (repeat' (first | exact trivial | (refine ⟨rfl, ?_⟩)))) (by first | rfl | simp only [belowH, belowE, belowC, belowL, belowR, belowP, belowL_d, belowR_d, belowR_zipG, subRow, faceRow, List.length_cons, List.length_nil, Nat.reduceAdd, Nat.reduceLT, decide_true, Bool.and_self, Bool.and_true]) (by first | rfl | simp only [belowH, belowE, belowC, belowL, belowR, belowP, belowL_d, belowR_d, belowR_zipG, subRow, faceRow, List.length_cons, List.length_nil, Nat.reduceAdd, Nat.reduceLT, decide_true, Bool.and_self, Bool.and_true])
  · intro k v hv hk _ CN hCN
    have hkI : (k : Int) < (n.vpcs.length : Int) := by omega
    have hwr : IntKind.i64.wrap ((k : Int) + 1) = ((k + 1 : Nat) : Int) := by rw [IntKind.wrap_i64]; omega
    have hb0 : k + 1 ≤ 100 := by omega
    have hlv : (List.take k n.vpcs).length = k := by rw [List.length_take]; omega
    have hvk := vpcOK_of (hvp.out v (List.mem_of_getElem? hv))
    have h6 := hvk.n6
    have h8 := Lib.hid hvk.n8
    have hclr := clone_Range encG v.ranges (by have := hvk.n4; omega)
    clear hvk
    replace hv := Lib.hid hv
    have hv1 := hv.out
    repeat' (first | (with_reducible refine And.intro ?_ ?_) | (with_reducible refine gK_i (fun _ => ?_) (fun _ => ?_)) | (with_reducible refine condS_i (fun _ => ?_) (fun _ => ?_)) | (with_reducible refine drw_i (by kernel_rfl)) | simp -dsimp only [go_sem, seval, *, encV, hkI, hv1] | ((with_reducible refine opK_c ?_); simp -dsimp only [go_sem, seval, encV, hkI, hv1]; first | refine callK_r (by first | assumption | fail) (by first | exact .inl rfl | exact .inr rfl) ?_ | (refine callK_i (by assumption) ?_ ?_ ?_; (solve | (repeat (first | exact DLe.refl _ | exact DLe.nil _ | (refine DLe.tup ?_) | (refine DLe.agg ?_ rfl) | exact trivial | (refine And.intro ?_ ?_)))); (solve | exact .inl rfl | exact .inr rfl))) | (refine opK_M [] (hclr) ?_ ?_ ?_ ?_ ?_ ?_; (solve | rfl | simp only [go_sem, seval, encV]); (solve | rfl); (solve | decide); (solve | simp); (solve | simp only [go_sem, seval, lentOK, encV])) | omega | exact decide_eq_true (by omega) | exact DLe.refl _)
    refine loopL tab_ok mixed v.subs (fun _ => True) (fun j => [(42, .d (.v (.int .i64 j))), (41, .d (.v (.int .i64 v.subs.length))), (40, .d (.sl 4 (v.subs.map encN))), (8, .ptr 6 0), (29, .d (.v (.int .i64 k))), (28, .d (.v (.int .i64 n.vpcs.length))), (27, .d (.sl 3 (n.vpcs.map encV))), (5, .ptr 2 0)])
      (fun j => [.gone, .row 68 2 1 (dRows (n.links.map encK)), .box 25 [.own 3 k, .own 1 1], .row 56 3 k (dRows ((n.vpcs.take k).map encV)), .gone, .row 29 3 1 (dRows (v.ranges.map encG)), .box 56 [.d (.v (.int .i64 v.id)), .own 5 1, .own 7 j], .row 86 4 j (dRows ((v.subs.take j).map encN))]) trivial ?_ ?_ ?_
    · refine (weak_gone 4 (by simp)).trans ((weak_adopt_box (by simp) 6 56 [.d (.v (.int .i64 v.id)), .own 5 1, .d (.v (.slice none 0 0))] 2 86 4 rfl rfl rfl).trans ?_)
      exact weak_forget _ (by simp) (by rfl) (by (repeat' (first | exact trivial | (refine ⟨rfl, ?_⟩)))) (by first | rfl | simp only [belowH, belowE, belowC, belowL, belowR, belowP, belowL_d, belowR_d, belowR_zipG, subRow, faceRow, List.length_cons, List.length_nil, Nat.reduceAdd, Nat.reduceLT, decide_true, Bool.and_self, Bool.and_true]) (by first | rfl | simp only [belowH, belowE, belowC, belowL, belowR, belowP, belowL_d, belowR_d, belowR_zipG, subRow, faceRow, List.length_cons, List.length_nil, Nat.reduceAdd, Nat.reduceLT, decide_true, Bool.and_self, Bool.and_true])
    · intro j s hs hj _ CO hCO
      have hjI : (j : Int) < (v.subs.length : Int) := by omega
      have hwj : IntKind.i64.wrap ((j : Int) + 1) = ((j + 1 : Nat) : Int) := by rw [IntKind.wrap_i64]; omega
      have h8s := h8.out s (List.mem_of_getElem? hs)
      have hb1 : j + 1 ≤ 100 := by omega
      have hlk : (List.take j v.subs).length = j := by rw [List.length_take]; omega
      replace hs := Lib.hid hs
      have hs1 := hs.out
      repeat' (first | (with_reducible refine And.intro ?_ ?_) | (with_reducible refine gK_i (fun _ => ?_) (fun _ => ?_)) | (with_reducible refine condS_i (fun _ => ?_) (fun _ => ?_)) | (with_reducible refine drw_i (by kernel_rfl)) | simp -dsimp only [go_sem, seval, *, encV, encN, hjI, hs1] | ((with_reducible refine opK_c ?_); simp -dsimp only [go_sem, seval, encV, encN, hjI, hs1]; first | refine callK_r (by first | assumption | fail) (by first | exact .inl rfl | exact .inr rfl) ?_ | (refine callK_i (by assumption) ?_ ?_ ?_; (solve | (repeat (first | exact DLe.refl _ | exact DLe.nil _ | (refine DLe.tup ?_) | (refine DLe.agg ?_ rfl) | exact trivial | (refine And.intro ?_ ?_)))); (solve | exact .inl rfl | exact .inr rfl))) | fail | omega | exact decide_eq_true (by omega) | exact DLe.refl _)
      refine loopL tab_ok mixed s.faces (fun _ => True) (fun i => [(54, .d (.v (.int .i64 i))), (53, .d (.v (.int .i64 s.faces.length))), (52, .d (.sl 2 (s.faces.map encF))), (11, .ptr 9 0), (42, .d (.v (.int .i64 j))), (41, .d (.v (.int .i64 v.subs.length))), (40, .d (.sl 4 (v.subs.map encN))), (8, .ptr 6 0), (29, .d (.v (.int .i64 k))), (28, .d (.v (.int .i64 n.vpcs.length))), (27, .d (.sl 3 (n.vpcs.map encV))), (5, .ptr 2 0)])
        (fun i => [.gone, .row 68 2 1 (dRows (n.links.map encK)), .box 25 [.own 3 k, .own 1 1], .row 56 3 k (dRows ((n.vpcs.take k).map encV)), .gone, .row 29 3 1 (dRows (v.ranges.map encG)), .box 56 [.d (.v (.int .i64 v.id)), .own 5 1, .own 7 j], .row 86 4 j (dRows ((v.subs.take j).map encN)), .gone, .box 86 [.d (.v (.int .i64 s.id)), .d (.v (.int .i64 s.at_.at_)), .d (.v (.int .i64 s.at_.len)), .own 10 i], .row 88 2 i (dRows ((s.faces.take i).map encF))]) trivial ?_ ?_ ?_
      · refine (weak_gone 8 (by simp)).trans ((weak_adopt_box (by simp) 9 86 [.d (.v (.int .i64 s.id)), .d (.v (.int .i64 s.at_.at_)), .d (.v (.int .i64 s.at_.len)), .d (.v (.slice none 0 0))] 3 88 2 rfl rfl rfl).trans ?_)
        exact weak_forget _ (by simp) (by rfl) (by (repeat' (first | exact trivial | (refine ⟨rfl, ?_⟩)))) (by first | rfl | simp only [belowH, belowE, belowC, belowL, belowR, belowP, belowL_d, belowR_d, belowR_zipG, subRow, faceRow, List.length_cons, List.length_nil, Nat.reduceAdd, Nat.reduceLT, decide_true, Bool.and_self, Bool.and_true]) (by first | rfl | simp only [belowH, belowE, belowC, belowL, belowR, belowP, belowL_d, belowR_d, belowR_zipG, subRow, faceRow, List.length_cons, List.length_nil, Nat.reduceAdd, Nat.reduceLT, decide_true, Bool.and_self, Bool.and_true])
      · intro i f hf hi _ C hC
        have hiI : (i : Int) < (s.faces.length : Int) := by omega
        have hwi : IntKind.i64.wrap ((i : Int) + 1) = ((i + 1 : Nat) : Int) := by rw [IntKind.wrap_i64]; omega
        have hfl := h8s.2 f (List.mem_of_getElem? hf)
        have hb2 : i + 1 ≤ 100 := by omega
        have hli : (List.take i s.faces).length = i := by rw [List.length_take]; omega
        replace hf := Lib.hid hf
        have hf1 := hf.out
        repeat' (first | (with_reducible refine And.intro ?_ ?_) | (with_reducible refine gK_i (fun _ => ?_) (fun _ => ?_)) | (with_reducible refine condS_i (fun _ => ?_) (fun _ => ?_)) | (with_reducible refine drw_i (by kernel_rfl)) | simp -dsimp only [go_sem, seval, *, encN, encF, hiI, hwi, hf1, hb2, hli] | ((with_reducible refine opK_c ?_); simp -dsimp only [go_sem, seval, encN, encF, hiI, hwi, hf1, hb2, hli]; first | refine callK_r (by first | assumption | fail) (by first | exact .inl rfl | exact .inr rfl) ?_ | (refine callK_i (by assumption) ?_ ?_ ?_; (solve | (repeat (first | exact DLe.refl _ | exact DLe.nil _ | (refine DLe.tup ?_) | (refine DLe.agg ?_ rfl) | exact trivial | (refine And.intro ?_ ?_)))); (solve | exact .inl rfl | exact .inr rfl))) | (refine opK_M [] (clone_int f.addrs (by omega)) ?_ ?_ ?_ ?_ ?_ ?_; (solve | rfl | simp only [go_sem, seval, encF]); (solve | rfl); (solve | decide); (solve | simp); (solve | simp only [go_sem, seval, lentOK, encF])) | omega | exact decide_eq_true (by omega) | exact DLe.refl _)
        refine hC _ _ trivial ((weak_freeze 12 1 3 1 (f.addrs.map encA) rfl).trans ?_)
        simp only [fzE, fz, fzL, fzH, fzC, fzR, fzR_app, fzR_d, fzL_d, List.map_cons, List.map_nil, Nat.reduceAdd, Nat.reduceEqDiff, reduceIte, and_true, true_and, and_self, and_false, false_and, Nat.zero_add, Nat.add_zero, reduceCtorEq]
        exact weak_forget _ (by simp) (by rw [take_snoc hf.out, List.map_append, List.map_cons, List.map_nil, ← dRows_app]; rfl) (by (repeat' (first | exact trivial | (refine ⟨rfl, ?_⟩)))) (by first | rfl | simp only [belowH, belowE, belowC, belowL, belowR, belowP, belowL_d, belowR_d, belowR_zipG, subRow, faceRow, List.length_cons, List.length_nil, Nat.reduceAdd, Nat.reduceLT, decide_true, Bool.and_self, Bool.and_true]) (by first | rfl | simp only [belowH, belowE, belowC, belowL, belowR, belowP, belowL_d, belowR_d, belowR_zipG, subRow, faceRow, List.length_cons, List.length_nil, Nat.reduceAdd, Nat.reduceLT, decide_true, Bool.and_self, Bool.and_true])
      · intro _ C
        repeat' (first | (with_reducible refine And.intro ?_ ?_) | (with_reducible refine gK_i (fun _ => ?_) (fun _ => ?_)) | (with_reducible refine condS_i (fun _ => ?_) (fun _ => ?_)) | (with_reducible refine drw_i (by kernel_rfl)) | simp -dsimp only [go_sem, seval, *, encN, hwj, hb1, hlk, Int.lt_irrefl, List.take_length] | ((with_reducible refine opK_c ?_); simp -dsimp only [go_sem, seval, encN, hwj, hb1, hlk, Int.lt_irrefl, List.take_length]; first | refine callK_r (by first | assumption | fail) (by first | exact .inl rfl | exact .inr rfl) ?_ | (refine callK_i (by assumption) ?_ ?_ ?_; (solve | (repeat (first | exact DLe.refl _ | exact DLe.nil _ | (refine DLe.tup ?_) | (refine DLe.agg ?_ rfl) | exact trivial | (refine And.intro ?_ ?_)))); (solve | exact .inl rfl | exact .inr rfl))) | fail | omega | exact decide_eq_true (by omega) | exact DLe.refl _)
        refine hCO _ _ trivial ((weak_freeze 10 s.faces.length 88 2 (s.faces.map encF) rfl).trans ?_)
        simp only [fzE, fz, fzL, fzH, fzC, fzR, fzR_app, fzR_d, fzL_d, List.map_cons, List.map_nil, Nat.reduceAdd, Nat.reduceEqDiff, reduceIte, and_true, true_and, and_self, and_false, false_and, Nat.zero_add, Nat.add_zero, reduceCtorEq]
        exact weak_forget _ (by simp) (by rw [take_snoc hs.out, List.map_append, List.map_cons, List.map_nil, ← dRows_app]; rfl) (by (repeat' (first | exact trivial | (refine ⟨rfl, ?_⟩)))) (by first | rfl | simp only [belowH, belowE, belowC, belowL, belowR, belowP, belowL_d, belowR_d, belowR_zipG, subRow, faceRow, List.length_cons, List.length_nil, Nat.reduceAdd, Nat.reduceLT, decide_true, Bool.and_self, Bool.and_true]) (by first | rfl | simp only [belowH, belowE, belowC, belowL, belowR, belowP, belowL_d, belowR_d, belowR_zipG, subRow, faceRow, List.length_cons, List.length_nil, Nat.reduceAdd, Nat.reduceLT, decide_true, Bool.and_self, Bool.and_true])
    · intro _ C
      repeat' (first | (with_reducible refine And.intro ?_ ?_) | (with_reducible refine gK_i (fun _ => ?_) (fun _ => ?_)) | (with_reducible refine condS_i (fun _ => ?_) (fun _ => ?_)) | (with_reducible refine drw_i (by kernel_rfl)) | simp -dsimp only [go_sem, seval, *, encV, hwr, hb0, hlv, Int.lt_irrefl, List.take_length] | ((with_reducible refine opK_c ?_); simp -dsimp only [go_sem, seval, encV, hwr, hb0, hlv, Int.lt_irrefl, List.take_length]; first | refine callK_r (by first | assumption | fail) (by first | exact .inl rfl | exact .inr rfl) ?_ | (refine callK_i (by assumption) ?_ ?_ ?_; (solve | (repeat (first | exact DLe.refl _ | exact DLe.nil _ | (refine DLe.tup ?_) | (refine DLe.agg ?_ rfl) | exact trivial | (refine And.intro ?_ ?_)))); (solve | exact .inl rfl | exact .inr rfl))) | fail | omega | exact decide_eq_true (by omega) | exact DLe.refl _)
      refine hCN _ _ trivial ((weak_freeze 7 v.subs.length 86 4 (v.subs.map encN) rfl).trans ?_)
      simp only [fzE, fz, fzL, fzH, fzC, fzR, fzR_app, fzR_d, fzL_d, List.map_cons, List.map_nil, Nat.reduceAdd, Nat.reduceEqDiff, reduceIte, and_true, true_and, and_self, and_false, false_and, Nat.zero_add, Nat.add_zero, reduceCtorEq]
      refine (weak_freeze 5 1 29 3 (v.ranges.map encG) rfl).trans ?_
      simp only [fzE, fz, fzL, fzH, fzC, fzR, fzR_app, fzR_d, fzL_d, List.map_cons, List.map_nil, Nat.reduceAdd, Nat.reduceEqDiff, reduceIte, and_true, true_and, and_self, and_false, false_and, Nat.zero_add, Nat.add_zero, reduceCtorEq]
      exact weak_forget _ (by simp) (by rw [take_snoc hv.out, List.map_append, List.map_cons, List.map_nil, ← dRows_app]; rfl) (by (repeat' (first | exact trivial | (refine ⟨rfl, ?_⟩)))) (by first | rfl | simp only [belowH, belowE, belowC, belowL, belowR, belowP, belowL_d, belowR_d, belowR_zipG, subRow, faceRow, List.length_cons, List.length_nil, Nat.reduceAdd, Nat.reduceLT, decide_true, Bool.and_self, Bool.and_true]) (by first | rfl | simp only [belowH, belowE, belowC, belowL, belowR, belowP, belowL_d, belowR_d, belowR_zipG, subRow, faceRow, List.length_cons, List.length_nil, Nat.reduceAdd, Nat.reduceLT, decide_true, Bool.and_self, Bool.and_true])
  · intro _ C
    repeat' (first | (with_reducible refine And.intro ?_ ?_) | (with_reducible refine gK_i (fun _ => ?_) (fun _ => ?_)) | (with_reducible refine condS_i (fun _ => ?_) (fun _ => ?_)) | (with_reducible refine drw_i (by kernel_rfl)) | simp -dsimp only [go_sem, seval, *, Int.lt_irrefl, List.take_length] | ((with_reducible refine opK_c ?_); simp -dsimp only [go_sem, seval, Int.lt_irrefl, List.take_length]; first | refine callK_r (by first | assumption | fail) (by first | exact .inl rfl | exact .inr rfl) ?_ | (refine callK_i (by assumption) ?_ ?_ ?_; (solve | (repeat (first | exact DLe.refl _ | exact DLe.nil _ | (refine DLe.tup ?_) | (refine DLe.agg ?_ rfl) | exact trivial | (refine And.intro ?_ ?_)))); (solve | exact .inl rfl | exact .inr rfl))) | fail | omega | exact decide_eq_true (by omega) | exact DLe.refl _)
    exact weak_eq rfl rfl
end Go.Proofs.YtgmbhaclogabeaaGreat
namespace Go.Proofs.YtgmbhaclogabeaaGreat
open Go Go.RowKit
def Net.zero : Net := ⟨[], []⟩
theorem findIdx_of {l : List Vpc} {id : Int} {o : Option Vpc} (h : l.find? (fun v => v.id == id) = o) : match o with | some v => ∃ i, l.findIdx? (fun v => v.id == id) = some i ∧ l[i]? = some v ∧ v.id = id | none => l.findIdx? (fun v => v.id == id) = none := by
  cases o with
  | none =>
    rw [List.find?_eq_none] at h
    exact List.findIdx?_eq_none_iff.2 fun v hv => by simpa using h v hv
  | some v =>
    obtain ⟨h1, i, hi, h2, h3⟩ := List.find?_eq_some_iff_getElem.1 h
    refine ⟨i, ?_, by rw [List.getElem?_eq_getElem hi, h2], by simpa using h1⟩
    rw [List.findIdx?_eq_some_iff_getElem]
    exact ⟨hi, by rw [h2]; exact h1, fun j hj => by simpa using h3 j hj⟩
/-- The place of a network. -/
def vpcIx (n : Net) (id : Int) : Option Nat := n.vpcs.findIdx? fun v => v.id == id
theorem vpcIx_some {n : Net} {id : Int} {i : Nat} (h : vpcIx n id = some i) : ∃ v, n.vpcs[i]? = some v ∧ v.id = id ∧ i < n.vpcs.length ∧ findN n id = some v := by
  cases hf : findN n id with
  | none => have := findIdx_of hf; unfold vpcIx at h; rw [h] at this; cases this
  | some v =>
    obtain ⟨j, h1, h2, h3⟩ := findIdx_of hf
    unfold vpcIx at h
    rw [h] at h1
    cases h1
    exact ⟨v, h2, h3, (List.getElem?_eq_some_iff.1 h2).1, rfl⟩
theorem vpcIx_none {n : Net} {id : Int} (h : vpcIx n id = none) : findN n id = none := by
  cases hf : findN n id with
  | none => rfl
  | some v =>
    obtain ⟨j, h1, -⟩ := findIdx_of hf
    unfold vpcIx at h
    rw [h] at h1
    cases h1
theorem lbv_at {α : Type} {key : α → Int} {l : List α} {i : Nat} {q : α} (hs : l.Pairwise fun a b => key a < key b) (hq : l[i]? = some q) : lbN key (key q) l = i ∧ lbB key (key q) l = true := by
  obtain ⟨hi, rfl⟩ := List.getElem?_eq_some_iff.1 hq
  have h1 : lbN key (key l[i]) l = i := lbN_eq (Nat.le_of_lt hi) (fun k hk hki => List.pairwise_iff_getElem.1 hs k i hk hi hki) (fun k hk hki => by
    rcases Nat.lt_or_ge i k with h | h
    · have := List.pairwise_iff_getElem.1 hs i k hi hk h; omega
    · obtain rfl : k = i := by omega
      exact Int.le_refl _)
  refine ⟨h1, ?_⟩
  unfold lbB
  rw [h1, hq]; simp
set_option maxRecDepth 100000 in
theorem nfind_m (n : Net) (id : Int) (gv gl i : Nat) (v : Vpc) (hv : n.vpcs[i]? = some v) (he : v.id = id) (h6 : n.vpcs.length ≤ 6) (hs : n.vpcs.Pairwise fun a b => a.id < b.id) :
    MSpec Tryz.prog 22 [.ptr 0 0, .d (.v (.int .i64 id))] [.box 25 [.own 1 gv, .own 2 gl], .row 56 3 gv (dRows (n.vpcs.map encV)), .row 68 2 gl (dRows (n.links.map encK))] (.tup [.rp 1 gv 3 i 0, .d (.v (.bool true))])
      [.box 25 [.own 1 gv, .own 2 gl], .row 56 3 gv (dRows (n.vpcs.map encV)), .row 68 2 gl (dRows (n.links.map encK))] := by
  have hb := bsrf_Vpc encV_len (fun v : Vpc => v.id) n.vpcs id 46 [] (by omega) hs (fun v _ => find1_p v id)
  subst he
  obtain ⟨e1, e2⟩ := lbv_at (key := fun v : Vpc => v.id) hs hv
  rw [e1, e2] at hb
  have hi := (List.getElem?_eq_some_iff.1 hv).1
  have hiI : (0 : Int) ≤ (i : Int) := by omega
  clear hs e1 e2
  replace hv := Lib.hid hv
  refine ms_i tab_ok mixed Tryz.func22 rfl Tryz.ntmps22 Tryz.results22 (by kernel_rfl) (by simp) (by simp [belowL, belowP]) (by simp [belowH, belowC, belowL, belowP, belowL_d, belowR_d]) ?_
  repeat' (first | (with_reducible refine And.intro ?_ ?_) | (with_reducible refine gK_i (fun _ => ?_) (fun _ => ?_)) | (with_reducible refine condS_i (fun _ => ?_) (fun _ => ?_)) | (with_reducible refine drw_i (by kernel_rfl)) | simp -dsimp only [go_sem, seval, *, hiI, hi, undef] | ((with_reducible refine opK_c ?_); simp -dsimp only [go_sem, seval, hiI, hi, undef]; first | refine callK_r (by first | assumption | exact hb) (by first | exact .inl rfl | exact .inr rfl) ?_ | (refine callK_i (by assumption) ?_ ?_ ?_; (solve | (repeat (first | exact DLe.refl _ | exact DLe.nil _ | (refine DLe.tup ?_) | (refine DLe.agg ?_ rfl) | exact trivial | (refine And.intro ?_ ?_)))); (solve | exact .inl rfl | exact .inr rfl))) | fail | omega | exact decide_eq_true (by omega) | exact DLe.refl _)
  exact weak_eq rfl rfl
set_option maxRecDepth 100000 in
theorem nfind0_m (n : Net) (id : Int) (gv gl : Nat) (hf : findN n id = none) (h6 : n.vpcs.length ≤ 6) (hs : n.vpcs.Pairwise fun a b => a.id < b.id) :
    MSpec Tryz.prog 22 [.ptr 0 0, .d (.v (.int .i64 id))] [.box 25 [.own 1 gv, .own 2 gl], .row 56 3 gv (dRows (n.vpcs.map encV)), .row 68 2 gl (dRows (n.links.map encK))] (.d (.tup [.v (.pointer none), .v (.bool false)]))
      [.box 25 [.own 1 gv, .own 2 gl], .row 56 3 gv (dRows (n.vpcs.map encV)), .row 68 2 gl (dRows (n.links.map encK))] := by
  have hb := bsrf_Vpc encV_len (fun v : Vpc => v.id) n.vpcs id 46 [] (by omega) hs (fun v _ => find1_p v id)
  have e2 : lbB (fun v : Vpc => v.id) id n.vpcs = false := by
    cases hB : lbB (fun v : Vpc => v.id) id n.vpcs with
    | false => rfl
    | true =>
      unfold lbB at hB
      cases hq : n.vpcs[lbN (fun v : Vpc => v.id) id n.vpcs]? with
      | none => rw [hq] at hB; cases hB
      | some v =>
        have := lb_hit hs hq (by rw [hq] at hB; simpa using hB)
        unfold findN at hf
        rw [hf] at this
        cases this
  rw [e2] at hb
  clear hs e2 hf
  refine ms_i tab_ok mixed Tryz.func22 rfl Tryz.ntmps22 Tryz.results22 (by kernel_rfl) (by simp) (by simp [belowL, belowP]) (by simp [belowH, belowC, belowL, belowP, belowL_d, belowR_d]) ?_
  repeat' (first | (with_reducible refine And.intro ?_ ?_) | (with_reducible refine gK_i (fun _ => ?_) (fun _ => ?_)) | (with_reducible refine condS_i (fun _ => ?_) (fun _ => ?_)) | (with_reducible refine drw_i (by kernel_rfl)) | simp -dsimp only [go_sem, seval, *, undef] | ((with_reducible refine opK_c ?_); simp -dsimp only [go_sem, seval, undef]; first | refine callK_r (by first | assumption | exact hb) (by first | exact .inl rfl | exact .inr rfl) ?_ | (refine callK_i (by assumption) ?_ ?_ ?_; (solve | (repeat (first | exact DLe.refl _ | exact DLe.nil _ | (refine DLe.tup ?_) | (refine DLe.agg ?_ rfl) | exact trivial | (refine And.intro ?_ ?_)))); (solve | exact .inl rfl | exact .inr rfl))) | fail | omega | exact decide_eq_true (by omega) | exact DLe.refl _)
  exact weak_eq rfl rfl
theorem nfindz_p (id : Int) : PSpec Tryz.prog 22 [.ept [.v (.slice none 0 0), .v (.slice none 0 0)], .v (.int .i64 id)] (.tup [.v (.pointer none), .v (.bool false)]) := by
  have hb := (bsrf_Vpc encV_len (fun v : Vpc => v.id) [] id 46 [] (by simp) (by simp) (fun v _ => find1_p v id)).args (ds := [.v (.slice none 0 0), .v (.int .i64 id), .clo 46 []]) ⟨DLe.nil _, DLe.refl _, DLe.refl _, trivial⟩
  have e : lbB (fun v : Vpc => v.id) id [] = false := rfl
  rw [e] at hb
  refine ps_i tab_ok mixed Tryz.func22 rfl Tryz.ntmps22 Tryz.results22 (by kernel_rfl) ?_
  repeat' (first | (with_reducible refine And.intro ?_ ?_) | (with_reducible refine gK_i (fun _ => ?_) (fun _ => ?_)) | (with_reducible refine condS_i (fun _ => ?_) (fun _ => ?_)) | (with_reducible refine drw_i (by kernel_rfl)) | simp -dsimp only [go_sem, seval, *, undef] | ((with_reducible refine opK_c ?_); simp -dsimp only [go_sem, seval, undef]; first | refine callK_r (by first | assumption | exact hb) (by first | exact .inl rfl | exact .inr rfl) ?_ | (refine callK_i (by assumption) ?_ ?_ ?_; (solve | (repeat (first | exact DLe.refl _ | exact DLe.nil _ | (refine DLe.tup ?_) | (refine DLe.agg ?_ rfl) | exact trivial | (refine And.intro ?_ ?_)))); (solve | exact .inl rfl | exact .inr rfl))) | fail | omega | exact decide_eq_true (by omega) | exact DLe.refl _)
end Go.Proofs.YtgmbhaclogabeaaGreat
namespace Go.Proofs.YtgmbhaclogabeaaGreat
open Go Go.RowKit
theorem eqK_list (x y : Lnk) : ([x.a, x.b] == [y.a, y.b]) = decide (x = y) := by
  rw [Bool.eq_iff_iff]
  cases x; cases y
  simp
set_option maxHeartbeats 1000000 in
theorem index_Link (l : List Lnk) (x : Lnk) (hl : l.length ≤ 1000000000) :
    PSpec Tryz.prog 43 [.sl 2 (l.map encK), .agg (encK x)] (.v (.int .i64 (idxI (fun y => decide (x = y)) l))) := by
  refine ps_i tab_ok mixed Tryz.func43 rfl Tryz.ntmps43 Tryz.results43 (by kernel_rfl) ?_
  repeat' (first | (with_reducible refine And.intro ?_ ?_) | (with_reducible refine gK_i (fun _ => ?_) (fun _ => ?_)) | (with_reducible refine condS_i (fun _ => ?_) (fun _ => ?_)) | (with_reducible refine drw_i (by kernel_rfl)) | simp -dsimp only [go_sem, seval, *, encK, bne_self_eq_false] | ((with_reducible refine opK_c ?_); simp -dsimp only [go_sem, seval, encK, bne_self_eq_false]; first | refine callK_r (by first | assumption | fail) (by first | exact .inl rfl | exact .inr rfl) ?_ | (refine callK_i (by assumption) ?_ ?_ ?_; (solve | (repeat (first | exact DLe.refl _ | exact DLe.nil _ | (refine DLe.tup ?_) | (refine DLe.agg ?_ rfl) | exact trivial | (refine And.intro ?_ ?_)))); (solve | exact .inl rfl | exact .inr rfl))) | fail | omega | exact decide_eq_true (by omega) | exact DLe.refl _)
  refine loopG tab_ok mixed (fun m e h => ∃ k : Nat, k ≤ l.length ∧ (∀ y ∈ l.take k, decide (x = y) = false) ∧ m = l.length - k ∧ e = [(8, .d (.v (.int .i64 k))), (7, .d (.v (.int .i64 l.length))), (4, .d (.v (.int .i64 0))), (3, .ptr 0 0), (0, .d (.sl 2 (l.map encK)))] ∧ h = [.box 68 ((encK x).map .d)]) _ _ _ ⟨0, Nat.zero_le _, by simp, rfl, rfl, rfl⟩ (weak_forget _ (by simp) (by (try simp only [encK]); rfl) (by (repeat' (first | exact trivial | (refine ⟨rfl, ?_⟩)))) (by first | rfl | simp only [belowH, belowE, belowC, belowL, belowR, belowP, belowL_d, belowR_d, List.length_cons, List.length_nil, Nat.reduceAdd, Nat.reduceLT, decide_true, Bool.and_self, Bool.and_true]) (by first | rfl | simp only [belowH, belowE, belowC, belowL, belowR, belowP, belowL_d, belowR_d, List.length_cons, List.length_nil, Nat.reduceAdd, Nat.reduceLT, decide_true, Bool.and_self, Bool.and_true])) ?_
  rintro m e h ⟨k, hk, hno, rfl, rfl, rfl⟩ CL hCL
  by_cases hlt : k < l.length
  · obtain ⟨y, hy⟩ : ∃ y, l[k]? = some y := ⟨_, List.getElem?_eq_getElem hlt⟩
    have hltI : (k : Int) < (l.length : Int) := by omega
    have hwr : IntKind.i64.wrap ((k : Int) + 1) = ((k + 1 : Nat) : Int) := by rw [IntKind.wrap_i64]; omega
    have he := eqK_list x y
    cases hp : decide (x = y) with
    | false =>
      rw [hp] at he
      have hno2 : ∀ z ∈ l.take (k + 1), decide (x = z) = false := fun z hz => by
        rw [take_snoc hy] at hz
        rcases List.mem_append.1 hz with hz | hz
        · exact hno z hz
        · rw [List.mem_singleton] at hz; rw [hz]; exact hp
      replace hno2 := Lib.hid hno2
      replace hno := Lib.hid hno
      replace hp := Lib.hid hp
      repeat' (first | (with_reducible refine And.intro ?_ ?_) | (with_reducible refine gK_i (fun _ => ?_) (fun _ => ?_)) | (with_reducible refine condS_i (fun _ => ?_) (fun _ => ?_)) | (with_reducible refine drw_i (by kernel_rfl)) | simp -dsimp only [go_sem, seval, *, encK, hy, hltI, hwr, he] | ((with_reducible refine opK_c ?_); simp -dsimp only [go_sem, seval, encK, hy, hltI, hwr, he]; first | refine callK_r (by first | assumption | fail) (by first | exact .inl rfl | exact .inr rfl) ?_ | (refine callK_i (by assumption) ?_ ?_ ?_; (solve | (repeat (first | exact DLe.refl _ | exact DLe.nil _ | (refine DLe.tup ?_) | (refine DLe.agg ?_ rfl) | exact trivial | (refine And.intro ?_ ?_)))); (solve | exact .inl rfl | exact .inr rfl))) | fail | omega | exact decide_eq_true (by omega) | exact DLe.refl _)
      refine hCL _ _ _ _ _ ?_ ⟨k + 1, hlt, hno2.out, rfl, rfl, rfl⟩ (weak_forget _ (by simp) (by (try simp only [encK]); rfl) (by (repeat' (first | exact trivial | (refine ⟨rfl, ?_⟩)))) (by first | rfl | simp only [belowH, belowE, belowC, belowL, belowR, belowP, belowL_d, belowR_d, List.length_cons, List.length_nil, Nat.reduceAdd, Nat.reduceLT, decide_true, Bool.and_self, Bool.and_true]) (by first | rfl | simp only [belowH, belowE, belowC, belowL, belowR, belowP, belowL_d, belowR_d, List.length_cons, List.length_nil, Nat.reduceAdd, Nat.reduceLT, decide_true, Bool.and_self, Bool.and_true]))
      omega
    | true =>
      rw [hp] at he
      have hidx : idxI (fun y => decide (x = y)) l = k := idxI_some hy hp hno
      rw [hidx]
      replace hidx := Lib.hid hidx
      replace hno := Lib.hid hno
      replace hp := Lib.hid hp
      repeat' (first | (with_reducible refine And.intro ?_ ?_) | (with_reducible refine gK_i (fun _ => ?_) (fun _ => ?_)) | (with_reducible refine condS_i (fun _ => ?_) (fun _ => ?_)) | (with_reducible refine drw_i (by kernel_rfl)) | simp -dsimp only [go_sem, seval, *, encK, hy, hltI, hwr, he] | ((with_reducible refine opK_c ?_); simp -dsimp only [go_sem, seval, encK, hy, hltI, hwr, he]; first | refine callK_r (by first | assumption | fail) (by first | exact .inl rfl | exact .inr rfl) ?_ | (refine callK_i (by assumption) ?_ ?_ ?_; (solve | (repeat (first | exact DLe.refl _ | exact DLe.nil _ | (refine DLe.tup ?_) | (refine DLe.agg ?_ rfl) | exact trivial | (refine And.intro ?_ ?_)))); (solve | exact .inl rfl | exact .inr rfl))) | fail | omega | exact decide_eq_true (by omega) | exact DLe.refl _)
      all_goals exact DLe.refl _
  · obtain rfl : k = l.length := by omega
    rw [List.take_length] at hno
    rw [idxI_none hno]
    replace hno := Lib.hid hno
    repeat' (first | (with_reducible refine And.intro ?_ ?_) | (with_reducible refine gK_i (fun _ => ?_) (fun _ => ?_)) | (with_reducible refine condS_i (fun _ => ?_) (fun _ => ?_)) | (with_reducible refine drw_i (by kernel_rfl)) | simp -dsimp only [go_sem, seval, *, encK, Int.lt_irrefl] | ((with_reducible refine opK_c ?_); simp -dsimp only [go_sem, seval, encK, Int.lt_irrefl]; first | refine callK_r (by first | assumption | fail) (by first | exact .inl rfl | exact .inr rfl) ?_ | (refine callK_i (by assumption) ?_ ?_ ?_; (solve | (repeat (first | exact DLe.refl _ | exact DLe.nil _ | (refine DLe.tup ?_) | (refine DLe.agg ?_ rfl) | exact trivial | (refine And.intro ?_ ?_)))); (solve | exact .inl rfl | exact .inr rfl))) | fail | omega | exact decide_eq_true (by omega) | exact DLe.refl _)
    all_goals exact DLe.refl _
theorem contains_Link (l : List Lnk) (x : Lnk) (hl : l.length ≤ 1000000000) :
    PSpec Tryz.prog 40 [.sl 2 (l.map encK), .agg (encK x)] (.v (.bool (l.any fun y => decide (x = y)))) := by
  have hi := index_Link l x hl
  have hany := idxI_any (fun y => decide (x = y)) l
  refine ps_i tab_ok mixed Tryz.func40 rfl Tryz.ntmps40 Tryz.results40 (by kernel_rfl) ?_
  repeat' (first | (with_reducible refine And.intro ?_ ?_) | (with_reducible refine gK_i (fun _ => ?_) (fun _ => ?_)) | (with_reducible refine condS_i (fun _ => ?_) (fun _ => ?_)) | (with_reducible refine drw_i (by kernel_rfl)) | simp -dsimp only [go_sem, seval, *, encK, hany] | ((with_reducible refine opK_c ?_); simp -dsimp only [go_sem, seval, encK, hany]; first | refine callK_r (by first | assumption | exact hi) (by first | exact .inl rfl | exact .inr rfl) ?_ | (refine callK_i (by assumption) ?_ ?_ ?_; (solve | (repeat (first | exact DLe.refl _ | exact DLe.nil _ | (refine DLe.tup ?_) | (refine DLe.agg ?_ rfl) | exact trivial | (refine And.intro ?_ ?_)))); (solve | exact .inl rfl | exact .inr rfl))) | fail | omega | exact decide_eq_true (by omega) | exact DLe.refl _)
  all_goals exact DLe.refl _
theorem delete_Link {α : Type} {enc : α → List D} (l : List α) (i j g : Nat) (hi : i < l.length) (hj : j = i + 1) :
    MSpec Tryz.prog 44 [.own 0 g, .d (.v (.int .i64 i)), .d (.v (.int .i64 j))] [.row 68 2 g (dRows (l.map enc))] (.own 0 (g + 1)) [.row 68 2 (g + 1) (dRows ((l.eraseIdx i).map enc))] := by
  have h1 : ((i : Int) == (j : Int)) = false := by simp; omega
  have hne : ¬ dRows (l.map enc) = [] := by cases l <;> simp [dRows] at hi ⊢
  have hle : (i : Int) ≤ (j : Int) := by omega
  have hle2 : (j : Int) ≤ (l.length : Int) := by omega
  have hlm : (l.map enc).length = l.length := List.length_map _
  have h2 := del_len (dRows (l.map enc)) i j l.length (by rw [dRows_len, hlm]; exact hi) hj (by rw [dRows_len, hlm])
  rw [dRows_len, hlm] at h2
  have hj1 := Lib.hid hj
  clear hj
  have hj2 : j ≤ l.length := by have := hj1.out; omega
  have hmin : min (l.length - j) (l.length - j) = l.length - j := Nat.min_self _
  have hlt : i + (l.length - j) ≤ l.length := by have := hj1.out; omega
  have hk1 : l.length - (i + (l.length - j)) = 1 := by have := hj1.out; omega
  have hk2 : i + (l.length - j) + 1 ≤ l.length := by have := hj1.out; omega
  have hne2 : ¬ setAt (dRows (l.map enc)) i (((dRows (l.map enc)).drop j).take (l.length - j)) = [] := by
    intro h
    rw [h] at h2; simp at h2; omega
  refine ms_i tab_ok mixed Tryz.func44 rfl Tryz.ntmps44 Tryz.results44 (by kernel_rfl) (by simp) (by simp [belowL, belowP]) (by simp [belowH, belowC, belowL, belowP, belowL_d, belowR_d]) ?_
  repeat' (first | (with_reducible refine And.intro ?_ ?_) | (with_reducible refine gK_i (fun _ => ?_) (fun _ => ?_)) | (with_reducible refine condS_i (fun _ => ?_) (fun _ => ?_)) | (with_reducible refine drw_i (by kernel_rfl)) | simp -dsimp only [go_sem, seval, *, h1, hne, Nat.sub_zero, List.length_take, List.length_drop] | ((with_reducible refine opK_c ?_); simp -dsimp only [go_sem, seval, h1, hne, Nat.sub_zero, List.length_take, List.length_drop]; first | refine callK_r (by first | assumption | fail) (by first | exact .inl rfl | exact .inr rfl) ?_ | refine callK_i (by assumption) (by repeat (first | exact DLe.refl _ | exact DLe.nil _ | (refine DLe.tup ?_) | (refine DLe.agg ?_ rfl) | exact trivial | (refine And.intro ?_ ?_))) (by first | exact .inl rfl | exact .inr rfl) ?_) | omega | exact decide_eq_true (by omega) | exact DLe.refl _)
  rw [map_erase]
  exact del_weak (by rw [hlm]; exact hi) hj1.out hlm.symm
end Go.Proofs.YtgmbhaclogabeaaGreat
namespace Go.Proofs.YtgmbhaclogabeaaGreat
open Go Go.RowKit
section
variable (lk : Nat → Nat → Bool)
end
def heads (L : List Lnk) : Int → Int := L.foldl stepF (fun x => x)
theorem stepF_keep {F : Int → Int} {x y : Int} (h : F x = F y) (l : Lnk) : stepF F l x = stepF F l y := by unfold stepF; rw [h]
theorem foldF_keep {x y : Int} : ∀ (L : List Lnk) (F : Int → Int), F x = F y → L.foldl stepF F x = L.foldl stepF F y
  | [], _, h => h
  | l :: L, F, h => foldF_keep L _ (stepF_keep h l)
theorem foldF_link {l : Lnk} : ∀ (L : List Lnk) (F : Int → Int), l ∈ L → L.foldl stepF F l.a = L.foldl stepF F l.b
  | m :: L, F, h => by
    rcases List.mem_cons.1 h with rfl | h
    · refine foldF_keep L _ ?_
      unfold stepF
      rw [if_pos rfl]
      split <;> rfl
    · exact foldF_link L _ h
theorem heads_link {L : List Lnk} {l : Lnk} (h : l ∈ L) : heads L l.a = heads L l.b := foldF_link L _ h
theorem foldF_sound {S : Int → Prop} : ∀ (L : List Lnk) (F : Int → Int), (∀ l ∈ L, S l.a ↔ S l.b) → (∀ x y, F x = F y → (S x ↔ S y)) → ∀ x y, L.foldl stepF F x = L.foldl stepF F y → (S x ↔ S y)
  | [], _, _, hF, x, y, h => hF x y h
  | l :: L, F, hL, hF, x, y, h => by
    refine foldF_sound L (stepF F l) (fun m hm => hL m (List.mem_cons_of_mem _ hm)) (fun u v huv => ?_) x y h
    have hl := hL l (by simp)
    unfold stepF at huv
    by_cases h1 : F u = F l.b
    · by_cases h2 : F v = F l.b
      · exact hF u v (h1.trans h2.symm)
      · rw [if_pos h1, if_neg h2] at huv
        exact (hF u l.b h1).trans (hl.symm.trans (hF l.a v huv))
    · by_cases h2 : F v = F l.b
      · rw [if_neg h1, if_pos h2] at huv
        exact (hF u l.a huv).trans (hl.trans (hF v l.b h2).symm)
      · rw [if_neg h1, if_neg h2] at huv
        exact hF u v huv
theorem heads_sound {S : Int → Prop} {L : List Lnk} (hL : ∀ l ∈ L, S l.a ↔ S l.b) {x y : Int} (h : heads L x = heads L y) : S x ↔ S y :=
  foldF_sound L _ hL (fun x y h => by rw [h]) x y h
theorem heads_same {L M : List Lnk} (h : ∀ l, l ∈ L ↔ l ∈ M) {x y : Int} : heads L x = heads L y ↔ heads M x = heads M y := by
  have key : ∀ {L M : List Lnk}, (∀ l, l ∈ L ↔ l ∈ M) → heads L x = heads L y → heads M x = heads M y := fun {L M} h e =>
    ((heads_sound (S := fun z => heads M z = heads M y) (L := L) (fun l hl => by
      have := heads_link ((h l).1 hl)
      rw [this]) e).2 rfl)
  exact ⟨key h, key fun l => (h l).symm⟩
theorem heads_snoc (L : List Lnk) (l : Lnk) : heads (L ++ [l]) = stepF (heads L) l := by unfold heads; rw [List.foldl_append]; rfl
theorem stepF_iff {F : Int → Int} {l : Lnk} {x y : Int} : stepF F l x = stepF F l y ↔ F x = F y ∨ (F x = F l.a ∧ F y = F l.b) ∨ (F x = F l.b ∧ F y = F l.a) := by
  unfold stepF
  by_cases h1 : F x = F l.b <;> by_cases h2 : F y = F l.b
  · rw [if_pos h1, if_pos h2]; simp [h1, h2]
  · rw [if_pos h1, if_neg h2]
    constructor
    · intro h; exact .inr (.inr ⟨h1, h.symm⟩)
    · rintro (h | h | h)
      · exact absurd (h.symm.trans h1) h2
      · exact absurd h.2 h2
      · exact h.2.symm
  · rw [if_neg h1, if_pos h2]
    constructor
    · intro h; exact .inr (.inl ⟨h, h2⟩)
    · rintro (h | h | h)
      · exact absurd (h.trans h2) h1
      · exact h.1
      · exact absurd h.1 h1
  · rw [if_neg h1, if_neg h2]
    constructor
    · intro h; exact .inl h
    · rintro (h | h | h)
      · exact h
      · exact absurd h.2 h2
      · exact absurd h.1 h1
theorem lnk_comm (a b : Int) : lnk a b = lnk b a := by
  unfold lnk
  rcases Int.lt_trichotomy a b with h | h | h
  · rw [if_neg (by omega), if_pos h, if_pos h, if_neg (by omega)]
  · subst h; rfl
  · rw [if_pos h, if_neg (by omega), if_neg (by omega), if_pos h]
theorem headN_eq (n : Net) : headN n = heads n.links := by
  unfold headN stN heads
  have key : ∀ (L : List Lnk) (s : List (List Int × Int) × (Int → Int)), (L.foldl stepG s).2 = L.foldl stepF s.2 := by
    intro L
    induction L with
    | nil => intro s; rfl
    | cons l L ih => intro s; rw [List.foldl_cons, List.foldl_cons, ih]; rfl
  exact key _ _
end Go.Proofs.YtgmbhaclogabeaaGreat
namespace Go.Proofs.YtgmbhaclogabeaaGreat
open Go Go.RowKit
/-- A group's networks. -/
def grpN (n : Net) (id : Int) : List Int := (n.vpcs.filter fun v => headN n v.id == headN n id).map (·.id)
def groupN (n : Net) (id : Int) : List Int × Int := if chkT n ≠ 0 then ([], chkT n) else if findN n id = none then ([], 5) else (grpN n id, 0)
set_option maxRecDepth 100000 in
set_option maxHeartbeats 1000000 in
theorem ngroup_p (n : Net) (id : Int) : PSpec Tryz.prog 6 [.agg (encT n), .v (.int .i64 id)] (.tup [.sl 1 ((groupN n id).1.map encA), .v (.int .i64 (groupN n id).2)]) := by
  obtain ⟨R, hR⟩ : ∃ R, R = groupN n id := ⟨_, rfl⟩
  rw [← hR]
  replace hR := Lib.hid hR
  have hck := ncheck_p n
  by_cases hc : chkT n = 0
  · have hok := netOK.1 hc
    have hfd := nfindB_m n id (by have := hok.n6; omega) hok.rise
    have hR2 : R = if findN n id = none then ([], 5) else (grpN n id, 0) := by rw [hR.out]; unfold groupN; rw [if_neg (by simpa using hc)]
    rw [hc] at hck
    cases hf : findN n id with
    | none =>
      rw [hf] at hfd hR2
      have hr : R = ([], 5) := by rw [hR2]; rfl
      rw [hr]
      clear hr hR2 hok
      replace hf := Lib.hid hf
      replace hc := Lib.hid hc
      refine ps_i tab_ok mixed Tryz.func6 rfl Tryz.ntmps6 Tryz.results6 (by kernel_rfl) ?_
      repeat' (first | (with_reducible refine And.intro ?_ ?_) | (with_reducible refine gK_i (fun _ => ?_) (fun _ => ?_)) | (with_reducible refine condS_i (fun _ => ?_) (fun _ => ?_)) | (with_reducible refine drw_i (by kernel_rfl)) | simp -dsimp only [go_sem, seval, *, encT, findNP, findND, undef] | ((with_reducible refine opK_c ?_); simp -dsimp only [go_sem, seval, encT, findNP, findND, undef]; first | refine callK_r (by first | assumption | exact hck) (by first | exact .inl rfl | exact .inr rfl) ?_ | (refine callK_i (by assumption) ?_ ?_ ?_; (solve | (repeat (first | exact DLe.refl _ | exact DLe.nil _ | (refine DLe.tup ?_) | (refine DLe.agg ?_ rfl) | exact trivial | (refine And.intro ?_ ?_)))); (solve | exact .inl rfl | exact .inr rfl))) | (refine opK_M [0] (hfd) ?_ ?_ ?_ ?_ ?_ ?_; (solve | rfl | simp only [go_sem, seval, encT, findNP, findND]); (solve | rfl); (solve | decide); (solve | simp); (solve | simp only [go_sem, seval, lentOK, encT, findNP, findND])) | omega | exact decide_eq_true (by omega) | exact DLe.refl _)
      all_goals exact (by repeat (first | exact DLe.refl _ | exact DLe.nil _ | (refine DLe.tup ?_) | (refine DLe.agg ?_ rfl) | exact trivial | (refine And.intro ?_ ?_)))
    | some w =>
      rw [hf] at hfd hR2
      have hr : R = (grpN n id, 0) := by rw [hR2]; rfl
      rw [hr]
      have hof := ofB_m n (by have := hok.n6; omega) (by have := hok.n12; omega) hok.ids
      have hg : ∀ x ∈ n.vpcs.map (·.id), ∃ k, HeadIs (stN n).1 k x (headN n x) := fun x hx => by
        have := (grp_k hok.ids n.links.length x (by exact hx)).1
        rwa [List.take_length] at this
      obtain ⟨nv, hhv⟩ := hg id (find_ids (by rw [hf]; rfl))
      have h6 := hok.n6
      have hgr : ∀ k, (List.take k n.vpcs).filter (fun v => headN n v.id == headN n id) = (List.take k n.vpcs).filter (fun v => headN n v.id == headN n id) := fun _ => rfl
      clear hr hR2 hok
      replace hf := Lib.hid hf
      replace hc := Lib.hid hc
      replace hg := Lib.hid hg
      unfold grpN
      generalize (stN n).1 = E at *
      have hmi := head_m E nv id (headN n id) hhv
      clear hhv hgr
      refine ps_i tab_ok mixed Tryz.func6 rfl Tryz.ntmps6 Tryz.results6 (by kernel_rfl) ?_
      repeat' (first | (with_reducible refine And.intro ?_ ?_) | (with_reducible refine gK_i (fun _ => ?_) (fun _ => ?_)) | (with_reducible refine condS_i (fun _ => ?_) (fun _ => ?_)) | (with_reducible refine drw_i (by kernel_rfl)) | simp -dsimp only [go_sem, seval, *, encT, findNP, findND, undef] | ((with_reducible refine opK_c ?_); simp -dsimp only [go_sem, seval, encT, findNP, findND, undef]; first | refine callK_r (by first | assumption | exact hck) (by first | exact .inl rfl | exact .inr rfl) ?_ | (refine callK_i (by assumption) ?_ ?_ ?_; (solve | (repeat (first | exact DLe.refl _ | exact DLe.nil _ | (refine DLe.tup ?_) | (refine DLe.agg ?_ rfl) | exact trivial | (refine And.intro ?_ ?_)))); (solve | exact .inl rfl | exact .inr rfl))) | (refine opK_M [0] (hfd) ?_ ?_ ?_ ?_ ?_ ?_; (solve | rfl | simp only [go_sem, seval, encT, findNP, findND]); (solve | rfl); (solve | decide); (solve | simp); (solve | simp only [go_sem, seval, lentOK, encT, findNP, findND])) | (refine opK_M [0] (hof) ?_ ?_ ?_ ?_ ?_ ?_; (solve | rfl | simp only [go_sem, seval, encT]); (solve | rfl); (solve | decide); (solve | simp); (solve | simp only [go_sem, seval, lentOK, encT])) | omega | exact decide_eq_true (by omega) | exact DLe.refl _)
      clear hof hfd hck
      refine loopG tab_ok mixed (fun m e h => ∃ (k g : Nat), k ≤ n.vpcs.length ∧ m = n.vpcs.length - k ∧ e = [(29, .d (.v (.int .i64 k))), (28, .d (.v (.int .i64 n.vpcs.length))), (27, .d (.sl 3 (n.vpcs.map encV))), (10, .own 2 g), (9, .mref 1), (4, .d (.v (.slice none 0 0))), (1, .d (.v (.int .i64 id)))] ∧
        h = [.gone, .mp 1 false E, .row 3 1 g (dRows ((((n.vpcs.take k).filter fun v => headN n v.id == headN n id).map (·.id)).map encA))]) _ _ _ ⟨0, 0, Nat.zero_le _, rfl, rfl, rfl⟩ ?_ ?_
      · refine (weak_gone 0 (by simp)).trans ((weak_adopt (by simp [setC]) 10 3 1 rfl).trans ?_)
        exact weak_forget _ (by simp) (by rfl) (by (repeat' (first | exact trivial | (refine ⟨rfl, ?_⟩)))) (by first | rfl | simp only [belowH, belowE, belowC, belowL, belowR, belowP, belowL_d, belowR_d, belowR_zipG, subRow, faceRow, List.length_cons, List.length_nil, Nat.reduceAdd, Nat.reduceLT, decide_true, Bool.and_self, Bool.and_true]) (by first | rfl | simp only [belowH, belowE, belowC, belowL, belowR, belowP, belowL_d, belowR_d, belowR_zipG, subRow, faceRow, List.length_cons, List.length_nil, Nat.reduceAdd, Nat.reduceLT, decide_true, Bool.and_self, Bool.and_true])
      rintro m e h ⟨k, g, hk, hm, rfl, rfl⟩ C hC
      by_cases hlt : k < n.vpcs.length
      · have hkI : (k : Int) < (n.vpcs.length : Int) := by omega
        have hwr : IntKind.i64.wrap ((k : Int) + 1) = ((k + 1 : Nat) : Int) := by rw [IntKind.wrap_i64]; omega
        obtain ⟨v, hv⟩ : ∃ v, n.vpcs[k]? = some v := ⟨_, List.getElem?_eq_getElem hlt⟩
        obtain ⟨nw, hhw⟩ := hg.out v.id (List.mem_map.2 ⟨v, List.mem_of_getElem? hv, rfl⟩)
        have hmw := head_m E nw v.id (headN n v.id) hhw
        have hfl : ((n.vpcs.take k).filter fun v => headN n v.id == headN n id).length ≤ k := by
          have := List.length_filter_le (fun v : Vpc => headN n v.id == headN n id) (n.vpcs.take k)
          rw [List.length_take] at this; omega
        have hbd : ((n.vpcs.take k).filter fun v => headN n v.id == headN n id).length + 1 ≤ 100 := by omega
        have hst : (n.vpcs.take (k + 1)).filter (fun v => headN n v.id == headN n id) = (n.vpcs.take k).filter (fun v => headN n v.id == headN n id) ++ if (headN n v.id == headN n id) = true then [v] else [] := by
          rw [take_snoc hv, List.filter_append]
          congr 1
          cases hb : headN n v.id == headN n id <;> simp [hb]
        clear hhw
        replace hst := Lib.hid hst
        replace hfl := Lib.hid hfl
        replace hm := Lib.hid hm
        generalize (n.vpcs.take k).filter (fun v => headN n v.id == headN n id) = L at *
        cases e1 : (headN n v.id == headN n id) with
        | false =>
          rw [e1] at hst
          repeat' (first | (with_reducible refine And.intro ?_ ?_) | (with_reducible refine gK_i (fun _ => ?_) (fun _ => ?_)) | (with_reducible refine condS_i (fun _ => ?_) (fun _ => ?_)) | (with_reducible refine drw_i (by kernel_rfl)) | simp -dsimp only [go_sem, seval, *, encT, encV, hkI, hwr, hv, e1, undef] | ((with_reducible refine opK_c ?_); simp -dsimp only [go_sem, seval, encT, encV, hkI, hwr, hv, e1, undef]; first | refine callK_r (by first | assumption | fail) (by first | exact .inl rfl | exact .inr rfl) ?_ | (refine callK_i (by assumption) ?_ ?_ ?_; (solve | (repeat (first | exact DLe.refl _ | exact DLe.nil _ | (refine DLe.tup ?_) | (refine DLe.agg ?_ rfl) | exact trivial | (refine And.intro ?_ ?_)))); (solve | exact .inl rfl | exact .inr rfl))) | (refine opK_M [1] (hmw) ?_ ?_ ?_ ?_ ?_ ?_; (solve | rfl | simp only [go_sem, seval, encV]); (solve | rfl); (solve | decide); (solve | simp); (solve | simp only [go_sem, seval, lentOK, encV])) | (refine opK_M [1] (hmi) ?_ ?_ ?_ ?_ ?_ ?_; (solve | rfl | simp only [go_sem, seval, encV]); (solve | rfl); (solve | decide); (solve | simp); (solve | simp only [go_sem, seval, lentOK, encV])) | omega | exact decide_eq_true (by omega) | exact DLe.refl _)
          refine hC _ _ _ _ _ ?_ ⟨k + 1, g, hlt, rfl, rfl, rfl⟩ (weak_forget _ (by simp) (by rw [hst.out]; simp only [Bool.false_eq_true, if_false, List.append_nil]; rfl) (by (repeat' (first | exact trivial | (refine ⟨rfl, ?_⟩)))) (by first | rfl | simp only [belowH, belowE, belowC, belowL, belowR, belowP, belowL_d, belowR_d, belowR_zipG, subRow, faceRow, List.length_cons, List.length_nil, Nat.reduceAdd, Nat.reduceLT, decide_true, Bool.and_self, Bool.and_true]) (by first | rfl | simp only [belowH, belowE, belowC, belowL, belowR, belowP, belowL_d, belowR_d, belowR_zipG, subRow, faceRow, List.length_cons, List.length_nil, Nat.reduceAdd, Nat.reduceLT, decide_true, Bool.and_self, Bool.and_true]))
          have := hm.out; omega
        | true =>
          rw [e1] at hst
          repeat' (first | (with_reducible refine And.intro ?_ ?_) | (with_reducible refine gK_i (fun _ => ?_) (fun _ => ?_)) | (with_reducible refine condS_i (fun _ => ?_) (fun _ => ?_)) | (with_reducible refine drw_i (by kernel_rfl)) | simp -dsimp only [go_sem, seval, *, encT, encV, hkI, hwr, hv, e1, hbd, undef] | ((with_reducible refine opK_c ?_); simp -dsimp only [go_sem, seval, encT, encV, hkI, hwr, hv, e1, hbd, undef]; first | refine callK_r (by first | assumption | fail) (by first | exact .inl rfl | exact .inr rfl) ?_ | (refine callK_i (by assumption) ?_ ?_ ?_; (solve | (repeat (first | exact DLe.refl _ | exact DLe.nil _ | (refine DLe.tup ?_) | (refine DLe.agg ?_ rfl) | exact trivial | (refine And.intro ?_ ?_)))); (solve | exact .inl rfl | exact .inr rfl))) | (refine opK_M [1] (hmw) ?_ ?_ ?_ ?_ ?_ ?_; (solve | rfl | simp only [go_sem, seval, encV]); (solve | rfl); (solve | decide); (solve | simp); (solve | simp only [go_sem, seval, lentOK, encV])) | (refine opK_M [1] (hmi) ?_ ?_ ?_ ?_ ?_ ?_; (solve | rfl | simp only [go_sem, seval, encV]); (solve | rfl); (solve | decide); (solve | simp); (solve | simp only [go_sem, seval, lentOK, encV])) | omega | exact decide_eq_true (by omega) | exact DLe.refl _)
          refine hC _ _ _ _ _ ?_ ⟨k + 1, g + 1, hlt, rfl, rfl, rfl⟩ (weak_forget _ (by simp) (by rw [hst.out]; simp only [if_true, List.map_append, List.map_cons, List.map_nil, ← dRows_app]; rfl) (by (repeat' (first | exact trivial | (refine ⟨rfl, ?_⟩)))) (by first | rfl | simp only [belowH, belowE, belowC, belowL, belowR, belowP, belowL_d, belowR_d, belowR_zipG, subRow, faceRow, List.length_cons, List.length_nil, Nat.reduceAdd, Nat.reduceLT, decide_true, Bool.and_self, Bool.and_true]) (by first | rfl | simp only [belowH, belowE, belowC, belowL, belowR, belowP, belowL_d, belowR_d, belowR_zipG, subRow, faceRow, List.length_cons, List.length_nil, Nat.reduceAdd, Nat.reduceLT, decide_true, Bool.and_self, Bool.and_true]))
          have := hm.out; omega
      · obtain rfl : k = n.vpcs.length := by omega
        rw [List.take_length]
        replace hm := Lib.hid hm
        repeat' (first | (with_reducible refine And.intro ?_ ?_) | (with_reducible refine gK_i (fun _ => ?_) (fun _ => ?_)) | (with_reducible refine condS_i (fun _ => ?_) (fun _ => ?_)) | (with_reducible refine drw_i (by kernel_rfl)) | simp -dsimp only [go_sem, seval, *, Int.lt_irrefl, undef] | ((with_reducible refine opK_c ?_); simp -dsimp only [go_sem, seval, Int.lt_irrefl, undef]; first | refine callK_r (by first | assumption | fail) (by first | exact .inl rfl | exact .inr rfl) ?_ | (refine callK_i (by assumption) ?_ ?_ ?_; (solve | (repeat (first | exact DLe.refl _ | exact DLe.nil _ | (refine DLe.tup ?_) | (refine DLe.agg ?_ rfl) | exact trivial | (refine And.intro ?_ ?_)))); (solve | exact .inl rfl | exact .inr rfl))) | fail | omega | exact decide_eq_true (by omega) | exact DLe.refl _)
        all_goals exact (by repeat (first | exact DLe.refl _ | exact DLe.nil _ | (refine DLe.tup ?_) | (refine DLe.agg ?_ rfl) | exact trivial | (refine And.intro ?_ ?_)))
  · have hr : R = ([], chkT n) := by rw [hR.out]; unfold groupN; rw [if_pos hc]
    have h1 : (chkT n != 0) = true := by simpa using hc
    rw [hr]
    replace hr := Lib.hid hr
    refine ps_i tab_ok mixed Tryz.func6 rfl Tryz.ntmps6 Tryz.results6 (by kernel_rfl) ?_
    repeat' (first | (with_reducible refine And.intro ?_ ?_) | (with_reducible refine gK_i (fun _ => ?_) (fun _ => ?_)) | (with_reducible refine condS_i (fun _ => ?_) (fun _ => ?_)) | (with_reducible refine drw_i (by kernel_rfl)) | simp -dsimp only [go_sem, seval, *, encT, h1] | ((with_reducible refine opK_c ?_); simp -dsimp only [go_sem, seval, encT, h1]; first | refine callK_r (by first | assumption | exact hck) (by first | exact .inl rfl | exact .inr rfl) ?_ | (refine callK_i (by assumption) ?_ ?_ ?_; (solve | (repeat (first | exact DLe.refl _ | exact DLe.nil _ | (refine DLe.tup ?_) | (refine DLe.agg ?_ rfl) | exact trivial | (refine And.intro ?_ ?_)))); (solve | exact .inl rfl | exact .inr rfl))) | fail | omega | exact decide_eq_true (by omega) | exact DLe.refl _)
    all_goals exact (by repeat (first | exact DLe.refl _ | exact DLe.nil _ | (refine DLe.tup ?_) | (refine DLe.agg ?_ rfl) | exact trivial | (refine And.intro ?_ ?_)))
/-- Grow's answer. -/
def growN (n : Net) (id : Int) (r : Rng) : Net × Int :=
  if chkT n ≠ 0 then (Net.zero, chkT n) else
  match vpcIx n id with
  | none => (Net.zero, 5)
  | some i => match n.vpcs[i]? with
    | none => (Net.zero, 5)
    | some v => if (growV v r).2 ≠ 0 then (Net.zero, (growV v r).2) else if peaceN { n with vpcs := n.vpcs.set i (growV v r).1 } = true then ({ n with vpcs := n.vpcs.set i (growV v r).1 }, 0) else (Net.zero, 9)
/-- What grows keeps its Id, and stays right. -/
theorem growV_ok {v : Vpc} {r : Rng} (h : (growV v r).2 = 0) : (growV v r).1.id = v.id ∧ (growV v r).1.ranges.length ≤ 5 := by
  unfold growV at h ⊢
  split
  · rename_i h1; rw [if_pos h1] at h; exact absurd h h1
  · rename_i h1
    rw [if_neg h1] at h
    have hk := vpcOK_of (by simpa using h1)
    split
    · rename_i h2
      rw [if_pos h2] at h
      exact absurd h h2
    · refine ⟨rfl, ?_⟩
      simp only
      rw [insK_len]
      have := hk.n4; omega
set_option maxRecDepth 100000 in
set_option maxHeartbeats 1000000 in
theorem ngrow_p (n : Net) (id : Int) (r : Rng) : PSpec Tryz.prog 8 [.agg (encT n), .v (.int .i64 id), .agg (encG r)] (.tup [.agg (encT (growN n id r).1), .v (.int .i64 (growN n id r).2)]) := by
  obtain ⟨R, hR⟩ : ∃ R, R = growN n id r := ⟨_, rfl⟩
  rw [← hR]
  replace hR := Lib.hid hR
  by_cases hc : chkT n = 0
  · have hok := netOK.1 hc
    have hbg := nbegin_m n hc
    cases hx : vpcIx n id with
    | none =>
      have hfd := nfind0_m n id n.vpcs.length 1 (vpcIx_none hx) hok.n6 hok.rise
      have hr : R = (Net.zero, 5) := by rw [hR.out]; unfold growN; rw [if_neg (by simpa using hc), hx]
      rw [hr]
      clear hr hR hok hx hc
      refine ps_i tab_ok mixed Tryz.func8 rfl Tryz.ntmps8 Tryz.results8 (by kernel_rfl) ?_
      repeat' (first | (with_reducible refine And.intro ?_ ?_) | (with_reducible refine gK_i (fun _ => ?_) (fun _ => ?_)) | (with_reducible refine condS_i (fun _ => ?_) (fun _ => ?_)) | (with_reducible refine drw_i (by kernel_rfl)) | simp -dsimp only [go_sem, seval, *, encT, undef] | ((with_reducible refine opK_c ?_); simp -dsimp only [go_sem, seval, encT, undef]; first | refine callK_r (by first | assumption | fail) (by first | exact .inl rfl | exact .inr rfl) ?_ | (refine callK_i (by assumption) ?_ ?_ ?_; (solve | (repeat (first | exact DLe.refl _ | exact DLe.nil _ | (refine DLe.tup ?_) | (refine DLe.agg ?_ rfl) | exact trivial | (refine And.intro ?_ ?_)))); (solve | exact .inl rfl | exact .inr rfl))) | (refine opK_M [] (hbg) ?_ ?_ ?_ ?_ ?_ ?_; (solve | rfl | simp only [go_sem, seval, encT]); (solve | rfl); (solve | decide); (solve | simp); (solve | simp only [go_sem, seval, lentOK, encT])) | (refine opK_M [5, 6, 4] (hfd) ?_ ?_ ?_ ?_ ?_ ?_; (solve | rfl | simp only [go_sem, seval, encT]); (solve | rfl); (solve | decide); (solve | simp); (solve | simp only [go_sem, seval, lentOK, encT])) | omega | exact decide_eq_true (by omega) | exact DLe.refl _)
      all_goals exact (by repeat (first | exact DLe.refl _ | exact DLe.nil _ | (refine DLe.tup ?_) | (refine DLe.agg ?_ rfl) | exact trivial | (refine And.intro ?_ ?_)))
    | some i =>
      obtain ⟨v, hv, he, hi, hfs⟩ := vpcIx_some hx
      have hfd := nfind_m n id n.vpcs.length 1 i v hv he hok.n6 hok.rise
      have hgp := vgrow_p v r
      replace he := Lib.hid he
      have hiI : (0 : Int) ≤ (i : Int) := by omega
      by_cases hg : (growV v r).2 = 0
      · have hgo := growV_ok hg
        have hpe := peace_p { n with vpcs := n.vpcs.set i (growV v r).1 } (by have := hok.n6; simp; omega) (by have := hok.n12; simp; omega) (fun u hu => by
          rcases List.mem_or_eq_of_mem_set hu with hu | rfl
          · have := (vpcOK_of (hok.vp u hu)).n4; omega
          · have := hgo.2; omega) (by
          have e : (n.vpcs.set i (growV v r).1).map (·.id) = n.vpcs.map (·.id) := by
            rw [List.map_set, hgo.1]
            apply List.ext_getElem?
            intro j
            rw [List.getElem?_set]
            split
            · rename_i hj
              subst hj
              rw [List.length_map, if_pos hi, List.getElem?_map, hv]; rfl
            · rfl
          simp only [e]
          exact hok.ids)
        have hR2 : R = if peaceN { n with vpcs := n.vpcs.set i (growV v r).1 } = true then ({ n with vpcs := n.vpcs.set i (growV v r).1 }, 0) else (Net.zero, 9) := by
          rw [hR.out]; unfold growN; rw [if_neg (by simpa using hc), hx]; simp only [hv]; rw [if_neg (by simpa using hg)]
        rw [hg] at hgp
        clear hR hok hx hc hgo hg hfs
        generalize (growV v r).1 = w at *
        have hrow : (dRows (n.vpcs.map encV)).set i [.d (.v (.int .i64 w.id)), .d (.sl 3 (w.ranges.map encG)), .d (.sl 4 (w.subs.map encN))] = dRows ((n.vpcs.set i w).map encV) := dRows_setrow encV n.vpcs i w
        cases hp : peaceN { n with vpcs := n.vpcs.set i w } with
        | true =>
          rw [hp] at hpe hR2
          have hr : R = ({ n with vpcs := n.vpcs.set i w }, 0) := by rw [hR2]; rfl
          rw [hr]
          clear hr hR2 hp
          refine ps_i tab_ok mixed Tryz.func8 rfl Tryz.ntmps8 Tryz.results8 (by kernel_rfl) ?_
          repeat' (first | (with_reducible refine And.intro ?_ ?_) | (with_reducible refine gK_i (fun _ => ?_) (fun _ => ?_)) | (with_reducible refine condS_i (fun _ => ?_) (fun _ => ?_)) | (with_reducible refine drw_i (by kernel_rfl)) | simp -dsimp only [go_sem, seval, *, encT, encV, encG, hv, hi, hiI, hrow, undef] | ((with_reducible refine opK_c ?_); simp -dsimp only [go_sem, seval, encT, encV, encG, hv, hi, hiI, hrow, undef]; first | refine callK_r (by first | assumption | exact hgp | exact hpe) (by first | exact .inl rfl | exact .inr rfl) ?_ | (refine callK_i (by assumption) ?_ ?_ ?_; (solve | (repeat (first | exact DLe.refl _ | exact DLe.nil _ | (refine DLe.tup ?_) | (refine DLe.agg ?_ rfl) | exact trivial | (refine And.intro ?_ ?_)))); (solve | exact .inl rfl | exact .inr rfl))) | (refine opK_M [] (hbg) ?_ ?_ ?_ ?_ ?_ ?_; (solve | rfl | simp only [go_sem, seval, encT]); (solve | rfl); (solve | decide); (solve | simp); (solve | simp only [go_sem, seval, lentOK, encT])) | (refine opK_M [5, 6, 4] (hfd) ?_ ?_ ?_ ?_ ?_ ?_; (solve | rfl | simp only [go_sem, seval, encT]); (solve | rfl); (solve | decide); (solve | simp); (solve | simp only [go_sem, seval, lentOK, encT])) | omega | exact decide_eq_true (by omega) | exact DLe.refl _)
          all_goals exact (by repeat (first | exact DLe.refl _ | exact DLe.nil _ | (refine DLe.tup ?_) | (refine DLe.agg ?_ rfl) | exact trivial | (refine And.intro ?_ ?_)))
        | false =>
          rw [hp] at hpe hR2
          have hr : R = (Net.zero, 9) := by rw [hR2]; rfl
          rw [hr]
          clear hr hR2 hp
          refine ps_i tab_ok mixed Tryz.func8 rfl Tryz.ntmps8 Tryz.results8 (by kernel_rfl) ?_
          repeat' (first | (with_reducible refine And.intro ?_ ?_) | (with_reducible refine gK_i (fun _ => ?_) (fun _ => ?_)) | (with_reducible refine condS_i (fun _ => ?_) (fun _ => ?_)) | (with_reducible refine drw_i (by kernel_rfl)) | simp -dsimp only [go_sem, seval, *, encT, encV, encG, hv, hi, hiI, hrow, undef] | ((with_reducible refine opK_c ?_); simp -dsimp only [go_sem, seval, encT, encV, encG, hv, hi, hiI, hrow, undef]; first | refine callK_r (by first | assumption | exact hgp | exact hpe) (by first | exact .inl rfl | exact .inr rfl) ?_ | (refine callK_i (by assumption) ?_ ?_ ?_; (solve | (repeat (first | exact DLe.refl _ | exact DLe.nil _ | (refine DLe.tup ?_) | (refine DLe.agg ?_ rfl) | exact trivial | (refine And.intro ?_ ?_)))); (solve | exact .inl rfl | exact .inr rfl))) | (refine opK_M [] (hbg) ?_ ?_ ?_ ?_ ?_ ?_; (solve | rfl | simp only [go_sem, seval, encT]); (solve | rfl); (solve | decide); (solve | simp); (solve | simp only [go_sem, seval, lentOK, encT])) | (refine opK_M [5, 6, 4] (hfd) ?_ ?_ ?_ ?_ ?_ ?_; (solve | rfl | simp only [go_sem, seval, encT]); (solve | rfl); (solve | decide); (solve | simp); (solve | simp only [go_sem, seval, lentOK, encT])) | omega | exact decide_eq_true (by omega) | exact DLe.refl _)
          all_goals exact (by repeat (first | exact DLe.refl _ | exact DLe.nil _ | (refine DLe.tup ?_) | (refine DLe.agg ?_ rfl) | exact trivial | (refine And.intro ?_ ?_)))
      · have hr : R = (Net.zero, (growV v r).2) := by
          rw [hR.out]; unfold growN; rw [if_neg (by simpa using hc), hx]; simp only [hv]; rw [if_pos hg]
        have hgb : ((growV v r).2 != 0) = true := by simpa using hg
        rw [hr]
        clear hr hR hok hx hc hg hfs
        generalize (growV v r).1 = w at *
        generalize (growV v r).2 = E at *
        refine ps_i tab_ok mixed Tryz.func8 rfl Tryz.ntmps8 Tryz.results8 (by kernel_rfl) ?_
        repeat' (first | (with_reducible refine And.intro ?_ ?_) | (with_reducible refine gK_i (fun _ => ?_) (fun _ => ?_)) | (with_reducible refine condS_i (fun _ => ?_) (fun _ => ?_)) | (with_reducible refine drw_i (by kernel_rfl)) | simp -dsimp only [go_sem, seval, *, encT, encV, encG, hv, hi, hiI, hgb, undef] | ((with_reducible refine opK_c ?_); simp -dsimp only [go_sem, seval, encT, encV, encG, hv, hi, hiI, hgb, undef]; first | refine callK_r (by first | assumption | exact hgp) (by first | exact .inl rfl | exact .inr rfl) ?_ | (refine callK_i (by assumption) ?_ ?_ ?_; (solve | (repeat (first | exact DLe.refl _ | exact DLe.nil _ | (refine DLe.tup ?_) | (refine DLe.agg ?_ rfl) | exact trivial | (refine And.intro ?_ ?_)))); (solve | exact .inl rfl | exact .inr rfl))) | (refine opK_M [] (hbg) ?_ ?_ ?_ ?_ ?_ ?_; (solve | rfl | simp only [go_sem, seval, encT]); (solve | rfl); (solve | decide); (solve | simp); (solve | simp only [go_sem, seval, lentOK, encT])) | (refine opK_M [5, 6, 4] (hfd) ?_ ?_ ?_ ?_ ?_ ?_; (solve | rfl | simp only [go_sem, seval, encT]); (solve | rfl); (solve | decide); (solve | simp); (solve | simp only [go_sem, seval, lentOK, encT])) | omega | exact decide_eq_true (by omega) | exact DLe.refl _)
        all_goals exact (by repeat (first | exact DLe.refl _ | exact DLe.nil _ | (refine DLe.tup ?_) | (refine DLe.agg ?_ rfl) | exact trivial | (refine And.intro ?_ ?_)))
  · have hbg := nbeginE_m n hc
    have h1 : (chkT n != 0) = true := by simpa using hc
    have hr : R = (Net.zero, chkT n) := by rw [hR.out]; unfold growN; rw [if_pos hc]
    rw [hr]
    replace hr := Lib.hid hr
    refine ps_i tab_ok mixed Tryz.func8 rfl Tryz.ntmps8 Tryz.results8 (by kernel_rfl) ?_
    repeat' (first | (with_reducible refine And.intro ?_ ?_) | (with_reducible refine gK_i (fun _ => ?_) (fun _ => ?_)) | (with_reducible refine condS_i (fun _ => ?_) (fun _ => ?_)) | (with_reducible refine drw_i (by kernel_rfl)) | simp -dsimp only [go_sem, seval, *, encT, h1] | ((with_reducible refine opK_c ?_); simp -dsimp only [go_sem, seval, encT, h1]; first | refine callK_r (by first | assumption | fail) (by first | exact .inl rfl | exact .inr rfl) ?_ | (refine callK_i (by assumption) ?_ ?_ ?_; (solve | (repeat (first | exact DLe.refl _ | exact DLe.nil _ | (refine DLe.tup ?_) | (refine DLe.agg ?_ rfl) | exact trivial | (refine And.intro ?_ ?_)))); (solve | exact .inl rfl | exact .inr rfl))) | (refine opK_M [] (hbg) ?_ ?_ ?_ ?_ ?_ ?_; (solve | rfl | simp only [go_sem, seval, encT]); (solve | rfl); (solve | decide); (solve | simp); (solve | simp only [go_sem, seval, lentOK, encT])) | omega | exact decide_eq_true (by omega) | exact DLe.refl _)
    all_goals exact (by repeat (first | exact DLe.refl _ | exact DLe.nil _ | (refine DLe.tup ?_) | (refine DLe.agg ?_ rfl) | exact trivial | (refine And.intro ?_ ?_)))
/-- Part's answer. -/
def partN (n : Net) (a b : Int) : Net × Int :=
  if chkT n ≠ 0 then (Net.zero, chkT n) else
  match n.links.findIdx? (fun l => decide (lnk a b = l)) with
  | none => (Net.zero, 5)
  | some i => ({ n with links := n.links.eraseIdx i }, 0)
set_option maxRecDepth 100000 in
set_option maxHeartbeats 1000000 in
theorem npart_p (n : Net) (a b : Int) : PSpec Tryz.prog 19 [.agg (encT n), .v (.int .i64 a), .v (.int .i64 b)] (.tup [.agg (encT (partN n a b).1), .v (.int .i64 (partN n a b).2)]) := by
  obtain ⟨R, hR⟩ : ∃ R, R = partN n a b := ⟨_, rfl⟩
  rw [← hR]
  replace hR := Lib.hid hR
  by_cases hc : chkT n = 0
  · have hok := netOK.1 hc
    have hbg := nbegin_m n hc
    have hlk := link_p a b
    have hix := index_Link n.links (lnk a b) (by have := hok.n12; omega)
    unfold idxI at hix
    cases hf : n.links.findIdx? (fun l => decide (lnk a b = l)) with
    | none =>
      rw [hf] at hix
      have hr : R = (Net.zero, 5) := by rw [hR.out]; unfold partN; rw [if_neg (by simpa using hc), hf]
      rw [hr]
      clear hr hR hf hc hok
      generalize lnk a b = LK at *
      refine ps_i tab_ok mixed Tryz.func19 rfl Tryz.ntmps19 Tryz.results19 (by kernel_rfl) ?_
      repeat' (first | (with_reducible refine And.intro ?_ ?_) | (with_reducible refine gK_i (fun _ => ?_) (fun _ => ?_)) | (with_reducible refine condS_i (fun _ => ?_) (fun _ => ?_)) | (with_reducible refine drw_i (by kernel_rfl)) | simp -dsimp only [go_sem, seval, *, encT, encK, undef] | ((with_reducible refine opK_c ?_); simp -dsimp only [go_sem, seval, encT, encK, undef]; first | refine callK_r (by first | assumption | exact hlk | exact hix) (by first | exact .inl rfl | exact .inr rfl) ?_ | (refine callK_i (by assumption) ?_ ?_ ?_; (solve | (repeat (first | exact DLe.refl _ | exact DLe.nil _ | (refine DLe.tup ?_) | (refine DLe.agg ?_ rfl) | exact trivial | (refine And.intro ?_ ?_)))); (solve | exact .inl rfl | exact .inr rfl))) | (refine opK_M [] (hbg) ?_ ?_ ?_ ?_ ?_ ?_; (solve | rfl | simp only [go_sem, seval, encT]); (solve | rfl); (solve | decide); (solve | simp); (solve | simp only [go_sem, seval, lentOK, encT])) | omega | exact decide_eq_true (by omega) | exact DLe.refl _)
      all_goals exact (by repeat (first | exact DLe.refl _ | exact DLe.nil _ | (refine DLe.tup ?_) | (refine DLe.agg ?_ rfl) | exact trivial | (refine And.intro ?_ ?_)))
    | some i =>
      rw [hf] at hix
      have hi : i < n.links.length := (List.findIdx?_eq_some_iff_getElem.1 hf).1
      have hi0 : decide ((i : Int) < 0) = false := by simp
      have hd := delete_Link (enc := encK) n.links i (i + 1) 1 hi rfl
      have hwr : IntKind.i64.wrap ((i : Int) + 1) = ((i + 1 : Nat) : Int) := by rw [IntKind.wrap_i64]; have := hok.n12; omega
      have hr : R = ({ n with links := n.links.eraseIdx i }, 0) := by rw [hR.out]; unfold partN; rw [if_neg (by simpa using hc), hf]
      rw [hr]
      clear hr hR hf hc hok
      generalize lnk a b = LK at *
      refine ps_i tab_ok mixed Tryz.func19 rfl Tryz.ntmps19 Tryz.results19 (by kernel_rfl) ?_
      repeat' (first | (with_reducible refine And.intro ?_ ?_) | (with_reducible refine gK_i (fun _ => ?_) (fun _ => ?_)) | (with_reducible refine condS_i (fun _ => ?_) (fun _ => ?_)) | (with_reducible refine drw_i (by kernel_rfl)) | simp -dsimp only [go_sem, seval, *, encT, encK, hi0, hwr, hi, undef] | ((with_reducible refine opK_c ?_); simp -dsimp only [go_sem, seval, encT, encK, hi0, hwr, hi, undef]; first | refine callK_r (by first | assumption | exact hlk | exact hix) (by first | exact .inl rfl | exact .inr rfl) ?_ | (refine callK_i (by assumption) ?_ ?_ ?_; (solve | (repeat (first | exact DLe.refl _ | exact DLe.nil _ | (refine DLe.tup ?_) | (refine DLe.agg ?_ rfl) | exact trivial | (refine And.intro ?_ ?_)))); (solve | exact .inl rfl | exact .inr rfl))) | (refine opK_M [] (hbg) ?_ ?_ ?_ ?_ ?_ ?_; (solve | rfl | simp only [go_sem, seval, encT]); (solve | rfl); (solve | decide); (solve | simp); (solve | simp only [go_sem, seval, lentOK, encT])) | (refine opK_M [3] (hd) ?_ ?_ ?_ ?_ ?_ ?_; (solve | rfl | simp only [go_sem, seval, encK]); (solve | rfl); (solve | decide); (solve | simp); (solve | simp only [go_sem, seval, lentOK, encK])) | omega | exact decide_eq_true (by omega) | exact DLe.refl _)
      all_goals exact (by repeat (first | exact DLe.refl _ | exact DLe.nil _ | (refine DLe.tup ?_) | (refine DLe.agg ?_ rfl) | exact trivial | (refine And.intro ?_ ?_)))
  · have hbg := nbeginE_m n hc
    have h1 : (chkT n != 0) = true := by simpa using hc
    have hr : R = (Net.zero, chkT n) := by rw [hR.out]; unfold partN; rw [if_pos hc]
    rw [hr]
    replace hr := Lib.hid hr
    refine ps_i tab_ok mixed Tryz.func19 rfl Tryz.ntmps19 Tryz.results19 (by kernel_rfl) ?_
    repeat' (first | (with_reducible refine And.intro ?_ ?_) | (with_reducible refine gK_i (fun _ => ?_) (fun _ => ?_)) | (with_reducible refine condS_i (fun _ => ?_) (fun _ => ?_)) | (with_reducible refine drw_i (by kernel_rfl)) | simp -dsimp only [go_sem, seval, *, encT, h1] | ((with_reducible refine opK_c ?_); simp -dsimp only [go_sem, seval, encT, h1]; first | refine callK_r (by first | assumption | fail) (by first | exact .inl rfl | exact .inr rfl) ?_ | (refine callK_i (by assumption) ?_ ?_ ?_; (solve | (repeat (first | exact DLe.refl _ | exact DLe.nil _ | (refine DLe.tup ?_) | (refine DLe.agg ?_ rfl) | exact trivial | (refine And.intro ?_ ?_)))); (solve | exact .inl rfl | exact .inr rfl))) | (refine opK_M [] (hbg) ?_ ?_ ?_ ?_ ?_ ?_; (solve | rfl | simp only [go_sem, seval, encT]); (solve | rfl); (solve | decide); (solve | simp); (solve | simp only [go_sem, seval, lentOK, encT])) | omega | exact decide_eq_true (by omega) | exact DLe.refl _)
    all_goals exact (by repeat (first | exact DLe.refl _ | exact DLe.nil _ | (refine DLe.tup ?_) | (refine DLe.agg ?_ rfl) | exact trivial | (refine And.intro ?_ ?_)))
end Go.Proofs.YtgmbhaclogabeaaGreat
namespace Go.Proofs.YtgmbhaclogabeaaGreat
open Go Go.RowKit
theorem vpcIx_at {n : Net} (hr : n.vpcs.Pairwise fun a b => a.id < b.id) {j : Nat} {w : Vpc} (hw : n.vpcs[j]? = some w) : vpcIx n w.id = some j := by
  unfold vpcIx
  rw [List.findIdx?_eq_some_iff_getElem]
  obtain ⟨hj, rfl⟩ := List.getElem?_eq_some_iff.1 hw
  refine ⟨hj, by simp, fun i hi => ?_⟩
  have := List.pairwise_iff_getElem.1 hr i j (by omega) hj hi
  simp
  omega
/-- Who is in a group. -/
theorem grp_at {n : Net} (hr : n.vpcs.Pairwise fun a b => a.id < b.id) {id x : Int} {k : Nat} (h : (grpN n id)[k]? = some x) : ∃ j w, n.vpcs[j]? = some w ∧ w.id = x ∧ vpcIx n x = some j ∧ headN n x = headN n id := by
  have hm := List.mem_of_getElem? h
  unfold grpN at hm
  obtain ⟨w, hw, rfl⟩ := List.mem_map.1 hm
  rw [List.mem_filter, beq_iff_eq] at hw
  obtain ⟨j, hj⟩ := List.mem_iff_getElem?.1 hw.1
  exact ⟨j, w, hj, rfl, vpcIx_at hr hj, hw.2⟩
theorem grp_mem {n : Net} {id : Int} {w : Vpc} (hw : w ∈ n.vpcs) (h : headN n w.id = headN n id) : w.id ∈ grpN n id := by
  unfold grpN
  exact List.mem_map.2 ⟨w, List.mem_filter.2 ⟨hw, by simpa using h⟩, rfl⟩
theorem grp_len (n : Net) (id : Int) : (grpN n id).length ≤ n.vpcs.length := by
  unfold grpN
  rw [List.length_map]
  exact List.length_filter_le _ _
def NetZ (n : Net) : Prop := ∀ v ∈ n.vpcs, v.subs.length ≤ 9223372036854775807 ∧ ∀ s ∈ v.subs, s.faces.length ≤ 9223372036854775807
end Go.Proofs.YtgmbhaclogabeaaGreat
namespace Go.Proofs.YtgmbhaclogabeaaGreat
open Go Go.RowKit Go.Proofs Go.Shelf
set_option maxRecDepth 100000
theorem cl_Vpc (x y : SRow HP0 3) (W : World) : Calls Tryz.prog 27 #[.agg x.xs.toArray, .agg y.xs.toArray] W fun e w' => e = .returned (.int .i64 (cfS x y)) ∧ ∃ q os', w' = Sort.grow (W.drewN q) os' := by
  obtain ⟨xs, xl, x1, a, xh⟩ := x
  obtain ⟨ys, yl, y1, b, yh⟩ := y
  match xs, xl, ys, yl with
  | [u0, u1, u2], _, [v0, v1, v2], _ =>
    simp [HP0] at xh yh
    subst xh
    subst yh
    have hc := compare_any a b
    unfold cfS
    simp only
    generalize cmpI a b = r at *
    replace hc := Lib.hid hc
    clear x1 y1
    go_enter Tryz.func27, Tryz.ntmps27
    go_wp2_with fail
    refine (hc.out _).mono ?_
    rintro e w1 ⟨rfl, rfl⟩
    go_wp2_with fail
    go_ret
    exact ⟨ret_int rfl, 0, _, by rw [Sort.alloc_eq_grow, Sort.alloc_eq_grow, Sort.grow_grow]; rfl⟩
theorem sort_Vpc {l l' : List Vpc} (g : Nat) (hl0 : l ≠ []) (hp : l'.Perm l) (hs : l'.Pairwise fun x y => (fun v : Vpc => v.id) x < (fun v : Vpc => v.id) y) (hsz : l.length ≤ 1000000) :
    MSpec Tryz.prog 26 [.own 0 g, .d (.clo 27 [])] [.row 56 3 g (dRows (l.map encV))] (.d (.tup [])) [.row 56 3 g (dRows (l'.map encV))] :=
  sort_ms Tryz.sortVpc rfl (fnok_of Tryz.func26 (by kernel_rfl) rfl) Tryz.isAgg56 Tryz.sizeOf56 (enters_of Tryz.func27 (by kernel_rfl) rfl) cl_Vpc encV (fun v : Vpc => v.id) (fun _ => rfl) hl0 hp hs hsz
end Go.Proofs.YtgmbhaclogabeaaGreat
namespace Go.Proofs.YtgmbhaclogabeaaGreat
open Go Go.RowKit
structure GwB where
  n : Nat
  os : Array Obj
def EG (w w' : World) : Prop := ∃ p : GwB, w' = Sort.grow (w.drewN p.n) p.os
theorem EG.refl (w : World) : EG w w := ⟨⟨0, #[]⟩, by rw [Sort.grow_empty]; rfl⟩
theorem EG.trans {w w' w'' : World} (h : EG w w') (g : EG w' w'') : EG w w'' := by
  obtain ⟨⟨n, os⟩, rfl⟩ := h
  obtain ⟨⟨m, os'⟩, rfl⟩ := g
  exact ⟨⟨n + m, os ++ os'⟩, by show Sort.grow (Sort.grow ((w.drewN n).drewN m) os) os' = _; rw [Sort.grow_grow, World.drewN_drewN]⟩
theorem EG.drew (w : World) : EG w w.drew := ⟨⟨1, #[]⟩, by rw [Sort.grow_empty]; rfl⟩
theorem EG.alloc (w : World) (o : Obj) : EG w (w.alloc o) := ⟨⟨0, #[o]⟩, Sort.alloc_eq_grow w o⟩
theorem EG.ext {w w' : World} (h : EG w w') : Ext w w' := by
  obtain ⟨⟨n, os⟩, rfl⟩ := h
  exact ⟨rfl, rfl, rfl, by simp [Sort.grow], fun k hk => by simp [Sort.grow, Array.getElem?_append, hk]⟩
def qPostG (W : World) (R : Value → Prop) (e : Ending) (w' : World) : Prop := (∃ u, e = .returned u ∧ R u) ∧ EG W w'
def qUpG (P : Program) (W w : World) (R : Value → Prop) : Result Next → Prop
  | .ok (.value u) w' => w' = w ∧ R u
  | .ok .skip w' => w' = w ∧ R undef
  | .ok (.enter f args) w' => w' = w ∧ Calls P f args w (qPostG W R)
  | _ => False
attribute [go_sem] qUpG
section
variable {P : Program} {W : World}
theorem qUp_quietG {w : World} {v : Value} {r : Result Next} (h : ∀ R : Value → Prop, R v → qUpG P W w R r) : Oper.quietUpon P (EG W) w v r := by
  have h1 := h (· = v) rfl
  unfold qUpG at h1
  unfold Oper.quietUpon
  split at h1
  · exact h1
  · exact ⟨h1.1, h1.2.symm⟩
  · refine ⟨h1.1, h1.2.mono ?_⟩
    rintro e w' ⟨⟨u, rfl, rfl⟩, hw⟩
    exact ⟨rfl, hw⟩
  · exact h1.elim
end
section
variable {P : Program} {ops : Array Oper} {Q : Exit → Act → World → Prop}
/-- Whatever order is picked, from every world that extends W. -/
def GOG (P : Program) (ops : Array Oper) (Q : Exit → Act → World → Prop) : Nat → Array Bool → Act → World → Prop
  | 0, listed, a, W => Region.ready .any ops listed = [] ∧ ∀ w, EG W w → Q .normal a w
  | fuel + 1, listed, a, W => ∀ w, EG W w → (Region.ready .any ops listed = [] → Q .normal a w) ∧
      ∀ i ∈ Region.ready .any ops listed, wpOp P ops Q i (fun a' w' => EG w w' ∧ GOG P ops Q fuel (listed.setIfInBounds i true) a' w') a w
theorem GOG.world : ∀ {fuel : Nat} {listed : Array Bool} {a : Act} {W W' : World}, EG W W' → GOG P ops Q fuel listed a W → GOG P ops Q fuel listed a W'
  | 0, _, _, _, _, hx, h => ⟨h.1, fun w hw => h.2 w (EG.trans hx hw)⟩
  | _ + 1, _, _, _, _, hx, h => fun w hw => h w (EG.trans hx hw)
theorem GOG.any : ∀ {fuel : Nat} {listed : Array Bool} {a : Act} {W : World}, GOG P ops Q fuel listed a W → wpAny P .any ops Q fuel listed a W
  | 0, _, _, _, h => ⟨h.1, h.2 _ (EG.refl _)⟩
  | _ + 1, _, _, W, h => ⟨(h W (EG.refl _)).1, fun i hi => wpOp_mono (fun _ _ h' => GOG.any h'.2) ((h W (EG.refl _)).2 i hi)⟩
/-- In every world that extends W operation o yields v, and at most extends it. -/
def QYG (P : Program) (ops : Array Oper) (W : World) (o : Oper) (v : Value) (a : Act) : Prop :=
  (Region.wanted o (yielded ops a.tmps) = true ∧ ∀ w, EG W w → o.quietAt P a (EG w) w v) ∨
  (Region.wanted o (yielded ops a.tmps) = false ∧ v = undef)
theorem QYG.world {W W' : World} {o : Oper} {v : Value} {a : Act} (hx : EG W W') (h : QYG P ops W o v a) : QYG P ops W' o v a :=
  h.imp (fun ⟨h1, h2⟩ => ⟨h1, fun w hw => h2 w (EG.trans hx hw)⟩) id
theorem QYG.of_same {W : World} {o : Oper} {v : Value} {a a' : Act} (hy : QYG P ops W o v a) (he : execOp a'.eval o = execOp a.eval o)
    (hw : Region.wanted o (yielded ops a'.tmps) = Region.wanted o (yielded ops a.tmps)) : QYG P ops W o v a' := by
  unfold QYG Oper.quietAt at *
  rw [he, hw]
  exact hy
theorem QYG.wpOp {W : World} {i : Nat} {o : Oper} {v : Value} {a : Act} (hi : ops[i]? = some o) (hy : QYG P ops W o v a) {K : Act → World → Prop} {w : World} (hw : EG W w) (h : ∀ w', EG w w' → K (a.put o.dst v) w') : wpOp P ops Q i K a w := by
  unfold Go.wpOp
  simp only [hi]
  rcases hy with ⟨hwa, hv⟩ | ⟨hwa, rfl⟩
  · simp only [hwa, if_true]
    left
    exact Oper.wp_of_quiet (C := EG w) (K := fun a' => a' = a.put o.dst v) (EG.refl _) (fun a' w' hw' ha => ha ▸ h w' hw') ⟨v, fun w'' hw'' => by
      have := hv w'' (EG.trans hw hw'')
      unfold Oper.quietAt at *
      generalize (execOp a.eval o).run P w'' = r at *
      cases r with
      | ok n u => cases n <;> simp only [Oper.quietUpon] at this ⊢ <;> first | exact this | exact ⟨this.1, this.2.mono fun _ _ ⟨e1, e2⟩ => ⟨e1, EG.trans hw'' e2⟩⟩
      | halt x u => simp only [Oper.quietUpon] at this, rfl⟩
  · simp only [hwa, Bool.false_eq_true, if_false]
    exact h w (EG.refl _)
theorem wpOp_putQG {W : World} {j : Nat} {oi oj : Oper} {v : Value} (hj : ops[j]? = some oj) (hap : oi.apart ops oj = true)
    (hsi : ∀ cs b, oi.op ≠ .select cs b) (hsj : ∀ cs b, oj.op ≠ .select cs b)
    (hQ : ∀ c a w, Q (.panic c) (a.put oi.dst v) w → Q (.panic c) a w) {K : Act → World → Prop} {a : Act} {w : World}
    (hy : QYG P ops W oi v a) (h : wpOp P ops Q j K (a.put oi.dst v) w) :
    wpOp P ops Q j (fun a' w' => QYG P ops W oi v a' ∧ K (a'.put oi.dst v) w') a w := by
  obtain ⟨h1, h2, h3⟩ := Oper.apart_spec hap
  have keep : ∀ (a : Act), QYG P ops W oi v a → ∀ u, QYG P ops W oi v (a.put oj.dst u) := fun a hy u =>
    hy.of_same (execOp_put oi hsi a oj.dst u h3) (wanted_put oi a oj.dst u h3)
  have keepD : ∀ d, QYG P ops W oi v { a with defers := d :: a.defers } := fun d => hy.of_same rfl rfl
  unfold wpOp at *
  simp only [hj] at *
  rw [wanted_put oj a oi.dst v h1] at h
  split
  · rename_i hw
    simp only [hw, if_true] at h
    rcases h with h | ⟨hasks, hlets⟩
    case inr => exact .inr ⟨by unfold Oper.asks at *; rw [execOp_put oj hsj a oi.dst v h1] at hasks; exact hasks, hlets⟩
    refine .inl ?_
    unfold Oper.wp at *
    rw [execOp_put oj hsj a oi.dst v h1] at h
    generalize (execOp a.eval oj).run P w = r at *
    cases r with
    | ok n w' =>
      cases n <;> simp only [Oper.upon] at h ⊢
      case value u => exact ⟨keep a hy u, by rw [← Act.put_comm a v u h2]; exact h⟩
      case skip => exact ⟨keep a hy _, by rw [← Act.put_comm a v undef h2]; exact h⟩
      case defer d =>
        refine ⟨keep _ (keepD d) _, ?_⟩
        rw [← Act.put_comm _ v undef h2, ← Act.put_defers]
        exact h
      case enter f args =>
        refine Calls.mono h fun e w'' he => ?_
        cases e with
        | returned u => exact ⟨keep a hy u, by rw [← Act.put_comm a v u h2]; exact he⟩
        | panicked c => exact hQ _ _ _ he
        | outgrown => exact he
      case row row args => exact Rows.mono h fun u w'' he => ⟨keep a hy u, by rw [← Act.put_comm a v u h2]; exact he⟩
    | halt x w' =>
      cases x <;> simp only [Oper.upon] at h ⊢
      case panic u => exact hQ _ _ _ h
  · rename_i hw
    simp only [hw] at h
    exact ⟨keep a hy _, by rw [← Act.put_comm a v undef h2]; exact h⟩
theorem GO_firstG {i : Nat} {oi : Oper} {v : Value} (hi : ops[i]? = some oi) (hsel : ∀ (j : Nat) (o : Oper) cs b, ops[j]? = some o → o.op ≠ .select cs b)
    (hQ : ∀ c a w, Q (.panic c) (a.put oi.dst v) w → Q (.panic c) a w) :
    ∀ (fuel : Nat) (listed : Array Bool) (a : Act) (W : World),
      (∀ j oj, ops[j]? = some oj → j ≠ i → listed.getD j true = false → (∀ e ∈ oj.after, Region.binds .any e = true → e.on ≠ i) → oi.apart ops oj = true) →
      i ∈ Region.ready .any ops listed → QYG P ops W oi v a →
      GOG P ops Q fuel (listed.setIfInBounds i true) (a.put oi.dst v) W → GOG P ops Q (fuel + 1) listed a W := by
  intro fuel
  induction fuel with
  | zero =>
    intro listed a W _ hr hy H w hw
    refine ⟨fun h => (by rw [h] at hr; cases hr), fun j hj => ?_⟩
    by_cases hji : j = i
    · subst hji; exact hy.wpOp hi hw fun w' hw' => ⟨hw', H.world (EG.trans hw hw')⟩
    · have := ready_mono hj hji
      rw [H.1] at this
      cases this
  | succ fuel ih =>
    intro listed a W hfree hr hy H w hw
    refine ⟨fun h => (by rw [h] at hr; cases hr), fun j hj => ?_⟩
    by_cases hji : j = i
    · subst hji; exact hy.wpOp hi hw fun w' hw' => ⟨hw', H.world (EG.trans hw hw')⟩
    · have h1 := (H w hw).2 j (ready_mono hj hji)
      obtain ⟨hjun, oj, hoj, hall⟩ := mem_ready.1 hj
      have hnot : ∀ e ∈ oj.after, Region.binds .any e = true → e.on ≠ i := fun e he hb heq => by
        have h1 := hall e he hb
        have h0 := (mem_ready.1 hr).1
        rw [heq] at h1
        rcases Nat.lt_or_ge i listed.size with h' | h'
        · simp [h'] at h0 h1; rw [h0] at h1; cases h1
        · simp [Array.getElem?_eq_none h'] at h1
      have h2 := wpOp_putQG hoj (hfree j oj hoj hji hjun hnot) (fun cs b => hsel i oi cs b hi) (fun cs b => hsel j oj cs b hoj) hQ (hy.world hw) h1
      have hfree' : ∀ k ok, ops[k]? = some ok → k ≠ i → (listed.setIfInBounds j true).getD k true = false →
          (∀ e ∈ ok.after, Region.binds .any e = true → e.on ≠ i) → oi.apart ops ok = true := fun k ok hk hki hun hno => by
        refine hfree k ok hk hki ?_ hno
        by_cases hjk : j = k
        · subst hjk; exact hjun
        · rw [getD_set_ne true hjk] at hun; exact hun
      refine wpOp_mono (fun a' w' h3 => ⟨h3.2.1, ih (listed.setIfInBounds j true) a' w' hfree' (ready_mono hr (Ne.symm hji)) (h3.1.world h3.2.1) ?_⟩) h2
      rw [Array.setIfInBounds_comm _ _ hji]
      exact h3.2.2
/-- The walk in the order of the text. -/
def wpMixG (P : Program) (ops : Array Oper) (Q : Exit → Act → World → Prop) : List Oper → Nat → Array Bool → Act → World → Prop
  | [], _, _, a, W => ∀ w, EG W w → Q .normal a w
  | o :: rest, k, listed, a, W =>
    (∃ v, QYG P ops W o v a ∧ wpMixG P ops Q rest (k + 1) (listed.setIfInBounds k true) (a.put o.dst v) W) ∨
    (Region.ready .any ops listed = [k] ∧ Region.wanted o (yielded ops a.tmps) = true ∧ ∀ w, EG W w → o.wp P a w (fun a' w' => EG w w' ∧ wpMixG P ops Q rest (k + 1) (listed.setIfInBounds k true) a' w') Q)
theorem mix_soundG (hs : Region.noSelect ops = true) (hQ : ∀ c a d v w, Q (.panic c) (a.put d v) w → Q (.panic c) a w) : ∀ (l : List Oper) (k : Nat) (listed : Array Bool) (a : Act) (W : World), (∀ j, l[j]? = ops[k + j]?) →
    Region.lexFrom .any ops l.length k listed = true → wpMixG P ops Q l k listed a W → GOG P ops Q l.length listed a W
  | [], _, _, _, _, _, hB, h => ⟨by simpa [Region.lexFrom] using hB, h⟩
  | o :: l, k, listed, a, W, hl, hB, h => by
    have h0 : ops[k]? = some o := by simpa using (hl 0).symm
    simp only [List.length_cons, Region.lexFrom, Bool.and_eq_true] at hB
    obtain ⟨⟨hr, hf⟩, hB'⟩ := hB
    have hl' : ∀ j, l[j]? = ops[k + 1 + j]? := fun j => by have := hl (j + 1); simpa [Nat.add_assoc, Nat.add_comm 1 j] using this
    rcases h with ⟨v, hy, hK⟩ | ⟨hone, hwa, hK⟩
    · exact GO_firstG h0 (Region.noSelect_spec hs) (fun c a w => hQ c a _ _ w) l.length listed a W (Region.free_spec h0 hf) (by simpa using hr) hy (mix_soundG hs hQ l (k + 1) _ _ _ hl' hB' hK)
    · intro w hw
      refine ⟨fun h => by rw [hone] at h; simp at h, fun i hi => ?_⟩
      rw [hone] at hi
      obtain rfl : i = k := by simpa using hi
      unfold wpOp
      simp only [h0, hwa, if_true]
      left
      exact Oper.wp_mono (fun a' w' h' => ⟨h'.1, mix_soundG hs hQ l (i + 1) _ _ _ hl' hB' h'.2⟩) (hK w hw)
theorem region_mixG {id : Nat} {a : Act} {w : World} {l : List Oper} (hm : P.follows .mixedOrders = true) (hB : Region.lexB .any l.toArray = true) (hQ : ∀ c a d v w, Q (.panic c) (a.put d v) w → Q (.panic c) a w)
    (h : wpMixG P l.toArray Q l 0 (Array.replicate l.length false) a w) : (Code.region id l.toArray true).wp P Q a w := by
  simp only [Region.lexB, Bool.and_eq_true] at hB
  refine wp_region_any hm ?_
  have h2 := mix_soundG hB.1 hQ l 0 (Array.replicate l.length false) a w (by simp) (by simpa using hB.2) h
  have h3 := (h2.world (EG.drew w : EG w w.drew)).any
  simpa using h3
section
variable {o : Oper} {rest : List Oper} {k : Nat} {listed : Array Bool} {a : Act} {W : World}
theorem mix_nilG (h : ∀ w, EG W w → Q .normal a w) : wpMixG P ops Q [] k listed a W := h
theorem mix_takeG {v : Value} (hw : Region.wanted o (yielded ops a.tmps) = true) (h : ∀ w, EG W w → ∀ R : Value → Prop, R v → qUpG P w w R ((execOp a.eval o).run P w))
    (hn : wpMixG P ops Q rest (k + 1) (listed.setIfInBounds k true) (a.put o.dst v) W) : wpMixG P ops Q (o :: rest) k listed a W :=
  .inl ⟨v, .inl ⟨hw, fun w hw => qUp_quietG (h w hw)⟩, hn⟩
theorem mix_aloneG (hr : Region.ready .any ops listed = [k]) (hw : Region.wanted o (yielded ops a.tmps) = true)
    (h : ∀ w, EG W w → ∀ K : Act → World → Prop, (∀ a' w', EG w w' → wpMixG P ops Q rest (k + 1) (listed.setIfInBounds k true) a' w' → K a' w') → o.wp P a w K Q) : wpMixG P ops Q (o :: rest) k listed a W :=
  .inr ⟨hr, hw, fun w hw => h w hw _ fun _ _ h1 h2 => ⟨h1, h2⟩⟩
end
theorem mcall_sameG {f : FuncId} {args : Array Value} {w : World} {R : Value → Prop} {v : Value} (h : Calls P f args w fun e w' => e = .returned v ∧ w = w') (hR : R v) : Calls P f args w (qPostG w R) :=
  h.mono fun _ _ ⟨he, hx⟩ => ⟨⟨v, he, hR⟩, hx ▸ EG.refl _⟩
end
end Go.Proofs.YtgmbhaclogabeaaGreat
namespace Go.Proofs.YtgmbhaclogabeaaGreat
open Go Go.RowKit Go.Proofs Go.Shelf
set_option maxRecDepth 100000
/-- A link's key. -/
def lkey (l : Lnk) : Int := l.a * 65537 + l.b
/-- A link's cells, and its key. -/
def HP2 (xs : List Value) (k : Int) : Prop := ∃ a b : Int, xs = [.int .i64 a, .int .i64 b] ∧ k = a * 65537 + b ∧ 1 ≤ b ∧ b ≤ 65536
@[reducible] def srow2_inh : Inhabited (SRow HP2 (1 + 1)) := ⟨⟨[.int .i64 0, .int .i64 1], rfl, fun v hv => by simp at hv; rcases hv with rfl | rfl <;> rfl, 1, 0, 1, rfl, by omega, by omega, by omega⟩⟩
theorem cmpI_two {a b c d : Int} (h1 : 1 ≤ b) (h2 : b ≤ 65536) (h3 : 1 ≤ d) (h4 : d ≤ 65536) : orI [cmpI a c, cmpI b d] = cmpI (a * 65537 + b) (c * 65537 + d) := by
  simp only [orI, cmpI]
  repeat' split
  all_goals omega
/-- cmp.Or of two. -/
theorem or2_any (x y : Int) (b : Nat) (W : World) (hx : W.cell? ⟨b, 0, none⟩ = some (.int .i64 x)) (hy : W.cell? ⟨b, 1, none⟩ = some (.int .i64 y)) :
    Calls Tryz.prog 76 #[.slice (some ⟨b, 0, none⟩) 2 2] W fun e w' => e = .returned (.int .i64 (orI [x, y])) ∧ w' = W := by
  have lb := lt_of_cell hx
  go_enter Tryz.func76, Tryz.ntmps76
  go_wp2_with fail
  go_loopw [5, 8] (fun _ s8 wr => ∃ k : Nat, s8 = .int .i64 k ∧ ((k = 0) ∨ (k = 1 ∧ x = 0) ∨ (k = 2 ∧ x = 0 ∧ y = 0)) ∧ wr = W) (fun _ s8 _ => 2 - (intOf s8).toNat)
  case atStart => exact ⟨0, rfl, .inl rfl, rfl⟩
  case round =>
    obtain ⟨k, rfl, hk, rfl⟩ := hrel
    rcases hk with rfl | ⟨rfl, h0⟩ | ⟨rfl, h0, h1⟩
    · by_cases h0 : x = 0
      · have hb : (x != 0) = false := by simp [h0]
        replace h0 := Lib.hid h0
        go_wp2_with fail
        go_roundw
        case rel => exact ⟨1, by go_num, .inr (.inl ⟨rfl, h0.out⟩), trivial⟩
        case measure => simp [intOf]
      · have hb : (x != 0) = true := by simpa using h0
        replace h0 := Lib.hid h0
        go_wp2_with fail
        go_ret
        exact ⟨ret_int (by simp [orI, h0.out]), rfl⟩
    · by_cases h1 : y = 0
      · have hb : (y != 0) = false := by simp [h1]
        replace h0 := Lib.hid h0
        replace h1 := Lib.hid h1
        go_wp2_with fail
        go_roundw
        case rel => exact ⟨2, by go_num, .inr (.inr ⟨rfl, h0.out, h1.out⟩), trivial⟩
        case measure => simp [intOf]
      · have hb : (y != 0) = true := by simpa using h1
        replace h0 := Lib.hid h0
        replace h1 := Lib.hid h1
        go_wp2_with fail
        go_ret
        exact ⟨ret_int (by simp [orI, h0.out, h1.out]), rfl⟩
    · replace h0 := Lib.hid h0
      replace h1 := Lib.hid h1
      go_wp2_with fail
      go_ret
      exact ⟨ret_int (by simp [orI, h0.out, h1.out]), rfl⟩
set_option maxHeartbeats 1000000 in
theorem cl_Link (x y : SRow HP2 (1 + 1)) (W : World) : Calls Tryz.prog 38 #[.agg x.xs.toArray, .agg y.xs.toArray] W fun e w' => e = .returned (.int .i64 (cfS x y)) ∧ ∃ q os', w' = Sort.grow (W.drewN q) os' := by
  obtain ⟨xs, xl, x1, kx, a, b, rfl, rfl, hb1, hb2⟩ := x
  obtain ⟨ys, yl, y1, ky, c, d, rfl, rfl, hd1, hd2⟩ := y
  unfold cfS
  simp only
  rw [← cmpI_two hb1 hb2 hd1 hd2]
  have h1 : ∀ W, Calls Tryz.prog 28 #[.int .i64 a, .int .i64 c] W fun e w' => e = .returned (.int .i64 (cmpI a c)) ∧ W = w' := fun W => (compare_any a c W).mono fun _ _ ⟨e1, e2⟩ => ⟨e1, e2.symm⟩
  have h2 : ∀ W, Calls Tryz.prog 28 #[.int .i64 b, .int .i64 d] W fun e w' => e = .returned (.int .i64 (cmpI b d)) ∧ W = w' := fun W => (compare_any b d W).mono fun _ _ ⟨e1, e2⟩ => ⟨e1, e2.symm⟩
  generalize cmpI a c = A at *
  generalize cmpI b d = B at *
  clear x1 y1 xl yl hb1 hb2 hd1 hd2
  have key : Calls Tryz.prog 38 #[.agg #[.int .i64 a, .int .i64 b], .agg #[.int .i64 c, .int .i64 d]] W fun e w' => e = .returned (.int .i64 (orI [A, B])) ∧ EG W w' := by
    have hw0 : EG W ((W.alloc (.cells #[.int .i64 a, .int .i64 b] 68)).alloc (.cells #[.int .i64 c, .int .i64 d] 68)) := (EG.alloc W _).trans (EG.alloc _ _)
    go_enter Tryz.func38, Tryz.ntmps38
    go_wp2_with fail
    refine region_mixG (by kernel_rfl) (by kernel_rfl) (fun _ _ d _ _ h => by cases d <;> exact h) ?_
    repeat (apply mix_takeG; (first | exact want_0 rfl | exact want_b rfl rfl rfl (by with_reducible rfl)); intro wq hwq R hR; (have hwq := hwq.ext; (have hcc := (bcell hwq).1; (try simp only [World.size_alloc, World.size_setCell, World.size_drew, World.heap_drewN] at hcc)); go_simp; first | exact hR | (go_at_call 28; with_reducible (first | exact mcall_sameG (h1 _) hR | exact mcall_sameG (h2 _) hR))); simp only [Act.put, List.setIfInBounds_toArray, List.set_cons_zero, List.set_cons_succ])
    refine mix_aloneG (by kernel_rfl) (want_0 rfl) (fun w3 hw3 K2 hK => ?_)
    go_simp
    refine hK _ _ (EG.alloc _ _) ?_
    clear hK K2
    refine mix_aloneG (by kernel_rfl) (want_0 rfl) (fun w4 hw4 K3 hK => ?_)
    have hc0 : w4.cell? ⟨w3.heap.size, 0, none⟩ = some (.int .i64 A) := keepCell hw4.ext (by simp)
    have hc1 : w4.cell? ⟨w3.heap.size, 1, none⟩ = some (.int .i64 B) := keepCell hw4.ext (by simp)
    go_simp
    go_at_call 76
    refine (or2_any A B _ w4 hc0 hc1).mono ?_
    rintro e w5 ⟨rfl, rfl⟩
    go_simp
    refine hK _ _ (EG.refl _) ?_
    clear hK K3
    apply mix_takeG
    · exact want_0 rfl
    · intro wq hwq R hR
      go_simp
      exact hR
    simp only [Act.put, List.setIfInBounds_toArray, List.set_cons_zero, List.set_cons_succ]
    refine mix_nilG ?_
    intro w6 hw6
    trace_state
    go_wp2_with fail
    go_ret
    exact ⟨ret_int rfl, hw0.trans (hw3.trans ((EG.alloc _ _).trans (hw4.trans hw6)))⟩
  refine key.mono fun e w' ⟨he, ⟨⟨q, os⟩, hw⟩⟩ => ⟨he, q, os, hw⟩
theorem sort_Link {l l' : List Lnk} (g : Nat) (hb : ∀ x ∈ l, 1 ≤ x.b ∧ x.b ≤ 65536) (hl0 : l ≠ []) (hp : l'.Perm l) (hs : l'.Pairwise fun x y => lkey x < lkey y) (hsz : l.length ≤ 1000000) :
    MSpec Tryz.prog 42 [.own 0 g, .d (.clo 38 [])] [.row 68 2 g (dRows (l.map encK))] (.d (.tup [])) [.row 68 2 g (dRows (l'.map encK))] :=
  sort_hs srow2_inh Tryz.sortLink rfl (fnok_of Tryz.func42 (by kernel_rfl) rfl) Tryz.isAgg68 Tryz.sizeOf68 (enters_of Tryz.func38 (by kernel_rfl) rfl) cl_Link encK lkey (fun x hx vs hl hr => by
    match vs, hl with
    | [u, v], _ =>
      obtain ⟨M, w, r0⟩ := hr 0 _ u rfl rfl
      obtain ⟨M2, w2, r1⟩ := hr 1 _ v rfl rfl
      cases r0
      cases r1
      exact ⟨x.a, x.b, rfl, rfl, hb x hx⟩) hl0 hp hs hsz
end Go.Proofs.YtgmbhaclogabeaaGreat
namespace Go.Proofs.YtgmbhaclogabeaaGreat
open Go Go.RowKit
def makeErr (n : Net) (id : Int) : Int := if idOK id = false then 3 else if (findN n id).isSome = true then 6 else if n.vpcs.length = 6 then 2 else 0
/-- Make's answer. -/
def makeN (n : Net) (id : Int) : Net × Int :=
  if chkT n ≠ 0 then (Net.zero, chkT n) else if makeErr n id ≠ 0 then (Net.zero, makeErr n id) else ({ n with vpcs := insK (·.id) ⟨id, [], []⟩ n.vpcs }, 0)
theorem findN_none {n : Net} {id : Int} (h : findN n id = none) : ∀ v ∈ n.vpcs, v.id ≠ id := fun v hv => by
  have := List.find?_eq_none.1 h v hv
  simpa using this
set_option maxRecDepth 100000 in
set_option maxHeartbeats 1000000 in
theorem nmake_p (n : Net) (id : Int) : PSpec Tryz.prog 7 [.agg (encT n), .v (.int .i64 id)] (.tup [.agg (encT (makeN n id).1), .v (.int .i64 (makeN n id).2)]) := by
  obtain ⟨R, hR⟩ : ∃ R, R = makeN n id := ⟨_, rfl⟩
  rw [← hR]
  replace hR := Lib.hid hR
  by_cases hc : chkT n = 0
  · have hok := netOK.1 hc
    have hbg := nbegin_m n hc
    have hl6 : ((n.vpcs.length : Int) == 6) = decide (n.vpcs.length = 6) := by rw [Bool.eq_iff_iff]; simp; omega
    cases hx : vpcIx n id with
    | some i =>
      obtain ⟨v, hv, he, hi, hfs⟩ := vpcIx_some hx
      have hfd := nfind_m n id n.vpcs.length 1 i v hv he hok.n6 hok.rise
      have hr : R = (Net.zero, if idOK id = false then 3 else 6) := by
        rw [hR.out]; unfold makeN makeErr; rw [if_neg (by simpa using hc), hfs]
        cases idOK id <;> simp
      rw [hr]
      have hid : idOK id = (decide (1 ≤ id) && decide (id ≤ 65536)) := rfl
      rw [hid]
      clear hr hR hok hx hc hfs hv he hid
      refine ps_i tab_ok mixed Tryz.func7 rfl Tryz.ntmps7 Tryz.results7 (by kernel_rfl) ?_
      repeat' (first | (with_reducible refine And.intro ?_ ?_) | (with_reducible refine gK_i (fun _ => ?_) (fun _ => ?_)) | (with_reducible refine condS_i (fun _ => ?_) (fun _ => ?_)) | (with_reducible refine drw_i (by kernel_rfl)) | simp -dsimp only [go_sem, seval, *, encT, undef] | ((with_reducible refine opK_c ?_); simp -dsimp only [go_sem, seval, encT, undef]; first | refine callK_r (by first | assumption | fail) (by first | exact .inl rfl | exact .inr rfl) ?_ | (refine callK_i (by assumption) ?_ ?_ ?_; (solve | (repeat (first | exact DLe.refl _ | exact DLe.nil _ | (refine DLe.tup ?_) | (refine DLe.agg ?_ rfl) | exact trivial | (refine And.intro ?_ ?_)))); (solve | exact .inl rfl | exact .inr rfl))) | (refine opK_M [] (hbg) ?_ ?_ ?_ ?_ ?_ ?_; (solve | rfl | simp only [go_sem, seval, encT]); (solve | rfl); (solve | decide); (solve | simp); (solve | simp only [go_sem, seval, lentOK, encT])) | (refine opK_M [4, 5, 3] (hfd) ?_ ?_ ?_ ?_ ?_ ?_; (solve | rfl | simp only [go_sem, seval, encT]); (solve | rfl); (solve | decide); (solve | simp); (solve | simp only [go_sem, seval, lentOK, encT])) | omega | exact decide_eq_true (by omega) | exact DLe.refl _)
      all_goals first
        | (exfalso; grind)
        | (rw [if_pos (by grind)]; exact (by repeat (first | exact DLe.refl _ | exact DLe.nil _ | (refine DLe.tup ?_) | (refine DLe.agg ?_ rfl) | exact trivial | (refine And.intro ?_ ?_))))
        | (rw [if_neg (by grind)]; exact (by repeat (first | exact DLe.refl _ | exact DLe.nil _ | (refine DLe.tup ?_) | (refine DLe.agg ?_ rfl) | exact trivial | (refine And.intro ?_ ?_))))
    | none =>
      have hfd := nfind0_m n id n.vpcs.length 1 (vpcIx_none hx) hok.n6 hok.rise
      have hn := vpcIx_none hx
      by_cases hbad : makeErr n id ≠ 0
      · have hr : R = (Net.zero, makeErr n id) := by rw [hR.out]; unfold makeN; rw [if_neg (by simpa using hc), if_pos hbad]
        have hme : makeErr n id = if idOK id = false then 3 else if n.vpcs.length = 6 then 2 else 0 := by unfold makeErr; rw [hn]; rfl
        rw [hr]
        have hid : idOK id = (decide (1 ≤ id) && decide (id ≤ 65536)) := rfl
        rw [hme] at hbad ⊢
        rw [hid] at hbad ⊢
        clear hr hR hok hx hc hid hn hme
        replace hbad := Lib.hid hbad
        refine ps_i tab_ok mixed Tryz.func7 rfl Tryz.ntmps7 Tryz.results7 (by kernel_rfl) ?_
        repeat' (first | (with_reducible refine And.intro ?_ ?_) | (with_reducible refine gK_i (fun _ => ?_) (fun _ => ?_)) | (with_reducible refine condS_i (fun _ => ?_) (fun _ => ?_)) | (with_reducible refine drw_i (by kernel_rfl)) | simp -dsimp only [go_sem, seval, *, encT, hl6, undef] | ((with_reducible refine opK_c ?_); simp -dsimp only [go_sem, seval, encT, hl6, undef]; first | refine callK_r (by first | assumption | fail) (by first | exact .inl rfl | exact .inr rfl) ?_ | (refine callK_i (by assumption) ?_ ?_ ?_; (solve | (repeat (first | exact DLe.refl _ | exact DLe.nil _ | (refine DLe.tup ?_) | (refine DLe.agg ?_ rfl) | exact trivial | (refine And.intro ?_ ?_)))); (solve | exact .inl rfl | exact .inr rfl))) | (refine opK_M [] (hbg) ?_ ?_ ?_ ?_ ?_ ?_; (solve | rfl | simp only [go_sem, seval, encT]); (solve | rfl); (solve | decide); (solve | simp); (solve | simp only [go_sem, seval, lentOK, encT])) | (refine opK_M [4, 5, 3] (hfd) ?_ ?_ ?_ ?_ ?_ ?_; (solve | rfl | simp only [go_sem, seval, encT]); (solve | rfl); (solve | decide); (solve | simp); (solve | simp only [go_sem, seval, lentOK, encT])) | omega | exact decide_eq_true (by omega) | exact DLe.refl _)
        all_goals have hb2 := hbad.out
        all_goals clear hbad hfd hbg
        all_goals first
          | (exfalso; grind)
          | (rw [if_pos (by grind)]; exact (by repeat (first | exact DLe.refl _ | exact DLe.nil _ | (refine DLe.tup ?_) | (refine DLe.agg ?_ rfl) | exact trivial | (refine And.intro ?_ ?_))))
          | (rw [if_neg (by grind), if_pos (by grind)]; exact (by repeat (first | exact DLe.refl _ | exact DLe.nil _ | (refine DLe.tup ?_) | (refine DLe.agg ?_ rfl) | exact trivial | (refine And.intro ?_ ?_))))
      · have hr : R = ({ n with vpcs := insK (·.id) ⟨id, [], []⟩ n.vpcs }, 0) := by rw [hR.out]; unfold makeN; rw [if_neg (by simpa using hc), if_neg hbad]
        have hg : makeErr n id = 0 := by simpa using hbad
        obtain ⟨g1, g2⟩ : idOK id = true ∧ n.vpcs.length ≠ 6 := by unfold makeErr at hg; rw [hn] at hg; grind
        have g3 : 1 ≤ id ∧ id ≤ 65536 := by simpa [idOK] using g1
        have h6 := hok.n6
        have hso := sort_Vpc (l := n.vpcs ++ [⟨id, [], []⟩]) (l' := insK (·.id) ⟨id, [], []⟩ n.vpcs) (n.vpcs.length + 1) (by simp) (insK_perm _ _ _) (insK_sorted hok.rise fun v hv => findN_none hn v hv) (by simp; omega)
        have hl4 : ((n.vpcs.length : Int) == 6) = false := by simp; omega
        have hb1 : n.vpcs.length + 1 ≤ 100 := by omega
        have hlo : decide (id < 1) = false := by simp; omega
        have hhi : decide (id > 65536) = false := by simp; omega
        simp only [List.map_append, List.map_cons, List.map_nil] at hso
        have hso := hso.leh (rles_mid (A := n.vpcs.map encV) (B := []) (r := [.v (.int .i64 id), .v (.slice none 0 0), .v (.slice none 0 0)]) (by repeat (first | exact DLe.refl _ | exact DLe.nil _ | (refine DLe.tup ?_) | (refine DLe.agg ?_ rfl) | exact trivial | (refine And.intro ?_ ?_)))) (by have := dRows_one2 (enc := encV) (fun _ => rfl) (n.vpcs ++ [⟨id, [], []⟩]); simpa using this) (belowR_d _ _)
        rw [hr]
        clear hr hR hok hx hc hn hbad hg g1 g2 g3
        refine ps_i tab_ok mixed Tryz.func7 rfl Tryz.ntmps7 Tryz.results7 (by kernel_rfl) ?_
        repeat' (first | (with_reducible refine And.intro ?_ ?_) | (with_reducible refine gK_i (fun _ => ?_) (fun _ => ?_)) | (with_reducible refine condS_i (fun _ => ?_) (fun _ => ?_)) | (with_reducible refine drw_i (by kernel_rfl)) | simp -dsimp only [go_sem, seval, *, encT, encV, hl4, hlo, hhi, hb1, undef] | ((with_reducible refine opK_c ?_); simp -dsimp only [go_sem, seval, encT, encV, hl4, hlo, hhi, hb1, undef]; first | refine callK_r (by first | assumption | fail) (by first | exact .inl rfl | exact .inr rfl) ?_ | (refine callK_i (by assumption) ?_ ?_ ?_; (solve | (repeat (first | exact DLe.refl _ | exact DLe.nil _ | (refine DLe.tup ?_) | (refine DLe.agg ?_ rfl) | exact trivial | (refine And.intro ?_ ?_)))); (solve | exact .inl rfl | exact .inr rfl))) | (refine opK_M [] (hbg) ?_ ?_ ?_ ?_ ?_ ?_; (solve | rfl | simp only [go_sem, seval, encT]); (solve | rfl); (solve | decide); (solve | simp); (solve | simp only [go_sem, seval, lentOK, encT])) | (refine opK_M [4, 5, 3] (hfd) ?_ ?_ ?_ ?_ ?_ ?_; (solve | rfl | simp only [go_sem, seval, encT]); (solve | rfl); (solve | decide); (solve | simp); (solve | simp only [go_sem, seval, lentOK, encT])) | (refine opK_M [5] (hso) ?_ ?_ ?_ ?_ ?_ ?_; (solve | rfl | simp only [go_sem, seval, encV]); (solve | rfl); (solve | decide); (solve | simp); (solve | simp only [go_sem, seval, lentOK, encV])) | omega | exact decide_eq_true (by omega) | exact DLe.refl _)
        all_goals exact (by repeat (first | exact DLe.refl _ | exact DLe.nil _ | (refine DLe.tup ?_) | (refine DLe.agg ?_ rfl) | exact trivial | (refine And.intro ?_ ?_)))
  · have hbg := nbeginE_m n hc
    have hfz := nfindz_p id
    have h1 : (chkT n != 0) = true := by simpa using hc
    have hr : R = (Net.zero, chkT n) := by rw [hR.out]; unfold makeN; rw [if_pos hc]
    rw [hr]
    replace hr := Lib.hid hr
    refine ps_i tab_ok mixed Tryz.func7 rfl Tryz.ntmps7 Tryz.results7 (by kernel_rfl) ?_
    repeat' (first | (with_reducible refine And.intro ?_ ?_) | (with_reducible refine gK_i (fun _ => ?_) (fun _ => ?_)) | (with_reducible refine condS_i (fun _ => ?_) (fun _ => ?_)) | (with_reducible refine drw_i (by kernel_rfl)) | simp -dsimp only [go_sem, seval, *, encT, h1] | ((with_reducible refine opK_c ?_); simp -dsimp only [go_sem, seval, encT, h1]; first | refine callK_r (by first | assumption | exact hfz) (by first | exact .inl rfl | exact .inr rfl) ?_ | (refine callK_i (by assumption) ?_ ?_ ?_; (solve | (repeat (first | exact DLe.refl _ | exact DLe.nil _ | (refine DLe.tup ?_) | (refine DLe.agg ?_ rfl) | exact trivial | (refine And.intro ?_ ?_)))); (solve | exact .inl rfl | exact .inr rfl))) | (refine opK_M [] (hbg) ?_ ?_ ?_ ?_ ?_ ?_; (solve | rfl | simp only [go_sem, seval, encT]); (solve | rfl); (solve | decide); (solve | simp); (solve | simp only [go_sem, seval, lentOK, encT])) | omega | exact decide_eq_true (by omega) | exact DLe.refl _)
    all_goals exact (by repeat (first | exact DLe.refl _ | exact DLe.nil _ | (refine DLe.tup ?_) | (refine DLe.agg ?_ rfl) | exact trivial | (refine And.intro ?_ ?_)))
def joinErr (n : Net) (a b : Int) : Int :=
  if a = b then 3 else if findN n a = none ∨ findN n b = none then 5 else if lnk a b ∈ n.links then 6 else
  if peaceN { n with links := insK lkey (lnk a b) n.links } = false then 9 else if n.links.length + 1 > 12 then 2 else 0
/-- Join's answer. -/
def joinN (n : Net) (a b : Int) : Net × Int :=
  if chkT n ≠ 0 then (Net.zero, chkT n) else if joinErr n a b ≠ 0 then (Net.zero, joinErr n a b) else ({ n with links := insK lkey (lnk a b) n.links }, 0)
/-- A link's ends are Ids. -/
theorem NetOK.bd {n : Net} (h : NetOK n) {x : Int} (hx : x ∈ n.vpcs.map (·.id)) : 1 ≤ x ∧ x ≤ 65536 := by
  obtain ⟨v, hv, rfl⟩ := List.mem_map.1 hx
  have := (vpcOK_of (h.vp v hv)).id
  simpa [idOK] using this
theorem ordK_key {l m : Lnk} (h1 : 1 ≤ l.b ∧ l.b ≤ 65536) (h2 : 1 ≤ m.b ∧ m.b ≤ 65536) : ordK l m = cmpI (lkey l) (lkey m) := cmpI_two h1.1 h1.2 h2.1 h2.2
theorem NetOK.lsort {n : Net} (h : NetOK n) : n.links.Pairwise fun a b => lkey a < lkey b := by
  have hb : ∀ l ∈ n.links, 1 ≤ l.b ∧ l.b ≤ 65536 := fun l hl => h.bd (h.ids l hl).2
  have := (risK_at n.links).1 h.rk
  have step : ∀ j (hj : j + 1 < n.links.length), lkey n.links[j] < lkey n.links[j + 1] := fun j hj => by
    have h1 := this j hj
    rw [ordK_key (hb _ (List.getElem_mem _)) (hb _ (List.getElem_mem _))] at h1
    unfold cmpI at h1
    split at h1
    · assumption
    · split at h1 <;> omega
  rw [List.pairwise_iff_getElem]
  intro i j hi hj hij
  obtain ⟨d, rfl⟩ : ∃ d, j = i + 1 + d := ⟨j - i - 1, by omega⟩
  induction d with
  | zero => exact step i hj
  | succ d ih =>
    have h1 := ih (by omega) (by omega)
    have h2 := step (i + 1 + d) (by omega)
    exact Int.lt_trans h1 h2
theorem lnk_cases (a b : Int) : (lnk a b = ⟨a, b⟩ ∧ a ≤ b) ∨ (lnk a b = ⟨b, a⟩ ∧ b ≤ a) := by
  unfold lnk
  rcases Int.lt_trichotomy a b with h | h | h
  · left; rw [if_neg (by omega), if_pos h]; exact ⟨rfl, by omega⟩
  · subst h; left; simp
  · right; rw [if_pos h, if_neg (by omega)]; exact ⟨rfl, by omega⟩
theorem lkey_inj {l m : Lnk} (h1 : 1 ≤ l.b ∧ l.b ≤ 65536) (h2 : 1 ≤ m.b ∧ m.b ≤ 65536) (h : lkey l = lkey m) : l = m := by
  unfold lkey at h
  cases l; cases m
  simp only at *
  simp only [Lnk.mk.injEq]
  omega
set_option maxRecDepth 100000 in
set_option maxHeartbeats 2000000 in
theorem njoin_p (n : Net) (a b : Int) : PSpec Tryz.prog 18 [.agg (encT n), .v (.int .i64 a), .v (.int .i64 b)] (.tup [.agg (encT (joinN n a b).1), .v (.int .i64 (joinN n a b).2)]) := by
  obtain ⟨R, hR⟩ : ∃ R, R = joinN n a b := ⟨_, rfl⟩
  rw [← hR]
  replace hR := Lib.hid hR
  by_cases hc : chkT n = 0
  · have hok := netOK.1 hc
    have hbg := nbegin_m n hc
    have hlk := link_p a b
    have hR1 : R = if joinErr n a b ≠ 0 then (Net.zero, joinErr n a b) else ({ n with links := insK lkey (lnk a b) n.links }, 0) := by rw [hR.out]; unfold joinN; rw [if_neg (by simpa using hc)]
    cases hxa : vpcIx n a with
    | none =>
      have hfa := nfind0_m n a n.vpcs.length 1 (vpcIx_none hxa) hok.n6 hok.rise
      have hr : R = (Net.zero, if a = b then 3 else 5) := by
        rw [hR1, show joinErr n a b = if a = b then 3 else 5 by unfold joinErr; rw [vpcIx_none hxa]; simp]
        split <;> simp
      have hab : (a == b) = decide (a = b) := rfl
      rw [hr]
      cases hxb : vpcIx n b with
      | none =>
        have hfb := nfind0_m n b n.vpcs.length 1 (vpcIx_none hxb) hok.n6 hok.rise
        clear hr hR hR1 hok hxa hxb hc
        refine ps_i tab_ok mixed Tryz.func18 rfl Tryz.ntmps18 Tryz.results18 (by kernel_rfl) ?_
        repeat' (first | (with_reducible refine And.intro ?_ ?_) | (with_reducible refine gK_i (fun _ => ?_) (fun _ => ?_)) | (with_reducible refine condS_i (fun _ => ?_) (fun _ => ?_)) | (with_reducible refine drw_i (by kernel_rfl)) | simp -dsimp only [go_sem, seval, *, encT, undef] | ((with_reducible refine opK_c ?_); simp -dsimp only [go_sem, seval, encT, undef]; first | refine callK_r (by first | assumption | fail) (by first | exact .inl rfl | exact .inr rfl) ?_ | (refine callK_i (by assumption) ?_ ?_ ?_; (solve | (repeat (first | exact DLe.refl _ | exact DLe.nil _ | (refine DLe.tup ?_) | (refine DLe.agg ?_ rfl) | exact trivial | (refine And.intro ?_ ?_)))); (solve | exact .inl rfl | exact .inr rfl))) | (refine opK_M [] (hbg) ?_ ?_ ?_ ?_ ?_ ?_; (solve | rfl | simp only [go_sem, seval, encT]); (solve | rfl); (solve | decide); (solve | simp); (solve | simp only [go_sem, seval, lentOK, encT])) | (refine opK_M [4, 5, 3] (hfa) ?_ ?_ ?_ ?_ ?_ ?_; (solve | rfl | simp only [go_sem, seval, encT]); (solve | rfl); (solve | decide); (solve | simp); (solve | simp only [go_sem, seval, lentOK, encT])) | (refine opK_M [4, 5, 3] (hfb) ?_ ?_ ?_ ?_ ?_ ?_; (solve | rfl | simp only [go_sem, seval, encT]); (solve | rfl); (solve | decide); (solve | simp); (solve | simp only [go_sem, seval, lentOK, encT])) | omega | exact decide_eq_true (by omega) | exact DLe.refl _)
        all_goals first
          | (exfalso; grind)
          | (rw [if_pos (by grind)]; exact (by repeat (first | exact DLe.refl _ | exact DLe.nil _ | (refine DLe.tup ?_) | (refine DLe.agg ?_ rfl) | exact trivial | (refine And.intro ?_ ?_))))
          | (rw [if_neg (by grind)]; exact (by repeat (first | exact DLe.refl _ | exact DLe.nil _ | (refine DLe.tup ?_) | (refine DLe.agg ?_ rfl) | exact trivial | (refine And.intro ?_ ?_))))
      | some j =>
        obtain ⟨v, hv, he, hi, hfs⟩ := vpcIx_some hxb
        have hfb := nfind_m n b n.vpcs.length 1 j v hv he hok.n6 hok.rise
        clear hr hR hR1 hok hxa hxb hc hv he hfs hi
        refine ps_i tab_ok mixed Tryz.func18 rfl Tryz.ntmps18 Tryz.results18 (by kernel_rfl) ?_
        repeat' (first | (with_reducible refine And.intro ?_ ?_) | (with_reducible refine gK_i (fun _ => ?_) (fun _ => ?_)) | (with_reducible refine condS_i (fun _ => ?_) (fun _ => ?_)) | (with_reducible refine drw_i (by kernel_rfl)) | simp -dsimp only [go_sem, seval, *, encT, undef] | ((with_reducible refine opK_c ?_); simp -dsimp only [go_sem, seval, encT, undef]; first | refine callK_r (by first | assumption | fail) (by first | exact .inl rfl | exact .inr rfl) ?_ | (refine callK_i (by assumption) ?_ ?_ ?_; (solve | (repeat (first | exact DLe.refl _ | exact DLe.nil _ | (refine DLe.tup ?_) | (refine DLe.agg ?_ rfl) | exact trivial | (refine And.intro ?_ ?_)))); (solve | exact .inl rfl | exact .inr rfl))) | (refine opK_M [] (hbg) ?_ ?_ ?_ ?_ ?_ ?_; (solve | rfl | simp only [go_sem, seval, encT]); (solve | rfl); (solve | decide); (solve | simp); (solve | simp only [go_sem, seval, lentOK, encT])) | (refine opK_M [4, 5, 3] (hfa) ?_ ?_ ?_ ?_ ?_ ?_; (solve | rfl | simp only [go_sem, seval, encT]); (solve | rfl); (solve | decide); (solve | simp); (solve | simp only [go_sem, seval, lentOK, encT])) | (refine opK_M [4, 5, 3] (hfb) ?_ ?_ ?_ ?_ ?_ ?_; (solve | rfl | simp only [go_sem, seval, encT]); (solve | rfl); (solve | decide); (solve | simp); (solve | simp only [go_sem, seval, lentOK, encT])) | omega | exact decide_eq_true (by omega) | exact DLe.refl _)
        all_goals first
          | (exfalso; grind)
          | (rw [if_pos (by grind)]; exact (by repeat (first | exact DLe.refl _ | exact DLe.nil _ | (refine DLe.tup ?_) | (refine DLe.agg ?_ rfl) | exact trivial | (refine And.intro ?_ ?_))))
          | (rw [if_neg (by grind)]; exact (by repeat (first | exact DLe.refl _ | exact DLe.nil _ | (refine DLe.tup ?_) | (refine DLe.agg ?_ rfl) | exact trivial | (refine And.intro ?_ ?_))))
    | some i =>
      obtain ⟨u, hu, hea, hia, hfsa⟩ := vpcIx_some hxa
      have hfa := nfind_m n a n.vpcs.length 1 i u hu hea hok.n6 hok.rise
      cases hxb : vpcIx n b with
      | none =>
        have hfb := nfind0_m n b n.vpcs.length 1 (vpcIx_none hxb) hok.n6 hok.rise
        have hr : R = (Net.zero, if a = b then 3 else 5) := by
          rw [hR1, show joinErr n a b = if a = b then 3 else 5 by unfold joinErr; rw [vpcIx_none hxb]; simp]
          split <;> simp
        rw [hr]
        clear hr hR hR1 hok hxa hxb hc hu hea hia hfsa
        refine ps_i tab_ok mixed Tryz.func18 rfl Tryz.ntmps18 Tryz.results18 (by kernel_rfl) ?_
        repeat' (first | (with_reducible refine And.intro ?_ ?_) | (with_reducible refine gK_i (fun _ => ?_) (fun _ => ?_)) | (with_reducible refine condS_i (fun _ => ?_) (fun _ => ?_)) | (with_reducible refine drw_i (by kernel_rfl)) | simp -dsimp only [go_sem, seval, *, encT, undef] | ((with_reducible refine opK_c ?_); simp -dsimp only [go_sem, seval, encT, undef]; first | refine callK_r (by first | assumption | fail) (by first | exact .inl rfl | exact .inr rfl) ?_ | (refine callK_i (by assumption) ?_ ?_ ?_; (solve | (repeat (first | exact DLe.refl _ | exact DLe.nil _ | (refine DLe.tup ?_) | (refine DLe.agg ?_ rfl) | exact trivial | (refine And.intro ?_ ?_)))); (solve | exact .inl rfl | exact .inr rfl))) | (refine opK_M [] (hbg) ?_ ?_ ?_ ?_ ?_ ?_; (solve | rfl | simp only [go_sem, seval, encT]); (solve | rfl); (solve | decide); (solve | simp); (solve | simp only [go_sem, seval, lentOK, encT])) | (refine opK_M [4, 5, 3] (hfa) ?_ ?_ ?_ ?_ ?_ ?_; (solve | rfl | simp only [go_sem, seval, encT]); (solve | rfl); (solve | decide); (solve | simp); (solve | simp only [go_sem, seval, lentOK, encT])) | (refine opK_M [4, 5, 3] (hfb) ?_ ?_ ?_ ?_ ?_ ?_; (solve | rfl | simp only [go_sem, seval, encT]); (solve | rfl); (solve | decide); (solve | simp); (solve | simp only [go_sem, seval, lentOK, encT])) | omega | exact decide_eq_true (by omega) | exact DLe.refl _)
        all_goals first
          | (exfalso; grind)
          | (rw [if_pos (by grind)]; exact (by repeat (first | exact DLe.refl _ | exact DLe.nil _ | (refine DLe.tup ?_) | (refine DLe.agg ?_ rfl) | exact trivial | (refine And.intro ?_ ?_))))
          | (rw [if_neg (by grind)]; exact (by repeat (first | exact DLe.refl _ | exact DLe.nil _ | (refine DLe.tup ?_) | (refine DLe.agg ?_ rfl) | exact trivial | (refine And.intro ?_ ?_))))
      | some j =>
        obtain ⟨v, hv, heb, hib, hfsb⟩ := vpcIx_some hxb
        have hfb := nfind_m n b n.vpcs.length 1 j v hv heb hok.n6 hok.rise
        by_cases hab : a = b
        · have hr : R = (Net.zero, 3) := by rw [hR1, show joinErr n a b = 3 by unfold joinErr; rw [if_pos hab]]; rfl
          rw [hr]
          clear hr hR hR1 hok hxa hxb hc hu hea hia hfsa hv heb hib hfsb
          have habI : (a == b) = true := by simpa using hab
          replace hab := Lib.hid hab
          refine ps_i tab_ok mixed Tryz.func18 rfl Tryz.ntmps18 Tryz.results18 (by kernel_rfl) ?_
          repeat' (first | (with_reducible refine And.intro ?_ ?_) | (with_reducible refine gK_i (fun _ => ?_) (fun _ => ?_)) | (with_reducible refine condS_i (fun _ => ?_) (fun _ => ?_)) | (with_reducible refine drw_i (by kernel_rfl)) | simp -dsimp only [go_sem, seval, *, encT, habI, undef] | ((with_reducible refine opK_c ?_); simp -dsimp only [go_sem, seval, encT, habI, undef]; first | refine callK_r (by first | assumption | fail) (by first | exact .inl rfl | exact .inr rfl) ?_ | (refine callK_i (by assumption) ?_ ?_ ?_; (solve | (repeat (first | exact DLe.refl _ | exact DLe.nil _ | (refine DLe.tup ?_) | (refine DLe.agg ?_ rfl) | exact trivial | (refine And.intro ?_ ?_)))); (solve | exact .inl rfl | exact .inr rfl))) | (refine opK_M [] (hbg) ?_ ?_ ?_ ?_ ?_ ?_; (solve | rfl | simp only [go_sem, seval, encT]); (solve | rfl); (solve | decide); (solve | simp); (solve | simp only [go_sem, seval, lentOK, encT])) | (refine opK_M [4, 5, 3] (hfa) ?_ ?_ ?_ ?_ ?_ ?_; (solve | rfl | simp only [go_sem, seval, encT]); (solve | rfl); (solve | decide); (solve | simp); (solve | simp only [go_sem, seval, lentOK, encT])) | (refine opK_M [4, 5, 3] (hfb) ?_ ?_ ?_ ?_ ?_ ?_; (solve | rfl | simp only [go_sem, seval, encT]); (solve | rfl); (solve | decide); (solve | simp); (solve | simp only [go_sem, seval, lentOK, encT])) | omega | exact decide_eq_true (by omega) | exact DLe.refl _)
          all_goals exact (by repeat (first | exact DLe.refl _ | exact DLe.nil _ | (refine DLe.tup ?_) | (refine DLe.agg ?_ rfl) | exact trivial | (refine And.intro ?_ ?_)))
        · have habI : (a == b) = false := by simpa using hab
          have hct := contains_Link n.links (lnk a b) (by have := hok.n12; omega)
          have hany : (n.links.any fun y => decide (lnk a b = y)) = decide (lnk a b ∈ n.links) := by
            rw [Bool.eq_iff_iff, List.any_eq_true]
            simp
          rw [hany] at hct
          have hR2 : R = if lnk a b ∈ n.links then (Net.zero, 6) else if peaceN { n with links := insK lkey (lnk a b) n.links } = false then (Net.zero, 9) else if n.links.length + 1 > 12 then (Net.zero, 2) else ({ n with links := insK lkey (lnk a b) n.links }, 0) := by
            rw [hR1]; unfold joinErr; rw [if_neg hab, hfsa, hfsb]; simp only [reduceCtorEq, or_self, if_false]
            split
            · rfl
            · split
              · rfl
              · split <;> rfl
          by_cases hin : lnk a b ∈ n.links
          · have hr : R = (Net.zero, 6) := by rw [hR2, if_pos hin]
            rw [hr]
            rw [decide_eq_true hin] at hct
            clear hr hR hR1 hR2 hok hxa hxb hc hu hea hia hfsa hv heb hib hfsb hany hin
            generalize lnk a b = LK at *
            replace hab := Lib.hid hab
            refine ps_i tab_ok mixed Tryz.func18 rfl Tryz.ntmps18 Tryz.results18 (by kernel_rfl) ?_
            repeat' (first | (with_reducible refine And.intro ?_ ?_) | (with_reducible refine gK_i (fun _ => ?_) (fun _ => ?_)) | (with_reducible refine condS_i (fun _ => ?_) (fun _ => ?_)) | (with_reducible refine drw_i (by kernel_rfl)) | simp -dsimp only [go_sem, seval, *, encT, encK, habI, undef] | ((with_reducible refine opK_c ?_); simp -dsimp only [go_sem, seval, encT, encK, habI, undef]; first | refine callK_r (by first | assumption | exact hlk | exact hct) (by first | exact .inl rfl | exact .inr rfl) ?_ | (refine callK_i (by assumption) ?_ ?_ ?_; (solve | (repeat (first | exact DLe.refl _ | exact DLe.nil _ | (refine DLe.tup ?_) | (refine DLe.agg ?_ rfl) | exact trivial | (refine And.intro ?_ ?_)))); (solve | exact .inl rfl | exact .inr rfl))) | (refine opK_M [] (hbg) ?_ ?_ ?_ ?_ ?_ ?_; (solve | rfl | simp only [go_sem, seval, encT]); (solve | rfl); (solve | decide); (solve | simp); (solve | simp only [go_sem, seval, lentOK, encT])) | (refine opK_M [4, 5, 3] (hfa) ?_ ?_ ?_ ?_ ?_ ?_; (solve | rfl | simp only [go_sem, seval, encT]); (solve | rfl); (solve | decide); (solve | simp); (solve | simp only [go_sem, seval, lentOK, encT])) | (refine opK_M [4, 5, 3] (hfb) ?_ ?_ ?_ ?_ ?_ ?_; (solve | rfl | simp only [go_sem, seval, encT]); (solve | rfl); (solve | decide); (solve | simp); (solve | simp only [go_sem, seval, lentOK, encT])) | omega | exact decide_eq_true (by omega) | exact DLe.refl _)
            all_goals exact (by repeat (first | exact DLe.refl _ | exact DLe.nil _ | (refine DLe.tup ?_) | (refine DLe.agg ?_ rfl) | exact trivial | (refine And.intro ?_ ?_)))
          · rw [if_neg hin] at hR2
            rw [decide_eq_false hin] at hct
            have hma : a ∈ n.vpcs.map (·.id) := find_ids (by rw [hfsa]; rfl)
            have hmb : b ∈ n.vpcs.map (·.id) := find_ids (by rw [hfsb]; rfl)
            have hlb : ∀ l ∈ n.links, 1 ≤ l.b ∧ l.b ≤ 65536 := fun l hl => hok.bd (hok.ids l hl).2
            have hlm : (lnk a b).a ∈ n.vpcs.map (·.id) ∧ (lnk a b).b ∈ n.vpcs.map (·.id) := by
              rcases lnk_cases a b with ⟨e, -⟩ | ⟨e, -⟩
              · rw [e]; exact ⟨hma, hmb⟩
              · rw [e]; exact ⟨hmb, hma⟩
            have hlkb := hok.bd hlm.2
            have hso := sort_Link (l := n.links ++ [lnk a b]) (l' := insK lkey (lnk a b) n.links) 2 (fun l hl => by
              rcases List.mem_append.1 hl with hl | hl
              · exact hlb l hl
              · rw [List.mem_singleton.1 hl]; exact hlkb) (by simp) (insK_perm _ _ _) (insK_sorted hok.lsort fun y hy e => hin (by rw [← lkey_inj (hlb y hy) hlkb e]; exact hy)) (by have := hok.n12; simp; omega)
            have hpe := peace_p { n with links := insK lkey (lnk a b) n.links } (by have := hok.n6; simp; omega) (by have := hok.n12; simp only [insK_len]; omega) (fun v hv => by have := (vpcOK_of (hok.vp v hv)).n4; omega) (fun l hl => by
              rcases insK_mem.1 hl with rfl | hl
              · exact hlm
              · exact hok.ids l hl)
            have h12 := hok.n12
            have hb1 : n.links.length + 1 ≤ 100 := by omega
            have hsl : (insK lkey (lnk a b) n.links).length = n.links.length + 1 := insK_len _ _ _
            have hlI : ((n.links.length + 1 : Nat) : Int) > 12 ↔ n.links.length + 1 > 12 := by omega
            simp only [List.map_append, List.map_cons, List.map_nil] at hso
            clear hR hR1 hok hxa hxb hc hu hea hia hfsa hv heb hib hfsb hany hin hma hmb hlb hlm hlkb
            generalize insK lkey (lnk a b) n.links = LS at *
            generalize lnk a b = LK at *
            replace hab := Lib.hid hab
            cases hp : peaceN { n with links := LS } with
            | false =>
              have hr : R = (Net.zero, 9) := by rw [hR2, if_pos hp]
              rw [hp] at hpe
              rw [hr]
              clear hr hR2 hp hlI
              refine ps_i tab_ok mixed Tryz.func18 rfl Tryz.ntmps18 Tryz.results18 (by kernel_rfl) ?_
              repeat' (first | (with_reducible refine And.intro ?_ ?_) | (with_reducible refine gK_i (fun _ => ?_) (fun _ => ?_)) | (with_reducible refine condS_i (fun _ => ?_) (fun _ => ?_)) | (with_reducible refine drw_i (by kernel_rfl)) | simp -dsimp only [go_sem, seval, *, encT, encK, habI, hb1, undef] | ((with_reducible refine opK_c ?_); simp -dsimp only [go_sem, seval, encT, encK, habI, hb1, undef]; first | refine callK_r (by first | assumption | exact hlk | exact hct | exact hpe) (by first | exact .inl rfl | exact .inr rfl) ?_ | (refine callK_i (by assumption) ?_ ?_ ?_; (solve | (repeat (first | exact DLe.refl _ | exact DLe.nil _ | (refine DLe.tup ?_) | (refine DLe.agg ?_ rfl) | exact trivial | (refine And.intro ?_ ?_)))); (solve | exact .inl rfl | exact .inr rfl))) | (refine opK_M [] (hbg) ?_ ?_ ?_ ?_ ?_ ?_; (solve | rfl | simp only [go_sem, seval, encT]); (solve | rfl); (solve | decide); (solve | simp); (solve | simp only [go_sem, seval, lentOK, encT])) | (refine opK_M [4, 5, 3] (hfa) ?_ ?_ ?_ ?_ ?_ ?_; (solve | rfl | simp only [go_sem, seval, encT]); (solve | rfl); (solve | decide); (solve | simp); (solve | simp only [go_sem, seval, lentOK, encT])) | (refine opK_M [4, 5, 3] (hfb) ?_ ?_ ?_ ?_ ?_ ?_; (solve | rfl | simp only [go_sem, seval, encT]); (solve | rfl); (solve | decide); (solve | simp); (solve | simp only [go_sem, seval, lentOK, encT])) | (refine opK_M [3] (hso) ?_ ?_ ?_ ?_ ?_ ?_; (solve | rfl | simp only [go_sem, seval, encK]); (solve | rfl); (solve | decide); (solve | simp); (solve | simp only [go_sem, seval, lentOK, encK])) | omega | exact decide_eq_true (by omega) | exact DLe.refl _)
              all_goals exact (by repeat (first | exact DLe.refl _ | exact DLe.nil _ | (refine DLe.tup ?_) | (refine DLe.agg ?_ rfl) | exact trivial | (refine And.intro ?_ ?_)))
            | true =>
              rw [hp] at hpe
              by_cases hbig : n.links.length + 1 > 12
              · have hr : R = (Net.zero, 2) := by rw [hR2, if_neg (by simp [hp]), if_pos hbig]
                have hbI : decide ((LS.length : Int) > 12) = true := by rw [hsl]; exact decide_eq_true (hlI.2 hbig)
                rw [hr]
                clear hr hR2 hp hlI hbig
                replace hsl := Lib.hid hsl
                refine ps_i tab_ok mixed Tryz.func18 rfl Tryz.ntmps18 Tryz.results18 (by kernel_rfl) ?_
                repeat' (first | (with_reducible refine And.intro ?_ ?_) | (with_reducible refine gK_i (fun _ => ?_) (fun _ => ?_)) | (with_reducible refine condS_i (fun _ => ?_) (fun _ => ?_)) | (with_reducible refine drw_i (by kernel_rfl)) | simp -dsimp only [go_sem, seval, *, encT, encK, habI, hb1, hbI, undef] | ((with_reducible refine opK_c ?_); simp -dsimp only [go_sem, seval, encT, encK, habI, hb1, hbI, undef]; first | refine callK_r (by first | assumption | exact hlk | exact hct | exact hpe) (by first | exact .inl rfl | exact .inr rfl) ?_ | (refine callK_i (by assumption) ?_ ?_ ?_; (solve | (repeat (first | exact DLe.refl _ | exact DLe.nil _ | (refine DLe.tup ?_) | (refine DLe.agg ?_ rfl) | exact trivial | (refine And.intro ?_ ?_)))); (solve | exact .inl rfl | exact .inr rfl))) | (refine opK_M [] (hbg) ?_ ?_ ?_ ?_ ?_ ?_; (solve | rfl | simp only [go_sem, seval, encT]); (solve | rfl); (solve | decide); (solve | simp); (solve | simp only [go_sem, seval, lentOK, encT])) | (refine opK_M [4, 5, 3] (hfa) ?_ ?_ ?_ ?_ ?_ ?_; (solve | rfl | simp only [go_sem, seval, encT]); (solve | rfl); (solve | decide); (solve | simp); (solve | simp only [go_sem, seval, lentOK, encT])) | (refine opK_M [4, 5, 3] (hfb) ?_ ?_ ?_ ?_ ?_ ?_; (solve | rfl | simp only [go_sem, seval, encT]); (solve | rfl); (solve | decide); (solve | simp); (solve | simp only [go_sem, seval, lentOK, encT])) | (refine opK_M [3] (hso) ?_ ?_ ?_ ?_ ?_ ?_; (solve | rfl | simp only [go_sem, seval, encK]); (solve | rfl); (solve | decide); (solve | simp); (solve | simp only [go_sem, seval, lentOK, encK])) | omega | exact decide_eq_true (by omega) | exact DLe.refl _)
                all_goals exact (by repeat (first | exact DLe.refl _ | exact DLe.nil _ | (refine DLe.tup ?_) | (refine DLe.agg ?_ rfl) | exact trivial | (refine And.intro ?_ ?_)))
              · have hr : R = ({ n with links := LS }, 0) := by rw [hR2, if_neg (by simp [hp]), if_neg hbig]
                have hbI : decide ((LS.length : Int) > 12) = false := by rw [hsl]; exact decide_eq_false (fun h => hbig (hlI.1 h))
                rw [hr]
                clear hr hR2 hp hlI hbig
                replace hsl := Lib.hid hsl
                refine ps_i tab_ok mixed Tryz.func18 rfl Tryz.ntmps18 Tryz.results18 (by kernel_rfl) ?_
                repeat' (first | (with_reducible refine And.intro ?_ ?_) | (with_reducible refine gK_i (fun _ => ?_) (fun _ => ?_)) | (with_reducible refine condS_i (fun _ => ?_) (fun _ => ?_)) | (with_reducible refine drw_i (by kernel_rfl)) | simp -dsimp only [go_sem, seval, *, encT, encK, habI, hb1, hbI, undef] | ((with_reducible refine opK_c ?_); simp -dsimp only [go_sem, seval, encT, encK, habI, hb1, hbI, undef]; first | refine callK_r (by first | assumption | exact hlk | exact hct | exact hpe) (by first | exact .inl rfl | exact .inr rfl) ?_ | (refine callK_i (by assumption) ?_ ?_ ?_; (solve | (repeat (first | exact DLe.refl _ | exact DLe.nil _ | (refine DLe.tup ?_) | (refine DLe.agg ?_ rfl) | exact trivial | (refine And.intro ?_ ?_)))); (solve | exact .inl rfl | exact .inr rfl))) | (refine opK_M [] (hbg) ?_ ?_ ?_ ?_ ?_ ?_; (solve | rfl | simp only [go_sem, seval, encT]); (solve | rfl); (solve | decide); (solve | simp); (solve | simp only [go_sem, seval, lentOK, encT])) | (refine opK_M [4, 5, 3] (hfa) ?_ ?_ ?_ ?_ ?_ ?_; (solve | rfl | simp only [go_sem, seval, encT]); (solve | rfl); (solve | decide); (solve | simp); (solve | simp only [go_sem, seval, lentOK, encT])) | (refine opK_M [4, 5, 3] (hfb) ?_ ?_ ?_ ?_ ?_ ?_; (solve | rfl | simp only [go_sem, seval, encT]); (solve | rfl); (solve | decide); (solve | simp); (solve | simp only [go_sem, seval, lentOK, encT])) | (refine opK_M [3] (hso) ?_ ?_ ?_ ?_ ?_ ?_; (solve | rfl | simp only [go_sem, seval, encK]); (solve | rfl); (solve | decide); (solve | simp); (solve | simp only [go_sem, seval, lentOK, encK])) | omega | exact decide_eq_true (by omega) | exact DLe.refl _)
                all_goals exact (by repeat (first | exact DLe.refl _ | exact DLe.nil _ | (refine DLe.tup ?_) | (refine DLe.agg ?_ rfl) | exact trivial | (refine And.intro ?_ ?_)))
  · have hbg := nbeginE_m n hc
    have h1 : (chkT n != 0) = true := by simpa using hc
    have hr : R = (Net.zero, chkT n) := by rw [hR.out]; unfold joinN; rw [if_pos hc]
    rw [hr]
    replace hr := Lib.hid hr
    refine ps_i tab_ok mixed Tryz.func18 rfl Tryz.ntmps18 Tryz.results18 (by kernel_rfl) ?_
    repeat' (first | (with_reducible refine And.intro ?_ ?_) | (with_reducible refine gK_i (fun _ => ?_) (fun _ => ?_)) | (with_reducible refine condS_i (fun _ => ?_) (fun _ => ?_)) | (with_reducible refine drw_i (by kernel_rfl)) | simp -dsimp only [go_sem, seval, *, encT, h1] | ((with_reducible refine opK_c ?_); simp -dsimp only [go_sem, seval, encT, h1]; first | refine callK_r (by first | assumption | fail) (by first | exact .inl rfl | exact .inr rfl) ?_ | (refine callK_i (by assumption) ?_ ?_ ?_; (solve | (repeat (first | exact DLe.refl _ | exact DLe.nil _ | (refine DLe.tup ?_) | (refine DLe.agg ?_ rfl) | exact trivial | (refine And.intro ?_ ?_)))); (solve | exact .inl rfl | exact .inr rfl))) | (refine opK_M [] (hbg) ?_ ?_ ?_ ?_ ?_ ?_; (solve | rfl | simp only [go_sem, seval, encT]); (solve | rfl); (solve | decide); (solve | simp); (solve | simp only [go_sem, seval, lentOK, encT])) | omega | exact decide_eq_true (by omega) | exact DLe.refl _)
    all_goals exact (by repeat (first | exact DLe.refl _ | exact DLe.nil _ | (refine DLe.tup ?_) | (refine DLe.agg ?_ rfl) | exact trivial | (refine And.intro ?_ ?_)))
end Go.Proofs.YtgmbhaclogabeaaGreat
namespace Go.Proofs.YtgmbhaclogabeaaGreat
open Go Go.RowKit
def rdl : List (List D) → List (List D) → Prop
  | [], [] => True
  | r :: l, s :: m => dles r s ∧ rdl l m
  | _, _ => False
theorem rdl_at : ∀ {l m : List (List D)}, rdl l m → l.length = m.length ∧ ∀ (j : Nat) (a b : List D), l[j]? = some a → m[j]? = some b → dles a b
  | [], [], _ => ⟨rfl, fun j a b h => by simp at h⟩
  | [], _ :: _, h => h.elim
  | _ :: _, [], h => h.elim
  | r :: l, s :: m, ⟨h1, h2⟩ => by
    obtain ⟨q1, q2⟩ := rdl_at h2
    refine ⟨by simp [q1], fun j a b ha hb => ?_⟩
    cases j with
    | zero => simp at ha hb; subst ha; subst hb; exact h1
    | succ j => exact q2 j a b (by simpa using ha) (by simpa using hb)
theorem DLe.sl {sz : Nat} {l m : List (List D)} (h : rdl l m) (h1 : ∀ r ∈ m, ∀ d ∈ r, d.one = true) : DLe (.sl sz l) (.sl sz m) := fun M w v hr => by
  obtain ⟨q1, q2⟩ := rdl_at h
  cases hr with
  | nil _ ao cap hm =>
    have : m = [] := List.eq_nil_of_length_eq_zero (by rw [← q1]; rfl)
    subst this
    exact .nil sz ao cap hm
  | sl _ rows b off cap f hM hb hc hm hr _ hcell hrep =>
    rw [q1]
    have row : ∀ (i : Nat) (s : List D), m[i]? = some s → ∃ r, l[i]? = some r ∧ dles r s := fun i s hs => by
      obtain ⟨hlt, -⟩ := List.getElem?_eq_some_iff.1 hs
      exact ⟨l[i]'(by omega), List.getElem?_eq_getElem (by omega), q2 i _ s (List.getElem?_eq_getElem (by omega)) hs⟩
    refine .sl sz m b off cap f hM hb (by omega) hm (fun s hs => ?_) h1 (fun i j hi hj => hcell i j (by omega) hj) (fun i j s d hs hd => ?_)
    · obtain ⟨i, hi, rfl⟩ := List.mem_iff_getElem.1 hs
      obtain ⟨r, e1, e2⟩ := row i _ (List.getElem?_eq_getElem hi)
      rw [← (dles_at e2).1]
      exact hr r (List.mem_of_getElem? e1)
    · obtain ⟨r, e1, e2⟩ := row i s hs
      obtain ⟨p1, p2⟩ := dles_at e2
      obtain ⟨hlt, -⟩ := List.getElem?_eq_some_iff.1 hd
      exact p2 j _ d (List.getElem?_eq_getElem (by omega)) hd M w _ (hrep i j r _ e1 (List.getElem?_eq_getElem (by omega)))
end Go.Proofs.YtgmbhaclogabeaaGreat
namespace Go.Proofs.YtgmbhaclogabeaaGreat
open Go Go.RowKit
theorem join_head {n : Net} {l : Lnk} {x y : Int} {links : List Lnk} (hp : links.Perm (n.links ++ [l])) : headN { n with links := links } x = headN { n with links := links } y ↔ stepF (headN n) l x = stepF (headN n) l y := by
  rw [headN_eq, headN_eq, ← heads_snoc]
  exact heads_same fun m => hp.mem_iff
theorem lnk_heads {n : Net} (a b : Int) {x y : Int} : stepF (headN n) (lnk a b) x = stepF (headN n) (lnk a b) y ↔ headN n x = headN n y ∨ (headN n x = headN n a ∧ headN n y = headN n b) ∨ (headN n x = headN n b ∧ headN n y = headN n a) := by
  rw [stepF_iff]
  rcases lnk_cases a b with ⟨e, -⟩ | ⟨e, -⟩
  · rw [e]
  · rw [e]
    constructor
    · rintro (h | h | h)
      · exact .inl h
      · exact .inr (.inr h)
      · exact .inr (.inl h)
    · rintro (h | h | h)
      · exact .inl h
      · exact .inr (.inr h)
      · exact .inr (.inl h)
theorem erase_filter {l : List Lnk} (hn : l.Nodup) {x : Lnk} {i : Nat} (h : l.findIdx? (fun y => decide (x = y)) = some i) : l.filter (fun y => !decide (y = x)) = l.eraseIdx i := by
  obtain ⟨hi, he, -⟩ := List.findIdx?_eq_some_iff_getElem.1 h
  have he : x = l[i] := by simpa using he
  subst he
  have e1 : l = l.take i ++ l[i] :: l.drop (i + 1) := by rw [← List.drop_eq_getElem_cons hi, List.take_append_drop]
  have hd : ∀ j (hj : j < l.length), j ≠ i → l[j] ≠ l[i] := fun j hj hji he => by
    rcases Nat.lt_or_gt_of_ne hji with h | h
    · exact List.pairwise_iff_getElem.1 hn j i hj hi h he
    · exact List.pairwise_iff_getElem.1 hn i j hi hj h he.symm
  have key : ∀ (A B : List Lnk) (x : Lnk), (∀ y ∈ A, y ≠ x) → (∀ y ∈ B, y ≠ x) → (A ++ x :: B).filter (fun y => !decide (y = x)) = A ++ B := fun A B x hA hB => by
    rw [List.filter_append, List.filter_cons]
    simp only [decide_true, Bool.not_true, Bool.false_eq_true, if_false]
    rw [List.filter_eq_self.2 (fun y hy => by simpa using hA y hy), List.filter_eq_self.2 (fun y hy => by simpa using hB y hy)]
  refine (congrArg (List.filter _) e1).trans ((key _ _ _ (fun y hy => ?_) fun y hy => ?_).trans (List.eraseIdx_eq_take_drop_succ l i).symm)
  · obtain ⟨j, hj, rfl⟩ := List.mem_iff_getElem.1 hy
    rw [List.getElem_take]
    rw [List.length_take] at hj
    exact hd j (by omega) (by omega)
  · obtain ⟨j, hj, rfl⟩ := List.mem_iff_getElem.1 hy
    rw [List.getElem_drop]
    rw [List.length_drop] at hj
    exact hd (i + 1 + j) (by omega) (by omega)
theorem links_nodup {n : Net} (hok : NetOK n) : n.links.Nodup := hok.lsort.imp fun h e => by rw [e] at h; omega
end Go.Proofs.YtgmbhaclogabeaaGreat
namespace Go.Proofs.YtgmbhaclogabeaaGreat
open Go Go.RowKit
theorem eqG_list (p q : Rng) : ([p.at_.at_, p.at_.len, p.pool] == [q.at_.at_, q.at_.len, q.pool]) = decide (p = q) := by
  rw [Bool.eq_iff_iff]
  cases p; cases q
  rename_i a b c d
  cases a; cases c
  simp [and_assoc]
theorem pre_snoc {α : Type} {l m : List α} {k : Nat} {x y : α} (hx : l[k]? = some x) (hy : m[k]? = some y) (h : l.take k = m.take k) (e : x = y) : l.take (k + 1) = m.take (k + 1) := by rw [take_snoc hx, take_snoc hy, h, e]
theorem pre_full {α : Type} {l m : List α} (hl : l.length = m.length) (h : l.take l.length = m.take l.length) : l = m := by
  rw [List.take_length, hl, List.take_length] at h; exact h
set_option maxRecDepth 100000 in
set_option maxHeartbeats 2000000 in
theorem sameVpcs_p (v w : Vpc) (hv1 : v.ranges.length ≤ 1000000000) (hv2 : v.subs.length ≤ 1000000000) (hv3 : ∀ s ∈ v.subs, s.faces.length ≤ 1000000000 ∧ ∀ f ∈ s.faces, f.addrs.length ≤ 1000000000) (hw3 : ∀ s ∈ w.subs, ∀ f ∈ s.faces, f.addrs.length ≤ 1000000000) : PSpec Tryz.prog 39 [.agg (encV v), .agg (encV w)] (.v (.bool (decide (v = w)))) := by
  obtain ⟨R, hR⟩ : ∃ R, R = decide (v = w) := ⟨_, rfl⟩
  rw [← hR]
  replace hR := Lib.hid hR
  have hno : v ≠ w → R = false := fun h => by rw [hR.out]; exact decide_eq_false h
  replace hno := Lib.hid hno
  replace hv3 := Lib.hid hv3
  replace hw3 := Lib.hid hw3
  by_cases c1 : v.id = w.id ∧ v.ranges.length = w.ranges.length ∧ v.subs.length = w.subs.length
  · obtain ⟨e1, e2, e3⟩ := c1
    have d1 : (v.id != w.id) = false := by simp [e1]
    have d2 : ((v.ranges.length : Int) != (w.ranges.length : Int)) = false := by simp [e2]
    have d3 : ((v.subs.length : Int) != (w.subs.length : Int)) = false := by simp [e3]
    replace e1 := Lib.hid e1
    replace e2 := Lib.hid e2
    replace e3 := Lib.hid e3
    refine ps_i tab_ok mixed Tryz.func39 rfl Tryz.ntmps39 Tryz.results39 (by kernel_rfl) ?_
    repeat' (first | (with_reducible refine And.intro ?_ ?_) | (with_reducible refine gK_i (fun _ => ?_) (fun _ => ?_)) | (with_reducible refine condS_i (fun _ => ?_) (fun _ => ?_)) | (with_reducible refine drw_i (by kernel_rfl)) | simp -dsimp only [go_sem, seval, *, encV, d1, d2, d3, undef] | ((with_reducible refine opK_c ?_); simp -dsimp only [go_sem, seval, encV, d1, d2, d3, undef]; first | refine callK_r (by first | assumption | fail) (by first | exact .inl rfl | exact .inr rfl) ?_ | (refine callK_i (by assumption) ?_ ?_ ?_; (solve | (repeat (first | exact DLe.refl _ | exact DLe.nil _ | (refine DLe.tup ?_) | (refine DLe.agg ?_ rfl) | exact trivial | (refine And.intro ?_ ?_)))); (solve | exact .inl rfl | exact .inr rfl))) | fail | omega | exact decide_eq_true (by omega) | exact DLe.refl _)
    refine loopL tab_ok mixed v.ranges (fun k => v.ranges.take k = w.ranges.take k) (fun k => [(5, .d (.v (.int .i64 k))), (4, .d (.v (.bool false))), (3, .ptr 1 0), (2, .ptr 0 0)]) (fun _ => [.box 56 ((encV v).map .d), .box 56 ((encV w).map .d)]) rfl (weak_forget _ (by simp) (by (try simp only [encV]); rfl) (by (repeat' (first | exact trivial | (refine ⟨rfl, ?_⟩)))) (by first | rfl | simp only [belowH, belowE, belowC, belowL, belowR, belowP, belowL_d, belowR_d, List.length_cons, List.length_nil, Nat.reduceAdd, Nat.reduceLT, decide_true, Bool.and_self, Bool.and_true]) (by first | rfl | simp only [belowH, belowE, belowC, belowL, belowR, belowP, belowL_d, belowR_d, List.length_cons, List.length_nil, Nat.reduceAdd, Nat.reduceLT, decide_true, Bool.and_self, Bool.and_true])) ?_ ?_
    · intro k x hx hk hI C hC
      have hkI : (k : Int) < (v.ranges.length : Int) := by omega
      have hwr : IntKind.i64.wrap ((k : Int) + 1) = ((k + 1 : Nat) : Int) := by rw [IntKind.wrap_i64]; omega
      obtain ⟨y, hy⟩ : ∃ y, w.ranges[k]? = some y := ⟨_, List.getElem?_eq_getElem (by rw [← e2.out]; exact hk)⟩
      replace hI := Lib.hid hI
      have he := eqG_list x y
      by_cases h1 : x = y
      · have hI2 := Lib.hid (pre_snoc hx hy hI.out h1)
        rw [decide_eq_true h1] at he
        replace h1 := Lib.hid h1
        repeat' (first | (with_reducible refine And.intro ?_ ?_) | (with_reducible refine gK_i (fun _ => ?_) (fun _ => ?_)) | (with_reducible refine condS_i (fun _ => ?_) (fun _ => ?_)) | (with_reducible refine drw_i (by kernel_rfl)) | simp -dsimp only [go_sem, seval, *, encV, encG, hkI, hwr, hx, hy, he, bne, undef] | ((with_reducible refine opK_c ?_); simp -dsimp only [go_sem, seval, encV, encG, hkI, hwr, hx, hy, he, bne, undef]; first | refine callK_r (by first | assumption | fail) (by first | exact .inl rfl | exact .inr rfl) ?_ | (refine callK_i (by assumption) ?_ ?_ ?_; (solve | (repeat (first | exact DLe.refl _ | exact DLe.nil _ | (refine DLe.tup ?_) | (refine DLe.agg ?_ rfl) | exact trivial | (refine And.intro ?_ ?_)))); (solve | exact .inl rfl | exact .inr rfl))) | fail | omega | exact decide_eq_true (by omega) | exact DLe.refl _)
        exact hC _ _ hI2.out (weak_forget _ (by simp) (by (try simp only [encV]); rfl) (by (repeat' (first | exact trivial | (refine ⟨rfl, ?_⟩)))) (by first | rfl | simp only [belowH, belowE, belowC, belowL, belowR, belowP, belowL_d, belowR_d, List.length_cons, List.length_nil, Nat.reduceAdd, Nat.reduceLT, decide_true, Bool.and_self, Bool.and_true]) (by first | rfl | simp only [belowH, belowE, belowC, belowL, belowR, belowP, belowL_d, belowR_d, List.length_cons, List.length_nil, Nat.reduceAdd, Nat.reduceLT, decide_true, Bool.and_self, Bool.and_true]))
      · have hb : R = false := hno.out (fun e => h1 (by subst e; rw [hx] at hy; exact Option.some.inj hy))
        rw [decide_eq_false h1] at he
        rw [hb]
        replace hb := Lib.hid hb
        replace h1 := Lib.hid h1
        repeat' (first | (with_reducible refine And.intro ?_ ?_) | (with_reducible refine gK_i (fun _ => ?_) (fun _ => ?_)) | (with_reducible refine condS_i (fun _ => ?_) (fun _ => ?_)) | (with_reducible refine drw_i (by kernel_rfl)) | simp -dsimp only [go_sem, seval, *, encV, encG, hkI, hwr, hx, hy, he, bne, undef] | ((with_reducible refine opK_c ?_); simp -dsimp only [go_sem, seval, encV, encG, hkI, hwr, hx, hy, he, bne, undef]; first | refine callK_r (by first | assumption | fail) (by first | exact .inl rfl | exact .inr rfl) ?_ | (refine callK_i (by assumption) ?_ ?_ ?_; (solve | (repeat (first | exact DLe.refl _ | exact DLe.nil _ | (refine DLe.tup ?_) | (refine DLe.agg ?_ rfl) | exact trivial | (refine And.intro ?_ ?_)))); (solve | exact .inl rfl | exact .inr rfl))) | fail | omega | exact decide_eq_true (by omega) | exact DLe.refl _)
        all_goals exact DLe.refl _
    · intro hI C
      have hrr := Lib.hid (pre_full e2.out hI)
      replace hI := Lib.hid hI
      repeat' (first | (with_reducible refine And.intro ?_ ?_) | (with_reducible refine gK_i (fun _ => ?_) (fun _ => ?_)) | (with_reducible refine condS_i (fun _ => ?_) (fun _ => ?_)) | (with_reducible refine drw_i (by kernel_rfl)) | simp -dsimp only [go_sem, seval, *, encV, Int.lt_irrefl, undef] | ((with_reducible refine opK_c ?_); simp -dsimp only [go_sem, seval, encV, Int.lt_irrefl, undef]; first | refine callK_r (by first | assumption | fail) (by first | exact .inl rfl | exact .inr rfl) ?_ | (refine callK_i (by assumption) ?_ ?_ ?_; (solve | (repeat (first | exact DLe.refl _ | exact DLe.nil _ | (refine DLe.tup ?_) | (refine DLe.agg ?_ rfl) | exact trivial | (refine And.intro ?_ ?_)))); (solve | exact .inl rfl | exact .inr rfl))) | fail | omega | exact decide_eq_true (by omega) | exact DLe.refl _)
      clear hI
      refine loopL tab_ok mixed v.subs (fun k => v.subs.take k = w.subs.take k) (fun k => [(6, .d (.v (.int .i64 k))), (4, .d (.v (.bool false))), (3, .ptr 1 0), (2, .ptr 0 0)]) (fun _ => [.box 56 ((encV v).map .d), .box 56 ((encV w).map .d)]) rfl (weak_forget _ (by simp) (by (try simp only [encV]); rfl) (by (repeat' (first | exact trivial | (refine ⟨rfl, ?_⟩)))) (by first | rfl | simp only [belowH, belowE, belowC, belowL, belowR, belowP, belowL_d, belowR_d, List.length_cons, List.length_nil, Nat.reduceAdd, Nat.reduceLT, decide_true, Bool.and_self, Bool.and_true]) (by first | rfl | simp only [belowH, belowE, belowC, belowL, belowR, belowP, belowL_d, belowR_d, List.length_cons, List.length_nil, Nat.reduceAdd, Nat.reduceLT, decide_true, Bool.and_self, Bool.and_true])) ?_ ?_
      · intro k x hx hk hI C hC
        have hkI : (k : Int) < (v.subs.length : Int) := by omega
        have hwr : IntKind.i64.wrap ((k : Int) + 1) = ((k + 1 : Nat) : Int) := by rw [IntKind.wrap_i64]; omega
        obtain ⟨y, hy⟩ : ∃ y, w.subs[k]? = some y := ⟨_, List.getElem?_eq_getElem (by rw [← e3.out]; exact hk)⟩
        have hxl := hv3.out x (List.mem_of_getElem? hx)
        have hyl := hw3.out y (List.mem_of_getElem? hy)
        have hxl1 := hxl.1
        have hxl2 := Lib.hid hxl.2
        clear hxl
        replace hyl := Lib.hid hyl
        have hbad : x ≠ y → R = false := fun h => hno.out (fun e => h (by subst e; rw [hx] at hy; exact Option.some.inj hy))
        replace hbad := Lib.hid hbad
        replace hI := Lib.hid hI
        have he := eqP_list x.at_ y.at_
        by_cases c2 : x.id = y.id ∧ x.at_ = y.at_ ∧ x.faces.length = y.faces.length
        · obtain ⟨f1, f2, f3⟩ := c2
          have g1 : (x.id == y.id) = true := by simp [f1]
          have g3 : ((x.faces.length : Int) == (y.faces.length : Int)) = true := by simp [f3]
          rw [decide_eq_true f2] at he
          replace f1 := Lib.hid f1
          replace f2 := Lib.hid f2
          replace f3 := Lib.hid f3
          repeat' (first | (with_reducible refine And.intro ?_ ?_) | (with_reducible refine gK_i (fun _ => ?_) (fun _ => ?_)) | (with_reducible refine condS_i (fun _ => ?_) (fun _ => ?_)) | (with_reducible refine drw_i (by kernel_rfl)) | simp -dsimp only [go_sem, seval, *, encV, encN, hkI, hx, hy, he, g1, g3, bne, undef] | ((with_reducible refine opK_c ?_); simp -dsimp only [go_sem, seval, encV, encN, hkI, hx, hy, he, g1, g3, bne, undef]; first | refine callK_r (by first | assumption | fail) (by first | exact .inl rfl | exact .inr rfl) ?_ | (refine callK_i (by assumption) ?_ ?_ ?_; (solve | (repeat (first | exact DLe.refl _ | exact DLe.nil _ | (refine DLe.tup ?_) | (refine DLe.agg ?_ rfl) | exact trivial | (refine And.intro ?_ ?_)))); (solve | exact .inl rfl | exact .inr rfl))) | fail | omega | exact decide_eq_true (by omega) | exact DLe.refl _)
          refine loopL tab_ok mixed x.faces (fun j => x.faces.take j = y.faces.take j) (fun j => [(9, .d (.v (.int .i64 j))), (8, .ptr 3 0), (7, .ptr 2 0), (6, .d (.v (.int .i64 k))), (4, .d (.v (.bool false))), (3, .ptr 1 0), (2, .ptr 0 0)]) (fun _ => [.box 56 ((encV v).map .d), .box 56 ((encV w).map .d), .box 86 ((encN x).map .d), .box 86 ((encN y).map .d)]) rfl (weak_forget _ (by simp) (by (try simp only [encV, encN]); rfl) (by (repeat' (first | exact trivial | (refine ⟨rfl, ?_⟩)))) (by first | rfl | simp only [belowH, belowE, belowC, belowL, belowR, belowP, belowL_d, belowR_d, List.length_cons, List.length_nil, Nat.reduceAdd, Nat.reduceLT, decide_true, Bool.and_self, Bool.and_true]) (by first | rfl | simp only [belowH, belowE, belowC, belowL, belowR, belowP, belowL_d, belowR_d, List.length_cons, List.length_nil, Nat.reduceAdd, Nat.reduceLT, decide_true, Bool.and_self, Bool.and_true])) ?_ ?_
          · intro j f hf hj hJ C2 hC2
            have hjI : (j : Int) < (x.faces.length : Int) := by omega
            have hwj : IntKind.i64.wrap ((j : Int) + 1) = ((j + 1 : Nat) : Int) := by rw [IntKind.wrap_i64]; omega
            obtain ⟨g, hg⟩ : ∃ g, y.faces[j]? = some g := ⟨_, List.getElem?_eq_getElem (by rw [← f3.out]; exact hj)⟩
            have hsi := sameInts_p f.addrs g.addrs (hxl2.out f (List.mem_of_getElem? hf)) (hyl.out g (List.mem_of_getElem? hg))
            have hbf : f ≠ g → R = false := fun h => hbad.out (fun e => h (by subst e; rw [hf] at hg; exact Option.some.inj hg))
            replace hbf := Lib.hid hbf
            replace hJ := Lib.hid hJ
            by_cases i1 : f.id = g.id
            · have n1 : (f.id == g.id) = true := by simp [i1]
              by_cases i2 : f.addrs = g.addrs
              · rw [decide_eq_true i2] at hsi
                have hfg : f = g := by cases f; cases g; simp at i1 i2; rw [i1, i2]
                have hJ2 := Lib.hid (pre_snoc hf hg hJ.out hfg)
                replace hfg := Lib.hid hfg
                replace i1 := Lib.hid i1
                replace i2 := Lib.hid i2
                repeat' (first | (with_reducible refine And.intro ?_ ?_) | (with_reducible refine gK_i (fun _ => ?_) (fun _ => ?_)) | (with_reducible refine condS_i (fun _ => ?_) (fun _ => ?_)) | (with_reducible refine drw_i (by kernel_rfl)) | simp -dsimp only [go_sem, seval, *, encV, encN, encF, hjI, hwj, hf, hg, n1, bne, undef] | ((with_reducible refine opK_c ?_); simp -dsimp only [go_sem, seval, encV, encN, encF, hjI, hwj, hf, hg, n1, bne, undef]; first | refine callK_r (by first | assumption | exact hsi) (by first | exact .inl rfl | exact .inr rfl) ?_ | (refine callK_i (by assumption) ?_ ?_ ?_; (solve | (repeat (first | exact DLe.refl _ | exact DLe.nil _ | (refine DLe.tup ?_) | (refine DLe.agg ?_ rfl) | exact trivial | (refine And.intro ?_ ?_)))); (solve | exact .inl rfl | exact .inr rfl))) | fail | omega | exact decide_eq_true (by omega) | exact DLe.refl _)
                exact hC2 _ _ hJ2.out (weak_forget _ (by simp) (by (try simp only [encV, encN]); rfl) (by (repeat' (first | exact trivial | (refine ⟨rfl, ?_⟩)))) (by first | rfl | simp only [belowH, belowE, belowC, belowL, belowR, belowP, belowL_d, belowR_d, List.length_cons, List.length_nil, Nat.reduceAdd, Nat.reduceLT, decide_true, Bool.and_self, Bool.and_true]) (by first | rfl | simp only [belowH, belowE, belowC, belowL, belowR, belowP, belowL_d, belowR_d, List.length_cons, List.length_nil, Nat.reduceAdd, Nat.reduceLT, decide_true, Bool.and_self, Bool.and_true]))
              · rw [decide_eq_false i2] at hsi
                have hb : R = false := hbf.out (fun e => i2 (by rw [e]))
                rw [hb]
                replace hb := Lib.hid hb
                replace i1 := Lib.hid i1
                replace i2 := Lib.hid i2
                repeat' (first | (with_reducible refine And.intro ?_ ?_) | (with_reducible refine gK_i (fun _ => ?_) (fun _ => ?_)) | (with_reducible refine condS_i (fun _ => ?_) (fun _ => ?_)) | (with_reducible refine drw_i (by kernel_rfl)) | simp -dsimp only [go_sem, seval, *, encV, encN, encF, hjI, hwj, hf, hg, n1, bne, undef] | ((with_reducible refine opK_c ?_); simp -dsimp only [go_sem, seval, encV, encN, encF, hjI, hwj, hf, hg, n1, bne, undef]; first | refine callK_r (by first | assumption | exact hsi) (by first | exact .inl rfl | exact .inr rfl) ?_ | (refine callK_i (by assumption) ?_ ?_ ?_; (solve | (repeat (first | exact DLe.refl _ | exact DLe.nil _ | (refine DLe.tup ?_) | (refine DLe.agg ?_ rfl) | exact trivial | (refine And.intro ?_ ?_)))); (solve | exact .inl rfl | exact .inr rfl))) | fail | omega | exact decide_eq_true (by omega) | exact DLe.refl _)
                all_goals exact DLe.refl _
            · have n1 : (f.id == g.id) = false := by simpa using i1
              have hb : R = false := hbf.out (fun e => i1 (by rw [e]))
              rw [hb]
              replace hb := Lib.hid hb
              replace i1 := Lib.hid i1
              repeat' (first | (with_reducible refine And.intro ?_ ?_) | (with_reducible refine gK_i (fun _ => ?_) (fun _ => ?_)) | (with_reducible refine condS_i (fun _ => ?_) (fun _ => ?_)) | (with_reducible refine drw_i (by kernel_rfl)) | simp -dsimp only [go_sem, seval, *, encV, encN, encF, hjI, hwj, hf, hg, n1, bne, undef] | ((with_reducible refine opK_c ?_); simp -dsimp only [go_sem, seval, encV, encN, encF, hjI, hwj, hf, hg, n1, bne, undef]; first | refine callK_r (by first | assumption | exact hsi) (by first | exact .inl rfl | exact .inr rfl) ?_ | (refine callK_i (by assumption) ?_ ?_ ?_; (solve | (repeat (first | exact DLe.refl _ | exact DLe.nil _ | (refine DLe.tup ?_) | (refine DLe.agg ?_ rfl) | exact trivial | (refine And.intro ?_ ?_)))); (solve | exact .inl rfl | exact .inr rfl))) | fail | omega | exact decide_eq_true (by omega) | exact DLe.refl _)
              all_goals exact DLe.refl _
          · intro hJ C2
            have hff := pre_full f3.out hJ
            have hxy : x = y := by
              have h1 := f1.out; have h2 := f2.out
              cases x; cases y; simp at h1 h2 hff; rw [h1, h2, hff]
            have hI2 := Lib.hid (pre_snoc hx hy hI.out hxy)
            replace hJ := Lib.hid hJ
            replace hff := Lib.hid hff
            replace hxy := Lib.hid hxy
            repeat' (first | (with_reducible refine And.intro ?_ ?_) | (with_reducible refine gK_i (fun _ => ?_) (fun _ => ?_)) | (with_reducible refine condS_i (fun _ => ?_) (fun _ => ?_)) | (with_reducible refine drw_i (by kernel_rfl)) | simp -dsimp only [go_sem, seval, *, encV, encN, hwr, Int.lt_irrefl, undef] | ((with_reducible refine opK_c ?_); simp -dsimp only [go_sem, seval, encV, encN, hwr, Int.lt_irrefl, undef]; first | refine callK_r (by first | assumption | fail) (by first | exact .inl rfl | exact .inr rfl) ?_ | (refine callK_i (by assumption) ?_ ?_ ?_; (solve | (repeat (first | exact DLe.refl _ | exact DLe.nil _ | (refine DLe.tup ?_) | (refine DLe.agg ?_ rfl) | exact trivial | (refine And.intro ?_ ?_)))); (solve | exact .inl rfl | exact .inr rfl))) | fail | omega | exact decide_eq_true (by omega) | exact DLe.refl _)
            exact hC _ _ hI2.out (weak_forget _ (by simp) (by (try simp only [encV]); rfl) (by (repeat' (first | exact trivial | (refine ⟨rfl, ?_⟩)))) (by first | rfl | simp only [belowH, belowE, belowC, belowL, belowR, belowP, belowL_d, belowR_d, List.length_cons, List.length_nil, Nat.reduceAdd, Nat.reduceLT, decide_true, Bool.and_self, Bool.and_true]) (by first | rfl | simp only [belowH, belowE, belowC, belowL, belowR, belowP, belowL_d, belowR_d, List.length_cons, List.length_nil, Nat.reduceAdd, Nat.reduceLT, decide_true, Bool.and_self, Bool.and_true]))
        · have hb : R = false := hbad.out (fun e => c2 ⟨by rw [e], by rw [e], by rw [e]⟩)
          rw [hb]
          replace hb := Lib.hid hb
          rw [Decidable.not_and_iff_or_not, Decidable.not_and_iff_or_not] at c2
          rcases c2 with c2 | c2 | c2
          · have g1 : (x.id == y.id) = false := by simpa using c2
            replace c2 := Lib.hid c2
            repeat' (first | (with_reducible refine And.intro ?_ ?_) | (with_reducible refine gK_i (fun _ => ?_) (fun _ => ?_)) | (with_reducible refine condS_i (fun _ => ?_) (fun _ => ?_)) | (with_reducible refine drw_i (by kernel_rfl)) | simp -dsimp only [go_sem, seval, *, encV, encN, hkI, hx, hy, g1, bne, undef] | ((with_reducible refine opK_c ?_); simp -dsimp only [go_sem, seval, encV, encN, hkI, hx, hy, g1, bne, undef]; first | refine callK_r (by first | assumption | fail) (by first | exact .inl rfl | exact .inr rfl) ?_ | (refine callK_i (by assumption) ?_ ?_ ?_; (solve | (repeat (first | exact DLe.refl _ | exact DLe.nil _ | (refine DLe.tup ?_) | (refine DLe.agg ?_ rfl) | exact trivial | (refine And.intro ?_ ?_)))); (solve | exact .inl rfl | exact .inr rfl))) | fail | omega | exact decide_eq_true (by omega) | exact DLe.refl _)
            all_goals exact DLe.refl _
          · rw [decide_eq_false c2] at he
            replace c2 := Lib.hid c2
            repeat' (first | (with_reducible refine And.intro ?_ ?_) | (with_reducible refine gK_i (fun _ => ?_) (fun _ => ?_)) | (with_reducible refine condS_i (fun _ => ?_) (fun _ => ?_)) | (with_reducible refine drw_i (by kernel_rfl)) | simp -dsimp only [go_sem, seval, *, encV, encN, hkI, hx, hy, he, bne, undef] | ((with_reducible refine opK_c ?_); simp -dsimp only [go_sem, seval, encV, encN, hkI, hx, hy, he, bne, undef]; first | refine callK_r (by first | assumption | fail) (by first | exact .inl rfl | exact .inr rfl) ?_ | (refine callK_i (by assumption) ?_ ?_ ?_; (solve | (repeat (first | exact DLe.refl _ | exact DLe.nil _ | (refine DLe.tup ?_) | (refine DLe.agg ?_ rfl) | exact trivial | (refine And.intro ?_ ?_)))); (solve | exact .inl rfl | exact .inr rfl))) | fail | omega | exact decide_eq_true (by omega) | exact DLe.refl _)
            all_goals exact DLe.refl _
          · have g3 : ((x.faces.length : Int) == (y.faces.length : Int)) = false := by simp; omega
            replace c2 := Lib.hid c2
            cases hd : decide (x.at_ = y.at_)
            all_goals
              rw [hd] at he
              replace hd := Lib.hid hd
              repeat' (first | (with_reducible refine And.intro ?_ ?_) | (with_reducible refine gK_i (fun _ => ?_) (fun _ => ?_)) | (with_reducible refine condS_i (fun _ => ?_) (fun _ => ?_)) | (with_reducible refine drw_i (by kernel_rfl)) | simp -dsimp only [go_sem, seval, *, encV, encN, hkI, hx, hy, he, g3, bne, undef] | ((with_reducible refine opK_c ?_); simp -dsimp only [go_sem, seval, encV, encN, hkI, hx, hy, he, g3, bne, undef]; first | refine callK_r (by first | assumption | fail) (by first | exact .inl rfl | exact .inr rfl) ?_ | (refine callK_i (by assumption) ?_ ?_ ?_; (solve | (repeat (first | exact DLe.refl _ | exact DLe.nil _ | (refine DLe.tup ?_) | (refine DLe.agg ?_ rfl) | exact trivial | (refine And.intro ?_ ?_)))); (solve | exact .inl rfl | exact .inr rfl))) | fail | omega | exact decide_eq_true (by omega) | exact DLe.refl _)
              all_goals exact DLe.refl _
      · intro hI C
        have hss := pre_full e3.out hI
        have hb : R = true := by
          rw [hR.out, decide_eq_true_eq]
          have h1 := e1.out; have h2 := hrr.out
          cases v; cases w; simp at h1 h2 hss; rw [h1, h2, hss]
        rw [hb]
        replace hb := Lib.hid hb
        replace hI := Lib.hid hI
        replace hss := Lib.hid hss
        repeat' (first | (with_reducible refine And.intro ?_ ?_) | (with_reducible refine gK_i (fun _ => ?_) (fun _ => ?_)) | (with_reducible refine condS_i (fun _ => ?_) (fun _ => ?_)) | (with_reducible refine drw_i (by kernel_rfl)) | simp -dsimp only [go_sem, seval, *, encV, Int.lt_irrefl, undef] | ((with_reducible refine opK_c ?_); simp -dsimp only [go_sem, seval, encV, Int.lt_irrefl, undef]; first | refine callK_r (by first | assumption | fail) (by first | exact .inl rfl | exact .inr rfl) ?_ | (refine callK_i (by assumption) ?_ ?_ ?_; (solve | (repeat (first | exact DLe.refl _ | exact DLe.nil _ | (refine DLe.tup ?_) | (refine DLe.agg ?_ rfl) | exact trivial | (refine And.intro ?_ ?_)))); (solve | exact .inl rfl | exact .inr rfl))) | fail | omega | exact decide_eq_true (by omega) | exact DLe.refl _)
        all_goals exact DLe.refl _
  · have hb : R = false := hno.out (fun e => c1 ⟨by rw [e], by rw [e], by rw [e]⟩)
    rw [hb]
    replace hb := Lib.hid hb
    rw [Decidable.not_and_iff_or_not, Decidable.not_and_iff_or_not] at c1
    rcases c1 with c1 | c1 | c1
    · have g1 : (v.id == w.id) = false := by simpa using c1
      replace c1 := Lib.hid c1
      refine ps_i tab_ok mixed Tryz.func39 rfl Tryz.ntmps39 Tryz.results39 (by kernel_rfl) ?_
      repeat' (first | (with_reducible refine And.intro ?_ ?_) | (with_reducible refine gK_i (fun _ => ?_) (fun _ => ?_)) | (with_reducible refine condS_i (fun _ => ?_) (fun _ => ?_)) | (with_reducible refine drw_i (by kernel_rfl)) | simp -dsimp only [go_sem, seval, *, encV, g1, bne, undef] | ((with_reducible refine opK_c ?_); simp -dsimp only [go_sem, seval, encV, g1, bne, undef]; first | refine callK_r (by first | assumption | fail) (by first | exact .inl rfl | exact .inr rfl) ?_ | (refine callK_i (by assumption) ?_ ?_ ?_; (solve | (repeat (first | exact DLe.refl _ | exact DLe.nil _ | (refine DLe.tup ?_) | (refine DLe.agg ?_ rfl) | exact trivial | (refine And.intro ?_ ?_)))); (solve | exact .inl rfl | exact .inr rfl))) | fail | omega | exact decide_eq_true (by omega) | exact DLe.refl _)
      all_goals exact DLe.refl _
    · have g1 : ((v.ranges.length : Int) == (w.ranges.length : Int)) = false := by simp; omega
      replace c1 := Lib.hid c1
      refine ps_i tab_ok mixed Tryz.func39 rfl Tryz.ntmps39 Tryz.results39 (by kernel_rfl) ?_
      repeat' (first | (with_reducible refine And.intro ?_ ?_) | (with_reducible refine gK_i (fun _ => ?_) (fun _ => ?_)) | (with_reducible refine condS_i (fun _ => ?_) (fun _ => ?_)) | (with_reducible refine drw_i (by kernel_rfl)) | simp -dsimp only [go_sem, seval, *, encV, g1, bne, undef] | ((with_reducible refine opK_c ?_); simp -dsimp only [go_sem, seval, encV, g1, bne, undef]; first | refine callK_r (by first | assumption | fail) (by first | exact .inl rfl | exact .inr rfl) ?_ | (refine callK_i (by assumption) ?_ ?_ ?_; (solve | (repeat (first | exact DLe.refl _ | exact DLe.nil _ | (refine DLe.tup ?_) | (refine DLe.agg ?_ rfl) | exact trivial | (refine And.intro ?_ ?_)))); (solve | exact .inl rfl | exact .inr rfl))) | fail | omega | exact decide_eq_true (by omega) | exact DLe.refl _)
      all_goals exact DLe.refl _
    · have g1 : ((v.subs.length : Int) == (w.subs.length : Int)) = false := by simp; omega
      replace c1 := Lib.hid c1
      refine ps_i tab_ok mixed Tryz.func39 rfl Tryz.ntmps39 Tryz.results39 (by kernel_rfl) ?_
      repeat' (first | (with_reducible refine And.intro ?_ ?_) | (with_reducible refine gK_i (fun _ => ?_) (fun _ => ?_)) | (with_reducible refine condS_i (fun _ => ?_) (fun _ => ?_)) | (with_reducible refine drw_i (by kernel_rfl)) | simp -dsimp only [go_sem, seval, *, encV, g1, bne, undef] | ((with_reducible refine opK_c ?_); simp -dsimp only [go_sem, seval, encV, g1, bne, undef]; first | refine callK_r (by first | assumption | fail) (by first | exact .inl rfl | exact .inr rfl) ?_ | (refine callK_i (by assumption) ?_ ?_ ?_; (solve | (repeat (first | exact DLe.refl _ | exact DLe.nil _ | (refine DLe.tup ?_) | (refine DLe.agg ?_ rfl) | exact trivial | (refine And.intro ?_ ?_)))); (solve | exact .inl rfl | exact .inr rfl))) | fail | omega | exact decide_eq_true (by omega) | exact DLe.refl _)
      all_goals exact DLe.refl _
end Go.Proofs.YtgmbhaclogabeaaGreat
namespace Go.Proofs.YtgmbhaclogabeaaGreat
open Go Go.RowKit
def SmallSb (s : Sbn) : Prop := s.faces.length ≤ 1000000000 ∧ ∀ f ∈ s.faces, f.addrs.length ≤ 1000000000
def SmallVp (v : Vpc) : Prop := v.ranges.length ≤ 1000000000 ∧ v.subs.length ≤ 1000000000 ∧ ∀ s ∈ v.subs, SmallSb s
def SmallN (n : Net) : Prop := n.vpcs.length ≤ 1000000000 ∧ n.links.length ≤ 1000000000 ∧ ∀ v ∈ n.vpcs, SmallVp v
set_option maxHeartbeats 1000000 in
theorem sameNets_p (n : Net) (h : SmallN n) : PSpec Tryz.prog 17 [.agg (encT n), .agg (encT n)] (.v (.bool true)) := by
  obtain ⟨h1, h2, h3⟩ := h
  replace h3 := Lib.hid h3
  refine ps_i tab_ok mixed Tryz.func17 rfl Tryz.ntmps17 Tryz.results17 (by kernel_rfl) ?_
  repeat' (first | (with_reducible refine And.intro ?_ ?_) | (with_reducible refine gK_i (fun _ => ?_) (fun _ => ?_)) | (with_reducible refine condS_i (fun _ => ?_) (fun _ => ?_)) | (with_reducible refine drw_i (by kernel_rfl)) | simp -dsimp only [go_sem, seval, *, encT, bne_self_eq_false, undef] | ((with_reducible refine opK_c ?_); simp -dsimp only [go_sem, seval, encT, bne_self_eq_false, undef]; first | refine callK_r (by first | assumption | fail) (by first | exact .inl rfl | exact .inr rfl) ?_ | (refine callK_i (by assumption) ?_ ?_ ?_; (solve | (repeat (first | exact DLe.refl _ | exact DLe.nil _ | (refine DLe.tup ?_) | (refine DLe.agg ?_ rfl) | exact trivial | (refine And.intro ?_ ?_)))); (solve | exact .inl rfl | exact .inr rfl))) | fail | omega | exact decide_eq_true (by omega) | exact DLe.refl _)
  refine loopL tab_ok mixed n.vpcs (fun _ => True) (fun k => [(5, .d (.v (.int .i64 k))), (4, .d (.v (.bool false))), (3, .ptr 1 0), (2, .ptr 0 0)]) (fun _ => [.box 25 ((encT n).map .d), .box 25 ((encT n).map .d)]) trivial (weak_forget _ (by simp) (by (try simp only [encT]); rfl) (by (repeat' (first | exact trivial | (refine ⟨rfl, ?_⟩)))) (by first | rfl | simp only [belowH, belowE, belowC, belowL, belowR, belowP, belowL_d, belowR_d, List.length_cons, List.length_nil, Nat.reduceAdd, Nat.reduceLT, decide_true, Bool.and_self, Bool.and_true]) (by first | rfl | simp only [belowH, belowE, belowC, belowL, belowR, belowP, belowL_d, belowR_d, List.length_cons, List.length_nil, Nat.reduceAdd, Nat.reduceLT, decide_true, Bool.and_self, Bool.and_true])) ?_ ?_
  · intro k v hv hk _ C hC
    have hkI : (k : Int) < (n.vpcs.length : Int) := by omega
    have hwr : IntKind.i64.wrap ((k : Int) + 1) = ((k + 1 : Nat) : Int) := by rw [IntKind.wrap_i64]; omega
    have hs := h3.out v (List.mem_of_getElem? hv)
    have hsm := sameVpcs_p v v hs.1 hs.2.1 (fun s hsm => hs.2.2 s hsm) (fun s hsm => (hs.2.2 s hsm).2)
    rw [decide_eq_true rfl] at hsm
    clear hs
    repeat' (first | (with_reducible refine And.intro ?_ ?_) | (with_reducible refine gK_i (fun _ => ?_) (fun _ => ?_)) | (with_reducible refine condS_i (fun _ => ?_) (fun _ => ?_)) | (with_reducible refine drw_i (by kernel_rfl)) | simp -dsimp only [go_sem, seval, *, encT, encV, hkI, hwr, hv, undef] | ((with_reducible refine opK_c ?_); simp -dsimp only [go_sem, seval, encT, encV, hkI, hwr, hv, undef]; first | refine callK_r (by first | assumption | exact hsm) (by first | exact .inl rfl | exact .inr rfl) ?_ | (refine callK_i (by assumption) ?_ ?_ ?_; (solve | (repeat (first | exact DLe.refl _ | exact DLe.nil _ | (refine DLe.tup ?_) | (refine DLe.agg ?_ rfl) | exact trivial | (refine And.intro ?_ ?_)))); (solve | exact .inl rfl | exact .inr rfl))) | fail | omega | exact decide_eq_true (by omega) | exact DLe.refl _)
    exact hC _ _ trivial (weak_forget _ (by simp) (by (try simp only [encT]); rfl) (by (repeat' (first | exact trivial | (refine ⟨rfl, ?_⟩)))) (by first | rfl | simp only [belowH, belowE, belowC, belowL, belowR, belowP, belowL_d, belowR_d, List.length_cons, List.length_nil, Nat.reduceAdd, Nat.reduceLT, decide_true, Bool.and_self, Bool.and_true]) (by first | rfl | simp only [belowH, belowE, belowC, belowL, belowR, belowP, belowL_d, belowR_d, List.length_cons, List.length_nil, Nat.reduceAdd, Nat.reduceLT, decide_true, Bool.and_self, Bool.and_true]))
  · intro _ C
    repeat' (first | (with_reducible refine And.intro ?_ ?_) | (with_reducible refine gK_i (fun _ => ?_) (fun _ => ?_)) | (with_reducible refine condS_i (fun _ => ?_) (fun _ => ?_)) | (with_reducible refine drw_i (by kernel_rfl)) | simp -dsimp only [go_sem, seval, *, encT, Int.lt_irrefl, undef] | ((with_reducible refine opK_c ?_); simp -dsimp only [go_sem, seval, encT, Int.lt_irrefl, undef]; first | refine callK_r (by first | assumption | fail) (by first | exact .inl rfl | exact .inr rfl) ?_ | (refine callK_i (by assumption) ?_ ?_ ?_; (solve | (repeat (first | exact DLe.refl _ | exact DLe.nil _ | (refine DLe.tup ?_) | (refine DLe.agg ?_ rfl) | exact trivial | (refine And.intro ?_ ?_)))); (solve | exact .inl rfl | exact .inr rfl))) | fail | omega | exact decide_eq_true (by omega) | exact DLe.refl _)
    refine loopL tab_ok mixed n.links (fun _ => True) (fun k => [(6, .d (.v (.int .i64 k))), (4, .d (.v (.bool false))), (3, .ptr 1 0), (2, .ptr 0 0)]) (fun _ => [.box 25 ((encT n).map .d), .box 25 ((encT n).map .d)]) trivial (weak_forget _ (by simp) (by (try simp only [encT]); rfl) (by (repeat' (first | exact trivial | (refine ⟨rfl, ?_⟩)))) (by first | rfl | simp only [belowH, belowE, belowC, belowL, belowR, belowP, belowL_d, belowR_d, List.length_cons, List.length_nil, Nat.reduceAdd, Nat.reduceLT, decide_true, Bool.and_self, Bool.and_true]) (by first | rfl | simp only [belowH, belowE, belowC, belowL, belowR, belowP, belowL_d, belowR_d, List.length_cons, List.length_nil, Nat.reduceAdd, Nat.reduceLT, decide_true, Bool.and_self, Bool.and_true])) ?_ ?_
    · intro k l hl hk _ C hC
      have hkI : (k : Int) < (n.links.length : Int) := by omega
      have hwr : IntKind.i64.wrap ((k : Int) + 1) = ((k + 1 : Nat) : Int) := by rw [IntKind.wrap_i64]; omega
      repeat' (first | (with_reducible refine And.intro ?_ ?_) | (with_reducible refine gK_i (fun _ => ?_) (fun _ => ?_)) | (with_reducible refine condS_i (fun _ => ?_) (fun _ => ?_)) | (with_reducible refine drw_i (by kernel_rfl)) | simp -dsimp only [go_sem, seval, *, encT, encK, hkI, hwr, hl, bne_self_eq_false, undef] | ((with_reducible refine opK_c ?_); simp -dsimp only [go_sem, seval, encT, encK, hkI, hwr, hl, bne_self_eq_false, undef]; first | refine callK_r (by first | assumption | fail) (by first | exact .inl rfl | exact .inr rfl) ?_ | (refine callK_i (by assumption) ?_ ?_ ?_; (solve | (repeat (first | exact DLe.refl _ | exact DLe.nil _ | (refine DLe.tup ?_) | (refine DLe.agg ?_ rfl) | exact trivial | (refine And.intro ?_ ?_)))); (solve | exact .inl rfl | exact .inr rfl))) | fail | omega | exact decide_eq_true (by omega) | exact DLe.refl _)
      exact hC _ _ trivial (weak_forget _ (by simp) (by (try simp only [encT]); rfl) (by (repeat' (first | exact trivial | (refine ⟨rfl, ?_⟩)))) (by first | rfl | simp only [belowH, belowE, belowC, belowL, belowR, belowP, belowL_d, belowR_d, List.length_cons, List.length_nil, Nat.reduceAdd, Nat.reduceLT, decide_true, Bool.and_self, Bool.and_true]) (by first | rfl | simp only [belowH, belowE, belowC, belowL, belowR, belowP, belowL_d, belowR_d, List.length_cons, List.length_nil, Nat.reduceAdd, Nat.reduceLT, decide_true, Bool.and_self, Bool.and_true]))
    · intro _ C
      repeat' (first | (with_reducible refine And.intro ?_ ?_) | (with_reducible refine gK_i (fun _ => ?_) (fun _ => ?_)) | (with_reducible refine condS_i (fun _ => ?_) (fun _ => ?_)) | (with_reducible refine drw_i (by kernel_rfl)) | simp -dsimp only [go_sem, seval, *, encT, Int.lt_irrefl, undef] | ((with_reducible refine opK_c ?_); simp -dsimp only [go_sem, seval, encT, Int.lt_irrefl, undef]; first | refine callK_r (by first | assumption | fail) (by first | exact .inl rfl | exact .inr rfl) ?_ | (refine callK_i (by assumption) ?_ ?_ ?_; (solve | (repeat (first | exact DLe.refl _ | exact DLe.nil _ | (refine DLe.tup ?_) | (refine DLe.agg ?_ rfl) | exact trivial | (refine And.intro ?_ ?_)))); (solve | exact .inl rfl | exact .inr rfl))) | fail | omega | exact decide_eq_true (by omega) | exact DLe.refl _)
      all_goals exact DLe.refl _
end Go.Proofs.YtgmbhaclogabeaaGreat
