/- RouteTrue: its statement, for every input, out of its walk. (texts of this work, joined) -/
import Derived.Test.YtinnohljknmolaaZHRouteTrue3
import Derived.Deep.Slices
import Derived.Deep.Fields
import Derived.ChangeSame
import Derived.OpenShut
import Derived.ProofKit
import Derived.Carry
import Derived.ChangeMaps5
import Derived.DataShut
import Derived.Shelf.SlSortCmp.WholeK
import Derived.Test.YtinnohljknmolaaShelf
import Derived.Shelf.SlSortCmp.NoneTotal
import Derived.SizedLaws
import Derived.Test.YtinnohljknmolaaRows
import Derived.WalkKit
import Derived.ShutString
import Derived.ChangeOld
import Derived.Below
set_option linter.unusedSimpArgs false
set_option linter.unusedVariables false
namespace Go.Proofs.Ytinnohljknmolaa
open Go Go.RowKit
def ordK (l m : Lnk) : Int := orI [cmpI l.a m.a, cmpI l.b m.b]
set_option maxRecDepth 100000 in
theorem order_p (l m : Lnk) : PSpec Try.prog 45 [.agg (encK l), .agg (encK m)] (.v (.int .i64 (ordK l m))) := by
  have h1 := compare_p l.a m.a
  have h2 := compare_p l.b m.b
  have h3 := or_p [cmpI l.a m.a, cmpI l.b m.b] (by simp)
  simp only [List.map_cons, List.map_nil, encA] at h3
  unfold ordK
  generalize cmpI l.a m.a = A at *
  generalize cmpI l.b m.b = B at *
  refine ps_i tab_ok mixed Try.func45 rfl Try.ntmps45 Try.results45 (by kernel_rfl) ?_
  repeat' (first | (with_reducible refine And.intro ?_ ?_) | (with_reducible refine gK_i (fun _ => ?_) (fun _ => ?_)) | (with_reducible refine condS_i (fun _ => ?_) (fun _ => ?_)) | (with_reducible refine drw_i (by kernel_rfl)) | simp -dsimp only [go_sem, seval, *, encK, encA, undef] | ((with_reducible refine opK_c ?_); simp -dsimp only [go_sem, seval, encK, encA, undef]; first | refine callK_r (by first | assumption | exact h1 | exact h2 | exact h3) (by first | exact .inl rfl | exact .inr rfl) ?_ | (refine callK_i (by assumption) ?_ ?_ ?_; (solve | (repeat (first | exact DLe.refl _ | exact DLe.nil _ | (refine DLe.tup ?_) | (refine DLe.agg ?_ rfl) | exact trivial | (refine And.intro ?_ ?_)))); (solve | exact .inl rfl | exact .inr rfl))) | fail | omega | exact decide_eq_true (by omega) | exact DLe.refl _)
def lnk (a b : Int) : Lnk := ⟨if b < a then b else a, if a < b then b else a⟩
theorem find1_p (v : Vpc) (id : Int) : PSpec Try.prog 48 [.agg (encV v), .v (.int .i64 id)] (.v (.int .i64 (cmpI v.id id))) := by
  have h1 := compare_p v.id id
  refine ps_i tab_ok mixed Try.func48 rfl Try.ntmps48 Try.results48 (by kernel_rfl) ?_
  repeat' (first | (with_reducible refine And.intro ?_ ?_) | (with_reducible refine gK_i (fun _ => ?_) (fun _ => ?_)) | (with_reducible refine condS_i (fun _ => ?_) (fun _ => ?_)) | (with_reducible refine drw_i (by kernel_rfl)) | simp -dsimp only [go_sem, seval, *, encV] | ((with_reducible refine opK_c ?_); simp -dsimp only [go_sem, seval, encV]; first | refine callK_r (by first | assumption | exact h1) (by first | exact .inl rfl | exact .inr rfl) ?_ | (refine callK_i (by assumption) ?_ ?_ ?_; (solve | (repeat (first | exact DLe.refl _ | exact DLe.nil _ | (refine DLe.tup ?_) | (refine DLe.agg ?_ rfl) | exact trivial | (refine And.intro ?_ ?_)))); (solve | exact .inl rfl | exact .inr rfl))) | fail | omega | exact decide_eq_true (by omega) | exact DLe.refl _)
set_option maxHeartbeats 1000000 in
theorem bsrf_Vpc {α : Type} {enc : α → List D} (henc : ∀ x, (enc x).length = 3) (key : α → Int) (l : List α) (t : Int) (g : Nat) (caps : List D) (hl : l.length ≤ 1000000000) (hs : l.Pairwise fun a b => key a < key b) (hc : ∀ x ∈ l, PSpec Try.prog g (.agg (enc x) :: .v (.int .i64 t) :: caps) (.v (.int .i64 (cmpI (key x) t)))) :
    PSpec Try.prog 47 [.sl 3 (l.map enc), .v (.int .i64 t), .clo g caps] (.tup [.v (.int .i64 (lbN key t l)), .v (.bool (lbB key t l))]) := by
  refine ps_i tab_ok mixed Try.func47 rfl Try.ntmps47 Try.results47 (by kernel_rfl) ?_
  repeat' (first | (with_reducible refine And.intro ?_ ?_) | (with_reducible refine gK_i (fun _ => ?_) (fun _ => ?_)) | (with_reducible refine condS_i (fun _ => ?_) (fun _ => ?_)) | (with_reducible refine drw_i (by kernel_rfl)) | simp -dsimp only [go_sem, seval, *, bne_self_eq_false] | ((with_reducible refine opK_c ?_); simp -dsimp only [go_sem, seval, bne_self_eq_false]; first | refine callK_r (by first | assumption | fail) (by first | exact .inl rfl | exact .inr rfl) ?_ | (refine callK_i (by assumption) ?_ ?_ ?_; (solve | (repeat (first | exact DLe.refl _ | exact DLe.nil _ | (refine DLe.tup ?_) | (refine DLe.agg ?_ rfl) | exact trivial | (refine And.intro ?_ ?_)))); (solve | exact .inl rfl | exact .inr rfl))) | fail | omega | exact decide_eq_true (by omega) | exact DLe.refl _)
  refine loopG tab_ok mixed (fun m e h => ∃ i j : Nat, i ≤ j ∧ j ≤ l.length ∧ (∀ q (hq : q < l.length), q < i → key l[q] < t) ∧ (∀ q (hq : q < l.length), j ≤ q → t ≤ key l[q]) ∧ m = j - i ∧
    e = [(10, .d (.v (.int .i64 j))), (9, .d (.v (.int .i64 i))), (8, .d (.v (.int .i64 l.length))), (7, .d (.v (.bool false))), (6, .d (.v (.int .i64 0))), (2, .d (.clo g caps)), (1, .d (.v (.int .i64 t))), (0, .d (.sl 3 (l.map enc)))] ∧ h = []) _ _ _ ⟨0, l.length, Nat.zero_le _, Nat.le_refl _, fun q hq h => absurd h (Nat.not_lt_zero _), fun q hq h => by omega, rfl, rfl, rfl⟩ ?_ ?_
  · exact weak_forget [] (by simp) rfl ⟨rfl, rfl, rfl, rfl, rfl, rfl, rfl, rfl, trivial⟩ (by first | rfl | simp only [belowH, belowE, belowC, belowL, belowR, belowP, belowL_d, belowR_d, List.length_cons, List.length_nil, Nat.reduceAdd, Nat.reduceLT, decide_true, Bool.and_self, Bool.and_true]) (by first | rfl | simp only [belowH, belowE, belowC, belowL, belowR, belowP, belowL_d, belowR_d, List.length_cons, List.length_nil, Nat.reduceAdd, Nat.reduceLT, decide_true, Bool.and_self, Bool.and_true])
  · rintro m e h ⟨i, j, hij, hj, hlo, hhi, rfl, rfl, rfl⟩ CL hCL
    by_cases hlt : i < j
    · obtain ⟨q, hq⟩ : ∃ q, q = (i + j) / 2 := ⟨_, rfl⟩
      have hql : q < l.length := by omega
      obtain ⟨x, hx⟩ : ∃ x, l[q]? = some x := ⟨_, List.getElem?_eq_getElem hql⟩
      have hxe : l[q] = x := by rw [List.getElem?_eq_getElem hql] at hx; exact Option.some.inj hx
      have hltI : (i : Int) < (j : Int) := by omega
      have hw1 : IntKind.i64.wrap ((i : Int) + (j : Int)) = ((i + j : Nat) : Int) := by rw [IntKind.wrap_i64]; omega
      have hw2 : IntKind.u64.wrap ((i + j : Nat) : Int) = ((i + j : Nat) : Int) := by rw [wrap_u64]; omega
      have hsh : (((i + j : Nat) : Int)).fdiv (2 ^ min 1 64) = (q : Int) := by
        rw [hq, show (min 1 64 : Nat) = 1 from rfl, Int.pow_succ, Int.pow_zero, Int.one_mul, Int.fdiv_eq_ediv_of_nonneg _ (by omega)]
        omega
      have hw3 : IntKind.i64.wrap (q : Int) = (q : Int) := by rw [IntKind.wrap_i64]; omega
      have hw4 : IntKind.i64.wrap ((q : Int) + 1) = ((q + 1 : Nat) : Int) := by rw [IntKind.wrap_i64]; omega
      have hlen := henc x
      have htk : (enc x).take 3 = enc x := List.take_of_length_le (by omega)
      have hcx := hc x (List.mem_of_getElem? hx)
      have hcm := cmpI_neg (key x) t
      have hqd : i ≤ q ∧ q < j := by omega
      replace hq := Lib.hid hq
      by_cases hk : key x < t
      · have hkI : decide (key x < t) = true := by simpa using hk
        repeat' (first | (with_reducible refine And.intro ?_ ?_) | (with_reducible refine gK_i (fun _ => ?_) (fun _ => ?_)) | (with_reducible refine condS_i (fun _ => ?_) (fun _ => ?_)) | (with_reducible refine drw_i (by kernel_rfl)) | simp -dsimp only [go_sem, seval, *, hx, hltI, hw1, hw2, hw3, hw4, hsh, htk, hlen, hcm, hkI, vwL_d, tcL_d] | ((with_reducible refine opK_c ?_); simp -dsimp only [go_sem, seval, hx, hltI, hw1, hw2, hw3, hw4, hsh, htk, hlen, hcm, hkI, vwL_d, tcL_d]; first | refine callK_r (by first | assumption | exact hcx) (by first | exact .inl rfl | exact .inr rfl) ?_ | (refine callK_i (by assumption) ?_ ?_ ?_; (solve | (repeat (first | exact DLe.refl _ | exact DLe.nil _ | (refine DLe.tup ?_) | (refine DLe.agg ?_ rfl) | exact trivial | (refine And.intro ?_ ?_)))); (solve | exact .inl rfl | exact .inr rfl))) | fail | omega | exact decide_eq_true (by omega) | exact DLe.refl _)
        refine hCL _ _ _ _ _ ?_ ⟨q + 1, j, by omega, hj, ?_, hhi, rfl, rfl, rfl⟩ (weak_forget [] (by simp) rfl ⟨rfl, rfl, rfl, rfl, rfl, rfl, rfl, rfl, trivial⟩ (by first | rfl | simp only [belowH, belowE, belowC, belowL, belowR, belowP, belowL_d, belowR_d, List.length_cons, List.length_nil, Nat.reduceAdd, Nat.reduceLT, decide_true, Bool.and_self, Bool.and_true]) (by first | rfl | simp only [belowH, belowE, belowC, belowL, belowR, belowP, belowL_d, belowR_d, List.length_cons, List.length_nil, Nat.reduceAdd, Nat.reduceLT, decide_true, Bool.and_self, Bool.and_true]))
        · omega
        · intro q' hq' hlt'
          rcases Nat.lt_or_ge q' q with h1 | h1
          · have := List.pairwise_iff_getElem.1 hs q' q hq' hql h1
            rw [hxe] at this; omega
          · obtain rfl : q' = q := by omega
            rw [hxe]; exact hk
      · have hkI : decide (key x < t) = false := by simpa using hk
        repeat' (first | (with_reducible refine And.intro ?_ ?_) | (with_reducible refine gK_i (fun _ => ?_) (fun _ => ?_)) | (with_reducible refine condS_i (fun _ => ?_) (fun _ => ?_)) | (with_reducible refine drw_i (by kernel_rfl)) | simp -dsimp only [go_sem, seval, *, hx, hltI, hw1, hw2, hw3, hw4, hsh, htk, hlen, hcm, hkI, vwL_d, tcL_d] | ((with_reducible refine opK_c ?_); simp -dsimp only [go_sem, seval, hx, hltI, hw1, hw2, hw3, hw4, hsh, htk, hlen, hcm, hkI, vwL_d, tcL_d]; first | refine callK_r (by first | assumption | exact hcx) (by first | exact .inl rfl | exact .inr rfl) ?_ | (refine callK_i (by assumption) ?_ ?_ ?_; (solve | (repeat (first | exact DLe.refl _ | exact DLe.nil _ | (refine DLe.tup ?_) | (refine DLe.agg ?_ rfl) | exact trivial | (refine And.intro ?_ ?_)))); (solve | exact .inl rfl | exact .inr rfl))) | fail | omega | exact decide_eq_true (by omega) | exact DLe.refl _)
        refine hCL _ _ _ _ _ ?_ ⟨i, q, by omega, by omega, hlo, ?_, rfl, rfl, rfl⟩ (weak_forget [] (by simp) rfl ⟨rfl, rfl, rfl, rfl, rfl, rfl, rfl, rfl, trivial⟩ (by first | rfl | simp only [belowH, belowE, belowC, belowL, belowR, belowP, belowL_d, belowR_d, List.length_cons, List.length_nil, Nat.reduceAdd, Nat.reduceLT, decide_true, Bool.and_self, Bool.and_true]) (by first | rfl | simp only [belowH, belowE, belowC, belowL, belowR, belowP, belowL_d, belowR_d, List.length_cons, List.length_nil, Nat.reduceAdd, Nat.reduceLT, decide_true, Bool.and_self, Bool.and_true]))
        · omega
        · intro q' hq' hlt'
          rcases Nat.lt_or_ge q q' with h1 | h1
          · have := List.pairwise_iff_getElem.1 hs q q' hql hq' h1
            rw [hxe] at this; omega
          · obtain rfl : q' = q := by omega
            rw [hxe]; omega
    · obtain rfl : i = j := by omega
      have hlb := lbN_eq hj hlo hhi
      have hlbB : lbB key t l = match l[i]? with | some x => key x == t | none => false := by unfold lbB; rw [hlb]; all_goals (cases l[i]? <;> rfl)
      replace hlb := Lib.hid hlb
      replace hlbB := Lib.hid hlbB
      by_cases hin : i < l.length
      · obtain ⟨x, hx⟩ : ∃ x, l[i]? = some x := ⟨_, List.getElem?_eq_getElem hin⟩
        have hinI : decide ((i : Int) < (l.length : Int)) = true := by simpa using hin
        have hlen := henc x
        have htk : (enc x).take 3 = enc x := List.take_of_length_le (by omega)
        have hcx := hc x (List.mem_of_getElem? hx)
        have hcz := cmpI_zero (key x) t
        repeat' (first | (with_reducible refine And.intro ?_ ?_) | (with_reducible refine gK_i (fun _ => ?_) (fun _ => ?_)) | (with_reducible refine condS_i (fun _ => ?_) (fun _ => ?_)) | (with_reducible refine drw_i (by kernel_rfl)) | simp -dsimp only [go_sem, seval, *, Int.lt_irrefl, hx, hinI, htk, hlen, hcz, vwL_d, tcL_d] | ((with_reducible refine opK_c ?_); simp -dsimp only [go_sem, seval, Int.lt_irrefl, hx, hinI, htk, hlen, hcz, vwL_d, tcL_d]; first | refine callK_r (by first | assumption | exact hcx) (by first | exact .inl rfl | exact .inr rfl) ?_ | (refine callK_i (by assumption) ?_ ?_ ?_; (solve | (repeat (first | exact DLe.refl _ | exact DLe.nil _ | (refine DLe.tup ?_) | (refine DLe.agg ?_ rfl) | exact trivial | (refine And.intro ?_ ?_)))); (solve | exact .inl rfl | exact .inr rfl))) | fail | omega | exact decide_eq_true (by omega) | exact DLe.refl _)
        all_goals rw [hlbB.out, hx, hlb.out]
        all_goals exact DLe.refl _
      · have hinI : decide ((i : Int) < (l.length : Int)) = false := by simpa using hin
        repeat' (first | (with_reducible refine And.intro ?_ ?_) | (with_reducible refine gK_i (fun _ => ?_) (fun _ => ?_)) | (with_reducible refine condS_i (fun _ => ?_) (fun _ => ?_)) | (with_reducible refine drw_i (by kernel_rfl)) | simp -dsimp only [go_sem, seval, *, Int.lt_irrefl, hinI] | ((with_reducible refine opK_c ?_); simp -dsimp only [go_sem, seval, Int.lt_irrefl, hinI]; first | refine callK_r (by first | assumption | fail) (by first | exact .inl rfl | exact .inr rfl) ?_ | (refine callK_i (by assumption) ?_ ?_ ?_; (solve | (repeat (first | exact DLe.refl _ | exact DLe.nil _ | (refine DLe.tup ?_) | (refine DLe.agg ?_ rfl) | exact trivial | (refine And.intro ?_ ?_)))); (solve | exact .inl rfl | exact .inr rfl))) | fail | omega | exact decide_eq_true (by omega) | exact DLe.refl _)
        all_goals rw [hlbB.out, hlb.out, List.getElem?_eq_none (by omega)]
        all_goals exact DLe.refl _
end Go.Proofs.Ytinnohljknmolaa
namespace Go.Proofs.Ytinnohljknmolaa
open Go Go.RowKit
def findN (n : Net) (id : Int) : Option Vpc := n.vpcs.find? fun v => v.id == id
def findND (o : Option Vpc) : D := match o with | some v => .tup [.ept (encV v), .v (.bool true)] | none => .tup [.v (.pointer none), .v (.bool false)]
theorem lb_hit {l : List Vpc} {id : Int} (hs : l.Pairwise fun a b => a.id < b.id) {v : Vpc} (hv : l[lbN (fun v : Vpc => v.id) id l]? = some v) (he : v.id = id) : l.find? (fun v => v.id == id) = some v := by
  rw [List.find?_eq_some_iff_getElem]
  obtain ⟨hlt, hg⟩ := List.getElem?_eq_some_iff.1 hv
  refine ⟨by simpa using he, _, hlt, hg, fun j hj => ?_⟩
  have := List.pairwise_iff_getElem.1 hs j _ (by omega) hlt hj
  rw [hg] at this
  simp
  omega
theorem lb_miss {l : List Vpc} {id : Int} (hs : l.Pairwise fun a b => a.id < b.id) (h : lbB (fun v : Vpc => v.id) id l = false) : l.find? (fun v => v.id == id) = none := by
  rw [List.find?_eq_none]
  intro v hv he
  have he2 : v.id = id := by simpa using he
  obtain ⟨j, hj, rfl⟩ := List.mem_iff_getElem.1 hv
  have h1 : lbN (fun v : Vpc => v.id) id l = j := lbN_eq (by omega) (fun q hq hqj => by
    have := List.pairwise_iff_getElem.1 hs q j hq hj hqj
    show l[q].id < id
    omega) (fun q hq hjq => by
    show id ≤ l[q].id
    rcases Nat.lt_or_ge j q with h | h
    · have := List.pairwise_iff_getElem.1 hs j q hj hq h; omega
    · obtain rfl : q = j := by omega
      omega)
  unfold lbB at h
  rw [h1, List.getElem?_eq_getElem hj] at h
  simp [he2] at h
def findNP (o : Option Vpc) : PV := .d (findND o)
set_option maxRecDepth 100000 in
theorem nfindB_m (n : Net) (id : Int) (hl : n.vpcs.length ≤ 1000000000) (hs : n.vpcs.Pairwise fun a b => a.id < b.id) : MSpec Try.prog 32 [.ptr 0 0, .d (.v (.int .i64 id))] [.box 25 ((encT n).map .d)] (findNP (findN n id)) [.box 25 ((encT n).map .d)] := by
  have hb := bsrf_Vpc encV_len (fun v : Vpc => v.id) n.vpcs id 48 [] hl hs (fun v _ => find1_p v id)
  unfold findN
  cases hB : lbB (fun v : Vpc => v.id) id n.vpcs with
  | false =>
    rw [lb_miss hs hB]
    rw [hB] at hb
    clear hs
    refine ms_i tab_ok mixed Try.func32 rfl Try.ntmps32 Try.results32 (by kernel_rfl) (by simp) (by simp [belowL, belowP]) (by simp [belowH, belowC, belowL, belowP, belowL_d, belowR_d]) ?_
    repeat' (first | (with_reducible refine And.intro ?_ ?_) | (with_reducible refine gK_i (fun _ => ?_) (fun _ => ?_)) | (with_reducible refine condS_i (fun _ => ?_) (fun _ => ?_)) | (with_reducible refine drw_i (by kernel_rfl)) | simp -dsimp only [go_sem, seval, *, encT, undef] | ((with_reducible refine opK_c ?_); simp -dsimp only [go_sem, seval, encT, undef]; first | refine callK_r (by first | assumption | exact hb) (by first | exact .inl rfl | exact .inr rfl) ?_ | (refine callK_i (by assumption) ?_ ?_ ?_; (solve | (repeat (first | exact DLe.refl _ | exact DLe.nil _ | (refine DLe.tup ?_) | (refine DLe.agg ?_ rfl) | exact trivial | (refine And.intro ?_ ?_)))); (solve | exact .inl rfl | exact .inr rfl))) | fail | omega | exact decide_eq_true (by omega) | exact DLe.refl _)
    all_goals exact weak_eq rfl rfl
  | true =>
    obtain ⟨v, hv, he⟩ : ∃ v, n.vpcs[lbN (fun v : Vpc => v.id) id n.vpcs]? = some v ∧ v.id = id := by
      unfold lbB at hB
      cases hq : n.vpcs[lbN (fun v : Vpc => v.id) id n.vpcs]? with
      | none => rw [hq] at hB; cases hB
      | some v => rw [hq] at hB; exact ⟨v, rfl, by simpa using hB⟩
    rw [lb_hit hs hv he]
    rw [hB] at hb
    clear hs
    replace he := Lib.hid he
    have hlt := (List.getElem?_eq_some_iff.1 hv).1
    generalize lbN (fun v : Vpc => v.id) id n.vpcs = k at *
    refine ms_i tab_ok mixed Try.func32 rfl Try.ntmps32 Try.results32 (by kernel_rfl) (by simp) (by simp [belowL, belowP]) (by simp [belowH, belowC, belowL, belowP, belowL_d, belowR_d]) ?_
    repeat' (first | (with_reducible refine And.intro ?_ ?_) | (with_reducible refine gK_i (fun _ => ?_) (fun _ => ?_)) | (with_reducible refine condS_i (fun _ => ?_) (fun _ => ?_)) | (with_reducible refine drw_i (by kernel_rfl)) | simp -dsimp only [go_sem, seval, *, encT, hv, undef] | ((with_reducible refine opK_c ?_); simp -dsimp only [go_sem, seval, encT, hv, undef]; first | refine callK_r (by first | assumption | exact hb) (by first | exact .inl rfl | exact .inr rfl) ?_ | (refine callK_i (by assumption) ?_ ?_ ?_; (solve | (repeat (first | exact DLe.refl _ | exact DLe.nil _ | (refine DLe.tup ?_) | (refine DLe.agg ?_ rfl) | exact trivial | (refine And.intro ?_ ?_)))); (solve | exact .inl rfl | exact .inr rfl))) | fail | omega | exact decide_eq_true (by omega) | exact DLe.refl _)
    all_goals exact weak_eq rfl rfl
end Go.Proofs.Ytinnohljknmolaa
namespace Go.Proofs.Ytinnohljknmolaa
open Go Go.RowKit
theorem head_up {ents : List (List Int × Int)} {a b r : Int} (hb : lkE ents [b] = some b) (hr : r ≠ b) : ∀ {n : Nat} {x : Int}, HeadIs ents n x r → HeadIs (upE ents [b] a) n x r
  | 0, x, h => by
    obtain ⟨h1, rfl⟩ := h
    exact ⟨by rw [lkE_up, if_neg (by simpa using fun e => hr e.symm)]; exact h1, rfl⟩
  | n + 1, x, h => by
    obtain ⟨y, h1, h2, h3⟩ := h
    have hx : b ≠ x := fun e => by subst e; rw [hb] at h1; exact h2 (Option.some.inj h1).symm
    exact ⟨y, by rw [lkE_up, if_neg (by simpa using hx)]; exact h1, h2, head_up hb hr h3⟩
theorem head_up2 {ents : List (List Int × Int)} {a b : Int} (ha : lkE ents [a] = some a) (hb : lkE ents [b] = some b) (hab : a ≠ b) : ∀ {n : Nat} {x : Int}, HeadIs ents n x b → HeadIs (upE ents [b] a) (n + 1) x a
  | 0, x, h => by
    obtain ⟨h1, rfl⟩ := h
    exact ⟨a, by rw [lkE_up, if_pos rfl], hab, by rw [lkE_up, if_neg (by simpa using fun e => hab e.symm)]; exact ha, rfl⟩
  | n + 1, x, h => by
    obtain ⟨y, h1, h2, h3⟩ := h
    have hx : b ≠ x := fun e => by subst e; rw [hb] at h1; exact h2 (Option.some.inj h1).symm
    exact ⟨y, by rw [lkE_up, if_neg (by simpa using hx)]; exact h1, h2, head_up2 ha hb hab h3⟩
theorem head_same {ents : List (List Int × Int)} {b r : Int} (hb : lkE ents [b] = some b) : ∀ {n : Nat} {x : Int}, HeadIs ents n x r → HeadIs (upE ents [b] b) n x r
  | 0, x, h => by
    obtain ⟨h1, rfl⟩ := h
    refine ⟨?_, rfl⟩
    rw [lkE_up]
    split
    · rename_i e; simp at e; rw [e]
    · exact h1
  | n + 1, x, h => by
    obtain ⟨y, h1, h2, h3⟩ := h
    refine ⟨y, ?_, h2, head_same hb h3⟩
    rw [lkE_up, if_neg]
    · exact h1
    · intro e; simp at e; subst e; rw [hb] at h1; exact h2 (Option.some.inj h1).symm
/-- A map of groups, and the heads that it tells. -/
def GrpOK (ids : List Int) (ents : List (List Int × Int)) (F : Int → Int) : Prop := ∀ x ∈ ids, (∃ n, HeadIs ents n x (F x)) ∧ F x ∈ ids ∧ lkE ents [F x] = some (F x)
def stepF (F : Int → Int) (l : Lnk) : Int → Int := fun x => if F x = F l.b then F l.a else F x
def stepG (s : List (List Int × Int) × (Int → Int)) (l : Lnk) : List (List Int × Int) × (Int → Int) := (upE s.1 [s.2 l.b] (s.2 l.a), stepF s.2 l)
theorem grp_step {ids : List Int} {ents : List (List Int × Int)} {F : Int → Int} {l : Lnk} (h : GrpOK ids ents F) (ha : l.a ∈ ids) (hb : l.b ∈ ids) : GrpOK ids (upE ents [F l.b] (F l.a)) (stepF F l) := by
  obtain ⟨-, fa, ra⟩ := h l.a ha
  obtain ⟨-, fb, rb⟩ := h l.b hb
  intro x hx
  obtain ⟨⟨n, hn⟩, fx, rx⟩ := h x hx
  unfold stepF
  by_cases hab : F l.a = F l.b
  · rw [hab]
    by_cases hxb : F x = F l.b
    · rw [if_pos hxb, ← hxb]
      exact ⟨⟨n, head_same rx hn⟩, fx, by rw [lkE_up, if_pos rfl]⟩
    · rw [if_neg hxb]
      exact ⟨⟨n, head_same rb hn⟩, fx, by rw [lkE_up, if_neg (by simpa using fun e => hxb e.symm)]; exact rx⟩
  · by_cases hxb : F x = F l.b
    · rw [if_pos hxb]
      rw [hxb] at hn
      exact ⟨⟨n + 1, head_up2 ra rb hab hn⟩, fa, by rw [lkE_up, if_neg (by simpa using fun e => hab e.symm)]; exact ra⟩
    · rw [if_neg hxb]
      exact ⟨⟨n, head_up rb hxb hn⟩, fx, by rw [lkE_up, if_neg (by simpa using fun e => hxb e.symm)]; exact rx⟩
end Go.Proofs.Ytinnohljknmolaa
namespace Go.Proofs.Ytinnohljknmolaa
open Go Go.RowKit
def ents0 (vs : List Vpc) : List (List Int × Int) := vs.foldl (fun e v => upE e [v.id] v.id) []
theorem foldl_snoc {α β : Type} {f : β → α → β} {b : β} {l : List α} {k : Nat} {x : α} (h : l[k]? = some x) : (l.take (k + 1)).foldl f b = f ((l.take k).foldl f b) x := by rw [take_snoc h, List.foldl_append]; rfl
theorem ents0_at (l : List Vpc) (e : List (List Int × Int)) (x : Int) : lkE (l.foldl (fun e v => upE e [v.id] v.id) e) [x] = if x ∈ l.map (·.id) then some x else lkE e [x] := by
  induction l generalizing e with
  | nil => simp
  | cons v l ih =>
    rw [List.foldl_cons, ih, lkE_up]
    by_cases h1 : x ∈ l.map (·.id)
    · rw [if_pos h1, if_pos (by simp only [List.map_cons, List.mem_cons]; exact .inr h1)]
    · rw [if_neg h1]
      by_cases h2 : v.id = x
      · subst h2; simp
      · rw [if_neg (by simpa using h2), if_neg]
        simp only [List.map_cons, List.mem_cons, not_or]
        exact ⟨fun e => h2 e.symm, h1⟩
theorem grp_0 (vs : List Vpc) : GrpOK (vs.map (·.id)) (ents0 vs) (fun x => x) := fun x hx => by
  have := ents0_at vs [] x
  rw [if_pos hx] at this
  exact ⟨⟨0, this, rfl⟩, hx, this⟩
def stN (n : Net) : List (List Int × Int) × (Int → Int) := n.links.foldl stepG (ents0 n.vpcs, fun x => x)
theorem grp_k {n : Net} (hl : ∀ l ∈ n.links, l.a ∈ n.vpcs.map (·.id) ∧ l.b ∈ n.vpcs.map (·.id)) (k : Nat) : GrpOK (n.vpcs.map (·.id)) ((n.links.take k).foldl stepG (ents0 n.vpcs, fun x => x)).1 ((n.links.take k).foldl stepG (ents0 n.vpcs, fun x => x)).2 := by
  induction k with
  | zero => exact grp_0 n.vpcs
  | succ k ih =>
    by_cases hk : k < n.links.length
    · have hx := List.getElem?_eq_getElem hk
      rw [foldl_snoc hx]
      have := hl _ (List.getElem_mem hk)
      exact grp_step ih this.1 this.2
    · rw [List.take_of_length_le (by omega)] at ih ⊢
      exact ih
end Go.Proofs.Ytinnohljknmolaa
namespace Go.Proofs.Ytinnohljknmolaa
open Go Go.RowKit
set_option maxRecDepth 100000 in
set_option maxHeartbeats 1000000 in
theorem of_m (n : Net) (h1 : n.vpcs.length ≤ 1000000000) (h2 : n.links.length ≤ 1000000000) (hl : ∀ l ∈ n.links, l.a ∈ n.vpcs.map (·.id) ∧ l.b ∈ n.vpcs.map (·.id)) :
    MSpec Try.prog 33 [.d (.ept (encT n))] [] (.mref 0) [.mp 1 false (stN n).1] := by
  have hg := Lib.hid (grp_k hl)
  replace hl := Lib.hid hl
  refine ms_i tab_ok mixed Try.func33 rfl Try.ntmps33 Try.results33 (by kernel_rfl) (by simp) (by simp [belowL, belowP]) (by simp [belowH, belowC, belowL, belowP, belowL_d, belowR_d]) ?_
  repeat' (first | (with_reducible refine And.intro ?_ ?_) | (with_reducible refine gK_i (fun _ => ?_) (fun _ => ?_)) | (with_reducible refine condS_i (fun _ => ?_) (fun _ => ?_)) | (with_reducible refine drw_i (by kernel_rfl)) | simp -dsimp only [go_sem, seval, *, encT] | ((with_reducible refine opK_c ?_); simp -dsimp only [go_sem, seval, encT]; first | refine callK_r (by first | assumption | fail) (by first | exact .inl rfl | exact .inr rfl) ?_ | (refine callK_i (by assumption) ?_ ?_ ?_; (solve | (repeat (first | exact DLe.refl _ | exact DLe.nil _ | (refine DLe.tup ?_) | (refine DLe.agg ?_ rfl) | exact trivial | (refine And.intro ?_ ?_)))); (solve | exact .inl rfl | exact .inr rfl))) | fail | omega | exact decide_eq_true (by omega) | exact DLe.refl _)
  refine loopL tab_ok mixed n.vpcs (fun _ => True) (fun k => [(14, .d (.v (.int .i64 k))), (13, .d (.v (.int .i64 n.vpcs.length))), (12, .d (.sl 3 (n.vpcs.map encV))), (3, .mref 0), (0, .d (.ept (encT n)))]) (fun k => [.mp 1 false (ents0 (n.vpcs.take k))]) trivial (weak_forget _ (by simp) (by (try simp only [encT]); rfl) (by (repeat' (first | exact trivial | (refine ⟨rfl, ?_⟩)))) (by first | rfl | simp only [belowH, belowE, belowC, belowL, belowR, belowP, belowL_d, belowR_d, List.length_cons, List.length_nil, Nat.reduceAdd, Nat.reduceLT, decide_true, Bool.and_self, Bool.and_true]) (by first | rfl | simp only [belowH, belowE, belowC, belowL, belowR, belowP, belowL_d, belowR_d, List.length_cons, List.length_nil, Nat.reduceAdd, Nat.reduceLT, decide_true, Bool.and_self, Bool.and_true])) ?_ ?_
  · intro k v hv hk _ C hC
    have hkI : (k : Int) < (n.vpcs.length : Int) := by omega
    have hwr : IntKind.i64.wrap ((k : Int) + 1) = ((k + 1 : Nat) : Int) := by rw [IntKind.wrap_i64]; omega
    have hs : ents0 (n.vpcs.take (k + 1)) = upE (ents0 (n.vpcs.take k)) [v.id] v.id := foldl_snoc hv
    replace hs := Lib.hid hs
    repeat' (first | (with_reducible refine And.intro ?_ ?_) | (with_reducible refine gK_i (fun _ => ?_) (fun _ => ?_)) | (with_reducible refine condS_i (fun _ => ?_) (fun _ => ?_)) | (with_reducible refine drw_i (by kernel_rfl)) | simp -dsimp only [go_sem, seval, *, encT, encV, hkI, hwr, hv, undef] | ((with_reducible refine opK_c ?_); simp -dsimp only [go_sem, seval, encT, encV, hkI, hwr, hv, undef]; first | refine callK_r (by first | assumption | fail) (by first | exact .inl rfl | exact .inr rfl) ?_ | (refine callK_i (by assumption) ?_ ?_ ?_; (solve | (repeat (first | exact DLe.refl _ | exact DLe.nil _ | (refine DLe.tup ?_) | (refine DLe.agg ?_ rfl) | exact trivial | (refine And.intro ?_ ?_)))); (solve | exact .inl rfl | exact .inr rfl))) | fail | omega | exact decide_eq_true (by omega) | exact DLe.refl _)
    exact hC _ _ trivial (weak_forget _ (by simp) (by rw [hs.out]; rfl) (by (repeat' (first | exact trivial | (refine ⟨rfl, ?_⟩)))) (by first | rfl | simp only [belowH, belowE, belowC, belowL, belowR, belowP, belowL_d, belowR_d, List.length_cons, List.length_nil, Nat.reduceAdd, Nat.reduceLT, decide_true, Bool.and_self, Bool.and_true]) (by first | rfl | simp only [belowH, belowE, belowC, belowL, belowR, belowP, belowL_d, belowR_d, List.length_cons, List.length_nil, Nat.reduceAdd, Nat.reduceLT, decide_true, Bool.and_self, Bool.and_true]))
  · intro _ C
    rw [List.take_length]
    repeat' (first | (with_reducible refine And.intro ?_ ?_) | (with_reducible refine gK_i (fun _ => ?_) (fun _ => ?_)) | (with_reducible refine condS_i (fun _ => ?_) (fun _ => ?_)) | (with_reducible refine drw_i (by kernel_rfl)) | simp -dsimp only [go_sem, seval, *, encT, Int.lt_irrefl, undef] | ((with_reducible refine opK_c ?_); simp -dsimp only [go_sem, seval, encT, Int.lt_irrefl, undef]; first | refine callK_r (by first | assumption | fail) (by first | exact .inl rfl | exact .inr rfl) ?_ | (refine callK_i (by assumption) ?_ ?_ ?_; (solve | (repeat (first | exact DLe.refl _ | exact DLe.nil _ | (refine DLe.tup ?_) | (refine DLe.agg ?_ rfl) | exact trivial | (refine And.intro ?_ ?_)))); (solve | exact .inl rfl | exact .inr rfl))) | fail | omega | exact decide_eq_true (by omega) | exact DLe.refl _)
    refine loopL tab_ok mixed n.links (fun _ => True) (fun k => [(29, .d (.v (.int .i64 k))), (28, .d (.v (.int .i64 n.links.length))), (27, .d (.sl 2 (n.links.map encK))), (3, .mref 0)]) (fun k => [.mp 1 false ((n.links.take k).foldl stepG (ents0 n.vpcs, fun x => x)).1]) trivial (weak_forget _ (by simp) (by (try simp only [encT]); rfl) (by (repeat' (first | exact trivial | (refine ⟨rfl, ?_⟩)))) (by first | rfl | simp only [belowH, belowE, belowC, belowL, belowR, belowP, belowL_d, belowR_d, List.length_cons, List.length_nil, Nat.reduceAdd, Nat.reduceLT, decide_true, Bool.and_self, Bool.and_true]) (by first | rfl | simp only [belowH, belowE, belowC, belowL, belowR, belowP, belowL_d, belowR_d, List.length_cons, List.length_nil, Nat.reduceAdd, Nat.reduceLT, decide_true, Bool.and_self, Bool.and_true])) ?_ ?_
    · intro k l hlk hk _ C hC
      have hkI : (k : Int) < (n.links.length : Int) := by omega
      have hwr : IntKind.i64.wrap ((k : Int) + 1) = ((k + 1 : Nat) : Int) := by rw [IntKind.wrap_i64]; omega
      have hs : ((n.links.take (k + 1)).foldl stepG (ents0 n.vpcs, fun x => x)).1 = upE ((n.links.take k).foldl stepG (ents0 n.vpcs, fun x => x)).1 [((n.links.take k).foldl stepG (ents0 n.vpcs, fun x => x)).2 l.b] (((n.links.take k).foldl stepG (ents0 n.vpcs, fun x => x)).2 l.a) := by rw [foldl_snoc hlk]; rfl
      have hm := hl.out l (List.mem_of_getElem? hlk)
      obtain ⟨⟨na, ha⟩, -, -⟩ := hg.out k l.a hm.1
      obtain ⟨⟨nb, hb⟩, -, -⟩ := hg.out k l.b hm.2
      generalize (n.links.take k).foldl stepG (ents0 n.vpcs, fun x => x) = S at *
      have hma := head_m S.1 na l.a (S.2 l.a) ha
      have hmb := head_m S.1 nb l.b (S.2 l.b) hb
      clear ha hb hm
      replace hs := Lib.hid hs
      repeat' (first | (with_reducible refine And.intro ?_ ?_) | (with_reducible refine gK_i (fun _ => ?_) (fun _ => ?_)) | (with_reducible refine condS_i (fun _ => ?_) (fun _ => ?_)) | (with_reducible refine drw_i (by kernel_rfl)) | simp -dsimp only [go_sem, seval, *, encT, encK, hkI, hwr, hlk, undef] | ((with_reducible refine opK_c ?_); simp -dsimp only [go_sem, seval, encT, encK, hkI, hwr, hlk, undef]; first | refine callK_r (by first | assumption | fail) (by first | exact .inl rfl | exact .inr rfl) ?_ | (refine callK_i (by assumption) ?_ ?_ ?_; (solve | (repeat (first | exact DLe.refl _ | exact DLe.nil _ | (refine DLe.tup ?_) | (refine DLe.agg ?_ rfl) | exact trivial | (refine And.intro ?_ ?_)))); (solve | exact .inl rfl | exact .inr rfl))) | (refine opK_M [0] (hmb) ?_ ?_ ?_ ?_ ?_ ?_; (solve | rfl | simp only [go_sem, seval, encK]); (solve | rfl); (solve | decide); (solve | simp); (solve | simp only [go_sem, seval, lentOK, encK])) | (refine opK_M [0] (hma) ?_ ?_ ?_ ?_ ?_ ?_; (solve | rfl | simp only [go_sem, seval, encK]); (solve | rfl); (solve | decide); (solve | simp); (solve | simp only [go_sem, seval, lentOK, encK])) | omega | exact decide_eq_true (by omega) | exact DLe.refl _)
      exact hC _ _ trivial (weak_forget _ (by simp) (by rw [hs.out]; rfl) (by (repeat' (first | exact trivial | (refine ⟨rfl, ?_⟩)))) (by first | rfl | simp only [belowH, belowE, belowC, belowL, belowR, belowP, belowL_d, belowR_d, List.length_cons, List.length_nil, Nat.reduceAdd, Nat.reduceLT, decide_true, Bool.and_self, Bool.and_true]) (by first | rfl | simp only [belowH, belowE, belowC, belowL, belowR, belowP, belowL_d, belowR_d, List.length_cons, List.length_nil, Nat.reduceAdd, Nat.reduceLT, decide_true, Bool.and_self, Bool.and_true]))
    · intro _ C
      rw [List.take_length]
      repeat' (first | (with_reducible refine And.intro ?_ ?_) | (with_reducible refine gK_i (fun _ => ?_) (fun _ => ?_)) | (with_reducible refine condS_i (fun _ => ?_) (fun _ => ?_)) | (with_reducible refine drw_i (by kernel_rfl)) | simp -dsimp only [go_sem, seval, *, encT, Int.lt_irrefl, undef] | ((with_reducible refine opK_c ?_); simp -dsimp only [go_sem, seval, encT, Int.lt_irrefl, undef]; first | refine callK_r (by first | assumption | fail) (by first | exact .inl rfl | exact .inr rfl) ?_ | (refine callK_i (by assumption) ?_ ?_ ?_; (solve | (repeat (first | exact DLe.refl _ | exact DLe.nil _ | (refine DLe.tup ?_) | (refine DLe.agg ?_ rfl) | exact trivial | (refine And.intro ?_ ?_)))); (solve | exact .inl rfl | exact .inr rfl))) | fail | omega | exact decide_eq_true (by omega) | exact DLe.refl _)
      all_goals exact weak_eq rfl rfl
set_option maxRecDepth 100000 in
set_option maxHeartbeats 1000000 in
theorem ofB_m (n : Net) (h1 : n.vpcs.length ≤ 1000000000) (h2 : n.links.length ≤ 1000000000) (hl : ∀ l ∈ n.links, l.a ∈ n.vpcs.map (·.id) ∧ l.b ∈ n.vpcs.map (·.id)) :
    MSpec Try.prog 33 [.ptr 0 0] [.box 25 ((encT n).map .d)] (.mref 1) [.box 25 ((encT n).map .d),.mp 1 false (stN n).1] := by
  have hg := Lib.hid (grp_k hl)
  replace hl := Lib.hid hl
  refine ms_i tab_ok mixed Try.func33 rfl Try.ntmps33 Try.results33 (by kernel_rfl) (by simp) (by simp [belowL, belowP]) (by simp [belowH, belowC, belowL, belowP, belowL_d, belowR_d]) ?_
  repeat' (first | (with_reducible refine And.intro ?_ ?_) | (with_reducible refine gK_i (fun _ => ?_) (fun _ => ?_)) | (with_reducible refine condS_i (fun _ => ?_) (fun _ => ?_)) | (with_reducible refine drw_i (by kernel_rfl)) | simp -dsimp only [go_sem, seval, *, encT] | ((with_reducible refine opK_c ?_); simp -dsimp only [go_sem, seval, encT]; first | refine callK_r (by first | assumption | fail) (by first | exact .inl rfl | exact .inr rfl) ?_ | (refine callK_i (by assumption) ?_ ?_ ?_; (solve | (repeat (first | exact DLe.refl _ | exact DLe.nil _ | (refine DLe.tup ?_) | (refine DLe.agg ?_ rfl) | exact trivial | (refine And.intro ?_ ?_)))); (solve | exact .inl rfl | exact .inr rfl))) | fail | omega | exact decide_eq_true (by omega) | exact DLe.refl _)
  refine loopL tab_ok mixed n.vpcs (fun _ => True) (fun k => [(14, .d (.v (.int .i64 k))), (13, .d (.v (.int .i64 n.vpcs.length))), (12, .d (.sl 3 (n.vpcs.map encV))), (3, .mref 1), (0, .ptr 0 0)]) (fun k => [.box 25 ((encT n).map .d),.mp 1 false (ents0 (n.vpcs.take k))]) trivial (weak_forget _ (by simp) (by (try simp only [encT]); rfl) (by (repeat' (first | exact trivial | (refine ⟨rfl, ?_⟩)))) (by first | rfl | simp only [belowH, belowE, belowC, belowL, belowR, belowP, belowL_d, belowR_d, List.length_cons, List.length_nil, Nat.reduceAdd, Nat.reduceLT, decide_true, Bool.and_self, Bool.and_true]) (by first | rfl | simp only [belowH, belowE, belowC, belowL, belowR, belowP, belowL_d, belowR_d, List.length_cons, List.length_nil, Nat.reduceAdd, Nat.reduceLT, decide_true, Bool.and_self, Bool.and_true])) ?_ ?_
  · intro k v hv hk _ C hC
    have hkI : (k : Int) < (n.vpcs.length : Int) := by omega
    have hwr : IntKind.i64.wrap ((k : Int) + 1) = ((k + 1 : Nat) : Int) := by rw [IntKind.wrap_i64]; omega
    have hs : ents0 (n.vpcs.take (k + 1)) = upE (ents0 (n.vpcs.take k)) [v.id] v.id := foldl_snoc hv
    replace hs := Lib.hid hs
    repeat' (first | (with_reducible refine And.intro ?_ ?_) | (with_reducible refine gK_i (fun _ => ?_) (fun _ => ?_)) | (with_reducible refine condS_i (fun _ => ?_) (fun _ => ?_)) | (with_reducible refine drw_i (by kernel_rfl)) | simp -dsimp only [go_sem, seval, *, encT, encV, hkI, hwr, hv, undef] | ((with_reducible refine opK_c ?_); simp -dsimp only [go_sem, seval, encT, encV, hkI, hwr, hv, undef]; first | refine callK_r (by first | assumption | fail) (by first | exact .inl rfl | exact .inr rfl) ?_ | (refine callK_i (by assumption) ?_ ?_ ?_; (solve | (repeat (first | exact DLe.refl _ | exact DLe.nil _ | (refine DLe.tup ?_) | (refine DLe.agg ?_ rfl) | exact trivial | (refine And.intro ?_ ?_)))); (solve | exact .inl rfl | exact .inr rfl))) | fail | omega | exact decide_eq_true (by omega) | exact DLe.refl _)
    exact hC _ _ trivial (weak_forget _ (by simp) (by rw [hs.out]; rfl) (by (repeat' (first | exact trivial | (refine ⟨rfl, ?_⟩)))) (by first | rfl | simp only [belowH, belowE, belowC, belowL, belowR, belowP, belowL_d, belowR_d, List.length_cons, List.length_nil, Nat.reduceAdd, Nat.reduceLT, decide_true, Bool.and_self, Bool.and_true]) (by first | rfl | simp only [belowH, belowE, belowC, belowL, belowR, belowP, belowL_d, belowR_d, List.length_cons, List.length_nil, Nat.reduceAdd, Nat.reduceLT, decide_true, Bool.and_self, Bool.and_true]))
  · intro _ C
    rw [List.take_length]
    repeat' (first | (with_reducible refine And.intro ?_ ?_) | (with_reducible refine gK_i (fun _ => ?_) (fun _ => ?_)) | (with_reducible refine condS_i (fun _ => ?_) (fun _ => ?_)) | (with_reducible refine drw_i (by kernel_rfl)) | simp -dsimp only [go_sem, seval, *, encT, Int.lt_irrefl, undef] | ((with_reducible refine opK_c ?_); simp -dsimp only [go_sem, seval, encT, Int.lt_irrefl, undef]; first | refine callK_r (by first | assumption | fail) (by first | exact .inl rfl | exact .inr rfl) ?_ | (refine callK_i (by assumption) ?_ ?_ ?_; (solve | (repeat (first | exact DLe.refl _ | exact DLe.nil _ | (refine DLe.tup ?_) | (refine DLe.agg ?_ rfl) | exact trivial | (refine And.intro ?_ ?_)))); (solve | exact .inl rfl | exact .inr rfl))) | fail | omega | exact decide_eq_true (by omega) | exact DLe.refl _)
    refine loopL tab_ok mixed n.links (fun _ => True) (fun k => [(29, .d (.v (.int .i64 k))), (28, .d (.v (.int .i64 n.links.length))), (27, .d (.sl 2 (n.links.map encK))), (3, .mref 1)]) (fun k => [.box 25 ((encT n).map .d),.mp 1 false ((n.links.take k).foldl stepG (ents0 n.vpcs, fun x => x)).1]) trivial (weak_forget _ (by simp) (by (try simp only [encT]); rfl) (by (repeat' (first | exact trivial | (refine ⟨rfl, ?_⟩)))) (by first | rfl | simp only [belowH, belowE, belowC, belowL, belowR, belowP, belowL_d, belowR_d, List.length_cons, List.length_nil, Nat.reduceAdd, Nat.reduceLT, decide_true, Bool.and_self, Bool.and_true]) (by first | rfl | simp only [belowH, belowE, belowC, belowL, belowR, belowP, belowL_d, belowR_d, List.length_cons, List.length_nil, Nat.reduceAdd, Nat.reduceLT, decide_true, Bool.and_self, Bool.and_true])) ?_ ?_
    · intro k l hlk hk _ C hC
      have hkI : (k : Int) < (n.links.length : Int) := by omega
      have hwr : IntKind.i64.wrap ((k : Int) + 1) = ((k + 1 : Nat) : Int) := by rw [IntKind.wrap_i64]; omega
      have hs : ((n.links.take (k + 1)).foldl stepG (ents0 n.vpcs, fun x => x)).1 = upE ((n.links.take k).foldl stepG (ents0 n.vpcs, fun x => x)).1 [((n.links.take k).foldl stepG (ents0 n.vpcs, fun x => x)).2 l.b] (((n.links.take k).foldl stepG (ents0 n.vpcs, fun x => x)).2 l.a) := by rw [foldl_snoc hlk]; rfl
      have hm := hl.out l (List.mem_of_getElem? hlk)
      obtain ⟨⟨na, ha⟩, -, -⟩ := hg.out k l.a hm.1
      obtain ⟨⟨nb, hb⟩, -, -⟩ := hg.out k l.b hm.2
      generalize (n.links.take k).foldl stepG (ents0 n.vpcs, fun x => x) = S at *
      have hma := head_m S.1 na l.a (S.2 l.a) ha
      have hmb := head_m S.1 nb l.b (S.2 l.b) hb
      clear ha hb hm
      replace hs := Lib.hid hs
      repeat' (first | (with_reducible refine And.intro ?_ ?_) | (with_reducible refine gK_i (fun _ => ?_) (fun _ => ?_)) | (with_reducible refine condS_i (fun _ => ?_) (fun _ => ?_)) | (with_reducible refine drw_i (by kernel_rfl)) | simp -dsimp only [go_sem, seval, *, encT, encK, hkI, hwr, hlk, undef] | ((with_reducible refine opK_c ?_); simp -dsimp only [go_sem, seval, encT, encK, hkI, hwr, hlk, undef]; first | refine callK_r (by first | assumption | fail) (by first | exact .inl rfl | exact .inr rfl) ?_ | (refine callK_i (by assumption) ?_ ?_ ?_; (solve | (repeat (first | exact DLe.refl _ | exact DLe.nil _ | (refine DLe.tup ?_) | (refine DLe.agg ?_ rfl) | exact trivial | (refine And.intro ?_ ?_)))); (solve | exact .inl rfl | exact .inr rfl))) | (refine opK_M [1] (hmb) ?_ ?_ ?_ ?_ ?_ ?_; (solve | rfl | simp only [go_sem, seval, encK]); (solve | rfl); (solve | decide); (solve | simp); (solve | simp only [go_sem, seval, lentOK, encK])) | (refine opK_M [1] (hma) ?_ ?_ ?_ ?_ ?_ ?_; (solve | rfl | simp only [go_sem, seval, encK]); (solve | rfl); (solve | decide); (solve | simp); (solve | simp only [go_sem, seval, lentOK, encK])) | omega | exact decide_eq_true (by omega) | exact DLe.refl _)
      exact hC _ _ trivial (weak_forget _ (by simp) (by rw [hs.out]; rfl) (by (repeat' (first | exact trivial | (refine ⟨rfl, ?_⟩)))) (by first | rfl | simp only [belowH, belowE, belowC, belowL, belowR, belowP, belowL_d, belowR_d, List.length_cons, List.length_nil, Nat.reduceAdd, Nat.reduceLT, decide_true, Bool.and_self, Bool.and_true]) (by first | rfl | simp only [belowH, belowE, belowC, belowL, belowR, belowP, belowL_d, belowR_d, List.length_cons, List.length_nil, Nat.reduceAdd, Nat.reduceLT, decide_true, Bool.and_self, Bool.and_true]))
    · intro _ C
      rw [List.take_length]
      repeat' (first | (with_reducible refine And.intro ?_ ?_) | (with_reducible refine gK_i (fun _ => ?_) (fun _ => ?_)) | (with_reducible refine condS_i (fun _ => ?_) (fun _ => ?_)) | (with_reducible refine drw_i (by kernel_rfl)) | simp -dsimp only [go_sem, seval, *, encT, Int.lt_irrefl, undef] | ((with_reducible refine opK_c ?_); simp -dsimp only [go_sem, seval, encT, Int.lt_irrefl, undef]; first | refine callK_r (by first | assumption | fail) (by first | exact .inl rfl | exact .inr rfl) ?_ | (refine callK_i (by assumption) ?_ ?_ ?_; (solve | (repeat (first | exact DLe.refl _ | exact DLe.nil _ | (refine DLe.tup ?_) | (refine DLe.agg ?_ rfl) | exact trivial | (refine And.intro ?_ ?_)))); (solve | exact .inl rfl | exact .inr rfl))) | fail | omega | exact decide_eq_true (by omega) | exact DLe.refl _)
      all_goals exact weak_eq rfl rfl
end Go.Proofs.Ytinnohljknmolaa
namespace Go.Proofs.Ytinnohljknmolaa
open Go Go.RowKit
def headN (n : Net) : Int → Int := (stN n).2
/-- Two networks of one group that clash. -/
def foeN (n : Net) (v w : Vpc) : Bool := (headN n v.id == headN n w.id) && clashV v w
/-- Is there peace in a net? -/
def peaceN (n : Net) : Bool := (List.range n.vpcs.length).all fun k => match n.vpcs[k]? with | some v => (n.vpcs.take k).all fun w => !foeN n v w | none => true
theorem peace_bad {n : Net} {i j : Nat} {v w : Vpc} (hij : j < i) (hv : n.vpcs[i]? = some v) (hw : n.vpcs[j]? = some w) (h : foeN n v w = true) : peaceN n = false := by
  unfold peaceN
  rw [List.all_eq_false]
  refine ⟨i, List.mem_range.2 (List.getElem?_eq_some_iff.1 hv).1, ?_⟩
  rw [hv]
  simp only [Bool.not_eq_true, List.all_eq_false]
  exact ⟨w, List.mem_of_getElem? (i := j) (by rw [List.getElem?_take_of_lt hij]; exact hw), by rw [h]; simp⟩
theorem peace_good {n : Net} (h : ∀ (i : Nat) (v w : Vpc), n.vpcs[i]? = some v → w ∈ n.vpcs.take i → foeN n v w = false) : peaceN n = true := by
  unfold peaceN
  rw [List.all_eq_true]
  intro i hi
  have hl := List.mem_range.1 hi
  rw [List.getElem?_eq_getElem hl]
  simp only [List.all_eq_true]
  intro w hw
  rw [h i _ w (List.getElem?_eq_getElem hl) hw]; rfl
end Go.Proofs.Ytinnohljknmolaa
namespace Go.Proofs.Ytinnohljknmolaa
open Go Go.RowKit
section
variable (lk : Nat → Nat → Bool)
end
def heads (L : List Lnk) : Int → Int := L.foldl stepF (fun x => x)
theorem stepF_keep {F : Int → Int} {x y : Int} (h : F x = F y) (l : Lnk) : stepF F l x = stepF F l y := by unfold stepF; rw [h]
theorem foldF_keep {x y : Int} : ∀ (L : List Lnk) (F : Int → Int), F x = F y → L.foldl stepF F x = L.foldl stepF F y
  | [], _, h => h
  | l :: L, F, h => foldF_keep L _ (stepF_keep h l)
theorem foldF_link {l : Lnk} : ∀ (L : List Lnk) (F : Int → Int), l ∈ L → L.foldl stepF F l.a = L.foldl stepF F l.b
  | m :: L, F, h => by
    rcases List.mem_cons.1 h with rfl | h
    · refine foldF_keep L _ ?_
      unfold stepF
      rw [if_pos rfl]
      split <;> rfl
    · exact foldF_link L _ h
theorem heads_link {L : List Lnk} {l : Lnk} (h : l ∈ L) : heads L l.a = heads L l.b := foldF_link L _ h
theorem lnk_of {l : Lnk} (h : l.a < l.b) : lnk l.a l.b = l ∧ lnk l.b l.a = l := by
  unfold lnk
  rw [if_neg (by omega), if_pos h, if_pos h, if_neg (by omega)]
  exact ⟨rfl, rfl⟩
theorem lnk_head {L : List Lnk} {a b : Int} (h : lnk a b ∈ L) : heads L a = heads L b := by
  have := heads_link h
  unfold lnk at this
  by_cases h1 : b < a
  · rw [if_pos h1, if_neg (by omega)] at this; exact this.symm
  · rw [if_neg h1] at this
    split at this
    · exact this
    · have : a = b := by omega
      rw [this]
theorem headN_eq (n : Net) : headN n = heads n.links := by
  unfold headN stN heads
  have key : ∀ (L : List Lnk) (s : List (List Int × Int) × (Int → Int)), (L.foldl stepG s).2 = L.foldl stepF s.2 := by
    intro L
    induction L with
    | nil => intro s; rfl
    | cons l L ih => intro s; rw [List.foldl_cons, List.foldl_cons, ih]; rfl
  exact key _ _
end Go.Proofs.Ytinnohljknmolaa
namespace Go.Proofs.Ytinnohljknmolaa
open Go Go.RowKit
set_option maxRecDepth 100000 in
set_option maxHeartbeats 1000000 in
theorem peace_p (n : Net) (h1 : n.vpcs.length ≤ 1000000000) (h2 : n.links.length ≤ 1000000000) (hr : ∀ v ∈ n.vpcs, v.ranges.length ≤ 1000000000) (hl : ∀ l ∈ n.links, l.a ∈ n.vpcs.map (·.id) ∧ l.b ∈ n.vpcs.map (·.id)) :
    PSpec Try.prog 46 [.ept (encT n)] (.v (.bool (peaceN n))) := by
  have hof := of_m n h1 h2 hl
  have hg : ∀ x ∈ n.vpcs.map (·.id), ∃ k, HeadIs (stN n).1 k x (headN n x) := fun x hx => by
    have := (grp_k hl n.links.length x (by exact hx)).1
    rwa [List.take_length] at this
  replace hg := Lib.hid hg
  replace hr := Lib.hid hr
  clear hl
  obtain ⟨R, hR⟩ : ∃ R, R = peaceN n := ⟨_, rfl⟩
  rw [← hR]
  replace hR := Lib.hid hR
  generalize (stN n).1 = E at *
  refine ps_i tab_ok mixed Try.func46 rfl Try.ntmps46 Try.results46 (by kernel_rfl) ?_
  repeat' (first | (with_reducible refine And.intro ?_ ?_) | (with_reducible refine gK_i (fun _ => ?_) (fun _ => ?_)) | (with_reducible refine condS_i (fun _ => ?_) (fun _ => ?_)) | (with_reducible refine drw_i (by kernel_rfl)) | simp -dsimp only [go_sem, seval, *, encT] | ((with_reducible refine opK_c ?_); simp -dsimp only [go_sem, seval, encT]; first | refine callK_r (by first | assumption | fail) (by first | exact .inl rfl | exact .inr rfl) ?_ | (refine callK_i (by assumption) ?_ ?_ ?_; (solve | (repeat (first | exact DLe.refl _ | exact DLe.nil _ | (refine DLe.tup ?_) | (refine DLe.agg ?_ rfl) | exact trivial | (refine And.intro ?_ ?_)))); (solve | exact .inl rfl | exact .inr rfl))) | (refine opK_M [] (hof) ?_ ?_ ?_ ?_ ?_ ?_; (solve | rfl | simp only [go_sem, seval, encT]); (solve | rfl); (solve | decide); (solve | simp); (solve | simp only [go_sem, seval, lentOK, encT])) | omega | exact decide_eq_true (by omega) | exact DLe.refl _)
  clear hof
  refine loopL tab_ok mixed n.vpcs (fun k => ∀ (i : Nat) (v w : Vpc), i < k → n.vpcs[i]? = some v → w ∈ n.vpcs.take i → foeN n v w = false) (fun k => [(15, .d (.v (.int .i64 k))), (14, .d (.v (.int .i64 n.vpcs.length))), (13, .d (.sl 3 (n.vpcs.map encV))), (3, .mref 0), (2, .d (.v (.bool false))), (0, .d (.ept (encT n)))]) (fun _ => [.mp 1 false E]) (fun i v w h => absurd h (Nat.not_lt_zero _)) (weak_forget _ (by simp) (by (try simp only [encT]); rfl) (by (repeat' (first | exact trivial | (refine ⟨rfl, ?_⟩)))) (by first | rfl | simp only [belowH, belowE, belowC, belowL, belowR, belowP, belowL_d, belowR_d, List.length_cons, List.length_nil, Nat.reduceAdd, Nat.reduceLT, decide_true, Bool.and_self, Bool.and_true]) (by first | rfl | simp only [belowH, belowE, belowC, belowL, belowR, belowP, belowL_d, belowR_d, List.length_cons, List.length_nil, Nat.reduceAdd, Nat.reduceLT, decide_true, Bool.and_self, Bool.and_true])) ?_ ?_
  · intro k v hv hk hI C hC
    have hkI : (k : Int) < (n.vpcs.length : Int) := by omega
    have hwr : IntKind.i64.wrap ((k : Int) + 1) = ((k + 1 : Nat) : Int) := by rw [IntKind.wrap_i64]; omega
    have hkl : k ≤ n.vpcs.length := by omega
    have hvm := List.mem_of_getElem? hv
    have hrv := hr.out v hvm
    obtain ⟨nv, hhv⟩ := hg.out v.id (List.mem_map.2 ⟨v, hvm, rfl⟩)
    have hmv := head_m E nv v.id (headN n v.id) hhv
    have hlt : (n.vpcs.take k).length = k := by rw [List.length_take]; omega
    have hlt2 : ((n.vpcs.map encV).take k).length = k := by rw [← List.map_take, List.length_map]; exact hlt
    clear hhv
    replace hI := Lib.hid hI
    repeat' (first | (with_reducible refine And.intro ?_ ?_) | (with_reducible refine gK_i (fun _ => ?_) (fun _ => ?_)) | (with_reducible refine condS_i (fun _ => ?_) (fun _ => ?_)) | (with_reducible refine drw_i (by kernel_rfl)) | simp -dsimp only [go_sem, seval, *, encT, encV, hkI, hv, hkl, hlt2, undef] | ((with_reducible refine opK_c ?_); simp -dsimp only [go_sem, seval, encT, encV, hkI, hv, hkl, hlt2, undef]; first | refine callK_r (by first | assumption | fail) (by first | exact .inl rfl | exact .inr rfl) ?_ | (refine callK_i (by assumption) ?_ ?_ ?_; (solve | (repeat (first | exact DLe.refl _ | exact DLe.nil _ | (refine DLe.tup ?_) | (refine DLe.agg ?_ rfl) | exact trivial | (refine And.intro ?_ ?_)))); (solve | exact .inl rfl | exact .inr rfl))) | fail | omega | exact decide_eq_true (by omega) | exact DLe.refl _)
    refine loopL tab_ok mixed (n.vpcs.take k) (fun j => ∀ w ∈ (n.vpcs.take k).take j, foeN n v w = false) (fun j => [(27, .d (.v (.int .i64 j))), (26, .d (.v (.int .i64 k))), (25, .d (.sl 3 ((n.vpcs.map encV).take k))), (5, .ptr 1 0), (15, .d (.v (.int .i64 k))), (14, .d (.v (.int .i64 n.vpcs.length))), (13, .d (.sl 3 (n.vpcs.map encV))), (3, .mref 0), (2, .d (.v (.bool false))), (0, .d (.ept (encT n)))]) (fun _ => [.mp 1 false E, .box 47 ((encV v).map .d)]) (fun w hw => by simp at hw) (weak_forget _ (by simp) (by (try simp only [encT, encV]); rfl) (by (repeat' (first | exact trivial | (refine ⟨rfl, ?_⟩)))) (by first | rfl | simp only [belowH, belowE, belowC, belowL, belowR, belowP, belowL_d, belowR_d, List.length_cons, List.length_nil, Nat.reduceAdd, Nat.reduceLT, decide_true, Bool.and_self, Bool.and_true]) (by first | rfl | simp only [belowH, belowE, belowC, belowL, belowR, belowP, belowL_d, belowR_d, List.length_cons, List.length_nil, Nat.reduceAdd, Nat.reduceLT, decide_true, Bool.and_self, Bool.and_true])) ?_ ?_
    · intro j w hw hj hJ C2 hC2
      have hjI : (j : Int) < (k : Int) := by omega
      have hw3 : ((n.vpcs.map encV).take k)[j]? = some (encV w) := by rw [← List.map_take, List.getElem?_map, hw]; rfl
      have hwj : IntKind.i64.wrap ((j : Int) + 1) = ((j + 1 : Nat) : Int) := by rw [IntKind.wrap_i64]; omega
      have hjk : j < k := by omega
      have hw2 : n.vpcs[j]? = some w := by rw [List.getElem?_take_of_lt hjk] at hw; exact hw
      have hwm := List.mem_of_getElem? hw2
      have hrw := hr.out w hwm
      obtain ⟨nw, hhw⟩ := hg.out w.id (List.mem_map.2 ⟨w, hwm, rfl⟩)
      have hmw := head_m E nw w.id (headN n w.id) hhw
      have hcl := clash_p v w hrv hrw
      have hbad : foeN n v w = true → R = false := fun h => by rw [hR.out]; exact peace_bad hjk hv hw2 h
      have hstep : foeN n v w = false → ∀ u ∈ (n.vpcs.take k).take (j + 1), foeN n v u = false := fun h u hu => by
        rw [take_snoc hw] at hu
        rcases List.mem_append.1 hu with hu | hu
        · exact hJ u hu
        · rw [List.mem_singleton.1 hu]; exact h
      have hfd : foeN n v w = ((headN n v.id == headN n w.id) && clashV v w) := rfl
      clear hhw hlt hlt2
      replace hbad := Lib.hid hbad
      replace hstep := Lib.hid hstep
      replace hfd := Lib.hid hfd
      replace hJ := Lib.hid hJ
      replace hw := Lib.hid hw
      generalize (n.vpcs.map encV).take k = L at *
      cases e1 : (headN n v.id == headN n w.id) with
      | false =>
        have hf := Lib.hid (hstep.out (by rw [hfd.out, e1]; rfl))
        repeat' (first | (with_reducible refine And.intro ?_ ?_) | (with_reducible refine gK_i (fun _ => ?_) (fun _ => ?_)) | (with_reducible refine condS_i (fun _ => ?_) (fun _ => ?_)) | (with_reducible refine drw_i (by kernel_rfl)) | simp -dsimp only [go_sem, seval, *, encV, hjI, hwj, hw3, e1, undef] | ((with_reducible refine opK_c ?_); simp -dsimp only [go_sem, seval, encV, hjI, hwj, hw3, e1, undef]; first | refine callK_r (by first | assumption | fail) (by first | exact .inl rfl | exact .inr rfl) ?_ | (refine callK_i (by assumption) ?_ ?_ ?_; (solve | (repeat (first | exact DLe.refl _ | exact DLe.nil _ | (refine DLe.tup ?_) | (refine DLe.agg ?_ rfl) | exact trivial | (refine And.intro ?_ ?_)))); (solve | exact .inl rfl | exact .inr rfl))) | (refine opK_M [0] (hmv) ?_ ?_ ?_ ?_ ?_ ?_; (solve | rfl | simp only [go_sem, seval, encV]); (solve | rfl); (solve | decide); (solve | simp); (solve | simp only [go_sem, seval, lentOK, encV])) | (refine opK_M [0] (hmw) ?_ ?_ ?_ ?_ ?_ ?_; (solve | rfl | simp only [go_sem, seval, encV]); (solve | rfl); (solve | decide); (solve | simp); (solve | simp only [go_sem, seval, lentOK, encV])) | omega | exact decide_eq_true (by omega) | exact DLe.refl _)
        exact hC2 _ _ hf.out (weak_forget _ (by simp) (by (try simp only [encT, encV]); rfl) (by (repeat' (first | exact trivial | (refine ⟨rfl, ?_⟩)))) (by first | rfl | simp only [belowH, belowE, belowC, belowL, belowR, belowP, belowL_d, belowR_d, List.length_cons, List.length_nil, Nat.reduceAdd, Nat.reduceLT, decide_true, Bool.and_self, Bool.and_true]) (by first | rfl | simp only [belowH, belowE, belowC, belowL, belowR, belowP, belowL_d, belowR_d, List.length_cons, List.length_nil, Nat.reduceAdd, Nat.reduceLT, decide_true, Bool.and_self, Bool.and_true]))
      | true =>
        cases e2 : clashV v w with
        | true =>
          have hb : R = false := hbad.out (by rw [hfd.out, e1, e2]; rfl)
          rw [hb]
          replace hb := Lib.hid hb
          rw [e2] at hcl
          repeat' (first | (with_reducible refine And.intro ?_ ?_) | (with_reducible refine gK_i (fun _ => ?_) (fun _ => ?_)) | (with_reducible refine condS_i (fun _ => ?_) (fun _ => ?_)) | (with_reducible refine drw_i (by kernel_rfl)) | simp -dsimp only [go_sem, seval, *, encV, hjI, hwj, hw3, e1, undef] | ((with_reducible refine opK_c ?_); simp -dsimp only [go_sem, seval, encV, hjI, hwj, hw3, e1, undef]; first | refine callK_r (by first | assumption | exact hcl) (by first | exact .inl rfl | exact .inr rfl) ?_ | (refine callK_i (by assumption) ?_ ?_ ?_; (solve | (repeat (first | exact DLe.refl _ | exact DLe.nil _ | (refine DLe.tup ?_) | (refine DLe.agg ?_ rfl) | exact trivial | (refine And.intro ?_ ?_)))); (solve | exact .inl rfl | exact .inr rfl))) | (refine opK_M [0] (hmv) ?_ ?_ ?_ ?_ ?_ ?_; (solve | rfl | simp only [go_sem, seval, encV]); (solve | rfl); (solve | decide); (solve | simp); (solve | simp only [go_sem, seval, lentOK, encV])) | (refine opK_M [0] (hmw) ?_ ?_ ?_ ?_ ?_ ?_; (solve | rfl | simp only [go_sem, seval, encV]); (solve | rfl); (solve | decide); (solve | simp); (solve | simp only [go_sem, seval, lentOK, encV])) | omega | exact decide_eq_true (by omega) | exact DLe.refl _)
          all_goals exact DLe.refl _
        | false =>
          have hf := Lib.hid (hstep.out (by rw [hfd.out, e1, e2]; rfl))
          rw [e2] at hcl
          repeat' (first | (with_reducible refine And.intro ?_ ?_) | (with_reducible refine gK_i (fun _ => ?_) (fun _ => ?_)) | (with_reducible refine condS_i (fun _ => ?_) (fun _ => ?_)) | (with_reducible refine drw_i (by kernel_rfl)) | simp -dsimp only [go_sem, seval, *, encV, hjI, hwj, hw3, e1, undef] | ((with_reducible refine opK_c ?_); simp -dsimp only [go_sem, seval, encV, hjI, hwj, hw3, e1, undef]; first | refine callK_r (by first | assumption | exact hcl) (by first | exact .inl rfl | exact .inr rfl) ?_ | (refine callK_i (by assumption) ?_ ?_ ?_; (solve | (repeat (first | exact DLe.refl _ | exact DLe.nil _ | (refine DLe.tup ?_) | (refine DLe.agg ?_ rfl) | exact trivial | (refine And.intro ?_ ?_)))); (solve | exact .inl rfl | exact .inr rfl))) | (refine opK_M [0] (hmv) ?_ ?_ ?_ ?_ ?_ ?_; (solve | rfl | simp only [go_sem, seval, encV]); (solve | rfl); (solve | decide); (solve | simp); (solve | simp only [go_sem, seval, lentOK, encV])) | (refine opK_M [0] (hmw) ?_ ?_ ?_ ?_ ?_ ?_; (solve | rfl | simp only [go_sem, seval, encV]); (solve | rfl); (solve | decide); (solve | simp); (solve | simp only [go_sem, seval, lentOK, encV])) | omega | exact decide_eq_true (by omega) | exact DLe.refl _)
          exact hC2 _ _ hf.out (weak_forget _ (by simp) (by (try simp only [encT, encV]); rfl) (by (repeat' (first | exact trivial | (refine ⟨rfl, ?_⟩)))) (by first | rfl | simp only [belowH, belowE, belowC, belowL, belowR, belowP, belowL_d, belowR_d, List.length_cons, List.length_nil, Nat.reduceAdd, Nat.reduceLT, decide_true, Bool.and_self, Bool.and_true]) (by first | rfl | simp only [belowH, belowE, belowC, belowL, belowR, belowP, belowL_d, belowR_d, List.length_cons, List.length_nil, Nat.reduceAdd, Nat.reduceLT, decide_true, Bool.and_self, Bool.and_true]))
    · intro hJ C2
      rw [List.take_length] at hJ
      have hI2 : ∀ (i : Nat) (u w : Vpc), i < k + 1 → n.vpcs[i]? = some u → w ∈ n.vpcs.take i → foeN n u w = false := fun i u w hi hu hw => by
        rcases Nat.lt_or_ge i k with h | h
        · exact hI.out i u w h hu hw
        · obtain rfl : i = k := by omega
          rw [hv] at hu
          rw [← Option.some.inj hu]
          exact hJ w hw
      replace hI2 := Lib.hid hI2
      replace hJ := Lib.hid hJ
      rw [hlt]
      repeat' (first | (with_reducible refine And.intro ?_ ?_) | (with_reducible refine gK_i (fun _ => ?_) (fun _ => ?_)) | (with_reducible refine condS_i (fun _ => ?_) (fun _ => ?_)) | (with_reducible refine drw_i (by kernel_rfl)) | simp -dsimp only [go_sem, seval, *, encT, hwr, Int.lt_irrefl, undef] | ((with_reducible refine opK_c ?_); simp -dsimp only [go_sem, seval, encT, hwr, Int.lt_irrefl, undef]; first | refine callK_r (by first | assumption | fail) (by first | exact .inl rfl | exact .inr rfl) ?_ | (refine callK_i (by assumption) ?_ ?_ ?_; (solve | (repeat (first | exact DLe.refl _ | exact DLe.nil _ | (refine DLe.tup ?_) | (refine DLe.agg ?_ rfl) | exact trivial | (refine And.intro ?_ ?_)))); (solve | exact .inl rfl | exact .inr rfl))) | fail | omega | exact decide_eq_true (by omega) | exact DLe.refl _)
      exact hC _ _ hI2.out (weak_forget _ (by simp) (by (try simp only [encT]); rfl) (by (repeat' (first | exact trivial | (refine ⟨rfl, ?_⟩)))) (by first | rfl | simp only [belowH, belowE, belowC, belowL, belowR, belowP, belowL_d, belowR_d, List.length_cons, List.length_nil, Nat.reduceAdd, Nat.reduceLT, decide_true, Bool.and_self, Bool.and_true]) (by first | rfl | simp only [belowH, belowE, belowC, belowL, belowR, belowP, belowL_d, belowR_d, List.length_cons, List.length_nil, Nat.reduceAdd, Nat.reduceLT, decide_true, Bool.and_self, Bool.and_true]))
  · intro hI C
    have hb : R = true := by
      rw [hR.out]
      exact peace_good fun i v w hv hw => hI i v w (List.getElem?_eq_some_iff.1 hv).1 hv hw
    rw [hb]
    replace hb := Lib.hid hb
    replace hI := Lib.hid hI
    repeat' (first | (with_reducible refine And.intro ?_ ?_) | (with_reducible refine gK_i (fun _ => ?_) (fun _ => ?_)) | (with_reducible refine condS_i (fun _ => ?_) (fun _ => ?_)) | (with_reducible refine drw_i (by kernel_rfl)) | simp -dsimp only [go_sem, seval, *, encT, Int.lt_irrefl, undef] | ((with_reducible refine opK_c ?_); simp -dsimp only [go_sem, seval, encT, Int.lt_irrefl, undef]; first | refine callK_r (by first | assumption | fail) (by first | exact .inl rfl | exact .inr rfl) ?_ | (refine callK_i (by assumption) ?_ ?_ ?_; (solve | (repeat (first | exact DLe.refl _ | exact DLe.nil _ | (refine DLe.tup ?_) | (refine DLe.agg ?_ rfl) | exact trivial | (refine And.intro ?_ ?_)))); (solve | exact .inl rfl | exact .inr rfl))) | fail | omega | exact decide_eq_true (by omega) | exact DLe.refl _)
    all_goals exact DLe.refl _
end Go.Proofs.Ytinnohljknmolaa
namespace Go.Proofs.Ytinnohljknmolaa
open Go Go.RowKit
def lnkB (n : Net) (l : Lnk) : Bool := (findN n l.a).isSome && ((findN n l.b).isSome && decide (l.a < l.b))
def risK : List Lnk → Bool
  | l :: m :: ls => decide (ordK l m < 0) && risK (m :: ls)
  | _ => true
theorem risK_at : ∀ (l : List Lnk), risK l = true ↔ ∀ j (h : j + 1 < l.length), ordK l[j] l[j + 1] < 0
  | [] => by simp [risK]
  | [a] => by simp [risK]
  | a :: b :: l => by
    have ih := risK_at (b :: l)
    simp only [risK, Bool.and_eq_true, decide_eq_true_eq, ih]
    constructor
    · rintro ⟨h1, h2⟩ j hj
      cases j with
      | zero => exact h1
      | succ j => exact h2 j (by simpa using hj)
    · intro h
      exact ⟨h 0 (by simp), fun j hj => h (j + 1) (by simpa using hj)⟩
def vpcsB (n : Net) : Bool := n.vpcs.all (fun v => chkV v == 0) && risB (·.id) n.vpcs
def chkT (n : Net) : Int := if n.vpcs.length > 6 ∨ n.links.length > 12 then 2 else if vpcsB n && (n.links.all (lnkB n) && (risK n.links && peaceN n)) then 0 else 1
theorem find_ids {n : Net} {x : Int} (h : (findN n x).isSome = true) : x ∈ n.vpcs.map (·.id) := by
  obtain ⟨v, hv⟩ := Option.isSome_iff_exists.1 h
  unfold findN at hv
  have h1 := List.mem_of_find?_eq_some hv
  have h2 := List.find?_some hv
  exact List.mem_map.2 ⟨v, h1, by simpa using h2⟩
theorem chkT_one {n : Net} (h0 : ¬ (n.vpcs.length > 6 ∨ n.links.length > 12)) (h : vpcsB n = false ∨ n.links.all (lnkB n) = false ∨ risK n.links = false ∨ peaceN n = false) : chkT n = 1 := by
  unfold chkT
  rw [if_neg h0]
  rcases h with h | h | h | h <;> simp [h]
theorem chkT_zero {n : Net} (h0 : ¬ (n.vpcs.length > 6 ∨ n.links.length > 12)) (h1 : vpcsB n = true) (h2 : n.links.all (lnkB n) = true) (h3 : risK n.links = true) (h4 : peaceN n = true) : chkT n = 0 := by
  unfold chkT
  rw [if_neg h0, h1, h2, h3, h4]; rfl
end Go.Proofs.Ytinnohljknmolaa
namespace Go.Proofs.Ytinnohljknmolaa
open Go Go.RowKit
def lastV (l : List Vpc) : Int := (l.getLast?.map (·.id)).getD 0
theorem lastV_snoc (l : List Vpc) (v : Vpc) : lastV (l ++ [v]) = v.id := by simp [lastV]
theorem lastV_pair {l : List Vpc} (hs : l.Pairwise fun a b => a.id < b.id) {v : Vpc} (h : lastV l < v.id) : (l ++ [v]).Pairwise fun a b => a.id < b.id := by
  rw [List.pairwise_append]
  refine ⟨hs, by simp, fun a ha b hb => ?_⟩
  rw [List.mem_singleton.1 hb]
  rcases List.eq_nil_or_concat l with rfl | ⟨l', x, rfl⟩
  · cases ha
  · rw [List.concat_eq_append] at *
    rw [lastV_snoc] at h
    rw [List.pairwise_append] at hs
    rcases List.mem_append.1 ha with ha | ha
    · have := hs.2.2 a ha x (by simp); omega
    · rw [List.mem_singleton.1 ha]; exact h
theorem lastV_bad {l : List Vpc} {v : Vpc} (hv : 1 ≤ v.id) (h : v.id ≤ lastV l) : ¬ (l ++ [v]).Pairwise fun a b => a.id < b.id := by
  intro hp
  rw [List.pairwise_append] at hp
  rcases List.eq_nil_or_concat l with rfl | ⟨l', x, rfl⟩
  · simp [lastV] at h; omega
  · rw [List.concat_eq_append] at *
    rw [lastV_snoc] at h
    have := hp.2.2 x (by simp) v (by simp); omega
theorem vpcsB_take {n : Net} (h : vpcsB n = true) (k : Nat) : (∀ v ∈ n.vpcs.take k, chkV v = 0) ∧ (n.vpcs.take k).Pairwise fun a b => a.id < b.id := by
  unfold vpcsB at h
  simp only [Bool.and_eq_true, List.all_eq_true, risB_pair, beq_iff_eq] at h
  exact ⟨fun v hv => h.1 v (List.mem_of_mem_take hv), h.2.sublist (List.take_sublist _ _)⟩
theorem vpcsB_of {n : Net} (h1 : ∀ v ∈ n.vpcs, chkV v = 0) (h2 : n.vpcs.Pairwise fun a b => a.id < b.id) : vpcsB n = true := by
  unfold vpcsB
  simp only [Bool.and_eq_true, List.all_eq_true, risB_pair, beq_iff_eq]
  exact ⟨h1, h2⟩
theorem risK_snoc : ∀ (l : List Lnk) (x : Lnk), risK (l ++ [x]) = (risK l && (match l.getLast? with | some y => decide (ordK y x < 0) | none => true))
  | [], x => rfl
  | [a], x => by simp [risK]
  | a :: b :: l, x => by
    have ih := risK_snoc (b :: l) x
    have e : (a :: b :: l).getLast? = (b :: l).getLast? := by simp [List.getLast?_cons_cons]
    rw [List.cons_append, List.cons_append, risK, ← List.cons_append, ih, e, risK, Bool.and_assoc]
theorem risK_take {l : List Lnk} (h : risK l = true) (k : Nat) : risK (l.take k) = true := by
  rw [risK_at] at h ⊢
  intro j hj
  rw [List.getElem_take, List.getElem_take]
  exact h j (by rw [List.length_take] at hj; omega)
theorem last_take {α : Type} {l : List α} {j : Nat} {y : α} (h : l[j]? = some y) : (l.take (j + 1)).getLast? = some y := by rw [take_snoc h]; simp
set_option maxRecDepth 100000 in
set_option maxHeartbeats 2000000 in
theorem ncheck_p (n : Net) : PSpec Try.prog 31 [.agg (encT n)] (.v (.int .i64 (chkT n))) := by
  obtain ⟨R, hR⟩ : ∃ R, R = chkT n := ⟨_, rfl⟩
  rw [← hR]
  replace hR := Lib.hid hR
  by_cases h6 : n.vpcs.length > 6
  · have h6I : decide ((n.vpcs.length : Int) > 6) = true := by simp; omega
    have hr : R = 2 := by rw [hR.out, chkT, if_pos (.inl h6)]
    rw [hr]
    replace hr := Lib.hid hr
    refine ps_i tab_ok mixed Try.func31 rfl Try.ntmps31 Try.results31 (by kernel_rfl) ?_
    repeat' (first | (with_reducible refine And.intro ?_ ?_) | (with_reducible refine gK_i (fun _ => ?_) (fun _ => ?_)) | (with_reducible refine condS_i (fun _ => ?_) (fun _ => ?_)) | (with_reducible refine drw_i (by kernel_rfl)) | simp -dsimp only [go_sem, seval, *, encT, h6I, undef] | ((with_reducible refine opK_c ?_); simp -dsimp only [go_sem, seval, encT, h6I, undef]; first | refine callK_r (by first | assumption | fail) (by first | exact .inl rfl | exact .inr rfl) ?_ | (refine callK_i (by assumption) ?_ ?_ ?_; (solve | (repeat (first | exact DLe.refl _ | exact DLe.nil _ | (refine DLe.tup ?_) | (refine DLe.agg ?_ rfl) | exact trivial | (refine And.intro ?_ ?_)))); (solve | exact .inl rfl | exact .inr rfl))) | fail | omega | exact decide_eq_true (by omega) | exact DLe.refl _)
    all_goals exact DLe.refl _
  by_cases h12 : n.links.length > 12
  · have h6I : decide ((n.vpcs.length : Int) > 6) = false := by simp; omega
    have h12I : decide ((n.links.length : Int) > 12) = true := by simp; omega
    have hr : R = 2 := by rw [hR.out, chkT, if_pos (.inr h12)]
    rw [hr]
    replace hr := Lib.hid hr
    refine ps_i tab_ok mixed Try.func31 rfl Try.ntmps31 Try.results31 (by kernel_rfl) ?_
    repeat' (first | (with_reducible refine And.intro ?_ ?_) | (with_reducible refine gK_i (fun _ => ?_) (fun _ => ?_)) | (with_reducible refine condS_i (fun _ => ?_) (fun _ => ?_)) | (with_reducible refine drw_i (by kernel_rfl)) | simp -dsimp only [go_sem, seval, *, encT, h6I, h12I, undef] | ((with_reducible refine opK_c ?_); simp -dsimp only [go_sem, seval, encT, h6I, h12I, undef]; first | refine callK_r (by first | assumption | fail) (by first | exact .inl rfl | exact .inr rfl) ?_ | (refine callK_i (by assumption) ?_ ?_ ?_; (solve | (repeat (first | exact DLe.refl _ | exact DLe.nil _ | (refine DLe.tup ?_) | (refine DLe.agg ?_ rfl) | exact trivial | (refine And.intro ?_ ?_)))); (solve | exact .inl rfl | exact .inr rfl))) | fail | omega | exact decide_eq_true (by omega) | exact DLe.refl _)
    all_goals exact DLe.refl _
  have h6I : decide ((n.vpcs.length : Int) > 6) = false := by simp; omega
  have h12I : decide ((n.links.length : Int) > 12) = false := by simp; omega
  have hno : ¬ (n.vpcs.length > 6 ∨ n.links.length > 12) := by omega
  refine ps_i tab_ok mixed Try.func31 rfl Try.ntmps31 Try.results31 (by kernel_rfl) ?_
  repeat' (first | (with_reducible refine And.intro ?_ ?_) | (with_reducible refine gK_i (fun _ => ?_) (fun _ => ?_)) | (with_reducible refine condS_i (fun _ => ?_) (fun _ => ?_)) | (with_reducible refine drw_i (by kernel_rfl)) | simp -dsimp only [go_sem, seval, *, encT, h6I, h12I, undef] | ((with_reducible refine opK_c ?_); simp -dsimp only [go_sem, seval, encT, h6I, h12I, undef]; first | refine callK_r (by first | assumption | fail) (by first | exact .inl rfl | exact .inr rfl) ?_ | (refine callK_i (by assumption) ?_ ?_ ?_; (solve | (repeat (first | exact DLe.refl _ | exact DLe.nil _ | (refine DLe.tup ?_) | (refine DLe.agg ?_ rfl) | exact trivial | (refine And.intro ?_ ?_)))); (solve | exact .inl rfl | exact .inr rfl))) | fail | omega | exact decide_eq_true (by omega) | exact DLe.refl _)
  refine loopL tab_ok mixed n.vpcs (fun k => (∀ v ∈ n.vpcs.take k, chkV v = 0) ∧ (n.vpcs.take k).Pairwise fun a b => a.id < b.id) (fun k => [(25, .d (.v (.int .i64 k))), (24, .d (.v (.int .i64 n.vpcs.length))), (23, .d (.sl 3 (n.vpcs.map encV))), (3, .d (.v (.int .i64 (lastV (n.vpcs.take k))))), (2, .d (.v (.int .i64 0))), (1, .ptr 0 0)]) (fun _ => [.box 25 ((encT n).map .d)]) (by simp) (weak_forget _ (by simp) (by (try simp only [encT]); rfl) (by (repeat' (first | exact trivial | (refine ⟨rfl, ?_⟩)))) (by first | rfl | simp only [belowH, belowE, belowC, belowL, belowR, belowP, belowL_d, belowR_d, List.length_cons, List.length_nil, Nat.reduceAdd, Nat.reduceLT, decide_true, Bool.and_self, Bool.and_true]) (by first | rfl | simp only [belowH, belowE, belowC, belowL, belowR, belowP, belowL_d, belowR_d, List.length_cons, List.length_nil, Nat.reduceAdd, Nat.reduceLT, decide_true, Bool.and_self, Bool.and_true])) ?_ ?_
  · intro k v hv hk hI C hC
    have hkI : (k : Int) < (n.vpcs.length : Int) := by omega
    have hwr : IntKind.i64.wrap ((k : Int) + 1) = ((k + 1 : Nat) : Int) := by rw [IntKind.wrap_i64]; omega
    have htk := take_snoc hv
    have hls : lastV (n.vpcs.take (k + 1)) = v.id := by rw [htk, lastV_snoc]
    have hcv := vcheck_p v
    obtain ⟨LA, hLA⟩ : ∃ x, x = lastV (n.vpcs.take k) := ⟨_, rfl⟩
    rw [← hLA]
    by_cases hc : chkV v = 0
    · have hid : 1 ≤ v.id := by have := (vpcOK_of hc).id; simp [idOK] at this; exact this.1
      rw [hc] at hcv
      by_cases hle : v.id ≤ LA
      · have hr : R = 1 := by
          rw [hR.out]
          refine chkT_one hno (.inl ?_)
          cases hb : vpcsB n with
          | false => rfl
          | true =>
            have := (vpcsB_take hb (k + 1)).2
            rw [htk] at this
            exact absurd this (lastV_bad hid (by rw [← hLA]; exact hle))
        rw [hr]
        clear hr hI hid hC hLA hls htk
        replace hc := Lib.hid hc
        repeat' (first | (with_reducible refine And.intro ?_ ?_) | (with_reducible refine gK_i (fun _ => ?_) (fun _ => ?_)) | (with_reducible refine condS_i (fun _ => ?_) (fun _ => ?_)) | (with_reducible refine drw_i (by kernel_rfl)) | simp -dsimp only [go_sem, seval, *, encT, encV, hkI, hv, hle, undef] | ((with_reducible refine opK_c ?_); simp -dsimp only [go_sem, seval, encT, encV, hkI, hv, hle, undef]; first | refine callK_r (by first | assumption | exact hcv) (by first | exact .inl rfl | exact .inr rfl) ?_ | (refine callK_i (by assumption) ?_ ?_ ?_; (solve | (repeat (first | exact DLe.refl _ | exact DLe.nil _ | (refine DLe.tup ?_) | (refine DLe.agg ?_ rfl) | exact trivial | (refine And.intro ?_ ?_)))); (solve | exact .inl rfl | exact .inr rfl))) | fail | omega | exact decide_eq_true (by omega) | exact DLe.refl _)
        all_goals exact DLe.refl _
      · have hI2 : (∀ v ∈ n.vpcs.take (k + 1), chkV v = 0) ∧ (n.vpcs.take (k + 1)).Pairwise fun a b => a.id < b.id := by
          rw [htk]
          exact ⟨fun u hu => by
            rcases List.mem_append.1 hu with hu | hu
            · exact hI.1 u hu
            · rw [List.mem_singleton.1 hu]; exact hc, lastV_pair hI.2 (by rw [← hLA]; omega)⟩
        have hlb : decide (v.id ≤ LA) = false := by simpa using hle
        clear hI hid htk
        replace hc := Lib.hid hc
        replace hle := Lib.hid hle
        replace hI2 := Lib.hid hI2
        replace hls := Lib.hid hls
        replace hLA := Lib.hid hLA
        repeat' (first | (with_reducible refine And.intro ?_ ?_) | (with_reducible refine gK_i (fun _ => ?_) (fun _ => ?_)) | (with_reducible refine condS_i (fun _ => ?_) (fun _ => ?_)) | (with_reducible refine drw_i (by kernel_rfl)) | simp -dsimp only [go_sem, seval, *, encT, encV, hkI, hwr, hv, hlb, undef] | ((with_reducible refine opK_c ?_); simp -dsimp only [go_sem, seval, encT, encV, hkI, hwr, hv, hlb, undef]; first | refine callK_r (by first | assumption | exact hcv) (by first | exact .inl rfl | exact .inr rfl) ?_ | (refine callK_i (by assumption) ?_ ?_ ?_; (solve | (repeat (first | exact DLe.refl _ | exact DLe.nil _ | (refine DLe.tup ?_) | (refine DLe.agg ?_ rfl) | exact trivial | (refine And.intro ?_ ?_)))); (solve | exact .inl rfl | exact .inr rfl))) | fail | omega | exact decide_eq_true (by omega) | exact DLe.refl _)
        refine hC _ _ hI2.out ?_
        simp only [hls.out]
        exact weak_forget _ (by simp) (by (try simp only [encT]); rfl) (by (repeat' (first | exact trivial | (refine ⟨rfl, ?_⟩)))) (by first | rfl | simp only [belowH, belowE, belowC, belowL, belowR, belowP, belowL_d, belowR_d, List.length_cons, List.length_nil, Nat.reduceAdd, Nat.reduceLT, decide_true, Bool.and_self, Bool.and_true]) (by first | rfl | simp only [belowH, belowE, belowC, belowL, belowR, belowP, belowL_d, belowR_d, List.length_cons, List.length_nil, Nat.reduceAdd, Nat.reduceLT, decide_true, Bool.and_self, Bool.and_true])
    · have hr : R = 1 := by
        rw [hR.out]
        refine chkT_one hno (.inl ?_)
        cases hb : vpcsB n with
        | false => rfl
        | true => exact absurd ((vpcsB_take hb (k + 1)).1 v (by rw [htk]; simp)) hc
      have hcb : (chkV v != 0) = true := by simpa using hc
      rw [hr]
      clear hr hI hC hLA hls htk
      replace hc := Lib.hid hc
      repeat' (first | (with_reducible refine And.intro ?_ ?_) | (with_reducible refine gK_i (fun _ => ?_) (fun _ => ?_)) | (with_reducible refine condS_i (fun _ => ?_) (fun _ => ?_)) | (with_reducible refine drw_i (by kernel_rfl)) | simp -dsimp only [go_sem, seval, *, encT, encV, hkI, hv, hcb, undef] | ((with_reducible refine opK_c ?_); simp -dsimp only [go_sem, seval, encT, encV, hkI, hv, hcb, undef]; first | refine callK_r (by first | assumption | exact hcv) (by first | exact .inl rfl | exact .inr rfl) ?_ | (refine callK_i (by assumption) ?_ ?_ ?_; (solve | (repeat (first | exact DLe.refl _ | exact DLe.nil _ | (refine DLe.tup ?_) | (refine DLe.agg ?_ rfl) | exact trivial | (refine And.intro ?_ ?_)))); (solve | exact .inl rfl | exact .inr rfl))) | fail | omega | exact decide_eq_true (by omega) | exact DLe.refl _)
      all_goals exact DLe.refl _
  · intro hI C
    rw [List.take_length] at hI ⊢
    have hvB := vpcsB_of hI.1 hI.2
    have hso := hI.2
    generalize lastV n.vpcs = LA
    replace hI := Lib.hid hI
    replace hso := Lib.hid hso
    replace hvB := Lib.hid hvB
    repeat' (first | (with_reducible refine And.intro ?_ ?_) | (with_reducible refine gK_i (fun _ => ?_) (fun _ => ?_)) | (with_reducible refine condS_i (fun _ => ?_) (fun _ => ?_)) | (with_reducible refine drw_i (by kernel_rfl)) | simp -dsimp only [go_sem, seval, *, encT, Int.lt_irrefl, undef] | ((with_reducible refine opK_c ?_); simp -dsimp only [go_sem, seval, encT, Int.lt_irrefl, undef]; first | refine callK_r (by first | assumption | fail) (by first | exact .inl rfl | exact .inr rfl) ?_ | (refine callK_i (by assumption) ?_ ?_ ?_; (solve | (repeat (first | exact DLe.refl _ | exact DLe.nil _ | (refine DLe.tup ?_) | (refine DLe.agg ?_ rfl) | exact trivial | (refine And.intro ?_ ?_)))); (solve | exact .inl rfl | exact .inr rfl))) | fail | omega | exact decide_eq_true (by omega) | exact DLe.refl _)
    refine loopL tab_ok mixed n.links (fun k => (∀ l ∈ n.links.take k, lnkB n l = true) ∧ risK (n.links.take k) = true) (fun k => [(44, .d (.v (.int .i64 k))), (43, .d (.v (.int .i64 n.links.length))), (42, .d (.sl 2 (n.links.map encK))), (2, .d (.v (.int .i64 0))), (1, .ptr 0 0)]) (fun _ => [.box 25 ((encT n).map .d)]) (by simp [risK]) (weak_forget _ (by simp) (by (try simp only [encT]); rfl) (by (repeat' (first | exact trivial | (refine ⟨rfl, ?_⟩)))) (by first | rfl | simp only [belowH, belowE, belowC, belowL, belowR, belowP, belowL_d, belowR_d, List.length_cons, List.length_nil, Nat.reduceAdd, Nat.reduceLT, decide_true, Bool.and_self, Bool.and_true]) (by first | rfl | simp only [belowH, belowE, belowC, belowL, belowR, belowP, belowL_d, belowR_d, List.length_cons, List.length_nil, Nat.reduceAdd, Nat.reduceLT, decide_true, Bool.and_self, Bool.and_true])) ?_ ?_
    · intro k l hl hk hJ C hC
      have hkI : (k : Int) < (n.links.length : Int) := by omega
      have hwr : IntKind.i64.wrap ((k : Int) + 1) = ((k + 1 : Nat) : Int) := by rw [IntKind.wrap_i64]; omega
      have htk := take_snoc hl
      have hfa := nfindB_m n l.a (by omega) hso.out
      have hfb := nfindB_m n l.b (by omega) hso.out
      have hbad : lnkB n l = false → R = 1 := fun h => by
        rw [hR.out]
        refine chkT_one hno (.inr (.inl ?_))
        rw [List.all_eq_false]
        exact ⟨l, List.mem_of_getElem? hl, by simp [h]⟩
      have hlb : lnkB n l = ((findN n l.a).isSome && ((findN n l.b).isSome && decide (l.a < l.b))) := rfl
      have hgood : lnkB n l = true → risK (n.links.take (k + 1)) = true → (∀ l ∈ n.links.take (k + 1), lnkB n l = true) ∧ risK (n.links.take (k + 1)) = true := fun h g => by
        refine ⟨?_, g⟩
        rw [htk]
        intro u hu
        rcases List.mem_append.1 hu with hu | hu
        · exact hJ.1 u hu
        · rw [List.mem_singleton.1 hu]; exact h
      have hbad2 : risK (n.links.take (k + 1)) = false → R = 1 := fun h => by
        rw [hR.out]
        refine chkT_one hno (.inr (.inr (.inl ?_)))
        cases hb : risK n.links with
        | false => rfl
        | true => rw [risK_take hb] at h; cases h
      have hrk := risK_snoc (n.links.take k) l
      rw [← htk, hJ.2, Bool.true_and] at hrk
      clear htk
      replace hJ := Lib.hid hJ
      replace hbad := Lib.hid hbad
      replace hbad2 := Lib.hid hbad2
      replace hgood := Lib.hid hgood
      cases ea : findN n l.a with
      | none =>
        rw [ea] at hfa hlb
        have hr : R = 1 := hbad.out (by rw [hlb]; rfl)
        rw [hr]
        clear hr hlb hrk
        replace ea := Lib.hid ea
        cases eb : findN n l.b with
        | none =>
          rw [eb] at hfb
          replace eb := Lib.hid eb
          repeat' (first | (with_reducible refine And.intro ?_ ?_) | (with_reducible refine gK_i (fun _ => ?_) (fun _ => ?_)) | (with_reducible refine condS_i (fun _ => ?_) (fun _ => ?_)) | (with_reducible refine drw_i (by kernel_rfl)) | simp -dsimp only [go_sem, seval, *, encT, encK, findNP, findND, hkI, hl, undef] | ((with_reducible refine opK_c ?_); simp -dsimp only [go_sem, seval, encT, encK, findNP, findND, hkI, hl, undef]; first | refine callK_r (by first | assumption | fail) (by first | exact .inl rfl | exact .inr rfl) ?_ | (refine callK_i (by assumption) ?_ ?_ ?_; (solve | (repeat (first | exact DLe.refl _ | exact DLe.nil _ | (refine DLe.tup ?_) | (refine DLe.agg ?_ rfl) | exact trivial | (refine And.intro ?_ ?_)))); (solve | exact .inl rfl | exact .inr rfl))) | (refine opK_M [0] (hfa) ?_ ?_ ?_ ?_ ?_ ?_; (solve | rfl | simp only [go_sem, seval, encT, findNP, findND]); (solve | rfl); (solve | decide); (solve | simp); (solve | simp only [go_sem, seval, lentOK, encT, findNP, findND])) | (refine opK_M [0] (hfb) ?_ ?_ ?_ ?_ ?_ ?_; (solve | rfl | simp only [go_sem, seval, encT, findNP, findND]); (solve | rfl); (solve | decide); (solve | simp); (solve | simp only [go_sem, seval, lentOK, encT, findNP, findND])) | omega | exact decide_eq_true (by omega) | exact DLe.refl _)
          all_goals exact DLe.refl _
        | some w =>
          rw [eb] at hfb
          replace eb := Lib.hid eb
          repeat' (first | (with_reducible refine And.intro ?_ ?_) | (with_reducible refine gK_i (fun _ => ?_) (fun _ => ?_)) | (with_reducible refine condS_i (fun _ => ?_) (fun _ => ?_)) | (with_reducible refine drw_i (by kernel_rfl)) | simp -dsimp only [go_sem, seval, *, encT, encK, findNP, findND, hkI, hl, undef] | ((with_reducible refine opK_c ?_); simp -dsimp only [go_sem, seval, encT, encK, findNP, findND, hkI, hl, undef]; first | refine callK_r (by first | assumption | fail) (by first | exact .inl rfl | exact .inr rfl) ?_ | (refine callK_i (by assumption) ?_ ?_ ?_; (solve | (repeat (first | exact DLe.refl _ | exact DLe.nil _ | (refine DLe.tup ?_) | (refine DLe.agg ?_ rfl) | exact trivial | (refine And.intro ?_ ?_)))); (solve | exact .inl rfl | exact .inr rfl))) | (refine opK_M [0] (hfa) ?_ ?_ ?_ ?_ ?_ ?_; (solve | rfl | simp only [go_sem, seval, encT, findNP, findND]); (solve | rfl); (solve | decide); (solve | simp); (solve | simp only [go_sem, seval, lentOK, encT, findNP, findND])) | (refine opK_M [0] (hfb) ?_ ?_ ?_ ?_ ?_ ?_; (solve | rfl | simp only [go_sem, seval, encT, findNP, findND]); (solve | rfl); (solve | decide); (solve | simp); (solve | simp only [go_sem, seval, lentOK, encT, findNP, findND])) | omega | exact decide_eq_true (by omega) | exact DLe.refl _)
          all_goals exact DLe.refl _
      | some v =>
        rw [ea] at hfa hlb
        replace ea := Lib.hid ea
        cases eb : findN n l.b with
        | none =>
          rw [eb] at hfb hlb
          have hr : R = 1 := hbad.out (by rw [hlb]; rfl)
          rw [hr]
          clear hr hlb hrk
          replace eb := Lib.hid eb
          repeat' (first | (with_reducible refine And.intro ?_ ?_) | (with_reducible refine gK_i (fun _ => ?_) (fun _ => ?_)) | (with_reducible refine condS_i (fun _ => ?_) (fun _ => ?_)) | (with_reducible refine drw_i (by kernel_rfl)) | simp -dsimp only [go_sem, seval, *, encT, encK, findNP, findND, hkI, hl, undef] | ((with_reducible refine opK_c ?_); simp -dsimp only [go_sem, seval, encT, encK, findNP, findND, hkI, hl, undef]; first | refine callK_r (by first | assumption | fail) (by first | exact .inl rfl | exact .inr rfl) ?_ | (refine callK_i (by assumption) ?_ ?_ ?_; (solve | (repeat (first | exact DLe.refl _ | exact DLe.nil _ | (refine DLe.tup ?_) | (refine DLe.agg ?_ rfl) | exact trivial | (refine And.intro ?_ ?_)))); (solve | exact .inl rfl | exact .inr rfl))) | (refine opK_M [0] (hfa) ?_ ?_ ?_ ?_ ?_ ?_; (solve | rfl | simp only [go_sem, seval, encT, findNP, findND]); (solve | rfl); (solve | decide); (solve | simp); (solve | simp only [go_sem, seval, lentOK, encT, findNP, findND])) | (refine opK_M [0] (hfb) ?_ ?_ ?_ ?_ ?_ ?_; (solve | rfl | simp only [go_sem, seval, encT, findNP, findND]); (solve | rfl); (solve | decide); (solve | simp); (solve | simp only [go_sem, seval, lentOK, encT, findNP, findND])) | omega | exact decide_eq_true (by omega) | exact DLe.refl _)
          all_goals exact DLe.refl _
        | some w =>
          rw [eb] at hfb hlb
          replace eb := Lib.hid eb
          by_cases hab : l.a < l.b
          · have hge : decide (l.a ≥ l.b) = false := by simp; omega
            have hlt : lnkB n l = true := by rw [hlb]; simp [hab]
            clear hlb
            replace hlt := Lib.hid hlt
            by_cases hk0 : k = 0
            · have hkz : decide ((k : Int) > 0) = false := by simp; omega
              have hg := hgood.out hlt.out (by rw [hrk, hk0]; rfl)
              clear hrk
              replace hg := Lib.hid hg
              replace hk0 := Lib.hid hk0
              replace hab := Lib.hid hab
              repeat' (first | (with_reducible refine And.intro ?_ ?_) | (with_reducible refine gK_i (fun _ => ?_) (fun _ => ?_)) | (with_reducible refine condS_i (fun _ => ?_) (fun _ => ?_)) | (with_reducible refine drw_i (by kernel_rfl)) | simp -dsimp only [go_sem, seval, *, encT, encK, findNP, findND, hkI, hwr, hl, hge, hkz, undef] | ((with_reducible refine opK_c ?_); simp -dsimp only [go_sem, seval, encT, encK, findNP, findND, hkI, hwr, hl, hge, hkz, undef]; first | refine callK_r (by first | assumption | fail) (by first | exact .inl rfl | exact .inr rfl) ?_ | (refine callK_i (by assumption) ?_ ?_ ?_; (solve | (repeat (first | exact DLe.refl _ | exact DLe.nil _ | (refine DLe.tup ?_) | (refine DLe.agg ?_ rfl) | exact trivial | (refine And.intro ?_ ?_)))); (solve | exact .inl rfl | exact .inr rfl))) | (refine opK_M [0] (hfa) ?_ ?_ ?_ ?_ ?_ ?_; (solve | rfl | simp only [go_sem, seval, encT, findNP, findND]); (solve | rfl); (solve | decide); (solve | simp); (solve | simp only [go_sem, seval, lentOK, encT, findNP, findND])) | (refine opK_M [0] (hfb) ?_ ?_ ?_ ?_ ?_ ?_; (solve | rfl | simp only [go_sem, seval, encT, findNP, findND]); (solve | rfl); (solve | decide); (solve | simp); (solve | simp only [go_sem, seval, lentOK, encT, findNP, findND])) | omega | exact decide_eq_true (by omega) | exact DLe.refl _)
              exact hC _ _ hg.out (weak_forget _ (by simp) (by (try simp only [encT]); rfl) (by (repeat' (first | exact trivial | (refine ⟨rfl, ?_⟩)))) (by first | rfl | simp only [belowH, belowE, belowC, belowL, belowR, belowP, belowL_d, belowR_d, List.length_cons, List.length_nil, Nat.reduceAdd, Nat.reduceLT, decide_true, Bool.and_self, Bool.and_true]) (by first | rfl | simp only [belowH, belowE, belowC, belowL, belowR, belowP, belowL_d, belowR_d, List.length_cons, List.length_nil, Nat.reduceAdd, Nat.reduceLT, decide_true, Bool.and_self, Bool.and_true]))
            · obtain ⟨j, hj⟩ : ∃ j, k = j + 1 := ⟨k - 1, by omega⟩
              obtain ⟨y, hy⟩ : ∃ y, n.links[j]? = some y := ⟨_, List.getElem?_eq_getElem (by omega)⟩
              have hkz : decide ((k : Int) > 0) = true := by simp; omega
              have hw1 : IntKind.i64.wrap ((k : Int) - 1) = (j : Int) := by rw [IntKind.wrap_i64]; omega
              have hjI : (j : Int) < (n.links.length : Int) := by omega
              have hor := order_p y l
              rw [hj, last_take hy] at hrk
              simp only at hrk
              rw [← hj] at hrk
              replace hj := Lib.hid hj
              replace hk0 := Lib.hid hk0
              replace hab := Lib.hid hab
              by_cases ho : ordK y l < 0
              · have hg := hgood.out hlt.out (by rw [hrk]; simpa using ho)
                have hob : decide (ordK y l ≥ 0) = false := by simpa using ho
                clear hrk
                replace hg := Lib.hid hg
                replace ho := Lib.hid ho
                generalize ordK y l = O at *
                repeat' (first | (with_reducible refine And.intro ?_ ?_) | (with_reducible refine gK_i (fun _ => ?_) (fun _ => ?_)) | (with_reducible refine condS_i (fun _ => ?_) (fun _ => ?_)) | (with_reducible refine drw_i (by kernel_rfl)) | simp -dsimp only [go_sem, seval, *, encT, encK, findNP, findND, hkI, hwr, hl, hge, hkz, hw1, hjI, hy, hob, undef] | ((with_reducible refine opK_c ?_); simp -dsimp only [go_sem, seval, encT, encK, findNP, findND, hkI, hwr, hl, hge, hkz, hw1, hjI, hy, hob, undef]; first | refine callK_r (by first | assumption | exact hor) (by first | exact .inl rfl | exact .inr rfl) ?_ | (refine callK_i (by assumption) ?_ ?_ ?_; (solve | (repeat (first | exact DLe.refl _ | exact DLe.nil _ | (refine DLe.tup ?_) | (refine DLe.agg ?_ rfl) | exact trivial | (refine And.intro ?_ ?_)))); (solve | exact .inl rfl | exact .inr rfl))) | (refine opK_M [0] (hfa) ?_ ?_ ?_ ?_ ?_ ?_; (solve | rfl | simp only [go_sem, seval, encT, findNP, findND]); (solve | rfl); (solve | decide); (solve | simp); (solve | simp only [go_sem, seval, lentOK, encT, findNP, findND])) | (refine opK_M [0] (hfb) ?_ ?_ ?_ ?_ ?_ ?_; (solve | rfl | simp only [go_sem, seval, encT, findNP, findND]); (solve | rfl); (solve | decide); (solve | simp); (solve | simp only [go_sem, seval, lentOK, encT, findNP, findND])) | omega | exact decide_eq_true (by omega) | exact DLe.refl _)
                exact hC _ _ hg.out (weak_forget _ (by simp) (by (try simp only [encT]); rfl) (by (repeat' (first | exact trivial | (refine ⟨rfl, ?_⟩)))) (by first | rfl | simp only [belowH, belowE, belowC, belowL, belowR, belowP, belowL_d, belowR_d, List.length_cons, List.length_nil, Nat.reduceAdd, Nat.reduceLT, decide_true, Bool.and_self, Bool.and_true]) (by first | rfl | simp only [belowH, belowE, belowC, belowL, belowR, belowP, belowL_d, belowR_d, List.length_cons, List.length_nil, Nat.reduceAdd, Nat.reduceLT, decide_true, Bool.and_self, Bool.and_true]))
              · have hr : R = 1 := hbad2.out (by rw [hrk]; simpa using ho)
                have hob : decide (ordK y l ≥ 0) = true := by simpa using ho
                rw [hr]
                clear hrk hr
                replace ho := Lib.hid ho
                generalize ordK y l = O at *
                repeat' (first | (with_reducible refine And.intro ?_ ?_) | (with_reducible refine gK_i (fun _ => ?_) (fun _ => ?_)) | (with_reducible refine condS_i (fun _ => ?_) (fun _ => ?_)) | (with_reducible refine drw_i (by kernel_rfl)) | simp -dsimp only [go_sem, seval, *, encT, encK, findNP, findND, hkI, hwr, hl, hge, hkz, hw1, hjI, hy, hob, undef] | ((with_reducible refine opK_c ?_); simp -dsimp only [go_sem, seval, encT, encK, findNP, findND, hkI, hwr, hl, hge, hkz, hw1, hjI, hy, hob, undef]; first | refine callK_r (by first | assumption | exact hor) (by first | exact .inl rfl | exact .inr rfl) ?_ | (refine callK_i (by assumption) ?_ ?_ ?_; (solve | (repeat (first | exact DLe.refl _ | exact DLe.nil _ | (refine DLe.tup ?_) | (refine DLe.agg ?_ rfl) | exact trivial | (refine And.intro ?_ ?_)))); (solve | exact .inl rfl | exact .inr rfl))) | (refine opK_M [0] (hfa) ?_ ?_ ?_ ?_ ?_ ?_; (solve | rfl | simp only [go_sem, seval, encT, findNP, findND]); (solve | rfl); (solve | decide); (solve | simp); (solve | simp only [go_sem, seval, lentOK, encT, findNP, findND])) | (refine opK_M [0] (hfb) ?_ ?_ ?_ ?_ ?_ ?_; (solve | rfl | simp only [go_sem, seval, encT, findNP, findND]); (solve | rfl); (solve | decide); (solve | simp); (solve | simp only [go_sem, seval, lentOK, encT, findNP, findND])) | omega | exact decide_eq_true (by omega) | exact DLe.refl _)
                all_goals exact DLe.refl _
          · have hge : decide (l.a ≥ l.b) = true := by simp; omega
            have hr : R = 1 := hbad.out (by rw [hlb]; simp; omega)
            rw [hr]
            clear hr hlb hrk
            replace hab := Lib.hid hab
            repeat' (first | (with_reducible refine And.intro ?_ ?_) | (with_reducible refine gK_i (fun _ => ?_) (fun _ => ?_)) | (with_reducible refine condS_i (fun _ => ?_) (fun _ => ?_)) | (with_reducible refine drw_i (by kernel_rfl)) | simp -dsimp only [go_sem, seval, *, encT, encK, findNP, findND, hkI, hl, hge, undef] | ((with_reducible refine opK_c ?_); simp -dsimp only [go_sem, seval, encT, encK, findNP, findND, hkI, hl, hge, undef]; first | refine callK_r (by first | assumption | fail) (by first | exact .inl rfl | exact .inr rfl) ?_ | (refine callK_i (by assumption) ?_ ?_ ?_; (solve | (repeat (first | exact DLe.refl _ | exact DLe.nil _ | (refine DLe.tup ?_) | (refine DLe.agg ?_ rfl) | exact trivial | (refine And.intro ?_ ?_)))); (solve | exact .inl rfl | exact .inr rfl))) | (refine opK_M [0] (hfa) ?_ ?_ ?_ ?_ ?_ ?_; (solve | rfl | simp only [go_sem, seval, encT, findNP, findND]); (solve | rfl); (solve | decide); (solve | simp); (solve | simp only [go_sem, seval, lentOK, encT, findNP, findND])) | (refine opK_M [0] (hfb) ?_ ?_ ?_ ?_ ?_ ?_; (solve | rfl | simp only [go_sem, seval, encT, findNP, findND]); (solve | rfl); (solve | decide); (solve | simp); (solve | simp only [go_sem, seval, lentOK, encT, findNP, findND])) | omega | exact decide_eq_true (by omega) | exact DLe.refl _)
            all_goals exact DLe.refl _
    · intro hJ C
      rw [List.take_length] at hJ
      have hpe := peace_p n (by omega) (by omega) (fun v hv => by have := (vpcOK_of (hI.out.1 v hv)).n4; omega) (fun l hl => by
        have := hJ.1 l hl
        unfold lnkB at this
        simp only [Bool.and_eq_true] at this
        exact ⟨find_ids this.1, find_ids this.2.1⟩)
      have hr : R = if peaceN n = true then 0 else 1 := by
        rw [hR.out]
        split
        · rename_i hp
          exact chkT_zero hno hvB.out (by rw [List.all_eq_true]; exact hJ.1) hJ.2 hp
        · rename_i hp
          exact chkT_one hno (.inr (.inr (.inr (by simpa using hp))))
      rw [hr]
      clear hr
      replace hJ := Lib.hid hJ
      cases hp : peaceN n with
      | true =>
        rw [hp] at hpe
        replace hp := Lib.hid hp
        repeat' (first | (with_reducible refine And.intro ?_ ?_) | (with_reducible refine gK_i (fun _ => ?_) (fun _ => ?_)) | (with_reducible refine condS_i (fun _ => ?_) (fun _ => ?_)) | (with_reducible refine drw_i (by kernel_rfl)) | simp -dsimp only [go_sem, seval, *, encT, Int.lt_irrefl, undef] | ((with_reducible refine opK_c ?_); simp -dsimp only [go_sem, seval, encT, Int.lt_irrefl, undef]; first | refine callK_r (by first | assumption | exact hpe) (by first | exact .inl rfl | exact .inr rfl) ?_ | (refine callK_i (by assumption) ?_ ?_ ?_; (solve | (repeat (first | exact DLe.refl _ | exact DLe.nil _ | (refine DLe.tup ?_) | (refine DLe.agg ?_ rfl) | exact trivial | (refine And.intro ?_ ?_)))); (solve | exact .inl rfl | exact .inr rfl))) | fail | omega | exact decide_eq_true (by omega) | exact DLe.refl _)
        all_goals exact DLe.refl _
      | false =>
        rw [hp] at hpe
        replace hp := Lib.hid hp
        repeat' (first | (with_reducible refine And.intro ?_ ?_) | (with_reducible refine gK_i (fun _ => ?_) (fun _ => ?_)) | (with_reducible refine condS_i (fun _ => ?_) (fun _ => ?_)) | (with_reducible refine drw_i (by kernel_rfl)) | simp -dsimp only [go_sem, seval, *, encT, Int.lt_irrefl, undef] | ((with_reducible refine opK_c ?_); simp -dsimp only [go_sem, seval, encT, Int.lt_irrefl, undef]; first | refine callK_r (by first | assumption | exact hpe) (by first | exact .inl rfl | exact .inr rfl) ?_ | (refine callK_i (by assumption) ?_ ?_ ?_; (solve | (repeat (first | exact DLe.refl _ | exact DLe.nil _ | (refine DLe.tup ?_) | (refine DLe.agg ?_ rfl) | exact trivial | (refine And.intro ?_ ?_)))); (solve | exact .inl rfl | exact .inr rfl))) | fail | omega | exact decide_eq_true (by omega) | exact DLe.refl _)
        all_goals exact DLe.refl _
end Go.Proofs.Ytinnohljknmolaa
namespace Go.Proofs.Ytinnohljknmolaa
open Go Go.RowKit
structure NetOK (n : Net) : Prop where
  n6 : n.vpcs.length ≤ 6
  n12 : n.links.length ≤ 12
  vp : ∀ v ∈ n.vpcs, chkV v = 0
  rise : n.vpcs.Pairwise fun a b => a.id < b.id
  lk : ∀ l ∈ n.links, lnkB n l = true
  rk : risK n.links = true
  pe : peaceN n = true
theorem netOK {n : Net} : chkT n = 0 ↔ NetOK n := by
  constructor
  · intro h
    unfold chkT at h
    split at h
    · cases h
    · rename_i h0
      split at h
      · rename_i h1
        simp only [Bool.and_eq_true] at h1
        have := vpcsB_take h1.1 n.vpcs.length
        rw [List.take_length] at this
        exact ⟨by omega, by omega, this.1, this.2, by simpa using h1.2.1, h1.2.2.1, h1.2.2.2⟩
      · cases h
  · rintro ⟨a, b, c, d, e, f, g⟩
    exact chkT_zero (by omega) (vpcsB_of c d) (by simpa using e) f g
theorem NetOK.ids {n : Net} (h : NetOK n) : ∀ l ∈ n.links, l.a ∈ n.vpcs.map (·.id) ∧ l.b ∈ n.vpcs.map (·.id) := fun l hl => by
  have := h.lk l hl
  unfold lnkB at this
  simp only [Bool.and_eq_true] at this
  exact ⟨find_ids this.1, find_ids this.2.1⟩
end Go.Proofs.Ytinnohljknmolaa
namespace Go.Proofs.Ytinnohljknmolaa
open Go Go.RowKit
def Net.zero : Net := ⟨[], []⟩
/-- The place of a network. -/
def vpcIx (n : Net) (id : Int) : Option Nat := n.vpcs.findIdx? fun v => v.id == id
end Go.Proofs.Ytinnohljknmolaa
namespace Go.Proofs.Ytinnohljknmolaa
open Go Go.RowKit
theorem vpcAt_p (n : Net) (id : Int) (hl : n.vpcs.length ≤ 1000000000) : PSpec Try.prog 8 [.agg (encT n), .v (.int .i64 id)] (.v (.int .i64 (idxI (fun v => v.id == id) n.vpcs))) := by
  refine ps_i tab_ok mixed Try.func8 rfl Try.ntmps8 Try.results8 (by kernel_rfl) ?_
  repeat' (first | (with_reducible refine And.intro ?_ ?_) | (with_reducible refine gK_i (fun _ => ?_) (fun _ => ?_)) | (with_reducible refine condS_i (fun _ => ?_) (fun _ => ?_)) | (with_reducible refine drw_i (by kernel_rfl)) | simp -dsimp only [go_sem, seval, *, encT] | ((with_reducible refine opK_c ?_); simp -dsimp only [go_sem, seval, encT]; first | refine callK_r (by first | assumption | fail) (by first | exact .inl rfl | exact .inr rfl) ?_ | (refine callK_i (by assumption) ?_ ?_ ?_; (solve | (repeat (first | exact DLe.refl _ | exact DLe.nil _ | (refine DLe.tup ?_) | (refine DLe.agg ?_ rfl) | exact trivial | (refine And.intro ?_ ?_)))); (solve | exact .inl rfl | exact .inr rfl))) | fail | omega | exact decide_eq_true (by omega) | exact DLe.refl _)
  refine loopL tab_ok mixed n.vpcs (fun k => (n.vpcs.take k).all (fun v => !(v.id == id)) = true) (fun k => [(5, .d (.v (.int .i64 k))), (4, .d (.v (.int .i64 0))), (2, .ptr 0 0), (1, .d (.v (.int .i64 id)))]) (fun _ => [.box 25 ((encT n).map .d)]) rfl (weak_forget _ (by simp) (by (try simp only [encT]); rfl) (by (repeat' (first | exact trivial | (refine ⟨rfl, ?_⟩)))) (by first | rfl | simp only [belowH, belowE, belowC, belowL, belowR, belowP, belowL_d, belowR_d, List.length_cons, List.length_nil, Nat.reduceAdd, Nat.reduceLT, decide_true, Bool.and_self, Bool.and_true]) (by first | rfl | simp only [belowH, belowE, belowC, belowL, belowR, belowP, belowL_d, belowR_d, List.length_cons, List.length_nil, Nat.reduceAdd, Nat.reduceLT, decide_true, Bool.and_self, Bool.and_true])) ?_ ?_
  · intro k p hp hk hI C hC
    have hkI : (k : Int) < (n.vpcs.length : Int) := by omega
    have hwr : IntKind.i64.wrap ((k : Int) + 1) = ((k + 1 : Nat) : Int) := by rw [IntKind.wrap_i64]; omega
    replace hI := Lib.hid hI
    repeat' (first | (with_reducible refine And.intro ?_ ?_) | (with_reducible refine gK_i (fun _ => ?_) (fun _ => ?_)) | (with_reducible refine condS_i (fun _ => ?_) (fun _ => ?_)) | (with_reducible refine drw_i (by kernel_rfl)) | simp -dsimp only [go_sem, seval, *, encT, encV, hkI, hwr, hp] | ((with_reducible refine opK_c ?_); simp -dsimp only [go_sem, seval, encT, encV, hkI, hwr, hp]; first | refine callK_r (by first | assumption | fail) (by first | exact .inl rfl | exact .inr rfl) ?_ | (refine callK_i (by assumption) ?_ ?_ ?_; (solve | (repeat (first | exact DLe.refl _ | exact DLe.nil _ | (refine DLe.tup ?_) | (refine DLe.agg ?_ rfl) | exact trivial | (refine And.intro ?_ ?_)))); (solve | exact .inl rfl | exact .inr rfl))) | fail | omega | exact decide_eq_true (by omega) | exact DLe.refl _)
    · rename_i h1
      exact dle_n (idxI_hit hp (by simpa using h1) hI.out).symm
    · rename_i h1
      exact hC _ _ (no_snoc hp hI.out (by simpa using h1)) (weak_forget _ (by simp) (by (try simp only [encT]); rfl) (by (repeat' (first | exact trivial | (refine ⟨rfl, ?_⟩)))) (by first | rfl | simp only [belowH, belowE, belowC, belowL, belowR, belowP, belowL_d, belowR_d, List.length_cons, List.length_nil, Nat.reduceAdd, Nat.reduceLT, decide_true, Bool.and_self, Bool.and_true]) (by first | rfl | simp only [belowH, belowE, belowC, belowL, belowR, belowP, belowL_d, belowR_d, List.length_cons, List.length_nil, Nat.reduceAdd, Nat.reduceLT, decide_true, Bool.and_self, Bool.and_true]))
  · intro hI C
    replace hI := Lib.hid hI
    repeat' (first | (with_reducible refine And.intro ?_ ?_) | (with_reducible refine gK_i (fun _ => ?_) (fun _ => ?_)) | (with_reducible refine condS_i (fun _ => ?_) (fun _ => ?_)) | (with_reducible refine drw_i (by kernel_rfl)) | simp -dsimp only [go_sem, seval, *, encT, Int.lt_irrefl] | ((with_reducible refine opK_c ?_); simp -dsimp only [go_sem, seval, encT, Int.lt_irrefl]; first | refine callK_r (by first | assumption | fail) (by first | exact .inl rfl | exact .inr rfl) ?_ | (refine callK_i (by assumption) ?_ ?_ ?_; (solve | (repeat (first | exact DLe.refl _ | exact DLe.nil _ | (refine DLe.tup ?_) | (refine DLe.agg ?_ rfl) | exact trivial | (refine And.intro ?_ ?_)))); (solve | exact .inl rfl | exact .inr rfl))) | fail | omega | exact decide_eq_true (by omega) | exact DLe.refl _)
    exact dle_n (idxI_no hI.out).symm
theorem vpcAt_ix (n : Net) (id : Int) : idxI (fun v => v.id == id) n.vpcs = match vpcIx n id with | some i => (i : Int) | none => -1 := rfl
/-- Does a link join two networks? -/
def linkedN (n : Net) (a b : Int) : Bool := n.links.any fun y => decide (y = lnk a b)
end Go.Proofs.Ytinnohljknmolaa
namespace Go.Proofs.Ytinnohljknmolaa
open Go Go.RowKit
section
variable {α : Type} {key : α → Int} {x y : α} {l out : List α} {q : Nat}
end
theorem filt_snoc {α : Type} {f : α → Bool} {l : List α} {k : Nat} {x : α} (h : l[k]? = some x) : (l.take (k + 1)).filter f = if f x then (l.take k).filter f ++ [x] else (l.take k).filter f := by
  rw [take_snoc h, List.filter_append]
  cases hx : f x <;> simp [hx]
end Go.Proofs.Ytinnohljknmolaa
namespace Go.Proofs.Ytinnohljknmolaa
open Go Go.RowKit
/-- Is a network one that a network sees? -/
def nearN (n : Net) (id : Int) (v : Vpc) : Bool := v.id == id || linkedN n v.id id
def rtsV (v : Vpc) : List Rte := v.ranges.map fun r => ⟨r.at_, v.id⟩
def rtsN (n : Net) (id : Int) (k : Nat) : List Rte := ((n.vpcs.take k).filter (nearN n id)).flatMap rtsV
def sortR (l : List Rte) : List Rte := l.foldl (fun s x => insK (·.at_.at_) x s) []
/-- The table of a network. -/
def tabN (n : Net) (id : Int) : List Rte := sortR (rtsN n id n.vpcs.length)
theorem rtsN_snoc {n : Net} {id : Int} {k : Nat} {v : Vpc} (h : n.vpcs[k]? = some v) : rtsN n id (k + 1) = if nearN n id v then rtsN n id k ++ rtsV v else rtsN n id k := by
  unfold rtsN
  rw [filt_snoc h]
  split
  · rw [List.flatMap_append]; simp
  · rfl
theorem sortR_snoc (l : List Rte) (x : Rte) : sortR (l ++ [x]) = insK (·.at_.at_) x (sortR l) := by unfold sortR; rw [List.foldl_append]; rfl
theorem rev_ind {α : Type} {P : List α → Prop} (h0 : P []) (hs : ∀ l x, P l → P (l ++ [x])) (l : List α) : P l := by
  have : ∀ m : List α, P m.reverse := fun m => by
    induction m with
    | nil => exact h0
    | cons x m ih => rw [List.reverse_cons]; exact hs _ _ ih
  have h := this l.reverse
  rwa [List.reverse_reverse] at h
theorem sortR_perm (l : List Rte) : (sortR l).Perm l := by
  refine rev_ind (P := fun l => (sortR l).Perm l) (List.Perm.refl _) (fun l x h => ?_) l
  rw [sortR_snoc]
  exact (insK_perm _ _ _).trans (h.append_right _)
theorem sortR_sorted {l : List Rte} (h : l.Pairwise fun a b => a.at_.at_ ≠ b.at_.at_) : (sortR l).Pairwise fun a b => a.at_.at_ < b.at_.at_ := by
  revert h
  refine rev_ind (P := fun l => (l.Pairwise fun a b => a.at_.at_ ≠ b.at_.at_) → (sortR l).Pairwise fun a b => a.at_.at_ < b.at_.at_) (fun _ => List.Pairwise.nil) (fun l x ih h => ?_) l
  rw [List.pairwise_append] at h
  rw [sortR_snoc]
  exact insK_sorted (ih h.1) fun y hy => h.2.2 y ((sortR_perm l).mem_iff.1 hy) x (by simp)
theorem rtsV_len (v : Vpc) : (rtsV v).length = v.ranges.length := by simp [rtsV]
theorem rtsV_mem {v : Vpc} {r : Rte} : r ∈ rtsV v ↔ ∃ q ∈ v.ranges, r = ⟨q.at_, v.id⟩ := by simp [rtsV, eq_comm]
theorem rtsN_mem {n : Net} {id : Int} {k : Nat} {r : Rte} : r ∈ rtsN n id k ↔ ∃ v ∈ n.vpcs.take k, nearN n id v = true ∧ r ∈ rtsV v := by
  unfold rtsN
  rw [List.mem_flatMap]
  simp only [List.mem_filter, and_assoc]
theorem near_head {n : Net} {id : Int} {v : Vpc} (h : nearN n id v = true) : headN n v.id = headN n id := by
  unfold nearN at h
  rcases Bool.or_eq_true_iff.1 h with h | h
  · rw [beq_iff_eq.1 h]
  · unfold linkedN at h
    obtain ⟨y, hy, e⟩ := List.any_eq_true.1 h
    have e := of_decide_eq_true e
    subst e
    rw [headN_eq]
    exact lnk_head hy
theorem apart_near {n : Net} (hok : NetOK n) {id : Int} {i j : Nat} {v w : Vpc} (hij : i < j) (hv : n.vpcs[i]? = some v) (hw : n.vpcs[j]? = some w) (nv : nearN n id v = true) (nw : nearN n id w = true) : clashV w v = false := by
  cases hc : clashV w v with
  | false => rfl
  | true =>
    have := peace_bad (n := n) hij hw hv (by unfold foeN; rw [hc, near_head nv, near_head nw]; simp)
    rw [hok.pe] at this; cases this
theorem rtsV_right {v : Vpc} (h : VpcOK v) {r : Rte} (hr : r ∈ rtsV v) : r.at_.right = true := by
  obtain ⟨q, hq, rfl⟩ := rtsV_mem.1 hr
  exact rangeB_right (h.ranges q hq)
theorem rtsN_right {n : Net} (hok : NetOK n) {id : Int} {k : Nat} {r : Rte} (hr : r ∈ rtsN n id k) : r.at_.right = true := by
  obtain ⟨v, hv, -, h⟩ := rtsN_mem.1 hr
  exact rtsV_right (vpcOK_of (hok.vp v (List.mem_of_mem_take hv))) h
/-- No two routes of a table meet. -/
theorem rtsN_apart {n : Net} (hok : NetOK n) (id : Int) : ∀ k, k ≤ n.vpcs.length → (rtsN n id k).Pairwise fun a b => a.at_.meets b.at_ = false
  | 0, _ => by unfold rtsN; simp
  | k + 1, hk => by
    obtain ⟨v, hv⟩ : ∃ v, n.vpcs[k]? = some v := ⟨_, List.getElem?_eq_getElem hk⟩
    have ih := rtsN_apart hok id k (by omega)
    rw [rtsN_snoc hv]
    split
    · rename_i hn
      have hvo := vpcOK_of (hok.vp v (List.mem_of_getElem? hv))
      rw [List.pairwise_append]
      refine ⟨ih, ?_, fun a ha b hb => ?_⟩
      · unfold rtsV
        rw [List.pairwise_map]
        have := apaF_nil.1 hvo.ar
        rw [List.pairwise_map] at this
        exact this.imp fun h => by rw [meets_comm]; exact h
      · obtain ⟨w, hw, nw, h⟩ := rtsN_mem.1 ha
        obtain ⟨i, hi⟩ := List.mem_iff_getElem?.1 hw
        have hik : i < k := by
          have := (List.getElem?_eq_some_iff.1 hi).1
          rw [List.length_take] at this; omega
        rw [List.getElem?_take_of_lt hik] at hi
        have hc := apart_near hok hik hi hv nw hn
        obtain ⟨q, hq, rfl⟩ := rtsV_mem.1 h
        obtain ⟨p, hp, rfl⟩ := rtsV_mem.1 hb
        unfold clashV at hc
        rw [List.any_eq_false] at hc
        have := hc p hp
        rw [Bool.not_eq_true, List.any_eq_false] at this
        have := this q hq
        rw [Bool.not_eq_true] at this
        show q.at_.meets p.at_ = false
        rw [meets_comm]; exact this
    · exact ih
theorem rtsN_keys {n : Net} (hok : NetOK n) (id : Int) {k : Nat} (hk : k ≤ n.vpcs.length) : (rtsN n id k).Pairwise fun a b => a.at_.at_ ≠ b.at_.at_ :=
  (rtsN_apart hok id k hk).imp_of_mem fun ha hb h => meets_at (rtsN_right hok ha) (rtsN_right hok hb) h
theorem rtsN_len {n : Net} (hok : NetOK n) (id : Int) : ∀ k, k ≤ n.vpcs.length → (rtsN n id k).length ≤ 4 * k
  | 0, _ => by unfold rtsN; simp
  | k + 1, hk => by
    obtain ⟨v, hv⟩ : ∃ v, n.vpcs[k]? = some v := ⟨_, List.getElem?_eq_getElem hk⟩
    have ih := rtsN_len hok id k (by omega)
    have := (vpcOK_of (hok.vp v (List.mem_of_getElem? hv))).n4
    rw [rtsN_snoc hv]
    split
    · rw [List.length_append, rtsV_len]; omega
    · omega
/-- How often a network was told of. -/
def NearI (id : Int) (L : List Lnk) (k : Nat) (ents : List (List Int × Int)) : Prop := ∀ x : Int, 0 ≤ (lkE ents [x]).getD 0 ∧ (lkE ents [x]).getD 0 ≤ 1 + 2 * (k : Int) ∧ ((lkE ents [x]).getD 0 ≠ 0 ↔ x = id ∨ ∃ l ∈ L.take k, (l.a = id ∨ l.b = id) ∧ (l.a = x ∨ l.b = x))
theorem nearI_0 (id : Int) (L : List Lnk) : NearI id L 0 (upE [] [id] 1) := fun x => by
  rw [lkE_up]
  by_cases h : id = x
  · subst h; simp
  · rw [if_neg (by simpa using h)]
    simp [lkE]
    exact fun e => h e.symm
theorem nearI_skip {id : Int} {L : List Lnk} {k : Nat} {ents : List (List Int × Int)} {l : Lnk} (h : NearI id L k ents) (hl : L[k]? = some l) (ha : l.a ≠ id) (hb : l.b ≠ id) : NearI id L (k + 1) ents := fun x => by
  obtain ⟨h1, h2, h3⟩ := h x
  refine ⟨h1, by omega, h3.trans ?_⟩
  rw [take_snoc hl]
  constructor
  · rintro (e | ⟨m, hm, e⟩)
    · exact .inl e
    · exact .inr ⟨m, by simp [hm], e⟩
  · rintro (e | ⟨m, hm, e⟩)
    · exact .inl e
    · rcases List.mem_append.1 hm with hm | hm
      · exact .inr ⟨m, hm, e⟩
      · simp at hm
        subst hm
        exact absurd e.1 (by simp [ha, hb])
def nearU (ents : List (List Int × Int)) (x : Int) : List (List Int × Int) := upE ents [x] ((lkE ents [x]).getD 0 + 1)
theorem nearU_look (ents : List (List Int × Int)) (x y : Int) : (lkE (nearU ents x) [y]).getD 0 = (lkE ents [y]).getD 0 + if x = y then 1 else 0 := by
  unfold nearU
  rw [lkE_up]
  by_cases h : x = y
  · subst h; simp
  · rw [if_neg (by simpa using h), if_neg h]; omega
theorem nearI_add {id : Int} {L : List Lnk} {k : Nat} {ents : List (List Int × Int)} {l : Lnk} (h : NearI id L k ents) (hl : L[k]? = some l) (ht : l.a = id ∨ l.b = id) : NearI id L (k + 1) (nearU (nearU ents l.a) l.b) := fun x => by
  obtain ⟨h1, h2, h3⟩ := h x
  rw [nearU_look, nearU_look, take_snoc hl]
  refine ⟨by split <;> split <;> omega, by split <;> split <;> omega, ?_⟩
  constructor
  · intro hne
    by_cases h0 : (lkE ents [x]).getD 0 = 0
    · have hx : l.a = x ∨ l.b = x := by
        rcases Decidable.em (l.a = x) with e | e
        · exact .inl e
        · rcases Decidable.em (l.b = x) with e2 | e2
          · exact .inr e2
          · rw [if_neg e, if_neg e2] at hne; omega
      exact .inr ⟨l, by simp, ht, hx⟩
    · rcases h3.1 h0 with e | ⟨m, hm, e⟩
      · exact .inl e
      · exact .inr ⟨m, by simp [hm], e⟩
  · intro hor
    have : (lkE ents [x]).getD 0 ≠ 0 ∨ l.a = x ∨ l.b = x := by
      rcases hor with e | ⟨m, hm, e⟩
      · exact .inl (h3.2 (.inl e))
      · rcases List.mem_append.1 hm with hm | hm
        · exact .inl (h3.2 (.inr ⟨m, hm, e⟩))
        · simp at hm; subst hm; exact .inr e.2
    rcases this with e | e | e
    · split <;> split <;> omega
    · rw [if_pos e]; split <;> omega
    · rw [if_pos e]; split <;> omega
theorem nearI_end {n : Net} (hok : NetOK n) {id : Int} {ents : List (List Int × Int)} (h : NearI id n.links n.links.length ents) (v : Vpc) : ((lkE ents [v.id]).getD 0 == 0) = !nearN n id v := by
  have h3 := (h v.id).2.2
  rw [List.take_length] at h3
  have : nearN n id v = true ↔ (lkE ents [v.id]).getD 0 ≠ 0 := by
    rw [h3]
    unfold nearN linkedN
    simp only [Bool.or_eq_true, beq_iff_eq, List.any_eq_true, decide_eq_true_eq]
    constructor
    · rintro (e | ⟨y, hy, rfl⟩)
      · exact .inl e
      · refine .inr ⟨_, hy, ?_⟩
        unfold lnk
        simp only
        by_cases c : id < v.id
        · have := Int.lt_asymm c
          simp [c, this]
        · by_cases c2 : v.id < id
          · simp [c, c2]
          · simp [c, c2]; omega
    · rintro (e | ⟨y, hy, h1, h2⟩)
      · exact .inl e
      · by_cases e : v.id = id
        · exact .inl e
        · refine .inr ⟨y, hy, ?_⟩
          have hlt : y.a < y.b := by
            have := hok.lk y hy
            unfold lnkB at this
            simp only [Bool.and_eq_true, decide_eq_true_eq] at this
            exact this.2.2
          obtain ⟨e1, e2⟩ := lnk_of hlt
          rcases h1 with h1 | h1 <;> rcases h2 with h2 | h2
          · exact absurd (h2.symm.trans h1) e
          · rw [← h1, ← h2]; exact e2.symm
          · rw [← h1, ← h2]; exact e1.symm
          · exact absurd (h2.symm.trans h1) e
  rw [Bool.eq_iff_iff]
  simp only [beq_iff_eq, Bool.not_eq_true', ← Bool.not_eq_true]
  rw [this]; simp
end Go.Proofs.Ytinnohljknmolaa
namespace Go.Proofs.Ytinnohljknmolaa
open Go Go.RowKit Go.Proofs Go.ChangeShapes Go.WideShapes Go.Deep
section
variable {H : Type} {enc : TypeId × Value → H} {P : Program} {w : World} {base : Nat} {spare : Nat → Bool} {held : Bool}
/-- Whatever is read as of type t is an R. -/
def Rd {α : Type} (enc : TypeId × Value → H) (P : Program) (w : World) (base : Nat) (spare : Nat → Bool) (held : Bool) (t : TypeId) (R : List Value → α → Prop) : Prop :=
  ∀ fuel cs x, DataW.trod enc P w base spare held fuel t cs = some x → ∃ a, R cs a
theorem Rd.map {α β : Type} {t : TypeId} {R : List Value → α → Prop} {R' : List Value → β → Prop} (h : Rd enc P w base spare held t R) (f : α → β) (hf : ∀ cs a, R cs a → R' cs (f a)) : Rd enc P w base spare held t R' := by
  intro fuel cs x hx
  obtain ⟨a, ha⟩ := h fuel cs x hx
  exact ⟨f a, hf _ _ ha⟩
def in64 (n : Int) : Prop := -9223372036854775808 ≤ n ∧ n ≤ 9223372036854775807
def IntR (cs : List Value) (n : Int) : Prop := cs = [.int .i64 n] ∧ in64 n
theorem in64_wf {n : Int} (h : (Lit.int .i64 n).wf = true) : in64 n := by
  simp only [Lit.wf, Bool.and_eq_true, decide_eq_true_eq] at h
  have h1 : IntKind.i64.min = -9223372036854775808 := rfl
  have h2 : IntKind.i64.max = 9223372036854775807 := rfl
  rw [h1, h2] at h
  exact h
theorem rd_int {t : TypeId} (ht : P.underlying t = some (.int .i64)) : Rd enc P w base spare held t IntR := by
  intro fuel cs x hx
  obtain ⟨n, h, _, hw⟩ := DataW.trod_int ht hx
  exact ⟨n, h, in64_wf hw⟩
theorem rd_field {α : Type} {t : TypeId} {fs : Array Field} {fuel : Nat} {cs : List Value} {x : DataW H × List MemPlace} (ht : P.underlying t = some (.struct fs)) (h : DataW.trod enc P w base spare held fuel t cs = some x)
    (j : Nat) {f : Field} (hf : fs[j]? = some f) {R : List Value → α → Prop} (hr : Rd enc P w base spare held f.type R) : ∃ a, R ((cs.drop f.offset).take (P.cellsOf f.type)) a := by
  obtain ⟨xs, n, _, _, _, hlen, hg⟩ := DataW.trod_struct ht h
  have h1 := hg j f hf
  have hj : j < xs.length := by rw [hlen]; exact (Array.getElem?_eq_some_iff.1 hf).1
  rw [List.getElem?_eq_getElem hj] at h1
  exact hr _ _ _ h1
theorem rd_len {t : TypeId} {fs : Array Field} {fuel : Nat} {cs : List Value} {x : DataW H × List MemPlace} (ht : P.underlying t = some (.struct fs)) (h : DataW.trod enc P w base spare held fuel t cs = some x) : cs.length = P.cellsOf t := by
  obtain ⟨_, _, _, _, h, _⟩ := DataW.trod_struct ht h
  exact h
theorem pick_list {α : Type} {Q : Nat → α → Prop} : ∀ (n : Nat), (∀ i, i < n → ∃ a, Q i a) → ∃ l : List α, l.length = n ∧ ∀ i (h : i < l.length), Q i l[i]
  | 0, _ => ⟨[], rfl, fun i h => by simp at h⟩
  | n + 1, h => by
    obtain ⟨l, hl, hq⟩ := pick_list n fun i hi => h i (by omega)
    obtain ⟨a, ha⟩ := h n (by omega)
    refine ⟨l ++ [a], by simp [hl], fun i hi => ?_⟩
    rcases Nat.lt_or_ge i l.length with h1 | h1
    · rw [List.getElem_append_left h1]; exact hq i h1
    · have : i = n := by simp at hi; omega
      subst this
      rw [List.getElem_append_right h1]
      simpa using ha
/-- What came in lies below the heap's size. -/
def inW (w : World) : Area := fun b => b < w.heap.size
theorem arg_int {r : Reach} {b0 : Nat} {t : TypeId} {v : Value} {d : DataW H} {p : List MemPlace} (ht : P.underlying t = some (.int .i64)) (hval : Value.okWide P w r b0 t v) (hd : DataW.Trod enc P w base spare held t v d p) : ∃ n, v = .int .i64 n ∧ in64 n := by
  obtain ⟨n, h, _, _, hw⟩ := open_int ht hval hd
  exact ⟨n, h, in64_wf hw⟩
theorem trod_lts {t : TypeId} {v : Value} {d : DataW H} {p : List MemPlace} (h : DataW.Trod enc P w base spare held t v d p) : ∀ x ∈ p, x.block < w.heap.size := by
  obtain ⟨m, hm⟩ := h
  exact DataW.trod_lt m _ _ _ hm
end
end Go.Proofs.Ytinnohljknmolaa
namespace Go.Proofs.Ytinnohljknmolaa
open Go Go.RowKit Go.Proofs Go.Shelf
/-- A row's cells, and the key that they have. -/
structure SRow (HP : List Value → Int → Prop) (sz : Nat) where
  xs : List Value
  len : xs.length = sz
  one : ∀ v ∈ xs, v.oneCell' = true
  key : Int
  head : HP xs key
/-- The key is the first cell. -/
@[reducible] def HP0 (xs : List Value) (k : Int) : Prop := xs[0]? = some (.int .i64 k)
def cfS {HP : List Value → Int → Prop} {sz : Nat} (x y : SRow HP sz) : Int := cmpI x.key y.key
theorem ltS {HP : List Value → Int → Prop} {sz : Nat} (x y : SRow HP sz) : ltOf cfS x y = decide (x.key < y.key) := cmpI_neg _ _
theorem swoS {HP : List Value → Int → Prop} {sz : Nat} : Sort.SWO (ltOf (cfS (HP := HP) (sz := sz))) where
  irrefl x := by rw [ltS]; simp
  trans x y z h1 h2 := by rw [ltS] at *; simp at *; omega
  ntrans x y z h1 h2 := by rw [ltS] at *; simp at *; omega
@[reducible] def srow_inh (n : Nat) : Inhabited (SRow HP0 (n + 1)) := ⟨⟨List.replicate (n + 1) (.int .i64 0), by simp, fun v hv => by rw [List.eq_of_mem_replicate hv]; rfl, 0, by unfold HP0; simp⟩⟩
theorem putCells_take (F cur : Array Value) (h : F.size ≤ cur.size) : (Sort.putCells id 0 F cur).toList.take F.size = F.toList ∧ (Sort.putCells id 0 F cur).size = cur.size := by
  refine ⟨?_, by simp [Sort.putCells]⟩
  apply List.ext_getElem?
  intro i
  by_cases hi : i < F.size
  · rw [List.getElem?_take_of_lt hi]
    have hc : i < cur.size := by omega
    simp [Sort.putCells, hi, hc]
  · rw [List.getElem?_eq_none (by rw [List.length_take]; omega), List.getElem?_eq_none (by simp; omega)]
theorem flatK_rows {HP : List Value → Int → Prop} {sz : Nat} (n : Nat) (hs : sz = n + 1) [Inhabited (SRow HP sz)] (d : Array (SRow HP sz)) : (Sort.flatK (fun r : SRow HP sz => r.xs) sz d).toList = (d.toList.map (·.xs)).flatten := by
  have hrow : ∀ r ∈ d.toList.map (·.xs), r.length = sz := fun r hr => by
    obtain ⟨x, -, rfl⟩ := List.mem_map.1 hr; exact x.len
  have hlen : (d.toList.map (·.xs)).flatten.length = d.size * sz := by rw [flatten_len hrow]; simp
  apply List.ext_getElem?
  intro t
  by_cases ht : t < d.size * sz
  · have h1 : t / sz < d.size := Nat.div_lt_of_lt_mul (by rw [Nat.mul_comm]; exact ht)
    have h2 : t % sz < sz := Nat.mod_lt _ (by omega)
    have h3 : t / sz * sz + t % sz = t := by rw [Nat.mul_comm]; exact Nat.div_add_mod t sz
    have h4 := flatten_atG hrow (t / sz) (t % sz) h2
    rw [h3] at h4
    rw [h4]
    have h5 := Sort.get_flatK (fun r : SRow HP sz => r.xs) sz d t ht
    have h6 : t < (Sort.flatK (fun r : SRow HP sz => r.xs) sz d).size := by rw [Sort.size_flatK]; exact ht
    rw [getElem!_pos (Sort.flatK (fun r : SRow HP sz => r.xs) sz d) t h6] at h5
    rw [Array.getElem?_toList, Array.getElem?_eq_getElem h6, h5]
    have hl : (d[t / sz]).xs.length = sz := (d[t / sz]).len
    have e7 : (d[t / sz]).xs[t % sz]? = some ((d[t / sz]).xs[t % sz]!) := by
      rw [getElem!_pos (d[t / sz]).xs (t % sz) (by rw [hl]; exact h2)]
      exact List.getElem?_eq_getElem _
    rw [getElem!_pos d (t / sz) h1]
    rw [List.getElem?_map, Array.getElem?_toList, Array.getElem?_eq_getElem h1]
    simp only [Option.map_some, Option.bind_some]
    exact e7.symm
  · rw [List.getElem?_eq_none (by simp; omega), List.getElem?_eq_none (by omega)]
/-- Sorting, said of rows of values. -/
theorem sort_raw {HP : List Value → Int → Prop} {n : Nat} (inh : Inhabited (SRow HP (n + 1))) {P : Program} {ρ : Ren} (L : SlLaysF0.n6 P ρ) {f fc E : Nat} (hf : ρ.f 6 = f) (aE : ∀ w, (isAgg (ρ.t 24)).run P w = .ok true w) (zE : ∀ w, (Go.sizeOf (ρ.t 24)).run P w = .ok (n + 1) w) (eg : ∀ args w, (callFunc fc args).run P w = .ok (.enter fc args) w)
    (hcmp : ∀ (x y : SRow HP (n + 1)) (W : World), Calls P fc #[.agg x.xs.toArray, .agg y.xs.toArray] W fun e w' => e = .returned (.int .i64 (cfS x y)) ∧ ∃ q os', w' = Sort.grow (W.drewN q) os')
    (ds : List (SRow HP (n + 1))) (w : World) (gb cap : Nat) (cur : Array Value) (hh : w.heap[gb]? = some (.cells cur E (0, 0))) (hc : cur.toList.take (ds.length * (n + 1)) = (ds.map (·.xs)).flatten) (hsz : ds.length * (n + 1) ≤ cur.size) (hl : ds.length ≤ 1000000) :
    Calls P f #[.slice (some ⟨gb, 0, none⟩) ds.length cap, .func (.func fc) #[] #[]] w fun e w' => e = .returned (.tuple #[]) ∧ ∃ (ds' : List (SRow HP (n + 1))) (cur' : Array Value), ds'.Perm ds ∧ ds'.Pairwise (fun x y => x.key ≤ y.key) ∧ w'.heap[gb]? = some (.cells cur' E (0, 0)) ∧ cur'.size = cur.size ∧
      cur'.toList.take (ds.length * (n + 1)) = (ds'.map (·.xs)).flatten ∧ OneB w w' (some gb) := by
  have hg : gb < w.heap.size := (Array.getElem?_eq_some_iff.1 hh).1
  have hfl := flatK_rows n rfl ds.toArray
  rw [List.toList_toArray] at hfl
  have hH : Sort.HoldsK (fun r : SRow HP (n + 1) => r.xs) (n + 1) w gb 0 ds.toArray := by
    intro t ht
    have ht2 := ht
    rw [Sort.size_flatK, List.size_toArray] at ht2
    refine ⟨?_, free_of_block hh⟩
    have hcell : ∀ o, w.cell? ⟨gb, o, none⟩ = cur[o]? := fun o => by simp [World.cell?, hh]
    rw [Nat.zero_add, hcell]
    have h1 : (cur.toList.take (ds.length * (n + 1)))[t]? = cur[t]? := by rw [List.getElem?_take_of_lt ht2]; simp
    rw [← h1, hc, ← hfl, Array.getElem?_toList, getElem!_pos (Sort.flatK (fun r : SRow HP (n + 1) => r.xs) (n + 1) ds.toArray) t ht, Array.getElem?_eq_getElem ht]
    rfl
  have hcon := AnyQ.slices_SortFunc L (n + 1) aE zE (fun r : SRow HP (n + 1) => r.xs) (·.len) (·.one) cfS swoS fc #[] gb 0 cap ds.toArray w eg (fun _ _ _ _ x y => hcmp x y _) hH hg (by simp; omega)
  rw [hf, List.size_toArray] at hcon
  refine Calls.mono hcon ?_
  rintro e w' ⟨rfl, d', m, os, ⟨hp1, -, hp⟩, hs, rfl⟩
  replace hp1 : d'.size = ds.length := by simpa using hp1
  have hF : (Sort.flatK (fun r : SRow HP (n + 1) => r.xs) (n + 1) d').size ≤ cur.size := by rw [Sort.size_flatK, hp1]; exact hsz
  obtain ⟨p1, p2⟩ := putCells_take (Sort.flatK (fun r : SRow HP (n + 1) => r.xs) (n + 1) d') cur hF
  refine ⟨rfl, d'.toList, Sort.putCells id 0 (Sort.flatK (fun r : SRow HP (n + 1) => r.xs) (n + 1) d') cur, ?_, ?_, ?_, p2, ?_, ?_⟩
  · have e1 : d'.extract 0 ds.length = d' := by rw [← hp1]; exact Array.extract_size
    have e2 : ds.toArray.extract 0 ds.length = ds.toArray := by simp
    rw [e1, e2] at hp
    simpa using hp
  · rw [List.pairwise_iff_getElem]
    intro i j hi hj hij
    have hj' : j < d'.size := by simpa using hj
    have := hs i j (Nat.zero_le _) hij (by omega)
    rw [ltS, getElem!_pos d' i (by omega), getElem!_pos d' j hj'] at this
    simpa using this
  · show (Sort.grow (Sort.putRow id (Sort.ahead w m) gb 0 (Sort.flatK (fun r : SRow HP (n + 1) => r.xs) (n + 1) d')) os).heap[gb]? = _
    rw [Sort.heap_grow_old _ _ (by simpa using hg)]
    show (w.heap.modify gb (Sort.onCells _))[gb]? = _
    rw [Array.getElem?_modify, if_pos rfl, hh]
    rfl
  · rw [show ds.length * (n + 1) = (Sort.flatK (fun r : SRow HP (n + 1) => r.xs) (n + 1) d').size by rw [Sort.size_flatK, hp1], p1, flatK_rows n rfl]
  · refine ⟨rfl, rfl, rfl, ?_, fun b hb hne => ?_⟩
    · show w.heap.size ≤ (Sort.grow (Sort.putRow id (Sort.ahead w m) gb 0 _) os).heap.size
      rw [Sort.size_grow, Sort.size_putRow, Sort.heap_ahead]; omega
    · show (Sort.grow (Sort.putRow id (Sort.ahead w m) gb 0 (Sort.flatK (fun r : SRow HP (n + 1) => r.xs) (n + 1) d')) os).heap[b]? = _
      rw [Sort.heap_grow_old _ _ (by simpa using hb)]
      show (w.heap.modify gb (Sort.onCells _))[b]? = _
      rw [Array.getElem?_modify, if_neg (fun e => hne (by rw [e]))]
theorem key_sort {α β : Type} {ka : α → Int} {kb : β → Int} {l l' : List α} {d d' : List β} (hk : d.map kb = l.map ka) (hp : l'.Perm l) (hs : l'.Pairwise fun x y => ka x < ka y) (hq : d'.Perm d) (ht : d'.Pairwise fun x y => kb x ≤ kb y) : d'.map kb = l'.map ka :=
  List.Perm.eq_of_pairwise (le := fun x y : Int => x ≤ y) (fun a b _ _ h1 h2 => by omega) (by rw [List.pairwise_map]; exact ht) (by rw [List.pairwise_map]; exact hs.imp fun h => by omega) ((hq.map kb).trans (by rw [hk]; exact (hp.map ka).symm))
set_option maxHeartbeats 1000000 in
/-- slices.SortFunc, where the first integers are all different. -/
theorem sort_hs {HP : List Value → Int → Prop} {n : Nat} (inh : Inhabited (SRow HP (n + 1))) {P : Program} {ρ : Ren} (L : SlLaysF0.n6 P ρ) {f fc E g : Nat} (hf : ρ.f 6 = f) (hfn : FnOK P f) (aE : ∀ w, (isAgg (ρ.t 24)).run P w = .ok true w) (zE : ∀ w, (Go.sizeOf (ρ.t 24)).run P w = .ok (n + 1) w) (eg : ∀ args w, (callFunc fc args).run P w = .ok (.enter fc args) w)
    (hcmp : ∀ (x y : SRow HP (n + 1)) (W : World), Calls P fc #[.agg x.xs.toArray, .agg y.xs.toArray] W fun e w' => e = .returned (.int .i64 (cfS x y)) ∧ ∃ q os', w' = Sort.grow (W.drewN q) os')
    {α : Type} (enc : α → List D) (key : α → Int) {l l' : List α} (hkey : ∀ x ∈ l, ∀ vs : List Value, vs.length = n + 1 → (∀ (j : Nat) (d : D) (v : Value), (enc x)[j]? = some d → vs[j]? = some v → ∃ M w, RepD M w d v) → HP vs (key x)) (hl0 : l ≠ []) (hp : l'.Perm l) (hs : l'.Pairwise fun x y => key x < key y) (hsz : l.length ≤ 1000000) :
    MSpec P f [.own 0 g, .d (.clo fc [])] [.row E (n + 1) g (dRows (l.map enc))] (.d (.tup [])) [.row E (n + 1) g (dRows (l'.map enc))] := by
  refine ⟨hfn, Nat.le_refl _, by simp [belowL, belowP], by simp [belowH, belowC, belowR_d], fun X hP hn hm w c vs hr hps => ?_⟩
  have hlen := hps.1
  match vs, hlen with
  | [v0, v1], _ =>
    have r0 := hps.2 0 _ v0 rfl rfl
    have r1 := repD_inv (hps.2 1 _ v1 rfl rfl)
    have hne : dRows (l.map enc) ≠ [] := by simpa [dRows] using hl0
    have hck := hr.chunk 0
    cases r0 with
    | own _ _ _ hov h1 =>
      obtain ⟨gb, cap, rfl⟩ := own_some hck hov hne
      obtain ⟨cur, xs, q1, q2, q3, q4, q5, q6, q7, q8, q9, q10, q11⟩ := row_cells hck hov hne
      have hxone := RepPs.one q2 (fun d hd => by obtain ⟨r, hr, hd⟩ := List.mem_flatten.1 hd; exact q6 r hr d hd)
      have hln : (dRows (l.map enc)).length = l.length := by rw [dRows_len, List.length_map]
      rw [hln] at q3 q4 q8 q10 hov ⊢
      have hv1 : v1 = .func (.func fc) #[] #[] := by
        cases r1 with
        | clo _ _ vs hl hrep =>
          have : vs = [] := by simpa using hl.symm
          subst this
          rfl
      subst hv1
      have hxs : cur.toList.take (l.length * (n + 1)) = xs := by
        apply List.ext_getElem?
        intro j
        by_cases hj : j < l.length * (n + 1)
        · rw [List.getElem?_take_of_lt hj, Array.getElem?_toList, q4 j hj]
        · rw [List.getElem?_eq_none (by rw [List.length_take]; omega), List.getElem?_eq_none (by omega)]
      -- the rows, as values
      obtain ⟨ds, hdl, hds⟩ := pick_list (Q := fun i (r : SRow HP (n + 1)) => r.xs = (xs.drop (i * (n + 1))).take (n + 1) ∧ ∃ x, l[i]? = some x ∧ r.key = key x) l.length fun i hi => by
        have hb : (i + 1) * (n + 1) ≤ l.length * (n + 1) := Nat.mul_le_mul_right _ hi
        rw [Nat.succ_mul] at hb
        obtain ⟨x, hx⟩ : ∃ x, l[i]? = some x := ⟨_, List.getElem?_eq_getElem hi⟩
        have hxl : ((xs.drop (i * (n + 1))).take (n + 1)).length = n + 1 := by rw [List.length_take, List.length_drop]; omega
        have h0 : HP ((xs.drop (i * (n + 1))).take (n + 1)) (key x) := hkey x (List.mem_of_getElem? hx) _ hxl fun j d v hd hv => by
          have hj : j < n + 1 := by rw [← hxl]; exact (List.getElem?_eq_some_iff.1 hv).1
          rw [List.getElem?_take_of_lt hj, List.getElem?_drop] at hv
          have hfl := flatten_atG q5 i j hj
          rw [dRows_get, List.getElem?_map, hx] at hfl
          simp only [Option.map_some, Option.bind_some, List.getElem?_map, hd] at hfl
          exact ⟨_, _, repD_inv (q2.2 _ _ v hfl hv)⟩
        exact ⟨⟨(xs.drop (i * (n + 1))).take (n + 1), hxl, fun v hv => hxone v (List.mem_of_mem_drop (List.mem_of_mem_take hv)), key x, h0⟩, rfl, x, hx, rfl⟩
      have hdrow : ∀ r ∈ ds.map (·.xs), r.length = n + 1 := fun r hr => by obtain ⟨x, -, rfl⟩ := List.mem_map.1 hr; exact x.len
      have hflat : (ds.map (·.xs)).flatten = xs := by
        apply List.ext_getElem?
        intro t
        by_cases ht : t < l.length * (n + 1)
        · have h1 : t / (n + 1) < l.length := Nat.div_lt_of_lt_mul (by rw [Nat.mul_comm]; exact ht)
          have h2 : t % (n + 1) < n + 1 := Nat.mod_lt _ (by omega)
          have h3 : t / (n + 1) * (n + 1) + t % (n + 1) = t := by rw [Nat.mul_comm]; exact Nat.div_add_mod t (n + 1)
          generalize t / (n + 1) = i at h1 h3
          generalize t % (n + 1) = j at h2 h3
          have h4 := flatten_atG hdrow i j h2
          rw [h3, List.getElem?_map, List.getElem?_eq_getElem (show i < ds.length by omega)] at h4
          rw [h4]
          simp only [Option.map_some, Option.bind_some]
          rw [(hds _ (show i < ds.length by omega)).1, List.getElem?_take_of_lt h2, List.getElem?_drop, h3]
        · rw [List.getElem?_eq_none (by rw [flatten_len hdrow, List.length_map, hdl]; omega), List.getElem?_eq_none (by omega)]
      have hkm : ds.map (·.key) = l.map key := by
        apply List.ext_getElem?
        intro i
        rw [List.getElem?_map, List.getElem?_map]
        by_cases hi : i < l.length
        · obtain ⟨-, x, hx, hk⟩ := hds i (by omega)
          rw [List.getElem?_eq_getElem (by omega), hx]
          simp [hk]
        · rw [List.getElem?_eq_none (show ds.length ≤ i by omega), List.getElem?_eq_none (show l.length ≤ i by omega)]; rfl
      have hcall := sort_raw inh L hf aE zE eg hcmp ds w gb cap cur q1 (by rw [hdl, hxs, hflat]) (by rw [hdl]; exact q8) (by omega)
      rw [hdl] at hcall
      rw [← hP] at hcall
      rw [hP] at hcall
      refine hcall.mono fun e w' ⟨he, ds', cur', hp', hs', hw', hcs, hct, hone⟩ => ?_
      have hkk := key_sort (ka := key) (kb := SRow.key) hkm hp hs hp' hs'
      have hdl' : ds'.length = l.length := by rw [hp'.length_eq, hdl]
      have hll' : l'.length = l.length := hp.length_eq
      have hdrow' : ∀ r ∈ ds'.map (·.xs), r.length = n + 1 := fun r hr => by obtain ⟨x, -, rfl⟩ := List.mem_map.1 hr; exact x.len
      have hin2 : ∀ r ∈ dRows (l'.map enc), r.length = n + 1 := fun r hr => by
        obtain ⟨q, hq, rfl⟩ := dRows_mem hr
        obtain ⟨x, hx, rfl⟩ := List.mem_map.1 hq
        exact q5 _ (List.mem_map.2 ⟨enc x, List.mem_map.2 ⟨x, hp.mem_iff.1 hx, rfl⟩, rfl⟩)
      have hin3 : ∀ r ∈ dRows (l'.map enc), ∀ d ∈ r, d.one = true := fun r hr d hd => by
        obtain ⟨q, hq, rfl⟩ := dRows_mem hr
        obtain ⟨x, hx, rfl⟩ := List.mem_map.1 hq
        exact q6 _ (List.mem_map.2 ⟨enc x, List.mem_map.2 ⟨x, hp.mem_iff.1 hx, rfl⟩, rfl⟩) d hd
      have hnd : ∀ i j (hi : i < l.length) (hj : j < l.length), key l[i] = key l[j] → i = j := by
        have h1 : (l'.map key).Nodup := by
          unfold List.Nodup
          rw [List.pairwise_map]
          exact hs.imp fun h => by omega
        have h2 : (l.map key).Nodup := (hp.map key).nodup_iff.1 h1
        intro i j hi hj h
        rw [List.nodup_iff_pairwise_ne, List.pairwise_iff_getElem] at h2
        rcases Nat.lt_trichotomy i j with hlt | he | hlt
        · exact absurd (by rw [List.getElem_map, List.getElem_map]; exact h) (h2 i j (by simpa using hi) (by simpa using hj) hlt)
        · exact he
        · exact absurd (by rw [List.getElem_map, List.getElem_map]; exact h.symm) (h2 j i (by simpa using hj) (by simpa using hi) hlt)
      have hrep' : RepPs c w (dRows (l'.map enc)).flatten (ds'.map (·.xs)).flatten := by
        refine ⟨by rw [flatten_len hin2, flatten_len hdrow', dRows_len, List.length_map, List.length_map, hdl', hll'], fun t d u ht hu => ?_⟩
        have htl : t < l.length * (n + 1) := by
          have := (List.getElem?_eq_some_iff.1 hu).1
          rw [flatten_len hdrow', List.length_map, hdl'] at this
          exact this
        have h1 : t / (n + 1) < l.length := Nat.div_lt_of_lt_mul (by rw [Nat.mul_comm]; exact htl)
        have h2 : t % (n + 1) < n + 1 := Nat.mod_lt _ (by omega)
        have h3 : t / (n + 1) * (n + 1) + t % (n + 1) = t := by rw [Nat.mul_comm]; exact Nat.div_add_mod t (n + 1)
        generalize t / (n + 1) = i at h1 h3
        generalize t % (n + 1) = j at h2 h3
        have e1 := flatten_atG hin2 (i) (j) h2
        have e2 := flatten_atG hdrow' (i) (j) h2
        rw [h3, dRows_get, List.getElem?_map, List.getElem?_eq_getElem (l := l') (show i < l'.length by omega)] at e1
        rw [h3, List.getElem?_map, List.getElem?_eq_getElem (l := ds') (show i < ds'.length by omega)] at e2
        simp only [Option.map_some, Option.bind_some] at e1 e2
        obtain ⟨p, hpl, hpe⟩ := List.mem_iff_getElem.1 (hp'.mem_iff.1 (List.getElem_mem (show i < ds'.length by omega)))
        obtain ⟨p2, hpl2, hpe2⟩ := List.mem_iff_getElem.1 (hp.mem_iff.1 (List.getElem_mem (show i < l'.length by omega)))
        obtain ⟨g1, x, g2, g3⟩ := hds p hpl
        have hx : l[p]'(by omega) = x := by rw [List.getElem?_eq_getElem (by omega)] at g2; exact Option.some.inj g2
        have hkey2 : (ds'[i]'(by omega)).key = key (l'[i]'(by omega)) := by
          have := congrArg (fun z : List Int => z[i]?) hkk
          simp only [List.getElem?_map] at this
          rw [List.getElem?_eq_getElem (by omega), List.getElem?_eq_getElem (by omega)] at this
          exact Option.some.inj this
        have hpp : p = p2 := hnd p p2 (by omega) hpl2 (by rw [hpe2, ← hkey2, ← hpe, g3, hx])
        subst hpp
        rw [← hpe2, hx] at e1
        rw [← hpe, g1, List.getElem?_take_of_lt h2, List.getElem?_drop] at e2
        have e3 := flatten_atG q5 p (j) h2
        rw [dRows_get, List.getElem?_map, g2] at e3
        simp only [Option.map_some, Option.bind_some] at e3
        rw [← e3] at e1
        rw [e1] at ht
        rw [e2] at hu
        exact q2.2 _ d u ht hu
      have hcap : 0 < cap := by have := List.length_pos_iff.2 hl0; omega
      have hput := hr.put_row (w' := w') (k := 0) (rows' := dRows (l'.map enc)) (xs' := (ds'.map (·.xs)).flatten) rfl hov (by rw [ownB_pos hcap]; exact hone) (by
        rw [dRows_len, List.length_map, hll']
        exact .row gb l.length cap cur' _ hcap hw' q10 q9 (by rw [hcs]; exact q11) (by rw [flatten_len hdrow', List.length_map, hdl']) hct) hrep' hin2 hin3
      have hfun : effH [(0, Chunk.row E (n + 1) g (dRows (l'.map enc)))] (mkF [] [.row E (n + 1) g (dRows (l.map enc))]).heap = hatL [.row E (n + 1) g (dRows (l'.map enc))] := by
        funext k
        rw [effH1]
        cases k with
        | zero => rfl
        | succ k => rfl
      rw [hfun] at hput
      refine ⟨_, c, he, .d _ _ (.tup [] [] rfl fun j d x h => by simp at h), hput⟩
/-- Where the key is the first cell. -/
theorem sort_ms {n : Nat} {P : Program} {ρ : Ren} (L : SlLaysF0.n6 P ρ) {f fc E g : Nat} (hf : ρ.f 6 = f) (hfn : FnOK P f) (aE : ∀ w, (isAgg (ρ.t 24)).run P w = .ok true w) (zE : ∀ w, (Go.sizeOf (ρ.t 24)).run P w = .ok (n + 1) w) (eg : ∀ args w, (callFunc fc args).run P w = .ok (.enter fc args) w)
    (hcmp : ∀ (x y : SRow HP0 (n + 1)) (W : World), Calls P fc #[.agg x.xs.toArray, .agg y.xs.toArray] W fun e w' => e = .returned (.int .i64 (cfS x y)) ∧ ∃ q os', w' = Sort.grow (W.drewN q) os')
    {α : Type} (enc : α → List D) (key : α → Int) (hkey : ∀ x, (enc x)[0]? = some (.v (.int .i64 (key x)))) {l l' : List α} (hl0 : l ≠ []) (hp : l'.Perm l) (hs : l'.Pairwise fun x y => key x < key y) (hsz : l.length ≤ 1000000) :
    MSpec P f [.own 0 g, .d (.clo fc [])] [.row E (n + 1) g (dRows (l.map enc))] (.d (.tup [])) [.row E (n + 1) g (dRows (l'.map enc))] :=
  sort_hs (srow_inh n) L hf hfn aE zE eg hcmp enc key (fun x _ vs hl hr => by
    obtain ⟨v, hv⟩ : ∃ v, vs[0]? = some v := ⟨_, List.getElem?_eq_getElem (by omega)⟩
    obtain ⟨M, w, h⟩ := hr 0 _ v (hkey x) hv
    show vs[0]? = _
    rw [hv]
    cases h
    rfl) hl0 hp hs hsz
end Go.Proofs.Ytinnohljknmolaa
namespace Go.Proofs.Ytinnohljknmolaa
open Go Go.RowKit Go.Proofs Go.Shelf
set_option maxRecDepth 100000
theorem isNaN_any (a : Int) (W : World) : Calls Try.prog 37 #[.int .i64 a] W fun e w' => e = .returned (.bool false) ∧ w' = W := by
  go_enter Try.func37, Try.ntmps37
  go_wp2_with fail
  go_ret
  exact ⟨ret_bool (by simp), rfl⟩
theorem compare_any (a b : Int) (W : World) : Calls Try.prog 18 #[.int .i64 a, .int .i64 b] W fun e w' => e = .returned (.int .i64 (cmpI a b)) ∧ w' = W := by
  by_cases h : a < b
  · have e : cmpI a b = -1 := by simp [cmpI, h]
    rw [e]
    go_enter Try.func18, Try.ntmps18
    go_wp2_with fail
    refine (isNaN_any a _).mono ?_
    rintro e w1 ⟨rfl, rfl⟩
    go_wp2_with fail
    refine (isNaN_any b _).mono ?_
    rintro e w1 ⟨rfl, rfl⟩
    go_wp2_with fail
    go_ret
    exact ⟨ret_int rfl, rfl⟩
  · by_cases h2 : b < a
    · have e : cmpI a b = 1 := by simp [cmpI, h, h2]
      rw [e]
      go_enter Try.func18, Try.ntmps18
      go_wp2_with fail
      refine (isNaN_any a _).mono ?_
      rintro e w1 ⟨rfl, rfl⟩
      go_wp2_with fail
      refine (isNaN_any b _).mono ?_
      rintro e w1 ⟨rfl, rfl⟩
      go_wp2_with fail
      go_ret
      exact ⟨ret_int rfl, rfl⟩
    · have e : cmpI a b = 0 := by simp [cmpI, h, h2]
      rw [e]
      go_enter Try.func18, Try.ntmps18
      go_wp2_with fail
      refine (isNaN_any a _).mono ?_
      rintro e w1 ⟨rfl, rfl⟩
      go_wp2_with fail
      refine (isNaN_any b _).mono ?_
      rintro e w1 ⟨rfl, rfl⟩
      go_wp2_with fail
      go_ret
      exact ⟨ret_int rfl, rfl⟩
end Go.Proofs.Ytinnohljknmolaa
namespace Go.Proofs.Ytinnohljknmolaa
open Go Go.RowKit Go.Proofs Go.Shelf
set_option maxRecDepth 100000
theorem own_none {k E sz g : Nat} {c : Cx} {w : World} {v : Value} (hck : ChunkOK c w k (.row E sz g [])) (hov : c.ov k g = some v) : ∃ p cap, v = .slice p 0 cap := by
  cases hck with
  | row _ _ _ _ u xs hu hown hr hsz h1 hg =>
    rw [hov] at hu
    cases hu
    generalize hn : ([] : List (List PV)).length = n' at hown
    cases hown with
    | nil => exact ⟨_, _, rfl⟩
    | zero a => exact ⟨_, _, rfl⟩
    | row b n cap => simp at hn; subst hn; exact ⟨_, _, rfl⟩
theorem sort_no {P : Program} {ρ : Ren} (L : SlLaysF0.n6 P ρ) {f fc E sz g : Nat} (hf : ρ.f 6 = f) (hfn : FnOK P f) : MSpec P f [.own 0 g, .d (.clo fc [])] [.row E sz g []] (.d (.tup [])) [.row E sz g []] := by
  refine ⟨hfn, Nat.le_refl _, by simp [belowL, belowP], by simp [belowH, belowC, belowR], fun X hP hn hm w c vs hr hps => ?_⟩
  have hlen := hps.1
  match vs, hlen with
  | [v0, v1], _ =>
    have r0 := hps.2 0 _ v0 rfl rfl
    cases r0 with
    | own _ _ _ hov h1 =>
      obtain ⟨p, cap, rfl⟩ := own_none (hr.chunk 0) hov
      have hcall := AnyF.slices_SortFunc_none L p cap v1 w
      rw [hf] at hcall
      refine hcall.mono fun e w' ⟨he, hw⟩ => ?_
      rw [hw]
      exact ⟨_, c, he, .d _ _ (.tup [] [] rfl fun j d x h => by simp at h), hr⟩
theorem cl_Route (x y : SRow HP0 3) (W : World) : Calls Try.prog 17 #[.agg x.xs.toArray, .agg y.xs.toArray] W fun e w' => e = .returned (.int .i64 (cfS x y)) ∧ ∃ q os', w' = Sort.grow (W.drewN q) os' := by
  obtain ⟨xs, xl, x1, a, xh⟩ := x
  obtain ⟨ys, yl, y1, b, yh⟩ := y
  match xs, xl, ys, yl with
  | [u0, u1, u2], _, [v0, v1, v2], _ =>
    simp [HP0] at xh yh
    subst xh
    subst yh
    have hc := compare_any a b
    unfold cfS
    simp only
    generalize cmpI a b = r at *
    replace hc := Lib.hid hc
    clear x1 y1
    go_enter Try.func17, Try.ntmps17
    go_wp2_with fail
    refine (hc.out _).mono ?_
    rintro e w1 ⟨rfl, rfl⟩
    go_wp2_with fail
    go_ret
    exact ⟨ret_int rfl, 0, _, by rw [Sort.alloc_eq_grow, Sort.alloc_eq_grow, Sort.grow_grow]; rfl⟩
theorem sort_Route {l l' : List Rte} (g : Nat) (hl0 : l ≠ []) (hp : l'.Perm l) (hs : l'.Pairwise fun x y => (fun r : Rte => r.at_.at_) x < (fun r : Rte => r.at_.at_) y) (hsz : l.length ≤ 1000000) :
    MSpec Try.prog 16 [.own 0 g, .d (.clo 17 [])] [.row 36 3 g (dRows (l.map encRo))] (.d (.tup [])) [.row 36 3 g (dRows (l'.map encRo))] :=
  sort_ms Try.sortRoute rfl (fnok_of Try.func16 (by kernel_rfl) rfl) Try.isAgg36 Try.sizeOf36 (enters_of Try.func17 (by kernel_rfl) rfl) cl_Route encRo (fun r : Rte => r.at_.at_) (fun _ => rfl) hl0 hp hs hsz
theorem sort_noRoute (g : Nat) : MSpec Try.prog 16 [.own 0 g, .d (.clo 17 [])] [.row 36 3 g (dRows [])] (.d (.tup [])) [.row 36 3 g (dRows [])] :=
  sort_no Try.sortRoute rfl (fnok_of Try.func16 (by kernel_rfl) rfl)
end Go.Proofs.Ytinnohljknmolaa
namespace Go.Proofs.Ytinnohljknmolaa
open Go Go.RowKit
/-- A group's networks. -/
def grpN (n : Net) (id : Int) : List Int := (n.vpcs.filter fun v => headN n v.id == headN n id).map (·.id)
def groupN (n : Net) (id : Int) : List Int × Int := if chkT n ≠ 0 then ([], chkT n) else if findN n id = none then ([], 5) else (grpN n id, 0)
set_option maxRecDepth 100000 in
set_option maxHeartbeats 1000000 in
theorem ngroup_p (n : Net) (id : Int) : PSpec Try.prog 15 [.agg (encT n), .v (.int .i64 id)] (.tup [.sl 1 ((groupN n id).1.map encA), .v (.int .i64 (groupN n id).2)]) := by
  obtain ⟨R, hR⟩ : ∃ R, R = groupN n id := ⟨_, rfl⟩
  rw [← hR]
  replace hR := Lib.hid hR
  have hck := ncheck_p n
  by_cases hc : chkT n = 0
  · have hok := netOK.1 hc
    have hfd := nfindB_m n id (by have := hok.n6; omega) hok.rise
    have hR2 : R = if findN n id = none then ([], 5) else (grpN n id, 0) := by rw [hR.out]; unfold groupN; rw [if_neg (by simpa using hc)]
    rw [hc] at hck
    cases hf : findN n id with
    | none =>
      rw [hf] at hfd hR2
      have hr : R = ([], 5) := by rw [hR2]; rfl
      rw [hr]
      clear hr hR2 hok
      replace hf := Lib.hid hf
      replace hc := Lib.hid hc
      refine ps_i tab_ok mixed Try.func15 rfl Try.ntmps15 Try.results15 (by kernel_rfl) ?_
      repeat' (first | (with_reducible refine And.intro ?_ ?_) | (with_reducible refine gK_i (fun _ => ?_) (fun _ => ?_)) | (with_reducible refine condS_i (fun _ => ?_) (fun _ => ?_)) | (with_reducible refine drw_i (by kernel_rfl)) | simp -dsimp only [go_sem, seval, *, encT, findNP, findND, undef] | ((with_reducible refine opK_c ?_); simp -dsimp only [go_sem, seval, encT, findNP, findND, undef]; first | refine callK_r (by first | assumption | exact hck) (by first | exact .inl rfl | exact .inr rfl) ?_ | (refine callK_i (by assumption) ?_ ?_ ?_; (solve | (repeat (first | exact DLe.refl _ | exact DLe.nil _ | (refine DLe.tup ?_) | (refine DLe.agg ?_ rfl) | exact trivial | (refine And.intro ?_ ?_)))); (solve | exact .inl rfl | exact .inr rfl))) | (refine opK_M [0] (hfd) ?_ ?_ ?_ ?_ ?_ ?_; (solve | rfl | simp only [go_sem, seval, encT, findNP, findND]); (solve | rfl); (solve | decide); (solve | simp); (solve | simp only [go_sem, seval, lentOK, encT, findNP, findND])) | omega | exact decide_eq_true (by omega) | exact DLe.refl _)
      all_goals exact (by repeat (first | exact DLe.refl _ | exact DLe.nil _ | (refine DLe.tup ?_) | (refine DLe.agg ?_ rfl) | exact trivial | (refine And.intro ?_ ?_)))
    | some w =>
      rw [hf] at hfd hR2
      have hr : R = (grpN n id, 0) := by rw [hR2]; rfl
      rw [hr]
      have hof := ofB_m n (by have := hok.n6; omega) (by have := hok.n12; omega) hok.ids
      have hg : ∀ x ∈ n.vpcs.map (·.id), ∃ k, HeadIs (stN n).1 k x (headN n x) := fun x hx => by
        have := (grp_k hok.ids n.links.length x (by exact hx)).1
        rwa [List.take_length] at this
      obtain ⟨nv, hhv⟩ := hg id (find_ids (by rw [hf]; rfl))
      have h6 := hok.n6
      have hgr : ∀ k, (List.take k n.vpcs).filter (fun v => headN n v.id == headN n id) = (List.take k n.vpcs).filter (fun v => headN n v.id == headN n id) := fun _ => rfl
      clear hr hR2 hok
      replace hf := Lib.hid hf
      replace hc := Lib.hid hc
      replace hg := Lib.hid hg
      unfold grpN
      generalize (stN n).1 = E at *
      have hmi := head_m E nv id (headN n id) hhv
      clear hhv hgr
      refine ps_i tab_ok mixed Try.func15 rfl Try.ntmps15 Try.results15 (by kernel_rfl) ?_
      repeat' (first | (with_reducible refine And.intro ?_ ?_) | (with_reducible refine gK_i (fun _ => ?_) (fun _ => ?_)) | (with_reducible refine condS_i (fun _ => ?_) (fun _ => ?_)) | (with_reducible refine drw_i (by kernel_rfl)) | simp -dsimp only [go_sem, seval, *, encT, findNP, findND, undef] | ((with_reducible refine opK_c ?_); simp -dsimp only [go_sem, seval, encT, findNP, findND, undef]; first | refine callK_r (by first | assumption | exact hck) (by first | exact .inl rfl | exact .inr rfl) ?_ | (refine callK_i (by assumption) ?_ ?_ ?_; (solve | (repeat (first | exact DLe.refl _ | exact DLe.nil _ | (refine DLe.tup ?_) | (refine DLe.agg ?_ rfl) | exact trivial | (refine And.intro ?_ ?_)))); (solve | exact .inl rfl | exact .inr rfl))) | (refine opK_M [0] (hfd) ?_ ?_ ?_ ?_ ?_ ?_; (solve | rfl | simp only [go_sem, seval, encT, findNP, findND]); (solve | rfl); (solve | decide); (solve | simp); (solve | simp only [go_sem, seval, lentOK, encT, findNP, findND])) | (refine opK_M [0] (hof) ?_ ?_ ?_ ?_ ?_ ?_; (solve | rfl | simp only [go_sem, seval, encT]); (solve | rfl); (solve | decide); (solve | simp); (solve | simp only [go_sem, seval, lentOK, encT])) | omega | exact decide_eq_true (by omega) | exact DLe.refl _)
      clear hof hfd hck
      refine loopG tab_ok mixed (fun m e h => ∃ (k g : Nat), k ≤ n.vpcs.length ∧ m = n.vpcs.length - k ∧ e = [(29, .d (.v (.int .i64 k))), (28, .d (.v (.int .i64 n.vpcs.length))), (27, .d (.sl 3 (n.vpcs.map encV))), (10, .own 2 g), (9, .mref 1), (4, .d (.v (.slice none 0 0))), (1, .d (.v (.int .i64 id)))] ∧
        h = [.gone, .mp 1 false E, .row 3 1 g (dRows ((((n.vpcs.take k).filter fun v => headN n v.id == headN n id).map (·.id)).map encA))]) _ _ _ ⟨0, 0, Nat.zero_le _, rfl, rfl, rfl⟩ ?_ ?_
      · refine (weak_gone 0 (by simp)).trans ((weak_adopt (by simp [setC]) 10 3 1 rfl).trans ?_)
        exact weak_forget _ (by simp) (by rfl) (by (repeat' (first | exact trivial | (refine ⟨rfl, ?_⟩)))) (by first | rfl | simp only [belowH, belowE, belowC, belowL, belowR, belowP, belowL_d, belowR_d, belowR_zipG, subRow, faceRow, List.length_cons, List.length_nil, Nat.reduceAdd, Nat.reduceLT, decide_true, Bool.and_self, Bool.and_true]) (by first | rfl | simp only [belowH, belowE, belowC, belowL, belowR, belowP, belowL_d, belowR_d, belowR_zipG, subRow, faceRow, List.length_cons, List.length_nil, Nat.reduceAdd, Nat.reduceLT, decide_true, Bool.and_self, Bool.and_true])
      rintro m e h ⟨k, g, hk, hm, rfl, rfl⟩ C hC
      by_cases hlt : k < n.vpcs.length
      · have hkI : (k : Int) < (n.vpcs.length : Int) := by omega
        have hwr : IntKind.i64.wrap ((k : Int) + 1) = ((k + 1 : Nat) : Int) := by rw [IntKind.wrap_i64]; omega
        obtain ⟨v, hv⟩ : ∃ v, n.vpcs[k]? = some v := ⟨_, List.getElem?_eq_getElem hlt⟩
        obtain ⟨nw, hhw⟩ := hg.out v.id (List.mem_map.2 ⟨v, List.mem_of_getElem? hv, rfl⟩)
        have hmw := head_m E nw v.id (headN n v.id) hhw
        have hfl : ((n.vpcs.take k).filter fun v => headN n v.id == headN n id).length ≤ k := by
          have := List.length_filter_le (fun v : Vpc => headN n v.id == headN n id) (n.vpcs.take k)
          rw [List.length_take] at this; omega
        have hbd : ((n.vpcs.take k).filter fun v => headN n v.id == headN n id).length + 1 ≤ 100 := by omega
        have hst : (n.vpcs.take (k + 1)).filter (fun v => headN n v.id == headN n id) = (n.vpcs.take k).filter (fun v => headN n v.id == headN n id) ++ if (headN n v.id == headN n id) = true then [v] else [] := by
          rw [take_snoc hv, List.filter_append]
          congr 1
          cases hb : headN n v.id == headN n id <;> simp [hb]
        clear hhw
        replace hst := Lib.hid hst
        replace hfl := Lib.hid hfl
        replace hm := Lib.hid hm
        generalize (n.vpcs.take k).filter (fun v => headN n v.id == headN n id) = L at *
        cases e1 : (headN n v.id == headN n id) with
        | false =>
          rw [e1] at hst
          repeat' (first | (with_reducible refine And.intro ?_ ?_) | (with_reducible refine gK_i (fun _ => ?_) (fun _ => ?_)) | (with_reducible refine condS_i (fun _ => ?_) (fun _ => ?_)) | (with_reducible refine drw_i (by kernel_rfl)) | simp -dsimp only [go_sem, seval, *, encT, encV, hkI, hwr, hv, e1, undef] | ((with_reducible refine opK_c ?_); simp -dsimp only [go_sem, seval, encT, encV, hkI, hwr, hv, e1, undef]; first | refine callK_r (by first | assumption | fail) (by first | exact .inl rfl | exact .inr rfl) ?_ | (refine callK_i (by assumption) ?_ ?_ ?_; (solve | (repeat (first | exact DLe.refl _ | exact DLe.nil _ | (refine DLe.tup ?_) | (refine DLe.agg ?_ rfl) | exact trivial | (refine And.intro ?_ ?_)))); (solve | exact .inl rfl | exact .inr rfl))) | (refine opK_M [1] (hmw) ?_ ?_ ?_ ?_ ?_ ?_; (solve | rfl | simp only [go_sem, seval, encV]); (solve | rfl); (solve | decide); (solve | simp); (solve | simp only [go_sem, seval, lentOK, encV])) | (refine opK_M [1] (hmi) ?_ ?_ ?_ ?_ ?_ ?_; (solve | rfl | simp only [go_sem, seval, encV]); (solve | rfl); (solve | decide); (solve | simp); (solve | simp only [go_sem, seval, lentOK, encV])) | omega | exact decide_eq_true (by omega) | exact DLe.refl _)
          refine hC _ _ _ _ _ ?_ ⟨k + 1, g, hlt, rfl, rfl, rfl⟩ (weak_forget _ (by simp) (by rw [hst.out]; simp only [Bool.false_eq_true, if_false, List.append_nil]; rfl) (by (repeat' (first | exact trivial | (refine ⟨rfl, ?_⟩)))) (by first | rfl | simp only [belowH, belowE, belowC, belowL, belowR, belowP, belowL_d, belowR_d, belowR_zipG, subRow, faceRow, List.length_cons, List.length_nil, Nat.reduceAdd, Nat.reduceLT, decide_true, Bool.and_self, Bool.and_true]) (by first | rfl | simp only [belowH, belowE, belowC, belowL, belowR, belowP, belowL_d, belowR_d, belowR_zipG, subRow, faceRow, List.length_cons, List.length_nil, Nat.reduceAdd, Nat.reduceLT, decide_true, Bool.and_self, Bool.and_true]))
          have := hm.out; omega
        | true =>
          rw [e1] at hst
          repeat' (first | (with_reducible refine And.intro ?_ ?_) | (with_reducible refine gK_i (fun _ => ?_) (fun _ => ?_)) | (with_reducible refine condS_i (fun _ => ?_) (fun _ => ?_)) | (with_reducible refine drw_i (by kernel_rfl)) | simp -dsimp only [go_sem, seval, *, encT, encV, hkI, hwr, hv, e1, hbd, undef] | ((with_reducible refine opK_c ?_); simp -dsimp only [go_sem, seval, encT, encV, hkI, hwr, hv, e1, hbd, undef]; first | refine callK_r (by first | assumption | fail) (by first | exact .inl rfl | exact .inr rfl) ?_ | (refine callK_i (by assumption) ?_ ?_ ?_; (solve | (repeat (first | exact DLe.refl _ | exact DLe.nil _ | (refine DLe.tup ?_) | (refine DLe.agg ?_ rfl) | exact trivial | (refine And.intro ?_ ?_)))); (solve | exact .inl rfl | exact .inr rfl))) | (refine opK_M [1] (hmw) ?_ ?_ ?_ ?_ ?_ ?_; (solve | rfl | simp only [go_sem, seval, encV]); (solve | rfl); (solve | decide); (solve | simp); (solve | simp only [go_sem, seval, lentOK, encV])) | (refine opK_M [1] (hmi) ?_ ?_ ?_ ?_ ?_ ?_; (solve | rfl | simp only [go_sem, seval, encV]); (solve | rfl); (solve | decide); (solve | simp); (solve | simp only [go_sem, seval, lentOK, encV])) | omega | exact decide_eq_true (by omega) | exact DLe.refl _)
          refine hC _ _ _ _ _ ?_ ⟨k + 1, g + 1, hlt, rfl, rfl, rfl⟩ (weak_forget _ (by simp) (by rw [hst.out]; simp only [if_true, List.map_append, List.map_cons, List.map_nil, ← dRows_app]; rfl) (by (repeat' (first | exact trivial | (refine ⟨rfl, ?_⟩)))) (by first | rfl | simp only [belowH, belowE, belowC, belowL, belowR, belowP, belowL_d, belowR_d, belowR_zipG, subRow, faceRow, List.length_cons, List.length_nil, Nat.reduceAdd, Nat.reduceLT, decide_true, Bool.and_self, Bool.and_true]) (by first | rfl | simp only [belowH, belowE, belowC, belowL, belowR, belowP, belowL_d, belowR_d, belowR_zipG, subRow, faceRow, List.length_cons, List.length_nil, Nat.reduceAdd, Nat.reduceLT, decide_true, Bool.and_self, Bool.and_true]))
          have := hm.out; omega
      · obtain rfl : k = n.vpcs.length := by omega
        rw [List.take_length]
        replace hm := Lib.hid hm
        repeat' (first | (with_reducible refine And.intro ?_ ?_) | (with_reducible refine gK_i (fun _ => ?_) (fun _ => ?_)) | (with_reducible refine condS_i (fun _ => ?_) (fun _ => ?_)) | (with_reducible refine drw_i (by kernel_rfl)) | simp -dsimp only [go_sem, seval, *, Int.lt_irrefl, undef] | ((with_reducible refine opK_c ?_); simp -dsimp only [go_sem, seval, Int.lt_irrefl, undef]; first | refine callK_r (by first | assumption | fail) (by first | exact .inl rfl | exact .inr rfl) ?_ | (refine callK_i (by assumption) ?_ ?_ ?_; (solve | (repeat (first | exact DLe.refl _ | exact DLe.nil _ | (refine DLe.tup ?_) | (refine DLe.agg ?_ rfl) | exact trivial | (refine And.intro ?_ ?_)))); (solve | exact .inl rfl | exact .inr rfl))) | fail | omega | exact decide_eq_true (by omega) | exact DLe.refl _)
        all_goals exact (by repeat (first | exact DLe.refl _ | exact DLe.nil _ | (refine DLe.tup ?_) | (refine DLe.agg ?_ rfl) | exact trivial | (refine And.intro ?_ ?_)))
  · have hr : R = ([], chkT n) := by rw [hR.out]; unfold groupN; rw [if_pos hc]
    have h1 : (chkT n != 0) = true := by simpa using hc
    rw [hr]
    replace hr := Lib.hid hr
    refine ps_i tab_ok mixed Try.func15 rfl Try.ntmps15 Try.results15 (by kernel_rfl) ?_
    repeat' (first | (with_reducible refine And.intro ?_ ?_) | (with_reducible refine gK_i (fun _ => ?_) (fun _ => ?_)) | (with_reducible refine condS_i (fun _ => ?_) (fun _ => ?_)) | (with_reducible refine drw_i (by kernel_rfl)) | simp -dsimp only [go_sem, seval, *, encT, h1] | ((with_reducible refine opK_c ?_); simp -dsimp only [go_sem, seval, encT, h1]; first | refine callK_r (by first | assumption | exact hck) (by first | exact .inl rfl | exact .inr rfl) ?_ | (refine callK_i (by assumption) ?_ ?_ ?_; (solve | (repeat (first | exact DLe.refl _ | exact DLe.nil _ | (refine DLe.tup ?_) | (refine DLe.agg ?_ rfl) | exact trivial | (refine And.intro ?_ ?_)))); (solve | exact .inl rfl | exact .inr rfl))) | fail | omega | exact decide_eq_true (by omega) | exact DLe.refl _)
    all_goals exact (by repeat (first | exact DLe.refl _ | exact DLe.nil _ | (refine DLe.tup ?_) | (refine DLe.agg ?_ rfl) | exact trivial | (refine And.intro ?_ ?_)))
end Go.Proofs.Ytinnohljknmolaa
namespace Go.Proofs.Ytinnohljknmolaa
open Go Go.RowKit
/-- Table's answer. -/
def tableN (n : Net) (id : Int) : List Rte × Int := if (groupN n id).2 ≠ 0 then ([], (groupN n id).2) else (tabN n id, 0)
theorem group_ok {n : Net} {id : Int} (h : (groupN n id).2 = 0) : NetOK n ∧ ∃ w, findN n id = some w := by
  unfold groupN at h
  split at h
  · rename_i h1; exact absurd h h1
  · rename_i h1
    split at h
    · cases h
    · rename_i h2
      exact ⟨netOK.1 (by simpa using h1), Option.ne_none_iff_exists'.1 h2⟩
set_option maxRecDepth 100000 in
set_option maxHeartbeats 1000000 in
theorem table_p (n : Net) (id : Int) : PSpec Try.prog 6 [.agg (encT n), .v (.int .i64 id)] (.tup [.sl 3 ((tableN n id).1.map encRo), .v (.int .i64 (tableN n id).2)]) := by
  obtain ⟨R, hR⟩ : ∃ R, R = tableN n id := ⟨_, rfl⟩
  rw [← hR]
  replace hR := Lib.hid hR
  have hgp := ngroup_p n id
  by_cases he : (groupN n id).2 = 0
  · obtain ⟨hok, -⟩ := group_ok he
    have hr : R = (tabN n id, 0) := by rw [hR.out]; unfold tableN; rw [if_neg (by simpa using he)]
    rw [hr]
    rw [he] at hgp
    generalize (groupN n id).1 = G at hgp
    have h12 := hok.n12
    have h6 := hok.n6
    have hw1 : IntKind.i64.wrap 1 = 1 := by decide
    have hrl := rtsN_len hok id n.vpcs.length (Nat.le_refl _)
    clear hr hR he
    replace hok := Lib.hid hok
    refine ps_i tab_ok mixed Try.func6 rfl Try.ntmps6 Try.results6 (by kernel_rfl) ?_
    repeat' (first | (with_reducible refine And.intro ?_ ?_) | (with_reducible refine gK_i (fun _ => ?_) (fun _ => ?_)) | (with_reducible refine condS_i (fun _ => ?_) (fun _ => ?_)) | (with_reducible refine drw_i (by kernel_rfl)) | simp -dsimp only [go_sem, seval, *, encT, hw1, undef] | ((with_reducible refine opK_c ?_); simp -dsimp only [go_sem, seval, encT, hw1, undef]; first | refine callK_r (by first | assumption | exact hgp) (by first | exact .inl rfl | exact .inr rfl) ?_ | (refine callK_i (by assumption) ?_ ?_ ?_; (solve | (repeat (first | exact DLe.refl _ | exact DLe.nil _ | (refine DLe.tup ?_) | (refine DLe.agg ?_ rfl) | exact trivial | (refine And.intro ?_ ?_)))); (solve | exact .inl rfl | exact .inr rfl))) | fail | omega | exact decide_eq_true (by omega) | exact DLe.refl _)
    clear hgp
    refine loopG tab_ok mixed (fun m e h => ∃ (k : Nat) (ents : List (List Int × Int)), k ≤ n.links.length ∧ NearI id n.links k ents ∧ m = n.links.length - k ∧
      e = [(31, .d (.v (.int .i64 k))), (30, .d (.v (.int .i64 n.links.length))), (29, .d (.sl 2 (n.links.map encK))), (8, .mref 1), (4, .d (.v (.slice none 0 0))), (2, .ptr 0 0), (1, .d (.v (.int .i64 id)))] ∧
      h = [.box 25 ((encT n).map .d), .mp 1 false ents]) _ _ _ ⟨0, upE [] [id] 1, Nat.zero_le _, nearI_0 id _, rfl, rfl, rfl⟩ (weak_forget _ (by simp) (by (try simp only [encT]); rfl) (by (repeat' (first | exact trivial | (refine ⟨rfl, ?_⟩)))) (by first | rfl | simp only [belowH, belowE, belowC, belowL, belowR, belowP, belowL_d, belowR_d, List.length_cons, List.length_nil, Nat.reduceAdd, Nat.reduceLT, decide_true, Bool.and_self, Bool.and_true]) (by first | rfl | simp only [belowH, belowE, belowC, belowL, belowR, belowP, belowL_d, belowR_d, List.length_cons, List.length_nil, Nat.reduceAdd, Nat.reduceLT, decide_true, Bool.and_self, Bool.and_true])) ?_
    rintro m e h ⟨k, ents, hk, hN, hm, rfl, rfl⟩ C hC
    by_cases hlt : k < n.links.length
    · have hkI : (k : Int) < (n.links.length : Int) := by omega
      have hwr : IntKind.i64.wrap ((k : Int) + 1) = ((k + 1 : Nat) : Int) := by rw [IntKind.wrap_i64]; omega
      obtain ⟨l, hl⟩ : ∃ l, n.links[k]? = some l := ⟨_, List.getElem?_eq_getElem hlt⟩
      replace hm := Lib.hid hm
      replace hok := Lib.hid hok
      by_cases ht : l.a = id ∨ l.b = id
      · have hN2 := nearI_add hN hl ht
        have hwa : IntKind.i64.wrap ((lkE ents [l.a]).getD 0 + 1) = (lkE ents [l.a]).getD 0 + 1 := by have := hN l.a; rw [IntKind.wrap_i64]; omega
        have hwb : IntKind.i64.wrap ((lkE (upE ents [l.a] ((lkE ents [l.a]).getD 0 + 1)) [l.b]).getD 0 + 1) = (lkE (upE ents [l.a] ((lkE ents [l.a]).getD 0 + 1)) [l.b]).getD 0 + 1 := by
          have h1 := nearU_look ents l.a l.b
          unfold nearU at h1
          have := hN l.b
          rw [h1, IntKind.wrap_i64]
          split <;> omega
        replace hN := Lib.hid hN
        replace hN2 := Lib.hid hN2
        by_cases ha : l.a = id
        · have e1 : (l.a == id) = true := by simpa using ha
          clear ha ht
          repeat' (first | (with_reducible refine And.intro ?_ ?_) | (with_reducible refine gK_i (fun _ => ?_) (fun _ => ?_)) | (with_reducible refine condS_i (fun _ => ?_) (fun _ => ?_)) | (with_reducible refine drw_i (by kernel_rfl)) | simp -dsimp only [go_sem, seval, *, encT, encK, hkI, hwr, hl, e1, hwa, hwb, undef] | ((with_reducible refine opK_c ?_); simp -dsimp only [go_sem, seval, encT, encK, hkI, hwr, hl, e1, hwa, hwb, undef]; first | refine callK_r (by first | assumption | fail) (by first | exact .inl rfl | exact .inr rfl) ?_ | (refine callK_i (by assumption) ?_ ?_ ?_; (solve | (repeat (first | exact DLe.refl _ | exact DLe.nil _ | (refine DLe.tup ?_) | (refine DLe.agg ?_ rfl) | exact trivial | (refine And.intro ?_ ?_)))); (solve | exact .inl rfl | exact .inr rfl))) | fail | omega | exact decide_eq_true (by omega) | exact DLe.refl _)
          refine hC _ _ _ _ _ ?_ ⟨k + 1, nearU (nearU ents l.a) l.b, hlt, hN2.out, rfl, rfl, rfl⟩ (weak_forget _ (by simp) (by (try simp only [encT]); rfl) (by (repeat' (first | exact trivial | (refine ⟨rfl, ?_⟩)))) (by first | rfl | simp only [belowH, belowE, belowC, belowL, belowR, belowP, belowL_d, belowR_d, List.length_cons, List.length_nil, Nat.reduceAdd, Nat.reduceLT, decide_true, Bool.and_self, Bool.and_true]) (by first | rfl | simp only [belowH, belowE, belowC, belowL, belowR, belowP, belowL_d, belowR_d, List.length_cons, List.length_nil, Nat.reduceAdd, Nat.reduceLT, decide_true, Bool.and_self, Bool.and_true]))
          have := hm.out; omega
        · have e1 : (l.a == id) = false := by simpa using ha
          have e2 : (l.b == id) = true := by rcases ht with h | h; exact absurd h ha; simpa using h
          clear ha ht
          repeat' (first | (with_reducible refine And.intro ?_ ?_) | (with_reducible refine gK_i (fun _ => ?_) (fun _ => ?_)) | (with_reducible refine condS_i (fun _ => ?_) (fun _ => ?_)) | (with_reducible refine drw_i (by kernel_rfl)) | simp -dsimp only [go_sem, seval, *, encT, encK, hkI, hwr, hl, e1, e2, hwa, hwb, undef] | ((with_reducible refine opK_c ?_); simp -dsimp only [go_sem, seval, encT, encK, hkI, hwr, hl, e1, e2, hwa, hwb, undef]; first | refine callK_r (by first | assumption | fail) (by first | exact .inl rfl | exact .inr rfl) ?_ | (refine callK_i (by assumption) ?_ ?_ ?_; (solve | (repeat (first | exact DLe.refl _ | exact DLe.nil _ | (refine DLe.tup ?_) | (refine DLe.agg ?_ rfl) | exact trivial | (refine And.intro ?_ ?_)))); (solve | exact .inl rfl | exact .inr rfl))) | fail | omega | exact decide_eq_true (by omega) | exact DLe.refl _)
          refine hC _ _ _ _ _ ?_ ⟨k + 1, nearU (nearU ents l.a) l.b, hlt, hN2.out, rfl, rfl, rfl⟩ (weak_forget _ (by simp) (by (try simp only [encT]); rfl) (by (repeat' (first | exact trivial | (refine ⟨rfl, ?_⟩)))) (by first | rfl | simp only [belowH, belowE, belowC, belowL, belowR, belowP, belowL_d, belowR_d, List.length_cons, List.length_nil, Nat.reduceAdd, Nat.reduceLT, decide_true, Bool.and_self, Bool.and_true]) (by first | rfl | simp only [belowH, belowE, belowC, belowL, belowR, belowP, belowL_d, belowR_d, List.length_cons, List.length_nil, Nat.reduceAdd, Nat.reduceLT, decide_true, Bool.and_self, Bool.and_true]))
          have := hm.out; omega
      · have hN2 := nearI_skip hN hl (fun h => ht (.inl h)) (fun h => ht (.inr h))
        have e1 : (l.a == id) = false := by simpa using fun h => ht (.inl h)
        have e2 : (l.b == id) = false := by simpa using fun h => ht (.inr h)
        clear ht
        replace hN := Lib.hid hN
        replace hN2 := Lib.hid hN2
        repeat' (first | (with_reducible refine And.intro ?_ ?_) | (with_reducible refine gK_i (fun _ => ?_) (fun _ => ?_)) | (with_reducible refine condS_i (fun _ => ?_) (fun _ => ?_)) | (with_reducible refine drw_i (by kernel_rfl)) | simp -dsimp only [go_sem, seval, *, encT, encK, hkI, hwr, hl, e1, e2, undef] | ((with_reducible refine opK_c ?_); simp -dsimp only [go_sem, seval, encT, encK, hkI, hwr, hl, e1, e2, undef]; first | refine callK_r (by first | assumption | fail) (by first | exact .inl rfl | exact .inr rfl) ?_ | (refine callK_i (by assumption) ?_ ?_ ?_; (solve | (repeat (first | exact DLe.refl _ | exact DLe.nil _ | (refine DLe.tup ?_) | (refine DLe.agg ?_ rfl) | exact trivial | (refine And.intro ?_ ?_)))); (solve | exact .inl rfl | exact .inr rfl))) | fail | omega | exact decide_eq_true (by omega) | exact DLe.refl _)
        refine hC _ _ _ _ _ ?_ ⟨k + 1, ents, hlt, hN2.out, rfl, rfl, rfl⟩ (weak_forget _ (by simp) (by (try simp only [encT]); rfl) (by (repeat' (first | exact trivial | (refine ⟨rfl, ?_⟩)))) (by first | rfl | simp only [belowH, belowE, belowC, belowL, belowR, belowP, belowL_d, belowR_d, List.length_cons, List.length_nil, Nat.reduceAdd, Nat.reduceLT, decide_true, Bool.and_self, Bool.and_true]) (by first | rfl | simp only [belowH, belowE, belowC, belowL, belowR, belowP, belowL_d, belowR_d, List.length_cons, List.length_nil, Nat.reduceAdd, Nat.reduceLT, decide_true, Bool.and_self, Bool.and_true]))
        have := hm.out; omega
    · obtain rfl : k = n.links.length := by omega
      replace hm := Lib.hid hm
      have hne := nearI_end hok.out hN
      replace hN := Lib.hid hN
      replace hne := Lib.hid hne
      repeat' (first | (with_reducible refine And.intro ?_ ?_) | (with_reducible refine gK_i (fun _ => ?_) (fun _ => ?_)) | (with_reducible refine condS_i (fun _ => ?_) (fun _ => ?_)) | (with_reducible refine drw_i (by kernel_rfl)) | simp -dsimp only [go_sem, seval, *, encT, Int.lt_irrefl, undef] | ((with_reducible refine opK_c ?_); simp -dsimp only [go_sem, seval, encT, Int.lt_irrefl, undef]; first | refine callK_r (by first | assumption | fail) (by first | exact .inl rfl | exact .inr rfl) ?_ | (refine callK_i (by assumption) ?_ ?_ ?_; (solve | (repeat (first | exact DLe.refl _ | exact DLe.nil _ | (refine DLe.tup ?_) | (refine DLe.agg ?_ rfl) | exact trivial | (refine And.intro ?_ ?_)))); (solve | exact .inl rfl | exact .inr rfl))) | fail | omega | exact decide_eq_true (by omega) | exact DLe.refl _)
      refine loopG tab_ok mixed (fun m e h => ∃ (k g : Nat), k ≤ n.vpcs.length ∧ m = n.vpcs.length - k ∧ e = [(59, .d (.v (.int .i64 k))), (58, .d (.v (.int .i64 n.vpcs.length))), (57, .d (.sl 3 (n.vpcs.map encV))), (11, .own 2 g), (8, .mref 1), (4, .d (.v (.slice none 0 0)))] ∧
        h = [.gone, .mp 1 false ents, .row 36 3 g (dRows ((rtsN n id k).map encRo))]) _ _ _ ⟨0, 0, Nat.zero_le _, rfl, rfl, rfl⟩ ?_ ?_
      · refine (weak_gone 0 (by simp)).trans ((weak_adopt (by simp [setC]) 11 36 3 rfl).trans ?_)
        exact weak_forget _ (by simp) (by rfl) (by (repeat' (first | exact trivial | (refine ⟨rfl, ?_⟩)))) (by first | rfl | simp only [belowH, belowE, belowC, belowL, belowR, belowP, belowL_d, belowR_d, belowR_zipG, subRow, faceRow, List.length_cons, List.length_nil, Nat.reduceAdd, Nat.reduceLT, decide_true, Bool.and_self, Bool.and_true]) (by first | rfl | simp only [belowH, belowE, belowC, belowL, belowR, belowP, belowL_d, belowR_d, belowR_zipG, subRow, faceRow, List.length_cons, List.length_nil, Nat.reduceAdd, Nat.reduceLT, decide_true, Bool.and_self, Bool.and_true])
      rintro m e h ⟨k, g, hk, hm, rfl, rfl⟩ C hC
      by_cases hlt : k < n.vpcs.length
      · have hkI : (k : Int) < (n.vpcs.length : Int) := by omega
        have hwr : IntKind.i64.wrap ((k : Int) + 1) = ((k + 1 : Nat) : Int) := by rw [IntKind.wrap_i64]; omega
        obtain ⟨v, hv⟩ : ∃ v, n.vpcs[k]? = some v := ⟨_, List.getElem?_eq_getElem hlt⟩
        have hsn := rtsN_snoc (id := id) hv
        have hlk := rtsN_len hok.out id k (by omega)
        have hv4 := (vpcOK_of (hok.out.vp v (List.mem_of_getElem? hv))).n4
        have e1 := hne.out v
        replace hm := Lib.hid hm
        cases e2 : nearN n id v with
        | false =>
          rw [e2] at e1 hsn
          replace hsn := Lib.hid hsn
          generalize rtsN n id k = L at *
          repeat' (first | (with_reducible refine And.intro ?_ ?_) | (with_reducible refine gK_i (fun _ => ?_) (fun _ => ?_)) | (with_reducible refine condS_i (fun _ => ?_) (fun _ => ?_)) | (with_reducible refine drw_i (by kernel_rfl)) | simp -dsimp only [go_sem, seval, *, encT, encV, hkI, hwr, hv, e1, undef] | ((with_reducible refine opK_c ?_); simp -dsimp only [go_sem, seval, encT, encV, hkI, hwr, hv, e1, undef]; first | refine callK_r (by first | assumption | fail) (by first | exact .inl rfl | exact .inr rfl) ?_ | (refine callK_i (by assumption) ?_ ?_ ?_; (solve | (repeat (first | exact DLe.refl _ | exact DLe.nil _ | (refine DLe.tup ?_) | (refine DLe.agg ?_ rfl) | exact trivial | (refine And.intro ?_ ?_)))); (solve | exact .inl rfl | exact .inr rfl))) | fail | omega | exact decide_eq_true (by omega) | exact DLe.refl _)
          refine hC _ _ _ _ _ ?_ ⟨k + 1, g, hlt, rfl, rfl, rfl⟩ (weak_forget _ (by simp) (by rw [hsn.out]; rfl) (by (repeat' (first | exact trivial | (refine ⟨rfl, ?_⟩)))) (by first | rfl | simp only [belowH, belowE, belowC, belowL, belowR, belowP, belowL_d, belowR_d, belowR_zipG, subRow, faceRow, List.length_cons, List.length_nil, Nat.reduceAdd, Nat.reduceLT, decide_true, Bool.and_self, Bool.and_true]) (by first | rfl | simp only [belowH, belowE, belowC, belowL, belowR, belowP, belowL_d, belowR_d, belowR_zipG, subRow, faceRow, List.length_cons, List.length_nil, Nat.reduceAdd, Nat.reduceLT, decide_true, Bool.and_self, Bool.and_true]))
          have := hm.out; omega
        | true =>
          rw [e2, if_pos rfl] at hsn
          rw [e2] at e1
          replace hsn := Lib.hid hsn
          generalize rtsN n id k = L at *
          repeat' (first | (with_reducible refine And.intro ?_ ?_) | (with_reducible refine gK_i (fun _ => ?_) (fun _ => ?_)) | (with_reducible refine condS_i (fun _ => ?_) (fun _ => ?_)) | (with_reducible refine drw_i (by kernel_rfl)) | simp -dsimp only [go_sem, seval, *, encT, encV, hkI, hv, e1, undef] | ((with_reducible refine opK_c ?_); simp -dsimp only [go_sem, seval, encT, encV, hkI, hv, e1, undef]; first | refine callK_r (by first | assumption | fail) (by first | exact .inl rfl | exact .inr rfl) ?_ | (refine callK_i (by assumption) ?_ ?_ ?_; (solve | (repeat (first | exact DLe.refl _ | exact DLe.nil _ | (refine DLe.tup ?_) | (refine DLe.agg ?_ rfl) | exact trivial | (refine And.intro ?_ ?_)))); (solve | exact .inl rfl | exact .inr rfl))) | fail | omega | exact decide_eq_true (by omega) | exact DLe.refl _)
          refine loopG tab_ok mixed (fun m e h => ∃ (j g : Nat), j ≤ v.ranges.length ∧ m = v.ranges.length - j ∧ e = [(71, .d (.v (.int .i64 j))), (70, .d (.v (.int .i64 v.ranges.length))), (69, .d (.sl 3 (v.ranges.map encG))), (59, .d (.v (.int .i64 k))), (58, .d (.v (.int .i64 n.vpcs.length))), (57, .d (.sl 3 (n.vpcs.map encV))), (13, .ptr 3 0), (11, .own 2 g), (8, .mref 1), (4, .d (.v (.slice none 0 0)))] ∧
            h = [.gone, .mp 1 false ents, .row 36 3 g (dRows ((L ++ (rtsV v).take j).map encRo)), .box 47 ((encV v).map .d)]) _ _ _ ⟨0, g, Nat.zero_le _, rfl, rfl, rfl⟩ (weak_forget _ (by simp) (by rw [List.take_zero (l := rtsV v), List.append_nil L]; rfl) (by (repeat' (first | exact trivial | (refine ⟨rfl, ?_⟩)))) (by first | rfl | simp only [belowH, belowE, belowC, belowL, belowR, belowP, belowL_d, belowR_d, belowR_zipG, subRow, faceRow, List.length_cons, List.length_nil, Nat.reduceAdd, Nat.reduceLT, decide_true, Bool.and_self, Bool.and_true]) (by first | rfl | simp only [belowH, belowE, belowC, belowL, belowR, belowP, belowL_d, belowR_d, belowR_zipG, subRow, faceRow, List.length_cons, List.length_nil, Nat.reduceAdd, Nat.reduceLT, decide_true, Bool.and_self, Bool.and_true])) ?_
          rintro m2 e h ⟨j, g2, hj, hm2, rfl, rfl⟩ C2 hC2
          by_cases hlj : j < v.ranges.length
          · have hjI : (j : Int) < (v.ranges.length : Int) := by omega
            have hwj : IntKind.i64.wrap ((j : Int) + 1) = ((j + 1 : Nat) : Int) := by rw [IntKind.wrap_i64]; omega
            obtain ⟨r, hr⟩ : ∃ r, v.ranges[j]? = some r := ⟨_, List.getElem?_eq_getElem hlj⟩
            have hbd : (L ++ (rtsV v).take j).length + 1 ≤ 100 := by rw [List.length_append, List.length_take, rtsV_len]; omega
            have hst : L ++ (rtsV v).take (j + 1) = (L ++ (rtsV v).take j) ++ [⟨r.at_, v.id⟩] := by
              rw [List.append_assoc]; congr 1
              exact take_snoc (by unfold rtsV; rw [List.getElem?_map, hr]; rfl)
            replace hm2 := Lib.hid hm2
            replace hst := Lib.hid hst
            generalize L ++ (rtsV v).take j = L2 at *
            repeat' (first | (with_reducible refine And.intro ?_ ?_) | (with_reducible refine gK_i (fun _ => ?_) (fun _ => ?_)) | (with_reducible refine condS_i (fun _ => ?_) (fun _ => ?_)) | (with_reducible refine drw_i (by kernel_rfl)) | simp -dsimp only [go_sem, seval, *, encV, encG, encP, hjI, hwj, hr, hbd, undef] | ((with_reducible refine opK_c ?_); simp -dsimp only [go_sem, seval, encV, encG, encP, hjI, hwj, hr, hbd, undef]; first | refine callK_r (by first | assumption | fail) (by first | exact .inl rfl | exact .inr rfl) ?_ | (refine callK_i (by assumption) ?_ ?_ ?_; (solve | (repeat (first | exact DLe.refl _ | exact DLe.nil _ | (refine DLe.tup ?_) | (refine DLe.agg ?_ rfl) | exact trivial | (refine And.intro ?_ ?_)))); (solve | exact .inl rfl | exact .inr rfl))) | fail | omega | exact decide_eq_true (by omega) | exact DLe.refl _)
            refine hC2 _ _ _ _ _ ?_ ⟨j + 1, g2 + 1, hlj, rfl, rfl, rfl⟩ (weak_forget _ (by simp) (by rw [hst.out]; simp only [List.map_append, List.map_cons, List.map_nil, ← dRows_app]; rfl) (by (repeat' (first | exact trivial | (refine ⟨rfl, ?_⟩)))) (by first | rfl | simp only [belowH, belowE, belowC, belowL, belowR, belowP, belowL_d, belowR_d, belowR_zipG, subRow, faceRow, List.length_cons, List.length_nil, Nat.reduceAdd, Nat.reduceLT, decide_true, Bool.and_self, Bool.and_true]) (by first | rfl | simp only [belowH, belowE, belowC, belowL, belowR, belowP, belowL_d, belowR_d, belowR_zipG, subRow, faceRow, List.length_cons, List.length_nil, Nat.reduceAdd, Nat.reduceLT, decide_true, Bool.and_self, Bool.and_true]))
            have := hm2.out; omega
          · obtain rfl : j = v.ranges.length := by omega
            rw [← rtsV_len, List.take_length]
            replace hm2 := Lib.hid hm2
            repeat' (first | (with_reducible refine And.intro ?_ ?_) | (with_reducible refine gK_i (fun _ => ?_) (fun _ => ?_)) | (with_reducible refine condS_i (fun _ => ?_) (fun _ => ?_)) | (with_reducible refine drw_i (by kernel_rfl)) | simp -dsimp only [go_sem, seval, *, hwr, rtsV_len, Int.lt_irrefl, undef] | ((with_reducible refine opK_c ?_); simp -dsimp only [go_sem, seval, hwr, rtsV_len, Int.lt_irrefl, undef]; first | refine callK_r (by first | assumption | fail) (by first | exact .inl rfl | exact .inr rfl) ?_ | (refine callK_i (by assumption) ?_ ?_ ?_; (solve | (repeat (first | exact DLe.refl _ | exact DLe.nil _ | (refine DLe.tup ?_) | (refine DLe.agg ?_ rfl) | exact trivial | (refine And.intro ?_ ?_)))); (solve | exact .inl rfl | exact .inr rfl))) | fail | omega | exact decide_eq_true (by omega) | exact DLe.refl _)
            refine hC _ _ _ _ _ ?_ ⟨k + 1, g2, hlt, rfl, rfl, rfl⟩ (weak_forget _ (by simp) (by rw [hsn.out]; rfl) (by (repeat' (first | exact trivial | (refine ⟨rfl, ?_⟩)))) (by first | rfl | simp only [belowH, belowE, belowC, belowL, belowR, belowP, belowL_d, belowR_d, belowR_zipG, subRow, faceRow, List.length_cons, List.length_nil, Nat.reduceAdd, Nat.reduceLT, decide_true, Bool.and_self, Bool.and_true]) (by first | rfl | simp only [belowH, belowE, belowC, belowL, belowR, belowP, belowL_d, belowR_d, belowR_zipG, subRow, faceRow, List.length_cons, List.length_nil, Nat.reduceAdd, Nat.reduceLT, decide_true, Bool.and_self, Bool.and_true]))
            have := hm.out; omega
      · obtain rfl : k = n.vpcs.length := by omega
        replace hm := Lib.hid hm
        by_cases hem : rtsN n id n.vpcs.length = []
        · have hso := sort_noRoute g
          have ht : tabN n id = [] := by unfold tabN; rw [hem]; rfl
          rw [ht, hem]
          replace ht := Lib.hid ht
          replace hem := Lib.hid hem
          repeat' (first | (with_reducible refine And.intro ?_ ?_) | (with_reducible refine gK_i (fun _ => ?_) (fun _ => ?_)) | (with_reducible refine condS_i (fun _ => ?_) (fun _ => ?_)) | (with_reducible refine drw_i (by kernel_rfl)) | simp -dsimp only [go_sem, seval, *, Int.lt_irrefl, undef] | ((with_reducible refine opK_c ?_); simp -dsimp only [go_sem, seval, Int.lt_irrefl, undef]; first | refine callK_r (by first | assumption | fail) (by first | exact .inl rfl | exact .inr rfl) ?_ | (refine callK_i (by assumption) ?_ ?_ ?_; (solve | (repeat (first | exact DLe.refl _ | exact DLe.nil _ | (refine DLe.tup ?_) | (refine DLe.agg ?_ rfl) | exact trivial | (refine And.intro ?_ ?_)))); (solve | exact .inl rfl | exact .inr rfl))) | (refine opK_M [2] (hso) ?_ ?_ ?_ ?_ ?_ ?_; (solve | rfl | simp only [go_sem, seval, encRo]); (solve | rfl); (solve | decide); (solve | simp); (solve | simp only [go_sem, seval, lentOK, encRo])) | omega | exact decide_eq_true (by omega) | exact DLe.refl _)
          all_goals exact (by repeat (first | exact DLe.refl _ | exact DLe.nil _ | (refine DLe.tup ?_) | (refine DLe.agg ?_ rfl) | exact trivial | (refine And.intro ?_ ?_)))
        · have hso := sort_Route (l' := tabN n id) g hem (sortR_perm _) (sortR_sorted (rtsN_keys hok.out id (Nat.le_refl _))) (by omega)
          replace hem := Lib.hid hem
          replace hrl := Lib.hid hrl
          generalize tabN n id = T at *
          generalize rtsN n id n.vpcs.length = L at *
          repeat' (first | (with_reducible refine And.intro ?_ ?_) | (with_reducible refine gK_i (fun _ => ?_) (fun _ => ?_)) | (with_reducible refine condS_i (fun _ => ?_) (fun _ => ?_)) | (with_reducible refine drw_i (by kernel_rfl)) | simp -dsimp only [go_sem, seval, *, Int.lt_irrefl, undef] | ((with_reducible refine opK_c ?_); simp -dsimp only [go_sem, seval, Int.lt_irrefl, undef]; first | refine callK_r (by first | assumption | fail) (by first | exact .inl rfl | exact .inr rfl) ?_ | (refine callK_i (by assumption) ?_ ?_ ?_; (solve | (repeat (first | exact DLe.refl _ | exact DLe.nil _ | (refine DLe.tup ?_) | (refine DLe.agg ?_ rfl) | exact trivial | (refine And.intro ?_ ?_)))); (solve | exact .inl rfl | exact .inr rfl))) | (refine opK_M [2] (hso) ?_ ?_ ?_ ?_ ?_ ?_; (solve | rfl | simp only [go_sem, seval, encRo]); (solve | rfl); (solve | decide); (solve | simp); (solve | simp only [go_sem, seval, lentOK, encRo])) | omega | exact decide_eq_true (by omega) | exact DLe.refl _)
          all_goals exact (by repeat (first | exact DLe.refl _ | exact DLe.nil _ | (refine DLe.tup ?_) | (refine DLe.agg ?_ rfl) | exact trivial | (refine And.intro ?_ ?_)))
  · have hr : R = ([], (groupN n id).2) := by rw [hR.out]; unfold tableN; rw [if_pos he]
    have h1 : ((groupN n id).2 != 0) = true := by simpa using he
    rw [hr]
    generalize groupN n id = GG at *
    replace hr := Lib.hid hr
    replace he := Lib.hid he
    replace hR := Lib.hid hR
    refine ps_i tab_ok mixed Try.func6 rfl Try.ntmps6 Try.results6 (by kernel_rfl) ?_
    repeat' (first | (with_reducible refine And.intro ?_ ?_) | (with_reducible refine gK_i (fun _ => ?_) (fun _ => ?_)) | (with_reducible refine condS_i (fun _ => ?_) (fun _ => ?_)) | (with_reducible refine drw_i (by kernel_rfl)) | simp -dsimp only [go_sem, seval, *, encT, h1, undef] | ((with_reducible refine opK_c ?_); simp -dsimp only [go_sem, seval, encT, h1, undef]; first | refine callK_r (by first | assumption | exact hgp) (by first | exact .inl rfl | exact .inr rfl) ?_ | (refine callK_i (by assumption) ?_ ?_ ?_; (solve | (repeat (first | exact DLe.refl _ | exact DLe.nil _ | (refine DLe.tup ?_) | (refine DLe.agg ?_ rfl) | exact trivial | (refine And.intro ?_ ?_)))); (solve | exact .inl rfl | exact .inr rfl))) | fail | omega | exact decide_eq_true (by omega) | exact DLe.refl _)
    all_goals exact (by repeat (first | exact DLe.refl _ | exact DLe.nil _ | (refine DLe.tup ?_) | (refine DLe.agg ?_ rfl) | exact trivial | (refine And.intro ?_ ?_)))
end Go.Proofs.Ytinnohljknmolaa
namespace Go.Proofs.Ytinnohljknmolaa
open Go Go.RowKit
theorem vpcIx_at {n : Net} (hr : n.vpcs.Pairwise fun a b => a.id < b.id) {j : Nat} {w : Vpc} (hw : n.vpcs[j]? = some w) : vpcIx n w.id = some j := by
  unfold vpcIx
  rw [List.findIdx?_eq_some_iff_getElem]
  obtain ⟨hj, rfl⟩ := List.getElem?_eq_some_iff.1 hw
  refine ⟨hj, by simp, fun i hi => ?_⟩
  have := List.pairwise_iff_getElem.1 hr i j (by omega) hj hi
  simp
  omega
def NetZ (n : Net) : Prop := ∀ v ∈ n.vpcs, v.subs.length ≤ 9223372036854775807 ∧ ∀ s ∈ v.subs, s.faces.length ≤ 9223372036854775807
end Go.Proofs.Ytinnohljknmolaa
namespace Go.Proofs.Ytinnohljknmolaa
open Go Go.RowKit
def vb0 : Vpc := ⟨3, [⟨⟨256, 10⟩, 7⟩], [⟨1, ⟨256, 13⟩, [⟨2, [257]⟩]⟩]⟩
theorem house_p : PSpec Try.prog 23 [] (.agg (encV vb0)) := by
  refine ps_i tab_ok mixed Try.func23 rfl Try.ntmps23 Try.results23 (by kernel_rfl) ?_
  repeat' (first | (with_reducible refine And.intro ?_ ?_) | (with_reducible refine gK_i (fun _ => ?_) (fun _ => ?_)) | (with_reducible refine condS_i (fun _ => ?_) (fun _ => ?_)) | (with_reducible refine drw_i (by kernel_rfl)) | simp -dsimp only [go_sem, seval, *, encV, encG, encN, encF, encA, vb0] | ((with_reducible refine opK_c ?_); simp -dsimp only [go_sem, seval, encV, encG, encN, encF, encA, vb0]; first | refine callK_r (by first | assumption | fail) (by first | exact .inl rfl | exact .inr rfl) ?_ | (refine callK_i (by assumption) ?_ ?_ ?_; (solve | (repeat (first | exact DLe.refl _ | exact DLe.nil _ | (refine DLe.tup ?_) | (refine DLe.agg ?_ rfl) | exact trivial | (refine And.intro ?_ ?_)))); (solve | exact .inl rfl | exact .inr rfl))) | fail | omega | exact decide_eq_true (by omega) | exact DLe.refl _)
  all_goals exact (by repeat (first | exact DLe.refl _ | exact DLe.nil _ | (refine DLe.tup ?_) | (refine DLe.agg ?_ rfl) | exact trivial | (refine And.intro ?_ ?_)))
end Go.Proofs.Ytinnohljknmolaa
namespace Go.Proofs.Ytinnohljknmolaa
open Go Go.RowKit
def rb0 : Net := ⟨[vb0], []⟩
def rb1 : List Rte := [⟨⟨0, 0⟩, 1⟩, ⟨⟨256, 8⟩, 2⟩, ⟨⟨256, 8⟩, 3⟩]
set_option maxRecDepth 100000 in
theorem rb_1 : tableN rb0 3 = ([⟨⟨256, 10⟩, 3⟩], 0) := by kernel_rfl
set_option maxRecDepth 100000 in
theorem rb_2 : findR rb1 300 = (⟨⟨256, 8⟩, 2⟩, true, 0) := by kernel_rfl
set_option maxRecDepth 100000 in
set_option maxHeartbeats 1000000 in
theorem routeBegun_p : PSpec Try.prog 10 [] (.v (.bool true)) := by
  have h0 := house_p
  have h1 := table_p rb0 3
  have h2 := find_p rb1 300
  rw [rb_1] at h1
  rw [rb_2] at h2
  simp only [encT, encV, encG, encN, encF, encA, encP, encK, encRo, rb0, rb1, vb0, List.map_nil, List.map_cons] at h0 h1 h2
  have h1 := h1.args (ds := [.agg [.sl 3 [[.v (.int .i64 3), .sl 3 [[.v (.int .i64 256), .v (.int .i64 10), .v (.int .i64 7)]], .sl 4 [[.v (.int .i64 1), .v (.int .i64 256), .v (.int .i64 13), .sl 2 [[.v (.int .i64 2), .sl 1 [[.v (.int .i64 257)]]]]]]]], .v (.slice none 0 0)], .v (.int .i64 3)]) ⟨(by repeat (first | exact DLe.refl _ | exact DLe.nil _ | (refine DLe.tup ?_) | (refine DLe.agg ?_ rfl) | exact trivial | (refine And.intro ?_ ?_))), DLe.refl _, trivial⟩
  refine ps_i tab_ok mixed Try.func10 rfl Try.ntmps10 Try.results10 (by kernel_rfl) ?_
  repeat' (first | (with_reducible refine And.intro ?_ ?_) | (with_reducible refine gK_i (fun _ => ?_) (fun _ => ?_)) | (with_reducible refine condS_i (fun _ => ?_) (fun _ => ?_)) | (with_reducible refine drw_i (by kernel_rfl)) | simp -dsimp only [go_sem, seval, *, undef] | ((with_reducible refine opK_c ?_); simp -dsimp only [go_sem, seval, undef]; first | refine callK_r (by first | assumption | exact h0 | exact h1 | exact h2) (by first | exact .inl rfl | exact .inr rfl) ?_ | (refine callK_i (by assumption) ?_ ?_ ?_; (solve | (repeat (first | exact DLe.refl _ | exact DLe.nil _ | (refine DLe.tup ?_) | (refine DLe.agg ?_ rfl) | exact trivial | (refine And.intro ?_ ?_)))); (solve | exact .inl rfl | exact .inr rfl))) | fail | omega | exact decide_eq_true (by omega) | exact DLe.refl _)
end Go.Proofs.Ytinnohljknmolaa
namespace Go.Proofs.Ytinnohljknmolaa
open Go Go.RowKit Go.Proofs
set_option maxRecDepth 100000
def absI (c : Int) : Int := if c < 0 then -(c + 1) else c
set_option maxHeartbeats 1000000 in
theorem choose_any (c n : Int) (w : World) (h1 : -9223372036854775808 ≤ c) (h2 : c ≤ 9223372036854775807) (hn : 0 < n) :
    Calls Try.prog 13 #[.int .i64 c, .int .i64 n] w fun e w' => e = .returned (.int .i64 (absI c % n)) ∧ w = w' := by
  by_cases hc : c < 0
  · have ha : absI c = -(c + 1) := by simp [absI, hc]
    rw [ha]
    go_enter Try.func13, Try.ntmps13
    go_wp2_with fail
    go_ret
    refine ⟨ret_int ?_, rfl⟩
    rw [← Int.neg_tmod, Int.tmod_eq_emod_of_nonneg (by omega)]
  · have ha : absI c = c := by simp [absI, hc]
    rw [ha]
    go_enter Try.func13, Try.ntmps13
    go_wp2_with fail
    go_ret
    exact ⟨ret_int rfl, rfl⟩
end Go.Proofs.Ytinnohljknmolaa
namespace Go.Proofs.Ytinnohljknmolaa
open Go Go.RowKit
theorem choose_p (c n : Int) (h1 : -9223372036854775808 ≤ c) (h2 : c ≤ 9223372036854775807) (hn : 0 < n) : PSpec Try.prog 13 [.v (.int .i64 c), .v (.int .i64 n)] (.v (.int .i64 (absI c % n))) := pspec_flat (fnok_of Try.func13 (by kernel_rfl) rfl) (by intro d hd; simp at hd; (repeat (first | (obtain rfl := hd; rfl) | (rcases hd with rfl | hd; · rfl)))) rfl rfl (fun w => (choose_any c n w h1 h2 hn).mono fun _ _ h => ⟨h.1, h.2 ▸ Below.refl _ _⟩)
theorem hold_meets {p q : Pfx} {a : Int} (hp : holdP p.at_ p.len a = true) (hq : holdP q.at_ q.len a = true) : p.meets q = true := by
  rw [holdP_eq, holdB_iff] at hp hq
  exact meets_iff.2 ⟨hp.1, hq.1, by omega, by omega⟩
def hRo (a : Int) (r : Rte) : Bool := holdP r.at_.at_ r.at_.len a
theorem cnt_one {α : Type} {p : α → Bool} {R : α → α → Prop} (h : ∀ x y, p x = true → p y = true → ¬ R x y) : ∀ {l : List α}, l.Pairwise R → l.countP p ≤ 1
  | [], _ => by simp
  | x :: l, hl => by
    rw [List.pairwise_cons] at hl
    have ih := cnt_one h hl.2
    rw [List.countP_cons]
    cases hx : p x with
    | false => simpa using ih
    | true =>
      have : l.countP p = 0 := by
        rw [List.countP_eq_zero]
        intro y hy hpy
        exact h x y hx hpy (hl.1 y hy)
      simp [this]
theorem tab_cnt {n : Net} (hok : NetOK n) (id a : Int) : (tabN n id).countP (hRo a) ≤ 1 := by
  unfold tabN
  rw [(sortR_perm _).countP_eq]
  exact cnt_one (fun x y hx hy => by rw [hold_meets hx hy]; simp) (rtsN_apart hok id n.vpcs.length (Nat.le_refl _))
theorem tab_right {n : Net} (hok : NetOK n) {id : Int} {r : Rte} (h : r ∈ tabN n id) : r.at_.right = true := by
  unfold tabN at h
  exact rtsN_right hok ((sortR_perm _).mem_iff.1 h)
theorem tab_from {n : Net} {id : Int} {r : Rte} (h : r ∈ tabN n id) : ∃ (i : Nat) (v : Vpc), n.vpcs[i]? = some v ∧ r.to = v.id ∧ ∃ q ∈ v.ranges, q.at_ = r.at_ := by
  unfold tabN at h
  obtain ⟨v, hv, -, hr⟩ := rtsN_mem.1 ((sortR_perm _).mem_iff.1 h)
  obtain ⟨q, hq, rfl⟩ := rtsV_mem.1 hr
  obtain ⟨i, hi⟩ := List.mem_iff_getElem?.1 (List.mem_of_mem_take hv)
  exact ⟨i, v, hi, rfl, q, hq, rfl⟩
theorem lookR_none {l : List Rte} {a : Int} : ∀ {n : Nat}, lookR l a n = none → ∀ r ∈ l, ∀ m ≤ n, r.at_ ≠ pfxN a m
  | 0, h, r, hr, m, hm => by
    unfold lookR at h
    obtain rfl : m = 0 := by omega
    have := List.find?_eq_none.1 h r hr
    simpa using this
  | n + 1, h, r, hr, m, hm => by
    unfold lookR at h
    cases hf : l.find? fun r => decide (r.at_ = pfxN a (n + 1)) with
    | some c => rw [hf] at h; cases h
    | none =>
      rw [hf, Option.none_or] at h
      rcases Nat.lt_or_ge n m with h2 | h2
      · obtain rfl : m = n + 1 := by omega
        have := List.find?_eq_none.1 hf r hr
        simpa using this
      · exact lookR_none h r hr m h2
theorem look_some {T : List Rte} {a : Int} (hr : ∀ r ∈ T, r.at_.right = true) (h0 : 0 ≤ a) (h1 : a ≤ 65535) {r : Rte} (h : lookR T a 16 = some r) : r ∈ T ∧ hRo a r = true := by
  obtain ⟨m, hm, e, hin⟩ := lookR_len h
  refine ⟨hin, ?_⟩
  unfold hRo
  rw [hold_pfx (hr r hin) h0 h1, e]
  rfl
theorem look_no {T : List Rte} {a : Int} (hr : ∀ r ∈ T, r.at_.right = true) (h0 : 0 ≤ a) (h1 : a ≤ 65535) (h : lookR T a 16 = none) : T.countP (hRo a) = 0 := by
  rw [List.countP_eq_zero]
  intro r hin hh
  have e := (hold_pfx (hr r hin) h0 h1).1 hh
  have hl := (r.at_.bd (hr r hin)).2.1
  exact lookR_none h r hin r.at_.len.toNat (by omega) e
set_option maxRecDepth 100000 in
set_option maxHeartbeats 1000000 in
theorem routeTrue_p (n : Net) (id addr : Int) (ha1 : -9223372036854775808 ≤ addr) (ha2 : addr ≤ 9223372036854775807) : PSpec Try.prog 5 [.agg (encT n), .v (.int .i64 id), .v (.int .i64 addr)] (.v (.bool true)) := by
  have h0 := routeBegun_p
  have h1 := table_p n id
  by_cases he : (groupN n id).2 = 0
  case neg =>
    have hg : tableN n id = ([], (groupN n id).2) := by unfold tableN; rw [if_pos he]
    have hcb : ((groupN n id).2 != 0) = true := by simpa using he
    rw [hg] at h1
    clear hg he
    generalize (groupN n id).2 = E at *
    refine ps_i tab_ok mixed Try.func5 rfl Try.ntmps5 Try.results5 (by kernel_rfl) ?_
    repeat' (first | (with_reducible refine And.intro ?_ ?_) | (with_reducible refine gK_i (fun _ => ?_) (fun _ => ?_)) | (with_reducible refine condS_i (fun _ => ?_) (fun _ => ?_)) | (with_reducible refine drw_i (by kernel_rfl)) | simp -dsimp only [go_sem, seval, *, encT, hcb, undef] | ((with_reducible refine opK_c ?_); simp -dsimp only [go_sem, seval, encT, hcb, undef]; first | refine callK_r (by first | assumption | exact h0 | exact h1) (by first | exact .inl rfl | exact .inr rfl) ?_ | (refine callK_i (by assumption) ?_ ?_ ?_; (solve | (repeat (first | exact DLe.refl _ | exact DLe.nil _ | (refine DLe.tup ?_) | (refine DLe.agg ?_ rfl) | exact trivial | (refine And.intro ?_ ?_)))); (solve | exact .inl rfl | exact .inr rfl))) | fail | omega | exact decide_eq_true (by omega) | exact DLe.refl _)
  obtain ⟨hok, -⟩ := group_ok he
  have hg : tableN n id = (tabN n id, 0) := by unfold tableN; rw [if_neg (by simpa using he)]
  rw [hg] at h1
  have h2 := choose_p addr 65536 ha1 ha2 (by omega)
  have hc1 := tab_cnt hok id (absI addr % 65536)
  have hlo : 0 ≤ absI addr % 65536 := Int.emod_nonneg _ (by omega)
  have hhi : absI addr % 65536 ≤ 65535 := by have := Int.emod_lt_of_pos (absI addr) (show (0 : Int) < 65536 by omega); omega
  generalize absI addr % 65536 = a at *
  have htl : (tabN n id).length ≤ 28 := by
    have := rtsN_len hok id n.vpcs.length (Nat.le_refl _)
    have := hok.n6
    unfold tabN; rw [(sortR_perm _).length_eq]; omega
  have hrt : ∀ r ∈ tabN n id, r.at_.right = true := fun r h => tab_right hok h
  have hfr : ∀ r ∈ tabN n id, ∃ (i : Nat) (v : Vpc), n.vpcs[i]? = some v ∧ r.to = v.id ∧ ∃ q ∈ v.ranges, q.at_ = r.at_ := fun r h => tab_from h
  have h3 := find_p (tabN n id) a
  clear hg he ha1 ha2
  generalize tabN n id = T at *
  rw [findR_in (by omega) (by rw [List.all_eq_true]; intro r hr; have := hrt r hr; simpa [Pfx.right, rightB] using this) (by omega)] at h3
  have hsome := fun r => look_some (r := r) hrt hlo hhi
  have hno := look_no hrt hlo hhi
  have hsn : ∀ (k : Nat) (r : Rte), T[k]? = some r → (T.take (k + 1)).countP (hRo a) = (T.take k).countP (hRo a) + if hRo a r = true then 1 else 0 := fun k r h => by
    rw [take_snoc h, List.countP_append, List.countP_cons, List.countP_nil]; simp
  have hcl : ∀ k, (T.take k).countP (hRo a) ≤ 28 := fun k => by
    have := List.countP_le_length (p := hRo a) (l := T.take k)
    rw [List.length_take] at this; omega
  replace hok := Lib.hid hok
  replace hrt := Lib.hid hrt
  replace hfr := Lib.hid hfr
  replace hsome := Lib.hid hsome
  replace hno := Lib.hid hno
  replace hsn := Lib.hid hsn
  replace hcl := Lib.hid hcl
  refine ps_i tab_ok mixed Try.func5 rfl Try.ntmps5 Try.results5 (by kernel_rfl) ?_
  repeat' (first | (with_reducible refine And.intro ?_ ?_) | (with_reducible refine gK_i (fun _ => ?_) (fun _ => ?_)) | (with_reducible refine condS_i (fun _ => ?_) (fun _ => ?_)) | (with_reducible refine drw_i (by kernel_rfl)) | simp -dsimp only [go_sem, seval, *, encT, undef] | ((with_reducible refine opK_c ?_); simp -dsimp only [go_sem, seval, encT, undef]; first | refine callK_r (by first | assumption | exact h0 | exact h1 | exact h2) (by first | exact .inl rfl | exact .inr rfl) ?_ | (refine callK_i (by assumption) ?_ ?_ ?_; (solve | (repeat (first | exact DLe.refl _ | exact DLe.nil _ | (refine DLe.tup ?_) | (refine DLe.agg ?_ rfl) | exact trivial | (refine And.intro ?_ ?_)))); (solve | exact .inl rfl | exact .inr rfl))) | fail | omega | exact decide_eq_true (by omega) | exact DLe.refl _)
  refine loopL tab_ok mixed T (fun _ => True) (fun k => [(11, .d (.v (.int .i64 k))), (10, .d (.v (.int .i64 ((T.take k).countP (hRo a) : Nat)))), (9, .d (.v (.int .i64 a))), (7, .d (.sl 3 (T.map encRo))), (3, .ptr 0 0)]) (fun _ => [.box 25 ((encT n).map .d)]) trivial (weak_forget _ (by simp) (by (try simp only [encT]); rfl) (by (repeat' (first | exact trivial | (refine ⟨rfl, ?_⟩)))) (by first | rfl | simp only [belowH, belowE, belowC, belowL, belowR, belowP, belowL_d, belowR_d, List.length_cons, List.length_nil, Nat.reduceAdd, Nat.reduceLT, decide_true, Bool.and_self, Bool.and_true]) (by first | rfl | simp only [belowH, belowE, belowC, belowL, belowR, belowP, belowL_d, belowR_d, List.length_cons, List.length_nil, Nat.reduceAdd, Nat.reduceLT, decide_true, Bool.and_self, Bool.and_true])) ?_ ?_
  · intro k r hr hk _ C hC
    have hkI : (k : Int) < (T.length : Int) := by omega
    have hwr : IntKind.i64.wrap ((k : Int) + 1) = ((k + 1 : Nat) : Int) := by rw [IntKind.wrap_i64]; omega
    have hp := holds_p r.at_ a
    have hs := hsn.out k r hr
    have hcb := hcl.out k
    have hwc : IntKind.i64.wrap (((T.take k).countP (hRo a) : Nat) + 1 : Int) = (((T.take k).countP (hRo a) + 1 : Nat) : Int) := by rw [IntKind.wrap_i64]; omega
    have hrd : holdP r.at_.at_ r.at_.len a = hRo a r := rfl
    rw [hrd] at hp
    clear hrd
    generalize (T.take k).countP (hRo a) = c at *
    cases hb : hRo a r with
    | true =>
      rw [hb] at hp hs
      replace hs := Lib.hid hs
      repeat' (first | (with_reducible refine And.intro ?_ ?_) | (with_reducible refine gK_i (fun _ => ?_) (fun _ => ?_)) | (with_reducible refine condS_i (fun _ => ?_) (fun _ => ?_)) | (with_reducible refine drw_i (by kernel_rfl)) | simp -dsimp only [go_sem, seval, *, encRo, encP, hkI, hwr, hr, hwc, undef] | ((with_reducible refine opK_c ?_); simp -dsimp only [go_sem, seval, encRo, encP, hkI, hwr, hr, hwc, undef]; first | refine callK_r (by first | assumption | exact hp) (by first | exact .inl rfl | exact .inr rfl) ?_ | (refine callK_i (by assumption) ?_ ?_ ?_; (solve | (repeat (first | exact DLe.refl _ | exact DLe.nil _ | (refine DLe.tup ?_) | (refine DLe.agg ?_ rfl) | exact trivial | (refine And.intro ?_ ?_)))); (solve | exact .inl rfl | exact .inr rfl))) | fail | omega | exact decide_eq_true (by omega) | exact DLe.refl _)
      exact hC _ _ trivial (weak_forget _ (by simp) rfl (by rw [hs.out]; exact (by (repeat' (first | exact trivial | (refine ⟨rfl, ?_⟩))))) (by first | rfl | simp only [belowH, belowE, belowC, belowL, belowR, belowP, belowL_d, belowR_d, belowR_zipG, subRow, faceRow, List.length_cons, List.length_nil, Nat.reduceAdd, Nat.reduceLT, decide_true, Bool.and_self, Bool.and_true]) (by first | rfl | simp only [belowH, belowE, belowC, belowL, belowR, belowP, belowL_d, belowR_d, belowR_zipG, subRow, faceRow, List.length_cons, List.length_nil, Nat.reduceAdd, Nat.reduceLT, decide_true, Bool.and_self, Bool.and_true]))
    | false =>
      rw [hb] at hp hs
      replace hs := Lib.hid hs
      repeat' (first | (with_reducible refine And.intro ?_ ?_) | (with_reducible refine gK_i (fun _ => ?_) (fun _ => ?_)) | (with_reducible refine condS_i (fun _ => ?_) (fun _ => ?_)) | (with_reducible refine drw_i (by kernel_rfl)) | simp -dsimp only [go_sem, seval, *, encRo, encP, hkI, hwr, hr, hwc, undef] | ((with_reducible refine opK_c ?_); simp -dsimp only [go_sem, seval, encRo, encP, hkI, hwr, hr, hwc, undef]; first | refine callK_r (by first | assumption | exact hp) (by first | exact .inl rfl | exact .inr rfl) ?_ | (refine callK_i (by assumption) ?_ ?_ ?_; (solve | (repeat (first | exact DLe.refl _ | exact DLe.nil _ | (refine DLe.tup ?_) | (refine DLe.agg ?_ rfl) | exact trivial | (refine And.intro ?_ ?_)))); (solve | exact .inl rfl | exact .inr rfl))) | fail | omega | exact decide_eq_true (by omega) | exact DLe.refl _)
      exact hC _ _ trivial (weak_forget _ (by simp) rfl (by rw [hs.out]; exact (by (repeat' (first | exact trivial | (refine ⟨rfl, ?_⟩))))) (by first | rfl | simp only [belowH, belowE, belowC, belowL, belowR, belowP, belowL_d, belowR_d, belowR_zipG, subRow, faceRow, List.length_cons, List.length_nil, Nat.reduceAdd, Nat.reduceLT, decide_true, Bool.and_self, Bool.and_true]) (by first | rfl | simp only [belowH, belowE, belowC, belowL, belowR, belowP, belowL_d, belowR_d, belowR_zipG, subRow, faceRow, List.length_cons, List.length_nil, Nat.reduceAdd, Nat.reduceLT, decide_true, Bool.and_self, Bool.and_true]))
  · intro _ C
    rw [List.take_length]
    cases hlk : lookR T a 16 with
    | none =>
      have hz := hno.out hlk
      rw [hlk] at h3
      rw [hz]
      simp only at h3
      have hgt : decide (((0 : Nat) : Int) > 1) = false := rfl
      have heq : (((0 : Nat) : Int) == 1) = false := rfl
      clear hlk hz
      repeat' (first | (with_reducible refine And.intro ?_ ?_) | (with_reducible refine gK_i (fun _ => ?_) (fun _ => ?_)) | (with_reducible refine condS_i (fun _ => ?_) (fun _ => ?_)) | (with_reducible refine drw_i (by kernel_rfl)) | simp -dsimp only [go_sem, seval, *, encRo, encP, Rte.zero, Int.lt_irrefl, hgt, heq, bne_self_eq_false, undef] | ((with_reducible refine opK_c ?_); simp -dsimp only [go_sem, seval, encRo, encP, Rte.zero, Int.lt_irrefl, hgt, heq, bne_self_eq_false, undef]; first | refine callK_r (by first | assumption | exact h3 | exact h0) (by first | exact .inl rfl | exact .inr rfl) ?_ | (refine callK_i (by assumption) ?_ ?_ ?_; (solve | (repeat (first | exact DLe.refl _ | exact DLe.nil _ | (refine DLe.tup ?_) | (refine DLe.agg ?_ rfl) | exact trivial | (refine And.intro ?_ ?_)))); (solve | exact .inl rfl | exact .inr rfl))) | fail | omega | exact decide_eq_true (by omega) | exact DLe.refl _)
    | some r =>
      obtain ⟨hin, hh⟩ := hsome.out r hlk
      have hone : T.countP (hRo a) = 1 := by
        have : 0 < T.countP (hRo a) := List.countP_pos_iff.2 ⟨r, hin, hh⟩
        omega
      obtain ⟨i, v, hv, hto, q, hq, hqa⟩ := hfr.out r hin
      have hat := vpcAt_p n r.to (by have := hok.out.n6; omega)
      rw [vpcAt_ix, hto, vpcIx_at hok.out.rise hv, ← hto] at hat
      simp only at hat
      have hi := (List.getElem?_eq_some_iff.1 hv).1
      have hi0 : decide ((i : Int) < 0) = false := by simp
      have hiI : (i : Int) < (n.vpcs.length : Int) := by omega
      have hiN : (0 : Int) ≤ (i : Int) := by omega
      have h4 := (vpcOK_of (hok.out.vp v (List.mem_of_getElem? hv))).n4
      have hany : (v.ranges.any fun q => holdP q.at_.at_ q.at_.len a) = true := List.any_eq_true.2 ⟨q, hq, by rw [hqa]; exact hh⟩
      rw [hlk] at h3
      rw [hone]
      simp only at h3
      have hgt : decide (((1 : Nat) : Int) > 1) = false := rfl
      have heq : (((1 : Nat) : Int) == 1) = true := rfl
      clear hlk hone hin hh hto hq hqa hc1 h1 h2
      replace hany := Lib.hid hany
      repeat' (first | (with_reducible refine And.intro ?_ ?_) | (with_reducible refine gK_i (fun _ => ?_) (fun _ => ?_)) | (with_reducible refine condS_i (fun _ => ?_) (fun _ => ?_)) | (with_reducible refine drw_i (by kernel_rfl)) | simp -dsimp only [go_sem, seval, *, encRo, encP, encT, Int.lt_irrefl, hgt, heq, hi0, bne_self_eq_false, undef] | ((with_reducible refine opK_c ?_); simp -dsimp only [go_sem, seval, encRo, encP, encT, Int.lt_irrefl, hgt, heq, hi0, bne_self_eq_false, undef]; first | refine callK_r (by first | assumption | exact h3 | exact hat) (by first | exact .inl rfl | exact .inr rfl) ?_ | (refine callK_i (by assumption) ?_ ?_ ?_; (solve | (repeat (first | exact DLe.refl _ | exact DLe.nil _ | (refine DLe.tup ?_) | (refine DLe.agg ?_ rfl) | exact trivial | (refine And.intro ?_ ?_)))); (solve | exact .inl rfl | exact .inr rfl))) | fail | omega | exact decide_eq_true (by omega) | exact DLe.refl _)
      refine loopL tab_ok mixed v.ranges (fun _ => True) (fun k => [(17, .d (.v (.int .i64 k))), (16, .d (.v (.bool ((v.ranges.take k).any fun q => holdP q.at_.at_ q.at_.len a)))), (15, .d (.v (.int .i64 i))), (9, .d (.v (.int .i64 a))), (3, .ptr 0 0)]) (fun _ => [.box 25 ((encT n).map .d)]) trivial (weak_forget _ (by simp) (by (try simp only [encT]); rfl) (by (repeat' (first | exact trivial | (refine ⟨rfl, ?_⟩)))) (by first | rfl | simp only [belowH, belowE, belowC, belowL, belowR, belowP, belowL_d, belowR_d, List.length_cons, List.length_nil, Nat.reduceAdd, Nat.reduceLT, decide_true, Bool.and_self, Bool.and_true]) (by first | rfl | simp only [belowH, belowE, belowC, belowL, belowR, belowP, belowL_d, belowR_d, List.length_cons, List.length_nil, Nat.reduceAdd, Nat.reduceLT, decide_true, Bool.and_self, Bool.and_true])) ?_ ?_
      · intro k g hg hk _ C hC
        have hkI : (k : Int) < (v.ranges.length : Int) := by omega
        have hwr : IntKind.i64.wrap ((k : Int) + 1) = ((k + 1 : Nat) : Int) := by rw [IntKind.wrap_i64]; omega
        have hp := holds_p g.at_ a
        have hs : ((v.ranges.take (k + 1)).any fun q => holdP q.at_.at_ q.at_.len a) = (((v.ranges.take k).any fun q => holdP q.at_.at_ q.at_.len a) || holdP g.at_.at_ g.at_.len a) := by rw [take_snoc hg, List.any_append]; simp
        generalize (v.ranges.take k).any (fun q => holdP q.at_.at_ q.at_.len a) = b at *
        generalize holdP g.at_.at_ g.at_.len a = b2 at *
        replace hs := Lib.hid hs
        cases b with
        | true =>
          repeat' (first | (with_reducible refine And.intro ?_ ?_) | (with_reducible refine gK_i (fun _ => ?_) (fun _ => ?_)) | (with_reducible refine condS_i (fun _ => ?_) (fun _ => ?_)) | (with_reducible refine drw_i (by kernel_rfl)) | simp -dsimp only [go_sem, seval, *, encT, encV, encG, encP, hkI, hwr, hg, hv, hi, hiI, hiN, undef] | ((with_reducible refine opK_c ?_); simp -dsimp only [go_sem, seval, encT, encV, encG, encP, hkI, hwr, hg, hv, hi, hiI, hiN, undef]; first | refine callK_r (by first | assumption | exact hp) (by first | exact .inl rfl | exact .inr rfl) ?_ | (refine callK_i (by assumption) ?_ ?_ ?_; (solve | (repeat (first | exact DLe.refl _ | exact DLe.nil _ | (refine DLe.tup ?_) | (refine DLe.agg ?_ rfl) | exact trivial | (refine And.intro ?_ ?_)))); (solve | exact .inl rfl | exact .inr rfl))) | fail | omega | exact decide_eq_true (by omega) | exact DLe.refl _)
          exact hC _ _ trivial (weak_forget _ (by simp) rfl (by rw [hs.out]; exact (by (repeat' (first | exact trivial | (refine ⟨rfl, ?_⟩))))) (by first | rfl | simp only [belowH, belowE, belowC, belowL, belowR, belowP, belowL_d, belowR_d, belowR_zipG, subRow, faceRow, List.length_cons, List.length_nil, Nat.reduceAdd, Nat.reduceLT, decide_true, Bool.and_self, Bool.and_true]) (by first | rfl | simp only [belowH, belowE, belowC, belowL, belowR, belowP, belowL_d, belowR_d, belowR_zipG, subRow, faceRow, List.length_cons, List.length_nil, Nat.reduceAdd, Nat.reduceLT, decide_true, Bool.and_self, Bool.and_true]))
        | false =>
          repeat' (first | (with_reducible refine And.intro ?_ ?_) | (with_reducible refine gK_i (fun _ => ?_) (fun _ => ?_)) | (with_reducible refine condS_i (fun _ => ?_) (fun _ => ?_)) | (with_reducible refine drw_i (by kernel_rfl)) | simp -dsimp only [go_sem, seval, *, encT, encV, encG, encP, hkI, hwr, hg, hv, hi, hiI, hiN, undef] | ((with_reducible refine opK_c ?_); simp -dsimp only [go_sem, seval, encT, encV, encG, encP, hkI, hwr, hg, hv, hi, hiI, hiN, undef]; first | refine callK_r (by first | assumption | exact hp) (by first | exact .inl rfl | exact .inr rfl) ?_ | (refine callK_i (by assumption) ?_ ?_ ?_; (solve | (repeat (first | exact DLe.refl _ | exact DLe.nil _ | (refine DLe.tup ?_) | (refine DLe.agg ?_ rfl) | exact trivial | (refine And.intro ?_ ?_)))); (solve | exact .inl rfl | exact .inr rfl))) | fail | omega | exact decide_eq_true (by omega) | exact DLe.refl _)
          exact hC _ _ trivial (weak_forget _ (by simp) rfl (by rw [hs.out]; exact (by (repeat' (first | exact trivial | (refine ⟨rfl, ?_⟩))))) (by first | rfl | simp only [belowH, belowE, belowC, belowL, belowR, belowP, belowL_d, belowR_d, belowR_zipG, subRow, faceRow, List.length_cons, List.length_nil, Nat.reduceAdd, Nat.reduceLT, decide_true, Bool.and_self, Bool.and_true]) (by first | rfl | simp only [belowH, belowE, belowC, belowL, belowR, belowP, belowL_d, belowR_d, belowR_zipG, subRow, faceRow, List.length_cons, List.length_nil, Nat.reduceAdd, Nat.reduceLT, decide_true, Bool.and_self, Bool.and_true]))
      · intro _ C
        rw [List.take_length, hany.out]
        repeat' (first | (with_reducible refine And.intro ?_ ?_) | (with_reducible refine gK_i (fun _ => ?_) (fun _ => ?_)) | (with_reducible refine condS_i (fun _ => ?_) (fun _ => ?_)) | (with_reducible refine drw_i (by kernel_rfl)) | simp -dsimp only [go_sem, seval, *, encT, encV, hv, hi, hiI, hiN, Int.lt_irrefl, undef] | ((with_reducible refine opK_c ?_); simp -dsimp only [go_sem, seval, encT, encV, hv, hi, hiI, hiN, Int.lt_irrefl, undef]; first | refine callK_r (by first | assumption | exact h0) (by first | exact .inl rfl | exact .inr rfl) ?_ | (refine callK_i (by assumption) ?_ ?_ ?_; (solve | (repeat (first | exact DLe.refl _ | exact DLe.nil _ | (refine DLe.tup ?_) | (refine DLe.agg ?_ rfl) | exact trivial | (refine And.intro ?_ ?_)))); (solve | exact .inl rfl | exact .inr rfl))) | fail | omega | exact decide_eq_true (by omega) | exact DLe.refl _)
end Go.Proofs.Ytinnohljknmolaa
namespace Go.Proofs.Ytinnohljknmolaa
open Go Go.RowKit Go.Proofs Go.ChangeShapes Go.WideShapes Go.Deep
/-- Nothing may be written. -/
def NM : Nat → Prop := fun _ => False
section
variable {H : Type} {enc : TypeId × Value → H} {P : Program} {w : World} {base : Nat} {spare : Nat → Bool} {held : Bool}
def RdW {α : Type} (enc : TypeId × Value → H) (P : Program) (w : World) (base : Nat) (spare : Nat → Bool) (held : Bool) (t : TypeId) (R : List Value → α → Prop) (S : α → Prop) : Prop :=
  ∀ fuel cs x, DataW.trod enc P w base spare held fuel t cs = some x → ∃ a, R cs a ∧ ((∀ n ∈ x.1.weights P t, n ≤ reachBytes) → S a)
theorem rdw_of {α : Type} {t : TypeId} {R : List Value → α → Prop} (h : Rd enc P w base spare held t R) : RdW enc P w base spare held t R (fun _ => True) := by
  intro fuel cs x hx
  obtain ⟨a, ha⟩ := h fuel cs x hx
  exact ⟨a, ha, fun _ => trivial⟩
theorem weights_all {e : TypeId} : ∀ {l : List (DataW H)} {d : DataW H}, d ∈ l → ∀ n ∈ d.weights P e, n ∈ DataW.weightsAll P e l
  | a :: l, d, h, n, hn => by
    simp only [DataW.weightsAll, List.mem_append]
    rcases List.mem_cons.1 h with rfl | h
    · exact .inl hn
    · exact .inr (weights_all h n hn)
theorem rdw_field {α : Type} {t : TypeId} {fs : Array Field} {fuel : Nat} {cs : List Value} {x : DataW H × List MemPlace} (ht : P.underlying t = some (.struct fs)) (h : DataW.trod enc P w base spare held fuel t cs = some x)
    (j : Nat) {f : Field} (hf : fs[j]? = some f) {R : List Value → α → Prop} {S : α → Prop} (hr : RdW enc P w base spare held f.type R S) : ∃ a, R ((cs.drop f.offset).take (P.cellsOf f.type)) a ∧ ((∀ n ∈ x.1.weights P t, n ≤ reachBytes) → S a) := by
  obtain ⟨xs, n, _, rfl, _, hlen, hg⟩ := DataW.trod_struct ht h
  have h1 := hg j f hf
  have hj : j < xs.length := by rw [hlen]; exact (Array.getElem?_eq_some_iff.1 hf).1
  rw [List.getElem?_eq_getElem hj] at h1
  obtain ⟨a, ha, hs⟩ := hr _ _ _ h1
  refine ⟨a, ha, fun hw => hs fun n hn => hw n ?_⟩
  simp only [DataW.weights, ht]
  exact DataW.weights_mem_each (j := j) (t := f.type) (d := (xs[j]).1) (by simp [hf]) (by simp [List.getElem?_eq_getElem hj]) n hn
theorem rdw_slice {α : Type} {t e : TypeId} {k : Nat} {R : List Value → α → Prop} {S : α → Prop} (ht : P.underlying t = some (.slice e)) (hc : P.cellsOf e = k + 1) (he : RdW enc P w base spare held e R S) :
    RdW enc P w base spare held t (fun cs (l : List α) => ∃ v, cs = [v] ∧ IsSl (inW w) w (k + 1) R v l) (fun l => l.length * P.bytesOf e ≤ reachBytes ∧ ∀ a ∈ l, S a) := by
  intro fuel cs x hx
  rcases open_slice ht hx with ⟨rfl, rfl⟩ | ⟨a, len, cap, m, n, D, Pl, rfl, hb, hl, hm, hmm, rfl, hi⟩
  · exact ⟨[], ⟨_, rfl, none, 0, rfl, ⟨Nat.le_refl _, by decide, fun i h => by simp at h⟩⟩, fun _ => ⟨by simp, fun a h => by simp at h⟩⟩
  · have hlm : len ≤ m := by rw [hmm]; split <;> omega
    obtain ⟨l, hll, hq⟩ := pick_list (Q := fun i y => ∃ cs', w.cells? base (a.add (i * P.cellsOf e)) (P.cellsOf e) = some cs' ∧ R cs' y ∧ ((∀ n ∈ (D i).weights P e, n ≤ reachBytes) → S y)) len fun i h => by
      obtain ⟨cs', h1, h2⟩ := hi i (by omega)
      obtain ⟨y, hy, hs⟩ := he _ _ _ h2
      exact ⟨y, cs', h1, hy, hs⟩
    refine ⟨l, ⟨_, rfl, some a, cap, by rw [hll], ⟨by omega, by unfold maxLen at hm; omega, fun i h => ?_⟩⟩, fun hw => ⟨?_, fun y hy => ?_⟩⟩
    · obtain ⟨cs', h1, h2, -⟩ := hq i h
      rw [hc] at h1
      obtain ⟨_, hcl, hat⟩ := World.cells?_some h1
      obtain ⟨b, off, spot⟩ := a
      have hspot : spot = none := by
        obtain ⟨cs0, g1, _⟩ := hq 0 (by omega)
        rw [hc] at g1
        obtain ⟨_, gcl, gat⟩ := World.cells?_some g1
        have g0 := gat (i := 0) (by omega)
        have g0' : w.cell? ⟨b, off, spot⟩ = some (cs0[0]'(by omega)) := by
          have : ((⟨b, off, spot⟩ : Addr).add (0 * (k + 1))).add 0 = ⟨b, off, spot⟩ := by simp [Addr.add]
          rw [this] at g0
          rw [g0]; exact List.getElem?_eq_getElem (by omega)
        exact World.cell?_spot g0'
      subst hspot
      have hadd : ∀ o j, ((⟨b, o, none⟩ : Addr).add j) = ⟨b, o + j, none⟩ := by
        intro o j; unfold Addr.add; split <;> simp_all
      refine ⟨b, off, cs', rfl, ?_, hcl, h2, fun j hj => ?_⟩
      · have := hat (i := 0) (by omega)
        rw [hadd, hadd] at this
        exact lt_of_cell (this.trans (List.getElem?_eq_getElem (by omega)))
      · have := hat (i := j) (by omega)
        rw [hadd, hadd] at this
        rw [this]
        exact List.getElem?_eq_getElem hj
    · have := hw (((List.range len).map D).length + ((List.range (m - len)).map fun j => D (len + j)).length |> (· * P.bytesOf e)) (by simp [DataW.weights, ht])
      simp only [List.length_map, List.length_range] at this
      rw [hll]
      exact Nat.le_trans (Nat.mul_le_mul_right _ (by omega)) this
    · obtain ⟨i, hil, rfl⟩ := List.mem_iff_getElem.1 hy
      obtain ⟨cs', h1, h2, h3⟩ := hq i hil
      refine h3 fun n hn => hw n ?_
      simp only [DataW.weights, ht]
      refine List.mem_cons_of_mem _ (List.mem_append_left _ (weights_all (d := D i) (List.mem_map.2 ⟨i, by simp; omega, rfl⟩) n hn))
theorem argw {α : Type} {R : List Value → α → Prop} {S : α → Prop} {r : Reach} {b0 : Nat} {t : TypeId} {fs : Array Field} {v : Value} {d : DataW H} {p : List MemPlace} (ht : P.underlying t = some (.struct fs)) (hval : Value.okWide P w r b0 t v) (hd : DataW.Trod enc P w base spare held t v d p)
    (hr : RdW enc P w base spare held t R S) : ∃ cs a, v = .agg cs ∧ R cs.toList a ∧ ((∀ n ∈ d.weights P t, n ≤ reachBytes) → S a) := by
  obtain ⟨cs, rfl, _⟩ := okWide_struct ht hval
  obtain ⟨fuel, hf⟩ := hd
  obtain ⟨a, ha, hs⟩ := hr _ _ _ hf
  exact ⟨cs, a, rfl, by simpa [Value.cells] using ha, hs⟩
end
end Go.Proofs.Ytinnohljknmolaa
namespace Go.Proofs.Ytinnohljknmolaa
open Go Go.RowKit Go.Proofs Go.ChangeShapes Go.WideShapes Go.Deep
set_option maxRecDepth 100000
/-- A slice of what reads as data reads as data. -/
theorem isSl_rep {α : Type} {enc : α → List D} {sz : Nat} {w : World} (h0 : 0 < sz) (hen : ∀ a, (enc a).length = sz ∧ ∀ d ∈ enc a, d.one = true) {v : Value} {l : List α} (h : IsSl (inW w) w sz (fun cs a => RepDs NM w (enc a) cs) v l) : RepD NM w (.sl sz (l.map enc)) v := by
  obtain ⟨ao, cap, rfl, hs⟩ := h
  cases l with
  | nil => exact .nil sz ao cap hs.cap_max
  | cons u us =>
    obtain ⟨b, off, cs, rfl, hAb, hl, hR, hcs⟩ := hs.elem 0 (by simp)
    have key : ∀ i (hi : i < (u :: us).length), ∃ cs : List Value, cs.length = sz ∧ RepDs NM w (enc (u :: us)[i]) cs ∧ cellsAt w b (off + i * sz) cs := by
      intro i hi
      obtain ⟨b', off', cs', e, -, hl', hR', hcs'⟩ := hs.elem i hi
      cases e
      exact ⟨cs', hl', hR', hcs'⟩
    have hlen : ((u :: us).map enc).length = (u :: us).length := by simp
    rw [← hlen]
    refine .sl sz ((u :: us).map enc) b off cap (fun i j => (w.cell? ⟨b, off + i * sz + j, none⟩).getD undef) (fun h => h) hAb (by rw [hlen]; exact hs.cap_le) hs.cap_max (fun r hr => ?_) (fun r hr => ?_) (fun i j hi hj => ?_) (fun i j row d hi hj => ?_)
    · obtain ⟨x, -, rfl⟩ := List.mem_map.1 hr; exact (hen x).1
    · obtain ⟨x, -, rfl⟩ := List.mem_map.1 hr; exact (hen x).2
    · obtain ⟨cs', hl', -, hcs'⟩ := key i (by simpa using hi)
      rw [hcs' j (by omega)]; rfl
    · have hi' : i < (u :: us).length := by have := (List.getElem?_eq_some_iff.1 hi).1; simpa using this
      obtain ⟨cs', hl', hR', hcs'⟩ := key i hi'
      rw [List.getElem?_map, List.getElem?_eq_getElem hi'] at hi
      simp only [Option.map_some, Option.some.injEq] at hi
      subst hi
      have hj' : j < cs'.length := by rw [← hR'.1]; exact (List.getElem?_eq_some_iff.1 hj).1
      rw [hcs' j hj']
      exact hR'.2 j d _ hj (List.getElem?_eq_getElem hj')
section
variable {H : Type} {enc : TypeId × Value → H} {w : World} {base : Nat} {spare : Nat → Bool} {held : Bool}
theorem Try.sizePfx : Try.prog.cellsOf 34 = 2 := by kernel_rfl
theorem Try.sizeInt1 : Try.prog.cellsOf 3 = 1 := by kernel_rfl
theorem Try.sizeInts : Try.prog.cellsOf 51 = 1 := by kernel_rfl
theorem Try.sizeFace : Try.prog.cellsOf 91 = 2 := by kernel_rfl
theorem Try.sizeSub : Try.prog.cellsOf 86 = 4 := by kernel_rfl
theorem Try.sizeRange : Try.prog.cellsOf 49 = 3 := by kernel_rfl
theorem Try.sizeVpc : Try.prog.cellsOf 47 = 3 := by kernel_rfl
theorem Try.sizeFaces : Try.prog.cellsOf 84 = 1 := by kernel_rfl
theorem Try.bytesFace : Try.prog.bytesOf 91 = 32 := by kernel_rfl
theorem Try.sizeSubs : Try.prog.cellsOf 45 = 1 := by kernel_rfl
theorem Try.bytesSub : Try.prog.bytesOf 86 = 48 := by kernel_rfl
theorem Try.sizeRanges : Try.prog.cellsOf 44 = 1 := by kernel_rfl
theorem rd_pfx : Rd enc Try.prog w base spare held 34 Pfx.R := by
  intro fuel cs x hx
  have hl := rd_len Try.underlying34 hx
  rw [Try.sizePfx] at hl
  obtain ⟨a, ha⟩ := rd_field Try.underlying34 hx 0 rfl (rd_int Try.underlying3)
  obtain ⟨b, hb⟩ := rd_field Try.underlying34 hx 1 rfl (rd_int Try.underlying3)
  match cs, hl with
  | [c0, c1], _ =>
    simp [Try.sizeInt1, IntR] at ha hb
    exact ⟨⟨a, b⟩, by simp [Pfx.R, ha.1, hb.1]⟩
theorem repDs_ints (l : List Int) : RepDs NM w (l.map fun n => .v (.int .i64 n)) (l.map fun n => .int .i64 n) := by
  refine ⟨by simp, fun j d x hj hx => ?_⟩
  rw [List.getElem?_map, Option.map_eq_some_iff] at hj hx
  obtain ⟨a, ha, rfl⟩ := hj
  obtain ⟨c, hc, rfl⟩ := hx
  rw [ha] at hc
  obtain rfl := Option.some.inj hc
  exact .v _
theorem repDs_appR {M : Nat → Prop} {w : World} {ds es : List D} {vs us : List Value} (h : RepDs M w ds vs) (g : RepDs M w es us) : RepDs M w (ds ++ es) (vs ++ us) := by
  refine ⟨by simp [h.1, g.1], fun j d x hj hx => ?_⟩
  rcases Nat.lt_or_ge j ds.length with hlt | hge
  · rw [List.getElem?_append_left hlt] at hj
    rw [List.getElem?_append_left (by rw [← h.1]; exact hlt)] at hx
    exact h.2 j d x hj hx
  · rw [List.getElem?_append_right hge] at hj
    rw [List.getElem?_append_right (by rw [← h.1]; exact hge), ← h.1] at hx
    exact g.2 _ d x hj hx
theorem repDs_one {M : Nat → Prop} {w : World} {d : D} {v : Value} (h : RepD M w d v) : RepDs M w [d] [v] := ⟨rfl, fun j e x hj hx => by
  match j with
  | 0 => cases hj; cases hx; exact h
  | j + 1 => simp at hj⟩
theorem rdw_ints : RdW enc Try.prog w base spare held 51 (fun cs (l : List Int) => ∃ v, cs = [v] ∧ RepD NM w (.sl 1 (l.map encA)) v) (fun _ => True) := by
  have h := rdw_slice (enc := enc) (base := base) (spare := spare) (held := held) Try.underlying51 Try.sizeInt1 (rdw_of ((rd_int (w := w) Try.underlying3).map id (R' := fun cs (a : Int) => RepDs NM w (encA a) cs) fun cs a h => by rw [h.1]; exact repDs_ints [a]))
  intro fuel cs x hx
  obtain ⟨l, ⟨v, rfl, hs⟩, hw⟩ := h fuel cs x hx
  refine ⟨l, ⟨v, rfl, isSl_rep (sz := 1) (by omega) (fun a => ⟨rfl, fun d hd => ?_⟩) hs⟩, fun _ => trivial⟩
  simp [encA] at hd
  rcases hd with rfl; rfl
theorem rdw_face : RdW enc Try.prog w base spare held 91 (fun cs (f : Fce) => RepDs NM w (encF f) cs) (fun _ => True) := by
  intro fuel cs x hx
  have hl := rd_len Try.underlying91 hx
  rw [Try.sizeFace] at hl
  obtain ⟨a, ha⟩ := rd_field Try.underlying91 hx 0 rfl (rd_int Try.underlying3)
  obtain ⟨l, hs, hw⟩ := rdw_field Try.underlying91 hx 1 rfl rdw_ints
  match cs, hl with
  | [c0, c1], _ =>
    simp [Try.sizeInt1, Try.sizeInts, IntR] at ha hs
    refine ⟨⟨a, l⟩, ?_, fun _ => trivial⟩
    rw [ha.1]
    exact repDs_appR (repDs_ints [a]) (repDs_one hs)
theorem rdw_faces : RdW enc Try.prog w base spare held 84 (fun cs (l : List Fce) => ∃ v, cs = [v] ∧ RepD NM w (.sl 2 (l.map encF)) v) (fun l => l.length * 32 ≤ reachBytes) := by
  have h := rdw_slice (enc := enc) (base := base) (spare := spare) (held := held) Try.underlying84 Try.sizeFace (rdw_face (w := w))
  intro fuel cs x hx
  obtain ⟨l, ⟨v, rfl, hs⟩, hw⟩ := h fuel cs x hx
  refine ⟨l, ⟨v, rfl, isSl_rep (sz := 2) (by omega) (fun a => ⟨rfl, fun d hd => ?_⟩) hs⟩, fun hh => by have := (hw hh).1; rwa [Try.bytesFace] at this⟩
  simp [encF] at hd
  rcases hd with rfl | rfl <;> rfl
theorem rdw_sub : RdW enc Try.prog w base spare held 86 (fun cs (s : Sbn) => RepDs NM w (encN s) cs) (fun s => s.faces.length * 32 ≤ reachBytes) := by
  intro fuel cs x hx
  have hl := rd_len Try.underlying86 hx
  rw [Try.sizeSub] at hl
  obtain ⟨a, ha⟩ := rd_field Try.underlying86 hx 0 rfl (rd_int Try.underlying3)
  obtain ⟨p, hp⟩ := rd_field Try.underlying86 hx 1 rfl rd_pfx
  obtain ⟨l, hs, hw⟩ := rdw_field Try.underlying86 hx 2 rfl rdw_faces
  match cs, hl with
  | [c0, c1, c2, c3], _ =>
    simp [Try.sizePfx, Try.sizeInt1, Try.sizeFaces, IntR, Pfx.R] at ha hp hs
    refine ⟨⟨a, p, l⟩, ?_, hw⟩
    rw [ha.1, hp.1, hp.2]
    exact repDs_appR (repDs_ints [a, p.at_, p.len]) (repDs_one hs)
theorem rdw_subs : RdW enc Try.prog w base spare held 45 (fun cs (l : List Sbn) => ∃ v, cs = [v] ∧ RepD NM w (.sl 4 (l.map encN)) v) (fun l => l.length * 48 ≤ reachBytes ∧ ∀ s ∈ l, s.faces.length * 32 ≤ reachBytes) := by
  have h := rdw_slice (enc := enc) (base := base) (spare := spare) (held := held) Try.underlying45 Try.sizeSub (rdw_sub (w := w))
  intro fuel cs x hx
  obtain ⟨l, ⟨v, rfl, hs⟩, hw⟩ := h fuel cs x hx
  refine ⟨l, ⟨v, rfl, isSl_rep (sz := 4) (by omega) (fun a => ⟨rfl, fun d hd => ?_⟩) hs⟩, fun hh => ⟨by have := (hw hh).1; rwa [Try.bytesSub] at this, (hw hh).2⟩⟩
  simp [encN] at hd
  rcases hd with rfl | rfl | rfl | rfl <;> rfl
theorem rd_rng : Rd enc Try.prog w base spare held 49 fun cs (r : Rng) => RepDs NM w (encG r) cs := by
  intro fuel cs x hx
  have hl := rd_len Try.underlying49 hx
  rw [Try.sizeRange] at hl
  obtain ⟨p, hp⟩ := rd_field Try.underlying49 hx 0 rfl rd_pfx
  obtain ⟨a, ha⟩ := rd_field Try.underlying49 hx 1 rfl (rd_int Try.underlying3)
  match cs, hl with
  | [c0, c1, c2], _ =>
    simp [Try.sizePfx, Try.sizeInt1, IntR, Pfx.R] at ha hp
    refine ⟨⟨p, a⟩, ?_⟩
    rw [ha.1, hp.1, hp.2]
    exact repDs_ints [p.at_, p.len, a]
theorem rd_rngD : RdW enc Try.prog w base spare held 49 (fun cs (r : Rng) => RepDs NM w (encG r) cs) (fun _ => True) := rdw_of rd_rng
theorem rdw_rngs : RdW enc Try.prog w base spare held 44 (fun cs (l : List Rng) => ∃ v, cs = [v] ∧ RepD NM w (.sl 3 (l.map encG)) v) (fun _ => True) := by
  have h := rdw_slice (enc := enc) (base := base) (spare := spare) (held := held) Try.underlying44 Try.sizeRange (rd_rngD (w := w))
  intro fuel cs x hx
  obtain ⟨l, ⟨v, rfl, hs⟩, hw⟩ := h fuel cs x hx
  refine ⟨l, ⟨v, rfl, isSl_rep (sz := 3) (by omega) (fun a => ⟨rfl, fun d hd => ?_⟩) hs⟩, fun _ => trivial⟩
  simp [encG] at hd
  rcases hd with rfl | rfl | rfl <;> rfl
theorem rdw_vpc : RdW enc Try.prog w base spare held 47 (fun cs (v : Vpc) => RepDs NM w (encV v) cs) (fun v => v.subs.length ≤ 9223372036854775807 ∧ ∀ s ∈ v.subs, s.faces.length ≤ 9223372036854775807) := by
  intro fuel cs x hx
  have hl := rd_len Try.underlying47 hx
  rw [Try.sizeVpc] at hl
  obtain ⟨a, ha⟩ := rd_field Try.underlying47 hx 0 rfl (rd_int Try.underlying3)
  obtain ⟨r, hr, -⟩ := rdw_field Try.underlying47 hx 1 rfl rdw_rngs
  obtain ⟨l, hs, hw⟩ := rdw_field Try.underlying47 hx 2 rfl rdw_subs
  match cs, hl with
  | [c0, c1, c2], _ =>
    simp [Try.sizeInt1, Try.sizeRanges, Try.sizeSubs, IntR] at ha hr hs
    refine ⟨⟨a, r, l⟩, ?_, fun hh => ?_⟩
    · rw [ha.1]
      exact repDs_appR (repDs_ints [a]) (repDs_appR (repDs_one hr) (repDs_one hs))
    · have := hw hh
      unfold reachBytes at this
      exact ⟨by have := this.1; show l.length ≤ 9223372036854775807; omega, fun s hs => by have := this.2 s hs; omega⟩
end
theorem repDs_n {M : Nat → Prop} {w : World} : RepDs M w [] [] := ⟨rfl, fun j d x hj _ => by simp at hj⟩
theorem repDs_c {M : Nat → Prop} {w : World} {d : D} {v : Value} {ds : List D} {vs : List Value} (h : RepD M w d v) (g : RepDs M w ds vs) : RepDs M w (d :: ds) (v :: vs) := ⟨by simp [g.1], fun j e x hj hx => by
  cases j with
  | zero => simp at hj hx; subst hj; subst hx; exact h
  | succ j => exact g.2 j e x (by simpa using hj) (by simpa using hx)⟩
theorem rep_agg {w : World} {cs : Array Value} {ds : List D} (h : RepDs NM w ds cs.toList) (h1 : ds.all D.one = true) : RepD NM w (.agg ds) (.agg cs) := by
  have := RepD.agg (M := NM) (w := w) ds cs.toList h.1 (fun d hd => List.all_eq_true.1 h1 d hd) h.2
  simpa using this
theorem law_of {P : Program} {f : Nat} {args : List D} {vs : List Value} {W : World} (hp : PSpec P f args (.v (.bool true))) (hds : RepDs NM W args vs) : Calls P f vs.toArray W fun e w' => e = .returned (.bool true) ∧ Ext W w' := by
  refine (hp.2 NM W vs (fun b h => h.elim) hds).mono ?_
  rintro e w' ⟨v, rfl, hv, hx⟩
  cases hv
  exact ⟨rfl, hx⟩
section
variable {H : Type} {enc : TypeId × Value → H} {w : World} {base : Nat} {spare : Nat → Bool} {held : Bool}
end
end Go.Proofs.Ytinnohljknmolaa
namespace Go.Proofs.Ytinnohljknmolaa
open Go Go.RowKit
section
variable {H : Type} {enc : TypeId × Value → H} {w : World} {base : Nat} {spare : Nat → Bool} {held : Bool}
theorem Try.sizeLink : Try.prog.cellsOf 56 = 2 := by kernel_rfl
theorem Try.sizeLinks : Try.prog.cellsOf 23 = 1 := by kernel_rfl
theorem Try.sizeVpcs : Try.prog.cellsOf 22 = 1 := by kernel_rfl
theorem Try.sizeNet : Try.prog.cellsOf 25 = 2 := by kernel_rfl
set_option maxRecDepth 100000 in
theorem rd_lnk : Rd enc Try.prog w base spare held 56 fun cs (l : Lnk) => RepDs NM w (encK l) cs := by
  intro fuel cs x hx
  have hl := rd_len Try.underlying56 hx
  rw [Try.sizeLink] at hl
  obtain ⟨a, ha⟩ := rd_field Try.underlying56 hx 0 rfl (rd_int Try.underlying3)
  obtain ⟨b, hb⟩ := rd_field Try.underlying56 hx 1 rfl (rd_int Try.underlying3)
  match cs, hl with
  | [c0, c1], _ =>
    simp [Try.sizeInt1, IntR] at ha hb
    refine ⟨⟨a, b⟩, ?_⟩
    rw [ha.1, hb.1]
    exact repDs_ints [a, b]
theorem rdw_lnks : RdW enc Try.prog w base spare held 23 (fun cs (l : List Lnk) => ∃ v, cs = [v] ∧ RepD NM w (.sl 2 (l.map encK)) v) (fun _ => True) := by
  have h := rdw_slice (enc := enc) (base := base) (spare := spare) (held := held) Try.underlying23 Try.sizeLink (rdw_of (rd_lnk (w := w)))
  intro fuel cs x hx
  obtain ⟨l, ⟨v, rfl, hs⟩, hw⟩ := h fuel cs x hx
  refine ⟨l, ⟨v, rfl, isSl_rep (sz := 2) (by omega) (fun a => ⟨rfl, fun d hd => ?_⟩) hs⟩, fun _ => trivial⟩
  simp [encK] at hd
  rcases hd with rfl | rfl <;> rfl
theorem rdw_vpcs : RdW enc Try.prog w base spare held 22 (fun cs (l : List Vpc) => ∃ v, cs = [v] ∧ RepD NM w (.sl 3 (l.map encV)) v) (fun l => ∀ v ∈ l, v.subs.length ≤ 9223372036854775807 ∧ ∀ s ∈ v.subs, s.faces.length ≤ 9223372036854775807) := by
  have h := rdw_slice (enc := enc) (base := base) (spare := spare) (held := held) Try.underlying22 Try.sizeVpc (rdw_vpc (w := w))
  intro fuel cs x hx
  obtain ⟨l, ⟨v, rfl, hs⟩, hw⟩ := h fuel cs x hx
  refine ⟨l, ⟨v, rfl, isSl_rep (sz := 3) (by omega) (fun a => ⟨rfl, fun d hd => ?_⟩) hs⟩, fun hh => (hw hh).2⟩
  simp [encV] at hd
  rcases hd with rfl | rfl | rfl <;> rfl
set_option maxRecDepth 100000 in
theorem rdw_net : RdW enc Try.prog w base spare held 25 (fun cs (n : Net) => RepDs NM w (encT n) cs) NetZ := by
  intro fuel cs x hx
  have hl := rd_len Try.underlying25 hx
  rw [Try.sizeNet] at hl
  obtain ⟨vs, hv, hw⟩ := rdw_field Try.underlying25 hx 0 rfl rdw_vpcs
  obtain ⟨ls, hk, -⟩ := rdw_field Try.underlying25 hx 1 rfl rdw_lnks
  match cs, hl with
  | [c0, c1], _ =>
    simp [Try.sizeVpcs, Try.sizeLinks] at hv hk
    exact ⟨⟨vs, ls⟩, repDs_appR (repDs_one hv) (repDs_one hk), hw⟩
end
end Go.Proofs.Ytinnohljknmolaa
namespace Go.Proofs.Ytinnohljknmolaa
open Go Go.RowKit Go.Proofs Go.ChangeShapes Go.WideShapes Go.ChangeAt
set_option linter.unusedVariables false
theorem routeTrue_own : ownKnob Try.prog.godebug = Option.none := by kernel_rfl
theorem routeTrue_laidOut : laidOutB Try.prog = true := by kernel_rfl
set_option maxRecDepth 100000 in
theorem routeTrue_lifted (os : Os) (started : os.Started) (H : Type) (enc : TypeId × Value → H) :
    ReturnsInHanded {} Try.checked os 5 .any (Rows.routeTrueSpec.pre6 enc Try.prog Try.f5 Rows.routeTrueRow.domain false) (Rows.routeTrueSpec.post enc Try.prog Try.f5 false true false false) := by
  refine returnsInHanded_of_change_sized (C := Try.checked) routeTrue_own started (by kernel_rfl) Try.func5
    (ChangeSpec.witness6 (enc := enc) (C := Try.checked) false ⟨#[], #[.agg #[.slice none 0 0, .slice none 0 0], .int .i64 0, .int .i64 0], []⟩ 8 (by kernel_rfl) (by kernel_rfl) (by kernel_rfl) (by kernel_rfl)) ?_
  intro W base args ds gs before hval0 hW hcnd hsz _
  have hval : ∀ (j : Nat) t v, Try.f5.params[j]? = some t → args[j]? = some v → Value.okWide Try.prog W .any base t v := hval0
  have hW' := hW
  obtain ⟨p, q, hA0, hV, rfl, hfz, hnd⟩ := hW
  have hA : DataW.TrodAll enc Try.prog W 0 (fun _ => true) true Try.f5.params.toList args.toList ds p := hA0
  rw [Try.params5] at hA hval
  obtain ⟨v0, vs0, d0, ds0, p0, q0, hargs, rfl, rfl, h0, r0⟩ := trodAll_cons hA
  obtain ⟨v1, vs1, d1, ds1, p1, q1, rfl, rfl, rfl, h1, r1⟩ := trodAll_cons r0
  obtain ⟨v2, vs2, d2, ds2, p2, q2, rfl, rfl, rfl, h2, r2⟩ := trodAll_cons r1
  obtain ⟨rfl, rfl, rfl⟩ := trodAll_nil r2
  obtain rfl : args = #[v0, v1, v2] := by cases args; simp_all
  obtain ⟨rfl, rfl⟩ := trodVars_none hV
  obtain ⟨cs0, a0, rfl, w0, s0⟩ := argw Try.underlying25 (hval 0 25 v0 rfl rfl) h0 rdw_net
  obtain ⟨a1, rfl, w1⟩ := arg_int Try.underlying3 (hval 1 3 v1 rfl rfl) h1
  obtain ⟨a2, rfl, w2⟩ := arg_int Try.underlying3 (hval 2 3 v2 rfl rfl) h2
  clear hA0 hval0
  refine (law_of (routeTrue_p a0 a1 a2 w2.1 w2.2) (vs := [.agg cs0, .int .i64 a1, .int .i64 a2]) (repDs_c (rep_agg w0 rfl) (repDs_c (.v (.int .i64 a1)) (repDs_c (.v (.int .i64 a2)) repDs_n)))).mono fun e W' ⟨he, bel⟩ => ?_
  subst he
  exact ⟨_, rfl, _, _, _, [], _, [], hW', trodAll_mk1 (shut_bool Try.underlying4 _), (trodAll_cons_mk (Below.trod routeTrue_laidOut (by kernel_rfl) (of_decide_eq_true (by kernel_rfl)) h0 bel (trod_lts h0)) (trodAll_cons_mk (Below.trod routeTrue_laidOut (by kernel_rfl) (of_decide_eq_true (by kernel_rfl)) h1 bel (trod_lts h1)) (trodAll_cons_mk (Below.trod routeTrue_laidOut (by kernel_rfl) (of_decide_eq_true (by kernel_rfl)) h2 bel (trod_lts h2)) trodAll_mk0))), rfl, bel.frame _, fun h => by cases h⟩
theorem routeTrue_over : Rows.routeTrueRow.holds Try.pinned (OpenSpec.ofChange Rows.routeTrueSpec) :=
  OpenClaim.holds_of_wide 5 Try.f5 rfl rfl rfl rfl rfl rfl rfl ⟨rfl, rfl, rfl, rfl, rfl⟩ rfl rfl rfl rfl rfl (by kernel_rfl) Try.func5 (by kernel_rfl)
    (of_decide_eq_true (by kernel_rfl)) (by unfold Func.isWrapper; first | (rw [if_pos (by decide +kernel)]; kernel_rfl) | (rw [if_neg (by decide +kernel)]; exact ⟨rfl, rfl⟩))
    (fun os started H enc _ => routeTrue_lifted os started H enc)
theorem routeTrue_holds : Rows.RouteTrueSaid := routeTrue_over
#print axioms routeTrue_holds
end Go.Proofs.Ytinnohljknmolaa
